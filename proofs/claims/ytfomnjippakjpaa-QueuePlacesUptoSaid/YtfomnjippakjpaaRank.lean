import Derived.Test.YtfomnjippakjpaaCopied
import Derived.Test.YtfomnjippakjpaaRows
namespace Go.Proofs.Ytfomnjippakjpaa
open Go.S

/-- An empty copy of a rank. -/
def zcd (p : Int) : CD := ⟨0, 0, 0, 0, ⟨#[]⟩, ⟨#[]⟩, 0, ⟨#[]⟩, ⟨#[]⟩, 0, 0, ⟨#[]⟩, ⟨#[]⟩, ⟨#[]⟩, ⟨#[]⟩, 0, ⟨#[]⟩, ⟨#[]⟩, ⟨#[]⟩, -1, p, false, false, [], []⟩
def zmsg (p : Int) : List Value := [.string ⟨#[]⟩, .string ⟨#[]⟩, .int .i64 0, .string ⟨#[]⟩, .string ⟨#[]⟩, .slice none 0 0, .int .i64 0, .int .i64 0, .string ⟨#[]⟩, .string ⟨#[]⟩, .string ⟨#[]⟩, .string ⟨#[]⟩, .int .i64 0, .string ⟨#[]⟩, .string ⟨#[]⟩, .string ⟨#[]⟩, .int .i64 (-1), .int .i64 p, .slice none 0 0, .bool false]
theorem built33r (p : Int) : Try.prog.built 33 [(4, .int .i64 p), (3, .int .i64 (-1))] = some (zmsg p).toArray := by kernel_rfl
theorem built35r (p : Int) : Try.prog.built 35 [(4, .agg (zmsg p).toArray)] = some ((zcd p).cells (.slice none 0 0) (.slice none 0 0)).toArray := by kernel_rfl
set_option maxRecDepth 100000 in
theorem rank18 (H : Heap) (p : Int) : FN Try.prog 18 [.int .i64 p] H (fun r H' => r = .agg ((zcd p).cells (.slice none 0 0) (.slice none 0 0)).toArray ∧ Ext H H') := by
  refine fn_intro 6 Try.func18 rfl Try.ntmps18 rfl ?_
  refine wc_seq ?_
  refine wc_plain ?_
  refine wf_alloc Try.zeroValue35 rfl rfl rfl (fun b2 H1 e2 z1 hb2 hk1 => ⟨trivial, ?_⟩)
  refine wf_nil ?_
  refine at_thn ?_
  refine wc_seq ?_
  refine wc_plain ?_
  refine wf_rd _ rfl rfl (RD.move rfl) rfl ?_
  refine wf_rd _ rfl rfl (RD.build rfl (built33r p)) rfl ?_
  refine wf_rd _ rfl rfl (RD.build rfl (built35r p)) rfl ?_
  refine wf_storeA rfl rfl Try.sizeOf35 rfl hb2 ((zcd p).one (h := .slice none 0 0) (t := .slice none 0 0) rfl rfl) rfl (fun H2 z2 hx2 hk2 => ⟨trivial, ?_⟩)
  replace hb2 := hx2
  refine wf_nil ?_
  refine at_thn ?_
  refine wc_ret ?_
  refine at_ret1 rfl ⟨_, rfl, (LD.all Try.isAgg35 Try.sizeOf35 hb2 rfl)⟩ ?_
  exact ⟨rfl, (Ext.new z1 hk1).wrote z2 hk2 (by omega)⟩
theorem rank_rc (f : Nat) (H : Heap) (Z : Nat → Prop) (p : Int) : RC f H Z ((zcd p).cells (.slice none 0 0) (.slice none 0 0)) (zcd p) :=
  ⟨_, _, rfl, .inl ⟨.inl rfl, rfl⟩, .inl ⟨.inl rfl, rfl⟩, Nat.zero_le _, Nat.zero_le _⟩
end Go.Proofs.Ytfomnjippakjpaa
