import Derived.Test.YtfomnjippakjpaaSame
import Derived.Test.YtfomnjippakjpaaRows
namespace Go.Proofs.Ytfomnjippakjpaa
open Go.S

theorem built151 (a0 a1 a5 a6 a7 a8 aa ab ac : ByteArray) : Try.prog.built 151 [(0, .string a0), (1, .string a1), (2, .string ⟨#[]⟩), (3, .string ⟨#[]⟩), (4, .string ⟨#[]⟩), (5, .string a5), (6, .string a6), (7, .string a7), (8, .string a8), (9, .string ⟨#[]⟩), (10, .string aa), (11, .string ab), (12, .string ac)] =
    some [.string a0, .string a1, .string ⟨#[]⟩, .string ⟨#[]⟩, .string ⟨#[]⟩, .string a5, .string a6, .string a7, .string a8, .string ⟨#[]⟩, .string aa, .string ab, .string ac].toArray := by kernel_rfl
/-- The texts of properties, by their places. -/
def txts (c : CD) : List ByteArray := [c.ct, c.ce, ⟨#[]⟩, ⟨#[]⟩, ⟨#[]⟩, c.corr, c.reply, c.expn, c.mid, ⟨#[]⟩, c.typ, c.user, c.app]
def tcells (c : CD) : List Value := [.string c.ct, .string c.ce, .string ⟨#[]⟩, .string ⟨#[]⟩, .string ⟨#[]⟩, .string c.corr, .string c.reply, .string c.expn, .string c.mid, .string ⟨#[]⟩, .string c.typ, .string c.user, .string c.app]
theorem tcells_eq (c : CD) : (tcells c) = (txts c).map Value.string := rfl
set_option maxRecDepth 100000 in
theorem text86 (H : Heap) (c : CD) (h : Value) (at_ : Nat) (s : ByteArray) (hs : (txts c)[at_]? = some s) :
    FN Try.prog 86 [.agg (c.props h).toArray, .int .i64 at_] H (fun r H' => ∃ b, r = .tuple [.string s, .bool b].toArray ∧ Ext H H') := by
  have hat : at_ < 13 := (List.getElem?_eq_some_iff.1 hs).1
  have htx : (tcells c)[0 + at_ * 1]? = some (.string s) := by rw [Nat.zero_add, Nat.mul_one, tcells_eq, List.getElem?_map, hs]; rfl
  refine fn_intro 43 Try.func86 rfl Try.ntmps86 rfl ?_
  refine wc_seq ?_
  refine wc_plain ?_
  refine wf_box rfl rfl rfl rfl (fun b2 H1 e2 z1 hb2 hk1 => ⟨trivial, ?_⟩)
  refine wf_rd _ rfl rfl (RD.assign rfl) rfl ?_
  refine wf_rd _ rfl rfl (RD.assign rfl) rfl ?_
  refine wf_nil ?_
  refine at_thn ?_
  refine wc_seq ?_
  refine wc_plain ?_
  refine wf_rd _ rfl rfl (RD.field rfl Try.underlying30 rfl Try.sizeOf9) rfl ?_
  refine wf_rd _ rfl rfl (RD.load rfl (LD.one Try.isAgg9 hb2 rfl)) rfl ?_
  refine wf_rd _ rfl rfl (RD.field rfl Try.underlying30 rfl Try.sizeOf9) rfl ?_
  refine wf_rd _ rfl rfl (RD.load rfl (LD.one Try.isAgg9 hb2 rfl)) rfl ?_
  refine wf_rd _ rfl rfl (RD.field rfl Try.underlying30 rfl Try.sizeOf9) rfl ?_
  refine wf_rd _ rfl rfl (RD.load rfl (LD.one Try.isAgg9 hb2 rfl)) rfl ?_
  refine wf_rd _ rfl rfl (RD.field rfl Try.underlying30 rfl Try.sizeOf9) rfl ?_
  refine wf_rd _ rfl rfl (RD.load rfl (LD.one Try.isAgg9 hb2 rfl)) rfl ?_
  refine wf_rd _ rfl rfl (RD.field rfl Try.underlying30 rfl Try.sizeOf9) rfl ?_
  refine wf_rd _ rfl rfl (RD.load rfl (LD.one Try.isAgg9 hb2 rfl)) rfl ?_
  refine wf_rd _ rfl rfl (RD.field rfl Try.underlying30 rfl Try.sizeOf9) rfl ?_
  refine wf_rd _ rfl rfl (RD.load rfl (LD.one Try.isAgg9 hb2 rfl)) rfl ?_
  refine wf_rd _ rfl rfl (RD.field rfl Try.underlying30 rfl Try.sizeOf9) rfl ?_
  refine wf_rd _ rfl rfl (RD.load rfl (LD.one Try.isAgg9 hb2 rfl)) rfl ?_
  refine wf_rd _ rfl rfl (RD.field rfl Try.underlying30 rfl Try.sizeOf9) rfl ?_
  refine wf_rd _ rfl rfl (RD.load rfl (LD.one Try.isAgg9 hb2 rfl)) rfl ?_
  refine wf_rd _ rfl rfl (RD.field rfl Try.underlying30 rfl Try.sizeOf9) rfl ?_
  refine wf_rd _ rfl rfl (RD.load rfl (LD.one Try.isAgg9 hb2 rfl)) rfl ?_
  refine wf_rd _ rfl rfl (RD.build rfl (built151 _ _ _ _ _ _ _ _ _)) rfl ?_
  refine wf_alloc Try.zeroValue151 rfl rfl rfl (fun b6 H2 e6 z2 hb6 hk2 => ⟨trivial, ?_⟩)
  have n6_hb2 := ne_new hb2 e6
  replace hb2 := (hk2 _ (lt_of hb2)).trans hb2
  refine wf_storeA rfl rfl Try.sizeOf151 rfl hb6 (by simp [Value.oneCell']) rfl (fun H3 z3 hx3 hk3 => ⟨trivial, ?_⟩)
  replace hb2 := (hk3 _ (by first | assumption | exact Ne.symm (by assumption) | omega)).trans hb2
  replace hb6 := hx3
  refine wf_nil ?_
  refine at_thn ?_
  refine wc_seq ?_
  rcases (show at_ = 2 ∨ at_ = 3 ∨ at_ = 4 ∨ at_ = 9 ∨ (at_ ≠ 2 ∧ at_ ≠ 3 ∧ at_ ≠ 4 ∧ at_ ≠ 9) by omega) with e | e | e | e | e
  ·
    refine wc_plain ?_
    refine wf_rd _ rfl rfl (RD.move rfl) rfl ?_
    refine wf_rd _ rfl rfl (RD.indexArr rfl rfl Try.underlying151 Try.sizeOf9 (by omega)) rfl ?_
    refine wf_rd _ rfl rfl (RD.load rfl (LD.one Try.isAgg9 hb6 htx)) rfl ?_
    refine wf_rd _ rfl rfl (RD.move rfl) rfl ?_
    refine wf_rd _ rfl rfl (RD.cmp false rfl rfl (congrArg some (bne_eq_false_iff_eq.2 (by omega)))) rfl ?_
    refine wf_rd _ rfl rfl (RD.move rfl) rfl ?_
    refine wf_not rfl rfl rfl ?_
    refine wf_not rfl rfl rfl ?_
    refine wf_rd _ rfl rfl (RD.pickF rfl rfl) rfl ?_
    refine wf_rd _ rfl rfl (RD.move rfl) rfl ?_
    refine wf_not rfl rfl rfl ?_
    refine wf_not rfl rfl rfl ?_
    refine wf_rd _ rfl rfl (RD.pickF rfl rfl) rfl ?_
    refine wf_rd _ rfl rfl (RD.move rfl) rfl ?_
    refine wf_not rfl rfl rfl ?_
    refine wf_not rfl rfl rfl ?_
    refine wf_rd _ rfl rfl (RD.pickF rfl rfl) rfl ?_
    refine wf_rd _ rfl rfl (RD.assign rfl) rfl ?_
    refine wf_rd _ rfl rfl (RD.assign rfl) rfl ?_
    refine wf_nil ?_
    refine at_thn ?_
    refine wc_ret ?_
    refine at_ret2 rfl rfl rfl ?_
    exact ⟨_, rfl, ((Ext.new z1 hk1).trans (Ext.new z2 hk2)).wrote z3 hk3 (by omega)⟩
  ·
    refine wc_plain ?_
    refine wf_rd _ rfl rfl (RD.move rfl) rfl ?_
    refine wf_rd _ rfl rfl (RD.indexArr rfl rfl Try.underlying151 Try.sizeOf9 (by omega)) rfl ?_
    refine wf_rd _ rfl rfl (RD.load rfl (LD.one Try.isAgg9 hb6 htx)) rfl ?_
    refine wf_rd _ rfl rfl (RD.move rfl) rfl ?_
    refine wf_rd _ rfl rfl (RD.cmp true rfl rfl (congrArg some (bne_iff_ne.2 (by omega)))) rfl ?_
    refine wf_rd _ rfl rfl (RD.move rfl) rfl ?_
    refine wf_rd _ rfl rfl (RD.move rfl) rfl ?_
    refine wf_rd _ rfl rfl (RD.cmp false rfl rfl (congrArg some (bne_eq_false_iff_eq.2 (by omega)))) rfl ?_
    refine wf_rd _ rfl rfl (RD.pickT rfl rfl) rfl ?_
    refine wf_rd _ rfl rfl (RD.move rfl) rfl ?_
    refine wf_not rfl rfl rfl ?_
    refine wf_not rfl rfl rfl ?_
    refine wf_rd _ rfl rfl (RD.pickF rfl rfl) rfl ?_
    refine wf_rd _ rfl rfl (RD.move rfl) rfl ?_
    refine wf_not rfl rfl rfl ?_
    refine wf_not rfl rfl rfl ?_
    refine wf_rd _ rfl rfl (RD.pickF rfl rfl) rfl ?_
    refine wf_rd _ rfl rfl (RD.assign rfl) rfl ?_
    refine wf_rd _ rfl rfl (RD.assign rfl) rfl ?_
    refine wf_nil ?_
    refine at_thn ?_
    refine wc_ret ?_
    refine at_ret2 rfl rfl rfl ?_
    exact ⟨_, rfl, ((Ext.new z1 hk1).trans (Ext.new z2 hk2)).wrote z3 hk3 (by omega)⟩
  ·
    refine wc_plain ?_
    refine wf_rd _ rfl rfl (RD.move rfl) rfl ?_
    refine wf_rd _ rfl rfl (RD.indexArr rfl rfl Try.underlying151 Try.sizeOf9 (by omega)) rfl ?_
    refine wf_rd _ rfl rfl (RD.load rfl (LD.one Try.isAgg9 hb6 htx)) rfl ?_
    refine wf_rd _ rfl rfl (RD.move rfl) rfl ?_
    refine wf_rd _ rfl rfl (RD.cmp true rfl rfl (congrArg some (bne_iff_ne.2 (by omega)))) rfl ?_
    refine wf_rd _ rfl rfl (RD.move rfl) rfl ?_
    refine wf_rd _ rfl rfl (RD.move rfl) rfl ?_
    refine wf_rd _ rfl rfl (RD.cmp true rfl rfl (congrArg some (bne_iff_ne.2 (by omega)))) rfl ?_
    refine wf_rd _ rfl rfl (RD.pickT rfl rfl) rfl ?_
    refine wf_rd _ rfl rfl (RD.move rfl) rfl ?_
    refine wf_rd _ rfl rfl (RD.move rfl) rfl ?_
    refine wf_rd _ rfl rfl (RD.cmp false rfl rfl (congrArg some (bne_eq_false_iff_eq.2 (by omega)))) rfl ?_
    refine wf_rd _ rfl rfl (RD.pickT rfl rfl) rfl ?_
    refine wf_rd _ rfl rfl (RD.move rfl) rfl ?_
    refine wf_not rfl rfl rfl ?_
    refine wf_not rfl rfl rfl ?_
    refine wf_rd _ rfl rfl (RD.pickF rfl rfl) rfl ?_
    refine wf_rd _ rfl rfl (RD.assign rfl) rfl ?_
    refine wf_rd _ rfl rfl (RD.assign rfl) rfl ?_
    refine wf_nil ?_
    refine at_thn ?_
    refine wc_ret ?_
    refine at_ret2 rfl rfl rfl ?_
    exact ⟨_, rfl, ((Ext.new z1 hk1).trans (Ext.new z2 hk2)).wrote z3 hk3 (by omega)⟩
  ·
    refine wc_plain ?_
    refine wf_rd _ rfl rfl (RD.move rfl) rfl ?_
    refine wf_rd _ rfl rfl (RD.indexArr rfl rfl Try.underlying151 Try.sizeOf9 (by omega)) rfl ?_
    refine wf_rd _ rfl rfl (RD.load rfl (LD.one Try.isAgg9 hb6 htx)) rfl ?_
    refine wf_rd _ rfl rfl (RD.move rfl) rfl ?_
    refine wf_rd _ rfl rfl (RD.cmp true rfl rfl (congrArg some (bne_iff_ne.2 (by omega)))) rfl ?_
    refine wf_rd _ rfl rfl (RD.move rfl) rfl ?_
    refine wf_rd _ rfl rfl (RD.move rfl) rfl ?_
    refine wf_rd _ rfl rfl (RD.cmp true rfl rfl (congrArg some (bne_iff_ne.2 (by omega)))) rfl ?_
    refine wf_rd _ rfl rfl (RD.pickT rfl rfl) rfl ?_
    refine wf_rd _ rfl rfl (RD.move rfl) rfl ?_
    refine wf_rd _ rfl rfl (RD.move rfl) rfl ?_
    refine wf_rd _ rfl rfl (RD.cmp true rfl rfl (congrArg some (bne_iff_ne.2 (by omega)))) rfl ?_
    refine wf_rd _ rfl rfl (RD.pickT rfl rfl) rfl ?_
    refine wf_rd _ rfl rfl (RD.move rfl) rfl ?_
    refine wf_rd _ rfl rfl (RD.move rfl) rfl ?_
    refine wf_rd _ rfl rfl (RD.cmp false rfl rfl (congrArg some (bne_eq_false_iff_eq.2 (by omega)))) rfl ?_
    refine wf_rd _ rfl rfl (RD.pickT rfl rfl) rfl ?_
    refine wf_rd _ rfl rfl (RD.assign rfl) rfl ?_
    refine wf_rd _ rfl rfl (RD.assign rfl) rfl ?_
    refine wf_nil ?_
    refine at_thn ?_
    refine wc_ret ?_
    refine at_ret2 rfl rfl rfl ?_
    exact ⟨_, rfl, ((Ext.new z1 hk1).trans (Ext.new z2 hk2)).wrote z3 hk3 (by omega)⟩
  ·
    refine wc_plain ?_
    refine wf_rd _ rfl rfl (RD.move rfl) rfl ?_
    refine wf_rd _ rfl rfl (RD.indexArr rfl rfl Try.underlying151 Try.sizeOf9 (by omega)) rfl ?_
    refine wf_rd _ rfl rfl (RD.load rfl (LD.one Try.isAgg9 hb6 htx)) rfl ?_
    refine wf_rd _ rfl rfl (RD.move rfl) rfl ?_
    refine wf_rd _ rfl rfl (RD.cmp true rfl rfl (congrArg some (bne_iff_ne.2 (by omega)))) rfl ?_
    refine wf_rd _ rfl rfl (RD.move rfl) rfl ?_
    refine wf_rd _ rfl rfl (RD.move rfl) rfl ?_
    refine wf_rd _ rfl rfl (RD.cmp true rfl rfl (congrArg some (bne_iff_ne.2 (by omega)))) rfl ?_
    refine wf_rd _ rfl rfl (RD.pickT rfl rfl) rfl ?_
    refine wf_rd _ rfl rfl (RD.move rfl) rfl ?_
    refine wf_rd _ rfl rfl (RD.move rfl) rfl ?_
    refine wf_rd _ rfl rfl (RD.cmp true rfl rfl (congrArg some (bne_iff_ne.2 (by omega)))) rfl ?_
    refine wf_rd _ rfl rfl (RD.pickT rfl rfl) rfl ?_
    refine wf_rd _ rfl rfl (RD.move rfl) rfl ?_
    refine wf_rd _ rfl rfl (RD.move rfl) rfl ?_
    refine wf_rd _ rfl rfl (RD.cmp true rfl rfl (congrArg some (bne_iff_ne.2 (by omega)))) rfl ?_
    refine wf_rd _ rfl rfl (RD.pickT rfl rfl) rfl ?_
    refine wf_rd _ rfl rfl (RD.assign rfl) rfl ?_
    refine wf_rd _ rfl rfl (RD.assign rfl) rfl ?_
    refine wf_nil ?_
    refine at_thn ?_
    refine wc_ret ?_
    refine at_ret2 rfl rfl rfl ?_
    exact ⟨_, rfl, ((Ext.new z1 hk1).trans (Ext.new z2 hk2)).wrote z3 hk3 (by omega)⟩
set_option maxRecDepth 100000 in
theorem same62 (f : Nat) (H : Heap) (Z Z' : Nat → Prop) (c : CD) (h h' : Value) (hh : RT f H Z h c.hdr) (hh' : RT f H Z' h' c.hdr) (hz : ∀ b, Z b → b < H.size) (hz' : ∀ b, Z' b → b < H.size) (hl : c.hdr.length ≤ lim) :
    FN Try.prog 62 [.agg (c.props h).toArray, .agg (c.props h').toArray] H (fun r H' => r = .bool true ∧ Ext H H') := by
  refine fn_intro 62 Try.func62 rfl Try.ntmps62 rfl ?_
  refine wc_seq ?_
  refine wc_plain ?_
  refine wf_box rfl rfl rfl rfl (fun b2 H1 e2 z1 hb2 hk1 => ⟨trivial, ?_⟩)
  refine wf_box rfl rfl rfl rfl (fun b3 H2 e3 z2 hb3 hk2 => ⟨trivial, ?_⟩)
  have n3_hb2 := ne_new hb2 e3
  replace hb2 := (hk2 _ (lt_of hb2)).trans hb2
  have hx2 : Ext H H2 := (Ext.new z1 hk1).trans (Ext.new z2 hk2)
  have hb20 := hb2
  have hb30 := hb3
  refine wf_rd _ rfl rfl (RD.assign rfl) rfl ?_
  refine wf_nil ?_
  refine at_thn ?_
  refine wc_seq ?_
  refine wc_seq ?_
  refine wc_plain ?_
  refine wf_rd _ rfl rfl (RD.assign rfl) rfl ?_
  refine wf_nil ?_
  refine at_thn ?_
  refine wc_block ?_
  refine wc_loop (fun i : Nat => [(2, .pointer (some ⟨b2, 0, none⟩)), (3, .pointer (some ⟨b3, 0, none⟩)), (4, .bool false), (5, .int .i64 (i : Int))]) (fun i H1 => i ≤ 13 ∧ Ext H2 H1) (fun i => 13 - i) 0 ⟨rfl, rfl, rfl, rfl, trivial⟩ ⟨Nat.zero_le _, Ext.refl _⟩ ?_
  rintro j H3 ⟨hj, hx⟩
  show WC _ _ _ _ [(2, .pointer (some ⟨b2, 0, none⟩)), (3, .pointer (some ⟨b3, 0, none⟩)), (4, .bool false), (5, .int .i64 (j : Int))] H3
  have hb2 := hx.keep hb20
  have hb3 := hx.keep hb30
  refine wc_seq ?_
  refine wc_seq ?_
  refine wc_plain ?_
  refine wf_rd _ rfl rfl (RD.move rfl) rfl ?_
  refine wf_rd _ rfl rfl (RD.cmp _ rfl rfl rfl) rfl ?_
  refine wf_nil ?_
  refine at_thn ?_
  refine wc_cond rfl (fun hc11 => ?_) (fun hc11 => ?_)
  ·
    have hlt : j < 13 := by
      have h9 : (j : Int) < 13 := by simpa using hc11
      omega
    obtain ⟨s, hs⟩ : ∃ s, (txts c)[j]? = some s := ⟨_, List.getElem?_eq_getElem hlt⟩
    refine wc_skip ?_
    refine at_thn ?_
    refine wc_seq ?_
    refine wc_block ?_
    refine wc_seq ?_
    refine wc_plain ?_
    refine wf_rd _ rfl rfl (RD.load rfl (LD.all Try.isAgg30 Try.sizeOf30 hb2 rfl)) rfl ?_
    refine wf_rd _ rfl rfl (RD.move rfl) rfl ?_
    refine wf_call rfl en86 rfl rfl (text86 H3 c h j s hs) ?_
    rintro _ H5 ⟨t5, rfl, hx5⟩
    refine ⟨trivial, ?_⟩
    replace hb2 := hx5.keep hb2
    replace hb3 := hx5.keep hb3
    refine wf_rd _ rfl rfl (RD.move rfl) rfl ?_
    refine wf_rd _ rfl rfl (RD.extract rfl rfl) rfl ?_
    refine wf_rd _ rfl rfl (RD.extract rfl rfl) rfl ?_
    refine wf_rd _ rfl rfl (RD.assign rfl) rfl ?_
    refine wf_rd _ rfl rfl (RD.assign rfl) rfl ?_
    refine wf_nil ?_
    refine at_thn ?_
    refine wc_seq ?_
    refine wc_plain ?_
    refine wf_rd _ rfl rfl (RD.load rfl (LD.all Try.isAgg30 Try.sizeOf30 hb3 rfl)) rfl ?_
    refine wf_rd _ rfl rfl (RD.move rfl) rfl ?_
    refine wf_call rfl en86 rfl rfl (text86 H5 c h' j s hs) ?_
    rintro _ H6 ⟨t6, rfl, hx6⟩
    refine ⟨trivial, ?_⟩
    refine wf_rd _ rfl rfl (RD.move rfl) rfl ?_
    refine wf_rd _ rfl rfl (RD.extract rfl rfl) rfl ?_
    refine wf_rd _ rfl rfl (RD.extract rfl rfl) rfl ?_
    refine wf_rd _ rfl rfl (RD.assign rfl) rfl ?_
    refine wf_rd _ rfl rfl (RD.assign rfl) rfl ?_
    refine wf_nil ?_
    refine at_thn ?_
    refine wc_seq ?_
    refine wc_plain ?_
    refine wf_rd _ rfl rfl (RD.move rfl) rfl ?_
    refine wf_rd _ rfl rfl (RD.move rfl) rfl ?_
    refine wf_rd _ rfl rfl (RD.sneF rfl rfl) rfl ?_
    refine wf_nil ?_
    refine at_thn ?_
    refine wc_no rfl ?_
    refine wc_skip ?_
    refine at_inB ?_
    refine at_thn ?_
    refine wc_plain ?_
    refine wf_rd _ rfl rfl (RD.move rfl) rfl ?_
    refine wf_rd _ rfl rfl (RD.add64 rfl rfl (by omega)) rfl ?_
    refine wf_rd _ rfl rfl (RD.assign rfl) rfl ?_
    refine wf_nil ?_
    refine at_lp (j + 1) (by show 13 - (j + 1) < 13 - j; omega) ⟨rfl, rfl, rfl, rfl, trivial⟩ ⟨by omega, (hx.trans hx5).trans hx6⟩
  ·
    refine wc_exit ?_
    refine at_thn_exit ?_
    refine at_lp_exit ?_
    refine at_inB_out ?_
    refine at_thn ?_
    refine wc_seq ?_
    refine wc_plain ?_
    refine wf_rd _ rfl rfl (RD.field rfl Try.underlying30 rfl Try.sizeOf3) rfl ?_
    refine wf_rd _ rfl rfl (RD.load rfl (LD.one Try.isAgg3 hb2 rfl)) rfl ?_
    refine wf_rd _ rfl rfl (RD.field rfl Try.underlying30 rfl Try.sizeOf3) rfl ?_
    refine wf_rd _ rfl rfl (RD.load rfl (LD.one Try.isAgg3 hb3 rfl)) rfl ?_
    refine wf_rd _ rfl rfl (RD.eqT rfl rfl) rfl ?_
    refine wf_rd _ rfl rfl (RD.move rfl) rfl ?_
    refine wf_rd _ rfl rfl (RD.field rfl Try.underlying30 rfl Try.sizeOf28) rfl ?_
    refine wf_rd _ rfl rfl (RD.load rfl (LD.one Try.isAgg28 hb2 rfl)) rfl ?_
    refine wf_rd _ rfl rfl (RD.field rfl Try.underlying30 rfl Try.sizeOf28) rfl ?_
    refine wf_rd _ rfl rfl (RD.load rfl (LD.one Try.isAgg28 hb3 rfl)) rfl ?_
    refine wf_call rfl en87 rfl rfl (same87 f (same97 f) H3 Z Z' _ _ c.hdr (RT.mono hh (fun b hb => (hx2.trans hx).old b (hz b hb)) (fun _ h => h)) (RT.mono hh' (fun b hb => (hx2.trans hx).old b (hz' b hb)) (fun _ h => h)) (fun b hb => Nat.lt_of_lt_of_le (hz b hb) (hx2.trans hx).size) (fun b hb => Nat.lt_of_lt_of_le (hz' b hb) (hx2.trans hx).size) hl) ?_
    rintro _ H6 ⟨rfl, hx6⟩
    refine ⟨trivial, ?_⟩
    replace hb2 := hx6.keep hb2
    replace hb3 := hx6.keep hb3
    refine wf_rd _ rfl rfl (RD.pickT rfl rfl) rfl ?_
    refine wf_rd _ rfl rfl (RD.move rfl) rfl ?_
    refine wf_rd _ rfl rfl (RD.field rfl Try.underlying30 rfl Try.sizeOf3) rfl ?_
    refine wf_rd _ rfl rfl (RD.load rfl (LD.one Try.isAgg3 hb2 rfl)) rfl ?_
    refine wf_rd _ rfl rfl (RD.field rfl Try.underlying30 rfl Try.sizeOf3) rfl ?_
    refine wf_rd _ rfl rfl (RD.load rfl (LD.one Try.isAgg3 hb3 rfl)) rfl ?_
    refine wf_rd _ rfl rfl (RD.eqT rfl rfl) rfl ?_
    refine wf_rd _ rfl rfl (RD.pickT rfl rfl) rfl ?_
    refine wf_rd _ rfl rfl (RD.move rfl) rfl ?_
    refine wf_rd _ rfl rfl (RD.field rfl Try.underlying30 rfl Try.sizeOf3) rfl ?_
    refine wf_rd _ rfl rfl (RD.load rfl (LD.one Try.isAgg3 hb2 rfl)) rfl ?_
    refine wf_rd _ rfl rfl (RD.field rfl Try.underlying30 rfl Try.sizeOf3) rfl ?_
    refine wf_rd _ rfl rfl (RD.load rfl (LD.one Try.isAgg3 hb3 rfl)) rfl ?_
    refine wf_rd _ rfl rfl (RD.eqT rfl rfl) rfl ?_
    refine wf_rd _ rfl rfl (RD.pickT rfl rfl) rfl ?_
    refine wf_rd _ rfl rfl (RD.move rfl) rfl ?_
    refine wf_rd _ rfl rfl (RD.field rfl Try.underlying30 rfl Try.sizeOf2) rfl ?_
    refine wf_rd _ rfl rfl (RD.load rfl (LD.one Try.isAgg2 hb2 rfl)) rfl ?_
    refine wf_rd _ rfl rfl (RD.field rfl Try.underlying30 rfl Try.sizeOf2) rfl ?_
    refine wf_rd _ rfl rfl (RD.load rfl (LD.one Try.isAgg2 hb3 rfl)) rfl ?_
    refine wf_rd _ rfl rfl (RD.eqT rfl rfl) rfl ?_
    refine wf_rd _ rfl rfl (RD.pickT rfl rfl) rfl ?_
    refine wf_rd _ rfl rfl (RD.assign rfl) rfl ?_
    refine wf_nil ?_
    refine at_thn ?_
    refine wc_ret ?_
    refine at_ret1 rfl rfl ?_
    exact ⟨rfl, (hx2.trans hx).trans hx6⟩
theorem bneF {P : Program} {n : Nat} {env : Env} {H : Heap} {d : Option Nat} {ty : TypeId} {g : Option (Option Nat × Bool)} {xt yt : TypeId} {x y : Operand} {p : Bool} (hx : opnd env x = some (.bool p)) (hy : opnd env y = some (.bool p)) (hu : P.underlying xt = some .bool) : RD P ⟨d, .binOp .neq xt x y yt, ty, g⟩ n env H (.bool false) := by
  have := RD.bne (P := P) (n := n) (H := H) (d := d) (ty := ty) (g := g) (xt := xt) (yt := yt) hx hy hu
  simpa using this
def msg (c : CD) (h t : Value) : List Value := .string c.exch :: .string c.key :: (c.props h ++ [.int .i64 c.expiry, .int .i64 c.prio, t, .bool c.durable])
set_option maxRecDepth 100000 in
theorem same50 (f : Nat) (H : Heap) (Z Z' : Nat → Prop) (c : CD) (h h' t t' : Value) (hh : RT f H Z h c.hdr) (hh' : RT f H Z' h' c.hdr) (ht : RStr H Z t c.trail) (ht' : RStr H Z' t' c.trail) (hz : ∀ b, Z b → b < H.size) (hz' : ∀ b, Z' b → b < H.size) (hl : c.hdr.length ≤ lim) (htl : c.trail.length ≤ lim) :
    FN Try.prog 50 [.agg (msg c h t).toArray, .agg (msg c h' t').toArray] H (fun r H' => r = .bool true ∧ Ext H H') := by
  have htl' : c.trail.length ≤ 1048576 := htl
  obtain ⟨tp, tc, rfl⟩ := RSl.len ht
  obtain ⟨tp', tc', rfl⟩ := RSl.len ht'
  refine fn_intro 74 Try.func50 rfl Try.ntmps50 rfl ?_
  refine wc_seq ?_
  refine wc_plain ?_
  refine wf_box rfl rfl rfl rfl (fun b2 H1 e2 z1 hb2 hk1 => ⟨trivial, ?_⟩)
  refine wf_box rfl rfl rfl rfl (fun b3 H2 e3 z2 hb3 hk2 => ⟨trivial, ?_⟩)
  have n3_hb2 := ne_new hb2 e3
  replace hb2 := (hk2 _ (lt_of hb2)).trans hb2
  have hx2 : Ext H H2 := (Ext.new z1 hk1).trans (Ext.new z2 hk2)
  have hb20 := hb2
  have hb30 := hb3
  refine wf_rd _ rfl rfl (RD.assign rfl) rfl ?_
  refine wf_nil ?_
  refine at_thn ?_
  refine wc_seq ?_
  refine wc_seq ?_
  refine wc_plain ?_
  refine wf_rd _ rfl rfl (RD.field rfl Try.underlying33 rfl Try.sizeOf9) rfl ?_
  refine wf_rd _ rfl rfl (RD.load rfl (LD.one Try.isAgg9 hb2 rfl)) rfl ?_
  refine wf_rd _ rfl rfl (RD.field rfl Try.underlying33 rfl Try.sizeOf9) rfl ?_
  refine wf_rd _ rfl rfl (RD.load rfl (LD.one Try.isAgg9 hb3 rfl)) rfl ?_
  refine wf_rd _ rfl rfl (RD.sneF rfl rfl) rfl ?_
  refine wf_rd _ rfl rfl (RD.move rfl) rfl ?_
  refine wf_rd _ rfl rfl (RD.field rfl Try.underlying33 rfl Try.sizeOf9) rfl ?_
  refine wf_rd _ rfl rfl (RD.load rfl (LD.one Try.isAgg9 hb2 rfl)) rfl ?_
  refine wf_rd _ rfl rfl (RD.field rfl Try.underlying33 rfl Try.sizeOf9) rfl ?_
  refine wf_rd _ rfl rfl (RD.load rfl (LD.one Try.isAgg9 hb3 rfl)) rfl ?_
  refine wf_rd _ rfl rfl (RD.sneF rfl rfl) rfl ?_
  refine wf_rd _ rfl rfl (RD.pickF rfl rfl) rfl ?_
  refine wf_rd _ rfl rfl (RD.move rfl) rfl ?_
  refine wf_rd _ rfl rfl (RD.field rfl Try.underlying33 rfl Try.sizeOf30) rfl ?_
  refine wf_rd _ rfl rfl (RD.load rfl (LD.agg Try.isAgg30 Try.sizeOf30 hb2 (Nat.le_of_ble_eq_true rfl))) rfl ?_
  refine wf_rd _ rfl rfl (RD.field rfl Try.underlying33 rfl Try.sizeOf30) rfl ?_
  refine wf_rd _ rfl rfl (RD.load rfl (LD.agg Try.isAgg30 Try.sizeOf30 hb3 (Nat.le_of_ble_eq_true rfl))) rfl ?_
  refine wf_call rfl en62 rfl rfl (same62 f H2 Z Z' c h h' (RT.mono hh (fun b hb => hx2.old b (hz b hb)) (fun _ h => h)) (RT.mono hh' (fun b hb => hx2.old b (hz' b hb)) (fun _ h => h)) (fun b hb => Nat.lt_of_lt_of_le (hz b hb) hx2.size) (fun b hb => Nat.lt_of_lt_of_le (hz' b hb) hx2.size) hl) ?_
  rintro _ H4 ⟨rfl, hx4⟩
  refine ⟨trivial, ?_⟩
  replace hb2 := hx4.keep hb2
  replace hb3 := hx4.keep hb3
  refine wf_rd _ rfl rfl (RD.not rfl) rfl ?_
  refine wf_rd _ rfl rfl (RD.pickF rfl rfl) rfl ?_
  refine wf_rd _ rfl rfl (RD.move rfl) rfl ?_
  refine wf_rd _ rfl rfl (RD.field rfl Try.underlying33 rfl Try.sizeOf3) rfl ?_
  refine wf_rd _ rfl rfl (RD.load rfl (LD.one Try.isAgg3 hb2 rfl)) rfl ?_
  refine wf_rd _ rfl rfl (RD.field rfl Try.underlying33 rfl Try.sizeOf3) rfl ?_
  refine wf_rd _ rfl rfl (RD.load rfl (LD.one Try.isAgg3 hb3 rfl)) rfl ?_
  refine wf_rd _ rfl rfl (RD.neF rfl rfl) rfl ?_
  refine wf_rd _ rfl rfl (RD.pickF rfl rfl) rfl ?_
  refine wf_rd _ rfl rfl (RD.move rfl) rfl ?_
  refine wf_rd _ rfl rfl (RD.field rfl Try.underlying33 rfl Try.sizeOf3) rfl ?_
  refine wf_rd _ rfl rfl (RD.load rfl (LD.one Try.isAgg3 hb2 rfl)) rfl ?_
  refine wf_rd _ rfl rfl (RD.field rfl Try.underlying33 rfl Try.sizeOf3) rfl ?_
  refine wf_rd _ rfl rfl (RD.load rfl (LD.one Try.isAgg3 hb3 rfl)) rfl ?_
  refine wf_rd _ rfl rfl (RD.neF rfl rfl) rfl ?_
  refine wf_rd _ rfl rfl (RD.pickF rfl rfl) rfl ?_
  refine wf_rd _ rfl rfl (RD.move rfl) rfl ?_
  refine wf_rd _ rfl rfl (RD.field rfl Try.underlying33 rfl Try.sizeOf4) rfl ?_
  refine wf_rd _ rfl rfl (RD.load rfl (LD.one Try.isAgg4 hb2 rfl)) rfl ?_
  refine wf_rd _ rfl rfl (RD.field rfl Try.underlying33 rfl Try.sizeOf4) rfl ?_
  refine wf_rd _ rfl rfl (RD.load rfl (LD.one Try.isAgg4 hb3 rfl)) rfl ?_
  refine wf_rd _ rfl rfl (bneF rfl rfl Try.underlying4) rfl ?_
  refine wf_rd _ rfl rfl (RD.pickF rfl rfl) rfl ?_
  refine wf_rd _ rfl rfl (RD.move rfl) rfl ?_
  refine wf_rd _ rfl rfl (RD.field rfl Try.underlying33 rfl Try.sizeOf31) rfl ?_
  refine wf_rd _ rfl rfl (RD.load rfl (LD.one Try.isAgg31 hb2 rfl)) rfl ?_
  refine wf_rd _ rfl rfl (RD.lenSl rfl Try.underlying31) rfl ?_
  refine wf_rd _ rfl rfl (RD.field rfl Try.underlying33 rfl Try.sizeOf31) rfl ?_
  refine wf_rd _ rfl rfl (RD.load rfl (LD.one Try.isAgg31 hb3 rfl)) rfl ?_
  refine wf_rd _ rfl rfl (RD.lenSl rfl Try.underlying31) rfl ?_
  refine wf_rd _ rfl rfl (RD.neF rfl rfl) rfl ?_
  refine wf_rd _ rfl rfl (RD.pickF rfl rfl) rfl ?_
  refine wf_nil ?_
  refine at_thn ?_
  refine wc_no rfl ?_
  refine wc_skip ?_
  refine at_thn ?_
  refine wc_seq ?_
  refine wc_seq ?_
  refine wc_plain ?_
  refine wf_rd _ rfl rfl (RD.assign rfl) rfl ?_
  refine wf_nil ?_
  refine at_thn ?_
  refine wc_block ?_
  refine wc_loop (fun i : Nat => [(2, .pointer (some ⟨b2, 0, none⟩)), (3, .pointer (some ⟨b3, 0, none⟩)), (4, .bool false), (5, .int .i64 (i : Int))]) (fun i H1 => i ≤ c.trail.length ∧ Ext H2 H1) (fun i => c.trail.length - i) 0 ⟨rfl, rfl, rfl, rfl, trivial⟩ ⟨Nat.zero_le _, hx4⟩ ?_
  rintro j H3 ⟨hj, hx⟩
  show WC _ _ _ _ [(2, .pointer (some ⟨b2, 0, none⟩)), (3, .pointer (some ⟨b3, 0, none⟩)), (4, .bool false), (5, .int .i64 (j : Int))] H3
  have hb2 := hx.keep hb20
  have hb3 := hx.keep hb30
  refine wc_seq ?_
  refine wc_seq ?_
  refine wc_plain ?_
  refine wf_rd _ rfl rfl (RD.move rfl) rfl ?_
  refine wf_rd _ rfl rfl (RD.field rfl Try.underlying33 rfl Try.sizeOf31) rfl ?_
  refine wf_rd _ rfl rfl (RD.load rfl (LD.one Try.isAgg31 hb2 rfl)) rfl ?_
  refine wf_rd _ rfl rfl (RD.lenSl rfl Try.underlying31) rfl ?_
  refine wf_rd _ rfl rfl (RD.cmp _ rfl rfl rfl) rfl ?_
  refine wf_nil ?_
  refine at_thn ?_
  refine wc_cond rfl (fun hc60 => ?_) (fun hc60 => ?_)
  ·
    have hlt : j < c.trail.length := by simpa using hc60
    obtain ⟨b, off, c9, cs, T, fz, e1, hZ, hb0, hlen, hR⟩ := ht.at (List.getElem?_eq_getElem hlt)
    cases e1
    obtain ⟨b', off', c9', cs', T', fz', e2, hZ', hb0', hlen', hR'⟩ := ht'.at (List.getElem?_eq_getElem hlt)
    cases e2
    have hb := (hx2.trans hx).keep hb0
    have hb' := (hx2.trans hx).keep hb0'
    refine wc_skip ?_
    refine at_thn ?_
    refine wc_seq ?_
    refine wc_block ?_
    refine wc_seq ?_
    refine wc_drawn [(0, 0), (1, 0), (2, 0), (3, 0), (4, 0), (5, 0), (6, 0), (7, 0), (8, 0), (9, 0), (10, 0)] (fun _ => True) (by kernel_rfl) (by kernel_rfl) trivial ?_
    refine wf_rd _ rfl rfl (RD.field rfl Try.underlying33 rfl Try.sizeOf31) rfl ?_
    refine wf_rd _ rfl rfl (RD.load rfl (LD.one Try.isAgg31 hb2 rfl)) rfl ?_
    refine wf_rd _ rfl rfl (RD.move rfl) rfl ?_
    refine wf_rd _ rfl rfl (RD.indexN rfl rfl Try.underlying31 Try.sizeOf9 (by omega)) rfl ?_
    refine wf_rd _ rfl rfl (RD.load rfl (LD.one Try.isAgg9 hb (first_cell (k := 0) hR))) rfl ?_
    refine wf_rd _ rfl rfl (RD.field rfl Try.underlying33 rfl Try.sizeOf31) rfl ?_
    refine wf_rd _ rfl rfl (RD.load rfl (LD.one Try.isAgg31 hb3 rfl)) rfl ?_
    refine wf_rd _ rfl rfl (RD.move rfl) rfl ?_
    refine wf_rd _ rfl rfl (RD.indexN rfl rfl Try.underlying31 Try.sizeOf9 (by omega)) rfl ?_
    refine wf_rd _ rfl rfl (RD.load rfl (LD.one Try.isAgg9 hb' (first_cell (k := 0) hR'))) rfl ?_
    refine wf_rd _ rfl rfl (RD.sneF rfl rfl) rfl ?_
    refine wf_nil ?_
    refine at_thn ?_
    refine wc_no rfl ?_
    refine wc_skip ?_
    refine at_inB ?_
    refine at_thn ?_
    refine wc_plain ?_
    refine wf_rd _ rfl rfl (RD.move rfl) rfl ?_
    refine wf_rd _ rfl rfl (RD.add64 rfl rfl (by omega)) rfl ?_
    refine wf_rd _ rfl rfl (RD.assign rfl) rfl ?_
    refine wf_nil ?_
    refine at_lp (j + 1) (by show c.trail.length - (j + 1) < c.trail.length - j; omega) ⟨rfl, rfl, rfl, rfl, trivial⟩ ⟨by omega, hx⟩
  ·
    refine wc_exit ?_
    refine at_thn_exit ?_
    refine at_lp_exit ?_
    refine at_inB_out ?_
    refine at_thn ?_
    refine wc_seq ?_
    refine wc_plain ?_
    refine wf_rd _ rfl rfl (RD.assign rfl) rfl ?_
    refine wf_nil ?_
    refine at_thn ?_
    refine wc_ret ?_
    refine at_ret1 rfl rfl ?_
    exact ⟨rfl, hx2.trans hx⟩
set_option maxRecDepth 100000 in
theorem same32 (f : Nat) (H : Heap) (Z Z' : Nat → Prop) (x y : List Value) (c : CD) (hx : RC f H Z x c) (hy : RC f H Z' y c) (hz : ∀ b, Z b → b < H.size) (hz' : ∀ b, Z' b → b < H.size) :
    FN Try.prog 32 [.agg x.toArray, .agg y.toArray] H (fun r H' => r = .bool true ∧ Ext H H') := by
  obtain ⟨h, t, rfl, hh, ht, hl, htl⟩ := hx
  obtain ⟨h', t', rfl, hh', ht', _, _⟩ := hy
  refine fn_intro 45 Try.func32 rfl Try.ntmps32 rfl ?_
  refine wc_seq ?_
  refine wc_plain ?_
  refine wf_box rfl rfl rfl rfl (fun b2 H1 e2 z1 hb2 hk1 => ⟨trivial, ?_⟩)
  refine wf_box rfl rfl rfl rfl (fun b3 H2 e3 z2 hb3 hk2 => ⟨trivial, ?_⟩)
  have n3_hb2 := ne_new hb2 e3
  replace hb2 := (hk2 _ (lt_of hb2)).trans hb2
  have hx2 : Ext H H2 := (Ext.new z1 hk1).trans (Ext.new z2 hk2)
  refine wf_rd _ rfl rfl (RD.assign rfl) rfl ?_
  refine wf_nil ?_
  refine at_thn ?_
  refine wc_seq ?_
  refine wc_plain ?_
  refine wf_rd _ rfl rfl (RD.field rfl Try.underlying35 rfl Try.sizeOf3) rfl ?_
  refine wf_rd _ rfl rfl (RD.load rfl (LD.one Try.isAgg3 hb2 rfl)) rfl ?_
  refine wf_rd _ rfl rfl (RD.field rfl Try.underlying35 rfl Try.sizeOf3) rfl ?_
  refine wf_rd _ rfl rfl (RD.load rfl (LD.one Try.isAgg3 hb3 rfl)) rfl ?_
  refine wf_rd _ rfl rfl (RD.eqT rfl rfl) rfl ?_
  refine wf_rd _ rfl rfl (RD.move rfl) rfl ?_
  refine wf_rd _ rfl rfl (RD.field rfl Try.underlying35 rfl Try.sizeOf3) rfl ?_
  refine wf_rd _ rfl rfl (RD.load rfl (LD.one Try.isAgg3 hb2 rfl)) rfl ?_
  refine wf_rd _ rfl rfl (RD.field rfl Try.underlying35 rfl Try.sizeOf3) rfl ?_
  refine wf_rd _ rfl rfl (RD.load rfl (LD.one Try.isAgg3 hb3 rfl)) rfl ?_
  refine wf_rd _ rfl rfl (RD.eqT rfl rfl) rfl ?_
  refine wf_rd _ rfl rfl (RD.pickT rfl rfl) rfl ?_
  refine wf_rd _ rfl rfl (RD.move rfl) rfl ?_
  refine wf_rd _ rfl rfl (RD.field rfl Try.underlying35 rfl Try.sizeOf3) rfl ?_
  refine wf_rd _ rfl rfl (RD.load rfl (LD.one Try.isAgg3 hb2 rfl)) rfl ?_
  refine wf_rd _ rfl rfl (RD.field rfl Try.underlying35 rfl Try.sizeOf3) rfl ?_
  refine wf_rd _ rfl rfl (RD.load rfl (LD.one Try.isAgg3 hb3 rfl)) rfl ?_
  refine wf_rd _ rfl rfl (RD.eqT rfl rfl) rfl ?_
  refine wf_rd _ rfl rfl (RD.pickT rfl rfl) rfl ?_
  refine wf_rd _ rfl rfl (RD.move rfl) rfl ?_
  refine wf_rd _ rfl rfl (RD.field rfl Try.underlying35 rfl Try.sizeOf3) rfl ?_
  refine wf_rd _ rfl rfl (RD.load rfl (LD.one Try.isAgg3 hb2 rfl)) rfl ?_
  refine wf_rd _ rfl rfl (RD.field rfl Try.underlying35 rfl Try.sizeOf3) rfl ?_
  refine wf_rd _ rfl rfl (RD.load rfl (LD.one Try.isAgg3 hb3 rfl)) rfl ?_
  refine wf_rd _ rfl rfl (RD.eqT rfl rfl) rfl ?_
  refine wf_rd _ rfl rfl (RD.pickT rfl rfl) rfl ?_
  refine wf_rd _ rfl rfl (RD.move rfl) rfl ?_
  refine wf_rd _ rfl rfl (RD.field rfl Try.underlying35 rfl Try.sizeOf4) rfl ?_
  refine wf_rd _ rfl rfl (RD.load rfl (LD.one Try.isAgg4 hb2 rfl)) rfl ?_
  refine wf_rd _ rfl rfl (RD.field rfl Try.underlying35 rfl Try.sizeOf4) rfl ?_
  refine wf_rd _ rfl rfl (RD.load rfl (LD.one Try.isAgg4 hb3 rfl)) rfl ?_
  refine wf_rd _ rfl rfl (RD.beqT rfl rfl Try.underlying4) rfl ?_
  refine wf_rd _ rfl rfl (RD.pickT rfl rfl) rfl ?_
  refine wf_rd _ rfl rfl (RD.move rfl) rfl ?_
  refine wf_rd _ rfl rfl (RD.field rfl Try.underlying35 rfl Try.sizeOf33) rfl ?_
  refine wf_rd _ rfl rfl (RD.load rfl (LD.agg Try.isAgg33 Try.sizeOf33 hb2 (Nat.le_of_ble_eq_true rfl))) rfl ?_
  refine wf_rd _ rfl rfl (RD.field rfl Try.underlying35 rfl Try.sizeOf33) rfl ?_
  refine wf_rd _ rfl rfl (RD.load rfl (LD.agg Try.isAgg33 Try.sizeOf33 hb3 (Nat.le_of_ble_eq_true rfl))) rfl ?_
  refine wf_call rfl en50 rfl rfl (same50 f H2 Z Z' c h h' t t' (RT.mono hh (fun b hb => hx2.old b (hz b hb)) (fun _ h => h)) (RT.mono hh' (fun b hb => hx2.old b (hz' b hb)) (fun _ h => h)) (ht.mono (fun b hb => hx2.old b (hz b hb)) (fun _ h => h)) (ht'.mono (fun b hb => hx2.old b (hz' b hb)) (fun _ h => h)) (fun b hb => Nat.lt_of_lt_of_le (hz b hb) hx2.size) (fun b hb => Nat.lt_of_lt_of_le (hz' b hb) hx2.size) hl htl) ?_
  rintro _ H4 ⟨rfl, hx4⟩
  refine ⟨trivial, ?_⟩
  refine wf_rd _ rfl rfl (RD.pickT rfl rfl) rfl ?_
  refine wf_rd _ rfl rfl (RD.assign rfl) rfl ?_
  refine wf_nil ?_
  refine at_thn ?_
  refine wc_ret ?_
  refine at_ret1 rfl rfl ?_
  exact ⟨rfl, hx2.trans hx4⟩
set_option maxRecDepth 100000 in
theorem same13 (f : Nat) (H : Heap) (Z Z' : Nat → Prop) (v v' : Value) (ds : List CD) (h : RSl H Z 25 (RC f H Z) v ds) (h' : RSl H Z' 25 (RC f H Z') v' ds) (hz : ∀ b, Z b → b < H.size) (hz' : ∀ b, Z' b → b < H.size) (hl : ds.length ≤ 2097152) :
    FN Try.prog 13 [v, v'] H (fun r H' => r = .bool true ∧ Ext H H') := by
  obtain ⟨p, c, rfl⟩ := h.len
  obtain ⟨p2, c2, rfl⟩ := h'.len
  refine fn_intro 27 Try.func13 rfl Try.ntmps13 rfl ?_
  refine wc_seq ?_
  refine wc_plain ?_
  refine wf_rd _ rfl rfl (RD.assign rfl) rfl ?_
  refine wf_nil ?_
  refine at_thn ?_
  refine wc_seq ?_
  refine wc_seq ?_
  refine wc_plain ?_
  refine wf_rd _ rfl rfl (RD.move rfl) rfl ?_
  refine wf_rd _ rfl rfl (RD.lenSl rfl Try.underlying24) rfl ?_
  refine wf_rd _ rfl rfl (RD.move rfl) rfl ?_
  refine wf_rd _ rfl rfl (RD.lenSl rfl Try.underlying24) rfl ?_
  refine wf_rd _ rfl rfl (RD.neF rfl rfl) rfl ?_
  refine wf_nil ?_
  refine at_thn ?_
  refine wc_no rfl ?_
  refine wc_skip ?_
  refine at_thn ?_
  refine wc_seq ?_
  refine wc_seq ?_
  refine wc_plain ?_
  refine wf_rd _ rfl rfl (RD.assign rfl) rfl ?_
  refine wf_nil ?_
  refine at_thn ?_
  refine wc_block ?_
  refine wc_loop (fun i : Nat => [(0, .slice p ds.length c), (1, .slice p2 ds.length c2), (4, .bool false), (5, .int .i64 (i : Int))]) (fun i H1 => i ≤ ds.length ∧ Ext H H1) (fun i => ds.length - i) 0 ⟨rfl, rfl, rfl, rfl, trivial⟩ ⟨Nat.zero_le _, Ext.refl _⟩ ?_
  rintro j H1 ⟨hj, hx⟩
  show WC _ _ _ _ [(0, .slice p ds.length c), (1, .slice p2 ds.length c2), (4, .bool false), (5, .int .i64 (j : Int))] H1
  refine wc_seq ?_
  refine wc_seq ?_
  refine wc_plain ?_
  refine wf_rd _ rfl rfl (RD.move rfl) rfl ?_
  refine wf_rd _ rfl rfl (RD.move rfl) rfl ?_
  refine wf_rd _ rfl rfl (RD.lenSl rfl Try.underlying24) rfl ?_
  refine wf_rd _ rfl rfl (RD.cmp _ rfl rfl rfl) rfl ?_
  refine wf_nil ?_
  refine at_thn ?_
  refine wc_cond rfl (fun hc14 => ?_) (fun hc14 => ?_)
  ·
    have hlt : j < ds.length := by simpa using hc14
    obtain ⟨b, off, c9, cs, T, fz, e1, hZ, hb0, hlen, hR⟩ := h.at (List.getElem?_eq_getElem hlt)
    cases e1
    obtain ⟨b', off', c9', cs', T', fz', e2, hZ', hb0', hlen', hR'⟩ := h'.at (List.getElem?_eq_getElem hlt)
    cases e2
    have hb := hx.keep hb0
    have hb' := hx.keep hb0'
    refine wc_skip ?_
    refine at_thn ?_
    refine wc_seq ?_
    refine wc_block ?_
    refine wc_seq ?_
    refine wc_drawn [(0, 0), (1, 0), (2, 0), (3, 0), (4, 0), (5, 0), (6, 0), (7, 0), (8, 3), (9, 0)] (fun _ => True) (by kernel_rfl) (by kernel_rfl) trivial ?_
    refine wf_rd _ rfl rfl (RD.move rfl) rfl ?_
    refine wf_rd _ rfl rfl (RD.move rfl) rfl ?_
    refine wf_rd _ rfl rfl (RD.indexN rfl rfl Try.underlying24 Try.sizeOf35 (by omega)) rfl ?_
    refine wf_rd _ rfl rfl (RD.load rfl (LD.el Try.isAgg35 Try.sizeOf35 hb ⟨rfl, hlen⟩)) rfl ?_
    refine wf_rd _ rfl rfl (RD.move rfl) rfl ?_
    refine wf_rd _ rfl rfl (RD.move rfl) rfl ?_
    refine wf_rd _ rfl rfl (RD.indexN rfl rfl Try.underlying24 Try.sizeOf35 (by omega)) rfl ?_
    refine wf_rd _ rfl rfl (RD.load rfl (LD.el Try.isAgg35 Try.sizeOf35 hb' ⟨rfl, hlen'⟩)) rfl ?_
    refine wf_call rfl en32 rfl rfl (same32 f H1 Z Z' _ _ ds[j] (RC.mono f _ _ _ _ _ _ (fun b hb => hx.old b (hz b hb)) (fun _ h => h) hR) (RC.mono f _ _ _ _ _ _ (fun b hb => hx.old b (hz' b hb)) (fun _ h => h) hR') (fun b hb => Nat.lt_of_lt_of_le (hz b hb) hx.size) (fun b hb => Nat.lt_of_lt_of_le (hz' b hb) hx.size)) ?_
    rintro _ H2 ⟨rfl, hx2⟩
    refine ⟨trivial, ?_⟩
    refine wf_rd _ rfl rfl (RD.not rfl) rfl ?_
    refine wf_nil ?_
    refine at_thn ?_
    refine wc_no rfl ?_
    refine wc_skip ?_
    refine at_inB ?_
    refine at_thn ?_
    refine wc_plain ?_
    refine wf_rd _ rfl rfl (RD.move rfl) rfl ?_
    refine wf_rd _ rfl rfl (RD.add64 rfl rfl (by omega)) rfl ?_
    refine wf_rd _ rfl rfl (RD.assign rfl) rfl ?_
    refine wf_nil ?_
    refine at_lp (j + 1) (by show ds.length - (j + 1) < ds.length - j; omega) ⟨rfl, rfl, rfl, rfl, trivial⟩ ⟨by omega, hx.trans hx2⟩
  ·
    refine wc_exit ?_
    refine at_thn_exit ?_
    refine at_lp_exit ?_
    refine at_inB_out ?_
    refine at_thn ?_
    refine wc_seq ?_
    refine wc_plain ?_
    refine wf_rd _ rfl rfl (RD.assign rfl) rfl ?_
    refine wf_nil ?_
    refine at_thn ?_
    refine wc_ret ?_
    refine at_ret1 rfl rfl ?_
    exact ⟨rfl, hx⟩
end Go.Proofs.Ytfomnjippakjpaa
