/-
  The examples of the document, walked.
-/
import Derived.Test.YtfomnjippakjpaaQu
import Derived.Test.YtfomnjippakjpaaMkSl
namespace Go.Proofs.Ytfomnjippakjpaa
open Go.S
def cf5 : CF := ⟨0, 0, -1, 5, ⟨#[]⟩, ⟨#[]⟩, ⟨#[]⟩, false, false, false⟩
theorem built23c : Try.prog.built 23 [(3, .int .i64 5), (2, .int .i64 (-1))] = some cf5.cells.toArray := by kernel_rfl
theorem fill3 : Instr.fill (fun i => some (i * 1, 1)) ((Array.range (3 * 1)).map ((Value.int .i64 0).cells[· % (Value.int .i64 0).cells.size]!)) [(0, ik 7), (1, ik 9), (2, ik 8)] = some ([ik 7, ik 9, ik 8] : List Value).toArray := by kernel_rfl
theorem three {α : Type} {ds : List α} {a b c : Option α} (h : ds.map some = [a, b, c]) : ∃ x y z, ds = [x, y, z] ∧ some x = a ∧ some y = b ∧ some z = c := by
  match ds, h with
  | [x, y, z], h => simp at h; exact ⟨x, y, z, rfl, h⟩
theorem own3 {H : Heap} {b : Nat} (h : H[b]? = some (.cells ([ik 7, ik 9, ik 8] : List Value).toArray 3 (0, 0))) : Own H 3 1 (.slice (some ⟨b, 0, none⟩) 3 3) ([7, 9, 8] : List Int).length (([7, 9, 8] : List Int).map ik) :=
  ⟨by simp, .inr ⟨b, 3, _, rfl, Nat.zero_le _, h, by decide, by decide, rfl, rfl⟩⟩
theorem can21 (H : Heap) (y : Int) : FN Try.prog 21 ([.int .i64 y] ++ []) H (fun r H' => r = .bool (!(y == 7)) ∧ H = H') := by
  show FN Try.prog 21 [.int .i64 y] H _
  refine fn_intro 5 Try.func21 rfl Try.ntmps21 rfl ?_
  refine wc_seq ?_
  refine wc_plain ?_
  refine wf_rd _ rfl rfl (RD.assign rfl) rfl ?_
  refine wf_nil ?_
  refine at_thn ?_
  refine wc_seq ?_
  refine wc_plain ?_
  refine wf_rd _ rfl rfl (RD.move rfl) rfl ?_
  refine wf_rd _ rfl rfl (RD.cmp _ rfl rfl rfl) rfl ?_
  refine wf_rd _ rfl rfl (RD.assign rfl) rfl ?_
  refine wf_nil ?_
  refine at_thn ?_
  refine wc_ret ?_
  refine at_ret1 rfl rfl ?_
  exact ⟨rfl, rfl⟩
set_option maxRecDepth 100000 in
theorem speaks5 (f : Nat) (H : Heap) : FN Try.prog 5 [] H (fun r H' => r = .bool true ∧ Ext H H') := by
  refine fn_intro 110 Try.func5 rfl Try.ntmps5 rfl ?_
  refine wc_seq ?_
  refine wc_plain ?_
  refine wf_rd _ rfl rfl (RD.assign rfl) rfl ?_
  refine wf_nil ?_
  refine at_thn ?_
  refine wc_seq ?_
  refine wc_plain ?_
  refine wf_rd _ rfl rfl (RD.build rfl built23c) rfl ?_
  refine wf_call rfl en6 rfl rfl (u6 f (fun b o => H[b]? = some o) H cf5 (fun _ _ h => h)) ?_
  rintro _ H1 ⟨q, rfl, h, z1⟩
  refine ⟨trivial, ?_⟩
  refine wf_rd _ rfl rfl (RD.assign rfl) rfl ?_
  refine wf_nil ?_
  refine at_thn ?_
  refine wc_seq ?_
  refine wc_seq ?_
  refine wc_plain ?_
  refine wf_rd _ rfl rfl (RD.move rfl) rfl ?_
  refine wf_rd _ rfl rfl (RD.peq rfl rfl Try.underlying26) rfl ?_
  refine wf_rd _ rfl rfl (RD.move rfl) rfl ?_
  refine wf_rd _ rfl rfl (RD.move rfl) rfl ?_
  refine wf_call rfl en18 rfl rfl (rank18 H1 1) ?_
  rintro _ H2 ⟨rfl, hx⟩
  refine ⟨trivial, ?_⟩
  have z2 := Nat.le_trans z1 hx.size
  replace h := h.ext hx
  clear hx
  refine wf_call rfl en7 rfl rfl (u7 h (rank_rc f _ (fun _ => False) 1) (fun _ h => h.elim) (by decide) (by decide)) ?_
  rintro _ H3 ⟨rfl, h3, z⟩
  refine ⟨trivial, ?_⟩
  replace h : Qu f _ _ q ⟨cf5, [⟨1, 1, 0⟩], _, [], _, []⟩ := h3
  clear h3
  have z3 := Nat.le_trans z2 z
  clear z
  refine wf_rd _ rfl rfl (RD.cmp false rfl rfl rfl) rfl ?_
  refine wf_rd _ rfl rfl (RD.pickF rfl rfl) rfl ?_
  refine wf_rd _ rfl rfl (RD.move rfl) rfl ?_
  refine wf_rd _ rfl rfl (RD.move rfl) rfl ?_
  refine wf_call rfl en18 rfl rfl (rank18 H3 9) ?_
  rintro _ H4 ⟨rfl, hx⟩
  refine ⟨trivial, ?_⟩
  have z4 := Nat.le_trans z3 hx.size
  replace h := h.ext hx
  clear hx
  refine wf_call rfl en7 rfl rfl (u7 h (rank_rc f _ (fun _ => False) 9) (fun _ h => h.elim) (by decide) (by decide)) ?_
  rintro _ H5 ⟨rfl, h5, z⟩
  refine ⟨trivial, ?_⟩
  replace h : Qu f _ _ q ⟨cf5, [⟨5, 2, 0⟩, ⟨1, 1, 0⟩], _, [], _, []⟩ := h5
  clear h5
  have z5 := Nat.le_trans z4 z
  clear z
  refine wf_rd _ rfl rfl (RD.cmp false rfl rfl rfl) rfl ?_
  refine wf_rd _ rfl rfl (RD.pickF rfl rfl) rfl ?_
  refine wf_rd _ rfl rfl (RD.move rfl) rfl ?_
  refine wf_rd _ rfl rfl (RD.move rfl) rfl ?_
  refine wf_call rfl en18 rfl rfl (rank18 H5 1) ?_
  rintro _ H6 ⟨rfl, hx⟩
  refine ⟨trivial, ?_⟩
  have z6 := Nat.le_trans z5 hx.size
  replace h := h.ext hx
  clear hx
  refine wf_call rfl en7 rfl rfl (u7 h (rank_rc f _ (fun _ => False) 1) (fun _ h => h.elim) (by decide) (by decide)) ?_
  rintro _ H7 ⟨rfl, h7, z⟩
  refine ⟨trivial, ?_⟩
  replace h : Qu f _ _ q ⟨cf5, [⟨5, 2, 0⟩, ⟨1, 1, 0⟩, ⟨1, 3, 0⟩], _, [], _, []⟩ := h7
  clear h7
  have z7 := Nat.le_trans z6 z
  clear z
  refine wf_rd _ rfl rfl (RD.cmp false rfl rfl rfl) rfl ?_
  refine wf_rd _ rfl rfl (RD.pickF rfl rfl) rfl ?_
  refine wf_nil ?_
  refine at_thn ?_
  refine wc_no rfl ?_
  refine wc_skip ?_
  refine at_thn ?_
  refine wc_seq ?_
  refine wc_plain ?_
  refine wf_rd _ rfl rfl (RD.move rfl) rfl ?_
  refine wf_call rfl en9 rfl rfl (u9 h rfl (by decide)) ?_
  rintro _ H8 ⟨_, d2, rfl, hd2, hd2s, ⟨hh, ht, rfl, hrt, hrs, _, _⟩, h8, z, _⟩
  refine ⟨trivial, ?_⟩
  have z8 := Nat.le_trans z7 z
  clear z
  replace h := h8
  clear h8
  simp [putF] at hd2
  subst hd2
  refine wf_rd _ rfl rfl (RD.move rfl) rfl ?_
  refine wf_rd _ rfl rfl (RD.extract rfl rfl) rfl ?_
  refine wf_rd _ rfl rfl (RD.extract rfl rfl) rfl ?_
  refine wf_alloc Try.zeroValue35 rfl rfl rfl (fun b2 Ha e2 za hb2 hka => ⟨trivial, ?_⟩)
  replace h := h.add (Ext.new za hka)
  refine wf_storeA rfl rfl Try.sizeOf35 rfl hb2 (CD.one _ (RSl.one hrt) (RSl.one hrs)) rfl (fun H9 zb hb3 hkb => ⟨trivial, ?_⟩)
  replace h : Qu f (fun b o => H[b]? = some o) H9 q _ := h.wrote (b0 := b2) (.inr ⟨⟨by omega, by omega⟩, hb2⟩) zb hkb (fun b o hb => .inl ⟨fun e => by have := lt_of hb; omega, .inl hb⟩)
  have z9 : H.size ≤ H9.size := by omega
  replace hb2 := hb3
  clear hb3 hka hkb za zb
  refine wf_rd _ rfl rfl (RD.assign rfl) rfl ?_
  refine wf_nil ?_
  refine at_thn ?_
  refine wc_seq ?_
  refine wc_seq ?_
  refine wc_plain ?_
  refine wf_rd _ rfl rfl (RD.field rfl Try.underlying35 rfl Try.sizeOf3) rfl ?_
  refine wf_rd _ rfl rfl (RD.load rfl (LD.one Try.isAgg3 hb2 rfl)) rfl ?_
  refine wf_rd _ rfl rfl (RD.cmp false rfl rfl rfl) rfl ?_
  refine wf_rd _ rfl rfl (RD.move rfl) rfl ?_
  refine wf_rd _ rfl rfl (RD.move rfl) rfl ?_
  refine wf_rd _ rfl rfl (RD.not rfl) rfl ?_
  refine wf_rd _ rfl rfl (RD.pickF rfl rfl) rfl ?_
  refine wf_rd _ rfl rfl (RD.move rfl) rfl ?_
  refine wf_rd _ rfl rfl (RD.move rfl) rfl ?_
  refine wf_call rfl en12 rfl rfl (u12 h (by simp) (by decide)) ?_
  rintro _ H10 ⟨rfl, d5, hd5, h10, z⟩
  refine ⟨trivial, ?_⟩
  have z10 := Nat.le_trans z9 z
  clear z
  simp [putF] at hd5
  subst hd5
  replace h : Qu f _ _ q ⟨cf5, [⟨5, 2, 0⟩, ⟨1, 1, 0⟩, ⟨1, 3, 0⟩], _, [], _, []⟩ := h10
  clear h10
  refine wf_rd _ rfl rfl (RD.not rfl) rfl ?_
  refine wf_rd _ rfl rfl (RD.pickF rfl rfl) rfl ?_
  refine wf_nil ?_
  refine at_thn ?_
  refine wc_no rfl ?_
  refine wc_skip ?_
  refine at_thn ?_
  refine wc_seq ?_
  refine wc_plain ?_
  refine wf_rd _ rfl rfl (RD.move rfl) rfl ?_
  refine wf_call rfl en8 rfl rfl (u8 h (by decide)) ?_
  rintro r8 H11 ⟨ds, hds, ⟨es8, ha8⟩, hx⟩
  refine ⟨trivial, ?_⟩
  have z11 := Nat.le_trans z10 hx.size
  replace h := h.add hx
  simp [putF] at hds
  obtain ⟨da, db, dc, rfl, hda, hdb, hdc⟩ := three hds
  replace hda := Option.some.inj hda
  replace hdb := Option.some.inj hdb
  replace hdc := Option.some.inj hdc
  subst hda hdb hdc
  obtain ⟨b8, o8, c8, cs8, T8, fz8, rfl, hzb, hb8, hca, hcb, hcc⟩ := rsl_two (Accum.done (RC.mono f) ha8) rfl rfl
  have hD : (fun b o => H[b]? = some o ∨ (fresh H10 H11 b ∧ H11[b]? = some o)) b8 _ := .inr ⟨hzb, hb8⟩
  clear hx
  refine wf_rd _ rfl rfl (RD.assign rfl) rfl ?_
  refine wf_nil ?_
  refine at_thn ?_
  refine wc_seq ?_
  refine wc_plain ?_
  refine wf_rd _ rfl rfl (RD.move rfl) rfl ?_
  refine wf_call rfl en19 rfl rfl (u19 (x := 7) h (by decide) (by decide)) ?_
  rintro _ H12 ⟨rfl, h12, z⟩
  refine ⟨trivial, ?_⟩
  have z12 := Nat.le_trans z11 z
  clear z
  replace h : Qu f _ _ q ⟨cf5, [⟨5, 2, 0⟩, ⟨1, 1, 0⟩, ⟨1, 3, 0⟩], _, [], _, [7]⟩ := h12
  clear h12
  refine wf_nil ?_
  refine at_thn ?_
  refine wc_seq ?_
  refine wc_plain ?_
  refine wf_rd _ rfl rfl (RD.move rfl) rfl ?_
  refine wf_call rfl en19 rfl rfl (u19 (x := 8) h (by decide) (by decide)) ?_
  rintro _ H13 ⟨rfl, h13, z⟩
  refine ⟨trivial, ?_⟩
  have z13 := Nat.le_trans z12 z
  clear z
  replace h : Qu f _ _ q ⟨cf5, [⟨5, 2, 0⟩, ⟨1, 1, 0⟩, ⟨1, 3, 0⟩], _, [], _, [7, 8]⟩ := h13
  clear h13
  refine wf_nil ?_
  refine at_thn ?_
  refine wc_seq ?_
  refine wc_plain ?_
  refine wf_rd _ rfl rfl (RD.move rfl) rfl ?_
  refine wf_call rfl en19 rfl rfl (u19 (x := 9) h (by decide) (by decide)) ?_
  rintro _ H14 ⟨rfl, h14, z⟩
  refine ⟨trivial, ?_⟩
  have z14 := Nat.le_trans z13 z
  clear z
  replace h : Qu f _ _ q ⟨cf5, [⟨5, 2, 0⟩, ⟨1, 1, 0⟩, ⟨1, 3, 0⟩], _, [], _, [7, 8, 9]⟩ := h14
  clear h14
  refine wf_nil ?_
  refine at_thn ?_
  refine wc_seq ?_
  refine wc_plain ?_
  refine wf_rd _ rfl rfl (RD.move rfl) rfl ?_
  refine wf_call rfl en20 rfl rfl (u20 (g := 21) (caps := []) (P := fun y => !(y == 7)) (x := 8) (j0 := 1) h (by decide) en21 can21 rfl rfl (by intro k y hk e; obtain rfl : k = 0 := (by omega); cases e; rfl)) ?_
  rintro _ H15 ⟨rfl, h15, z⟩
  refine ⟨trivial, ?_⟩
  have z15 := Nat.le_trans z14 z
  clear z
  replace h : Qu f _ _ q ⟨cf5, [⟨5, 2, 0⟩, ⟨1, 1, 0⟩, ⟨1, 3, 0⟩], _, [], _, [7, 9, 8]⟩ := h15
  clear h15
  refine wf_rd _ rfl rfl (RD.move rfl) rfl ?_
  refine wf_rd _ rfl rfl (RD.extract rfl rfl) rfl ?_
  refine wf_rd _ rfl rfl (RD.extract rfl rfl) rfl ?_
  refine wf_rd _ rfl rfl (RD.assign rfl) rfl ?_
  refine wf_rd _ rfl rfl (RD.assign rfl) rfl ?_
  refine wf_nil ?_
  refine at_thn ?_
  refine wc_seq ?_
  refine wc_plain ?_
  refine wf_rd _ rfl rfl (RD.move rfl) rfl ?_
  refine wf_call rfl en10 rfl rfl (u10 h) ?_
  rintro _ _ ⟨rfl, rfl⟩
  refine ⟨trivial, ?_⟩
  have hb8 := h.mem hD
  refine wf_rd _ rfl rfl (RD.move rfl) rfl ?_
  refine wf_rd _ rfl rfl (RD.extract rfl rfl) rfl ?_
  refine wf_rd _ rfl rfl (RD.extract rfl rfl) rfl ?_
  refine wf_rd _ rfl rfl (RD.assign rfl) rfl ?_
  refine wf_rd _ rfl rfl (RD.assign rfl) rfl ?_
  refine wf_nil ?_
  refine at_thn ?_
  refine wc_seq ?_
  refine wc_plain ?_
  refine wf_rd _ rfl rfl (RD.move rfl) rfl ?_
  refine wf_rd _ rfl rfl (RD.lenSl rfl Try.underlying24) rfl ?_
  refine wf_rd _ rfl rfl (RD.cmp true rfl rfl rfl) rfl ?_
  refine wf_rd _ rfl rfl (RD.move rfl) rfl ?_
  refine wf_rd _ rfl rfl (RD.move rfl) rfl ?_
  refine wf_rd _ rfl rfl (RD.indexN (j := 0) rfl rfl Try.underlying24 Try.sizeOf35 (by decide)) rfl ?_
  refine wf_rd _ rfl rfl (RD.field rfl Try.underlying35 rfl Try.sizeOf3) rfl ?_
  refine wf_rd _ rfl rfl (RD.load rfl (LD.one Try.isAgg3 hb8 hca)) rfl ?_
  refine wf_rd _ rfl rfl (RD.cmp true rfl rfl rfl) rfl ?_
  refine wf_rd _ rfl rfl (RD.pickT rfl rfl) rfl ?_
  refine wf_rd _ rfl rfl (RD.move rfl) rfl ?_
  refine wf_rd _ rfl rfl (RD.move rfl) rfl ?_
  refine wf_rd _ rfl rfl (RD.indexN (j := 0) rfl rfl Try.underlying24 Try.sizeOf35 (by decide)) rfl ?_
  refine wf_rd _ rfl rfl (RD.field rfl Try.underlying35 rfl Try.sizeOf4) rfl ?_
  refine wf_rd _ rfl rfl (RD.load rfl (LD.one Try.isAgg4 hb8 hcb)) rfl ?_
  refine wf_rd _ rfl rfl (RD.pickT rfl rfl) rfl ?_
  refine wf_rd _ rfl rfl (RD.move rfl) rfl ?_
  refine wf_rd _ rfl rfl (RD.move rfl) rfl ?_
  refine wf_rd _ rfl rfl (RD.indexN (j := 1) rfl rfl Try.underlying24 Try.sizeOf35 (by decide)) rfl ?_
  refine wf_rd _ rfl rfl (RD.field rfl Try.underlying35 rfl Try.sizeOf3) rfl ?_
  refine wf_rd _ rfl rfl (RD.load rfl (LD.one Try.isAgg3 hb8 hcc)) rfl ?_
  refine wf_rd _ rfl rfl (RD.cmp true rfl rfl rfl) rfl ?_
  refine wf_rd _ rfl rfl (RD.pickT rfl rfl) rfl ?_
  refine wf_rd _ rfl rfl (RD.move rfl) rfl ?_
  refine wf_rd _ rfl rfl (RD.move rfl) rfl ?_
  refine wf_rd _ rfl rfl (RD.cmp true rfl rfl rfl) rfl ?_
  refine wf_rd _ rfl rfl (RD.pickT rfl rfl) rfl ?_
  refine wf_rd _ rfl rfl (RD.move rfl) rfl ?_
  refine wf_rd _ rfl rfl (RD.move rfl) rfl ?_
  refine wf_rd _ rfl rfl (RD.pickT rfl rfl) rfl ?_
  refine wf_rd _ rfl rfl (RD.move rfl) rfl ?_
  refine wf_rd _ rfl rfl (RD.move rfl) rfl ?_
  refine wf_call rfl en23 rfl rfl (u23 h (by decide)) ?_
  rintro r23 H16 ⟨ho, hx⟩
  refine ⟨trivial, ?_⟩
  have z16 := Nat.le_trans z15 hx.size
  replace h := h.ext hx
  clear hx
  refine wf_mkSliceG (vs := [(0, ik 7), (1, ik 9), (2, ik 8)]) (cs := [ik 7, ik 9, ik 8]) el46 rfl fill3 rfl rfl rfl rfl (fun b9 H17 e9 zz hb9 hk9 => ⟨trivial, ?_⟩)
  have hx : Ext H16 H17 := Ext.new zz hk9
  have z17 := Nat.le_trans z16 hx.size
  replace h := h.ext hx
  replace ho := ho.keep (fun g hg => hx.old g (ho.lt hg))
  refine wf_call rfl en22 rfl rfl (same22 H17 [7, 9, 8] r23 _ ho (own3 hb9) (by decide)) ?_
  rintro _ _ ⟨rfl, rfl⟩
  refine ⟨trivial, ?_⟩
  refine wf_rd _ rfl rfl (RD.pickT rfl rfl) rfl ?_
  refine wf_rd _ rfl rfl (RD.move rfl) rfl ?_
  refine wf_rd _ rfl rfl (RD.move rfl) rfl ?_
  refine wf_rd _ rfl rfl (RD.cmp true rfl rfl rfl) rfl ?_
  refine wf_rd _ rfl rfl (RD.pickT rfl rfl) rfl ?_
  refine wf_rd _ rfl rfl (RD.move rfl) rfl ?_
  refine wf_rd _ rfl rfl (RD.move rfl) rfl ?_
  refine wf_rd _ rfl rfl (RD.cmp true rfl rfl rfl) rfl ?_
  refine wf_rd _ rfl rfl (RD.pickT rfl rfl) rfl ?_
  refine wf_rd _ rfl rfl (RD.assign rfl) rfl ?_
  refine wf_nil ?_
  refine at_thn ?_
  refine wc_ret ?_
  refine at_ret1 rfl rfl ?_
  exact ⟨rfl, z17, fun j hj => by obtain ⟨o, ho⟩ : ∃ o, H[j]? = some o := ⟨_, Array.getElem?_eq_getElem hj⟩; rw [ho]; exact h.mem (.inl ho)⟩
end Go.Proofs.Ytfomnjippakjpaa
