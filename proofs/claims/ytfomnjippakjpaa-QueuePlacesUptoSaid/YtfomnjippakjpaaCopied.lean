import Derived.Test.YtfomnjippakjpaaCopy
import Derived.Test.YtfomnjippakjpaaClone
import Derived.Test.YtfomnjippakjpaaCData
import Derived.Test.YtfomnjippakjpaaRows
namespace Go.Proofs.Ytfomnjippakjpaa
open Go.S

theorem clone_str (H : Heap) (Z : Nat → Prop) (v : Value) (ss : List ByteArray) (h : RStr H Z v ss) (hl : ss.length ≤ lim) : FN Try.prog 40 [v] H (fun v' H' => RStr H' (fresh H H') v' ss ∧ Ext H H') := by
  have hl' : ss.length ≤ 1048576 := hl
  rcases h with ⟨rfl | ⟨a, c, rfl⟩, rfl⟩ | ⟨b, off, c, cs, T, fz, rfl, h2, h3, h4, h5⟩
  · refine (clone40_nil H).mono ?_
    rintro v' H' ⟨rfl, rfl⟩
    exact ⟨.inl ⟨.inl rfl, rfl⟩, Ext.refl _⟩
  · refine (clone40E H a c).mono ?_
    rintro v' H' ⟨⟨g, hg, hg'⟩, ho, hx⟩
    exact ⟨RStr.own (ss := []) ho (fun g' e => by rw [hg] at e; have := Option.some.inj e; omega) (fun j d h => by simp at h), hx⟩
  · refine (clone40 H b off ss.length c cs T fz h3 h4 ?_ (by omega)).mono ?_
    · intro u hu
      obtain ⟨j, hj⟩ := List.getElem?_of_mem hu
      have hlt : j < ss.length := by
        have := (List.getElem?_eq_some_iff.1 hj).1
        simp at this; omega
      have h6 := h5 j _ (List.getElem?_eq_getElem hlt)
      have h7 : ((cs.drop (off + j * 1)).take 1)[0]? = some u := by
        rw [List.getElem?_take, List.getElem?_drop] at hj
        simp [List.getElem?_drop]
        split at hj
        · exact hj
        · cases hj
      rw [h6] at h7
      simp at h7
      subst h7; rfl
    · rintro v' H' ⟨⟨g, hg, hg'⟩, ho, hx⟩
      refine ⟨RStr.own ho (fun g' e => by rw [hg] at e; have := Option.some.inj e; omega) (fun j d hj => ?_), hx⟩
      have h6 := h5 j d hj
      have hlt : j < ss.length := (List.getElem?_eq_some_iff.1 hj).1
      have h7 : ((cs.drop (off + j * 1)).take 1)[0]? = some (.string d) := by rw [h6]; rfl
      rw [List.getElem?_take, List.getElem?_drop] at h7
      rw [List.getElem?_take, List.getElem?_drop, if_pos (by omega)]
      simpa using h7

set_option maxRecDepth 100000 in
theorem props_copy (f : Nat) (H : Heap) (Z : Nat → Prop) (c : CD) (h : Value) (hh : RT f H Z h c.hdr) (hZ0 : ∀ b, Z b → b < H.size) (hl : c.hdr.length ≤ lim) :
    FN Try.prog 39 [.agg (c.props h).toArray] H (fun v H' => ∃ h', v = .agg (c.props h').toArray ∧ RT f H' (fresh H H') h' c.hdr ∧ Ext H H') := by
  refine fn_intro 8 Try.func39 rfl Try.ntmps39 rfl ?_
  refine wc_seq ?_
  refine wc_plain ?_
  refine wf_box rfl rfl rfl rfl (fun b1 H1 e1 z1 hb1 hk1 => ⟨trivial, ?_⟩)
  refine wf_alloc Try.zeroValue30 rfl rfl rfl (fun b2 H2 e2 z2 hb2 hk2 => ⟨trivial, ?_⟩)
  have n2_hb1 := ne_new hb1 e2
  replace hb1 := (hk2 _ (lt_of hb1)).trans hb1
  have hx : Ext H H2 := (Ext.new z1 hk1).trans (Ext.new z2 hk2)
  refine wf_nil ?_
  refine at_thn ?_
  refine wc_seq ?_
  refine wc_plain ?_
  refine wf_rd _ rfl rfl (RD.field rfl Try.underlying30 rfl Try.sizeOf28) rfl ?_
  refine wf_rd _ rfl rfl (RD.load rfl (LD.one Try.isAgg28 hb1 rfl)) rfl ?_
  refine wf_call rfl en55 rfl rfl ((copy_all f).2 _ _ _ _ (RT.mono hh (fun b hb => hx.old b (hZ0 b hb)) (fun _ h => h)) (fun b hb => Nat.lt_of_lt_of_le (hZ0 b hb) hx.size) hl) ?_
  rintro h' H3 ⟨hh', hx3⟩
  replace hb1 := hx3.keep hb1
  replace hb2 := hx3.keep hb2
  have ho' := RSl.one hh'
  refine ⟨trivial, ?_⟩
  refine wf_rd _ rfl rfl (RD.field rfl Try.underlying30 rfl Try.sizeOf28) rfl ?_
  refine wf_store1 rfl rfl Try.sizeOf28 rfl hb1 (by first | rfl | assumption) (Nat.le_of_ble_eq_true rfl) (fun H13 z13 hx13 hk13 => ⟨trivial, ?_⟩)
  replace hb2 := (hk13 _ (by first | assumption | exact Ne.symm (by assumption) | omega)).trans hb2
  replace hb1 := hx13
  refine wf_nil ?_
  refine at_thn ?_
  refine wc_seq ?_
  refine wc_plain ?_
  refine wf_rd _ rfl rfl (RD.load rfl (LD.all Try.isAgg30 Try.sizeOf30 hb1 rfl)) rfl ?_
  refine wf_storeA rfl rfl Try.sizeOf30 rfl hb2 (c.pone ho') rfl (fun H5 z5 hx5 hk5 => ⟨trivial, ?_⟩)
  replace hb2 := hx5
  refine wf_nil ?_
  refine at_thn ?_
  refine wc_ret ?_
  refine at_ret1 rfl ⟨_, rfl, (LD.all Try.isAgg30 Try.sizeOf30 hb2 rfl)⟩ ?_
  have s3 := hx3.size
  have s2 := hx.size
  have hst : ∀ b, H2.size ≤ b → H5[b]? = H3[b]? := fun b hb => (hk5 _ (by omega)).trans (hk13 _ (by omega))
  exact ⟨h', rfl, RT.mono hh' (fun b hb => hst b hb.1) (fun b hb => fresh_sub (by omega) (by omega) hb), ((hx.trans hx3).wrote z13 hk13 (by omega)).wrote z5 hk5 (by omega)⟩
set_option maxRecDepth 100000 in
theorem copied25 (f : Nat) (H : Heap) (Z : Nat → Prop) (cs : List Value) (c : CD) (hc : RC f H Z cs c) (hZ0 : ∀ b, Z b → b < H.size) :
    FN Try.prog 25 [.agg cs.toArray] H (fun v H' => ∃ cs' : List Value, v = .agg cs'.toArray ∧ RC f H' (fresh H H') cs' c ∧ Ext H H') := by
  obtain ⟨h, t, rfl, hh, ht, hl, hlt⟩ := hc
  refine fn_intro 16 Try.func25 rfl Try.ntmps25 rfl ?_
  refine wc_seq ?_
  refine wc_plain ?_
  refine wf_box rfl rfl rfl rfl (fun b1 H1 e1 z1 hb1 hk1 => ⟨trivial, ?_⟩)
  refine wf_alloc Try.zeroValue35 rfl rfl rfl (fun b2 H2 e2 z2 hb2 hk2 => ⟨trivial, ?_⟩)
  have n2_hb1 := ne_new hb1 e2
  replace hb1 := (hk2 _ (lt_of hb1)).trans hb1
  have hx : Ext H H2 := (Ext.new z1 hk1).trans (Ext.new z2 hk2)
  refine wf_nil ?_
  refine at_thn ?_
  refine wc_seq ?_
  refine wc_plain ?_
  refine wf_rd _ rfl rfl (RD.field rfl Try.underlying35 rfl Try.sizeOf33) rfl ?_
  refine wf_rd _ rfl rfl (RD.field rfl Try.underlying33 rfl Try.sizeOf30) rfl ?_
  refine wf_rd _ rfl rfl (RD.load rfl (LD.agg Try.isAgg30 Try.sizeOf30 hb1 (Nat.le_of_ble_eq_true rfl))) rfl ?_
  refine wf_call rfl en39 rfl rfl (props_copy f _ Z c h (RT.mono hh (fun b hb => hx.old b (hZ0 b hb)) (fun _ h => h)) (fun b hb => Nat.lt_of_lt_of_le (hZ0 b hb) hx.size) hl) ?_
  rintro _ H3 ⟨h', rfl, hh', hx3⟩
  replace hb1 := hx3.keep hb1
  replace hb2 := hx3.keep hb2
  have ho' := RSl.one hh'
  refine ⟨trivial, ?_⟩
  refine wf_rd _ rfl rfl (RD.field rfl Try.underlying35 rfl Try.sizeOf33) rfl ?_
  refine wf_rd _ rfl rfl (RD.field rfl Try.underlying33 rfl Try.sizeOf30) rfl ?_
  refine wf_storeK (vs := c.props h') rfl rfl Try.sizeOf30 rfl hb1 (c.pone ho') (Nat.le_of_ble_eq_true rfl) (fun H5 z5 hx5 hk5 => ⟨trivial, ?_⟩)
  replace hb1 : H5[b1]? = some (.cells (c.cells h' t).toArray 35 (0, 0)) := hx5
  replace hb2 := (hk5 _ (Ne.symm n2_hb1)).trans hb2
  refine wf_nil ?_
  refine at_thn ?_
  refine wc_seq ?_
  refine wc_plain ?_
  refine wf_rd _ rfl rfl (RD.field rfl Try.underlying35 rfl Try.sizeOf33) rfl ?_
  refine wf_rd _ rfl rfl (RD.field rfl Try.underlying33 rfl Try.sizeOf31) rfl ?_
  refine wf_rd _ rfl rfl (RD.load rfl (LD.one Try.isAgg31 hb1 rfl)) rfl ?_
  refine wf_call rfl en40 rfl rfl (clone_str H5 Z t c.trail (ht.mono (fun b hb => (hk5 _ (by have := hZ0 b hb; have := hx.size; omega)).trans (((hx.trans hx3)).old b (hZ0 b hb))) (fun _ h => h)) hlt) ?_
  rintro t' H6 ⟨htr', hx6⟩
  replace hb1 := hx6.keep hb1
  replace hb2 := hx6.keep hb2
  have ht' := RSl.one htr'
  refine ⟨trivial, ?_⟩
  refine wf_rd _ rfl rfl (RD.field rfl Try.underlying35 rfl Try.sizeOf33) rfl ?_
  refine wf_rd _ rfl rfl (RD.field rfl Try.underlying33 rfl Try.sizeOf31) rfl ?_
  refine wf_store1 rfl rfl Try.sizeOf31 rfl hb1 (by first | rfl | assumption) (Nat.le_of_ble_eq_true rfl) (fun H13 z13 hx13 hk13 => ⟨trivial, ?_⟩)
  replace hb2 := (hk13 _ (by first | assumption | exact Ne.symm (by assumption) | omega)).trans hb2
  replace hb1 := hx13
  refine wf_nil ?_
  refine at_thn ?_
  refine wc_seq ?_
  refine wc_plain ?_
  refine wf_rd _ rfl rfl (RD.load rfl (LD.all Try.isAgg35 Try.sizeOf35 hb1 rfl)) rfl ?_
  refine wf_storeA (vs := c.cells h' t') rfl rfl Try.sizeOf35 rfl hb2 (c.one ho' ht') rfl (fun H8 z8 hx8 hk8 => ⟨trivial, ?_⟩)
  replace hb2 := hx8
  refine wf_nil ?_
  refine at_thn ?_
  refine wc_ret ?_
  refine at_ret1 rfl ⟨_, rfl, (LD.all Try.isAgg35 Try.sizeOf35 hb2 rfl)⟩ ?_
  have s3 := hx3.size
  have s2 := hx.size
  have s6 := hx6.size
  have h8 : ∀ b, H2.size ≤ b → H8[b]? = H6[b]? := fun b hb => (hk8 _ (by omega)).trans (hk13 _ (by omega))
  refine ⟨_, rfl, ⟨h', t', rfl, RT.mono hh' (fun b hb => (h8 b hb.1).trans ((hx6.old b (by have := hb.2; omega)).trans (hk5 _ (by have := hb.1; omega)))) (fun b hb => fresh_sub (by omega) (by omega) hb), htr'.mono (fun b hb => h8 b (by have := hb.1; omega)) (fun b hb => fresh_sub (by omega) (by omega) hb), hl, hlt⟩, ?_⟩
  exact ((((hx.trans hx3).wrote z5 hk5 (by omega)).trans hx6).wrote z13 hk13 (by omega)).wrote z8 hk8 (by omega)
end Go.Proofs.Ytfomnjippakjpaa
