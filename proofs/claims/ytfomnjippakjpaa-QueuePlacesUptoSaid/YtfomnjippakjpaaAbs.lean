/-
  The line as a sorted list.
-/
import Derived.Test.YtfomnjippakjpaaQData
namespace Go.S

/-- Sorted: none stands ahead of an earlier one. -/
def InL (js : List It) : Prop := js.Pairwise (fun a b => ahd b a = false)
structure LineIs (is L : List It) : Prop where
  perm : L.Perm is
  sorted : InL L
  nod : (L.map It.s).Nodup
theorem inl_unique {a b : List It} (hp : a.Perm b) (ha : InL a) (hb : InL b) (hn : (a.map It.s).Nodup) : a = b := by
  refine List.Perm.eq_of_pairwise (le := fun x y => ahd y x = false) (fun x y hx hy h1 h2 => ?_) ha hb hp
  refine Classical.byContradiction fun hne => ?_
  have hs : x.s ≠ y.s := by
    intro e
    rw [List.nodup_iff_pairwise_ne] at hn
    have h3 := List.pairwise_map.1 hn
    obtain ⟨i, hi⟩ := List.getElem?_of_mem hx
    obtain ⟨j, hj⟩ := List.getElem?_of_mem (hp.mem_iff.2 hy)
    have hi' := (List.getElem?_eq_some_iff.1 hi).1
    have hj' := (List.getElem?_eq_some_iff.1 hj).1
    have ei := (List.getElem?_eq_some_iff.1 hi).2
    have ej := (List.getElem?_eq_some_iff.1 hj).2
    rcases Nat.lt_trichotomy i j with h | h | h
    · have := List.pairwise_iff_getElem.1 h3 i j hi' hj' h
      rw [ei, ej] at this; exact this e
    · subst h; exact hne (ei.symm.trans ej)
    · have := List.pairwise_iff_getElem.1 h3 j i hj' hi' h
      rw [ei, ej] at this; exact this e.symm
  rcases ahd_total hs with h | h
  · rw [h2] at h; cases h
  · rw [h1] at h; cases h
def ins (a : It) : List It → List It
  | [] => [a]
  | y :: l => if ahd a y then a :: y :: l else y :: ins a l
theorem ins_perm (a : It) : ∀ l, (ins a l).Perm (a :: l)
  | [] => .refl _
  | y :: l => by
    unfold ins
    split
    · exact .refl _
    · exact ((ins_perm a l).cons y).trans (.swap a y l)
theorem ins_sorted (a : It) : ∀ {l : List It}, InL l → InL (ins a l)
  | [], _ => by simp [ins, InL]
  | y :: l, h => by
    have h1 := List.pairwise_cons.1 h
    unfold ins
    split
    · rename_i hay
      refine List.pairwise_cons.2 ⟨fun z hz => ?_, h⟩
      rcases List.mem_cons.1 hz with rfl | hz
      · exact ahd_asymm hay
      · exact nb_trans (ahd_asymm hay) (h1.1 z hz)
    · rename_i hay
      refine List.pairwise_cons.2 ⟨fun z hz => ?_, ins_sorted a h1.2⟩
      rcases List.mem_cons.1 ((ins_perm a l).mem_iff.1 hz) with rfl | hz
      · simpa using hay
      · exact h1.1 z hz
theorem nod_of_map {l : List It} (h : (l.map It.s).Nodup) : l.Nodup := by
  rw [List.nodup_iff_pairwise_ne] at h ⊢
  exact List.Pairwise.imp (fun hne e => hne (congrArg It.s e)) (List.pairwise_map.1 h)
theorem LineIs.come {is L js : List It} {a : It} (h : LineIs is L) (hc : Come is a js) (hn : (js.map It.s).Nodup) (hna : ∀ b ∈ is, b.s ≠ a.s) : LineIs js (ins a L) := by
  have hp1 : (ins a L).Perm (a :: is) := (ins_perm a L).trans (h.perm.cons a)
  have hp2 : js.Perm (a :: is) := by
    have hsub : ∀ c, c ∈ js ↔ c ∈ a :: is := fun c => by rw [hc.mem, List.mem_cons]; exact Or.comm
    have h1 := nod_of_map hn
    have h2 : (a :: is).Nodup := by
      exact List.nodup_cons.2 ⟨fun ha => hna a ha rfl, nod_of_map ((h.perm.map It.s).nodup_iff.1 h.nod)⟩
    exact (List.perm_ext_iff_of_nodup h1 h2).2 hsub
  exact ⟨hp1.trans hp2.symm, ins_sorted a h.sorted, ((hp1.trans hp2.symm).map It.s).nodup_iff.2 hn⟩
theorem LineIs.gone {is L js : List It} {a : It} (h : LineIs is L) (ha : is[0]? = some a) (hh : HeapN is.length is) (hg : Gone is a js) (hn : (js.map It.s).Nodup) : ∃ L', L = a :: L' ∧ LineIs js L' := by
  have hfirst := hh.head (Nat.le_refl _) ha
  cases L with
  | nil => have := h.perm.length_eq; have := (List.getElem?_eq_some_iff.1 ha).1; simp at *; omega
  | cons b L' =>
    have hb := h.perm.mem_iff.1 (List.mem_cons_self ..)
    have hal := h.perm.mem_iff.2 (List.mem_of_getElem? ha)
    obtain ⟨k, hk⟩ := List.getElem?_of_mem hb
    have h1 := hfirst k b (List.getElem?_eq_some_iff.1 hk).1 hk
    have h2 := (List.nodup_cons.1 h.nod).1
    have hab : b = a := by
      rcases List.mem_cons.1 hal with e | hal
      · exact e.symm
      · have h3 := (List.pairwise_cons.1 h.sorted).1 a hal
        have hs : a.s ≠ b.s := fun e => h2 (e ▸ List.mem_map_of_mem hal)
        rcases ahd_total hs with h4 | h4
        · rw [h3] at h4; cases h4
        · rw [h1] at h4; cases h4
    subst hab
    refine ⟨L', rfl, ?_, (List.pairwise_cons.1 h.sorted).2, (List.nodup_cons.1 h.nod).2⟩
    have hnl := nod_of_map h.nod
    refine (List.perm_ext_iff_of_nodup (List.nodup_cons.1 hnl).2 (nod_of_map hn)).2 (fun c => ?_)
    rw [hg.mem, ← h.perm.mem_iff, List.mem_cons]
    constructor
    · intro hc; exact ⟨.inr hc, fun e => (List.nodup_cons.1 hnl).1 (e ▸ hc)⟩
    · rintro ⟨rfl | hc, hne⟩
      · exact absurd rfl hne
      · exact hc
end Go.S
