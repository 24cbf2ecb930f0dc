/-
  A pile: the heap's row, and where its items are.
-/
import Derived.Test.YtfomnjippakjpaaItems
namespace Go.S

/-- What stands of the heap, but for some blocks. -/
structure Frm (M : Nat → Prop) (H H' : Heap) : Prop where
  size : H.size ≤ H'.size
  old : ∀ j, j < H.size → ¬ M j → H'[j]? = H[j]?
theorem Ext.frm {H H' : Heap} (h : Ext H H') (M : Nat → Prop) : Frm M H H' := ⟨h.size, fun j hj _ => h.old j hj⟩
theorem Frm.trans {M : Nat → Prop} {a b c : Heap} (h : Frm M a b) (k : Frm M b c) : Frm M a c := ⟨Nat.le_trans h.size k.size, fun j hj hm => (k.old j (Nat.lt_of_lt_of_le hj h.size) hm).trans (h.old j hj hm)⟩
theorem Frm.refl (M : Nat → Prop) (H : Heap) : Frm M H H := (Ext.refl H).frm M
theorem Frm.wrote {M : Nat → Prop} {H H1 : Heap} {b : Nat} (hs : H1.size = H.size) (hk : ∀ j, j ≠ b → H1[j]? = H[j]?) (hb : b < H.size → M b) : Frm M H H1 :=
  ⟨by omega, fun j hj hm => hk j (fun e => hm (e ▸ hb (e ▸ hj)))⟩
theorem Frm.mono {M M' : Nat → Prop} {H H' : Heap} (h : Frm M H H') (hm : ∀ j, j < H.size → M j → M' j) : Frm M' H H' := ⟨h.size, fun j hj hn => h.old j hj (fun x => hn (hm j hj x))⟩
theorem Frm.keep {M : Nat → Prop} {H H' : Heap} (h : Frm M H H') {b : Nat} {o : Obj} (hb : H[b]? = some o) (hn : ¬ M b) : H'[b]? = some o := (h.old b (lt_of hb) hn).trans hb

/-- Where the items are. -/
structure AtM (es : List MapEntry) (is : List It) : Prop where
  at_ : ∀ (j : Nat) (a : It), is[j]? = some a → look es a.s = some (.int .i64 (j : Int))
  no : ∀ k : Int, (∀ a ∈ is, a.s ≠ k) → look es k = none
theorem AtM.inj {es : List MapEntry} {is : List It} (h : AtM es is) {i j : Nat} {a b : It} (hi : is[i]? = some a) (hj : is[j]? = some b) (e : a.s = b.s) : i = j := by
  have h1 := h.at_ i a hi
  rw [e, h.at_ j b hj] at h1
  simp at h1; omega
theorem AtM.nodup {es : List MapEntry} {is : List It} (h : AtM es is) : (is.map It.s).Nodup := by
  rw [List.nodup_iff_pairwise_ne, List.pairwise_iff_getElem]
  intro i j hi hj hlt e
  simp at hi hj e
  have := h.inj (List.getElem?_eq_getElem hi) (List.getElem?_eq_getElem hj) e
  omega
structure Pile (H : Heap) (l : Nat) (v : Value) (bm : Nat) (is : List It) : Prop where
  line : ∃ T, H[l]? = some (.cells [v, .map (some bm)].toArray T (0, 0))
  own : Own H 69 3 v is.length (icells is)
  map : ∃ es c, H[bm]? = some (.map (es : List MapEntry).toArray c) ∧ MI es c ∧ AtM es is
def pm (l : Nat) (v : Value) (bm : Nat) (j : Nat) : Prop := j = l ∨ v.ownBlock = some j ∨ j = bm
theorem Pile.ext {H H' : Heap} {l bm : Nat} {v : Value} {is : List It} (h : Pile H l v bm is) (hx : Ext H H') : Pile H' l v bm is := by
  obtain ⟨⟨T, h1⟩, h2, es, c, h3, h4⟩ := h
  exact ⟨⟨T, hx.keep h1⟩, h2.keep (fun g hg => hx.old g (h2.lt hg)), es, c, hx.keep h3, h4⟩
/-- Its row. -/
theorem Pile.row {H : Heap} {l bm : Nat} {v : Value} {is : List It} (h : Pile H l v bm is) {j : Nat} {a : It} (hj : is[j]? = some a) :
    ∃ g cap cs, v = .slice (some ⟨g, 0, none⟩) is.length cap ∧ H[g]? = some (.cells (cs : List Value).toArray 69 (0, 0)) ∧ IRow cs is ∧ cs.length = cap * 3 ∧ is.length ≤ cap ∧ cap ≤ maxLen := by
  rcases h.own.2 with ⟨_, h0⟩ | ⟨g, cap, cur, rfl, h0, h3, h4, h5, h6, h7⟩
  · have : is = [] := List.eq_nil_of_length_eq_zero h0
    subst this; simp at hj
  · exact ⟨g, cap, cur.toList, rfl, by simpa using h3, h7, by simpa using h6, h4, h5⟩
theorem Pile.nodup {H : Heap} {l bm : Nat} {v : Value} {is : List It} (h : Pile H l v bm is) : (is.map It.s).Nodup := by
  obtain ⟨_, _, es, c, _, _, h4⟩ := h
  exact h4.nodup
def swp (is : List It) (i j : Nat) (a b : It) : List It := (is.set i b).set j a
theorem swp_get {is : List It} {i j : Nat} {a b : It} (hi : is[i]? = some a) (hj : is[j]? = some b) (x : Nat) : (swp is i j a b)[x]? = if x = j then some a else if x = i then some b else is[x]? := by
  have h1 : i < is.length := (List.getElem?_eq_some_iff.1 hi).1
  have h2 : j < is.length := (List.getElem?_eq_some_iff.1 hj).1
  unfold swp
  rw [List.getElem?_set, List.getElem?_set, List.length_set]
  by_cases e1 : j = x
  · subst e1; simp [h2]
  · rw [if_neg e1, if_neg (Ne.symm e1)]
    by_cases e2 : i = x
    · subst e2; simp [h1]
    · rw [if_neg e2, if_neg (Ne.symm e2)]
theorem swp_len (is : List It) (i j : Nat) (a b : It) : (swp is i j a b).length = is.length := by simp [swp]
theorem swp_mem {is : List It} {i j : Nat} {a b : It} (hi : is[i]? = some a) (hj : is[j]? = some b) (c : It) : c ∈ swp is i j a b ↔ c ∈ is := by
  constructor
  · intro h
    obtain ⟨x, hx⟩ := List.getElem?_of_mem h
    rw [swp_get hi hj] at hx
    split at hx
    · exact (Option.some.inj hx) ▸ List.mem_of_getElem? hi
    · split at hx
      · exact (Option.some.inj hx) ▸ List.mem_of_getElem? hj
      · exact List.mem_of_getElem? hx
  · intro h
    obtain ⟨x, hx⟩ := List.getElem?_of_mem h
    by_cases e1 : x = i
    · subst e1
      rw [hi] at hx
      refine List.mem_of_getElem? (i := j) ?_
      rw [swp_get hi hj, if_pos rfl]; exact hx
    · by_cases e2 : x = j
      · subst e2
        rw [hj] at hx
        refine List.mem_of_getElem? (i := i) ?_
        rw [swp_get hi hj]
        split
        · rename_i h; subst h; rw [hi] at hj; rw [hj]; exact hx
        · rw [if_pos rfl]; exact hx
      · refine List.mem_of_getElem? (i := x) ?_
        rw [swp_get hi hj, if_neg e2, if_neg e1]; exact hx
theorem AtM.swap {es es1 es2 : List MapEntry} {c1 c2 : Nat} {is : List It} (h : AtM es is) {i j : Nat} {a b : It} (hi : is[i]? = some a) (hj : is[j]? = some b)
    (p1 : Put es b.s (.int .i64 (i : Int)) es1 c1) (p2 : Put es1 a.s (.int .i64 (j : Int)) es2 c2) : AtM es2 (swp is i j a b) := by
  constructor
  · intro x c hx
    rw [swp_get hi hj] at hx
    rw [p2.look, p1.look]
    split at hx
    · rename_i hxj; subst hxj; cases hx; rw [if_pos rfl]
    · rename_i hxj
      split at hx
      · rename_i hxi; subst hxi
        cases hx
        rw [if_neg (fun e => hxj (h.inj hi hj e.symm)), if_pos rfl]
      · rename_i hxi
        rw [if_neg (fun e => hxi (h.inj hx hi e)), if_neg (fun e => hxj (h.inj hx hj e))]
        exact h.at_ x c hx
  · intro k hk
    have hk' : ∀ c ∈ is, c.s ≠ k := fun c hc => hk c ((swp_mem hi hj c).2 hc)
    rw [p2.look, p1.look, if_neg (fun e => hk' a (List.mem_of_getElem? hi) e.symm), if_neg (fun e => hk' b (List.mem_of_getElem? hj) e.symm)]
    exact h.no k hk'
theorem AtM.push {es es1 : List MapEntry} {c1 : Nat} {is : List It} (h : AtM es is) {a : It} (hn : ∀ b ∈ is, b.s ≠ a.s) (p : Put es a.s (.int .i64 (is.length : Int)) es1 c1) : AtM es1 (is ++ [a]) := by
  constructor
  · intro x c hx
    rw [p.look]
    by_cases hlt : x < is.length
    · rw [List.getElem?_append_left hlt] at hx
      rw [if_neg (hn c (List.mem_of_getElem? hx))]; exact h.at_ x c hx
    · have : x < (is ++ [a]).length := (List.getElem?_eq_some_iff.1 hx).1
      have : x = is.length := by simp at this; omega
      subst this
      simp at hx; subst hx; rw [if_pos rfl]
  · intro k hk
    rw [p.look, if_neg (fun e => hk a (by simp) e.symm)]
    exact h.no k (fun b hb => hk b (by simp [hb]))
theorem AtM.pop {es es1 : List MapEntry} {c1 : Nat} {is : List It} {a : It} (h : AtM es (is ++ [a])) (p : Del es a.s es1 c1) : AtM es1 is := by
  have ha : (is ++ [a])[is.length]? = some a := by simp
  constructor
  · intro x c hx
    have hlt : x < is.length := (List.getElem?_eq_some_iff.1 hx).1
    have hx' : (is ++ [a])[x]? = some c := by rw [List.getElem?_append_left hlt]; exact hx
    rw [p.look, if_neg (fun e => by have := h.inj hx' ha e; omega)]
    exact h.at_ x c hx'
  · intro k hk
    rw [p.look]
    split
    · rfl
    · rename_i hne
      exact h.no k (fun b hb => by
        rcases List.mem_append.1 hb with hb | hb
        · exact hk b hb
        · simp at hb; subst hb; exact fun e => hne e.symm)
theorem It.ones (a : It) : ∀ u ∈ a.cells, u.oneCell' = true := by
  intro u hu
  simp [It.cells] at hu
  rcases hu with rfl | rfl | rfl <;> rfl
theorem IRow.snd {cs : List Value} {is : List It} (h : IRow cs is) {j : Nat} {a : It} (hj : is[j]? = some a) : cs[0 + j * 3 + 1]? = some (ik a.s) := by
  obtain ⟨h1, h2⟩ := h.at hj
  have h3 : ((cs.drop (0 + j * 3)).take 3)[1]? = some (ik a.s) := by rw [h1]; rfl
  rw [List.getElem?_take, List.getElem?_drop] at h3
  simpa using h3
theorem ne_row {H : Heap} {l g cap T T' : Nat} {u w : Value} {cs : List Value} (hl : H[l]? = some (.cells [u, w].toArray T (0, 0))) (hg : H[g]? = some (.cells cs.toArray T' (0, 0))) (hc : cs.length = cap * 3) : l ≠ g := by
  rintro rfl
  rw [hl] at hg
  have h1 : [u, w] = cs := by simpa using (Obj.cells.inj (Option.some.inj hg)).1
  subst h1
  simp at hc
  omega
theorem ne_map {H : Heap} {l m c T : Nat} {es : List MapEntry} {cs : List Value} {fz : Nat × Nat} (hl : H[l]? = some (.cells cs.toArray T fz)) (hm : H[m]? = some (.map es.toArray c)) : l ≠ m := by
  rintro rfl
  rw [hl] at hm
  cases hm
theorem swp1 {is : List It} {i j : Nat} {a b : It} (hi : is[i]? = some a) (hj : is[j]? = some b) : ∃ b', (is.set i b)[j]? = some b' := by
  have h2 : j < is.length := (List.getElem?_eq_some_iff.1 hj).1
  exact ⟨_, List.getElem?_eq_getElem (by simpa using h2)⟩
theorem swp_i {is : List It} {i j : Nat} {a b : It} (hi : is[i]? = some a) (hj : is[j]? = some b) : (swp is i j a b)[i]? = some b := by
  rw [swp_get hi hj]
  split
  · rename_i h; subst h; rw [hi] at hj; exact hj
  · rw [if_pos rfl]
theorem swp_j {is : List It} {i j : Nat} {a b : It} (hi : is[i]? = some a) (hj : is[j]? = some b) : (swp is i j a b)[j]? = some a := by
  rw [swp_get hi hj, if_pos rfl]
theorem own_of {H : Heap} {g cap : Nat} {cs : List Value} {is : List It} (hg : H[g]? = some (.cells cs.toArray 69 (0, 0))) (hr : IRow cs is) (hc : cs.length = cap * 3) (hl : is.length ≤ cap) (hm : cap ≤ maxLen) :
    Own H 69 3 (.slice (some ⟨g, 0, none⟩) is.length cap) is.length (icells is) :=
  ⟨icells_len is, .inr ⟨g, cap, cs.toArray, rfl, Nat.zero_le _, hg, hl, hm, by simpa using hc, hr⟩⟩
theorem IRow.take {cs : List Value} {is js : List It} (h : IRow cs (is ++ js)) : IRow cs is := by
  unfold IRow at *
  have h1 : is.length * 3 ≤ (is ++ js).length * 3 := Nat.mul_le_mul_right _ (by simp)
  have h2 := congrArg (List.take (is.length * 3)) h
  rw [List.take_take, Nat.min_eq_left h1, icells_take] at h2
  simpa using h2
theorem Pile.frm {M : Nat → Prop} {H H' : Heap} {l bm : Nat} {v : Value} {is : List It} (h : Pile H l v bm is) (hx : Frm M H H') (hM : ∀ j, pm l v bm j → ¬ M j) : Pile H' l v bm is := by
  obtain ⟨⟨T, h1⟩, h2, es, c, h3, h4⟩ := h
  exact ⟨⟨T, hx.keep h1 (hM _ (.inl rfl))⟩, h2.keep (fun g hg => hx.old g (h2.lt hg) (hM _ (.inr (.inl hg)))), es, c, hx.keep h3 (hM _ (.inr (.inr rfl))), h4⟩
theorem Pile.lt {H : Heap} {l bm : Nat} {v : Value} {is : List It} (h : Pile H l v bm is) {j : Nat} (hj : pm l v bm j) : j < H.size := by
  obtain ⟨⟨T, h1⟩, h2, es, c, h3, h4⟩ := h
  rcases hj with rfl | hj | rfl
  · exact lt_of h1
  · exact h2.lt hj
  · exact lt_of h3
end Go.S
