/-
  What stands and what is written: rows that are kept, rows one cell of which is written; the line that comes back.
-/
import Derived.Test.YtfomnjippakjpaaQAbs
namespace Go.S

theorem Accum.keep {α : Type} {H0 H : Heap} {e k : Nat} {R : Rel α} {v : Value} {ds : List α} {es : List (List Value)} (hR : RMono R) (h : Accum H0 H e k R v ds es) {H1 : Heap} (hs : H.size ≤ H1.size) (hk : ∀ b, fresh H0 H b → H1[b]? = H[b]?) : Accum H0 H1 e k R v ds es :=
  ⟨h.num, h.own.keep (fun g hg => hk g ⟨h.young g hg, h.own.lt hg⟩), h.len, fun i x d hi hd => hR _ _ _ _ _ _ (fun b hb => hk b ⟨hb.1, hb.2.1⟩) (fun b hb => ⟨hb.1, Nat.lt_of_lt_of_le hb.2.1 hs, hb.2.2⟩) (h.rel i x d hi hd), h.young⟩

theorem flat_at {k : Nat} : ∀ (es : List (List Value)) (j : Nat) (x : List Value) (o : Nat), (∀ y ∈ es, y.length = k) → es[j]? = some x → o < k → es.flatten[j * k + o]? = x[o]? := by
  intro es j x o hk hj ho
  have h1 := flat_take es j x hk hj
  rw [← h1, List.getElem?_take, if_pos ho, List.getElem?_drop]
theorem flat_set {k : Nat} (u : Value) : ∀ (es : List (List Value)) (j : Nat) (x : List Value) (o : Nat), (∀ y ∈ es, y.length = k) → es[j]? = some x → o < k → (es.set j (x.set o u)).flatten = es.flatten.set (j * k + o) u := by
  intro es
  induction es with
  | nil => intro j x o _ h _; simp at h
  | cons y es ih =>
    intro j x o hk hj ho
    have hy := hk y (List.mem_cons_self ..)
    cases j with
    | zero =>
      simp only [List.getElem?_cons_zero, Option.some.injEq] at hj
      subst hj
      simp only [List.set_cons_zero, List.flatten_cons, Nat.zero_mul, Nat.zero_add]
      rw [List.set_append_left _ _ (by omega)]
    | succ j =>
      simp only [List.getElem?_cons_succ] at hj
      simp only [List.set_cons_succ, List.flatten_cons]
      rw [ih j x o (fun z hz => hk z (List.mem_cons_of_mem _ hz)) hj ho, List.set_append_right _ _ (by rw [Nat.add_mul]; omega)]
      congr 2
      rw [Nat.add_mul]; omega
/-- A cell of an own row is written. -/
theorem Accum.set {α : Type} {H0 H H1 : Heap} {e k : Nat} {R : Rel α} {v : Value} {ds : List α} {es : List (List Value)} (hR : RMono R) (h : Accum H0 H e k R v ds es) {g j o : Nat} {x : List Value} {d' : α} {u : Value} {cs : List Value}
    (hv : v.ownBlock = some g) (hb : H[g]? = some (.cells cs.toArray e (0, 0))) (hj : es[j]? = some x) (ho : o < k) (hs : H1.size = H.size) (h1 : H1[g]? = some (.cells (cs.set (j * k + o) u).toArray e (0, 0))) (hne : ∀ b, b ≠ g → H1[b]? = H[b]?)
    (hr : R H (zone H0 H v) (x.set o u) d') : Accum H0 H1 e k R v (ds.set j d') (es.set j (x.set o u)) := by
  have hjl : j < es.length := (List.getElem?_eq_some_iff.1 hj).1
  have hxl : x.length = k := h.len x (List.mem_of_getElem? hj)
  have hn := h.num
  have hk' : ∀ b, zone H0 H v b → H1[b]? = H[b]? := fun b hb' => hne b (fun e => hb'.2.2 (by rw [e, hv]))
  have hz' : ∀ b, zone H0 H v b → zone H0 H1 v b := fun b hb' => ⟨hb'.1, by rw [hs]; exact hb'.2.1, hb'.2.2⟩
  refine ⟨by simp [hn], ?_, ?_, ?_, h.young⟩
  · have hfl : (es.set j (x.set o u)).flatten = es.flatten.set (j * k + o) u := flat_set u es j x o h.len hj ho
    have hel : es.flatten.length = es.length * k := flat_len es h.len
    have hlt : j * k + o < es.length * k := by
      have : (j + 1) * k ≤ es.length * k := Nat.mul_le_mul_right _ hjl
      rw [Nat.add_mul] at this; omega
    refine ⟨by rw [hfl]; simp [h.own.1], ?_⟩
    rcases h.own.2 with ⟨rfl, _⟩ | ⟨g', cap, cur, rfl, h0, h3, h4, h5, h6, h7⟩
    · simp [Value.ownBlock] at hv
    · have hgg : g' = g := Option.some.inj hv
      subst hgg
      rw [hb] at h3
      have h3 := Option.some.inj h3
      injection h3 with h3
      subst h3
      refine .inr ⟨g', cap, (cs.set (j * k + o) u).toArray, by simp, h0, h1, by simpa using h4, h5, by simpa using h6, ?_⟩
      rw [hfl]
      simp only [List.length_set]
      have h7 : List.take (ds.length * k) cs = es.flatten := by simpa using h7
      rw [← h7]
      rw [List.take_set]
  · intro y hy
    rcases List.mem_or_eq_of_mem_set hy with hy | rfl
    · exact h.len y hy
    · simp [hxl]
  · intro i y c hi hc
    by_cases e : i = j
    · subst e
      rw [List.getElem?_set_self (by omega)] at hi
      rw [List.getElem?_set_self (by omega)] at hc
      cases hi; cases hc
      exact hR _ _ _ _ _ _ hk' hz' hr
    · rw [List.getElem?_set_ne (Ne.symm e)] at hi hc
      exact hR _ _ _ _ _ _ hk' hz' (h.rel i y c hi hc)
/-- An element of an own row. -/
theorem Accum.at {α : Type} {H0 H : Heap} {e k : Nat} {R : Rel α} {v : Value} {ds : List α} {es : List (List Value)} (h : Accum H0 H e k R v ds es) (hk0 : 0 < k) {j : Nat} {d : α} (hj : ds[j]? = some d) :
    ∃ g c cs x, v = .slice (some ⟨g, 0, none⟩) ds.length c ∧ v.ownBlock = some g ∧ H[g]? = some (.cells (cs : List Value).toArray e (0, 0)) ∧ ds.length * k ≤ cs.length ∧ es[j]? = some x ∧ x.length = k ∧ (cs.drop (0 + j * k)).take k = x ∧ R H (zone H0 H v) x d := by
  have hlt : j < ds.length := (List.getElem?_eq_some_iff.1 hj).1
  have hle : j < es.length := by rw [h.num]; exact hlt
  have hx := List.getElem?_eq_getElem hle
  rcases h.own.2 with ⟨_, h0⟩ | ⟨g, cap, cur, rfl, h0, h3, h4, h5, h6, h7⟩
  · omega
  · refine ⟨g, cap, cur.toList, es[j], rfl, rfl, by simpa using h3, by simp [h6]; exact Nat.mul_le_mul_right _ h4, hx, h.len _ (List.getElem_mem hle), ?_, h.rel j _ d hx hj⟩
    have := flat_take es j es[j] h.len hx
    rw [← h7] at this
    rw [← this, Nat.zero_add, List.drop_take, List.take_take]
    congr 1
    have : (j + 1) * k ≤ ds.length * k := Nat.mul_le_mul_right _ hlt
    rw [Nat.add_mul] at this
    omega
end Go.S
