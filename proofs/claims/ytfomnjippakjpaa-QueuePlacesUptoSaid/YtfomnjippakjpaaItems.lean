/-
  Items in line: a heap's rows, and the order.
-/
import Derived.Test.YtfomnjippakjpaaMaps
namespace Go.S

structure It where
  p : Int
  s : Int
  d : Int
  deriving DecidableEq, Inhabited
def It.cells (i : It) : List Value := [.int .i64 i.p, .int .i64 i.s, .int .i64 i.d]
def icells (is : List It) : List Value := is.flatMap It.cells
theorem icells_len (is : List It) : (icells is).length = is.length * 3 := by
  induction is with
  | nil => rfl
  | cons i is ih => simp only [icells, List.flatMap_cons, List.length_append, List.length_cons] at ih ⊢; rw [ih]; simp [It.cells]; omega
theorem icells_app (a b : List It) : icells (a ++ b) = icells a ++ icells b := by simp [icells]
theorem icells_one (a : It) : icells [a] = a.cells := by simp [icells]
theorem icells_take (is : List It) (j : Nat) : (icells is).take (j * 3) = icells (is.take j) := by
  induction is generalizing j with
  | nil => simp [icells]
  | cons i is ih =>
    cases j with
    | zero => simp [icells]
    | succ j =>
      have : icells (i :: is) = .int .i64 i.p :: .int .i64 i.s :: .int .i64 i.d :: icells is := by simp [icells, It.cells]
      rw [this, Nat.add_mul]
      simp only [Nat.one_mul, List.take_succ_cons, ih]
      simp [icells, It.cells]
theorem icells_drop (is : List It) (j : Nat) : (icells is).drop (j * 3) = icells (is.drop j) := by
  induction is generalizing j with
  | nil => simp [icells]
  | cons i is ih =>
    cases j with
    | zero => simp [icells]
    | succ j =>
      have : icells (i :: is) = .int .i64 i.p :: .int .i64 i.s :: .int .i64 i.d :: icells is := by simp [icells, It.cells]
      rw [this, Nat.add_mul]
      simp only [Nat.one_mul, List.drop_succ_cons, ih]
theorem icells_one_cell {is : List It} : ∀ u ∈ icells is, u.oneCell' = true := by
  intro u hu
  obtain ⟨i, _, hi⟩ := List.mem_flatMap.1 hu
  simp [It.cells] at hi
  rcases hi with rfl | rfl | rfl <;> rfl

/-- A row of items in a block. -/
def IRow (cs : List Value) (is : List It) : Prop := cs.take (is.length * 3) = icells is
theorem IRow.len {cs : List Value} {is : List It} (h : IRow cs is) : is.length * 3 ≤ cs.length := by
  have := congrArg List.length h
  rw [icells_len, List.length_take] at this; omega
theorem IRow.at {cs : List Value} {is : List It} (h : IRow cs is) {j : Nat} {a : It} (hj : is[j]? = some a) : (cs.drop (0 + j * 3)).take 3 = a.cells ∧ 0 + j * 3 + 3 ≤ cs.length := by
  have hlt : j < is.length := (List.getElem?_eq_some_iff.1 hj).1
  have hl := h.len
  refine ⟨?_, by omega⟩
  rw [Nat.zero_add]
  have e1 : cs = icells is ++ cs.drop (is.length * 3) := by rw [← h]; simp
  have e2 : is.drop j = a :: is.drop (j + 1) := by
    rw [List.drop_eq_getElem_cons hlt]
    congr 1
    rw [List.getElem?_eq_getElem hlt] at hj
    exact Option.some.inj hj
  rw [e1, List.drop_append, icells_drop, e2]
  simp [icells, It.cells]
theorem IRow.put {cs : List Value} {is : List It} (h : IRow cs is) {j : Nat} (hj : j < is.length) (a : It) : IRow (cs.take (0 + j * 3) ++ a.cells ++ cs.drop (0 + j * 3 + a.cells.length)) (is.set j a) := by
  have hl := h.len
  have e1 : cs = icells is ++ cs.drop (is.length * 3) := by rw [← h]; simp
  have e2 : is.set j a = is.take j ++ [a] ++ is.drop (j + 1) := by rw [List.set_eq_take_append_cons_drop, if_pos hj]; simp
  unfold IRow
  rw [List.length_set, e2, icells_app, icells_app, icells_one, ← icells_take, ← icells_drop, Nat.zero_add]
  have hc : a.cells.length = 3 := rfl
  have e3 : cs.take (j * 3) = (icells is).take (j * 3) := by
    rw [← h, List.take_take]; congr 1; omega
  rw [hc, e3]
  have e4 : is.length * 3 = ((icells is).take (j * 3) ++ a.cells).length + (is.length * 3 - j * 3 - 3) := by
    rw [List.length_append, List.length_take, icells_len, hc]; omega
  rw [e4, List.take_length_add_append]
  congr 1
  rw [List.take_drop, show j * 3 + 3 + (is.length * 3 - j * 3 - 3) = is.length * 3 by omega, h, Nat.add_mul]
theorem icells_inj : ∀ {a b : List It}, icells a = icells b → a = b := by
  intro a
  induction a with
  | nil => intro b h; cases b with
    | nil => rfl
    | cons y b => simp [icells, It.cells] at h
  | cons x a ih =>
    intro b h
    cases b with
    | nil => simp [icells, It.cells] at h
    | cons y b =>
      simp only [icells, List.flatMap_cons, It.cells, List.cons_append, List.nil_append, List.cons.injEq, Value.int.injEq, true_and] at h
      obtain ⟨h1, h2, h3, h4⟩ := h
      rw [ih h4]
      cases x; cases y; simp_all

theorem LD.el {P : Program} {H : Heap} {t : TypeId} {k b off : Nat} {cs vs : List Value} {T : TypeId} {fz : Nat × Nat} (ha : ∀ w, (isAgg t).run P w = .ok true w) (hz : ∀ w, (sizeOf t).run P w = .ok k w)
    (hb : H[b]? = some (.cells cs.toArray T fz)) (h : (cs.drop off).take k = vs ∧ off + k ≤ cs.length) : LD P H t ⟨b, off, none⟩ (.agg vs.toArray) := by
  rw [← h.1]; exact LD.agg ha hz hb h.2

/-! ### the order -/
def ahd (a b : It) : Bool := decide (b.p < a.p) || (a.p == b.p && decide (a.s < b.s))
theorem ahd_irrefl (a : It) : ahd a a = false := by simp [ahd]
theorem ahd_trans {a b c : It} (h : ahd a b = true) (k : ahd b c = true) : ahd a c = true := by
  simp [ahd] at *; omega
theorem ahd_total {a b : It} (h : a.s ≠ b.s) : ahd a b = true ∨ ahd b a = true := by simp [ahd]; omega
theorem ahd_asymm {a b : It} (h : ahd a b = true) : ahd b a = false := by
  cases hb : ahd b a with
  | false => rfl
  | true => have := ahd_trans h hb; rw [ahd_irrefl] at this; cases this
/-- not behind -/
theorem nb_trans {a b c : It} (h : ahd b a = false) (k : ahd c b = false) : ahd c a = false := by
  simp [ahd] at *; omega
end Go.S
