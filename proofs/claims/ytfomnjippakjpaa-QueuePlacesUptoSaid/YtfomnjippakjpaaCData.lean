/-
  A queue's copies, told of their cells.
-/
import Derived.Test.YtfomnjippakjpaaData
namespace Go.S
structure CD where
  (seq ghost body size : Int) (exch key : ByteArray) (flags : Int) (ct ce : ByteArray) (dm pr : Int) (corr reply expn mid : ByteArray) (ts : Int) (typ user app : ByteArray) (expiry prio : Int) (durable red : Bool)
  (hdr : List T) (trail : List ByteArray)
  deriving Inhabited
def CD.props (c : CD) (h : Value) : List Value := [.int .i64 c.flags, .string c.ct, .string c.ce, h, .int .i64 c.dm, .int .i64 c.pr, .string c.corr, .string c.reply, .string c.expn, .string c.mid, .int .i64 c.ts, .string c.typ, .string c.user, .string c.app]
def CD.cells (c : CD) (h t : Value) : List Value := [.int .i64 c.seq, .int .i64 c.ghost, .int .i64 c.body, .int .i64 c.size, .string c.exch, .string c.key,
  .int .i64 c.flags, .string c.ct, .string c.ce, h, .int .i64 c.dm, .int .i64 c.pr, .string c.corr, .string c.reply, .string c.expn, .string c.mid, .int .i64 c.ts, .string c.typ, .string c.user, .string c.app,
  .int .i64 c.expiry, .int .i64 c.prio, t, .bool c.durable, .bool c.red]
def RStr (H : Heap) (Z : Nat → Prop) (v : Value) (ss : List ByteArray) : Prop := RSl H Z 1 (fun cs s => cs = [.string s]) v ss
def RC (f : Nat) : Rel CD := fun H Z cs c => ∃ h t, cs = c.cells h t ∧ RT f H Z h c.hdr ∧ RStr H Z t c.trail ∧ c.hdr.length ≤ lim ∧ c.trail.length ≤ lim
theorem RStr.mono {H : Heap} {Z : Nat → Prop} {v : Value} {ss : List ByteArray} (h : RStr H Z v ss) {H' : Heap} {Z' : Nat → Prop} (hH : ∀ b, Z b → H'[b]? = H[b]?) (hZ : ∀ b, Z b → Z' b) : RStr H' Z' v ss := RSl.mono h hH hZ (fun _ _ _ h => h)
theorem RC.mono (f : Nat) : RMono (RC f) := by
  intro H Z H' Z' x d hH hZ h
  obtain ⟨hv, t, h1, h2, h3, h4⟩ := h
  exact ⟨hv, t, h1, h2.mono hH hZ, h3.mono hH hZ, h4⟩
theorem RC.len {f : Nat} {H : Heap} {Z : Nat → Prop} {x : List Value} {c : CD} (h : RC f H Z x c) : x.length = 25 := by
  obtain ⟨_, _, rfl, _⟩ := h; rfl
theorem CD.one (c : CD) {h t : Value} (hh : h.oneCell' = true) (ht : t.oneCell' = true) : ∀ u ∈ c.cells h t, u.oneCell' = true := by
  intro u hu
  simp only [CD.cells, List.mem_cons, List.not_mem_nil, or_false] at hu
  rcases hu with rfl | rfl | rfl | rfl | rfl | rfl | rfl | rfl | rfl | rfl | rfl | rfl | rfl | rfl | rfl | rfl | rfl | rfl | rfl | rfl | rfl | rfl | rfl | rfl | rfl <;> first | rfl | exact hh | exact ht
theorem CD.pone (c : CD) {h : Value} (hh : h.oneCell' = true) : ∀ u ∈ c.props h, u.oneCell' = true := by
  intro u hu
  simp only [CD.props, List.mem_cons, List.not_mem_nil, or_false] at hu
  rcases hu with rfl | rfl | rfl | rfl | rfl | rfl | rfl | rfl | rfl | rfl | rfl | rfl | rfl | rfl <;> first | rfl | exact hh
theorem RC.one {f : Nat} {H : Heap} {Z : Nat → Prop} {x : List Value} {c : CD} (h : RC f H Z x c) : ∀ u ∈ x, u.oneCell' = true := by
  obtain ⟨_, _, rfl, h2, h3, _⟩ := h; exact c.one (RSl.one h2) (RSl.one h3)
/-- Strings that a row of its own holds. -/
theorem RStr.own {H H' : Heap} {e : Nat} {v' : Value} {ss : List ByteArray} {xs : List Value} (ho : Own H' e 1 v' ss.length xs) (hy : ∀ g, v'.ownBlock = some g → H.size ≤ g) (hx : ∀ (j : Nat) (d : ByteArray), ss[j]? = some d → xs[j]? = some (.string d)) : RStr H' (fresh H H') v' ss := by
  rcases ho.2 with ⟨e1, e2⟩ | ⟨g, cap, cur, e1, _, e3, e4, e5, e6, e7⟩
  · exact .inl ⟨.inl e1, List.eq_nil_of_length_eq_zero e2⟩
  · refine .inr ⟨g, 0, cap, cur.toList, e, (0, 0), e1, ⟨hy g (by rw [e1]; rfl), lt_of e3⟩, by simpa using e3, by simp [e6]; omega, fun j d hj => ?_⟩
    have hlt : j < ss.length := (List.getElem?_eq_some_iff.1 hj).1
    have h1 := hx j d hj
    rw [← e7, List.getElem?_take, if_pos (by omega)] at h1
    have h2 : j < cur.toList.length := (List.getElem?_eq_some_iff.1 h1).1
    rw [Nat.zero_add, Nat.mul_one, List.drop_eq_getElem_cons h2]
    simp only [List.take_succ_cons, List.take_zero]
    congr 1
    exact (List.getElem?_eq_some_iff.1 h1).2
end Go.S
