/-
  A slice that is built of some parts.
-/
import Derived.Test.YtfomnjippakjpaaSteps
namespace Go.S
open Go.Flow (CC)
section
variable {P : Program} {C : Heap → Prop} {Q : Exit → Act → Heap → Prop} {n : Nat} {env : Env} {H : Heap} {d : Option Nat} {ty : TypeId} {g : Option (Option Nat × Bool)} {r : List (SOp × Nat)} {kk : Nat}
theorem DO.mkSliceG {t e k bytes m : Nat} {z : Value} {parts : Array (Nat × Operand)} {vs : List (Nat × Value)} {cs : List Value} (hE : ElTy P t e k z bytes) (hx : parts.toList.mapM (fun x => (opnd env x.2).map (fun v => (x.1, v))) = some vs)
    (hfill : Instr.fill (fun i => some (i * k, k)) ((Array.range (m * k)).map (z.cells[· % z.cells.size]!)) vs = some cs.toArray) (hm : 0 < m * k) (hk : m * k ≤ 16777216) :
    DO P ⟨d, .buildSlice t m parts, ty, g⟩ n env H (.slice (some ⟨H.size, 0, none⟩) m m) (nw H (.cells cs.toArray e)) := fun a w ha hw => by
  obtain ⟨i, i1, i2, i3, i4⟩ := hE.info
  refine ⟨w.alloc (.cells cs.toArray e), ⟨rfl, rfl, rfl⟩, by simp [World.alloc, nw, hw], .inl ?_⟩
  have key : ∀ (l : List (Nat × Operand)) (vs : List (Nat × Value)), l.mapM (fun x => (opnd env x.2).map (fun v => (x.1, v))) = some vs → l.map (fun x => (x.1, a.eval x.2)) = vs := by
    intro l
    induction l with
    | nil => intro vs h; simp at h; simp [h]
    | cons x l ih =>
      intro vs h
      simp only [List.mapM_cons, Option.bind_eq_bind, Option.bind_eq_some_iff, Option.pure_def, Option.some.injEq, Option.map_eq_some_iff] at h
      obtain ⟨v, ⟨u, h1, rfl⟩, vs', h2, rfl⟩ := h
      simp [ha.eval h1, ih _ h2]
  have hvs : (parts.map fun x => (x.1, a.eval x.2)) = vs.toArray := by
    apply Array.ext'
    simpa using key _ _ hx
  have hrun : (Instr.buildSlice t m vs.toArray).run P w = .ok (.slice (some ⟨w.heap.size, 0, none⟩) m m) (w.alloc (.cells cs.toArray e)) := by
    have hz2 : (zeroValue e).run P w = .ok z w := by simp [zeroValue, typeInfo, i1, i2]
    simp only [Instr.buildSlice, run_underlying hE.und, Sem.run_bind, Result.andThen, hE.sz, show ¬ (m * k > 2 ^ 24) by omega, if_false, show ¬ (m * k = 0) by omega, hz2, Sem.run_pure]
    rw [hfill]
    simp [newRow, Result.andThen]
  simp only [execOp, SOp.oper]
  rw [show (parts.map fun (i, x) => (i, a.eval x)) = vs.toArray from hvs]
  simp [hrun, Sem.run_bind, Result.andThen, ← hw]
theorem wf_mkSliceG {t e k bytes m : Nat} {z : Value} {parts : Array (Nat × Operand)} {vs : List (Nat × Value)} {cs : List Value} (hE : ElTy P t e k z bytes) (hx : parts.toList.mapM (fun x => (opnd env x.2).map (fun v => (x.1, v))) = some vs)
    (hfill : Instr.fill (fun i => some (i * k, k)) ((Array.range (m * k)).map (z.cells[· % z.cells.size]!)) vs = some cs.toArray) (hm : Nat.blt 0 (m * k) = true) (hk : Nat.ble (m * k) 16777216 = true) (hg : gd g env = some true) (hd : okD d n = true)
    (h : ∀ (b : Nat) (H1 : Heap), b = H.size → H1.size = H.size + 1 → H1[b]? = some (.cells cs.toArray e (0, 0)) → (∀ j, j < H.size → H1[j]? = H[j]?) → CC kk C H1 ∧ WF P C r Q n (putE d (.slice (some ⟨b, 0, none⟩) m m) env) H1) :
    WF P C ((⟨d, .buildSlice t m parts, ty, g⟩, kk + 2) :: r) Q n env H := by
  obtain ⟨h1, h2⟩ := h H.size (nw H (.cells cs.toArray e)) rfl nw_size (nw_new rfl) (fun j hj => nw_lt hj)
  exact wf_do hg hd (DO.mkSliceG hE hx hfill (Nat.le_of_ble_eq_true hm) (Nat.le_of_ble_eq_true hk)) h1 h2
end
end Go.S
