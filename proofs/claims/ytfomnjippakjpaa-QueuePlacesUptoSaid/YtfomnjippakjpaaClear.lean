/-
  The built-in clear, at a slice of one-cell elements.
-/
import Derived.Test.YtfomnjippakjpaaSteps
namespace Go.S
open Go.Flow (CC)
section
variable {P : Program} {C : Heap → Prop} {Q : Exit → Act → Heap → Prop} {n : Nat} {env : Env} {H : Heap} {d : Option Nat} {ty : TypeId} {g : Option (Option Nat × Bool)} {r : List (SOp × Nat)} {kk : Nat}
theorem zeroCells_one {z : Value} (hz : z.cells = #[z]) (m : Nat) : (Builtin.zeroCells z.cells m).toList = List.replicate m z := by
  rw [hz]
  apply List.ext_getElem
  · simp [Builtin.zeroCells]
  · intro i h1 h2
    simp [Builtin.zeroCells, Nat.mod_one]
theorem wf_clear {t e : TypeId} {x : Operand} {b off m c : Nat} {cs : List Value} {T : TypeId} {z : Value} (hx : opnd env x = some (.slice (some ⟨b, off, none⟩) m c)) (hu : P.underlying t = some (.slice e)) (hz : ∀ w, (zeroValue e).run P w = .ok z w) (hzc : z.cells = #[z]) (hz1 : z.oneCell' = true)
    (hb : H[b]? = some (.cells cs.toArray T (0, 0))) (hl : off + m ≤ cs.length) (hg : gd g env = some true) (hd : okD d n = true)
    (h : ∀ H1 : Heap, H1.size = H.size → H1[b]? = some (.cells (cs.take off ++ List.replicate m z ++ cs.drop (off + m)).toArray T (0, 0)) → (∀ j, j ≠ b → H1[j]? = H[j]?) → CC kk C H1 ∧ WF P C r Q n (putE d (.tuple #[]) env) H1) :
    WF P C ((⟨d, .call ⟨.builtin .clear, #[x], #[t]⟩, ty, g⟩, kk + 2) :: r) Q n env H := by
  obtain ⟨h1, h2⟩ := h (wr H b (.cells (cs.take off ++ List.replicate m z ++ cs.drop (off + m)).toArray T (0, 0))) wr_size (wr_same (lt_of hb)) (fun j hj => wr_ne hj)
  refine wf_do hg hd ?_ h1 h2
  intro a w ha hw
  subst hw
  have hrep : (List.replicate m z).length = m := List.length_replicate
  obtain ⟨w', e1, e2, e3⟩ := run_stores (P := P) (List.replicate m z) off 0 cs w hb (by simpa using hl) (fun v hv => by rw [(List.mem_replicate.1 hv).2]; exact hz1)
  have hrun : (Builtin.clear_ #[t] ty #[.slice (some ⟨b, off, none⟩) m c]).run P w = .ok (.tuple #[]) w' := by
    cases m with
    | zero =>
      have e4 : w' = w := by
        simp [storeCells] at e2
        exact e2.symm
      subst e4
      simp [Builtin.clear_, run_underlying hu, Sem.run_bind, Result.andThen]
    | succ m =>
      simp only [Builtin.clear_, List.getElem?_toArray, List.getElem?_cons_zero, run_underlying hu, Sem.run_bind, Result.andThen, hz, zeroCells_one hzc, e2]
      rfl
  refine ⟨w', e1, by rw [e3]; simp, .inl ?_⟩
  simp [execOp, SOp.oper, resolve, invoke, Go.builtin, ha.eval hx, Sem.run_bind, Result.andThen, hrun]
theorem RD.slL {t e : TypeId} {x lo : Operand} {b off m c k i : Nat} {kl : IntKind} (hx : opnd env x = some (.slice (some ⟨b, off, none⟩) m c)) (hlo : opnd env lo = some (.int kl (i : Int)))
    (hu : P.underlying t = some (.slice e)) (hz : ∀ w, (sizeOf e).run P w = .ok k w) (h1 : i ≤ m) (h2 : m ≤ c) (hlt : i < c) :
    RD P ⟨d, .slice t x (some lo) none none, ty, g⟩ n env H (.slice (some ⟨b, off + i * k, none⟩) (m - i) (c - i)) := fun a w ha _ => by
  have h0 : (0 : Int) ≤ (i : Int) := by omega
  have : (Instr.sliceAt t (.slice (some ⟨b, off, none⟩) m c) (some (.int kl (i : Int))) none none).run P w = .ok (.slice (some ⟨b, off + i * k, none⟩) (m - i) (c - i)) w := by
    simp [Instr.sliceAt, Instr.slice, Instr.sliceBounds, Instr.sliceBound, asIntOf, run_underlying hu, Sem.run_bind, Result.andThen, h0, h1, h2, hz, add_off, show ¬ c = i by omega]
  simp [execOp, SOp.oper, ha.eval hx, ha.eval hlo, Sem.run_bind, Result.andThen, this]
end
end Go.S
