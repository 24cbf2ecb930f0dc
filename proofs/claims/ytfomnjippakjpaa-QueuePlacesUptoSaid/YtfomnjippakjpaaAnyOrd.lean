/-
  A region whose effects come in whatever order: each order is walked.
-/
import Derived.Test.YtfomnjippakjpaaSteps
namespace Go.S
open Go.Flow

section
variable {P : Program} {Q : Exit → Act → Heap → Prop} {n : Nat} {env : Env} {H : Heap}
/-- The operations that are left, in whatever order. -/
def WA (P : Program) (l : List Oper) (Q : Exit → Act → Heap → Prop) (n : Nat) (fuel : Nat) (L : Array Bool) (env : Env) (H : Heap) : Prop :=
  ∀ a w0 w, Sat n env a → Sim w0 w → w.heap = H → wpAny P .any l.toArray (up w0 Q) fuel L a w
/-- What follows one operation. -/
def nxt (P : Program) (l : List Oper) (Q : Exit → Act → Heap → Prop) (n : Nat) (fuel : Nat) (L : Array Bool) : Exit → Act → Heap → Prop
  | .normal, a, H => ∃ env, Sat n env a ∧ WA P l Q n fuel L env H
  | e, a, H => Q e a H
theorem wc_any {id : Nat} {l : List Oper} (hm : P.follows .mixedOrders = true) (h : WA P l Q n l.length (Array.replicate l.length false) env H) : WC P (.region id l.toArray true) Q n env H := by
  intro a w0 w ha hs hw
  refine wp_region_any hm ?_
  exact h a w0 _ ha ⟨hs.os, hs.tape, hs.output⟩ hw
theorem wa_end {l : List Oper} {fuel : Nat} {L : Array Bool} (hr : (Region.ready .any l.toArray L).isEmpty = true) (h : At Q .normal n env H) : WA P l Q n fuel L env H := by
  intro a w0 w ha hs hw
  have hr' : Region.ready .any l.toArray L = [] := List.isEmpty_iff.1 hr
  cases fuel with
  | zero => exact ⟨hr', hs, hw ▸ h a ha⟩
  | succ k => exact ⟨fun _ => ⟨hs, hw ▸ h a ha⟩, fun i hi => by rw [hr'] at hi; cases hi⟩
theorem wpOp_of_list {ops : Array Oper} {Q Q' : Exit → Act → World → Prop} {o : Oper} {i : Nat} {K : Act → World → Prop} {a : Act} {w : World} (ho : ops[i]? = some o) (h : wpList P ops Q' [o] a w) (hn : ∀ a w, Q' .normal a w → K a w)
    (hp : ∀ c a w, Q' (.panic c) a w → Q (.panic c) a w) (hu : ∀ a w, Q' .outgrown a w → Q .outgrown a w) : wpOp P ops Q i K a w := by
  unfold wpOp
  rw [ho]
  simp only [wpList] at h ⊢
  by_cases hw : Region.wanted o (yielded ops a.tmps) = true
  · simp only [hw, if_true] at h ⊢
    rcases h with h | ⟨h1, b, u, h2⟩
    · left
      unfold Oper.wp at h ⊢
      generalize (execOp a.eval o).run P w = res at h ⊢
      cases res with
      | ok n w' =>
        cases n <;> simp only [Oper.upon] at h ⊢
        case value v => exact hn _ _ h
        case skip => exact hn _ _ h
        case defer d => exact hn _ _ h
        case enter f args =>
          refine h.mono fun e w'' he => ?_
          cases e with
          | returned v => exact hn _ _ he
          | panicked c => exact hp _ _ _ he
          | outgrown => obtain ⟨b, u, hq⟩ := he; exact ⟨b, u, hu _ _ hq⟩
        case row row args => exact h.mono fun v w'' he => hn _ _ he
      | halt x w' =>
        cases x <;> simp only [Oper.upon] at h ⊢
        case panic v => exact hp _ _ _ h
    · exact .inr ⟨h1, b, u, hu _ _ h2⟩
  · simp only [hw] at h ⊢
    exact hn _ _ h
theorem wa_step {l : List Oper} {fuel : Nat} {L : Array Bool} (r : List Nat) (hr : Region.ready .any l.toArray L = r) (hne : r.isEmpty = false)
    (h : ∀ i ∈ r, ∃ o, l[i]? = some o ∧ WF P (fun _ => True) [(core l o, 3)] (nxt P l Q n fuel (L.setIfInBounds i true)) n env H) : WA P l Q n (fuel + 1) L env H := by
  intro a w0 w ha hs hw
  refine ⟨fun e => (by rw [hr] at e; subst e; cases hne), fun i hi => ?_⟩
  rw [hr] at hi
  obtain ⟨o, ho, hf⟩ := h i hi
  refine wpOp_of_list (Q' := up w0 (nxt P l Q n fuel (L.setIfInBounds i true))) (by simpa using ho) (fl_list [o] a w (hf a w0 w ha hs hw)) ?_ ?_ ?_
  · rintro a' w' ⟨h1, env', h2, h3⟩
    exact h3 a' w0 w' h2 h1 rfl
  · rintro c a' w' ⟨h1, h2⟩; exact ⟨h1, h2⟩
  · rintro a' w' ⟨h1, h2⟩; exact ⟨h1, h2⟩
/-- One of the operations is done. -/
theorem wa_next {l : List Oper} {fuel : Nat} {L : Array Bool} (h : WA P l Q n fuel L env H) : WF P (fun _ => True) [] (nxt P l Q n fuel L) n env H :=
  wf_nil (fun a ha => ⟨env, ha, h⟩)
end
end Go.S
