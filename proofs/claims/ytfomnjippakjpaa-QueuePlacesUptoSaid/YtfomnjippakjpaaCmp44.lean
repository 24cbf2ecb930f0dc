/-
  Items' closure, with the world's form.
-/
import Derived.Test.YtfomnjippakjpaaSortW
import Derived.Test.YtfomnjippakjpaaRows
namespace Go.Proofs.Ytfomnjippakjpaa
open Go.S Go.Proofs Go.Sort Go.Shelf Go.RowKit Go.Lib

set_option maxHeartbeats 1000000 in
theorem aheadW (a b : It) (W : World) : Calls Try.prog 45 #[.agg #[.int .i64 a.p, .int .i64 a.s, .int .i64 a.d], .agg #[.int .i64 b.p, .int .i64 b.s, .int .i64 b.d]] W fun e w' => e = .returned (.bool (ahd a b)) ∧ ∃ os', w' = grow W os' := by
  go_enter Try.func45, Try.ntmps45
  go_wp2
  all_goals go_ret
  all_goals
    refine ⟨?_, _, by rw [alloc_eq_grow, alloc_eq_grow, grow_grow]⟩
    refine congrArg (fun c => Ending.returned (Value.bool c)) (?_ : _ = ahd a b)
    first | (simp [ahd]; omega) | simp [ahd, *]

/-- What the closure hands back. -/
def cf44 (a b : It) : Int := if ahd a b then -1 else 1
set_option maxHeartbeats 1000000 in
theorem cmpW (a b : It) (W : World) : Calls Try.prog 44 #[.agg #[.int .i64 a.p, .int .i64 a.s, .int .i64 a.d], .agg #[.int .i64 b.p, .int .i64 b.s, .int .i64 b.d]] W fun e w' => e = .returned (.int .i64 (cf44 a b)) ∧ ∃ q os', w' = grow (W.drewN q) os' := by
  have hcon := fun W' => aheadW a b W'
  have hcf : cf44 a b = if ahd a b then -1 else 1 := rfl
  generalize ahd a b = r at hcon hcf
  generalize cf44 a b = z at hcf ⊢
  cases r
  all_goals
    simp at hcf
    subst hcf
    go_enter Try.func44, Try.ntmps44
    go_wp2_with (go_at_call 45; refine (hcon _).mono ?_; rintro e w' ⟨rfl, os, rfl⟩)
    go_ret
    exact ⟨rfl, 0, _, by rw [alloc_eq_grow, alloc_eq_grow, grow_grow, grow_grow]; rfl⟩
end Go.Proofs.Ytfomnjippakjpaa
