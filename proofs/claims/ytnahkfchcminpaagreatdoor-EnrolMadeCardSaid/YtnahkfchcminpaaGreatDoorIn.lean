/- ranges.In. -/
import Derived.Test.YtnahkfchcminpaaGreatDoorBase
namespace Go.Proofs.YtnahkfchcminpaaGreatDoor
open Go.RowKit
set_option maxRecDepth 100000 in
theorem in_walk (n lo hi : Int) (w : World) :
    Calls Tryz.prog 28 #[.int .i64 n, .int .i64 lo, .int .i64 hi] w fun e w' => e = .returned (.bool (decide (lo ≤ n) && decide (n ≤ hi))) ∧ w = w' := by
  by_cases h1 : lo ≤ n
  · have d1 : decide (n ≥ lo) = true := by simpa using h1
    have d1' : decide (lo ≤ n) = true := by simpa using h1
    go_enter Tryz.func28, Tryz.ntmps28
    go_wp2
    go_ret
    exact ⟨by simp [h1], rfl⟩
  · have d1 : decide (n ≥ lo) = false := by simpa using h1
    go_enter Tryz.func28, Tryz.ntmps28
    go_wp2
    go_ret
    exact ⟨by simp, rfl⟩
/-- the two answers apart -/
theorem in_yes {n lo hi : Int} (w : World) (h : lo ≤ n ∧ n ≤ hi) : Calls Tryz.prog 28 #[.int .i64 n, .int .i64 lo, .int .i64 hi] w fun e w' => e = .returned (.bool true) ∧ w = w' := by
  have := in_walk n lo hi w
  rwa [decide_eq_true h.1, decide_eq_true h.2] at this
theorem in_no {n lo hi : Int} (w : World) (h : ¬ (lo ≤ n ∧ n ≤ hi)) : Calls Tryz.prog 28 #[.int .i64 n, .int .i64 lo, .int .i64 hi] w fun e w' => e = .returned (.bool false) ∧ w = w' := by
  have := in_walk n lo hi w
  rwa [show (decide (lo ≤ n) && decide (n ≤ hi)) = false by rw [Bool.and_eq_false_iff, decide_eq_false_iff_not, decide_eq_false_iff_not]; omega] at this
end Go.Proofs.YtnahkfchcminpaaGreatDoor
