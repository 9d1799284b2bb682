/- Days: which year a day lies in, as the reference searches it. No program in sight. -/
import Derived.Test.YtejdaeonknpgeaaGreatDoorCalP
namespace Go.Proofs.YtejdaeonknpgeaaGreatDoor
theorem befF_mono {y z : Int} (h : y ≤ z) : befF y ≤ befF z := by unfold befF; omega
theorem msum12 (b : Bool) : msum b 12 = if b then 366 else 365 := by cases b <;> decide
theorem befF_next {y : Int} (h1 : 1 ≤ y) (h2 : y ≤ 9999) : befF (y + 1) = befF y + msum (leapB y) 12 := by
  rw [msum12]
  have hl : leapB y = (decide (y % 4 = 0) && (!(decide (y % 100 = 0)) || decide (y % 400 = 0))) := by
    unfold leapB; rw [decide_eq_true (show 1 ≤ y ∧ y ≤ 9999 from ⟨h1, h2⟩)]; rfl
  rw [hl]
  have e1 : (if (true && (!true || true)) = true then (366 : Int) else 365) = 366 := rfl
  have e2 : (if (true && (!true || false)) = true then (366 : Int) else 365) = 365 := rfl
  have e3 : ∀ c : Bool, (if (true && (!false || c)) = true then (366 : Int) else 365) = 366 := fun c => by cases c <;> rfl
  have e4 : ∀ c : Bool, (if (false && c) = true then (366 : Int) else 365) = 365 := fun c => by cases c <;> rfl
  by_cases a : y % 4 = 0
  · by_cases b : y % 100 = 0
    · by_cases c : y % 400 = 0
      · rw [decide_eq_true a, decide_eq_true b, decide_eq_true c, e1]; unfold befF; omega
      · rw [decide_eq_true a, decide_eq_true b, decide_eq_false c, e2]; unfold befF; omega
    · rw [decide_eq_true a, decide_eq_false b, e3]; unfold befF; omega
  · rw [decide_eq_false a, e4]; unfold befF; omega
/-- the search begins at or ahead of the year -/
theorem year_from {n : Int} (h0 : 0 ≤ n) (h1 : n ≤ 3652058) : 1 ≤ n / 366 + 1 ∧ n / 366 + 1 ≤ yearF n := by
  obtain ⟨y1, y2, y3, y4, y5⟩ := year_spec h0 h1
  have h := befF_next y1 y2
  have hb : befF (yearF n + 1) ≤ 366 * yearF n := by unfold befF; omega
  omega
/-- it goes on just as long as the year is not reached -/
theorem year_go {n y : Int} (h0 : 0 ≤ n) (h1 : n ≤ 3652058) (hy1 : 1 ≤ y) (hy : y ≤ yearF n) : (y < yearF n → y + 1 ≤ 9999 ∧ befF (y + 1) ≤ n) ∧ (y = yearF n → y + 1 ≤ 9999 → n < befF (y + 1)) := by
  obtain ⟨y1, y2, y3, y4, y5⟩ := year_spec h0 h1
  refine ⟨fun h => ⟨by omega, ?_⟩, fun h _ => ?_⟩
  · have := befF_mono (y := y + 1) (z := yearF n) (by omega)
    omega
  · subst h
    have := befF_next y1 y2
    omega
theorem dayF_first (y : Int) : dayF y 0 1 = befF y := by unfold dayF; rw [show msum (leapB y) 0 = 0 from rfl]; omega
end Go.Proofs.YtejdaeonknpgeaaGreatDoor
