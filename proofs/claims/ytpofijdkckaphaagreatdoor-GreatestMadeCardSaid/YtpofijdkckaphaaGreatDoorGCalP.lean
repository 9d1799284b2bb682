/- Days: years, months, what is some years later. No program in sight. -/
import Derived.Test.YtpofijdkckaphaaGreatDoorBase
import Derived.Test.YtpofijdkckaphaaGreatDoorGCndP
import Derived.Laws.Rows
namespace Go.Proofs.YtpofijdkckaphaaGreatDoor
def leapB (y : Int) : Bool := decide (1 ≤ y ∧ y ≤ 9999) && (decide (y % 4 = 0) && (!(decide (y % 100 = 0)) || decide (y % 400 = 0)))
def monL (b : Bool) : List Int := [31, if b then 29 else 28, 31, 30, 31, 30, 31, 31, 30, 31, 30, 31]
def befF (y : Int) : Int := 365 * (y - 1) + (y - 1) / 4 - (y - 1) / 100 + (y - 1) / 400
def mlen (b : Bool) (m : Nat) : Int := (monL b).getD m 0
def msum (b : Bool) (m : Nat) : Int := ((monL b).take m).sum
def kay1 (n : Int) : Int := min (n % 146097 / 36524) 3
def rem1 (n : Int) : Int := n % 146097 - kay1 n * 36524
def kay2 (n : Int) : Int := min (rem1 n / 1461) 24
def rem2 (n : Int) : Int := rem1 n - kay2 n * 1461
def kay3 (n : Int) : Int := min (rem2 n / 365) 3
def restF (n : Int) : Int := rem2 n - kay3 n * 365
def yearF (n : Int) : Int := 1 + n / 146097 * 400 + kay1 n * 100 + kay2 n * 4 + kay3 n * 1
theorem rem1_bd (n : Int) : 0 ≤ kay1 n ∧ kay1 n ≤ 3 ∧ 0 ≤ rem1 n ∧ rem1 n ≤ 36524 ∧ (rem1 n = 36524 → kay1 n = 3) ∧ n % 146097 = kay1 n * 36524 + rem1 n := by
  unfold rem1 kay1; omega
theorem rem2_bd (n : Int) : 0 ≤ kay2 n ∧ kay2 n ≤ 24 ∧ 0 ≤ rem2 n ∧ rem2 n ≤ 1460 ∧ (rem2 n = 1460 → kay2 n = 24 → kay1 n = 3) ∧ rem1 n = kay2 n * 1461 + rem2 n := by
  have := rem1_bd n
  unfold rem2 kay2; omega
theorem rem3_bd (n : Int) : 0 ≤ kay3 n ∧ kay3 n ≤ 3 ∧ 0 ≤ restF n ∧ restF n ≤ 365 ∧ (restF n = 365 → kay3 n = 3 ∧ (kay2 n = 24 → kay1 n = 3)) ∧ rem2 n = kay3 n * 365 + restF n := by
  have := rem2_bd n
  unfold restF kay3; omega
theorem leap_of {q k1 k2 y : Int} (hy : y = 1 + q * 400 + k1 * 100 + k2 * 4 + 3 * 1) (b1 : 0 ≤ k2) (b2 : k2 ≤ 24) (h : k2 = 24 → k1 = 3) : y % 4 = 0 ∧ (y % 100 = 0 → y % 400 = 0) := by
  refine ⟨by omega, fun hz => ?_⟩
  have : k2 = 24 := by omega
  have := h this
  omega
theorem quot_of {q k1 k2 k3 y : Int} (hy : y = 1 + q * 400 + k1 * 100 + k2 * 4 + k3 * 1) (a1 : 0 ≤ k1) (a2 : k1 ≤ 3) (b1 : 0 ≤ k2) (b2 : k2 ≤ 24) (c1 : 0 ≤ k3) (c2 : k3 ≤ 3) : befF y = 146097 * q + 36524 * k1 + 1461 * k2 + 365 * k3 := by
  have e4 : (y - 1) / 4 = 100 * q + 25 * k1 + k2 := by omega
  have e100 : (y - 1) / 100 = 4 * q + k1 := by omega
  have e400 : (y - 1) / 400 = q := by omega
  unfold befF; omega
theorem year_spec {n : Int} (h0 : 0 ≤ n) (h1 : n ≤ 3652058) : 1 ≤ yearF n ∧ yearF n ≤ 9999 ∧ n = befF (yearF n) + restF n ∧ 0 ≤ restF n ∧ restF n < msum (leapB (yearF n)) 12 := by
  obtain ⟨a1, a2, a3, a4, a5, a6⟩ := rem1_bd n
  obtain ⟨b1, b2, b3, b4, b5, b6⟩ := rem2_bd n
  obtain ⟨c1, c2, c3, c4, c5, c6⟩ := rem3_bd n
  have hy : yearF n = 1 + n / 146097 * 400 + kay1 n * 100 + kay2 n * 4 + kay3 n * 1 := rfl
  generalize yearF n = y at *
  generalize restF n = r at *
  generalize rem2 n = s2 at *
  generalize rem1 n = s1 at *
  generalize kay1 n = k1 at *
  generalize kay2 n = k2 at *
  generalize kay3 n = k3 at *
  obtain ⟨q, hq⟩ : ∃ q, n / 146097 = q := ⟨_, rfl⟩
  obtain ⟨m, hm⟩ : ∃ m, n % 146097 = m := ⟨_, rfl⟩
  have hn : n = 146097 * q + m := by omega
  rw [hm] at a6
  rw [hq] at hy
  have hq0 : 0 ≤ q := by omega
  clear hq hm
  have hb := quot_of hy a1 a2 b1 b2 c1 c2
  have hy1 : 1 ≤ y := by omega
  have hy2 : y ≤ 9999 := by omega
  refine ⟨hy1, hy2, by omega, c3, ?_⟩
  by_cases hr : r = 365
  · obtain ⟨d1, d2⟩ := c5 hr
    have hl : leapB y = true := by
      obtain ⟨m4, m100⟩ := leap_of (hy.trans (by rw [d1])) b1 b2 d2
      unfold leapB
      rw [decide_eq_true (show 1 ≤ y ∧ y ≤ 9999 from ⟨hy1, hy2⟩), decide_eq_true m4]
      by_cases z : y % 100 = 0
      · rw [decide_eq_true z, decide_eq_true (m100 z)]; rfl
      · rw [decide_eq_false z]; rfl
    rw [hl, hr]; decide
  · cases leapB y
    · show r < 365; omega
    · show r < 366; omega
def monI (b : Bool) (r : Int) : Nat := if r < msum b 1 then 0 else if r < msum b 2 then 1 else if r < msum b 3 then 2 else if r < msum b 4 then 3 else if r < msum b 5 then 4 else if r < msum b 6 then 5
  else if r < msum b 7 then 6 else if r < msum b 8 then 7 else if r < msum b 9 then 8 else if r < msum b 10 then 9 else if r < msum b 11 then 10 else 11
theorem msum_le (b : Bool) : ∀ i, i < 12 → ∀ j, j ≤ i → msum b j ≤ msum b i := by
  cases b
  · decide
  · decide
theorem msum_succ (b : Bool) : ∀ i, i < 12 → msum b (i + 1) = msum b i + mlen b i ∧ 28 ≤ mlen b i ∧ mlen b i ≤ 31 := by
  cases b
  · decide
  · decide
theorem mon_at {b : Bool} {r : Int} {i : Nat} (hi : i < 12) (h1 : msum b i ≤ r) (h2 : r < msum b (i + 1)) : monI b r = i := by
  have e1 : ∀ j, j ≤ i → msum b j ≤ r := fun j h => Int.le_trans (msum_le b i hi j h) h1
  have step : ∀ {j : Nat} {x y : Nat}, j ≤ i → (if r < msum b j then x else y) = y := fun h => if_neg (by have := e1 _ h; omega)
  have fin : ∀ {x y : Nat}, (if r < msum b (i + 1) then x else y) = x := fun {x y} => if_pos h2
  unfold monI
  rcases (show i = 0 ∨ i = 1 ∨ i = 2 ∨ i = 3 ∨ i = 4 ∨ i = 5 ∨ i = 6 ∨ i = 7 ∨ i = 8 ∨ i = 9 ∨ i = 10 ∨ i = 11 by omega) with rfl | rfl | rfl | rfl | rfl | rfl | rfl | rfl | rfl | rfl | rfl | rfl
  all_goals
    repeat rw [step (by decide)]
    try exact fin
theorem mon_bd {b : Bool} {r : Int} (h0 : 0 ≤ r) (h1 : r < msum b 12) : ∃ i, i < 12 ∧ msum b i ≤ r ∧ r < msum b (i + 1) := by
  have key : ∀ k, k ≤ 12 → r < msum b k → ∃ i, i < 12 ∧ msum b i ≤ r ∧ r < msum b (i + 1) := by
    intro k
    induction k with
    | zero => intro _ h; have : msum b 0 = 0 := rfl; omega
    | succ k ih =>
      intro hk h
      by_cases hr : r < msum b k
      · exact ih (by omega) hr
      · exact ⟨k, by omega, by omega, h⟩
  exact key 12 (Nat.le_refl _) h1
def mthF (n : Int) : Nat := monI (leapB (yearF n)) (restF n)
def domF (n : Int) : Int := restF n - msum (leapB (yearF n)) (mthF n) + 1
theorem mth_spec {n : Int} (h0 : 0 ≤ n) (h1 : n ≤ 3652058) : mthF n < 12 ∧ 1 ≤ domF n ∧ domF n ≤ mlen (leapB (yearF n)) (mthF n) := by
  obtain ⟨-, -, -, a1, a2⟩ := year_spec h0 h1
  obtain ⟨i, hi, i1, i2⟩ := mon_bd a1 a2
  have e : mthF n = i := mon_at hi i1 i2
  have := (msum_succ (leapB (yearF n)) i hi).1
  unfold domF
  rw [e]
  exact ⟨hi, by omega, by omega⟩
/-- a date's number: the month counted from 0 -/
def dayF (y : Int) (m : Nat) (d : Int) : Int := befF y + d - 1 + msum (leapB y) m
/-- two days are at most some years apart -/
def wiF (a b y : Int) : Bool :=
  if (0 ≤ min a b ∧ max a b ≤ 3652058) ∧ (0 ≤ y ∧ y ≤ 100) then
    if yearF (min a b) + y ≤ 9999 then decide (max a b ≤ dayF (yearF (min a b) + y) (mthF (min a b)) (min (domF (min a b)) (mlen (leapB (yearF (min a b) + y)) (mthF (min a b))))) else true
  else false
theorem wiF_comm (a b y : Int) : wiF a b y = wiF b a y := by unfold wiF; rw [Int.min_comm, Int.max_comm]
theorem befF_bd {y : Int} (h1 : 1 ≤ y) (h2 : y ≤ 9999) : 0 ≤ befF y ∧ befF y ≤ 3652058 := by unfold befF; omega
theorem msum_bd (b : Bool) : ∀ i, i < 13 → 0 ≤ msum b i ∧ msum b i ≤ 366 := by
  cases b
  · decide
  · decide
end Go.Proofs.YtpofijdkckaphaaGreatDoor
/- Days: the program's calendar: years, leap years, months, what lies before a year. -/
namespace Go.Proofs.YtpofijdkckaphaaGreatDoor
open Go.RowKit
set_option maxRecDepth 100000 in
theorem years_walk (y : Int) (w : World) :
    Calls Tryz.prog 129 #[.int .i64 y] w fun e w' => e = .returned (.bool (decide (1 ≤ y ∧ y ≤ 9999))) ∧ w = w' := by
  go_enter Tryz.func129, Tryz.ntmps129
  by_cases h1 : 1 ≤ y
  · have d1 : decide (y ≥ 1) = true := decide_eq_true h1
    by_cases h2 : y ≤ 9999
    · have d2 : decide (y ≤ 9999) = true := decide_eq_true h2
      go_wp2
      go_ret
      exact ⟨ret_bool (by rw [decide_eq_true ⟨h1, h2⟩]), rfl⟩
    · have d2 : decide (y ≤ 9999) = false := decide_eq_false h2
      go_wp2
      go_ret
      exact ⟨rfl, rfl⟩
  · have d1 : decide (y ≥ 1) = false := decide_eq_false h1
    go_wp2
    go_ret
    exact ⟨rfl, rfl⟩
set_option maxRecDepth 100000 in
theorem leap_walk (y : Int) (w : World) :
    Calls Tryz.prog 132 #[.int .i64 y] w fun e w' => e = .returned (.bool (leapB y)) ∧ w = w' := by
  have KY := Lib.hid (years_walk y w)
  have he : leapB y = (decide (1 ≤ y ∧ y ≤ 9999) && (decide (y % 4 = 0) && (!(decide (y % 100 = 0)) || decide (y % 400 = 0)))) := rfl
  generalize leapB y = R at *
  go_enter Tryz.func132, Tryz.ntmps132
  by_cases hy : 1 ≤ y ∧ y ≤ 9999
  rotate_left
  · rw [decide_eq_false hy] at KY he
    have HE := Lib.hid he
    clear he hy
    go_wp2_with (go_at_call 129; (with_reducible refine KY.out.mono ?_); (try rintro e w1 ⟨rfl, rfl⟩))
    go_ret
    exact ⟨ret_bool HE.out.symm, rfl⟩
  rw [decide_eq_true hy] at KY he
  have m1 : y.tmod 4 = y % 4 := Int.tmod_eq_emod_of_nonneg (by omega)
  have m2 : y.tmod 100 = y % 100 := Int.tmod_eq_emod_of_nonneg (by omega)
  have m3 : y.tmod 400 = y % 400 := Int.tmod_eq_emod_of_nonneg (by omega)
  have q1 : (y % 4 == 0) = decide (y % 4 = 0) := by rw [Bool.eq_iff_iff]; simp
  have q2 : (y % 100 == 0) = decide (y % 100 = 0) := by rw [Bool.eq_iff_iff]; simp
  have q3 : (y % 400 == 0) = decide (y % 400 = 0) := by rw [Bool.eq_iff_iff]; simp
  have q4 : (y % 100 != 0) = !(decide (y % 100 = 0)) := by rw [bne, q2]
  generalize decide (y % 4 = 0) = b1 at *
  generalize decide (y % 100 = 0) = b2 at *
  generalize decide (y % 400 = 0) = b3 at *
  generalize y % 4 = z1 at *
  generalize y % 100 = z2 at *
  generalize y % 400 = z3 at *
  have HE := Lib.hid he
  clear he hy
  cases b1 with
  | false =>
    go_wp2_with (go_at_call 129; (with_reducible refine KY.out.mono ?_); (try rintro e w1 ⟨rfl, rfl⟩))
    go_ret
    exact ⟨ret_bool HE.out.symm, rfl⟩
  | true =>
  cases b2 with
  | false =>
    go_wp2_with (go_at_call 129; (with_reducible refine KY.out.mono ?_); (try rintro e w1 ⟨rfl, rfl⟩))
    go_ret
    exact ⟨ret_bool HE.out.symm, rfl⟩
  | true =>
    go_wp2_with (go_at_call 129; (with_reducible refine KY.out.mono ?_); (try rintro e w1 ⟨rfl, rfl⟩))
    go_ret
    exact ⟨ret_bool (by rw [HE.out]; simp), rfl⟩
set_option maxRecDepth 100000 in
theorem before_walk (y : Int) (w : World) (h1 : 1 ≤ y) (h2 : y ≤ 9999) :
    Calls Tryz.prog 139 #[.int .i64 y] w fun e w' => e = .returned (.int .i64 (befF y)) ∧ w = w' := by
  have HE : Hid (befF y = 365 * (y - 1) + (y - 1) / 4 - (y - 1) / 100 + (y - 1) / 400) := Lib.hid rfl
  generalize befF y = R at *
  obtain ⟨z, hz⟩ : ∃ z, z = y - 1 := ⟨_, rfl⟩
  have w1 : IntKind.i64.wrap (y - 1) = z := by rw [IntKind.wrap_i64]; omega
  rw [← hz] at HE
  have hz0 : 0 ≤ z := by omega
  have hz1 : z ≤ 9998 := by omega
  have m1 : z.tdiv 4 = z / 4 := Int.tdiv_eq_ediv_of_nonneg hz0
  have m2 : z.tdiv 100 = z / 100 := Int.tdiv_eq_ediv_of_nonneg hz0
  have m3 : z.tdiv 400 = z / 400 := Int.tdiv_eq_ediv_of_nonneg hz0
  have w2 : IntKind.i64.wrap (365 * z) = 365 * z := by rw [IntKind.wrap_i64]; omega
  have w3 : IntKind.i64.wrap (z / 4) = z / 4 := by rw [IntKind.wrap_i64]; omega
  have w4 : IntKind.i64.wrap (z / 100) = z / 100 := by rw [IntKind.wrap_i64]; omega
  have w5 : IntKind.i64.wrap (z / 400) = z / 400 := by rw [IntKind.wrap_i64]; omega
  have w6 : IntKind.i64.wrap (365 * z + z / 4) = 365 * z + z / 4 := by rw [IntKind.wrap_i64]; omega
  have w7 : IntKind.i64.wrap (365 * z + z / 4 - z / 100) = 365 * z + z / 4 - z / 100 := by rw [IntKind.wrap_i64]; omega
  have w8 : IntKind.i64.wrap (365 * z + z / 4 - z / 100 + z / 400) = 365 * z + z / 4 - z / 100 + z / 400 := by rw [IntKind.wrap_i64]; omega
  clear hz h1 h2
  go_enter Tryz.func139, Tryz.ntmps139
  go_wp2
  go_ret
  exact ⟨ret_int HE.out.symm, rfl⟩
set_option maxRecDepth 100000 in
set_option maxHeartbeats 1000000 in
theorem months_walk (b : Bool) (w : World) :
    Calls Tryz.prog 131 #[.bool b] w fun e w' => e = .returned (.agg (ints (monL b)).toArray) ∧ Below w.heap.size w w' := by
  obtain ⟨g0, hg0⟩ : ∃ g, g = w.heap.size := ⟨_, rfl⟩
  have HG := Lib.hid hg0
  have hbw : w.heap.size = g0 := hg0.symm
  have hb0 := ((Below.refl w.heap.size w).alloc (Nat.le_refl _) (.cells #[.int .i64 0, .int .i64 0, .int .i64 0, .int .i64 0, .int .i64 0, .int .i64 0, .int .i64 0, .int .i64 0, .int .i64 0, .int .i64 0, .int .i64 0, .int .i64 0] 153)).alloc (by simp) (.cells #[.int .i64 31, .int .i64 28, .int .i64 31, .int .i64 30, .int .i64 31, .int .i64 30, .int .i64 31, .int .i64 31, .int .i64 30, .int .i64 31, .int .i64 30, .int .i64 31] 153)
  have h0 := (Bx.new w 153 [.int .i64 0, .int .i64 0, .int .i64 0, .int .i64 0, .int .i64 0, .int .i64 0, .int .i64 0, .int .i64 0, .int .i64 0, .int .i64 0, .int .i64 0, .int .i64 0]).alloc (.cells #[.int .i64 31, .int .i64 28, .int .i64 31, .int .i64 30, .int .i64 31, .int .i64 30, .int .i64 31, .int .i64 31, .int .i64 30, .int .i64 31, .int .i64 30, .int .i64 31] 153)
  change Bx ((w.alloc (.cells #[.int .i64 0, .int .i64 0, .int .i64 0, .int .i64 0, .int .i64 0, .int .i64 0, .int .i64 0, .int .i64 0, .int .i64 0, .int .i64 0, .int .i64 0, .int .i64 0] 153)).alloc (.cells #[.int .i64 31, .int .i64 28, .int .i64 31, .int .i64 30, .int .i64 31, .int .i64 30, .int .i64 31, .int .i64 31, .int .i64 30, .int .i64 31, .int .i64 30, .int .i64 31] 153)) _ _ _ at h0
  have h1 := Bx.new (w.alloc (.cells #[.int .i64 0, .int .i64 0, .int .i64 0, .int .i64 0, .int .i64 0, .int .i64 0, .int .i64 0, .int .i64 0, .int .i64 0, .int .i64 0, .int .i64 0, .int .i64 0] 153)) 153 [.int .i64 31, .int .i64 28, .int .i64 31, .int .i64 30, .int .i64 31, .int .i64 30, .int .i64 31, .int .i64 31, .int .i64 30, .int .i64 31, .int .i64 30, .int .i64 31]
  change Bx ((w.alloc (.cells #[.int .i64 0, .int .i64 0, .int .i64 0, .int .i64 0, .int .i64 0, .int .i64 0, .int .i64 0, .int .i64 0, .int .i64 0, .int .i64 0, .int .i64 0, .int .i64 0] 153)).alloc (.cells #[.int .i64 31, .int .i64 28, .int .i64 31, .int .i64 30, .int .i64 31, .int .i64 30, .int .i64 31, .int .i64 31, .int .i64 30, .int .i64 31, .int .i64 30, .int .i64 31] 153)) _ _ _ at h1
  have hz : (w.alloc (.cells #[.int .i64 0, .int .i64 0, .int .i64 0, .int .i64 0, .int .i64 0, .int .i64 0, .int .i64 0, .int .i64 0, .int .i64 0, .int .i64 0, .int .i64 0, .int .i64 0] 153)).heap.size = g0 + 1 := by rw [hg0]; simp
  rw [hz] at h1
  rw [← hg0] at h0 hb0
  obtain ⟨g1, hg1⟩ : ∃ g, g = g0 + 1 := ⟨_, rfl⟩
  rw [← hg1] at h1
  clear hg0 hz
  go_enter Tryz.func131, Tryz.ntmps131
  go_upto_region 2 with (fail)
  rw [← hg1]
  have hlt : g0 < g1 := by omega
  generalize (w.alloc (.cells #[.int .i64 0, .int .i64 0, .int .i64 0, .int .i64 0, .int .i64 0, .int .i64 0, .int .i64 0, .int .i64 0, .int .i64 0, .int .i64 0, .int .i64 0, .int .i64 0] 153)).alloc (.cells #[.int .i64 31, .int .i64 28, .int .i64 31, .int .i64 30, .int .i64 31, .int .i64 30, .int .i64 31, .int .i64 31, .int .i64 30, .int .i64 31, .int .i64 30, .int .i64 31] 153) = w2 at *
  clear hbw hg1
  cases b with
  | false =>
    go_upto_region 4 with (fail)
    generalize w2 = w3 at *
    have c0 := h1.cell 0 rfl
    have c1 := h1.cell 1 rfl
    have c2 := h1.cell 2 rfl
    have c3 := h1.cell 3 rfl
    have c4 := h1.cell 4 rfl
    have c5 := h1.cell 5 rfl
    have c6 := h1.cell 6 rfl
    have c7 := h1.cell 7 rfl
    have c8 := h1.cell 8 rfl
    have c9 := h1.cell 9 rfl
    have c10 := h1.cell 10 rfl
    have c11 := h1.cell 11 rfl
    have d0 := h0.cell 0 rfl
    have f0 := h0.free 0
    have d1 := h0.cell 1 rfl
    have f1 := h0.free 1
    have d2 := h0.cell 2 rfl
    have f2 := h0.free 2
    have d3 := h0.cell 3 rfl
    have f3 := h0.free 3
    have d4 := h0.cell 4 rfl
    have f4 := h0.free 4
    have d5 := h0.cell 5 rfl
    have f5 := h0.free 5
    have d6 := h0.cell 6 rfl
    have f6 := h0.free 6
    have d7 := h0.cell 7 rfl
    have f7 := h0.free 7
    have d8 := h0.cell 8 rfl
    have f8 := h0.free 8
    have d9 := h0.cell 9 rfl
    have f9 := h0.free 9
    have d10 := h0.cell 10 rfl
    have f10 := h0.free 10
    have d11 := h0.cell 11 rfl
    have f11 := h0.free 11
    have hF := ((((((((((((h0.set 0 (.int .i64 31)).set 1 (.int .i64 28)).set 2 (.int .i64 31)).set 3 (.int .i64 30)).set 4 (.int .i64 31)).set 5 (.int .i64 30)).set 6 (.int .i64 31)).set 7 (.int .i64 31)).set 8 (.int .i64 30)).set 9 (.int .i64 31)).set 10 (.int .i64 30)).set 11 (.int .i64 31))
    simp only [List.set_cons_zero, List.set_cons_succ] at hF
    have hbF := ((((((((((((hb0.setCell (p := ⟨g0, 0, none⟩) (Nat.le_refl g0) (.int .i64 31)).setCell (p := ⟨g0, 1, none⟩) (Nat.le_refl g0) (.int .i64 28)).setCell (p := ⟨g0, 2, none⟩) (Nat.le_refl g0) (.int .i64 31)).setCell (p := ⟨g0, 3, none⟩) (Nat.le_refl g0) (.int .i64 30)).setCell (p := ⟨g0, 4, none⟩) (Nat.le_refl g0) (.int .i64 31)).setCell (p := ⟨g0, 5, none⟩) (Nat.le_refl g0) (.int .i64 30)).setCell (p := ⟨g0, 6, none⟩) (Nat.le_refl g0) (.int .i64 31)).setCell (p := ⟨g0, 7, none⟩) (Nat.le_refl g0) (.int .i64 31)).setCell (p := ⟨g0, 8, none⟩) (Nat.le_refl g0) (.int .i64 30)).setCell (p := ⟨g0, 9, none⟩) (Nat.le_refl g0) (.int .i64 31)).setCell (p := ⟨g0, 10, none⟩) (Nat.le_refl g0) (.int .i64 30)).setCell (p := ⟨g0, 11, none⟩) (Nat.le_refl g0) (.int .i64 31))
    replace hbF := hbF.mono (Nat.le_of_eq HG.out.symm)
    have HF := Lib.hid hF
    have HB := Lib.hid hbF
    clear hF hbF h0 h1 hb0 HG
    go_wp2
    generalize ((((((((((((w3.setCell ⟨g0, 0, none⟩ (.int .i64 31)).setCell ⟨g0, 1, none⟩ (.int .i64 28)).setCell ⟨g0, 2, none⟩ (.int .i64 31)).setCell ⟨g0, 3, none⟩ (.int .i64 30)).setCell ⟨g0, 4, none⟩ (.int .i64 31)).setCell ⟨g0, 5, none⟩ (.int .i64 30)).setCell ⟨g0, 6, none⟩ (.int .i64 31)).setCell ⟨g0, 7, none⟩ (.int .i64 31)).setCell ⟨g0, 8, none⟩ (.int .i64 30)).setCell ⟨g0, 9, none⟩ (.int .i64 31)).setCell ⟨g0, 10, none⟩ (.int .i64 30)).setCell ⟨g0, 11, none⟩ (.int .i64 31)) = wF at *
    have hA : (ints (monL false)).toArray = #[.int .i64 31, .int .i64 28, .int .i64 31, .int .i64 30, .int .i64 31, .int .i64 30, .int .i64 31, .int .i64 31, .int .i64 30, .int .i64 31, .int .i64 30, .int .i64 31] := rfl
    rw [hA]
    exact bodyPost_ret (results_cell_row rfl _ _ g0 _ #[.int .i64 31, .int .i64 28, .int .i64 31, .int .i64 30, .int .i64 31, .int .i64 30, .int .i64 31, .int .i64 31, .int .i64 30, .int .i64 31, .int .i64 30, .int .i64 31] _ _ rfl HF.out Tryz.underlying153 rfl (by kernel_rfl)) rfl ⟨rfl, HB.out⟩
  | true =>
    have c1 := h1.cell 1 rfl
    have f1 := h1.free 1
    replace h0 := h0.other (b := g1) (by omega) 1 (.int .i64 29)
    replace h1 := h1.set 1 (.int .i64 29)
    change Bx _ _ _ [.int .i64 31, .int .i64 29, .int .i64 31, .int .i64 30, .int .i64 31, .int .i64 30, .int .i64 31, .int .i64 31, .int .i64 30, .int .i64 31, .int .i64 30, .int .i64 31] at h1
    replace hb0 := hb0.setCell (p := ⟨g1, 1, none⟩) (by show g0 ≤ g1; omega) (.int .i64 29)
    go_upto_region 4 with (fail)
    clear c1 f1
    generalize w2.setCell ⟨g1, 1, none⟩ (.int .i64 29) = w3 at *
    have c0 := h1.cell 0 rfl
    have c1 := h1.cell 1 rfl
    have c2 := h1.cell 2 rfl
    have c3 := h1.cell 3 rfl
    have c4 := h1.cell 4 rfl
    have c5 := h1.cell 5 rfl
    have c6 := h1.cell 6 rfl
    have c7 := h1.cell 7 rfl
    have c8 := h1.cell 8 rfl
    have c9 := h1.cell 9 rfl
    have c10 := h1.cell 10 rfl
    have c11 := h1.cell 11 rfl
    have d0 := h0.cell 0 rfl
    have f0 := h0.free 0
    have d1 := h0.cell 1 rfl
    have f1 := h0.free 1
    have d2 := h0.cell 2 rfl
    have f2 := h0.free 2
    have d3 := h0.cell 3 rfl
    have f3 := h0.free 3
    have d4 := h0.cell 4 rfl
    have f4 := h0.free 4
    have d5 := h0.cell 5 rfl
    have f5 := h0.free 5
    have d6 := h0.cell 6 rfl
    have f6 := h0.free 6
    have d7 := h0.cell 7 rfl
    have f7 := h0.free 7
    have d8 := h0.cell 8 rfl
    have f8 := h0.free 8
    have d9 := h0.cell 9 rfl
    have f9 := h0.free 9
    have d10 := h0.cell 10 rfl
    have f10 := h0.free 10
    have d11 := h0.cell 11 rfl
    have f11 := h0.free 11
    have hF := ((((((((((((h0.set 0 (.int .i64 31)).set 1 (.int .i64 29)).set 2 (.int .i64 31)).set 3 (.int .i64 30)).set 4 (.int .i64 31)).set 5 (.int .i64 30)).set 6 (.int .i64 31)).set 7 (.int .i64 31)).set 8 (.int .i64 30)).set 9 (.int .i64 31)).set 10 (.int .i64 30)).set 11 (.int .i64 31))
    simp only [List.set_cons_zero, List.set_cons_succ] at hF
    have hbF := ((((((((((((hb0.setCell (p := ⟨g0, 0, none⟩) (Nat.le_refl g0) (.int .i64 31)).setCell (p := ⟨g0, 1, none⟩) (Nat.le_refl g0) (.int .i64 29)).setCell (p := ⟨g0, 2, none⟩) (Nat.le_refl g0) (.int .i64 31)).setCell (p := ⟨g0, 3, none⟩) (Nat.le_refl g0) (.int .i64 30)).setCell (p := ⟨g0, 4, none⟩) (Nat.le_refl g0) (.int .i64 31)).setCell (p := ⟨g0, 5, none⟩) (Nat.le_refl g0) (.int .i64 30)).setCell (p := ⟨g0, 6, none⟩) (Nat.le_refl g0) (.int .i64 31)).setCell (p := ⟨g0, 7, none⟩) (Nat.le_refl g0) (.int .i64 31)).setCell (p := ⟨g0, 8, none⟩) (Nat.le_refl g0) (.int .i64 30)).setCell (p := ⟨g0, 9, none⟩) (Nat.le_refl g0) (.int .i64 31)).setCell (p := ⟨g0, 10, none⟩) (Nat.le_refl g0) (.int .i64 30)).setCell (p := ⟨g0, 11, none⟩) (Nat.le_refl g0) (.int .i64 31))
    replace hbF := hbF.mono (Nat.le_of_eq HG.out.symm)
    have HF := Lib.hid hF
    have HB := Lib.hid hbF
    clear hF hbF h0 h1 hb0 HG
    go_wp2
    generalize ((((((((((((w3.setCell ⟨g0, 0, none⟩ (.int .i64 31)).setCell ⟨g0, 1, none⟩ (.int .i64 29)).setCell ⟨g0, 2, none⟩ (.int .i64 31)).setCell ⟨g0, 3, none⟩ (.int .i64 30)).setCell ⟨g0, 4, none⟩ (.int .i64 31)).setCell ⟨g0, 5, none⟩ (.int .i64 30)).setCell ⟨g0, 6, none⟩ (.int .i64 31)).setCell ⟨g0, 7, none⟩ (.int .i64 31)).setCell ⟨g0, 8, none⟩ (.int .i64 30)).setCell ⟨g0, 9, none⟩ (.int .i64 31)).setCell ⟨g0, 10, none⟩ (.int .i64 30)).setCell ⟨g0, 11, none⟩ (.int .i64 31)) = wF at *
    have hA : (ints (monL true)).toArray = #[.int .i64 31, .int .i64 29, .int .i64 31, .int .i64 30, .int .i64 31, .int .i64 30, .int .i64 31, .int .i64 31, .int .i64 30, .int .i64 31, .int .i64 30, .int .i64 31] := rfl
    rw [hA]
    exact bodyPost_ret (results_cell_row rfl _ _ g0 _ #[.int .i64 31, .int .i64 29, .int .i64 31, .int .i64 30, .int .i64 31, .int .i64 30, .int .i64 31, .int .i64 31, .int .i64 30, .int .i64 31, .int .i64 30, .int .i64 31] _ _ rfl HF.out Tryz.underlying153 rfl (by kernel_rfl)) rfl ⟨rfl, HB.out⟩
end Go.Proofs.YtpofijdkckaphaaGreatDoor
/- Days: which year a day lies in, as the reference searches it. No program in sight. -/
namespace Go.Proofs.YtpofijdkckaphaaGreatDoor
theorem befF_mono {y z : Int} (h : y ≤ z) : befF y ≤ befF z := by unfold befF; omega
theorem msum12 (b : Bool) : msum b 12 = if b then 366 else 365 := by cases b <;> decide
theorem befF_next {y : Int} (h1 : 1 ≤ y) (h2 : y ≤ 9999) : befF (y + 1) = befF y + msum (leapB y) 12 := by
  rw [msum12]
  have hl : leapB y = (decide (y % 4 = 0) && (!(decide (y % 100 = 0)) || decide (y % 400 = 0))) := by
    unfold leapB; rw [decide_eq_true (show 1 ≤ y ∧ y ≤ 9999 from ⟨h1, h2⟩)]; rfl
  rw [hl]
  have e1 : (if (true && (!true || true)) = true then (366 : Int) else 365) = 366 := rfl
  have e2 : (if (true && (!true || false)) = true then (366 : Int) else 365) = 365 := rfl
  have e3 : ∀ c : Bool, (if (true && (!false || c)) = true then (366 : Int) else 365) = 366 := fun c => by cases c <;> rfl
  have e4 : ∀ c : Bool, (if (false && c) = true then (366 : Int) else 365) = 365 := fun c => by cases c <;> rfl
  by_cases a : y % 4 = 0
  · by_cases b : y % 100 = 0
    · by_cases c : y % 400 = 0
      · rw [decide_eq_true a, decide_eq_true b, decide_eq_true c, e1]; unfold befF; omega
      · rw [decide_eq_true a, decide_eq_true b, decide_eq_false c, e2]; unfold befF; omega
    · rw [decide_eq_true a, decide_eq_false b, e3]; unfold befF; omega
  · rw [decide_eq_false a, e4]; unfold befF; omega
/-- the search begins at or ahead of the year -/
theorem year_from {n : Int} (h0 : 0 ≤ n) (h1 : n ≤ 3652058) : 1 ≤ n / 366 + 1 ∧ n / 366 + 1 ≤ yearF n := by
  obtain ⟨y1, y2, y3, y4, y5⟩ := year_spec h0 h1
  have h := befF_next y1 y2
  have hb : befF (yearF n + 1) ≤ 366 * yearF n := by unfold befF; omega
  omega
/-- it goes on just as long as the year is not reached -/
theorem year_go {n y : Int} (h0 : 0 ≤ n) (h1 : n ≤ 3652058) (hy1 : 1 ≤ y) (hy : y ≤ yearF n) : (y < yearF n → y + 1 ≤ 9999 ∧ befF (y + 1) ≤ n) ∧ (y = yearF n → y + 1 ≤ 9999 → n < befF (y + 1)) := by
  obtain ⟨y1, y2, y3, y4, y5⟩ := year_spec h0 h1
  refine ⟨fun h => ⟨by omega, ?_⟩, fun h _ => ?_⟩
  · have := befF_mono (y := y + 1) (z := yearF n) (by omega)
    omega
  · subst h
    have := befF_next y1 y2
    omega
theorem dayF_first (y : Int) : dayF y 0 1 = befF y := by unfold dayF; rw [show msum (leapB y) 0 = 0 from rfl]; omega
end Go.Proofs.YtpofijdkckaphaaGreatDoor
