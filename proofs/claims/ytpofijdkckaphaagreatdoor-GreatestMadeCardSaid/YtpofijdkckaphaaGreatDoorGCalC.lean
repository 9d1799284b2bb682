/- Days: what is some years later, and whether two days are at most some years apart: the program's. -/
import Derived.Test.YtpofijdkckaphaaGreatDoorGCalB
namespace Go.Proofs.YtpofijdkckaphaaGreatDoor
open Go.RowKit
set_option maxRecDepth 100000 in
set_option maxHeartbeats 2000000 in
theorem add_walk10 (n k : Int) (w : World) (h0 : 0 ≤ n) (h1 : n ≤ 3652058) (k0 : 0 ≤ k) (k1 : k ≤ 100) :
    Calls Tryz.prog 117 #[.int .i64 n, .int .i64 k] w fun e w' => (e = if yearF n + k ≤ 9999 then .returned (.tuple #[.int .i64 (dayF (yearF n + k) (mthF n) (min (domF n) (mlen (leapB (yearF n + k)) (mthF n)))), .int .i64 0]) else .returned (.tuple #[.int .i64 0, .int .i64 10])) ∧ Below w.heap.size w w' := by
  have KD := Lib.hid (date_walk n w h0 h1)
  obtain ⟨y1, y2, -, -, -⟩ := year_spec h0 h1
  obtain ⟨m1, m2, m3⟩ := mth_spec h0 h1
  have m4 := msum_succ (leapB (yearF n)) (mthF n) m1
  generalize yearF n = y at *
  generalize mthF n = m at *
  generalize domF n = d at *
  have hd31 : d ≤ 31 := by omega
  have e1 : decide (k < -9999) = false := decide_eq_false (by omega)
  have e2 : decide (k > 9999) = false := decide_eq_false (by omega)
  have hw1 : IntKind.i64.wrap (y + k) = y + k := by rw [IntKind.wrap_i64]; omega
  have KY := Lib.hid (fun V => years_walk (y + k) V)
  clear m3 m4
  by_cases h9 : y + k ≤ 9999
  rotate_left
  · rw [if_neg h9]
    rw [decide_eq_false (show ¬ (1 ≤ y + k ∧ y + k ≤ 9999) from fun h => h9 h.2)] at KY
    clear h9
    go_enter Tryz.func117, Tryz.ntmps117
    go_wp2_with (first | (go_at_call 128; (with_reducible refine KD.out.mono ?_); (first | rintro e w5 rfl hb5 | rintro e w5 ⟨rfl, hb5⟩)) | (go_at_call 129; (with_reducible refine (KY.out _).mono ?_); (try rintro e w6 ⟨rfl, rfl⟩)))
    go_ret2
    exact ⟨rfl, hb5⟩
  rw [if_pos h9]
  rw [decide_eq_true (show 1 ≤ y + k ∧ y + k ≤ 9999 from ⟨by omega, h9⟩)] at KY
  have KL := Lib.hid (fun V => leap_walk (y + k) V)
  have KM := Lib.hid (fun V => months_walk (leapB (y + k)) V)
  have h5 := msum_succ (leapB (y + k)) m m1
  have KA := Lib.hid (fun V => day_walk (y + k) m (min d (mlen (leapB (y + k)) m)) V (by omega) h9 m1 (by omega) (by omega))
  have hidx := fun V => mon_index (leapB (y + k)) m m1 V
  have hmin : (if mlen (leapB (y + k)) m < d then mlen (leapB (y + k)) m else d) = min d (mlen (leapB (y + k)) m) := by split <;> omega
  have hw2 : IntKind.i64.wrap ((m : Int) + 1 - 1) = (m : Int) := by rw [IntKind.wrap_i64]; omega
  generalize (ints (monL (leapB (y + k)))).toArray = AM at *
  generalize leapB (y + k) = b at *
  generalize mlen b m = ml at *
  generalize min d ml = dm at *
  clear h9 h5 m2 hd31
  go_enter Tryz.func117, Tryz.ntmps117
  go_wp2_with (first | (go_at_call 128; (with_reducible refine KD.out.mono ?_); (first | rintro e w5 rfl hb5 | rintro e w5 ⟨rfl, hb5⟩)) | (go_at_call 129; (with_reducible refine (KY.out _).mono ?_); (try rintro e w6 ⟨rfl, rfl⟩)) | (go_at_call 132; (with_reducible refine (KL.out _).mono ?_); (try rintro e w6 ⟨rfl, rfl⟩)) | (go_at_call 131; (with_reducible refine (KM.out _).mono ?_); (first | rintro e w7 rfl hb7 | rintro e w7 ⟨rfl, hb7⟩)) | (go_at_call 130; (with_reducible refine (KA.out _).mono ?_); (first | rintro e w8 rfl hb8 | rintro e w8 ⟨rfl, hb8⟩)))
  go_ret2
  exact ⟨rfl, below_tr (below_tr hb5 hb7) hb8⟩
set_option maxRecDepth 100000 in
set_option maxHeartbeats 1000000 in
theorem within_walk (a b k : Int) (w : World) :
    Calls Tryz.prog 103 #[.int .i64 a, .int .i64 b, .int .i64 k] w fun e w' => e = .returned (.bool (wiF a b k)) ∧ Below w.heap.size w w' := by
  have he : wiF a b k = if (0 ≤ min a b ∧ max a b ≤ 3652058) ∧ (0 ≤ k ∧ k ≤ 100) then
      if yearF (min a b) + k ≤ 9999 then decide (max a b ≤ dayF (yearF (min a b) + k) (mthF (min a b)) (min (domF (min a b)) (mlen (leapB (yearF (min a b) + k)) (mthF (min a b))))) else true
    else false := rfl
  generalize wiF a b k = R at *
  have hmin : (if b < a then b else a) = min a b := by split <;> omega
  have hmax : (if a < b then b else a) = max a b := by split <;> omega
  have hmx : min a b ≤ max a b := by omega
  generalize min a b = lo at *
  generalize max a b = hi at *
  by_cases hg : (0 ≤ lo ∧ hi ≤ 3652058) ∧ (0 ≤ k ∧ k ≤ 100)
  rotate_left
  · have hR : R = false := by rw [he, if_neg hg]
    have HR := Lib.hid hR
    clear hR he
    go_enter Tryz.func103, Tryz.ntmps103
    by_cases g1 : 0 ≤ lo
    rotate_left
    · have d1 : decide (lo < 0) = true := decide_eq_true (by omega)
      clear hg g1 hmx
      go_wp2
      go_ret
      exact ⟨ret_bool HR.out.symm, Below.refl _ _⟩
    have d1 : decide (lo < 0) = false := decide_eq_false (by omega)
    by_cases g2 : hi ≤ 3652058
    rotate_left
    · have d2 : decide (hi > 3652058) = true := decide_eq_true (by omega)
      clear hg g1 g2 hmx
      go_wp2
      go_ret
      exact ⟨ret_bool HR.out.symm, Below.refl _ _⟩
    have d2 : decide (hi > 3652058) = false := decide_eq_false (by omega)
    by_cases g3 : 0 ≤ k
    rotate_left
    · have d3 : decide (k < 0) = true := decide_eq_true (by omega)
      clear hg g1 g2 g3 hmx
      go_wp2
      go_ret
      exact ⟨ret_bool HR.out.symm, Below.refl _ _⟩
    have d3 : decide (k < 0) = false := decide_eq_false (by omega)
    have d4 : decide (k > 100) = true := decide_eq_true (by omega)
    clear hg g1 g2 g3 hmx
    go_wp2
    go_ret
    exact ⟨ret_bool HR.out.symm, Below.refl _ _⟩
  rw [if_pos hg] at he
  obtain ⟨⟨g1, g2⟩, g3, g4⟩ := hg
  have d1 : decide (lo < 0) = false := decide_eq_false (by omega)
  have d2 : decide (hi > 3652058) = false := decide_eq_false (by omega)
  have d3 : decide (k < 0) = false := decide_eq_false (by omega)
  have d4 : decide (k > 100) = false := decide_eq_false (by omega)
  have KA := Lib.hid (add_walk10 lo k w g1 (by omega) g3 g4)
  generalize dayF (yearF lo + k) (mthF lo) (min (domF lo) (mlen (leapB (yearF lo + k)) (mthF lo))) = D at *
  clear g1 g2 g3 g4 hmx
  by_cases h9 : yearF lo + k ≤ 9999
  · rw [if_pos h9] at he KA
    have HR := Lib.hid he
    clear h9 he
    go_enter Tryz.func103, Tryz.ntmps103
    go_wp2_with (go_at_call 117; (with_reducible refine KA.out.mono ?_); (first | rintro e w5 rfl hb5 | rintro e w5 ⟨rfl, hb5⟩))
    go_ret
    exact ⟨ret_bool HR.out.symm, hb5⟩
  · rw [if_neg h9] at he KA
    have HR := Lib.hid he
    clear h9 he
    go_enter Tryz.func103, Tryz.ntmps103
    go_wp2_with (go_at_call 117; (with_reducible refine KA.out.mono ?_); (first | rintro e w5 rfl hb5 | rintro e w5 ⟨rfl, hb5⟩))
    go_ret
    exact ⟨ret_bool HR.out.symm, hb5⟩
end Go.Proofs.YtpofijdkckaphaaGreatDoor
