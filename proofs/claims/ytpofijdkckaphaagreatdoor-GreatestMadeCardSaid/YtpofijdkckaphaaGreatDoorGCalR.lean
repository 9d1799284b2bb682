/- Days: the reference's calendar. -/
import Derived.Test.YtpofijdkckaphaaGreatDoorGCalP
import Derived.Test.YtpofijdkckaphaaGreatDoorGCalB
namespace Go.Proofs.YtpofijdkckaphaaGreatDoor
open Go.RowKit
set_option maxRecDepth 100000 in
set_option maxHeartbeats 1000000 in
theorem rleap_walk (y : Int) (w : World) :
    Calls Tryz.prog 136 #[.int .i64 y] w fun e w' => e = .returned (.bool (leapB y)) ∧ w = w' := by
  have he : leapB y = (decide (1 ≤ y ∧ y ≤ 9999) && (decide (y % 4 = 0) && (!(decide (y % 100 = 0)) || decide (y % 400 = 0)))) := rfl
  generalize leapB y = R at *
  have HE := Lib.hid he
  clear he
  go_enter Tryz.func136, Tryz.ntmps136
  by_cases h1 : 1 ≤ y
  rotate_left
  · have d1 : decide (y ≥ 1) = false := decide_eq_false h1
    have HR : Hid (R = false) := Lib.hid (by rw [HE.out, decide_eq_false (fun h => h1 h.1)]; rfl)
    clear HE
    go_wp2
    go_ret
    exact ⟨ret_bool HR.out.symm, rfl⟩
  have d1 : decide (y ≥ 1) = true := decide_eq_true h1
  by_cases h2 : y ≤ 9999
  rotate_left
  · have d2 : decide (y ≤ 9999) = false := decide_eq_false h2
    have HR : Hid (R = false) := Lib.hid (by rw [HE.out, decide_eq_false (fun h => h2 h.2)]; rfl)
    clear HE
    go_wp2
    go_ret
    exact ⟨ret_bool HR.out.symm, rfl⟩
  have d2 : decide (y ≤ 9999) = true := decide_eq_true h2
  replace HE : Hid (R = (decide (y % 4 = 0) && (!(decide (y % 100 = 0)) || decide (y % 400 = 0)))) := Lib.hid (by rw [HE.out, decide_eq_true ⟨h1, h2⟩]; rfl)
  have m1 : y.tmod 4 = y % 4 := Int.tmod_eq_emod_of_nonneg (by omega)
  have m2 : y.tmod 100 = y % 100 := Int.tmod_eq_emod_of_nonneg (by omega)
  have m3 : y.tmod 400 = y % 400 := Int.tmod_eq_emod_of_nonneg (by omega)
  have q1 : (y % 4 == 0) = decide (y % 4 = 0) := by rw [Bool.eq_iff_iff]; simp
  have q2 : (y % 100 == 0) = decide (y % 100 = 0) := by rw [Bool.eq_iff_iff]; simp
  have q3 : (y % 400 == 0) = decide (y % 400 = 0) := by rw [Bool.eq_iff_iff]; simp
  have q4 : (y % 100 != 0) = !(decide (y % 100 = 0)) := by rw [bne, q2]
  generalize decide (y % 4 = 0) = b1 at *
  generalize decide (y % 100 = 0) = b2 at *
  generalize decide (y % 400 = 0) = b3 at *
  generalize y % 4 = z1 at *
  generalize y % 100 = z2 at *
  generalize y % 400 = z3 at *
  clear h1 h2
  cases b1 with
  | false =>
    go_wp2
    go_ret
    exact ⟨ret_bool HE.out.symm, rfl⟩
  | true =>
  cases b2 with
  | false =>
    go_wp2
    go_ret
    exact ⟨ret_bool HE.out.symm, rfl⟩
  | true =>
    go_wp2
    go_ret
    exact ⟨ret_bool (by rw [HE.out]; simp), rfl⟩
set_option maxRecDepth 100000 in
set_option maxHeartbeats 2000000 in
theorem rlen_walk (y : Int) (m : Nat) (hm : m < 12) (w : World) :
    Calls Tryz.prog 125 #[.int .i64 y, .int .i64 ((m : Int) + 1)] w fun e w' => e = .returned (.int .i64 (mlen (leapB y) m)) ∧ w = w' := by
  have KL := Lib.hid (rleap_walk y w)
  generalize leapB y = b at *
  obtain ⟨z, hz⟩ : ∃ z : Int, z = (m : Int) + 1 := ⟨_, rfl⟩
  rw [← hz]
  go_enter Tryz.func125, Tryz.ntmps125
  rcases (show m = 0 ∨ m = 1 ∨ m = 2 ∨ m = 3 ∨ m = 4 ∨ m = 5 ∨ m = 6 ∨ m = 7 ∨ m = 8 ∨ m = 9 ∨ m = 10 ∨ m = 11 by omega) with rfl | rfl | rfl | rfl | rfl | rfl | rfl | rfl | rfl | rfl | rfl | rfl
  all_goals
    first
    | (have hz1 : z = 1 := by omega)
    | (have hz1 : z = 2 := by omega)
    | (have hz1 : z = 3 := by omega)
    | (have hz1 : z = 4 := by omega)
    | (have hz1 : z = 5 := by omega)
    | (have hz1 : z = 6 := by omega)
    | (have hz1 : z = 7 := by omega)
    | (have hz1 : z = 8 := by omega)
    | (have hz1 : z = 9 := by omega)
    | (have hz1 : z = 10 := by omega)
    | (have hz1 : z = 11 := by omega)
    | (have hz1 : z = 12 := by omega)
    clear hz
    subst hz1
  all_goals
    cases b
    all_goals
      go_wp2_with (go_at_call 136; (with_reducible refine KL.out.mono ?_); (try rintro e w1 ⟨rfl, rfl⟩))
      go_ret
      exact ⟨rfl, rfl⟩
set_option maxRecDepth 100000 in
set_option maxHeartbeats 2000000 in
theorem rday_walk (y : Int) (m : Nat) (d : Int) (w : World) (y1 : 1 ≤ y) (y2 : y ≤ 9999) (hm : m < 12) (h1 : 1 ≤ d) (h2 : d ≤ mlen (leapB y) m) :
    Calls Tryz.prog 124 #[.int .i64 y, .int .i64 ((m : Int) + 1), .int .i64 d] w fun e w' => e = .returned (.tuple #[.int .i64 (dayF y m d), .int .i64 0]) ∧ w = w' := by
  have hd : dayF y m d = befF y + d - 1 + msum (leapB y) m := rfl
  rw [hd]
  have KL := Lib.hid (fun (j : Nat) (hj : j < 12) V => rlen_walk y j hj V)
  have hbb := befF_bd y1 y2
  have HBE : befF y = 365 * (y - 1) + (y - 1) / 4 - (y - 1) / 100 + (y - 1) / 400 := rfl
  have hml := msum_succ (leapB y) m hm
  have HMS := Lib.hid (msum_succ (leapB y))
  have HMB := Lib.hid (msum_bd (leapB y))
  generalize leapB y = b at *
  obtain ⟨z, hz⟩ : ∃ z, z = y - 1 := ⟨_, rfl⟩
  have w1 : IntKind.i64.wrap (y - 1) = z := by rw [IntKind.wrap_i64]; omega
  rw [← hz] at HBE
  have hz0 : 0 ≤ z := by omega
  have hz1 : z ≤ 9998 := by omega
  have m1 : z.tdiv 4 = z / 4 := Int.tdiv_eq_ediv_of_nonneg hz0
  have m2 : z.tdiv 100 = z / 100 := Int.tdiv_eq_ediv_of_nonneg hz0
  have m3 : z.tdiv 400 = z / 400 := Int.tdiv_eq_ediv_of_nonneg hz0
  have w2 : IntKind.i64.wrap (365 * z) = 365 * z := by rw [IntKind.wrap_i64]; omega
  have w3 : IntKind.i64.wrap (z / 4) = z / 4 := by rw [IntKind.wrap_i64]; omega
  have w4 : IntKind.i64.wrap (z / 100) = z / 100 := by rw [IntKind.wrap_i64]; omega
  have w5 : IntKind.i64.wrap (z / 400) = z / 400 := by rw [IntKind.wrap_i64]; omega
  have w6 : IntKind.i64.wrap (365 * z + z / 4) = 365 * z + z / 4 := by rw [IntKind.wrap_i64]; omega
  have w7 : IntKind.i64.wrap (365 * z + z / 4 - z / 100) = 365 * z + z / 4 - z / 100 := by rw [IntKind.wrap_i64]; omega
  have w8 : IntKind.i64.wrap (365 * z + z / 4 - z / 100 + z / 400) = 365 * z + z / 4 - z / 100 + z / 400 := by rw [IntKind.wrap_i64]; omega
  have d0 : decide (y < 1) = false := decide_eq_false (by omega)
  have d1 : decide (y > 9999) = false := decide_eq_false (by omega)
  have d2 : decide ((m : Int) + 1 < 1) = false := decide_eq_false (by omega)
  have d3 : decide ((m : Int) + 1 > 12) = false := decide_eq_false (by omega)
  have d4 : decide (d < 1) = false := decide_eq_false (by omega)
  have d5 : decide (d > mlen b m) = false := decide_eq_false (by omega)
  have hd31 : d ≤ 31 := by omega
  have HB := Lib.hid HBE
  have HBB := Lib.hid hbb
  have H1 := Lib.hid h1
  generalize befF y = B at *
  clear hz HBE hbb hml y1 y2 hd h2
  go_enter Tryz.func124, Tryz.ntmps124
  go_upto_region 5 with (go_at_call 125; (with_reducible refine (KL.out m hm _).mono ?_); (try rintro e w5 ⟨rfl, rfl⟩))
  rw [← HB.out]
  clear w1 w2 w3 w4 w5 w6 w7 w8 m1 m2 m3 d0 d1 d2 d3 d4 d5 HB
  go_wp2_with fail
  go_loopw [10, 9] (fun jv nv wr => ∃ j : Nat, wr = w ∧ j ≤ m ∧ jv = .int .i64 ((j : Int) + 1) ∧ nv = .int .i64 (B + msum b j)) (fun jv _ _ => 12 - (intOf jv).toNat)
  case atStart => exact ⟨0, rfl, Nat.zero_le _, rfl, by rw [show msum b 0 = 0 from rfl, Int.add_zero]⟩
  case round =>
    obtain ⟨j, rfl, hj, rfl, rfl⟩ := hrel
    have HBo := HBB.out
    by_cases hjm : j < m
    · have hjl : (j : Int) + 1 < (m : Int) + 1 := by omega
      have hjl2 : decide ((j : Int) + 1 < (m : Int) + 1) = true := decide_eq_true hjl
      have hjl3 : (j : Int) < (m : Int) := by omega
      have e1 := (HMS.out j (by omega)).1
      have e2 := HMB.out j (by omega)
      have e3 := HMB.out (j + 1) (by omega)
      have hw4 : IntKind.i64.wrap (B + msum b j + mlen b j) = B + msum b (j + 1) := by rw [IntKind.wrap_i64]; omega
      have hw5 : IntKind.i64.wrap ((j : Int) + 1 + 1) = ((j + 1 : Nat) : Int) + 1 := by rw [IntKind.wrap_i64]; omega
      have hj12 : j < 12 := by omega
      clear e1 e2 e3 HBo
      go_wp2_with (go_at_call 125; (with_reducible refine (KL.out j hj12 _).mono ?_); (try rintro e w5 ⟨rfl, rfl⟩))
      go_roundw
      case rel => exact ⟨j + 1, trivial, by omega, by go_num, rfl⟩
      case measure => simp [intOf]; omega
    · have hjl : ¬ ((j : Int) + 1 < (m : Int) + 1) := by omega
      have hjl2 : decide ((j : Int) + 1 < (m : Int) + 1) = false := decide_eq_false hjl
      have hjl3 : ¬ ((j : Int) < (m : Int)) := by omega
      obtain rfl : j = m := by omega
      have e2 := HMB.out j (by omega)
      have h1 := H1.out
      have hw4 : IntKind.i64.wrap (B + msum b j + d) = B + msum b j + d := by rw [IntKind.wrap_i64]; omega
      have hw5 : IntKind.i64.wrap (B + msum b j + d - 1) = B + d - 1 + msum b j := by rw [IntKind.wrap_i64]; omega
      clear e2 HBo h1 H1
      go_wp2
      go_ret2
      exact ⟨rfl, rfl⟩
set_option maxRecDepth 100000 in
theorem rday_no (y : Int) (a d : Int) (w : World) (y1 : 9999 < y) :
    Calls Tryz.prog 124 #[.int .i64 y, .int .i64 a, .int .i64 d] w fun e w' => e = .returned (.tuple #[.int .i64 0, .int .i64 10]) ∧ w = w' := by
  have d0 : decide (y < 1) = false := decide_eq_false (by omega)
  have d1 : decide (y > 9999) = true := decide_eq_true (by omega)
  clear y1
  go_enter Tryz.func124, Tryz.ntmps124
  go_wp2
  go_ret2
  exact ⟨rfl, rfl⟩
set_option maxRecDepth 100000 in
set_option maxHeartbeats 2000000 in
theorem rdate_walk (n : Int) (w : World) (h0 : 0 ≤ n) (h1 : n ≤ 3652058) :
    Calls Tryz.prog 123 #[.int .i64 n] w fun e w' => e = .returned (.tuple #[.int .i64 (yearF n), .int .i64 ((mthF n : Int) + 1), .int .i64 (domF n), .int .i64 0]) ∧ w = w' := by
  obtain ⟨y1, y2, y3, y4, y5⟩ := year_spec h0 h1
  obtain ⟨f1, f2⟩ := year_from h0 h1
  have HGO := Lib.hid (fun (y : Int) (a : 1 ≤ y) (b : y ≤ yearF n) => year_go h0 h1 a b)
  have KD : Hid (∀ y : Int, 1 ≤ y → y ≤ 9999 → ∀ V, Calls Tryz.prog 124 #[.int .i64 y, .int .i64 1, .int .i64 1] V fun e w' => e = .returned (.tuple #[.int .i64 (befF y), .int .i64 0]) ∧ V = w') := Lib.hid (fun y a b V => by
    have := rday_walk y 0 1 V a b (by decide) (by decide) (by have := msum_succ (leapB y) 0 (by decide); omega)
    rwa [dayF_first] at this)
  have KN : Hid (∀ y : Int, 9999 < y → ∀ V, Calls Tryz.prog 124 #[.int .i64 y, .int .i64 1, .int .i64 1] V fun e w' => e = .returned (.tuple #[.int .i64 0, .int .i64 10]) ∧ V = w') := Lib.hid (fun y a V => rday_no y 1 1 V a)
  have KL := Lib.hid (fun (j : Nat) (hj : j < 12) V => rlen_walk (yearF n) j hj V)
  obtain ⟨im, him, i1, i2⟩ := mon_bd y4 y5
  have hmth : mthF n = im := mon_at him i1 i2
  have hdom : domF n = restF n - msum (leapB (yearF n)) im + 1 := by unfold domF; rw [hmth]
  have HMS := Lib.hid (msum_succ (leapB (yearF n)))
  have HMB := Lib.hid (msum_bd (leapB (yearF n)))
  have HML := Lib.hid (fun (i : Nat) (hi : i < 12) (j : Nat) (hj : j ≤ i) => msum_le (leapB (yearF n)) i hi j hj)
  have HBB := Lib.hid (befF_bd y1 y2)
  rw [hmth, hdom]
  generalize leapB (yearF n) = b at *
  have HY3 := Lib.hid y3
  have hc12 : msum b 12 ≤ 366 := by rw [msum12]; cases b <;> decide
  have HR : Hid ((0 ≤ restF n ∧ restF n ≤ 366) ∧ msum b im ≤ restF n ∧ restF n < msum b (im + 1)) := Lib.hid (by omega)
  generalize restF n = rs at *
  generalize yearF n = Y at *
  have d0 : decide (n < 0) = false := decide_eq_false (by omega)
  have d1 : decide (n > 3652058) = false := decide_eq_false (by omega)
  have m1 : n.tdiv 366 = n / 366 := Int.tdiv_eq_ediv_of_nonneg h0
  have w1 : IntKind.i64.wrap (n / 366) = n / 366 := by rw [IntKind.wrap_i64]; omega
  have w2 : IntKind.i64.wrap (n / 366 + 1) = n / 366 + 1 := by rw [IntKind.wrap_i64]; omega
  clear hmth hdom i1 i2 y3 y4 y5
  go_enter Tryz.func123, Tryz.ntmps123
  go_upto_region 4 with (fail)
  generalize n / 366 + 1 = ya at *
  clear d0 d1 m1 w1 w2
  go_loopw [6] (fun yv wr => ∃ y : Int, wr = w ∧ yv = .int .i64 y ∧ 1 ≤ y ∧ y ≤ Y) (fun yv _ => (Y - intOf yv).toNat)
  case atStart => exact ⟨ya, rfl, rfl, f1, f2⟩
  case round =>
    clear f1 f2
    obtain ⟨y, rfl, rfl, hy1, hy2⟩ := hrel
    have hw1 : IntKind.i64.wrap (y + 1) = y + 1 := by rw [IntKind.wrap_i64]; omega
    by_cases hyY : y < Y
    · obtain ⟨g1, g2⟩ := (HGO.out y hy1 hy2).1 hyY
      have K1 := Lib.hid (KD.out (y + 1) (by omega) g1 wr)
      have hgt : decide (befF (y + 1) > n) = false := decide_eq_false (by omega)
      generalize befF (y + 1) = B1 at *
      clear g1 g2
      go_wp2_with (go_at_call 124; (with_reducible refine K1.out.mono ?_); (try rintro e w5 ⟨rfl, rfl⟩))
      go_roundw
      case rel => exact ⟨y + 1, trivial, rfl, by omega, by omega⟩
      case measure => simp [intOf]; omega
    obtain rfl : y = Y := by omega
    have K2 := Lib.hid (KD.out y y1 y2 wr)
    have HY := HY3.out
    have HBo := HBB.out
    have hw2 : IntKind.i64.wrap (n - befF y) = rs := by rw [IntKind.wrap_i64]; omega
    have key : decide (y + 1 ≤ 9999) = true ∨ decide (y + 1 ≤ 9999) = false := by cases decide (y + 1 ≤ 9999) <;> simp
    clear HBo
    by_cases h9 : y + 1 ≤ 9999
    · have g2 := (HGO.out y hy1 hy2).2 rfl h9
      have K1 := Lib.hid (KD.out (y + 1) (by omega) h9 wr)
      have hgt : decide (befF (y + 1) > n) = true := decide_eq_true (by omega)
      generalize befF (y + 1) = B1 at *
      generalize befF y = B0 at *
      clear g2 key HY HBB HY3
      go_wp2_with (first | (go_at_call 124; (with_reducible refine K1.out.mono ?_); (try rintro e w5 ⟨rfl, rfl⟩)) | (go_at_call 124; (with_reducible refine K2.out.mono ?_); (try rintro e w5 ⟨rfl, rfl⟩)))
      clear K1 K2
      go_loopw [11, 12] (fun mv rv wx => ∃ j : Nat, wx = wr ∧ j ≤ im ∧ mv = .int .i64 ((j : Int) + 1) ∧ rv = .int .i64 (rs - msum b j)) (fun mv _ _ => 12 - (intOf mv).toNat)
      case atStart => exact ⟨0, rfl, Nat.zero_le _, rfl, by rw [show msum b 0 = 0 from rfl, Int.sub_zero]⟩
      case round =>
        obtain ⟨j, rfl, hj, rfl, rfl⟩ := hrel
        obtain ⟨⟨r0, r1⟩, r2, r3⟩ := HR.out
        have e1 := (HMS.out j (by omega)).1
        have e2 := HMB.out j (by omega)
        have hj12 : j < 12 := by omega
        by_cases hji : j < im
        · have e4 := HML.out im him (j + 1) (by omega)
          have e5 := (HMS.out j (by omega)).2
          have hge : decide (rs - msum b j ≥ mlen b j) = true := decide_eq_true (by omega)
          have hw4 : IntKind.i64.wrap (rs - msum b j - mlen b j) = rs - msum b (j + 1) := by rw [IntKind.wrap_i64]; omega
          have hw5 : IntKind.i64.wrap ((j : Int) + 1 + 1) = ((j + 1 : Nat) : Int) + 1 := by rw [IntKind.wrap_i64]; omega
          clear r0 r1 r2 r3 e1 e2 e4 e5
          go_wp2_with (go_at_call 125; (with_reducible refine (KL.out j hj12 _).mono ?_); (try rintro e w5 ⟨rfl, rfl⟩))
          go_roundw
          case rel => exact ⟨j + 1, trivial, by omega, by go_num, rfl⟩
          case measure => simp [intOf]; omega
        · obtain rfl : j = im := by omega
          have hge : decide (rs - msum b j ≥ mlen b j) = false := decide_eq_false (by omega)
          have hw4 : IntKind.i64.wrap (rs - msum b j + 1) = rs - msum b j + 1 := by rw [IntKind.wrap_i64]; omega
          clear r0 r1 r2 r3 e1 e2
          go_wp2_with (go_at_call 125; (with_reducible refine (KL.out j hj12 _).mono ?_); (try rintro e w5 ⟨rfl, rfl⟩))
          exact bodyPost_ret (results_tmp4 rfl _ _ _) rfl ⟨rfl, rfl⟩
    · have K1 := Lib.hid (KN.out (y + 1) (by omega) wr)
      generalize befF y = B0 at *
      clear key HY HBB HY3
      go_wp2_with (first | (go_at_call 124; (with_reducible refine K1.out.mono ?_); (try rintro e w5 ⟨rfl, rfl⟩)) | (go_at_call 124; (with_reducible refine K2.out.mono ?_); (try rintro e w5 ⟨rfl, rfl⟩)))
      clear K1 K2
      go_loopw [11, 12] (fun mv rv wx => ∃ j : Nat, wx = wr ∧ j ≤ im ∧ mv = .int .i64 ((j : Int) + 1) ∧ rv = .int .i64 (rs - msum b j)) (fun mv _ _ => 12 - (intOf mv).toNat)
      case atStart => exact ⟨0, rfl, Nat.zero_le _, rfl, by rw [show msum b 0 = 0 from rfl, Int.sub_zero]⟩
      case round =>
        obtain ⟨j, rfl, hj, rfl, rfl⟩ := hrel
        obtain ⟨⟨r0, r1⟩, r2, r3⟩ := HR.out
        have e1 := (HMS.out j (by omega)).1
        have e2 := HMB.out j (by omega)
        have hj12 : j < 12 := by omega
        by_cases hji : j < im
        · have e4 := HML.out im him (j + 1) (by omega)
          have e5 := (HMS.out j (by omega)).2
          have hge : decide (rs - msum b j ≥ mlen b j) = true := decide_eq_true (by omega)
          have hw4 : IntKind.i64.wrap (rs - msum b j - mlen b j) = rs - msum b (j + 1) := by rw [IntKind.wrap_i64]; omega
          have hw5 : IntKind.i64.wrap ((j : Int) + 1 + 1) = ((j + 1 : Nat) : Int) + 1 := by rw [IntKind.wrap_i64]; omega
          clear r0 r1 r2 r3 e1 e2 e4 e5
          go_wp2_with (go_at_call 125; (with_reducible refine (KL.out j hj12 _).mono ?_); (try rintro e w5 ⟨rfl, rfl⟩))
          go_roundw
          case rel => exact ⟨j + 1, trivial, by omega, by go_num, rfl⟩
          case measure => simp [intOf]; omega
        · obtain rfl : j = im := by omega
          have hge : decide (rs - msum b j ≥ mlen b j) = false := decide_eq_false (by omega)
          have hw4 : IntKind.i64.wrap (rs - msum b j + 1) = rs - msum b j + 1 := by rw [IntKind.wrap_i64]; omega
          clear r0 r1 r2 r3 e1 e2
          go_wp2_with (go_at_call 125; (with_reducible refine (KL.out j hj12 _).mono ?_); (try rintro e w5 ⟨rfl, rfl⟩))
          exact bodyPost_ret (results_tmp4 rfl _ _ _) rfl ⟨rfl, rfl⟩
set_option maxRecDepth 100000 in
theorem radd10_walk (n k : Int) (w : World) (h0 : 0 ≤ n) (h1 : n ≤ 3652058) (k0 : 0 ≤ k) (k1 : k ≤ 100) :
    Calls Tryz.prog 109 #[.int .i64 n, .int .i64 k] w fun e w' => (e = if yearF n + k ≤ 9999 then .returned (.tuple #[.int .i64 (dayF (yearF n + k) (mthF n) (min (domF n) (mlen (leapB (yearF n + k)) (mthF n)))), .int .i64 0]) else .returned (.tuple #[.int .i64 0, .int .i64 10])) ∧ w = w' := by
  have KD := Lib.hid (rdate_walk n w h0 h1)
  obtain ⟨y1, y2, -, -, -⟩ := year_spec h0 h1
  obtain ⟨m1, m2, m3⟩ := mth_spec h0 h1
  have m4 := msum_succ (leapB (yearF n)) (mthF n) m1
  generalize yearF n = y at *
  generalize mthF n = m at *
  generalize domF n = d at *
  have hd31 : d ≤ 31 := by omega
  have e1 : decide (k < -9999) = false := decide_eq_false (by omega)
  have e2 : decide (k > 9999) = false := decide_eq_false (by omega)
  have e3 : decide (y + k < 1) = false := decide_eq_false (by omega)
  have hw1 : IntKind.i64.wrap (y + k) = y + k := by rw [IntKind.wrap_i64]; omega
  clear m3 m4
  by_cases h9 : y + k ≤ 9999
  rotate_left
  · rw [if_neg h9]
    have e4 : decide (y + k > 9999) = true := decide_eq_true (by omega)
    clear h9
    go_enter Tryz.func109, Tryz.ntmps109
    go_wp2_with (go_at_call 123; (with_reducible refine KD.out.mono ?_); (try rintro e w5 ⟨rfl, rfl⟩))
    go_ret2
    exact ⟨rfl, rfl⟩
  rw [if_pos h9]
  have e4 : decide (y + k > 9999) = false := decide_eq_false (by omega)
  have KL := Lib.hid (fun V => rlen_walk (y + k) m m1 V)
  have h5 := msum_succ (leapB (y + k)) m m1
  have KA := Lib.hid (fun V => rday_walk (y + k) m (min d (mlen (leapB (y + k)) m)) V (by omega) h9 m1 (by omega) (by omega))
  generalize leapB (y + k) = b at *
  generalize mlen b m = ml at *
  have hmin : (if ml < d then ml else d) = min d ml := by split <;> omega
  generalize min d ml = dm at *
  clear h9 h5 m2 hd31
  go_enter Tryz.func109, Tryz.ntmps109
  go_wp2_with (first | (go_at_call 123; (with_reducible refine KD.out.mono ?_); (try rintro e w5 ⟨rfl, rfl⟩)) | (go_at_call 125; (with_reducible refine (KL.out _).mono ?_); (try rintro e w6 ⟨rfl, rfl⟩)) | (go_at_call 124; (with_reducible refine (KA.out _).mono ?_); (try rintro e w8 ⟨rfl, rfl⟩)))
  go_ret2
  exact ⟨rfl, rfl⟩
set_option maxRecDepth 100000 in
set_option maxHeartbeats 1000000 in
theorem rwithin_walk (a b k : Int) (w : World) :
    Calls Tryz.prog 83 #[.int .i64 a, .int .i64 b, .int .i64 k] w fun e w' => e = .returned (.bool (wiF a b k)) ∧ w = w' := by
  have he : wiF a b k = if (0 ≤ min a b ∧ max a b ≤ 3652058) ∧ (0 ≤ k ∧ k ≤ 100) then
      if yearF (min a b) + k ≤ 9999 then decide (max a b ≤ dayF (yearF (min a b) + k) (mthF (min a b)) (min (domF (min a b)) (mlen (leapB (yearF (min a b) + k)) (mthF (min a b))))) else true
    else false := rfl
  generalize wiF a b k = R at *
  have hmin : (if b < a then b else a) = min a b := by split <;> omega
  have hmax : (if a < b then b else a) = max a b := by split <;> omega
  have hmx : min a b ≤ max a b := by omega
  generalize min a b = lo at *
  generalize max a b = hi at *
  go_enter Tryz.func83, Tryz.ntmps83
  by_cases hg : (0 ≤ lo ∧ hi ≤ 3652058) ∧ (0 ≤ k ∧ k ≤ 100)
  rotate_left
  · have hR : R = false := by rw [he, if_neg hg]
    have HR := Lib.hid hR
    clear hR he
    by_cases g1 : 0 ≤ lo
    rotate_left
    · have d1 : decide (lo < 0) = true := decide_eq_true (by omega)
      clear hg g1 hmx
      go_wp2
      go_ret
      exact ⟨ret_bool HR.out.symm, rfl⟩
    have d1 : decide (lo < 0) = false := decide_eq_false (by omega)
    by_cases g2 : hi ≤ 3652058
    rotate_left
    · have d2 : decide (hi > 3652058) = true := decide_eq_true (by omega)
      clear hg g1 g2 hmx
      go_wp2
      go_ret
      exact ⟨ret_bool HR.out.symm, rfl⟩
    have d2 : decide (hi > 3652058) = false := decide_eq_false (by omega)
    by_cases g3 : 0 ≤ k
    rotate_left
    · have d3 : decide (k < 0) = true := decide_eq_true (by omega)
      clear hg g1 g2 g3 hmx
      go_wp2
      go_ret
      exact ⟨ret_bool HR.out.symm, rfl⟩
    have d3 : decide (k < 0) = false := decide_eq_false (by omega)
    have d4 : decide (k > 100) = true := decide_eq_true (by omega)
    clear hg g1 g2 g3 hmx
    go_wp2
    go_ret
    exact ⟨ret_bool HR.out.symm, rfl⟩
  rw [if_pos hg] at he
  have KA := Lib.hid (fun V => radd10_walk lo k V hg.1.1 (by omega) hg.2.1 hg.2.2)
  have d1 : decide (lo < 0) = false := decide_eq_false (by omega)
  have d2 : decide (hi > 3652058) = false := decide_eq_false (by omega)
  have d3 : decide (k < 0) = false := decide_eq_false (by omega)
  have d4 : decide (k > 100) = false := decide_eq_false (by omega)
  generalize dayF (yearF lo + k) (mthF lo) (min (domF lo) (mlen (leapB (yearF lo + k)) (mthF lo))) = D at *
  by_cases h9 : yearF lo + k ≤ 9999
  · rw [if_pos h9] at he
    simp only [if_pos h9] at KA
    have HE := Lib.hid he
    clear he h9 hg hmx
    go_wp2_with (go_at_call 109; (with_reducible refine (KA.out _).mono ?_); (try rintro e w5 ⟨rfl, rfl⟩))
    go_ret
    exact ⟨ret_bool HE.out.symm, rfl⟩
  · rw [if_neg h9] at he
    simp only [if_neg h9] at KA
    have HE := Lib.hid he
    clear he h9 hg hmx
    go_wp2_with (go_at_call 109; (with_reducible refine (KA.out _).mono ?_); (try rintro e w5 ⟨rfl, rfl⟩))
    go_ret
    exact ⟨ret_bool HE.out.symm, rfl⟩
end Go.Proofs.YtpofijdkckaphaaGreatDoor
