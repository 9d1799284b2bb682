/- The reference's powers in a group. -/
import Derived.Test.YtnahkfchcminpaaGreatDoorGNoDiv
namespace Go.Proofs.YtnahkfchcminpaaGreatDoor
open Go.RowKit
/-! ### Powers -/
set_option maxRecDepth 100000 in
theorem rpow_walk (m x e : Nat) (w : World) (hm : 2 ≤ m) (hm2 : m ≤ 2147483649) (hx : x < m) (he : e < 9223372036854775808) :
    Calls Tryz.prog 64 #[.int .i64 (m : Int), .int .i64 (x : Int), .int .i64 (e : Int)] w fun r w' => r = .returned (.int .i64 ((x ^ e % m : Nat) : Int)) ∧ w = w' := by
  have HE := Lib.hid he
  obtain ⟨M, hM⟩ : ∃ M : Int, M = (m : Int) := ⟨_, rfl⟩
  have HM := Lib.hid hM
  obtain ⟨R, hR⟩ : ∃ R : Int, R = ((x ^ e % m : Nat) : Int) := ⟨_, rfl⟩
  have HR := Lib.hid hR
  have hM2 : 2 ≤ M := by omega
  have hM3 : M ≤ 2147483649 := by omega
  obtain ⟨X, hX⟩ : ∃ X : Int, X = (x : Int) := ⟨_, rfl⟩
  have HX := Lib.hid hX
  have hX0 : 0 ≤ X := by omega
  have hX1 : X < M := by omega
  rw [← hM, ← hX, ← hR]
  clear he hM hR hX hx hm hm2
  go_enter Tryz.func64, Tryz.ntmps64
  go_wp2
  go_loopw [1, 2, 7] (fun u v o wr => ∃ (k : Nat) (y z : Int), wr = w ∧ u = .int .i64 y ∧ v = .int .i64 (k : Int) ∧ o = .int .i64 z ∧ 0 ≤ y ∧ y < M ∧ 0 ≤ z ∧ z < M ∧ Hid (k < 9223372036854775808) ∧ Hid (z.toNat * y.toNat ^ k % m = x ^ e % m)) (fun _ v _ _ => (intOf v).toNat)
  case atStart => exact ⟨e, X, 1, rfl, rfl, rfl, rfl, hX0, hX1, by omega, by omega, HE, by show _ = _; rw [HX.out]; simp⟩
  case round =>
    obtain ⟨k, y, z, rfl, rfl, rfl, rfl, hy0, hy1, hz0, hz1, HK, HP⟩ := hrel
    by_cases h0 : k = 0
    · subst h0
      have hR : z = R := by
        have h := HP.out
        have hM := HM.out
        rw [Nat.pow_zero, Nat.mul_one, Nat.mod_eq_of_lt (by omega)] at h
        rw [HR.out, ← h]
        omega
      have HZ := Lib.hid hR
      clear hR HP
      go_wp2
      go_ret
      exact ⟨ret_int HZ.out, rfl⟩
    · have hpos : (0 : Int) < (k : Int) := by omega
      have ha1 := i64_and1 k HK.out
      have HK2 : Hid (k / 2 < 9223372036854775808) := by have := HK.out; show _ < _; omega
      obtain ⟨y0, y1⟩ : 0 ≤ y * y ∧ y * y < 9223372036854775808 := by
        have := sq_le hy0 (show y ≤ 2147483648 by omega); omega
      obtain ⟨z0, z1⟩ : 0 ≤ z * y ∧ z * y < 9223372036854775808 := by
        have h1 := Int.mul_nonneg hz0 hy0
        have h2 := Int.mul_le_mul (show z ≤ 2147483648 by omega) (show y ≤ 2147483648 by omega) hy0 (by omega)
        omega
      have ym0 := Int.emod_nonneg (y * y) (show M ≠ 0 by omega)
      have ym1 := Int.emod_lt_of_pos (y * y) (show 0 < M by omega)
      have zm0 := Int.emod_nonneg (z * y) (show M ≠ 0 by omega)
      have zm1 := Int.emod_lt_of_pos (z * y) (show 0 < M by omega)
      have ey : (y * y % M).toNat = y.toNat * y.toNat % m := by
        have h1 : ((y.toNat * y.toNat % m : Nat) : Int) = y * y % M := by rw [Int.natCast_emod, Int.natCast_mul, Int.toNat_of_nonneg hy0, HM.out]
        omega
      have ez : (z * y % M).toNat = z.toNat * y.toNat % m := by
        have h1 : ((z.toNat * y.toNat % m : Nat) : Int) = z * y % M := by rw [Int.natCast_emod, Int.natCast_mul, Int.toNat_of_nonneg hy0, Int.toNat_of_nonneg hz0, HM.out]
        omega
      have p0 := pow_even m z.toNat y.toNat k
      have p1 := pow_odd m z.toNat y.toNat k
      rw [HP.out, ← ey] at p0
      rw [HP.out, ← ey, ← ez] at p1
      clear ey ez
      rcases Nat.mod_two_eq_zero_or_one k with h2 | h2
      · rw [h2] at ha1
        have HS := Lib.hid (p0 h2)
        have hcz : ((0 : Nat) : Int) = 0 := rfl
        rw [hcz] at ha1
        clear p0 p1 HP h2
        go_wp2
        go_roundw
        case rel => exact ⟨k / 2, y * y % M, z, trivial, rfl, by go_num, rfl, ym0, ym1, hz0, hz1, HK2, HS⟩
        case measure => simp [intOf]; omega
      · rw [h2] at ha1
        have HS := Lib.hid (p1 h2)
        have hcz : ((1 : Nat) : Int) = 1 := rfl
        rw [hcz] at ha1
        clear p0 p1 HP h2
        go_wp2
        go_roundw
        case rel => exact ⟨k / 2, y * y % M, z * y % M, trivial, rfl, by go_num, rfl, ym0, ym1, zm0, zm1, HK2, HS⟩
        case measure => simp [intOf]; omega
set_option maxRecDepth 100000 in
theorem relem_walk (p n : Int) (w : World) (hp : 1 ≤ p) (hp2 : p ≤ 1073741824) :
    Calls Tryz.prog 65 #[.int .i64 p, .int .i64 n] w fun e w' => e = .returned (.int .i64 (n % p)) ∧ w = w' := by
  have h := dmod_eq n p hp (by omega)
  have HH := Lib.hid h
  clear h
  go_enter Tryz.func65, Tryz.ntmps65
  go_wp2
  go_ret
  exact ⟨ret_int HH.out, rfl⟩
set_option maxRecDepth 100000 in
theorem rPower_walk (p x : Nat) (e : Int) (w : World) (hp : 1 ≤ p) (hp2 : p ≤ 1073741824) (hx : x < 2 * p + 1) :
    Calls Tryz.prog 36 #[.int .i64 (p : Int), .int .i64 (x : Int), .int .i64 e] w fun r w' => r = .returned (.int .i64 ((gpw p x e : Nat) : Int)) ∧ w = w' := by
  have h0 := Int.emod_nonneg e (show (p : Int) ≠ 0 by omega)
  have h1 := Int.emod_lt_of_pos e (show (0 : Int) < (p : Int) by omega)
  have ke : ∀ V, Calls Tryz.prog 65 #[.int .i64 (p : Int), .int .i64 e] V fun e' w' => e' = .returned (.int .i64 (e % (p : Int))) ∧ V = w' := fun V => relem_walk p e V (by omega) (by omega)
  obtain ⟨k, hk⟩ : ∃ k : Nat, e % (p : Int) = (k : Int) := ⟨(e % (p : Int)).toNat, by omega⟩
  have kp : ∀ V, Calls Tryz.prog 64 #[.int .i64 (2 * (p : Int) + 1), .int .i64 (x : Int), .int .i64 (k : Int)] V fun e' w' => e' = .returned (.int .i64 ((gpw p x e : Nat) : Int)) ∧ V = w' := fun V => by
    rw [gpw, hk, Int.toNat_natCast, show 2 * (p : Int) + 1 = ((2 * p + 1 : Nat) : Int) by omega]
    exact rpow_walk (2 * p + 1) x k V (by omega) (by omega) hx (by omega)
  rw [hk] at ke
  generalize gpw p x e = z at *
  have KP := Lib.hid kp
  have KE := Lib.hid ke
  clear kp ke hk h0 h1 hx
  go_enter Tryz.func36, Tryz.ntmps36
  go_wp2_with (go_at_call 65; (with_reducible refine (KE.out _).mono ?_))
  rintro e' w1 ⟨rfl, rfl⟩
  go_wp2_with (go_at_call 64; (with_reducible refine (KP.out _).mono ?_))
  rintro e' w1 ⟨rfl, rfl⟩
  go_wp2
  go_ret
  exact ⟨rfl, rfl⟩
end Go.Proofs.YtnahkfchcminpaaGreatDoor
/- Public keys of the group of a safe prime, the reference's. -/
namespace Go.Proofs.YtnahkfchcminpaaGreatDoor
open Go.RowKit
set_option maxRecDepth 100000 in
theorem rPublic_walk (p : Nat) (e : Int) (w : World) (hp : 3 ≤ p) (hp2 : p ≤ 1073741824) :
    Calls Tryz.prog 13 #[.int .i64 (p : Int), .int .i64 e] w fun r w' => r = .returned (.int .i64 ((gpw p 4 e : Nat) : Int)) ∧ w = w' := by
  have kp : ∀ V, Calls Tryz.prog 36 #[.int .i64 (p : Int), .int .i64 4, .int .i64 e] V fun r w' => r = .returned (.int .i64 ((gpw p 4 e : Nat) : Int)) ∧ V = w' := fun V => rPower_walk p 4 e V (by omega) hp2 (by omega)
  generalize gpw p 4 e = z at *
  have KP := Lib.hid kp
  clear kp
  go_enter Tryz.func13, Tryz.ntmps13
  go_wp2_with (go_at_call 36; (with_reducible refine (KP.out _).mono ?_))
  rintro e' w1 ⟨rfl, rfl⟩
  go_wp2
  go_ret
  exact ⟨rfl, rfl⟩
end Go.Proofs.YtnahkfchcminpaaGreatDoor
/- The reference's groups: the modulus, powers. -/
namespace Go.Proofs.YtnahkfchcminpaaGreatDoor
open Go.RowKit
theorem rsafe_bd {p : Int} (h : rsafe p = true) : 3 ≤ p ∧ p ≤ 1073741824 ∧ p % 2 = 1 := by
  rw [rsafe_iff] at h
  obtain ⟨h3, hv, -⟩ := h
  rw [rvalid_iff] at hv
  refine ⟨h3, hv.2.1, ?_⟩
  by_cases h4 : 4 ≤ p
  · have := hv.2.2 2 (by omega) (by omega); omega
  · omega
set_option maxRecDepth 100000 in
theorem rmodd_walk (p m : Int) (w : World) (hv : rvalid p = true) (h3 : 3 ≤ p) (h30 : p ≤ 1073741824) (hm : m = 2 * p + 1) :
    Calls Tryz.prog 24 #[.int .i64 p] w fun e w' => e = .returned (.tuple #[.int .i64 (if rsafe p then m else 0), .bool (rsafe p)]) ∧ w = w' := by
  have kv : ∀ V, Calls Tryz.prog 52 #[.int .i64 p] V fun e w' => e = .returned (.bool true) ∧ V = w' := fun V => by rw [← hv]; exact rvalid_walk p V
  have KV := Lib.hid kv
  obtain ⟨v, hs⟩ : ∃ v, rsafe p = v := ⟨_, rfl⟩
  have hsn : v = true ↔ NoDiv m := by rw [← hs, hm, rsafe_iff]; exact ⟨fun h => h.2.2, fun h => ⟨h3, hv, h⟩⟩
  have HS := Lib.hid hsn
  rw [hs]
  have hm7 : 7 ≤ m := by omega
  have hm31 : m ≤ 2147483649 := by omega
  have hmo : m % 2 = 1 := by omega
  have HMO := Lib.hid hmo
  have hpm : 2 * p + 1 = m := hm.symm
  clear kv hs hsn hv hm hmo
  go_enter Tryz.func24, Tryz.ntmps24
  go_wp2_with (go_at_call 52; (with_reducible refine (KV.out _).mono ?_))
  rintro e w1 ⟨rfl, rfl⟩
  clear KV
  go_wp2
  go_loopw [5] (fun u wr => ∃ (d : Int), wr = w ∧ u = .int .i64 d ∧ 3 ≤ d ∧ d ≤ 46344 ∧ Hid (d % 2 = 1 ∧ ∀ d' : Int, 2 ≤ d' → d' < d → m % d' ≠ 0)) (fun u _ => (m - intOf u).toNat)
  case atStart => exact ⟨3, rfl, rfl, by omega, by omega, rfl, fun d' a b => by have := HMO.out; rw [show d' = 2 by omega]; omega⟩
  case round =>
    obtain ⟨d, rfl, rfl, hd, hd6, HN⟩ := hrel
    obtain ⟨q0, q1⟩ := sq_le (show 0 ≤ d by omega) hd6
    have q2 : d * d < 9223372036854775808 := by omega
    have hm1 := Int.emod_nonneg m (show d ≠ 0 by omega)
    clear q1
    by_cases hle : d * d ≤ m
    · have hdp := sq_bd (show 2 ≤ d by omega) hle
      have hd5 := sq_big hm31 hle
      by_cases hz : m % d = 0
      · have hr : v = false := by
          rw [Bool.eq_false_iff, ne_eq, HS.out]
          intro hN
          exact hN d (by omega) hle hz
        subst hr
        have hzb : (m % d == 0) = true := by rw [beq_iff_eq]; exact hz
        clear hz
        go_wp2
        go_ret2
        exact ⟨rfl, rfl⟩
      · have hzb : (m % d == 0) = false := by rw [beq_eq_false_iff_ne]; exact hz
        have HN2 : Hid ((d + 2) % 2 = 1 ∧ ∀ d' : Int, 2 ≤ d' → d' < d + 2 → m % d' ≠ 0) := by
          obtain ⟨ho, hN⟩ := HN.out
          refine ⟨by omega, fun d' a b => ?_⟩
          by_cases e : d' = d
          · rw [e]; exact hz
          · by_cases e2 : d' = d + 1
            · subst e2
              intro hc
              have h1 := Int.emod_emod_of_dvd m (show (2 : Int) ∣ d + 1 by omega)
              rw [hc] at h1
              have := HMO.out
              omega
            · exact hN d' a (by omega)
        have hd2 : d + 2 ≤ 46344 := by omega
        clear hz HN
        by_cases hdm : d + 1 < m
        · go_wp2
          go_roundw
          case rel => exact ⟨d + 2, trivial, rfl, by omega, hd2, HN2⟩
          case measure => simp [intOf]; omega
        · exfalso
          have := Int.mul_le_mul_of_nonneg_right (show (3 : Int) ≤ d from hd) (show (0 : Int) ≤ d by omega)
          omega
    · have hr : v = true := by
        rw [HS.out]
        intro d' a b
        refine HN.out.2 d' a ?_
        rcases Int.lt_or_le d' d with h | h
        · exact h
        · have := (sq_le (show (0 : Int) ≤ d by omega) h).2; omega
      subst hr
      have hle2 : m < d * d := by omega
      clear hle
      go_wp2
      go_ret2
      exact ⟨rfl, rfl⟩
set_option maxRecDepth 100000 in
theorem rmod_walk (p : Int) (w : World) :
    Calls Tryz.prog 24 #[.int .i64 p] w fun e w' => e = .returned (.tuple #[.int .i64 (if rsafe p then 2 * p + 1 else 0), .bool (rsafe p)]) ∧ w = w' := by
  cases hv : rvalid p with
  | true =>
    rcases Int.lt_or_le p 3 with h3 | h3
    rotate_left
    · exact rmodd_walk p _ w hv h3 ((rvalid_iff p).1 hv).2.1 rfl
    have hs : rsafe p = false := by rw [Bool.eq_false_iff, ne_eq, rsafe_iff]; rintro ⟨a, -⟩; omega
    rw [hs]
    clear hs hv
    go_enter Tryz.func24, Tryz.ntmps24
    go_wp2
    go_ret2
    exact ⟨rfl, rfl⟩
  | false =>
    have kv : ∀ V, Calls Tryz.prog 52 #[.int .i64 p] V fun e w' => e = .returned (.bool false) ∧ V = w' := fun V => by rw [← hv]; exact rvalid_walk p V
    have KV := Lib.hid kv
    have hs : rsafe p = false := by rw [Bool.eq_false_iff, ne_eq, rsafe_iff, hv]; rintro ⟨-, a, -⟩; cases a
    rw [hs]
    clear hs hv kv
    rcases Int.lt_or_le p 3 with h3 | h3
    · go_enter Tryz.func24, Tryz.ntmps24
      go_wp2
      go_ret2
      exact ⟨rfl, rfl⟩
    · go_enter Tryz.func24, Tryz.ntmps24
      go_wp2_with (go_at_call 52; (with_reducible refine (KV.out _).mono ?_))
      rintro e w1 ⟨rfl, rfl⟩
      go_wp2
      go_ret2
      exact ⟨rfl, rfl⟩
end Go.Proofs.YtnahkfchcminpaaGreatDoor
/- Products in the group of a safe prime, the reference's. -/
namespace Go.Proofs.YtnahkfchcminpaaGreatDoor
open Go.RowKit
set_option maxRecDepth 100000 in
theorem rTimes_walk (p a b : Nat) (w : World) (hp : 1 ≤ p) (hp2 : p ≤ 1073741824) (ha : a < 2 * p + 1) (hb : b < 2 * p + 1) :
    Calls Tryz.prog 85 #[.int .i64 (p : Int), .int .i64 (a : Int), .int .i64 (b : Int)] w fun e w' => e = .returned (.int .i64 ((a * b % (2 * p + 1) : Nat) : Int)) ∧ w = w' := by
  obtain ⟨x, hx⟩ : ∃ x : Int, x = (a : Int) := ⟨_, rfl⟩
  obtain ⟨y, hy⟩ : ∃ y : Int, y = (b : Int) := ⟨_, rfl⟩
  have hz : ((a * b % (2 * p + 1) : Nat) : Int) = x * y % (2 * (p : Int) + 1) := by
    rw [Int.natCast_emod, Int.natCast_mul, hx, hy]; congr 1
  rw [hz, ← hx, ← hy]
  have x0 : 0 ≤ x ∧ x ≤ 2147483648 := by omega
  have y0 : 0 ≤ y ∧ y ≤ 2147483648 := by omega
  have h1 := Int.mul_nonneg x0.1 y0.1
  have h2 := Int.mul_le_mul x0.2 y0.2 y0.1 (by omega)
  have h3 : x * y ≤ 4611686018427387904 := by omega
  clear h2 hz hx hy x0 y0 ha hb
  go_enter Tryz.func85, Tryz.ntmps85
  go_wp2
  go_ret
  exact ⟨rfl, rfl⟩
end Go.Proofs.YtnahkfchcminpaaGreatDoor
/- Members of the group of a safe prime, as the reference finds them. -/
namespace Go.Proofs.YtnahkfchcminpaaGreatDoor
open Go.RowKit
set_option maxRecDepth 100000 in
theorem rMember_walk (p : Nat) (x : Int) (w : World) (hs : rsafe (p : Int) = true) :
    Calls Tryz.prog 66 #[.int .i64 (p : Int), .int .i64 x] w fun e w' => e = .returned (.bool (memZ p x)) ∧ w = w' := by
  obtain ⟨h3, h30, -⟩ := rsafe_bd hs
  have KM := Lib.hid (rmod_walk (p : Int) w)
  rw [hs, if_pos rfl] at KM
  clear hs
  by_cases hx : 1 ≤ x ∧ x < 2 * (p : Int) + 1
  · obtain ⟨y, rfl⟩ : ∃ y : Nat, x = (y : Int) := ⟨x.toNat, by omega⟩
    obtain ⟨hx1, hx2⟩ := hx
    have kp := rpow_walk (2 * p + 1) y p w (by omega) (by omega) (by omega) (by omega)
    have hm : memZ p (y : Int) = (y ^ p % (2 * p + 1) == 1) := by
      rw [memZ, Int.toNat_natCast, memH, decide_eq_true (by omega), decide_eq_true (show 0 < y by omega), decide_eq_true (show y < 2 * p + 1 by omega)]
      rfl
    have hm2 : memZ p (y : Int) = (((y ^ p % (2 * p + 1) : Nat) : Int) == 1) := by
      rw [hm, Bool.eq_iff_iff, beq_iff_eq, beq_iff_eq]; omega
    have kp2 : Calls Tryz.prog 64 #[.int .i64 (2 * (p : Int) + 1), .int .i64 (y : Int), .int .i64 (p : Int)] w fun r w' => r = .returned (.int .i64 ((y ^ p % (2 * p + 1) : Nat) : Int)) ∧ w = w' := by
      have e : ((2 * p + 1 : Nat) : Int) = 2 * (p : Int) + 1 := by omega
      rw [← e]; exact kp
    have KP := Lib.hid kp2
    have HM := Lib.hid hm2
    clear kp kp2 hm hm2
    generalize ((y ^ p % (2 * p + 1) : Nat) : Int) = z at *
    have d1 : decide ((y : Int) ≥ 1) = true := decide_eq_true (by omega)
    go_enter Tryz.func66, Tryz.ntmps66
    go_wp2_with (go_at_call 24; (with_reducible refine KM.out.mono ?_))
    (try rintro e w1 ⟨rfl, rfl⟩)
    go_wp2_with (go_at_call 64; (with_reducible refine KP.out.mono ?_))
    (try rintro e w1 ⟨rfl, rfl⟩)
    (try go_wp2)
    go_ret
    exact ⟨by rw [HM.out]; rfl, rfl⟩
  · have hm : memZ p x = false := by
      cases h : memZ p x with
      | false => rfl
      | true =>
        simp only [memZ, memH, Bool.and_eq_true, decide_eq_true_eq] at h
        omega
    rw [hm]
    clear hm
    rcases Int.lt_or_le x 1 with h1 | h1
    · have d1 : decide (x ≥ 1) = false := decide_eq_false (by omega)
      have d2 : ¬ (1 ≤ x) := by omega
      clear hx
      go_enter Tryz.func66, Tryz.ntmps66
      go_wp2_with (go_at_call 24; (with_reducible refine KM.out.mono ?_))
      (try rintro e w1 ⟨rfl, rfl⟩)
      (try go_wp2)
      go_ret
      exact ⟨rfl, rfl⟩
    · have d1 : decide (x ≥ 1) = true := decide_eq_true (by omega)
      have d2 : ¬ (x < 2 * (p : Int) + 1) := by omega
      clear hx
      go_enter Tryz.func66, Tryz.ntmps66
      go_wp2_with (go_at_call 24; (with_reducible refine KM.out.mono ?_))
      (try rintro e w1 ⟨rfl, rfl⟩)
      (try go_wp2)
      go_ret
      exact ⟨rfl, rfl⟩
end Go.Proofs.YtnahkfchcminpaaGreatDoor
