/- The reference's powers in a group. -/
import Derived.Test.YtekhepklaokaiaaDoorGHandE
import Derived.Test.YtekhepklaokaiaaDoorGNoDiv
namespace Go.Proofs.YtekhepklaokaiaaDoor
open Go.RowKit
/-! ### Powers -/
set_option maxRecDepth 100000 in
theorem rpow_walk (m x e : Nat) (w : World) (hm : 2 ≤ m) (hm2 : m ≤ 2147483649) (hx : x < m) (he : e < 9223372036854775808) :
    Calls Tryd.prog 24 #[.int .i64 (m : Int), .int .i64 (x : Int), .int .i64 (e : Int)] w fun r w' => r = .returned (.int .i64 ((x ^ e % m : Nat) : Int)) ∧ w = w' := by
  have HE := Lib.hid he
  obtain ⟨M, hM⟩ : ∃ M : Int, M = (m : Int) := ⟨_, rfl⟩
  have HM := Lib.hid hM
  obtain ⟨R, hR⟩ : ∃ R : Int, R = ((x ^ e % m : Nat) : Int) := ⟨_, rfl⟩
  have HR := Lib.hid hR
  have hM2 : 2 ≤ M := by omega
  have hM3 : M ≤ 2147483649 := by omega
  obtain ⟨X, hX⟩ : ∃ X : Int, X = (x : Int) := ⟨_, rfl⟩
  have HX := Lib.hid hX
  have hX0 : 0 ≤ X := by omega
  have hX1 : X < M := by omega
  rw [← hM, ← hX, ← hR]
  clear he hM hR hX hx hm hm2
  go_enter Tryd.func24, Tryd.ntmps24
  go_wp2
  go_loopw [1, 2, 7] (fun u v o wr => ∃ (k : Nat) (y z : Int), wr = w ∧ u = .int .i64 y ∧ v = .int .i64 (k : Int) ∧ o = .int .i64 z ∧ 0 ≤ y ∧ y < M ∧ 0 ≤ z ∧ z < M ∧ Hid (k < 9223372036854775808) ∧ Hid (z.toNat * y.toNat ^ k % m = x ^ e % m)) (fun _ v _ _ => (intOf v).toNat)
  case atStart => exact ⟨e, X, 1, rfl, rfl, rfl, rfl, hX0, hX1, by omega, by omega, HE, by show _ = _; rw [HX.out]; simp⟩
  case round =>
    obtain ⟨k, y, z, rfl, rfl, rfl, rfl, hy0, hy1, hz0, hz1, HK, HP⟩ := hrel
    by_cases h0 : k = 0
    · subst h0
      have hR : z = R := by
        have h := HP.out
        have hM := HM.out
        rw [Nat.pow_zero, Nat.mul_one, Nat.mod_eq_of_lt (by omega)] at h
        rw [HR.out, ← h]
        omega
      have HZ := Lib.hid hR
      clear hR HP
      go_wp2
      go_ret
      exact ⟨ret_int HZ.out, rfl⟩
    · have hpos : (0 : Int) < (k : Int) := by omega
      have ha1 := i64_and1 k HK.out
      have HK2 : Hid (k / 2 < 9223372036854775808) := by have := HK.out; show _ < _; omega
      obtain ⟨y0, y1⟩ : 0 ≤ y * y ∧ y * y < 9223372036854775808 := by
        have := sq_le hy0 (show y ≤ 2147483648 by omega); omega
      obtain ⟨z0, z1⟩ : 0 ≤ z * y ∧ z * y < 9223372036854775808 := by
        have h1 := Int.mul_nonneg hz0 hy0
        have h2 := Int.mul_le_mul (show z ≤ 2147483648 by omega) (show y ≤ 2147483648 by omega) hy0 (by omega)
        omega
      have ym0 := Int.emod_nonneg (y * y) (show M ≠ 0 by omega)
      have ym1 := Int.emod_lt_of_pos (y * y) (show 0 < M by omega)
      have zm0 := Int.emod_nonneg (z * y) (show M ≠ 0 by omega)
      have zm1 := Int.emod_lt_of_pos (z * y) (show 0 < M by omega)
      have ey : (y * y % M).toNat = y.toNat * y.toNat % m := by
        have h1 : ((y.toNat * y.toNat % m : Nat) : Int) = y * y % M := by rw [Int.natCast_emod, Int.natCast_mul, Int.toNat_of_nonneg hy0, HM.out]
        omega
      have ez : (z * y % M).toNat = z.toNat * y.toNat % m := by
        have h1 : ((z.toNat * y.toNat % m : Nat) : Int) = z * y % M := by rw [Int.natCast_emod, Int.natCast_mul, Int.toNat_of_nonneg hy0, Int.toNat_of_nonneg hz0, HM.out]
        omega
      have p0 := pow_even m z.toNat y.toNat k
      have p1 := pow_odd m z.toNat y.toNat k
      rw [HP.out, ← ey] at p0
      rw [HP.out, ← ey, ← ez] at p1
      clear ey ez
      rcases Nat.mod_two_eq_zero_or_one k with h2 | h2
      · rw [h2] at ha1
        have HS := Lib.hid (p0 h2)
        have hcz : ((0 : Nat) : Int) = 0 := rfl
        rw [hcz] at ha1
        clear p0 p1 HP h2
        go_wp2
        go_roundw
        case rel => exact ⟨k / 2, y * y % M, z, trivial, rfl, by go_num, rfl, ym0, ym1, hz0, hz1, HK2, HS⟩
        case measure => simp [intOf]; omega
      · rw [h2] at ha1
        have HS := Lib.hid (p1 h2)
        have hcz : ((1 : Nat) : Int) = 1 := rfl
        rw [hcz] at ha1
        clear p0 p1 HP h2
        go_wp2
        go_roundw
        case rel => exact ⟨k / 2, y * y % M, z * y % M, trivial, rfl, by go_num, rfl, ym0, ym1, zm0, zm1, HK2, HS⟩
        case measure => simp [intOf]; omega
set_option maxRecDepth 100000 in
theorem relem_walk (p n : Int) (w : World) (hp : 1 ≤ p) (hp2 : p ≤ 1073741824) :
    Calls Tryd.prog 30 #[.int .i64 p, .int .i64 n] w fun e w' => e = .returned (.int .i64 (n % p)) ∧ w = w' := by
  have h := dmod_eq n p hp (by omega)
  have HH := Lib.hid h
  clear h
  go_enter Tryd.func30, Tryd.ntmps30
  go_wp2
  go_ret
  exact ⟨ret_int HH.out, rfl⟩
set_option maxRecDepth 100000 in
theorem rPower_walk (p x : Nat) (e : Int) (w : World) (hp : 1 ≤ p) (hp2 : p ≤ 1073741824) (hx : x < 2 * p + 1) :
    Calls Tryd.prog 13 #[.int .i64 (p : Int), .int .i64 (x : Int), .int .i64 e] w fun r w' => r = .returned (.int .i64 ((gpw p x e : Nat) : Int)) ∧ w = w' := by
  have h0 := Int.emod_nonneg e (show (p : Int) ≠ 0 by omega)
  have h1 := Int.emod_lt_of_pos e (show (0 : Int) < (p : Int) by omega)
  have ke : ∀ V, Calls Tryd.prog 30 #[.int .i64 (p : Int), .int .i64 e] V fun e' w' => e' = .returned (.int .i64 (e % (p : Int))) ∧ V = w' := fun V => relem_walk p e V (by omega) (by omega)
  obtain ⟨k, hk⟩ : ∃ k : Nat, e % (p : Int) = (k : Int) := ⟨(e % (p : Int)).toNat, by omega⟩
  have kp : ∀ V, Calls Tryd.prog 24 #[.int .i64 (2 * (p : Int) + 1), .int .i64 (x : Int), .int .i64 (k : Int)] V fun e' w' => e' = .returned (.int .i64 ((gpw p x e : Nat) : Int)) ∧ V = w' := fun V => by
    rw [gpw, hk, Int.toNat_natCast, show 2 * (p : Int) + 1 = ((2 * p + 1 : Nat) : Int) by omega]
    exact rpow_walk (2 * p + 1) x k V (by omega) (by omega) hx (by omega)
  rw [hk] at ke
  generalize gpw p x e = z at *
  have KP := Lib.hid kp
  have KE := Lib.hid ke
  clear kp ke hk h0 h1 hx
  go_enter Tryd.func13, Tryd.ntmps13
  go_wp2_with (go_at_call 30; (with_reducible refine (KE.out _).mono ?_))
  rintro e' w1 ⟨rfl, rfl⟩
  go_wp2_with (go_at_call 24; (with_reducible refine (KP.out _).mono ?_))
  rintro e' w1 ⟨rfl, rfl⟩
  go_wp2
  go_ret
  exact ⟨rfl, rfl⟩
end Go.Proofs.YtekhepklaokaiaaDoor
