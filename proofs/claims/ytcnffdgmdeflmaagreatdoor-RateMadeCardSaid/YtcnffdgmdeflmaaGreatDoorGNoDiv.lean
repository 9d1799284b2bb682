/- Primes by trial division: plain. No program in sight. -/
import Derived.Test.YtcnffdgmdeflmaaGreatDoorGModP
import Derived.Test.YtcnffdgmdeflmaaGreatDoorGDice
namespace Go.Proofs.YtcnffdgmdeflmaaGreatDoor
open Go.RowKit
/-- no divisor from 2 on up to the root -/
def NoDiv (p : Int) : Prop := ∀ d : Int, 2 ≤ d → d * d ≤ p → p % d ≠ 0
noncomputable def rvalid (p : Int) : Bool := @decide (2 ≤ p ∧ p ≤ 1073741824 ∧ NoDiv p) (Classical.propDecidable _)
noncomputable def rsafe (p : Int) : Bool := @decide (3 ≤ p ∧ rvalid p = true ∧ NoDiv (2 * p + 1)) (Classical.propDecidable _)
theorem rvalid_iff (p : Int) : rvalid p = true ↔ 2 ≤ p ∧ p ≤ 1073741824 ∧ NoDiv p := by unfold rvalid; simp
theorem rsafe_iff (p : Int) : rsafe p = true ↔ 3 ≤ p ∧ rvalid p = true ∧ NoDiv (2 * p + 1) := by unfold rsafe; simp
theorem sq_le {d k : Int} (h0 : 0 ≤ d) (h : d ≤ k) : 0 ≤ d * d ∧ d * d ≤ k * k := ⟨Int.mul_nonneg h0 h0, Int.mul_le_mul h h h0 (by omega)⟩
theorem sq_big {d p : Int} (hp : p ≤ 2147483649) (h : d * d ≤ p) : d ≤ 46341 := by
  rcases Int.lt_or_le 46341 d with h1 | h1
  · have := (sq_le (show (0 : Int) ≤ 46342 by omega) (show (46342 : Int) ≤ d by omega)).2
    omega
  · exact h1
theorem sq_bd {d p : Int} (hd : 2 ≤ d) (h : d * d ≤ p) : d < p := by
  have := Int.mul_le_mul_of_nonneg_right (show (2 : Int) ≤ d from hd) (show (0 : Int) ≤ d by omega)
  omega
/-! ### Primes by trial division -/
theorem tryF_all (p s : Nat) : ∀ (n d : Nat), tryF p s n d = true → ∀ k, k < n → p % (d + k * s) ≠ 0
  | 0, _, _, k, hk => by omega
  | n + 1, d, h, k, hk => by
    rw [tryF, Bool.and_eq_true, bne_iff_ne] at h
    cases k with
    | zero => rw [Nat.zero_mul, Nat.add_zero]; exact h.1
    | succ k =>
      have := tryF_all p s n (d + s) h.2 k (by omega)
      rwa [show d + (k + 1) * s = d + s + k * s by rw [Nat.succ_mul]; omega]
theorem noDiv_of (p n : Nat) (ho : p % 2 = 1) (h : tryF p 2 n 3 = true) (hn : p < (3 + 2 * n) * (3 + 2 * n)) : NoDiv (p : Int) := by
  intro d hd hle hz
  obtain ⟨e, rfl⟩ : ∃ e : Nat, d = (e : Int) := ⟨d.toNat, by omega⟩
  have hz' : p % e = 0 := by omega
  have hdv : e ∣ p := Nat.dvd_of_mod_eq_zero hz'
  have hle' : e * e ≤ p := by
    rw [← Int.natCast_mul] at hle; omega
  have heo : e % 2 = 1 := by
    rcases Nat.mod_two_eq_zero_or_one e with h2 | h2
    · have := Nat.dvd_trans (Nat.dvd_of_mod_eq_zero h2) hdv
      omega
    · exact h2
  have hlt : e < 3 + 2 * n := by
    rcases Nat.lt_or_ge e (3 + 2 * n) with h1 | h1
    · exact h1
    · have := Nat.mul_le_mul h1 h1; omega
  have := tryF_all p 2 n 3 h ((e - 3) / 2) (by omega)
  rw [show 3 + (e - 3) / 2 * 2 = e by omega] at this
  exact this hz'
theorem primeP_of {p : Nat} (h2 : 2 ≤ p) (h : NoDiv (p : Int)) : PrimeP p := by
  have key : ∀ e : Nat, 2 ≤ e → e * e ≤ p → ¬ e ∣ p := by
    intro e he hle hd
    have := h (e : Int) (by omega) (by rw [← Int.natCast_mul]; omega)
    have hz := Nat.mod_eq_zero_of_dvd hd
    omega
  refine ⟨h2, fun d hd => ?_⟩
  obtain ⟨c, hc⟩ := hd
  rcases Nat.lt_or_ge d 2 with hd2 | hd2
  · have : d ≠ 0 := by rintro rfl; simp at hc; omega
    omega
  rcases Nat.lt_or_ge c 2 with hc2 | hc2
  · have : c ≠ 0 := by rintro rfl; simp at hc; omega
    obtain rfl : c = 1 := by omega
    omega
  exfalso
  rcases Nat.le_total d c with hdc | hdc
  · exact key d hd2 (by rw [hc]; exact Nat.mul_le_mul_left d hdc) ⟨c, hc⟩
  · exact key c hc2 (by rw [hc]; exact Nat.mul_le_mul_right c hdc) ⟨d, by rw [hc, Nat.mul_comm]⟩
end Go.Proofs.YtcnffdgmdeflmaaGreatDoor
/- The reference's powers in a group. -/
namespace Go.Proofs.YtcnffdgmdeflmaaGreatDoor
open Go.RowKit
/-! ### Powers -/
set_option maxRecDepth 100000 in
theorem rpow_walk (m x e : Nat) (w : World) (hm : 2 ≤ m) (hm2 : m ≤ 2147483649) (hx : x < m) (he : e < 9223372036854775808) :
    Calls Tryz.prog 52 #[.int .i64 (m : Int), .int .i64 (x : Int), .int .i64 (e : Int)] w fun r w' => r = .returned (.int .i64 ((x ^ e % m : Nat) : Int)) ∧ w = w' := by
  have HE := Lib.hid he
  obtain ⟨M, hM⟩ : ∃ M : Int, M = (m : Int) := ⟨_, rfl⟩
  have HM := Lib.hid hM
  obtain ⟨R, hR⟩ : ∃ R : Int, R = ((x ^ e % m : Nat) : Int) := ⟨_, rfl⟩
  have HR := Lib.hid hR
  have hM2 : 2 ≤ M := by omega
  have hM3 : M ≤ 2147483649 := by omega
  obtain ⟨X, hX⟩ : ∃ X : Int, X = (x : Int) := ⟨_, rfl⟩
  have HX := Lib.hid hX
  have hX0 : 0 ≤ X := by omega
  have hX1 : X < M := by omega
  rw [← hM, ← hX, ← hR]
  clear he hM hR hX hx hm hm2
  go_enter Tryz.func52, Tryz.ntmps52
  go_wp2
  go_loopw [1, 2, 7] (fun u v o wr => ∃ (k : Nat) (y z : Int), wr = w ∧ u = .int .i64 y ∧ v = .int .i64 (k : Int) ∧ o = .int .i64 z ∧ 0 ≤ y ∧ y < M ∧ 0 ≤ z ∧ z < M ∧ Hid (k < 9223372036854775808) ∧ Hid (z.toNat * y.toNat ^ k % m = x ^ e % m)) (fun _ v _ _ => (intOf v).toNat)
  case atStart => exact ⟨e, X, 1, rfl, rfl, rfl, rfl, hX0, hX1, by omega, by omega, HE, by show _ = _; rw [HX.out]; simp⟩
  case round =>
    obtain ⟨k, y, z, rfl, rfl, rfl, rfl, hy0, hy1, hz0, hz1, HK, HP⟩ := hrel
    by_cases h0 : k = 0
    · subst h0
      have hR : z = R := by
        have h := HP.out
        have hM := HM.out
        rw [Nat.pow_zero, Nat.mul_one, Nat.mod_eq_of_lt (by omega)] at h
        rw [HR.out, ← h]
        omega
      have HZ := Lib.hid hR
      clear hR HP
      go_wp2
      go_ret
      exact ⟨ret_int HZ.out, rfl⟩
    · have hpos : (0 : Int) < (k : Int) := by omega
      have ha1 := i64_and1 k HK.out
      have HK2 : Hid (k / 2 < 9223372036854775808) := by have := HK.out; show _ < _; omega
      obtain ⟨y0, y1⟩ : 0 ≤ y * y ∧ y * y < 9223372036854775808 := by
        have := sq_le hy0 (show y ≤ 2147483648 by omega); omega
      obtain ⟨z0, z1⟩ : 0 ≤ z * y ∧ z * y < 9223372036854775808 := by
        have h1 := Int.mul_nonneg hz0 hy0
        have h2 := Int.mul_le_mul (show z ≤ 2147483648 by omega) (show y ≤ 2147483648 by omega) hy0 (by omega)
        omega
      have ym0 := Int.emod_nonneg (y * y) (show M ≠ 0 by omega)
      have ym1 := Int.emod_lt_of_pos (y * y) (show 0 < M by omega)
      have zm0 := Int.emod_nonneg (z * y) (show M ≠ 0 by omega)
      have zm1 := Int.emod_lt_of_pos (z * y) (show 0 < M by omega)
      have ey : (y * y % M).toNat = y.toNat * y.toNat % m := by
        have h1 : ((y.toNat * y.toNat % m : Nat) : Int) = y * y % M := by rw [Int.natCast_emod, Int.natCast_mul, Int.toNat_of_nonneg hy0, HM.out]
        omega
      have ez : (z * y % M).toNat = z.toNat * y.toNat % m := by
        have h1 : ((z.toNat * y.toNat % m : Nat) : Int) = z * y % M := by rw [Int.natCast_emod, Int.natCast_mul, Int.toNat_of_nonneg hy0, Int.toNat_of_nonneg hz0, HM.out]
        omega
      have p0 := pow_even m z.toNat y.toNat k
      have p1 := pow_odd m z.toNat y.toNat k
      rw [HP.out, ← ey] at p0
      rw [HP.out, ← ey, ← ez] at p1
      clear ey ez
      rcases Nat.mod_two_eq_zero_or_one k with h2 | h2
      · rw [h2] at ha1
        have HS := Lib.hid (p0 h2)
        have hcz : ((0 : Nat) : Int) = 0 := rfl
        rw [hcz] at ha1
        clear p0 p1 HP h2
        go_wp2
        go_roundw
        case rel => exact ⟨k / 2, y * y % M, z, trivial, rfl, by go_num, rfl, ym0, ym1, hz0, hz1, HK2, HS⟩
        case measure => simp [intOf]; omega
      · rw [h2] at ha1
        have HS := Lib.hid (p1 h2)
        have hcz : ((1 : Nat) : Int) = 1 := rfl
        rw [hcz] at ha1
        clear p0 p1 HP h2
        go_wp2
        go_roundw
        case rel => exact ⟨k / 2, y * y % M, z * y % M, trivial, rfl, by go_num, rfl, ym0, ym1, zm0, zm1, HK2, HS⟩
        case measure => simp [intOf]; omega
set_option maxRecDepth 100000 in
theorem relem_walk (p n : Int) (w : World) (hp : 1 ≤ p) (hp2 : p ≤ 1073741824) :
    Calls Tryz.prog 53 #[.int .i64 p, .int .i64 n] w fun e w' => e = .returned (.int .i64 (n % p)) ∧ w = w' := by
  have h := dmod_eq n p hp (by omega)
  have HH := Lib.hid h
  clear h
  go_enter Tryz.func53, Tryz.ntmps53
  go_wp2
  go_ret
  exact ⟨ret_int HH.out, rfl⟩
set_option maxRecDepth 100000 in
theorem rPower_walk (p x : Nat) (e : Int) (w : World) (hp : 1 ≤ p) (hp2 : p ≤ 1073741824) (hx : x < 2 * p + 1) :
    Calls Tryz.prog 23 #[.int .i64 (p : Int), .int .i64 (x : Int), .int .i64 e] w fun r w' => r = .returned (.int .i64 ((gpw p x e : Nat) : Int)) ∧ w = w' := by
  have h0 := Int.emod_nonneg e (show (p : Int) ≠ 0 by omega)
  have h1 := Int.emod_lt_of_pos e (show (0 : Int) < (p : Int) by omega)
  have ke : ∀ V, Calls Tryz.prog 53 #[.int .i64 (p : Int), .int .i64 e] V fun e' w' => e' = .returned (.int .i64 (e % (p : Int))) ∧ V = w' := fun V => relem_walk p e V (by omega) (by omega)
  obtain ⟨k, hk⟩ : ∃ k : Nat, e % (p : Int) = (k : Int) := ⟨(e % (p : Int)).toNat, by omega⟩
  have kp : ∀ V, Calls Tryz.prog 52 #[.int .i64 (2 * (p : Int) + 1), .int .i64 (x : Int), .int .i64 (k : Int)] V fun e' w' => e' = .returned (.int .i64 ((gpw p x e : Nat) : Int)) ∧ V = w' := fun V => by
    rw [gpw, hk, Int.toNat_natCast, show 2 * (p : Int) + 1 = ((2 * p + 1 : Nat) : Int) by omega]
    exact rpow_walk (2 * p + 1) x k V (by omega) (by omega) hx (by omega)
  rw [hk] at ke
  generalize gpw p x e = z at *
  have KP := Lib.hid kp
  have KE := Lib.hid ke
  clear kp ke hk h0 h1 hx
  go_enter Tryz.func23, Tryz.ntmps23
  go_wp2_with (go_at_call 53; (with_reducible refine (KE.out _).mono ?_))
  rintro e' w1 ⟨rfl, rfl⟩
  go_wp2_with (go_at_call 52; (with_reducible refine (KP.out _).mono ?_))
  rintro e' w1 ⟨rfl, rfl⟩
  go_wp2
  go_ret
  exact ⟨rfl, rfl⟩
set_option maxRecDepth 100000 in
theorem rPublic_walk (p : Nat) (e : Int) (w : World) (hp : 3 ≤ p) (hp2 : p ≤ 1073741824) :
    Calls Tryz.prog 8 #[.int .i64 (p : Int), .int .i64 e] w fun r w' => r = .returned (.int .i64 ((gpw p 4 e : Nat) : Int)) ∧ w = w' := by
  have kp : ∀ V, Calls Tryz.prog 23 #[.int .i64 (p : Int), .int .i64 4, .int .i64 e] V fun r w' => r = .returned (.int .i64 ((gpw p 4 e : Nat) : Int)) ∧ V = w' := fun V => rPower_walk p 4 e V (by omega) hp2 (by omega)
  generalize gpw p 4 e = z at *
  have KP := Lib.hid kp
  clear kp
  go_enter Tryz.func8, Tryz.ntmps8
  go_wp2_with (go_at_call 23; (with_reducible refine (KP.out _).mono ?_))
  rintro e' w1 ⟨rfl, rfl⟩
  go_wp2
  go_ret
  exact ⟨rfl, rfl⟩
end Go.Proofs.YtcnffdgmdeflmaaGreatDoor
/- The reference's groups: trial division, powers. -/
namespace Go.Proofs.YtcnffdgmdeflmaaGreatDoor
open Go.RowKit
set_option maxRecDepth 100000 in
theorem rvalid_walk (p : Int) (w : World) :
    Calls Tryz.prog 69 #[.int .i64 p] w fun e w' => e = .returned (.bool (rvalid p)) ∧ w = w' := by
  by_cases h1 : 2 ≤ p ∧ p ≤ 1073741824
  · obtain ⟨h2, h3⟩ := h1
    obtain ⟨v, hv⟩ : ∃ v, rvalid p = v := ⟨_, rfl⟩
    have HV := Lib.hid hv
    rw [hv]
    clear hv
    go_enter Tryz.func69, Tryz.ntmps69
    go_wp2
    go_loopw [3] (fun u wr => ∃ (d : Int), wr = w ∧ u = .int .i64 d ∧ 2 ≤ d ∧ d ≤ 46342 ∧ Hid (∀ d' : Int, 2 ≤ d' → d' < d → p % d' ≠ 0)) (fun u _ => (p - intOf u).toNat)
    case atStart => exact ⟨2, rfl, rfl, by omega, by omega, fun d' a b => by omega⟩
    case round =>
      obtain ⟨d, rfl, rfl, hd, hd6, HN⟩ := hrel
      obtain ⟨q0, q1⟩ := sq_le (show 0 ≤ d by omega) hd6
      have q2 : d * d < 9223372036854775808 := by omega
      have hm1 := Int.emod_nonneg p (show d ≠ 0 by omega)
      clear q1
      by_cases hle : d * d ≤ p
      · have hdp := sq_bd hd hle
        have hd5 := sq_big (by omega) hle
        by_cases hz : p % d = 0
        · have hr : v = false := by
            rw [← HV.out, Bool.eq_false_iff, ne_eq, rvalid_iff]
            rintro ⟨-, -, hN⟩
            exact hN d hd hle hz
          have HR := Lib.hid hr
          have hzb : (p % d == 0) = true := by rw [beq_iff_eq]; exact hz
          clear hr hz
          go_wp2
          go_ret
          exact ⟨ret_bool HR.out.symm, rfl⟩
        · have hzb : (p % d == 0) = false := by rw [beq_eq_false_iff_ne]; exact hz
          have HN2 : Hid (∀ d' : Int, 2 ≤ d' → d' < d + 1 → p % d' ≠ 0) := fun d' a b => by
            by_cases e : d' = d
            · rw [e]; exact hz
            · exact HN.out d' a (by omega)
          clear hz HN
          go_wp2
          go_roundw
          case rel => exact ⟨d + 1, trivial, rfl, by omega, by omega, HN2⟩
          case measure => simp [intOf]; omega
      · have hr : v = true := by
          rw [← HV.out, rvalid_iff]
          refine ⟨h2, h3, fun d' a b => HN.out d' a ?_⟩
          rcases Int.lt_or_le d' d with h | h
          · exact h
          · have := (sq_le (show (0 : Int) ≤ d by omega) h).2; omega
        have HR := Lib.hid hr
        have hle2 : p < d * d := by omega
        clear hr hle
        go_wp2
        go_ret
        exact ⟨ret_bool HR.out.symm, rfl⟩
  · have hv : rvalid p = false := by rw [Bool.eq_false_iff, ne_eq, rvalid_iff]; rintro ⟨a, b, -⟩; exact h1 ⟨a, b⟩
    rw [hv]
    rcases Int.lt_or_le p 2 with h2 | h2
    · clear hv h1
      go_enter Tryz.func69, Tryz.ntmps69
      go_wp2
      go_ret
      exact ⟨rfl, rfl⟩
    · have h3 : 1073741824 < p := by omega
      clear hv h1
      go_enter Tryz.func69, Tryz.ntmps69
      go_wp2
      go_ret
      exact ⟨rfl, rfl⟩
end Go.Proofs.YtcnffdgmdeflmaaGreatDoor
/- The group of a safe prime: plain; the program's test can be reckoned. -/
namespace Go.Proofs.YtcnffdgmdeflmaaGreatDoor
open Go.RowKit
/-! ### The program's test, so that it can be reckoned -/
def passK (m b : Nat) : Bool :=
  let x := fpow m 40 1 (b % m) (odF 32 (m - 1) 0).1
  x == 1 || sqH m ((odF 32 (m - 1) 0).2 - 1) x
def primeK (m : Nat) : List Nat → Bool
  | [] => true
  | b :: bs => (m == b || (m % b != 0 && passK m b)) && primeK m bs
theorem passK_eq (m b : Nat) (h1 : 2 ≤ m) (hm : m ≤ 2147483649) : passH m b = passK m b := by
  have ho := (odF_pos 32 (m - 1) 0 (by omega)).2
  unfold passH passK
  rw [pow_eval m (b % m) _ (by omega)]
theorem primeK_eq (m : Nat) (h1 : 2 ≤ m) (hm : m ≤ 2147483649) : ∀ l, primeH m l = primeK m l
  | [] => rfl
  | b :: l => by rw [primeH, primeK, passK_eq m b h1 hm, primeK_eq m h1 hm l]
def safeK (p : Nat) : Bool := validP (p : Int) && primeK (2 * p + 1) basesN
theorem safeP_of {p : Nat} (h3 : 3 ≤ p) (h30 : p ≤ 1073741824) (h : safeK p = true) : safeP (p : Int) = true := by
  rw [safeK, Bool.and_eq_true] at h
  rw [safeP, h.1, decide_eq_true (by omega), show (2 * (p : Int) + 1).toNat = 2 * p + 1 by omega, primeK_eq _ (by omega) (by omega), h.2]
  rfl
theorem safeP_big : safeP 500000003 = true := safeP_of (p := 500000003) (by decide) (by decide) (by decide +kernel)
theorem prime_big : PrimeP 500000003 := primeP_of (by decide) (noDiv_of 500000003 11180 (by decide) (by decide +kernel) (by decide))
/-- 4 has an order that divides the prime -/
structure Grp (P : Nat) : Prop where
  three : 3 ≤ P
  four : 4 ^ P % (2 * P + 1) = 1
  prime : PrimeP P
theorem gpw_nat {P x : Nat} (hP : 3 ≤ P) (hx : x ^ P % (2 * P + 1) = 1) (k : Nat) : gpw P x (k : Int) = x ^ k % (2 * P + 1) := by
  rw [gpw, ← Int.natCast_emod, Int.toNat_natCast, ← pow_red (by omega) hx]
theorem pow_one_pow {m x P : Nat} (hm : 1 < m) (hx : x ^ P % m = 1) (k : Nat) : (x ^ k % m) ^ P % m = 1 := by
  rw [← Nat.pow_mod, ← Nat.pow_mul, Nat.mul_comm, pow_mod_mul, hx, Nat.one_pow, Nat.mod_eq_of_lt hm]
theorem pow_pos_mod {m x P : Nat} (hm : 1 < m) (h0 : 0 < P) (hx : x ^ P % m = 1) (k : Nat) : 0 < x ^ k % m := by
  rcases Nat.eq_zero_or_pos (x ^ k % m) with h | h
  · have := pow_one_pow hm hx k
    rw [h, Nat.zero_pow h0, Nat.zero_mod] at this
    omega
  · exact h
theorem memH_pow {P x : Nat} (hP : 3 ≤ P) (hx : x ^ P % (2 * P + 1) = 1) (k : Nat) : memH P (x ^ k % (2 * P + 1)) = true := by
  rw [memH, decide_eq_true (pow_pos_mod (by omega) (by omega) hx k), decide_eq_true (Nat.mod_lt _ (by omega)), pow_one_pow (by omega) hx k]
  rfl
theorem memZ_nat {P x : Nat} (h : memH P x = true) : memZ P (x : Int) = true := by
  have h' := h
  rw [memH, Bool.and_eq_true, decide_eq_true_eq] at h'
  rw [memZ, Int.toNat_natCast, h, decide_eq_true (by omega)]
  rfl
theorem mem_gpw {P : Nat} (h : Grp P) (k : Nat) : memZ P (gpw P 4 (k : Int) : Int) = true := by
  rw [gpw_nat h.three h.four]
  exact memZ_nat (memH_pow h.three h.four k)
theorem pow_shift {P : Nat} (h : Grp P) {S b : Nat} (hS : S < P) (h1 : 4 ^ ((S + b) % P) % (2 * P + 1) = 4 ^ S % (2 * P + 1)) : 4 ^ b % (2 * P + 1) = 1 := by
  have hm : 1 < 2 * P + 1 := by have := h.three; omega
  rw [← pow_red hm h.four] at h1
  have e : 4 ^ (P - S) * 4 ^ (S + b) % (2 * P + 1) = 4 ^ (P - S) * 4 ^ S % (2 * P + 1) := by rw [Nat.mul_mod, h1, ← Nat.mul_mod]
  rw [← Nat.pow_add, ← Nat.pow_add, show P - S + (S + b) = P + b by omega, show P - S + S = P by omega, h.four, pow_mod_add, h.four, Nat.one_mul, Nat.mod_mod] at e
  exact e
theorem grp_of (P : Nat) (h3 : 3 ≤ P) (h40 : P < 2 ^ 40) (h4 : fpow (2 * P + 1) 40 1 4 P = 1) (hp : PrimeP P) : Grp P := ⟨h3, by rw [pow_eval _ _ _ h40]; exact h4, hp⟩
theorem grp_big : Grp 500000003 := grp_of 500000003 (by decide) (by decide) (by decide +kernel) prime_big
end Go.Proofs.YtcnffdgmdeflmaaGreatDoor
/- Safe primes: the reference's test. -/
namespace Go.Proofs.YtcnffdgmdeflmaaGreatDoor
open Go.RowKit
theorem rsafe_of (p n k : Nat) (h3 : 3 ≤ p) (h30 : p ≤ 1073741824) (ho : p % 2 = 1) (h1 : tryF p 2 n 3 = true) (hn : p < (3 + 2 * n) * (3 + 2 * n)) (h2 : tryF (2 * p + 1) 2 k 3 = true) (hk : 2 * p + 1 < (3 + 2 * k) * (3 + 2 * k)) : rsafe (p : Int) = true := by
  rw [rsafe_iff, rvalid_iff]
  refine ⟨by omega, ⟨by omega, by omega, noDiv_of p n ho h1 hn⟩, ?_⟩
  have := noDiv_of (2 * p + 1) k (by omega) h2 hk
  rwa [show ((2 * p + 1 : Nat) : Int) = 2 * (p : Int) + 1 by omega] at this
theorem rsafe_big : rsafe 500000003 = true := rsafe_of 500000003 11180 15811 (by decide) (by decide) (by decide) (by decide +kernel) (by decide) (by decide +kernel) (by decide)
end Go.Proofs.YtcnffdgmdeflmaaGreatDoor
