/- Primes by trial division: plain. No program in sight. -/
import Derived.Test.YtcnffdgmdeflmaaDoorGModP
import Derived.Test.YtcnffdgmdeflmaaDoorGHandE
namespace Go.Proofs.YtcnffdgmdeflmaaDoor
open Go.RowKit
/-- no divisor from 2 on up to the root -/
def NoDiv (p : Int) : Prop := ∀ d : Int, 2 ≤ d → d * d ≤ p → p % d ≠ 0
noncomputable def rvalid (p : Int) : Bool := @decide (2 ≤ p ∧ p ≤ 1073741824 ∧ NoDiv p) (Classical.propDecidable _)
noncomputable def rsafe (p : Int) : Bool := @decide (3 ≤ p ∧ rvalid p = true ∧ NoDiv (2 * p + 1)) (Classical.propDecidable _)
theorem rvalid_iff (p : Int) : rvalid p = true ↔ 2 ≤ p ∧ p ≤ 1073741824 ∧ NoDiv p := by unfold rvalid; simp
theorem rsafe_iff (p : Int) : rsafe p = true ↔ 3 ≤ p ∧ rvalid p = true ∧ NoDiv (2 * p + 1) := by unfold rsafe; simp
theorem sq_le {d k : Int} (h0 : 0 ≤ d) (h : d ≤ k) : 0 ≤ d * d ∧ d * d ≤ k * k := ⟨Int.mul_nonneg h0 h0, Int.mul_le_mul h h h0 (by omega)⟩
theorem sq_big {d p : Int} (hp : p ≤ 2147483649) (h : d * d ≤ p) : d ≤ 46341 := by
  rcases Int.lt_or_le 46341 d with h1 | h1
  · have := (sq_le (show (0 : Int) ≤ 46342 by omega) (show (46342 : Int) ≤ d by omega)).2
    omega
  · exact h1
theorem sq_bd {d p : Int} (hd : 2 ≤ d) (h : d * d ≤ p) : d < p := by
  have := Int.mul_le_mul_of_nonneg_right (show (2 : Int) ≤ d from hd) (show (0 : Int) ≤ d by omega)
  omega
/-! ### Primes by trial division -/
theorem tryF_all (p s : Nat) : ∀ (n d : Nat), tryF p s n d = true → ∀ k, k < n → p % (d + k * s) ≠ 0
  | 0, _, _, k, hk => by omega
  | n + 1, d, h, k, hk => by
    rw [tryF, Bool.and_eq_true, bne_iff_ne] at h
    cases k with
    | zero => rw [Nat.zero_mul, Nat.add_zero]; exact h.1
    | succ k =>
      have := tryF_all p s n (d + s) h.2 k (by omega)
      rwa [show d + (k + 1) * s = d + s + k * s by rw [Nat.succ_mul]; omega]
theorem noDiv_of (p n : Nat) (ho : p % 2 = 1) (h : tryF p 2 n 3 = true) (hn : p < (3 + 2 * n) * (3 + 2 * n)) : NoDiv (p : Int) := by
  intro d hd hle hz
  obtain ⟨e, rfl⟩ : ∃ e : Nat, d = (e : Int) := ⟨d.toNat, by omega⟩
  have hz' : p % e = 0 := by omega
  have hdv : e ∣ p := Nat.dvd_of_mod_eq_zero hz'
  have hle' : e * e ≤ p := by
    rw [← Int.natCast_mul] at hle; omega
  have heo : e % 2 = 1 := by
    rcases Nat.mod_two_eq_zero_or_one e with h2 | h2
    · have := Nat.dvd_trans (Nat.dvd_of_mod_eq_zero h2) hdv
      omega
    · exact h2
  have hlt : e < 3 + 2 * n := by
    rcases Nat.lt_or_ge e (3 + 2 * n) with h1 | h1
    · exact h1
    · have := Nat.mul_le_mul h1 h1; omega
  have := tryF_all p 2 n 3 h ((e - 3) / 2) (by omega)
  rw [show 3 + (e - 3) / 2 * 2 = e by omega] at this
  exact this hz'
theorem primeP_of {p : Nat} (h2 : 2 ≤ p) (h : NoDiv (p : Int)) : PrimeP p := by
  have key : ∀ e : Nat, 2 ≤ e → e * e ≤ p → ¬ e ∣ p := by
    intro e he hle hd
    have := h (e : Int) (by omega) (by rw [← Int.natCast_mul]; omega)
    have hz := Nat.mod_eq_zero_of_dvd hd
    omega
  refine ⟨h2, fun d hd => ?_⟩
  obtain ⟨c, hc⟩ := hd
  rcases Nat.lt_or_ge d 2 with hd2 | hd2
  · have : d ≠ 0 := by rintro rfl; simp at hc; omega
    omega
  rcases Nat.lt_or_ge c 2 with hc2 | hc2
  · have : c ≠ 0 := by rintro rfl; simp at hc; omega
    obtain rfl : c = 1 := by omega
    omega
  exfalso
  rcases Nat.le_total d c with hdc | hdc
  · exact key d hd2 (by rw [hc]; exact Nat.mul_le_mul_left d hdc) ⟨c, hc⟩
  · exact key c hc2 (by rw [hc]; exact Nat.mul_le_mul_right c hdc) ⟨d, by rw [hc, Nat.mul_comm]⟩
end Go.Proofs.YtcnffdgmdeflmaaDoor
/- The group of a safe prime: plain; the program's test can be reckoned. -/
namespace Go.Proofs.YtcnffdgmdeflmaaDoor
open Go.RowKit
/-! ### The program's test, so that it can be reckoned -/
def passK (m b : Nat) : Bool :=
  let x := fpow m 40 1 (b % m) (odF 32 (m - 1) 0).1
  x == 1 || sqH m ((odF 32 (m - 1) 0).2 - 1) x
def primeK (m : Nat) : List Nat → Bool
  | [] => true
  | b :: bs => (m == b || (m % b != 0 && passK m b)) && primeK m bs
theorem passK_eq (m b : Nat) (h1 : 2 ≤ m) (hm : m ≤ 2147483649) : passH m b = passK m b := by
  have ho := (odF_pos 32 (m - 1) 0 (by omega)).2
  unfold passH passK
  rw [pow_eval m (b % m) _ (by omega)]
theorem primeK_eq (m : Nat) (h1 : 2 ≤ m) (hm : m ≤ 2147483649) : ∀ l, primeH m l = primeK m l
  | [] => rfl
  | b :: l => by rw [primeH, primeK, passK_eq m b h1 hm, primeK_eq m h1 hm l]
def safeK (p : Nat) : Bool := validP (p : Int) && primeK (2 * p + 1) basesN
theorem safeP_of {p : Nat} (h3 : 3 ≤ p) (h30 : p ≤ 1073741824) (h : safeK p = true) : safeP (p : Int) = true := by
  rw [safeK, Bool.and_eq_true] at h
  rw [safeP, h.1, decide_eq_true (by omega), show (2 * (p : Int) + 1).toNat = 2 * p + 1 by omega, primeK_eq _ (by omega) (by omega), h.2]
  rfl
theorem safeP_big : safeP 500000003 = true := safeP_of (p := 500000003) (by decide) (by decide) (by decide +kernel)
theorem prime_big : PrimeP 500000003 := primeP_of (by decide) (noDiv_of 500000003 11180 (by decide) (by decide +kernel) (by decide))
/-- 4 has an order that divides the prime -/
structure Grp (P : Nat) : Prop where
  three : 3 ≤ P
  four : 4 ^ P % (2 * P + 1) = 1
  prime : PrimeP P
theorem gpw_nat {P x : Nat} (hP : 3 ≤ P) (hx : x ^ P % (2 * P + 1) = 1) (k : Nat) : gpw P x (k : Int) = x ^ k % (2 * P + 1) := by
  rw [gpw, ← Int.natCast_emod, Int.toNat_natCast, ← pow_red (by omega) hx]
theorem pow_one_pow {m x P : Nat} (hm : 1 < m) (hx : x ^ P % m = 1) (k : Nat) : (x ^ k % m) ^ P % m = 1 := by
  rw [← Nat.pow_mod, ← Nat.pow_mul, Nat.mul_comm, pow_mod_mul, hx, Nat.one_pow, Nat.mod_eq_of_lt hm]
theorem pow_pos_mod {m x P : Nat} (hm : 1 < m) (h0 : 0 < P) (hx : x ^ P % m = 1) (k : Nat) : 0 < x ^ k % m := by
  rcases Nat.eq_zero_or_pos (x ^ k % m) with h | h
  · have := pow_one_pow hm hx k
    rw [h, Nat.zero_pow h0, Nat.zero_mod] at this
    omega
  · exact h
theorem memH_pow {P x : Nat} (hP : 3 ≤ P) (hx : x ^ P % (2 * P + 1) = 1) (k : Nat) : memH P (x ^ k % (2 * P + 1)) = true := by
  rw [memH, decide_eq_true (pow_pos_mod (by omega) (by omega) hx k), decide_eq_true (Nat.mod_lt _ (by omega)), pow_one_pow (by omega) hx k]
  rfl
theorem memZ_nat {P x : Nat} (h : memH P x = true) : memZ P (x : Int) = true := by
  have h' := h
  rw [memH, Bool.and_eq_true, decide_eq_true_eq] at h'
  rw [memZ, Int.toNat_natCast, h, decide_eq_true (by omega)]
  rfl
theorem mem_gpw {P : Nat} (h : Grp P) (k : Nat) : memZ P (gpw P 4 (k : Int) : Int) = true := by
  rw [gpw_nat h.three h.four]
  exact memZ_nat (memH_pow h.three h.four k)
theorem pow_shift {P : Nat} (h : Grp P) {S b : Nat} (hS : S < P) (h1 : 4 ^ ((S + b) % P) % (2 * P + 1) = 4 ^ S % (2 * P + 1)) : 4 ^ b % (2 * P + 1) = 1 := by
  have hm : 1 < 2 * P + 1 := by have := h.three; omega
  rw [← pow_red hm h.four] at h1
  have e : 4 ^ (P - S) * 4 ^ (S + b) % (2 * P + 1) = 4 ^ (P - S) * 4 ^ S % (2 * P + 1) := by rw [Nat.mul_mod, h1, ← Nat.mul_mod]
  rw [← Nat.pow_add, ← Nat.pow_add, show P - S + (S + b) = P + b by omega, show P - S + S = P by omega, h.four, pow_mod_add, h.four, Nat.one_mul, Nat.mod_mod] at e
  exact e
theorem grp_of (P : Nat) (h3 : 3 ≤ P) (h40 : P < 2 ^ 40) (h4 : fpow (2 * P + 1) 40 1 4 P = 1) (hp : PrimeP P) : Grp P := ⟨h3, by rw [pow_eval _ _ _ h40]; exact h4, hp⟩
theorem grp_big : Grp 500000003 := grp_of 500000003 (by decide) (by decide) (by decide +kernel) prime_big
end Go.Proofs.YtcnffdgmdeflmaaDoor
