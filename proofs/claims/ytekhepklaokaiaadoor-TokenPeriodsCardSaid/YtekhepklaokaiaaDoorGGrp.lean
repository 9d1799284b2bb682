/- The group of a safe prime: plain; the program's test can be reckoned. -/
import Derived.Test.YtekhepklaokaiaaDoorGHandE
import Derived.Test.YtekhepklaokaiaaDoorGNoDiv
namespace Go.Proofs.YtekhepklaokaiaaDoor
open Go.RowKit
/-! ### The program's test, so that it can be reckoned -/
def passK (m b : Nat) : Bool :=
  let x := fpow m 40 1 (b % m) (odF 32 (m - 1) 0).1
  x == 1 || sqH m ((odF 32 (m - 1) 0).2 - 1) x
def primeK (m : Nat) : List Nat → Bool
  | [] => true
  | b :: bs => (m == b || (m % b != 0 && passK m b)) && primeK m bs
theorem passK_eq (m b : Nat) (h1 : 2 ≤ m) (hm : m ≤ 2147483649) : passH m b = passK m b := by
  have ho := (odF_pos 32 (m - 1) 0 (by omega)).2
  unfold passH passK
  rw [pow_eval m (b % m) _ (by omega)]
theorem primeK_eq (m : Nat) (h1 : 2 ≤ m) (hm : m ≤ 2147483649) : ∀ l, primeH m l = primeK m l
  | [] => rfl
  | b :: l => by rw [primeH, primeK, passK_eq m b h1 hm, primeK_eq m h1 hm l]
def safeK (p : Nat) : Bool := validP (p : Int) && primeK (2 * p + 1) basesN
theorem safeP_of {p : Nat} (h3 : 3 ≤ p) (h30 : p ≤ 1073741824) (h : safeK p = true) : safeP (p : Int) = true := by
  rw [safeK, Bool.and_eq_true] at h
  rw [safeP, h.1, decide_eq_true (by omega), show (2 * (p : Int) + 1).toNat = 2 * p + 1 by omega, primeK_eq _ (by omega) (by omega), h.2]
  rfl
theorem safeP_big : safeP 500000003 = true := safeP_of (p := 500000003) (by decide) (by decide) (by decide +kernel)
theorem prime_big : PrimeP 500000003 := primeP_of (by decide) (noDiv_of 500000003 11180 (by decide) (by decide +kernel) (by decide))
/-- 4 has an order that divides the prime -/
structure Grp (P : Nat) : Prop where
  three : 3 ≤ P
  four : 4 ^ P % (2 * P + 1) = 1
  prime : PrimeP P
theorem gpw_nat {P x : Nat} (hP : 3 ≤ P) (hx : x ^ P % (2 * P + 1) = 1) (k : Nat) : gpw P x (k : Int) = x ^ k % (2 * P + 1) := by
  rw [gpw, ← Int.natCast_emod, Int.toNat_natCast, ← pow_red (by omega) hx]
theorem pow_one_pow {m x P : Nat} (hm : 1 < m) (hx : x ^ P % m = 1) (k : Nat) : (x ^ k % m) ^ P % m = 1 := by
  rw [← Nat.pow_mod, ← Nat.pow_mul, Nat.mul_comm, pow_mod_mul, hx, Nat.one_pow, Nat.mod_eq_of_lt hm]
theorem pow_pos_mod {m x P : Nat} (hm : 1 < m) (h0 : 0 < P) (hx : x ^ P % m = 1) (k : Nat) : 0 < x ^ k % m := by
  rcases Nat.eq_zero_or_pos (x ^ k % m) with h | h
  · have := pow_one_pow hm hx k
    rw [h, Nat.zero_pow h0, Nat.zero_mod] at this
    omega
  · exact h
theorem memH_pow {P x : Nat} (hP : 3 ≤ P) (hx : x ^ P % (2 * P + 1) = 1) (k : Nat) : memH P (x ^ k % (2 * P + 1)) = true := by
  rw [memH, decide_eq_true (pow_pos_mod (by omega) (by omega) hx k), decide_eq_true (Nat.mod_lt _ (by omega)), pow_one_pow (by omega) hx k]
  rfl
theorem memZ_nat {P x : Nat} (h : memH P x = true) : memZ P (x : Int) = true := by
  have h' := h
  rw [memH, Bool.and_eq_true, decide_eq_true_eq] at h'
  rw [memZ, Int.toNat_natCast, h, decide_eq_true (by omega)]
  rfl
theorem mem_gpw {P : Nat} (h : Grp P) (k : Nat) : memZ P (gpw P 4 (k : Int) : Int) = true := by
  rw [gpw_nat h.three h.four]
  exact memZ_nat (memH_pow h.three h.four k)
theorem pow_shift {P : Nat} (h : Grp P) {S b : Nat} (hS : S < P) (h1 : 4 ^ ((S + b) % P) % (2 * P + 1) = 4 ^ S % (2 * P + 1)) : 4 ^ b % (2 * P + 1) = 1 := by
  have hm : 1 < 2 * P + 1 := by have := h.three; omega
  rw [← pow_red hm h.four] at h1
  have e : 4 ^ (P - S) * 4 ^ (S + b) % (2 * P + 1) = 4 ^ (P - S) * 4 ^ S % (2 * P + 1) := by rw [Nat.mul_mod, h1, ← Nat.mul_mod]
  rw [← Nat.pow_add, ← Nat.pow_add, show P - S + (S + b) = P + b by omega, show P - S + S = P by omega, h.four, pow_mod_add, h.four, Nat.one_mul, Nat.mod_mod] at e
  exact e
theorem grp_of (P : Nat) (h3 : 3 ≤ P) (h40 : P < 2 ^ 40) (h4 : fpow (2 * P + 1) 40 1 4 P = 1) (hp : PrimeP P) : Grp P := ⟨h3, by rw [pow_eval _ _ _ h40]; exact h4, hp⟩
theorem grp_big : Grp 500000003 := grp_of 500000003 (by decide) (by decide) (by decide +kernel) prime_big
end Go.Proofs.YtekhepklaokaiaaDoor
