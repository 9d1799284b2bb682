/- Powers modulo a number, orders, and trial division: plain. No program in sight. -/
import Derived.Test.YtekhepklaokaiaaDoorGField
namespace Go.Proofs.YtekhepklaokaiaaDoor
/-! ### Powers by squares -/
/-- one round of the loop -/
theorem pow_odd (m o y k : Nat) (h : k % 2 = 1) : (o * y % m) * (y * y % m) ^ (k / 2) % m = o * y ^ k % m := by
  have e : y ^ k = y * (y * y) ^ (k / 2) := by
    conv => lhs; rw [show k = 2 * (k / 2) + 1 by omega]
    rw [Nat.pow_succ, Nat.pow_mul, show y ^ 2 = y * y by rw [Nat.pow_succ, Nat.pow_one], Nat.mul_comm]
  rw [Nat.mul_mod, Nat.mod_mod, ← Nat.pow_mod, ← Nat.mul_mod, e, Nat.mul_assoc]
theorem pow_even (m o y k : Nat) (h : k % 2 = 0) : o * (y * y % m) ^ (k / 2) % m = o * y ^ k % m := by
  have e : y ^ k = (y * y) ^ (k / 2) := by
    conv => lhs; rw [show k = 2 * (k / 2) by omega]
    rw [Nat.pow_mul, show y ^ 2 = y * y by rw [Nat.pow_succ, Nat.pow_one]]
  rw [Nat.mul_mod, ← Nat.pow_mod, ← Nat.mul_mod, e]
/-- powers that the kernel can reckon -/
def fpow (m : Nat) : Nat → Nat → Nat → Nat → Nat
  | 0, o, _, _ => o % m
  | f + 1, o, y, k => if k = 0 then o % m else if k % 2 = 1 then fpow m f (o * y % m) (y * y % m) (k / 2) else fpow m f o (y * y % m) (k / 2)
theorem fpow_eq (m : Nat) : ∀ f o y k, k < 2 ^ f → fpow m f o y k = o * y ^ k % m
  | 0, o, y, k, h => by
    have : k = 0 := by simpa using h
    subst this; simp [fpow]
  | f + 1, o, y, k, h => by
    rw [fpow]
    split
    · rename_i h0; subst h0; simp
    · have h2 : k / 2 < 2 ^ f := by rw [Nat.pow_succ] at h; omega
      split
      · rename_i ho; rw [fpow_eq m f _ _ _ h2, pow_odd m o y k ho]
      · rw [fpow_eq m f _ _ _ h2, pow_even m o y k (by omega)]
theorem pow_eval (m x e : Nat) (h : e < 2 ^ 40) : x ^ e % m = fpow m 40 1 x e := by rw [fpow_eq m 40 1 x e h, Nat.one_mul]
/-- the program's powers of the field -/
theorem pwF_eq (p : Nat) : ∀ (f o y k : Nat), k < 2 ^ f → o < p → Go.Proofs.YtekhepklaokaiaaDoor.pwF (p : Int) f (o : Int) (y : Int) k = ((o * y ^ k % p : Nat) : Int)
  | 0, o, y, k, h, ho => by
    have : k = 0 := by simpa using h
    subst this; simp [pwF, Nat.mod_eq_of_lt ho]
  | f + 1, o, y, k, h, ho => by
    rw [pwF]
    split
    · rename_i h0; subst h0; simp [Nat.mod_eq_of_lt ho]
    · have h2 : k / 2 < 2 ^ f := by rw [Nat.pow_succ] at h; omega
      have hy : ((y : Int) * (y : Int) % (p : Int)) = ((y * y % p : Nat) : Int) := by simp
      have hoy : ((o : Int) * (y : Int) % (p : Int)) = ((o * y % p : Nat) : Int) := by simp
      rw [hy, hoy]
      split
      · rename_i h1; rw [pwF_eq p f _ _ _ h2 (Nat.mod_lt _ (by omega)), pow_odd p o y k h1]
      · rw [pwF_eq p f _ _ _ h2 ho, pow_even p o y k (by omega)]
/-! ### Orders -/
theorem pow_mod_mul (m x a b : Nat) : x ^ (a * b) % m = (x ^ a % m) ^ b % m := by rw [Nat.pow_mul, Nat.pow_mod]
theorem pow_mod_add (m x a b : Nat) : x ^ (a + b) % m = (x ^ a % m) * (x ^ b % m) % m := by rw [Nat.pow_add, Nat.mul_mod]
/-- an exponent counts modulo what gives 1 -/
theorem pow_red {m x p : Nat} (hm : 1 < m) (h : x ^ p % m = 1) (k : Nat) : x ^ k % m = x ^ (k % p) % m := by
  conv => lhs; rw [← Nat.div_add_mod k p]
  rw [pow_mod_add, pow_mod_mul, h, Nat.one_pow, Nat.mod_eq_of_lt hm, Nat.one_mul, Nat.mod_mod]
theorem pow_gcd {m x : Nat} (hm : 1 < m) : ∀ (a b : Nat), x ^ a % m = 1 → x ^ b % m = 1 → x ^ Nat.gcd a b % m = 1 := by
  intro a b
  induction a, b using Nat.gcd.induction with
  | H0 n => intro _ h; rw [Nat.gcd_zero_left]; exact h
  | H1 a b ha ih =>
    intro h1 h2
    rw [Nat.gcd_rec]
    exact ih (by rw [← pow_red hm h1]; exact h2) h1
/-- no divisor from 2 on but the number itself -/
def PrimeP (p : Nat) : Prop := 2 ≤ p ∧ ∀ d, d ∣ p → d = 1 ∨ d = p
theorem pow_ne_one {m x p k : Nat} (hm : 1 < m) (hp : PrimeP p) (hx : x % m ≠ 1) (h : x ^ p % m = 1) (h0 : 0 < k) (hk : k < p) : x ^ k % m ≠ 1 := by
  intro h1
  have hg := pow_gcd hm k p h1 h
  rcases hp.2 _ (Nat.gcd_dvd_right k p) with e | e
  · rw [e, Nat.pow_one] at hg; exact hx hg
  · have := Nat.le_of_dvd h0 (Nat.gcd_dvd_left k p)
    omega
/-! ### Trial division -/
/-- no divisor among d, d + s, d + 2 s .. (n of them) -/
def tryF (p : Nat) (s : Nat) : Nat → Nat → Bool
  | 0, _ => true
  | n + 1, d => p % d != 0 && tryF p s n (d + s)
end Go.Proofs.YtekhepklaokaiaaDoor
