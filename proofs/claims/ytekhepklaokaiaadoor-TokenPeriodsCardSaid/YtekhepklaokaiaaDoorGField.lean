/- The test of Miller and Rabin, as the program makes it: plain. No program in sight. -/
import Derived.Test.YtekhepklaokaiaaDoorBase
import Derived.Laws.BitsAllLaws
namespace Go.Proofs.YtekhepklaokaiaaDoor
open Go.RowKit
/-! ### The test of Miller and Rabin -/
def pwF (p : Int) : Nat → Int → Int → Nat → Int
  | 0, out, _, _ => out
  | f + 1, out, a, n => if n = 0 then out else pwF p f (if n % 2 = 1 then out * a % p else out) (a * a % p) (n / 2)
def powF (p a : Int) (n : Nat) : Int := pwF p 64 (1 % p) a n
theorem pwF_zero (p : Int) (f : Nat) (out a : Int) : pwF p f out a 0 = out := by cases f <;> simp [pwF]
theorem pwF_fuel (p : Int) : ∀ f n out a, n < 2 ^ f → pwF p (f + 1) out a n = pwF p f out a n
  | 0, n, out, a, h => by
    have : n = 0 := by simpa using h
    subst this; simp [pwF]
  | f + 1, n, out, a, h => by
    conv => lhs; rw [pwF]
    conv => rhs; rw [pwF]
    by_cases h0 : n = 0
    · rw [if_pos h0, if_pos h0]
    · rw [if_neg h0, if_neg h0]
      exact pwF_fuel p f _ _ _ (by rw [Nat.pow_succ] at h; omega)
def odF : Nat → Nat → Nat → Nat × Nat
  | 0, o, t => (o, t)
  | f + 1, o, t => if o % 2 = 0 then odF f (o / 2) (t + 1) else (o, t)
def sqF (p : Int) : Nat → Int → Bool
  | 0, _ => false
  | k + 1, x => if x * x % p = p - 1 then true else sqF p k (x * x % p)
def passF (p b : Int) : Bool :=
  let x := powF p (b % p) (odF 31 (p - 1).toNat 0).1
  x == 1 || x == 0 || x == p - 1 || sqF p ((odF 31 (p - 1).toNat 0).2 - 1) x
def basesL : List Int := [2, 3, 5, 7]
def vlF (p : Int) : List Int → Bool
  | [] => true
  | b :: bs => if p = b then true else if p % b = 0 || !passF p b then false else vlF p bs
end Go.Proofs.YtekhepklaokaiaaDoor
/- Fields: products, powers, the test of Miller and Rabin, at this program. -/
namespace Go.Proofs.YtekhepklaokaiaaDoor
open Go.RowKit
theorem prod_bd {p a b : Int} (hp : p ≤ 1073741824) (ha : 0 ≤ a) (ha2 : a < p) (hb : 0 ≤ b) (hb2 : b < p) : 0 ≤ a * b ∧ a * b < 1152921504606846976 := by
  have h1 := Int.mul_nonneg ha hb
  have h2 := Int.mul_le_mul (show a ≤ 1073741823 by omega) (show b ≤ 1073741823 by omega) hb (by omega)
  omega
set_option maxRecDepth 100000 in
theorem modulo_walk (p n : Int) (w : World) (hp : 1 ≤ p) (hp2 : p ≤ 1073741824) (hn : 0 ≤ n) (hn2 : n < 9223372036854775808) :
    Calls Tryd.prog 55 #[.int .i64 p, .int .i64 n] w fun e w' => e = .returned (.int .i64 (n % p)) ∧ w = w' := by
  have hm1 := Int.emod_nonneg n (show p ≠ 0 by omega)
  have hm2 := Int.emod_lt_of_pos n (show 0 < p by omega)
  go_enter Tryd.func55, Tryd.ntmps55
  go_wp2
  go_ret
  exact ⟨rfl, rfl⟩
set_option maxRecDepth 100000 in
theorem mul_walk (p a b : Int) (w : World) (hp : 1 ≤ p) (hp2 : p ≤ 1073741824) (hn : 0 ≤ a * b) (hn2 : a * b < 9223372036854775808) :
    Calls Tryd.prog 56 #[.int .i64 p, .int .i64 a, .int .i64 b] w fun e w' => e = .returned (.int .i64 (a * b % p)) ∧ w = w' := by
  go_enter Tryd.func56, Tryd.ntmps56
  go_wp2_with (go_at_call 55; (with_reducible refine (modulo_walk _ _ _ hp hp2 hn hn2).mono ?_))
  rintro e w1 ⟨rfl, rfl⟩
  go_wp2
  go_ret
  exact ⟨rfl, rfl⟩
theorem and1 (m : Nat) (h : m < 18446744073709551616) : bits .and .u64 (m : Int) 1 = ((m % 2 : Nat) : Int) := by
  have := u64_and_nat m 1 h (by omega)
  rw [show m &&& 1 = m % 2 from Nat.and_two_pow_sub_one_eq_mod m 1] at this
  exact this
end Go.Proofs.YtekhepklaokaiaaDoor
