/- Fields: products, powers, the test of Miller and Rabin, at this program. -/
import Derived.Test.YtpbhendndelonaaDoorPackP
import Derived.Laws.BitsAllLaws
namespace Go.Proofs.YtpbhendndelonaaDoor
open Go.RowKit
theorem prod_bd {p a b : Int} (hp : p ≤ 1073741824) (ha : 0 ≤ a) (ha2 : a < p) (hb : 0 ≤ b) (hb2 : b < p) : 0 ≤ a * b ∧ a * b < 1152921504606846976 := by
  have h1 := Int.mul_nonneg ha hb
  have h2 := Int.mul_le_mul (show a ≤ 1073741823 by omega) (show b ≤ 1073741823 by omega) hb (by omega)
  omega
set_option maxRecDepth 100000 in
theorem modulo_walk (p n : Int) (w : World) (hp : 1 ≤ p) (hp2 : p ≤ 1073741824) (hn : 0 ≤ n) (hn2 : n < 9223372036854775808) :
    Calls Tryd.prog 52 #[.int .i64 p, .int .i64 n] w fun e w' => e = .returned (.int .i64 (n % p)) ∧ w = w' := by
  have hm1 := Int.emod_nonneg n (show p ≠ 0 by omega)
  have hm2 := Int.emod_lt_of_pos n (show 0 < p by omega)
  go_enter Tryd.func52, Tryd.ntmps52
  go_wp2
  go_ret
  exact ⟨rfl, rfl⟩
set_option maxRecDepth 100000 in
theorem mul_walk (p a b : Int) (w : World) (hp : 1 ≤ p) (hp2 : p ≤ 1073741824) (hn : 0 ≤ a * b) (hn2 : a * b < 9223372036854775808) :
    Calls Tryd.prog 42 #[.int .i64 p, .int .i64 a, .int .i64 b] w fun e w' => e = .returned (.int .i64 (a * b % p)) ∧ w = w' := by
  go_enter Tryd.func42, Tryd.ntmps42
  go_wp2_with (go_at_call 52; (with_reducible refine (modulo_walk _ _ _ hp hp2 hn hn2).mono ?_))
  rintro e w1 ⟨rfl, rfl⟩
  go_wp2
  go_ret
  exact ⟨rfl, rfl⟩
theorem and1 (m : Nat) (h : m < 18446744073709551616) : bits .and .u64 (m : Int) 1 = ((m % 2 : Nat) : Int) := by
  have := u64_and_nat m 1 h (by omega)
  rw [show m &&& 1 = m % 2 from Nat.and_two_pow_sub_one_eq_mod m 1] at this
  exact this
end Go.Proofs.YtpbhendndelonaaDoor
