/- The test of Miller and Rabin, as the program makes it: plain. No program in sight. -/
import Derived.Test.YtekhepklaokaiaaDoorBase
import Derived.Laws.BitsAllLaws
namespace Go.Proofs.YtekhepklaokaiaaDoor
open Go.RowKit
/-! ### The test of Miller and Rabin -/
def pwF (p : Int) : Nat → Int → Int → Nat → Int
  | 0, out, _, _ => out
  | f + 1, out, a, n => if n = 0 then out else pwF p f (if n % 2 = 1 then out * a % p else out) (a * a % p) (n / 2)
def powF (p a : Int) (n : Nat) : Int := pwF p 64 (1 % p) a n
theorem pwF_zero (p : Int) (f : Nat) (out a : Int) : pwF p f out a 0 = out := by cases f <;> simp [pwF]
theorem pwF_fuel (p : Int) : ∀ f n out a, n < 2 ^ f → pwF p (f + 1) out a n = pwF p f out a n
  | 0, n, out, a, h => by
    have : n = 0 := by simpa using h
    subst this; simp [pwF]
  | f + 1, n, out, a, h => by
    conv => lhs; rw [pwF]
    conv => rhs; rw [pwF]
    by_cases h0 : n = 0
    · rw [if_pos h0, if_pos h0]
    · rw [if_neg h0, if_neg h0]
      exact pwF_fuel p f _ _ _ (by rw [Nat.pow_succ] at h; omega)
def odF : Nat → Nat → Nat → Nat × Nat
  | 0, o, t => (o, t)
  | f + 1, o, t => if o % 2 = 0 then odF f (o / 2) (t + 1) else (o, t)
def sqF (p : Int) : Nat → Int → Bool
  | 0, _ => false
  | k + 1, x => if x * x % p = p - 1 then true else sqF p k (x * x % p)
def passF (p b : Int) : Bool :=
  let x := powF p (b % p) (odF 31 (p - 1).toNat 0).1
  x == 1 || x == 0 || x == p - 1 || sqF p ((odF 31 (p - 1).toNat 0).2 - 1) x
def basesL : List Int := [2, 3, 5, 7]
def vlF (p : Int) : List Int → Bool
  | [] => true
  | b :: bs => if p = b then true else if p % b = 0 || !passF p b then false else vlF p bs
end Go.Proofs.YtekhepklaokaiaaDoor
/- Fields: products, powers, the test of Miller and Rabin, at this program. -/
namespace Go.Proofs.YtekhepklaokaiaaDoor
open Go.RowKit
theorem prod_bd {p a b : Int} (hp : p ≤ 1073741824) (ha : 0 ≤ a) (ha2 : a < p) (hb : 0 ≤ b) (hb2 : b < p) : 0 ≤ a * b ∧ a * b < 1152921504606846976 := by
  have h1 := Int.mul_nonneg ha hb
  have h2 := Int.mul_le_mul (show a ≤ 1073741823 by omega) (show b ≤ 1073741823 by omega) hb (by omega)
  omega
set_option maxRecDepth 100000 in
theorem modulo_walk (p n : Int) (w : World) (hp : 1 ≤ p) (hp2 : p ≤ 1073741824) (hn : 0 ≤ n) (hn2 : n < 9223372036854775808) :
    Calls Tryd.prog 55 #[.int .i64 p, .int .i64 n] w fun e w' => e = .returned (.int .i64 (n % p)) ∧ w = w' := by
  have hm1 := Int.emod_nonneg n (show p ≠ 0 by omega)
  have hm2 := Int.emod_lt_of_pos n (show 0 < p by omega)
  go_enter Tryd.func55, Tryd.ntmps55
  go_wp2
  go_ret
  exact ⟨rfl, rfl⟩
set_option maxRecDepth 100000 in
theorem mul_walk (p a b : Int) (w : World) (hp : 1 ≤ p) (hp2 : p ≤ 1073741824) (hn : 0 ≤ a * b) (hn2 : a * b < 9223372036854775808) :
    Calls Tryd.prog 56 #[.int .i64 p, .int .i64 a, .int .i64 b] w fun e w' => e = .returned (.int .i64 (a * b % p)) ∧ w = w' := by
  go_enter Tryd.func56, Tryd.ntmps56
  go_wp2_with (go_at_call 55; (with_reducible refine (modulo_walk _ _ _ hp hp2 hn hn2).mono ?_))
  rintro e w1 ⟨rfl, rfl⟩
  go_wp2
  go_ret
  exact ⟨rfl, rfl⟩
theorem and1 (m : Nat) (h : m < 18446744073709551616) : bits .and .u64 (m : Int) 1 = ((m % 2 : Nat) : Int) := by
  have := u64_and_nat m 1 h (by omega)
  rw [show m &&& 1 = m % 2 from Nat.and_two_pow_sub_one_eq_mod m 1] at this
  exact this
end Go.Proofs.YtekhepklaokaiaaDoor
/- Powers, the test of Miller and Rabin, and which numbers are permitted. -/
namespace Go.Proofs.YtekhepklaokaiaaDoor
open Go.RowKit
set_option maxRecDepth 100000 in
theorem power_walk (p a : Int) (n : Nat) (w : World) (hp : 2 ≤ p) (hp2 : p ≤ 1073741824) (ha : 0 ≤ a) (ha2 : a < p) (hn : n < 9223372036854775808) :
    Calls Tryd.prog 45 #[.int .i64 p, .int .i64 a, .int .u64 (n : Int)] w fun e w' => e = .returned (.int .i64 (powF p a n)) ∧ w = w' := by
  go_enter Tryd.func45, Tryd.ntmps45
  go_wp2_with (go_at_call 55; (with_reducible refine (modulo_walk p 1 _ (by omega) hp2 (by decide) (by decide)).mono ?_))
  rintro e w1 ⟨rfl, rfl⟩
  have h1p : (1 : Int) % p = 1 := Int.emod_eq_of_lt (by decide) (by omega)
  go_wp2
  go_loopw [1, 2, 7] (fun u v o wr => ∃ (m f : Nat) (x b : Int), wr = w ∧ u = .int .i64 b ∧ v = .int .u64 (m : Int) ∧ o = .int .i64 x ∧ 0 ≤ x ∧ x < p ∧ 0 ≤ b ∧ b < p ∧ m < 9223372036854775808 ∧ m < 2 ^ f ∧ pwF p f x b m = powF p a n) (fun _ v _ _ => (intOf v).toNat)
  case atStart => exact ⟨n, 64, 1, a, rfl, rfl, rfl, rfl, by decide, by omega, ha, ha2, hn, by omega, by rw [powF, h1p]⟩
  case round =>
    obtain ⟨m, f, x, b, rfl, rfl, rfl, rfl, hx, hx2, hb, hb2, hm, hmf, hpw⟩ := hrel
    have HP := Lib.hid hpw
    clear hpw
    obtain ⟨b1, b2⟩ := prod_bd hp2 hb hb2 hb hb2
    obtain ⟨x1, x2⟩ := prod_bd hp2 hx hx2 hb hb2
    have hbm1 := Int.emod_nonneg (b * b) (show p ≠ 0 by omega)
    have hbm2 := Int.emod_lt_of_pos (b * b) (show 0 < p by omega)
    have hxm1 := Int.emod_nonneg (x * b) (show p ≠ 0 by omega)
    have hxm2 := Int.emod_lt_of_pos (x * b) (show 0 < p by omega)
    by_cases h0 : m = 0
    · subst h0
      have hR := HP.out
      rw [pwF_zero] at hR
      subst hR
      go_wp2
      go_ret
      exact ⟨rfl, rfl⟩
    · cases f with
      | zero => simp at hmf; omega
      | succ f =>
        have hs := HP.out
        rw [pwF, if_neg h0] at hs
        have hmf2 : m / 2 < 2 ^ f := by rw [Nat.pow_succ] at hmf; omega
        have hpos : (0 : Int) < (m : Int) := by omega
        have ha1 := and1 m (by omega)
        rcases Nat.mod_two_eq_zero_or_one m with h2 | h2
        · rw [h2] at ha1
          rw [if_neg (by omega)] at hs
          have HS := Lib.hid hs
          have hcz : ((0 : Nat) : Int) = 0 := rfl
          rw [hcz] at ha1
          clear hs hmf HP h2
          go_wp2_with (go_at_call 56; (with_reducible refine (mul_walk _ _ _ _ (by omega) hp2 b1 (by omega)).mono ?_))
          rintro e w2 ⟨rfl, rfl⟩
          go_wp2
          go_roundw
          case rel => exact ⟨m / 2, f, x, b * b % p, trivial, rfl, by go_num, rfl, hx, hx2, hbm1, hbm2, by omega, hmf2, HS.out⟩
          case measure => simp [intOf]; omega
        · rw [h2] at ha1
          rw [if_pos h2] at hs
          have HS := Lib.hid hs
          have hcz : ((1 : Nat) : Int) = 1 := rfl
          rw [hcz] at ha1
          clear hs hmf HP h2
          go_wp2_with (go_at_call 56; (with_reducible refine (mul_walk _ _ _ _ (by omega) hp2 x1 (by omega)).mono ?_))
          rintro e w2 ⟨rfl, rfl⟩
          go_wp2_with (go_at_call 56; (with_reducible refine (mul_walk _ _ _ _ (by omega) hp2 b1 (by omega)).mono ?_))
          rintro e w2 ⟨rfl, rfl⟩
          go_wp2
          go_roundw
          case rel => exact ⟨m / 2, f, x * b % p, b * b % p, trivial, rfl, by go_num, rfl, hxm1, hxm2, hbm1, hbm2, by omega, hmf2, HS.out⟩
          case measure => simp [intOf]; omega
end Go.Proofs.YtekhepklaokaiaaDoor
