/- Powers, the test of Miller and Rabin, and which numbers are permitted. -/
import Derived.Test.YtekhepklaokaiaaDoorGField
namespace Go.Proofs.YtekhepklaokaiaaDoor
open Go.RowKit
set_option maxRecDepth 100000 in
theorem power_walk (p a : Int) (n : Nat) (w : World) (hp : 2 ≤ p) (hp2 : p ≤ 1073741824) (ha : 0 ≤ a) (ha2 : a < p) (hn : n < 9223372036854775808) :
    Calls Tryd.prog 45 #[.int .i64 p, .int .i64 a, .int .u64 (n : Int)] w fun e w' => e = .returned (.int .i64 (powF p a n)) ∧ w = w' := by
  go_enter Tryd.func45, Tryd.ntmps45
  go_wp2_with (go_at_call 55; (with_reducible refine (modulo_walk p 1 _ (by omega) hp2 (by decide) (by decide)).mono ?_))
  rintro e w1 ⟨rfl, rfl⟩
  have h1p : (1 : Int) % p = 1 := Int.emod_eq_of_lt (by decide) (by omega)
  go_wp2
  go_loopw [1, 2, 7] (fun u v o wr => ∃ (m f : Nat) (x b : Int), wr = w ∧ u = .int .i64 b ∧ v = .int .u64 (m : Int) ∧ o = .int .i64 x ∧ 0 ≤ x ∧ x < p ∧ 0 ≤ b ∧ b < p ∧ m < 9223372036854775808 ∧ m < 2 ^ f ∧ pwF p f x b m = powF p a n) (fun _ v _ _ => (intOf v).toNat)
  case atStart => exact ⟨n, 64, 1, a, rfl, rfl, rfl, rfl, by decide, by omega, ha, ha2, hn, by omega, by rw [powF, h1p]⟩
  case round =>
    obtain ⟨m, f, x, b, rfl, rfl, rfl, rfl, hx, hx2, hb, hb2, hm, hmf, hpw⟩ := hrel
    have HP := Lib.hid hpw
    clear hpw
    obtain ⟨b1, b2⟩ := prod_bd hp2 hb hb2 hb hb2
    obtain ⟨x1, x2⟩ := prod_bd hp2 hx hx2 hb hb2
    have hbm1 := Int.emod_nonneg (b * b) (show p ≠ 0 by omega)
    have hbm2 := Int.emod_lt_of_pos (b * b) (show 0 < p by omega)
    have hxm1 := Int.emod_nonneg (x * b) (show p ≠ 0 by omega)
    have hxm2 := Int.emod_lt_of_pos (x * b) (show 0 < p by omega)
    by_cases h0 : m = 0
    · subst h0
      have hR := HP.out
      rw [pwF_zero] at hR
      subst hR
      go_wp2
      go_ret
      exact ⟨rfl, rfl⟩
    · cases f with
      | zero => simp at hmf; omega
      | succ f =>
        have hs := HP.out
        rw [pwF, if_neg h0] at hs
        have hmf2 : m / 2 < 2 ^ f := by rw [Nat.pow_succ] at hmf; omega
        have hpos : (0 : Int) < (m : Int) := by omega
        have ha1 := and1 m (by omega)
        rcases Nat.mod_two_eq_zero_or_one m with h2 | h2
        · rw [h2] at ha1
          rw [if_neg (by omega)] at hs
          have HS := Lib.hid hs
          have hcz : ((0 : Nat) : Int) = 0 := rfl
          rw [hcz] at ha1
          clear hs hmf HP h2
          go_wp2_with (go_at_call 56; (with_reducible refine (mul_walk _ _ _ _ (by omega) hp2 b1 (by omega)).mono ?_))
          rintro e w2 ⟨rfl, rfl⟩
          go_wp2
          go_roundw
          case rel => exact ⟨m / 2, f, x, b * b % p, trivial, rfl, by go_num, rfl, hx, hx2, hbm1, hbm2, by omega, hmf2, HS.out⟩
          case measure => simp [intOf]; omega
        · rw [h2] at ha1
          rw [if_pos h2] at hs
          have HS := Lib.hid hs
          have hcz : ((1 : Nat) : Int) = 1 := rfl
          rw [hcz] at ha1
          clear hs hmf HP h2
          go_wp2_with (go_at_call 56; (with_reducible refine (mul_walk _ _ _ _ (by omega) hp2 x1 (by omega)).mono ?_))
          rintro e w2 ⟨rfl, rfl⟩
          go_wp2_with (go_at_call 56; (with_reducible refine (mul_walk _ _ _ _ (by omega) hp2 b1 (by omega)).mono ?_))
          rintro e w2 ⟨rfl, rfl⟩
          go_wp2
          go_roundw
          case rel => exact ⟨m / 2, f, x * b % p, b * b % p, trivial, rfl, by go_num, rfl, hxm1, hxm2, hbm1, hbm2, by omega, hmf2, HS.out⟩
          case measure => simp [intOf]; omega
end Go.Proofs.YtekhepklaokaiaaDoor
