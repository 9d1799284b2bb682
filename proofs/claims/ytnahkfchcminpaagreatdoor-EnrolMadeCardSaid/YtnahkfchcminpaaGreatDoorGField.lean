/- The test of Miller and Rabin, as the program makes it: plain. No program in sight. -/
import Derived.Test.YtnahkfchcminpaaGreatDoorBase
import Derived.Laws.BitsAllLaws
namespace Go.Proofs.YtnahkfchcminpaaGreatDoor
open Go.RowKit
/-! ### The test of Miller and Rabin -/
def pwF (p : Int) : Nat → Int → Int → Nat → Int
  | 0, out, _, _ => out
  | f + 1, out, a, n => if n = 0 then out else pwF p f (if n % 2 = 1 then out * a % p else out) (a * a % p) (n / 2)
def powF (p a : Int) (n : Nat) : Int := pwF p 64 (1 % p) a n
theorem pwF_zero (p : Int) (f : Nat) (out a : Int) : pwF p f out a 0 = out := by cases f <;> simp [pwF]
theorem pwF_fuel (p : Int) : ∀ f n out a, n < 2 ^ f → pwF p (f + 1) out a n = pwF p f out a n
  | 0, n, out, a, h => by
    have : n = 0 := by simpa using h
    subst this; simp [pwF]
  | f + 1, n, out, a, h => by
    conv => lhs; rw [pwF]
    conv => rhs; rw [pwF]
    by_cases h0 : n = 0
    · rw [if_pos h0, if_pos h0]
    · rw [if_neg h0, if_neg h0]
      exact pwF_fuel p f _ _ _ (by rw [Nat.pow_succ] at h; omega)
def odF : Nat → Nat → Nat → Nat × Nat
  | 0, o, t => (o, t)
  | f + 1, o, t => if o % 2 = 0 then odF f (o / 2) (t + 1) else (o, t)
def sqF (p : Int) : Nat → Int → Bool
  | 0, _ => false
  | k + 1, x => if x * x % p = p - 1 then true else sqF p k (x * x % p)
def passF (p b : Int) : Bool :=
  let x := powF p (b % p) (odF 31 (p - 1).toNat 0).1
  x == 1 || x == 0 || x == p - 1 || sqF p ((odF 31 (p - 1).toNat 0).2 - 1) x
def basesL : List Int := [2, 3, 5, 7]
def vlF (p : Int) : List Int → Bool
  | [] => true
  | b :: bs => if p = b then true else if p % b = 0 || !passF p b then false else vlF p bs
end Go.Proofs.YtnahkfchcminpaaGreatDoor
/- Fields: products, powers, the test of Miller and Rabin, at this program. -/
namespace Go.Proofs.YtnahkfchcminpaaGreatDoor
open Go.RowKit
theorem prod_bd {p a b : Int} (hp : p ≤ 1073741824) (ha : 0 ≤ a) (ha2 : a < p) (hb : 0 ≤ b) (hb2 : b < p) : 0 ≤ a * b ∧ a * b < 1152921504606846976 := by
  have h1 := Int.mul_nonneg ha hb
  have h2 := Int.mul_le_mul (show a ≤ 1073741823 by omega) (show b ≤ 1073741823 by omega) hb (by omega)
  omega
set_option maxRecDepth 100000 in
theorem modulo_walk (p n : Int) (w : World) (hp : 1 ≤ p) (hp2 : p ≤ 1073741824) (hn : 0 ≤ n) (hn2 : n < 9223372036854775808) :
    Calls Tryz.prog 92 #[.int .i64 p, .int .i64 n] w fun e w' => e = .returned (.int .i64 (n % p)) ∧ w = w' := by
  have hm1 := Int.emod_nonneg n (show p ≠ 0 by omega)
  have hm2 := Int.emod_lt_of_pos n (show 0 < p by omega)
  go_enter Tryz.func92, Tryz.ntmps92
  go_wp2
  go_ret
  exact ⟨rfl, rfl⟩
set_option maxRecDepth 100000 in
theorem mul_walk (p a b : Int) (w : World) (hp : 1 ≤ p) (hp2 : p ≤ 1073741824) (hn : 0 ≤ a * b) (hn2 : a * b < 9223372036854775808) :
    Calls Tryz.prog 110 #[.int .i64 p, .int .i64 a, .int .i64 b] w fun e w' => e = .returned (.int .i64 (a * b % p)) ∧ w = w' := by
  go_enter Tryz.func110, Tryz.ntmps110
  go_wp2_with (go_at_call 92; (with_reducible refine (modulo_walk _ _ _ hp hp2 hn hn2).mono ?_))
  rintro e w1 ⟨rfl, rfl⟩
  go_wp2
  go_ret
  exact ⟨rfl, rfl⟩
theorem and1 (m : Nat) (h : m < 18446744073709551616) : bits .and .u64 (m : Int) 1 = ((m % 2 : Nat) : Int) := by
  have := u64_and_nat m 1 h (by omega)
  rw [show m &&& 1 = m % 2 from Nat.and_two_pow_sub_one_eq_mod m 1] at this
  exact this
end Go.Proofs.YtnahkfchcminpaaGreatDoor
/- Powers, the test of Miller and Rabin, and which numbers are permitted. -/
namespace Go.Proofs.YtnahkfchcminpaaGreatDoor
open Go.RowKit
set_option maxRecDepth 100000 in
theorem power_walk (p a : Int) (n : Nat) (w : World) (hp : 2 ≤ p) (hp2 : p ≤ 1073741824) (ha : 0 ≤ a) (ha2 : a < p) (hn : n < 9223372036854775808) :
    Calls Tryz.prog 109 #[.int .i64 p, .int .i64 a, .int .u64 (n : Int)] w fun e w' => e = .returned (.int .i64 (powF p a n)) ∧ w = w' := by
  go_enter Tryz.func109, Tryz.ntmps109
  go_wp2_with (go_at_call 92; (with_reducible refine (modulo_walk p 1 _ (by omega) hp2 (by decide) (by decide)).mono ?_))
  rintro e w1 ⟨rfl, rfl⟩
  have h1p : (1 : Int) % p = 1 := Int.emod_eq_of_lt (by decide) (by omega)
  go_wp2
  go_loopw [1, 2, 7] (fun u v o wr => ∃ (m f : Nat) (x b : Int), wr = w ∧ u = .int .i64 b ∧ v = .int .u64 (m : Int) ∧ o = .int .i64 x ∧ 0 ≤ x ∧ x < p ∧ 0 ≤ b ∧ b < p ∧ m < 9223372036854775808 ∧ m < 2 ^ f ∧ pwF p f x b m = powF p a n) (fun _ v _ _ => (intOf v).toNat)
  case atStart => exact ⟨n, 64, 1, a, rfl, rfl, rfl, rfl, by decide, by omega, ha, ha2, hn, by omega, by rw [powF, h1p]⟩
  case round =>
    obtain ⟨m, f, x, b, rfl, rfl, rfl, rfl, hx, hx2, hb, hb2, hm, hmf, hpw⟩ := hrel
    have HP := Lib.hid hpw
    clear hpw
    obtain ⟨b1, b2⟩ := prod_bd hp2 hb hb2 hb hb2
    obtain ⟨x1, x2⟩ := prod_bd hp2 hx hx2 hb hb2
    have hbm1 := Int.emod_nonneg (b * b) (show p ≠ 0 by omega)
    have hbm2 := Int.emod_lt_of_pos (b * b) (show 0 < p by omega)
    have hxm1 := Int.emod_nonneg (x * b) (show p ≠ 0 by omega)
    have hxm2 := Int.emod_lt_of_pos (x * b) (show 0 < p by omega)
    by_cases h0 : m = 0
    · subst h0
      have hR := HP.out
      rw [pwF_zero] at hR
      subst hR
      go_wp2
      go_ret
      exact ⟨rfl, rfl⟩
    · cases f with
      | zero => simp at hmf; omega
      | succ f =>
        have hs := HP.out
        rw [pwF, if_neg h0] at hs
        have hmf2 : m / 2 < 2 ^ f := by rw [Nat.pow_succ] at hmf; omega
        have hpos : (0 : Int) < (m : Int) := by omega
        have ha1 := and1 m (by omega)
        rcases Nat.mod_two_eq_zero_or_one m with h2 | h2
        · rw [h2] at ha1
          rw [if_neg (by omega)] at hs
          have HS := Lib.hid hs
          have hcz : ((0 : Nat) : Int) = 0 := rfl
          rw [hcz] at ha1
          clear hs hmf HP h2
          go_wp2_with (go_at_call 110; (with_reducible refine (mul_walk _ _ _ _ (by omega) hp2 b1 (by omega)).mono ?_))
          rintro e w2 ⟨rfl, rfl⟩
          go_wp2
          go_roundw
          case rel => exact ⟨m / 2, f, x, b * b % p, trivial, rfl, by go_num, rfl, hx, hx2, hbm1, hbm2, by omega, hmf2, HS.out⟩
          case measure => simp [intOf]; omega
        · rw [h2] at ha1
          rw [if_pos h2] at hs
          have HS := Lib.hid hs
          have hcz : ((1 : Nat) : Int) = 1 := rfl
          rw [hcz] at ha1
          clear hs hmf HP h2
          go_wp2_with (go_at_call 110; (with_reducible refine (mul_walk _ _ _ _ (by omega) hp2 x1 (by omega)).mono ?_))
          rintro e w2 ⟨rfl, rfl⟩
          go_wp2_with (go_at_call 110; (with_reducible refine (mul_walk _ _ _ _ (by omega) hp2 b1 (by omega)).mono ?_))
          rintro e w2 ⟨rfl, rfl⟩
          go_wp2
          go_roundw
          case rel => exact ⟨m / 2, f, x * b % p, b * b % p, trivial, rfl, by go_num, rfl, hxm1, hxm2, hbm1, hbm2, by omega, hmf2, HS.out⟩
          case measure => simp [intOf]; omega
end Go.Proofs.YtnahkfchcminpaaGreatDoor
/- The test of Miller and Rabin, and which numbers are permitted. -/
namespace Go.Proofs.YtnahkfchcminpaaGreatDoor
open Go.RowKit
theorem odF_pos : ∀ f o t, 1 ≤ o → 1 ≤ (odF f o t).1 ∧ (odF f o t).1 ≤ o
  | 0, o, t, h => ⟨h, Nat.le_refl _⟩
  | f + 1, o, t, h => by
    rw [odF]
    split
    · have := odF_pos f (o / 2) (t + 1) (by omega); omega
    · exact ⟨h, Nat.le_refl _⟩
theorem odF_t : ∀ f o t, t ≤ (odF f o t).2 ∧ (odF f o t).2 ≤ t + f
  | 0, o, t => ⟨Nat.le_refl _, Nat.le_refl _⟩
  | f + 1, o, t => by
    rw [odF]
    split
    · have := odF_t f (o / 2) (t + 1); omega
    · exact ⟨Nat.le_refl _, by simp⟩
theorem powF_bd (p : Int) (hp : 2 ≤ p) : ∀ f x a n, 0 ≤ x → x < p → 0 ≤ pwF p f x a n ∧ pwF p f x a n < p
  | 0, x, a, n, h0, h1 => ⟨h0, h1⟩
  | f + 1, x, a, n, h0, h1 => by
    rw [pwF]
    split
    · exact ⟨h0, h1⟩
    · split
      · exact powF_bd p hp f _ _ _ (Int.emod_nonneg _ (by omega)) (Int.emod_lt_of_pos _ (by omega))
      · exact powF_bd p hp f _ _ _ h0 h1
set_option maxRecDepth 100000 in
theorem passes_walk (q b : Nat) (w : World) (hq : 2 ≤ q) (hq2 : q < 1073741824) (hb : b < 16) (hqe : q % 2 = 0) :
    Calls Tryz.prog 100 #[.int .i64 ((q : Int) + 1), .int .i64 (b : Int)] w fun e w' => e = .returned (.bool (passF ((q : Int) + 1) (b : Int))) ∧ w = w' := by
  obtain ⟨o, t, hot⟩ : ∃ o t, odF 31 q 0 = (o, t) := ⟨_, _, rfl⟩
  have hpos := odF_pos 31 q 0 (by omega)
  rw [hot] at hpos
  obtain ⟨ho1, ho2⟩ := hpos
  have ht1 : 1 ≤ t ∧ t ≤ 31 := by
    have h := hot
    rw [odF, if_pos hqe] at h
    have := odF_t 30 (q / 2) (0 + 1)
    rw [h] at this
    simp at this
    omega
  have hpf : passF ((q : Int) + 1) (b : Int) = (powF ((q : Int) + 1) ((b : Int) % ((q : Int) + 1)) o == 1 || powF ((q : Int) + 1) ((b : Int) % ((q : Int) + 1)) o == 0 || powF ((q : Int) + 1) ((b : Int) % ((q : Int) + 1)) o == (q : Int) || sqF ((q : Int) + 1) (t - 1) (powF ((q : Int) + 1) ((b : Int) % ((q : Int) + 1)) o)) := by
    rw [passF, show ((q : Int) + 1 - 1) = (q : Int) by omega, Int.toNat_natCast, hot]
  have hx := powF_bd ((q : Int) + 1) (by omega) 64 (1 % ((q : Int) + 1)) ((b : Int) % ((q : Int) + 1)) o (Int.emod_nonneg _ (by omega)) (Int.emod_lt_of_pos _ (by omega))
  have hb1 := Int.emod_nonneg (b : Int) (show (q : Int) + 1 ≠ 0 by omega)
  have hb2 := Int.emod_lt_of_pos (b : Int) (show 0 < (q : Int) + 1 by omega)
  have HO := Lib.hid hot
  clear hot
  go_enter Tryz.func100, Tryz.ntmps100
  go_wp2
  go_loopw [5, 6] (fun u v wr => ∃ (f m k : Nat), wr = w ∧ u = .int .i64 (m : Int) ∧ v = .int .i64 (k : Int) ∧ 1 ≤ m ∧ m < 2 ^ f ∧ m < 1073741824 ∧ k + f ≤ 31 ∧ odF f m k = (o, t)) (fun u _ _ => (intOf u).toNat)
  case atStart => exact ⟨31, q, 0, rfl, rfl, rfl, by omega, by omega, by omega, by omega, HO.out⟩
  case round =>
    obtain ⟨f, m, k, rfl, rfl, rfl, hm1, hmf, hmq, hkf, hod⟩ := hrel
    cases f with
    | zero => simp at hmf; omega
    | succ f =>
      rw [odF] at hod
      by_cases h2 : m % 2 = 0
      · rw [if_pos h2] at hod
        have HD := Lib.hid hod
        have hmf2 : m / 2 < 2 ^ f := by rw [Nat.pow_succ] at hmf; omega
        have hmi : ((m : Int) % 2 == 0) = true := by simp; omega
        clear hod hmf
        go_wp2
        go_roundw
        case rel => exact ⟨f, m / 2, k + 1, trivial, by go_num, by go_num, by omega, hmf2, by omega, by omega, HD.out⟩
        case measure => simp [intOf]; omega
      · rw [if_neg h2] at hod
        simp only [Prod.mk.injEq] at hod
        obtain ⟨rfl, rfl⟩ := hod
        have hmi : ((m : Int) % 2 == 0) = false := by simp; omega
        clear h2 hmf HO
        go_wp2_with (go_at_call 109; (with_reducible refine (power_walk _ _ m _ (by omega) (by omega) hb1 hb2 (by omega)).mono ?_))
        rintro e w2 ⟨rfl, rfl⟩
        change 0 ≤ powF ((q : Int) + 1) ((b : Int) % ((q : Int) + 1)) m ∧ powF ((q : Int) + 1) ((b : Int) % ((q : Int) + 1)) m < (q : Int) + 1 at hx
        generalize powF ((q : Int) + 1) ((b : Int) % ((q : Int) + 1)) m = x at hx hpf ⊢
        obtain ⟨hx0, hx1⟩ := hx
        have HF := Lib.hid hpf
        clear hpf
        by_cases e1 : x = 1
        · subst e1
          have hR : passF ((q : Int) + 1) (b : Int) = true := by rw [HF.out]; simp
          go_wp2
          go_ret
          exact ⟨ret_bool hR.symm, rfl⟩
        · by_cases e0 : x = 0
          · subst e0
            have hR : passF ((q : Int) + 1) (b : Int) = true := by rw [HF.out]; simp
            go_wp2
            go_ret
            exact ⟨ret_bool hR.symm, rfl⟩
          · by_cases eq : x = (q : Int)
            · subst eq
              have hR : passF ((q : Int) + 1) (b : Int) = true := by rw [HF.out]; simp
              have b1 : ((q : Int) == 1) = false := by rw [beq_eq_false_iff_ne]; exact e1
              have b0 : ((q : Int) == 0) = false := by rw [beq_eq_false_iff_ne]; exact e0
              clear e1 e0
              go_wp2
              go_ret
              exact ⟨ret_bool hR.symm, rfl⟩
            · have b1 : (x == 1) = false := by rw [beq_eq_false_iff_ne]; exact e1
              have b0 : (x == 0) = false := by rw [beq_eq_false_iff_ne]; exact e0
              have bq : (x == (q : Int)) = false := by rw [beq_eq_false_iff_ne]; exact eq
              have hR : passF ((q : Int) + 1) (b : Int) = sqF ((q : Int) + 1) (k - 1) x := by rw [HF.out, b1, b0, bq]; simp
              have HR := Lib.hid hR
              clear e1 e0 eq hR HF
              obtain ⟨k', rfl⟩ : ∃ k', k = k' + 1 := ⟨k - 1, by omega⟩
              go_wp2
              go_loopw [7, 38] (fun u i wr' => ∃ (j : Nat) (y : Int), wr' = wr ∧ j ≤ k' ∧ i = .int .i64 (j : Int) ∧ u = .int .i64 y ∧ 0 ≤ y ∧ y < (q : Int) + 1 ∧ sqF ((q : Int) + 1) (k' - j) y = passF ((q : Int) + 1) (b : Int)) (fun _ i _ => k' - (intOf i).toNat)
              case atStart => exact ⟨0, x, rfl, by omega, rfl, rfl, hx0, hx1, by rw [HR.out]; rfl⟩
              case round =>
                clear hx0 hx1 b1 b0 bq
                obtain ⟨j, y, rfl, hj, rfl, rfl, hy0, hy1, hsq⟩ := hrel
                by_cases hjt : j < k'
                · obtain ⟨y1, y2⟩ := prod_bd (p := (q : Int) + 1) (by omega) hy0 hy1 hy0 hy1
                  have hm1 := Int.emod_nonneg (y * y) (show (q : Int) + 1 ≠ 0 by omega)
                  have hm2 := Int.emod_lt_of_pos (y * y) (show 0 < (q : Int) + 1 by omega)
                  rw [show k' - j = (k' - (j + 1)) + 1 by omega, sqF, show ((q : Int) + 1 - 1) = (q : Int) by omega] at hsq
                  have HS := Lib.hid hsq
                  clear hsq
                  go_wp2_with (go_at_call 110; (with_reducible refine (mul_walk _ _ _ _ (by omega) (by omega) y1 (by omega)).mono ?_))
                  rintro e w2 ⟨rfl, rfl⟩
                  generalize y * y % ((q : Int) + 1) = z at hm1 hm2 HS ⊢
                  by_cases ez : z = (q : Int)
                  · have hR := HS.out
                    rw [if_pos ez] at hR
                    have HT := Lib.hid hR
                    clear hR HS
                    subst ez
                    go_wp2
                    go_ret
                    exact ⟨ret_bool HT.out, rfl⟩
                  · have bz : (z == (q : Int)) = false := by rw [beq_eq_false_iff_ne]; exact ez
                    have hR := HS.out
                    rw [if_neg ez] at hR
                    have HT := Lib.hid hR
                    clear hR HS ez
                    go_wp2
                    go_roundw
                    case rel => exact ⟨j + 1, z, trivial, by omega, by go_num, rfl, hm1, hm2, HT.out⟩
                    case measure => simp [intOf]; omega
                · obtain rfl : j = k' := by omega
                  have hR : passF ((q : Int) + 1) (b : Int) = false := by rw [← hsq, Nat.sub_self]; rfl
                  clear hjt hsq
                  go_wp2
                  go_ret
                  exact ⟨ret_bool hR.symm, rfl⟩
end Go.Proofs.YtnahkfchcminpaaGreatDoor
