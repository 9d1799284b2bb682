/- The test of Miller and Rabin, and which numbers are permitted. -/
import Derived.Test.YtekhepklaokaiaaDoorGPackX
namespace Go.Proofs.YtekhepklaokaiaaDoor
open Go.RowKit
theorem odF_pos : ∀ f o t, 1 ≤ o → 1 ≤ (odF f o t).1 ∧ (odF f o t).1 ≤ o
  | 0, o, t, h => ⟨h, Nat.le_refl _⟩
  | f + 1, o, t, h => by
    rw [odF]
    split
    · have := odF_pos f (o / 2) (t + 1) (by omega); omega
    · exact ⟨h, Nat.le_refl _⟩
theorem odF_t : ∀ f o t, t ≤ (odF f o t).2 ∧ (odF f o t).2 ≤ t + f
  | 0, o, t => ⟨Nat.le_refl _, Nat.le_refl _⟩
  | f + 1, o, t => by
    rw [odF]
    split
    · have := odF_t f (o / 2) (t + 1); omega
    · exact ⟨Nat.le_refl _, by simp⟩
theorem powF_bd (p : Int) (hp : 2 ≤ p) : ∀ f x a n, 0 ≤ x → x < p → 0 ≤ pwF p f x a n ∧ pwF p f x a n < p
  | 0, x, a, n, h0, h1 => ⟨h0, h1⟩
  | f + 1, x, a, n, h0, h1 => by
    rw [pwF]
    split
    · exact ⟨h0, h1⟩
    · split
      · exact powF_bd p hp f _ _ _ (Int.emod_nonneg _ (by omega)) (Int.emod_lt_of_pos _ (by omega))
      · exact powF_bd p hp f _ _ _ h0 h1
set_option maxRecDepth 100000 in
theorem passes_walk (q b : Nat) (w : World) (hq : 2 ≤ q) (hq2 : q < 1073741824) (hb : b < 16) (hqe : q % 2 = 0) :
    Calls Tryd.prog 57 #[.int .i64 ((q : Int) + 1), .int .i64 (b : Int)] w fun e w' => e = .returned (.bool (passF ((q : Int) + 1) (b : Int))) ∧ w = w' := by
  obtain ⟨o, t, hot⟩ : ∃ o t, odF 31 q 0 = (o, t) := ⟨_, _, rfl⟩
  have hpos := odF_pos 31 q 0 (by omega)
  rw [hot] at hpos
  obtain ⟨ho1, ho2⟩ := hpos
  have ht1 : 1 ≤ t ∧ t ≤ 31 := by
    have h := hot
    rw [odF, if_pos hqe] at h
    have := odF_t 30 (q / 2) (0 + 1)
    rw [h] at this
    simp at this
    omega
  have hpf : passF ((q : Int) + 1) (b : Int) = (powF ((q : Int) + 1) ((b : Int) % ((q : Int) + 1)) o == 1 || powF ((q : Int) + 1) ((b : Int) % ((q : Int) + 1)) o == 0 || powF ((q : Int) + 1) ((b : Int) % ((q : Int) + 1)) o == (q : Int) || sqF ((q : Int) + 1) (t - 1) (powF ((q : Int) + 1) ((b : Int) % ((q : Int) + 1)) o)) := by
    rw [passF, show ((q : Int) + 1 - 1) = (q : Int) by omega, Int.toNat_natCast, hot]
  have hx := powF_bd ((q : Int) + 1) (by omega) 64 (1 % ((q : Int) + 1)) ((b : Int) % ((q : Int) + 1)) o (Int.emod_nonneg _ (by omega)) (Int.emod_lt_of_pos _ (by omega))
  have hb1 := Int.emod_nonneg (b : Int) (show (q : Int) + 1 ≠ 0 by omega)
  have hb2 := Int.emod_lt_of_pos (b : Int) (show 0 < (q : Int) + 1 by omega)
  have HO := Lib.hid hot
  clear hot
  go_enter Tryd.func57, Tryd.ntmps57
  go_wp2
  go_loopw [5, 6] (fun u v wr => ∃ (f m k : Nat), wr = w ∧ u = .int .i64 (m : Int) ∧ v = .int .i64 (k : Int) ∧ 1 ≤ m ∧ m < 2 ^ f ∧ m < 1073741824 ∧ k + f ≤ 31 ∧ odF f m k = (o, t)) (fun u _ _ => (intOf u).toNat)
  case atStart => exact ⟨31, q, 0, rfl, rfl, rfl, by omega, by omega, by omega, by omega, HO.out⟩
  case round =>
    obtain ⟨f, m, k, rfl, rfl, rfl, hm1, hmf, hmq, hkf, hod⟩ := hrel
    cases f with
    | zero => simp at hmf; omega
    | succ f =>
      rw [odF] at hod
      by_cases h2 : m % 2 = 0
      · rw [if_pos h2] at hod
        have HD := Lib.hid hod
        have hmf2 : m / 2 < 2 ^ f := by rw [Nat.pow_succ] at hmf; omega
        have hmi : ((m : Int) % 2 == 0) = true := by simp; omega
        clear hod hmf
        go_wp2
        go_roundw
        case rel => exact ⟨f, m / 2, k + 1, trivial, by go_num, by go_num, by omega, hmf2, by omega, by omega, HD.out⟩
        case measure => simp [intOf]; omega
      · rw [if_neg h2] at hod
        simp only [Prod.mk.injEq] at hod
        obtain ⟨rfl, rfl⟩ := hod
        have hmi : ((m : Int) % 2 == 0) = false := by simp; omega
        clear h2 hmf HO
        go_wp2_with (go_at_call 45; (with_reducible refine (power_walk _ _ m _ (by omega) (by omega) hb1 hb2 (by omega)).mono ?_))
        rintro e w2 ⟨rfl, rfl⟩
        change 0 ≤ powF ((q : Int) + 1) ((b : Int) % ((q : Int) + 1)) m ∧ powF ((q : Int) + 1) ((b : Int) % ((q : Int) + 1)) m < (q : Int) + 1 at hx
        generalize powF ((q : Int) + 1) ((b : Int) % ((q : Int) + 1)) m = x at hx hpf ⊢
        obtain ⟨hx0, hx1⟩ := hx
        have HF := Lib.hid hpf
        clear hpf
        by_cases e1 : x = 1
        · subst e1
          have hR : passF ((q : Int) + 1) (b : Int) = true := by rw [HF.out]; simp
          go_wp2
          go_ret
          exact ⟨ret_bool hR.symm, rfl⟩
        · by_cases e0 : x = 0
          · subst e0
            have hR : passF ((q : Int) + 1) (b : Int) = true := by rw [HF.out]; simp
            go_wp2
            go_ret
            exact ⟨ret_bool hR.symm, rfl⟩
          · by_cases eq : x = (q : Int)
            · subst eq
              have hR : passF ((q : Int) + 1) (b : Int) = true := by rw [HF.out]; simp
              have b1 : ((q : Int) == 1) = false := by rw [beq_eq_false_iff_ne]; exact e1
              have b0 : ((q : Int) == 0) = false := by rw [beq_eq_false_iff_ne]; exact e0
              clear e1 e0
              go_wp2
              go_ret
              exact ⟨ret_bool hR.symm, rfl⟩
            · have b1 : (x == 1) = false := by rw [beq_eq_false_iff_ne]; exact e1
              have b0 : (x == 0) = false := by rw [beq_eq_false_iff_ne]; exact e0
              have bq : (x == (q : Int)) = false := by rw [beq_eq_false_iff_ne]; exact eq
              have hR : passF ((q : Int) + 1) (b : Int) = sqF ((q : Int) + 1) (k - 1) x := by rw [HF.out, b1, b0, bq]; simp
              have HR := Lib.hid hR
              clear e1 e0 eq hR HF
              obtain ⟨k', rfl⟩ : ∃ k', k = k' + 1 := ⟨k - 1, by omega⟩
              go_wp2
              go_loopw [7, 38] (fun u i wr' => ∃ (j : Nat) (y : Int), wr' = wr ∧ j ≤ k' ∧ i = .int .i64 (j : Int) ∧ u = .int .i64 y ∧ 0 ≤ y ∧ y < (q : Int) + 1 ∧ sqF ((q : Int) + 1) (k' - j) y = passF ((q : Int) + 1) (b : Int)) (fun _ i _ => k' - (intOf i).toNat)
              case atStart => exact ⟨0, x, rfl, by omega, rfl, rfl, hx0, hx1, by rw [HR.out]; rfl⟩
              case round =>
                clear hx0 hx1 b1 b0 bq
                obtain ⟨j, y, rfl, hj, rfl, rfl, hy0, hy1, hsq⟩ := hrel
                by_cases hjt : j < k'
                · obtain ⟨y1, y2⟩ := prod_bd (p := (q : Int) + 1) (by omega) hy0 hy1 hy0 hy1
                  have hm1 := Int.emod_nonneg (y * y) (show (q : Int) + 1 ≠ 0 by omega)
                  have hm2 := Int.emod_lt_of_pos (y * y) (show 0 < (q : Int) + 1 by omega)
                  rw [show k' - j = (k' - (j + 1)) + 1 by omega, sqF, show ((q : Int) + 1 - 1) = (q : Int) by omega] at hsq
                  have HS := Lib.hid hsq
                  clear hsq
                  go_wp2_with (go_at_call 56; (with_reducible refine (mul_walk _ _ _ _ (by omega) (by omega) y1 (by omega)).mono ?_))
                  rintro e w2 ⟨rfl, rfl⟩
                  generalize y * y % ((q : Int) + 1) = z at hm1 hm2 HS ⊢
                  by_cases ez : z = (q : Int)
                  · have hR := HS.out
                    rw [if_pos ez] at hR
                    have HT := Lib.hid hR
                    clear hR HS
                    subst ez
                    go_wp2
                    go_ret
                    exact ⟨ret_bool HT.out, rfl⟩
                  · have bz : (z == (q : Int)) = false := by rw [beq_eq_false_iff_ne]; exact ez
                    have hR := HS.out
                    rw [if_neg ez] at hR
                    have HT := Lib.hid hR
                    clear hR HS ez
                    go_wp2
                    go_roundw
                    case rel => exact ⟨j + 1, z, trivial, by omega, by go_num, rfl, hm1, hm2, HT.out⟩
                    case measure => simp [intOf]; omega
                · obtain rfl : j = k' := by omega
                  have hR : passF ((q : Int) + 1) (b : Int) = false := by rw [← hsq, Nat.sub_self]; rfl
                  clear hjt hsq
                  go_wp2
                  go_ret
                  exact ⟨ret_bool hR.symm, rfl⟩
end Go.Proofs.YtekhepklaokaiaaDoor
