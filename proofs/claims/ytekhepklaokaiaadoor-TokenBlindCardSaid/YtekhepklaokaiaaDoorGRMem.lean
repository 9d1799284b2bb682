/- Members of the group of a safe prime, as the reference finds them. -/
import Derived.Test.YtekhepklaokaiaaDoorGHandS
import Derived.Test.YtekhepklaokaiaaDoorGRPow
namespace Go.Proofs.YtekhepklaokaiaaDoor
open Go.RowKit
set_option maxRecDepth 100000 in
theorem rMember_walk (p : Nat) (x : Int) (w : World) (hs : rsafe (p : Int) = true) :
    Calls Tryd.prog 10 #[.int .i64 (p : Int), .int .i64 x] w fun e w' => e = .returned (.bool (memZ p x)) ∧ w = w' := by
  obtain ⟨h3, h30, -⟩ := rsafe_bd hs
  have KM := Lib.hid (rmod_walk (p : Int) w)
  rw [hs, if_pos rfl] at KM
  clear hs
  by_cases hx : 1 ≤ x ∧ x < 2 * (p : Int) + 1
  · obtain ⟨y, rfl⟩ : ∃ y : Nat, x = (y : Int) := ⟨x.toNat, by omega⟩
    obtain ⟨hx1, hx2⟩ := hx
    have kp := rpow_walk (2 * p + 1) y p w (by omega) (by omega) (by omega) (by omega)
    have hm : memZ p (y : Int) = (y ^ p % (2 * p + 1) == 1) := by
      rw [memZ, Int.toNat_natCast, memH, decide_eq_true (by omega), decide_eq_true (show 0 < y by omega), decide_eq_true (show y < 2 * p + 1 by omega)]
      rfl
    have hm2 : memZ p (y : Int) = (((y ^ p % (2 * p + 1) : Nat) : Int) == 1) := by
      rw [hm, Bool.eq_iff_iff, beq_iff_eq, beq_iff_eq]; omega
    have kp2 : Calls Tryd.prog 24 #[.int .i64 (2 * (p : Int) + 1), .int .i64 (y : Int), .int .i64 (p : Int)] w fun r w' => r = .returned (.int .i64 ((y ^ p % (2 * p + 1) : Nat) : Int)) ∧ w = w' := by
      have e : ((2 * p + 1 : Nat) : Int) = 2 * (p : Int) + 1 := by omega
      rw [← e]; exact kp
    have KP := Lib.hid kp2
    have HM := Lib.hid hm2
    clear kp kp2 hm hm2
    generalize ((y ^ p % (2 * p + 1) : Nat) : Int) = z at *
    have d1 : decide ((y : Int) ≥ 1) = true := decide_eq_true (by omega)
    go_enter Tryd.func10, Tryd.ntmps10
    go_wp2_with (go_at_call 23; (with_reducible refine KM.out.mono ?_))
    (try rintro e w1 ⟨rfl, rfl⟩)
    go_wp2_with (go_at_call 24; (with_reducible refine KP.out.mono ?_))
    (try rintro e w1 ⟨rfl, rfl⟩)
    (try go_wp2)
    go_ret
    exact ⟨by rw [HM.out]; rfl, rfl⟩
  · have hm : memZ p x = false := by
      cases h : memZ p x with
      | false => rfl
      | true =>
        simp only [memZ, memH, Bool.and_eq_true, decide_eq_true_eq] at h
        omega
    rw [hm]
    clear hm
    rcases Int.lt_or_le x 1 with h1 | h1
    · have d1 : decide (x ≥ 1) = false := decide_eq_false (by omega)
      have d2 : ¬ (1 ≤ x) := by omega
      clear hx
      go_enter Tryd.func10, Tryd.ntmps10
      go_wp2_with (go_at_call 23; (with_reducible refine KM.out.mono ?_))
      (try rintro e w1 ⟨rfl, rfl⟩)
      (try go_wp2)
      go_ret
      exact ⟨rfl, rfl⟩
    · have d1 : decide (x ≥ 1) = true := decide_eq_true (by omega)
      have d2 : ¬ (x < 2 * (p : Int) + 1) := by omega
      clear hx
      go_enter Tryd.func10, Tryd.ntmps10
      go_wp2_with (go_at_call 23; (with_reducible refine KM.out.mono ?_))
      (try rintro e w1 ⟨rfl, rfl⟩)
      (try go_wp2)
      go_ret
      exact ⟨rfl, rfl⟩
end Go.Proofs.YtekhepklaokaiaaDoor
