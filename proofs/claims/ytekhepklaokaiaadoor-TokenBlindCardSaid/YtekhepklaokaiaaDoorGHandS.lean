/- The reference's groups: the modulus, powers. -/
import Derived.Test.YtekhepklaokaiaaDoorGMod
import Derived.Test.YtekhepklaokaiaaDoorGHandE
namespace Go.Proofs.YtekhepklaokaiaaDoor
open Go.RowKit
theorem rsafe_bd {p : Int} (h : rsafe p = true) : 3 ≤ p ∧ p ≤ 1073741824 ∧ p % 2 = 1 := by
  rw [rsafe_iff] at h
  obtain ⟨h3, hv, -⟩ := h
  rw [rvalid_iff] at hv
  refine ⟨h3, hv.2.1, ?_⟩
  by_cases h4 : 4 ≤ p
  · have := hv.2.2 2 (by omega) (by omega); omega
  · omega
set_option maxRecDepth 100000 in
theorem rmodd_walk (p m : Int) (w : World) (hv : rvalid p = true) (h3 : 3 ≤ p) (h30 : p ≤ 1073741824) (hm : m = 2 * p + 1) :
    Calls Tryd.prog 23 #[.int .i64 p] w fun e w' => e = .returned (.tuple #[.int .i64 (if rsafe p then m else 0), .bool (rsafe p)]) ∧ w = w' := by
  have kv : ∀ V, Calls Tryd.prog 38 #[.int .i64 p] V fun e w' => e = .returned (.bool true) ∧ V = w' := fun V => by rw [← hv]; exact rvalid_walk p V
  have KV := Lib.hid kv
  obtain ⟨v, hs⟩ : ∃ v, rsafe p = v := ⟨_, rfl⟩
  have hsn : v = true ↔ NoDiv m := by rw [← hs, hm, rsafe_iff]; exact ⟨fun h => h.2.2, fun h => ⟨h3, hv, h⟩⟩
  have HS := Lib.hid hsn
  rw [hs]
  have hm7 : 7 ≤ m := by omega
  have hm31 : m ≤ 2147483649 := by omega
  have hmo : m % 2 = 1 := by omega
  have HMO := Lib.hid hmo
  have hpm : 2 * p + 1 = m := hm.symm
  clear kv hs hsn hv hm hmo
  go_enter Tryd.func23, Tryd.ntmps23
  go_wp2_with (go_at_call 38; (with_reducible refine (KV.out _).mono ?_))
  rintro e w1 ⟨rfl, rfl⟩
  clear KV
  go_wp2
  go_loopw [5] (fun u wr => ∃ (d : Int), wr = w ∧ u = .int .i64 d ∧ 3 ≤ d ∧ d ≤ 46344 ∧ Hid (d % 2 = 1 ∧ ∀ d' : Int, 2 ≤ d' → d' < d → m % d' ≠ 0)) (fun u _ => (m - intOf u).toNat)
  case atStart => exact ⟨3, rfl, rfl, by omega, by omega, rfl, fun d' a b => by have := HMO.out; rw [show d' = 2 by omega]; omega⟩
  case round =>
    obtain ⟨d, rfl, rfl, hd, hd6, HN⟩ := hrel
    obtain ⟨q0, q1⟩ := sq_le (show 0 ≤ d by omega) hd6
    have q2 : d * d < 9223372036854775808 := by omega
    have hm1 := Int.emod_nonneg m (show d ≠ 0 by omega)
    clear q1
    by_cases hle : d * d ≤ m
    · have hdp := sq_bd (show 2 ≤ d by omega) hle
      have hd5 := sq_big hm31 hle
      by_cases hz : m % d = 0
      · have hr : v = false := by
          rw [Bool.eq_false_iff, ne_eq, HS.out]
          intro hN
          exact hN d (by omega) hle hz
        subst hr
        have hzb : (m % d == 0) = true := by rw [beq_iff_eq]; exact hz
        clear hz
        go_wp2
        go_ret2
        exact ⟨rfl, rfl⟩
      · have hzb : (m % d == 0) = false := by rw [beq_eq_false_iff_ne]; exact hz
        have HN2 : Hid ((d + 2) % 2 = 1 ∧ ∀ d' : Int, 2 ≤ d' → d' < d + 2 → m % d' ≠ 0) := by
          obtain ⟨ho, hN⟩ := HN.out
          refine ⟨by omega, fun d' a b => ?_⟩
          by_cases e : d' = d
          · rw [e]; exact hz
          · by_cases e2 : d' = d + 1
            · subst e2
              intro hc
              have h1 := Int.emod_emod_of_dvd m (show (2 : Int) ∣ d + 1 by omega)
              rw [hc] at h1
              have := HMO.out
              omega
            · exact hN d' a (by omega)
        have hd2 : d + 2 ≤ 46344 := by omega
        clear hz HN
        by_cases hdm : d + 1 < m
        · go_wp2
          go_roundw
          case rel => exact ⟨d + 2, trivial, rfl, by omega, hd2, HN2⟩
          case measure => simp [intOf]; omega
        · exfalso
          have := Int.mul_le_mul_of_nonneg_right (show (3 : Int) ≤ d from hd) (show (0 : Int) ≤ d by omega)
          omega
    · have hr : v = true := by
        rw [HS.out]
        intro d' a b
        refine HN.out.2 d' a ?_
        rcases Int.lt_or_le d' d with h | h
        · exact h
        · have := (sq_le (show (0 : Int) ≤ d by omega) h).2; omega
      subst hr
      have hle2 : m < d * d := by omega
      clear hle
      go_wp2
      go_ret2
      exact ⟨rfl, rfl⟩
set_option maxRecDepth 100000 in
theorem rmod_walk (p : Int) (w : World) :
    Calls Tryd.prog 23 #[.int .i64 p] w fun e w' => e = .returned (.tuple #[.int .i64 (if rsafe p then 2 * p + 1 else 0), .bool (rsafe p)]) ∧ w = w' := by
  cases hv : rvalid p with
  | true =>
    rcases Int.lt_or_le p 3 with h3 | h3
    rotate_left
    · exact rmodd_walk p _ w hv h3 ((rvalid_iff p).1 hv).2.1 rfl
    have hs : rsafe p = false := by rw [Bool.eq_false_iff, ne_eq, rsafe_iff]; rintro ⟨a, -⟩; omega
    rw [hs]
    clear hs hv
    go_enter Tryd.func23, Tryd.ntmps23
    go_wp2
    go_ret2
    exact ⟨rfl, rfl⟩
  | false =>
    have kv : ∀ V, Calls Tryd.prog 38 #[.int .i64 p] V fun e w' => e = .returned (.bool false) ∧ V = w' := fun V => by rw [← hv]; exact rvalid_walk p V
    have KV := Lib.hid kv
    have hs : rsafe p = false := by rw [Bool.eq_false_iff, ne_eq, rsafe_iff, hv]; rintro ⟨-, a, -⟩; cases a
    rw [hs]
    clear hs hv kv
    rcases Int.lt_or_le p 3 with h3 | h3
    · go_enter Tryd.func23, Tryd.ntmps23
      go_wp2
      go_ret2
      exact ⟨rfl, rfl⟩
    · go_enter Tryd.func23, Tryd.ntmps23
      go_wp2_with (go_at_call 38; (with_reducible refine (KV.out _).mono ?_))
      rintro e w1 ⟨rfl, rfl⟩
      go_wp2
      go_ret2
      exact ⟨rfl, rfl⟩
end Go.Proofs.YtekhepklaokaiaaDoor
