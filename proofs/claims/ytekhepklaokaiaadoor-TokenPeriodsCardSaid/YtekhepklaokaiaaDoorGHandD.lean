/- The modulus of a safe prime, and its group. -/
import Derived.Test.YtekhepklaokaiaaDoorGHandC
namespace Go.Proofs.YtekhepklaokaiaaDoor
open Go.RowKit
/-- is permitted, as the program finds it (from 3 on) -/
def validP (p : Int) : Bool := decide (p ≤ 1073741824) && (decide (p % 2 = 1) && vlF p basesL)
def safeP (p : Int) : Bool := decide (3 ≤ p) && (validP p && primeH (2 * p + 1).toNat basesN)
theorem safeP_bd {p : Int} (h : safeP p = true) : 3 ≤ p ∧ p ≤ 1073741824 ∧ p % 2 = 1 := by
  simp only [safeP, validP, Bool.and_eq_true, decide_eq_true_eq] at h
  exact ⟨h.1, h.2.1.1, h.2.1.2.1⟩
set_option maxRecDepth 100000 in
theorem hvalid_walk (p : Int) (w : World) (hB : Bases w) (hp : 3 ≤ p) :
    Calls Tryd.prog 46 #[.int .i64 p] w fun e w' => e = .returned (.bool (validP p)) ∧ w = w' := by
  rcases Int.lt_or_le 1073741824 p with h1 | h1
  · have hv : validP p = false := by rw [validP, decide_eq_false (by omega)]; rfl
    rw [hv]
    clear hv hB
    go_enter Tryd.func46, Tryd.ntmps46
    go_wp2
    go_ret
    exact ⟨rfl, rfl⟩
  · by_cases h2 : p % 2 = 1
    · have hv : validP p = vlF p basesL := by rw [validP, decide_eq_true h1, decide_eq_true h2]; simp
      rw [hv]
      exact valid_odd p w hB hp h1 h2
    · have h3 : (p % 2 == 0) = true := by rw [beq_iff_eq]; omega
      have hv : validP p = false := by rw [validP, decide_eq_false h2]; simp
      rw [hv]
      have h4 : (2 : Int) < p := by omega
      clear hv h2 hB
      go_enter Tryd.func46, Tryd.ntmps46
      go_wp2
      go_ret
      exact ⟨rfl, rfl⟩
set_option maxRecDepth 100000 in
theorem hmod_yes (p : Int) (w : World) (hB : Bases w) (hs : safeP p = true) :
    Calls Tryd.prog 33 #[.int .i64 p] w fun e w' => e = .returned (.tuple #[.int .i64 (2 * p + 1), .bool true]) ∧ w = w' := by
  obtain ⟨h3, h30, ho⟩ := safeP_bd hs
  simp only [safeP, Bool.and_eq_true] at hs
  obtain ⟨-, hv, hpr⟩ := hs
  have kv : ∀ V, Bases V → Calls Tryd.prog 46 #[.int .i64 p] V fun e w' => e = .returned (.bool true) ∧ V = w' := fun V h => by rw [← hv]; exact hvalid_walk p V h h3
  have kp : ∀ V, Calls Tryd.prog 47 #[.int .i64 (2 * p + 1)] V fun e w' => e = .returned (.bool true) ∧ V = w' := fun V => by
    obtain ⟨m, hm⟩ : ∃ m : Nat, 2 * p + 1 = (m : Int) := ⟨(2 * p + 1).toNat, by omega⟩
    rw [← hpr, hm, Int.toNat_natCast]
    exact hprime_walk m V (by omega) (by omega) (by omega)
  have KV := Lib.hid kv
  have KP := Lib.hid kp
  clear kv kp hv hpr ho
  go_enter Tryd.func33, Tryd.ntmps33
  go_wp2_with (go_at_call 46; (with_reducible refine (KV.out _ hB).mono ?_))
  rintro e w2 ⟨rfl, rfl⟩
  go_wp2_with (go_at_call 47; (with_reducible refine (KP.out _).mono ?_))
  rintro e w2 ⟨rfl, rfl⟩
  go_wp2
  go_ret2
  exact ⟨rfl, rfl⟩
set_option maxRecDepth 100000 in
theorem hmod_no (p : Int) (w : World) (hB : Bases w) (hs : safeP p = false) :
    Calls Tryd.prog 33 #[.int .i64 p] w fun e w' => e = .returned (.tuple #[.int .i64 0, .bool false]) ∧ w = w' := by
  rcases Int.lt_or_le p 3 with h3 | h3
  · clear hs
    go_enter Tryd.func33, Tryd.ntmps33
    go_wp2
    go_ret2
    exact ⟨rfl, rfl⟩
  · cases hv : validP p with
    | false =>
      have kv : ∀ V, Bases V → Calls Tryd.prog 46 #[.int .i64 p] V fun e w' => e = .returned (.bool false) ∧ V = w' := fun V h => by rw [← hv]; exact hvalid_walk p V h h3
      have KV := Lib.hid kv
      clear kv hv hs
      go_enter Tryd.func33, Tryd.ntmps33
      go_wp2_with (go_at_call 46; (with_reducible refine (KV.out _ hB).mono ?_))
      rintro e w2 ⟨rfl, rfl⟩
      go_wp2
      go_ret2
      exact ⟨rfl, rfl⟩
    | true =>
      rw [safeP, hv, decide_eq_true h3, Bool.true_and, Bool.true_and] at hs
      have hb := hv
      simp only [validP, Bool.and_eq_true, decide_eq_true_eq] at hb
      obtain ⟨h30, ho, -⟩ := hb
      have kv : ∀ V, Bases V → Calls Tryd.prog 46 #[.int .i64 p] V fun e w' => e = .returned (.bool true) ∧ V = w' := fun V h => by rw [← hv]; exact hvalid_walk p V h h3
      have kp : ∀ V, Calls Tryd.prog 47 #[.int .i64 (2 * p + 1)] V fun e w' => e = .returned (.bool false) ∧ V = w' := fun V => by
        obtain ⟨m, hm⟩ : ∃ m : Nat, 2 * p + 1 = (m : Int) := ⟨(2 * p + 1).toNat, by omega⟩
        rw [← hs, hm, Int.toNat_natCast]
        exact hprime_walk m V (by omega) (by omega) (by omega)
      have KV := Lib.hid kv
      have KP := Lib.hid kp
      clear kv kp hv ho hs
      go_enter Tryd.func33, Tryd.ntmps33
      go_wp2_with (go_at_call 46; (with_reducible refine (KV.out _ hB).mono ?_))
      rintro e w2 ⟨rfl, rfl⟩
      go_wp2_with (go_at_call 47; (with_reducible refine (KP.out _).mono ?_))
      rintro e w2 ⟨rfl, rfl⟩
      go_wp2
      go_ret2
      exact ⟨rfl, rfl⟩
end Go.Proofs.YtekhepklaokaiaaDoor
