/- Which numbers a group of handles takes for prime; its modulus. -/
import Derived.Test.YtnahkfchcminpaaGreatDoorGPackZ
namespace Go.Proofs.YtnahkfchcminpaaGreatDoor
open Go.RowKit
def basesN : List Nat := [2, 3, 5, 7]
theorem baseN_at (j : Nat) (h : j < 4) : ∃ b : Nat, (ints basesL)[j]? = some (.int .i64 (b : Int)) ∧ 2 ≤ b ∧ b < 16 ∧ basesN.drop j = b :: basesN.drop (j + 1) := by
  match j, h with
  | 0, _ => exact ⟨2, rfl, by decide, by decide, rfl⟩
  | 1, _ => exact ⟨3, rfl, by decide, by decide, rfl⟩
  | 2, _ => exact ⟨5, rfl, by decide, by decide, rfl⟩
  | 3, _ => exact ⟨7, rfl, by decide, by decide, rfl⟩
set_option maxRecDepth 100000 in
theorem hprime_walk (m : Nat) (w : World) (hm : 7 ≤ m) (hm2 : m ≤ 2147483649) (hmo : m % 2 = 1) :
    Calls Tryz.prog 87 #[.int .i64 (m : Int)] w fun e w' => e = .returned (.bool (primeH m basesN)) ∧ w = w' := by
  have hps : ∀ (b : Nat) (w : World), b < 16 → Calls Tryz.prog 101 #[.int .i64 (m : Int), .int .i64 (b : Int)] w fun e w' => e = .returned (.bool (passH m b)) ∧ w = w' := fun b w hb => by
    obtain ⟨q, rfl⟩ : ∃ q : Nat, m = q + 1 := ⟨m - 1, by omega⟩
    exact hpasses_walk q b w (by omega) (by omega) hb (by omega)
  have HPS := Lib.hid hps
  have hmb := Tryz.underlying110
  clear hps hmo
  go_enter Tryz.func87, Tryz.ntmps87
  go_wp2
  go_loopw [4, 6] (fun _ i wr => ∃ j : Nat, wr = w ∧ j ≤ 4 ∧ i = .int .i64 (j : Int) ∧ Hid (primeH m (basesN.drop j) = primeH m basesN)) (fun _ i _ => 4 - (intOf i).toNat)
  case atStart => exact ⟨0, rfl, by omega, rfl, by show _ = _; rfl⟩
  case round =>
    obtain ⟨j, rfl, hj, rfl, HV⟩ := hrel
    by_cases hjt : j < 4
    · obtain ⟨b, hbi, hb2, hb16, hdr⟩ := baseN_at j hjt
      have hix := index4 wr hmb #[.int .i64 2, .int .i64 3, .int .i64 5, .int .i64 7] j hjt (.int .i64 (b : Int)) (by simpa [ints, basesL] using hbi)
      have hR := HV.out
      rw [hdr, primeH] at hR
      have hmi : (m : Int) % (b : Int) = ((m % b : Nat) : Int) := by simp
      by_cases eb : m = b
      · have hc : (m == b) = true := by rw [beq_iff_eq]; exact eb
        rw [hc, Bool.true_or, Bool.true_and] at hR
        have HR := Lib.hid hR
        have bb : ((m : Int) != (b : Int)) = false := by rw [bne_eq_false_iff_eq, eb]
        clear hR HV eb hdr hbi hc hmi
        go_wp2
        go_roundw
        case rel => exact ⟨j + 1, trivial, by omega, by go_num, HR⟩
        case measure => simp [intOf]; omega
      · have hc : (m == b) = false := by rw [beq_eq_false_iff_ne]; exact eb
        rw [hc, Bool.false_or] at hR
        have bb : ((m : Int) != (b : Int)) = true := by rw [bne_iff_ne]; omega
        by_cases em : m % b = 0
        · rw [em] at hR
          simp only [bne_self_eq_false, Bool.false_and] at hR
          have HR := Lib.hid hR
          have bm : ((m : Int) % (b : Int) == 0) = true := by rw [hmi, em]; rfl
          clear hR HV eb em hdr hbi hc hmi
          go_wp2
          go_ret
          exact ⟨ret_bool HR.out, rfl⟩
        · have hmn : (m % b != 0) = true := by rw [bne_iff_ne]; exact em
          rw [hmn, Bool.true_and] at hR
          have bm : ((m : Int) % (b : Int) == 0) = false := by rw [beq_eq_false_iff_ne]; omega
          cases hp : passH m b with
          | false =>
            rw [hp, Bool.false_and] at hR
            have HR := Lib.hid hR
            have kp : ∀ V, Calls Tryz.prog 101 #[.int .i64 (m : Int), .int .i64 (b : Int)] V fun e w' => e = .returned (.bool false) ∧ V = w' := fun V => by rw [← hp]; exact HPS.out b V hb16
            have KP := Lib.hid kp
            clear hR HV eb em hdr hbi hp hmi hmn hc kp HPS
            go_wp2_with (go_at_call 101; (with_reducible refine (KP.out _).mono ?_))
            rintro e w2 ⟨rfl, rfl⟩
            go_wp2
            go_ret
            exact ⟨ret_bool HR.out, rfl⟩
          | true =>
            rw [hp, Bool.true_and] at hR
            have HR := Lib.hid hR
            have kp : ∀ V, Calls Tryz.prog 101 #[.int .i64 (m : Int), .int .i64 (b : Int)] V fun e w' => e = .returned (.bool true) ∧ V = w' := fun V => by rw [← hp]; exact HPS.out b V hb16
            have KP := Lib.hid kp
            clear hR HV eb em hdr hbi hp hmi hmn hc kp HPS
            go_wp2_with (go_at_call 101; (with_reducible refine (KP.out _).mono ?_))
            rintro e w2 ⟨rfl, rfl⟩
            go_wp2
            go_roundw
            case rel => exact ⟨j + 1, trivial, by omega, by go_num, HR⟩
            case measure => simp [intOf]; omega
    · obtain rfl : j = 4 := by omega
      clear hjt
      go_wp2
      go_ret
      exact ⟨ret_bool (by rw [← HV.out]; rfl), rfl⟩
end Go.Proofs.YtnahkfchcminpaaGreatDoor
/- The modulus of a safe prime, and its group. -/
namespace Go.Proofs.YtnahkfchcminpaaGreatDoor
open Go.RowKit
/-- is permitted, as the program finds it (from 3 on) -/
def validP (p : Int) : Bool := decide (p ≤ 1073741824) && (decide (p % 2 = 1) && vlF p basesL)
def safeP (p : Int) : Bool := decide (3 ≤ p) && (validP p && primeH (2 * p + 1).toNat basesN)
theorem safeP_bd {p : Int} (h : safeP p = true) : 3 ≤ p ∧ p ≤ 1073741824 ∧ p % 2 = 1 := by
  simp only [safeP, validP, Bool.and_eq_true, decide_eq_true_eq] at h
  exact ⟨h.1, h.2.1.1, h.2.1.2.1⟩
set_option maxRecDepth 100000 in
theorem hvalid_walk (p : Int) (w : World) (hB : Bases w) (hp : 3 ≤ p) :
    Calls Tryz.prog 86 #[.int .i64 p] w fun e w' => e = .returned (.bool (validP p)) ∧ w = w' := by
  rcases Int.lt_or_le 1073741824 p with h1 | h1
  · have hv : validP p = false := by rw [validP, decide_eq_false (by omega)]; rfl
    rw [hv]
    clear hv hB
    go_enter Tryz.func86, Tryz.ntmps86
    go_wp2
    go_ret
    exact ⟨rfl, rfl⟩
  · by_cases h2 : p % 2 = 1
    · have hv : validP p = vlF p basesL := by rw [validP, decide_eq_true h1, decide_eq_true h2]; simp
      rw [hv]
      exact valid_odd p w hB hp h1 h2
    · have h3 : (p % 2 == 0) = true := by rw [beq_iff_eq]; omega
      have hv : validP p = false := by rw [validP, decide_eq_false h2]; simp
      rw [hv]
      have h4 : (2 : Int) < p := by omega
      clear hv h2 hB
      go_enter Tryz.func86, Tryz.ntmps86
      go_wp2
      go_ret
      exact ⟨rfl, rfl⟩
set_option maxRecDepth 100000 in
theorem hmod_yes (p : Int) (w : World) (hB : Bases w) (hs : safeP p = true) :
    Calls Tryz.prog 69 #[.int .i64 p] w fun e w' => e = .returned (.tuple #[.int .i64 (2 * p + 1), .bool true]) ∧ w = w' := by
  obtain ⟨h3, h30, ho⟩ := safeP_bd hs
  simp only [safeP, Bool.and_eq_true] at hs
  obtain ⟨-, hv, hpr⟩ := hs
  have kv : ∀ V, Bases V → Calls Tryz.prog 86 #[.int .i64 p] V fun e w' => e = .returned (.bool true) ∧ V = w' := fun V h => by rw [← hv]; exact hvalid_walk p V h h3
  have kp : ∀ V, Calls Tryz.prog 87 #[.int .i64 (2 * p + 1)] V fun e w' => e = .returned (.bool true) ∧ V = w' := fun V => by
    obtain ⟨m, hm⟩ : ∃ m : Nat, 2 * p + 1 = (m : Int) := ⟨(2 * p + 1).toNat, by omega⟩
    rw [← hpr, hm, Int.toNat_natCast]
    exact hprime_walk m V (by omega) (by omega) (by omega)
  have KV := Lib.hid kv
  have KP := Lib.hid kp
  clear kv kp hv hpr ho
  go_enter Tryz.func69, Tryz.ntmps69
  go_wp2_with (go_at_call 86; (with_reducible refine (KV.out _ hB).mono ?_))
  rintro e w2 ⟨rfl, rfl⟩
  go_wp2_with (go_at_call 87; (with_reducible refine (KP.out _).mono ?_))
  rintro e w2 ⟨rfl, rfl⟩
  go_wp2
  go_ret2
  exact ⟨rfl, rfl⟩
set_option maxRecDepth 100000 in
theorem hmod_no (p : Int) (w : World) (hB : Bases w) (hs : safeP p = false) :
    Calls Tryz.prog 69 #[.int .i64 p] w fun e w' => e = .returned (.tuple #[.int .i64 0, .bool false]) ∧ w = w' := by
  rcases Int.lt_or_le p 3 with h3 | h3
  · clear hs
    go_enter Tryz.func69, Tryz.ntmps69
    go_wp2
    go_ret2
    exact ⟨rfl, rfl⟩
  · cases hv : validP p with
    | false =>
      have kv : ∀ V, Bases V → Calls Tryz.prog 86 #[.int .i64 p] V fun e w' => e = .returned (.bool false) ∧ V = w' := fun V h => by rw [← hv]; exact hvalid_walk p V h h3
      have KV := Lib.hid kv
      clear kv hv hs
      go_enter Tryz.func69, Tryz.ntmps69
      go_wp2_with (go_at_call 86; (with_reducible refine (KV.out _ hB).mono ?_))
      rintro e w2 ⟨rfl, rfl⟩
      go_wp2
      go_ret2
      exact ⟨rfl, rfl⟩
    | true =>
      rw [safeP, hv, decide_eq_true h3, Bool.true_and, Bool.true_and] at hs
      have hb := hv
      simp only [validP, Bool.and_eq_true, decide_eq_true_eq] at hb
      obtain ⟨h30, ho, -⟩ := hb
      have kv : ∀ V, Bases V → Calls Tryz.prog 86 #[.int .i64 p] V fun e w' => e = .returned (.bool true) ∧ V = w' := fun V h => by rw [← hv]; exact hvalid_walk p V h h3
      have kp : ∀ V, Calls Tryz.prog 87 #[.int .i64 (2 * p + 1)] V fun e w' => e = .returned (.bool false) ∧ V = w' := fun V => by
        obtain ⟨m, hm⟩ : ∃ m : Nat, 2 * p + 1 = (m : Int) := ⟨(2 * p + 1).toNat, by omega⟩
        rw [← hs, hm, Int.toNat_natCast]
        exact hprime_walk m V (by omega) (by omega) (by omega)
      have KV := Lib.hid kv
      have KP := Lib.hid kp
      clear kv kp hv ho hs
      go_enter Tryz.func69, Tryz.ntmps69
      go_wp2_with (go_at_call 86; (with_reducible refine (KV.out _ hB).mono ?_))
      rintro e w2 ⟨rfl, rfl⟩
      go_wp2_with (go_at_call 87; (with_reducible refine (KP.out _).mono ?_))
      rintro e w2 ⟨rfl, rfl⟩
      go_wp2
      go_ret2
      exact ⟨rfl, rfl⟩
end Go.Proofs.YtnahkfchcminpaaGreatDoor
