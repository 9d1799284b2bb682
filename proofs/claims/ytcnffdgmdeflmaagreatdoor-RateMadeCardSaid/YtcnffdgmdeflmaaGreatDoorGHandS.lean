/- The reference's groups: the modulus, powers. -/
import Derived.Test.YtcnffdgmdeflmaaGreatDoorGNoDiv
import Derived.Test.YtcnffdgmdeflmaaGreatDoorGDice
import Derived.Test.YtcnffdgmdeflmaaGreatDoorGRateD
import Derived.Test.YtcnffdgmdeflmaaGreatDoorGNum
import Derived.Test.YtcnffdgmdeflmaaGreatDoorGPutR
namespace Go.Proofs.YtcnffdgmdeflmaaGreatDoor
open Go.RowKit
theorem rsafe_bd {p : Int} (h : rsafe p = true) : 3 ≤ p ∧ p ≤ 1073741824 ∧ p % 2 = 1 := by
  rw [rsafe_iff] at h
  obtain ⟨h3, hv, -⟩ := h
  rw [rvalid_iff] at hv
  refine ⟨h3, hv.2.1, ?_⟩
  by_cases h4 : 4 ≤ p
  · have := hv.2.2 2 (by omega) (by omega); omega
  · omega
set_option maxRecDepth 100000 in
theorem rmodd_walk (p m : Int) (w : World) (hv : rvalid p = true) (h3 : 3 ≤ p) (h30 : p ≤ 1073741824) (hm : m = 2 * p + 1) :
    Calls Tryz.prog 67 #[.int .i64 p] w fun e w' => e = .returned (.tuple #[.int .i64 (if rsafe p then m else 0), .bool (rsafe p)]) ∧ w = w' := by
  have kv : ∀ V, Calls Tryz.prog 69 #[.int .i64 p] V fun e w' => e = .returned (.bool true) ∧ V = w' := fun V => by rw [← hv]; exact rvalid_walk p V
  have KV := Lib.hid kv
  obtain ⟨v, hs⟩ : ∃ v, rsafe p = v := ⟨_, rfl⟩
  have hsn : v = true ↔ NoDiv m := by rw [← hs, hm, rsafe_iff]; exact ⟨fun h => h.2.2, fun h => ⟨h3, hv, h⟩⟩
  have HS := Lib.hid hsn
  rw [hs]
  have hm7 : 7 ≤ m := by omega
  have hm31 : m ≤ 2147483649 := by omega
  have hmo : m % 2 = 1 := by omega
  have HMO := Lib.hid hmo
  have hpm : 2 * p + 1 = m := hm.symm
  clear kv hs hsn hv hm hmo
  go_enter Tryz.func67, Tryz.ntmps67
  go_wp2_with (go_at_call 69; (with_reducible refine (KV.out _).mono ?_))
  rintro e w1 ⟨rfl, rfl⟩
  clear KV
  go_wp2
  go_loopw [5] (fun u wr => ∃ (d : Int), wr = w ∧ u = .int .i64 d ∧ 3 ≤ d ∧ d ≤ 46344 ∧ Hid (d % 2 = 1 ∧ ∀ d' : Int, 2 ≤ d' → d' < d → m % d' ≠ 0)) (fun u _ => (m - intOf u).toNat)
  case atStart => exact ⟨3, rfl, rfl, by omega, by omega, rfl, fun d' a b => by have := HMO.out; rw [show d' = 2 by omega]; omega⟩
  case round =>
    obtain ⟨d, rfl, rfl, hd, hd6, HN⟩ := hrel
    obtain ⟨q0, q1⟩ := sq_le (show 0 ≤ d by omega) hd6
    have q2 : d * d < 9223372036854775808 := by omega
    have hm1 := Int.emod_nonneg m (show d ≠ 0 by omega)
    clear q1
    by_cases hle : d * d ≤ m
    · have hdp := sq_bd (show 2 ≤ d by omega) hle
      have hd5 := sq_big hm31 hle
      by_cases hz : m % d = 0
      · have hr : v = false := by
          rw [Bool.eq_false_iff, ne_eq, HS.out]
          intro hN
          exact hN d (by omega) hle hz
        subst hr
        have hzb : (m % d == 0) = true := by rw [beq_iff_eq]; exact hz
        clear hz
        go_wp2
        go_ret2
        exact ⟨rfl, rfl⟩
      · have hzb : (m % d == 0) = false := by rw [beq_eq_false_iff_ne]; exact hz
        have HN2 : Hid ((d + 2) % 2 = 1 ∧ ∀ d' : Int, 2 ≤ d' → d' < d + 2 → m % d' ≠ 0) := by
          obtain ⟨ho, hN⟩ := HN.out
          refine ⟨by omega, fun d' a b => ?_⟩
          by_cases e : d' = d
          · rw [e]; exact hz
          · by_cases e2 : d' = d + 1
            · subst e2
              intro hc
              have h1 := Int.emod_emod_of_dvd m (show (2 : Int) ∣ d + 1 by omega)
              rw [hc] at h1
              have := HMO.out
              omega
            · exact hN d' a (by omega)
        have hd2 : d + 2 ≤ 46344 := by omega
        clear hz HN
        by_cases hdm : d + 1 < m
        · go_wp2
          go_roundw
          case rel => exact ⟨d + 2, trivial, rfl, by omega, hd2, HN2⟩
          case measure => simp [intOf]; omega
        · exfalso
          have := Int.mul_le_mul_of_nonneg_right (show (3 : Int) ≤ d from hd) (show (0 : Int) ≤ d by omega)
          omega
    · have hr : v = true := by
        rw [HS.out]
        intro d' a b
        refine HN.out.2 d' a ?_
        rcases Int.lt_or_le d' d with h | h
        · exact h
        · have := (sq_le (show (0 : Int) ≤ d by omega) h).2; omega
      subst hr
      have hle2 : m < d * d := by omega
      clear hle
      go_wp2
      go_ret2
      exact ⟨rfl, rfl⟩
set_option maxRecDepth 100000 in
theorem rmod_walk (p : Int) (w : World) :
    Calls Tryz.prog 67 #[.int .i64 p] w fun e w' => e = .returned (.tuple #[.int .i64 (if rsafe p then 2 * p + 1 else 0), .bool (rsafe p)]) ∧ w = w' := by
  cases hv : rvalid p with
  | true =>
    rcases Int.lt_or_le p 3 with h3 | h3
    rotate_left
    · exact rmodd_walk p _ w hv h3 ((rvalid_iff p).1 hv).2.1 rfl
    have hs : rsafe p = false := by rw [Bool.eq_false_iff, ne_eq, rsafe_iff]; rintro ⟨a, -⟩; omega
    rw [hs]
    clear hs hv
    go_enter Tryz.func67, Tryz.ntmps67
    go_wp2
    go_ret2
    exact ⟨rfl, rfl⟩
  | false =>
    have kv : ∀ V, Calls Tryz.prog 69 #[.int .i64 p] V fun e w' => e = .returned (.bool false) ∧ V = w' := fun V => by rw [← hv]; exact rvalid_walk p V
    have KV := Lib.hid kv
    have hs : rsafe p = false := by rw [Bool.eq_false_iff, ne_eq, rsafe_iff, hv]; rintro ⟨-, a, -⟩; cases a
    rw [hs]
    clear hs hv kv
    rcases Int.lt_or_le p 3 with h3 | h3
    · go_enter Tryz.func67, Tryz.ntmps67
      go_wp2
      go_ret2
      exact ⟨rfl, rfl⟩
    · go_enter Tryz.func67, Tryz.ntmps67
      go_wp2_with (go_at_call 69; (with_reducible refine (KV.out _).mono ?_))
      rintro e w1 ⟨rfl, rfl⟩
      go_wp2
      go_ret2
      exact ⟨rfl, rfl⟩
end Go.Proofs.YtcnffdgmdeflmaaGreatDoor
/- Rings of keys: the reference's: sums, members, commitments, the challenge, whoever says that they know a secret. -/
namespace Go.Proofs.YtcnffdgmdeflmaaGreatDoor
open Go.RowKit
set_option maxRecDepth 100000 in
theorem radd_walk (p a b : Int) (w : World) (hp : 1 ≤ p) (hp2 : p ≤ 1073741824) (ha : 0 ≤ a ∧ a ≤ 4611686018427387904) (hb : 0 ≤ b ∧ b ≤ 1152921504606846976) :
    Calls Tryz.prog 39 #[.int .i64 p, .int .i64 a, .int .i64 b] w fun e w' => e = .returned (.int .i64 ((a + b) % p)) ∧ w = w' := by
  obtain ⟨a0, a1⟩ := ha
  obtain ⟨b0, b1⟩ := hb
  go_enter Tryz.func39, Tryz.ntmps39
  go_wp2
  go_ret
  exact ⟨rfl, rfl⟩
set_option maxRecDepth 100000 in
theorem rsub_walk (p a b : Int) (w : World) (hp : 1 ≤ p) (hp2 : p ≤ 1073741824) (ha : 0 ≤ a ∧ a < p) (hb : 0 ≤ b ∧ b < p) :
    Calls Tryz.prog 43 #[.int .i64 p, .int .i64 a, .int .i64 b] w fun e w' => e = .returned (.int .i64 ((a - b) % p)) ∧ w = w' := by
  obtain ⟨a0, a1⟩ := ha
  obtain ⟨b0, b1⟩ := hb
  have h1 : 0 ≤ a - b + p := by omega
  have e : (a - b + p) % p = (a - b) % p := Int.add_emod_right _ _
  have HE := Lib.hid e
  have c1 : IntKind.i64.wrap (a - b) = a - b := by rw [IntKind.wrap_i64]; omega
  have c2 : IntKind.i64.wrap (a - b + p) = a - b + p := by rw [IntKind.wrap_i64]; omega
  clear e
  go_enter Tryz.func43, Tryz.ntmps43
  go_wp2
  go_ret
  exact ⟨ret_int HE.out, rfl⟩
set_option maxRecDepth 100000 in
theorem rmul_walk (p a b : Int) (w : World) (hp : 1 ≤ p) (hp2 : p ≤ 1073741824) (ha : 0 ≤ a ∧ a < p) (hb : 0 ≤ b ∧ b < p) :
    Calls Tryz.prog 44 #[.int .i64 p, .int .i64 a, .int .i64 b] w fun e w' => e = .returned (.int .i64 (a * b % p)) ∧ w = w' := by
  obtain ⟨a0, a1⟩ := ha
  obtain ⟨b0, b1⟩ := hb
  have h1 := Int.mul_nonneg a0 b0
  have h2 := Int.mul_le_mul (show a ≤ 1073741824 by omega) (show b ≤ 1073741824 by omega) b0 (by omega)
  have h3 : a * b ≤ 1152921504606846976 := by omega
  clear h2
  go_enter Tryz.func44, Tryz.ntmps44
  go_wp2
  go_ret
  exact ⟨rfl, rfl⟩
set_option maxRecDepth 100000 in
theorem rratesafe_walk (p : Int) (w : World) (hs : rsafe p = true) :
    Calls Tryz.prog 36 #[.int .i64 p] w fun e w' => e = .returned (.bool true) ∧ w = w' := by
  have KM := Lib.hid (rmod_walk p w)
  rw [hs] at KM
  clear hs
  go_enter Tryz.func36, Tryz.ntmps36
  go_wp2_with (go_at_call 67; (with_reducible refine KM.out.mono ?_))
  (try rintro e w1 ⟨rfl, rfl⟩)
  (try go_wp2)
  go_ret
  exact ⟨rfl, rfl⟩
set_option maxRecDepth 100000 in
theorem rMember_walk (p : Nat) (x : Int) (w : World) (hs : rsafe (p : Int) = true) :
    Calls Tryz.prog 68 #[.int .i64 (p : Int), .int .i64 x] w fun e w' => e = .returned (.bool (memZ p x)) ∧ w = w' := by
  obtain ⟨h3, h30, -⟩ := rsafe_bd hs
  have KM := Lib.hid (rmod_walk (p : Int) w)
  rw [hs, if_pos rfl] at KM
  clear hs
  by_cases hx : 1 ≤ x ∧ x < 2 * (p : Int) + 1
  · obtain ⟨y, rfl⟩ : ∃ y : Nat, x = (y : Int) := ⟨x.toNat, by omega⟩
    obtain ⟨hx1, hx2⟩ := hx
    have kp := rpow_walk (2 * p + 1) y p w (by omega) (by omega) (by omega) (by omega)
    have hm : memZ p (y : Int) = (y ^ p % (2 * p + 1) == 1) := by
      rw [memZ, Int.toNat_natCast, memH, decide_eq_true (by omega), decide_eq_true (show 0 < y by omega), decide_eq_true (show y < 2 * p + 1 by omega)]
      rfl
    have hm2 : memZ p (y : Int) = (((y ^ p % (2 * p + 1) : Nat) : Int) == 1) := by
      rw [hm, Bool.eq_iff_iff, beq_iff_eq, beq_iff_eq]; omega
    have kp2 : Calls Tryz.prog 52 #[.int .i64 (2 * (p : Int) + 1), .int .i64 (y : Int), .int .i64 (p : Int)] w fun r w' => r = .returned (.int .i64 ((y ^ p % (2 * p + 1) : Nat) : Int)) ∧ w = w' := by
      have e : ((2 * p + 1 : Nat) : Int) = 2 * (p : Int) + 1 := by omega
      rw [← e]; exact kp
    have KP := Lib.hid kp2
    have HM := Lib.hid hm2
    clear kp kp2 hm hm2
    generalize ((y ^ p % (2 * p + 1) : Nat) : Int) = z at *
    have d1 : decide ((y : Int) ≥ 1) = true := decide_eq_true (by omega)
    go_enter Tryz.func68, Tryz.ntmps68
    go_wp2_with (go_at_call 67; (with_reducible refine KM.out.mono ?_))
    (try rintro e w1 ⟨rfl, rfl⟩)
    go_wp2_with (go_at_call 52; (with_reducible refine KP.out.mono ?_))
    (try rintro e w1 ⟨rfl, rfl⟩)
    (try go_wp2)
    go_ret
    exact ⟨by rw [HM.out]; rfl, rfl⟩
  · have hm : memZ p x = false := by
      cases h : memZ p x with
      | false => rfl
      | true =>
        simp only [memZ, memH, Bool.and_eq_true, decide_eq_true_eq] at h
        omega
    rw [hm]
    clear hm
    rcases Int.lt_or_le x 1 with h1 | h1
    · have d1 : decide (x ≥ 1) = false := decide_eq_false (by omega)
      have d2 : ¬ (1 ≤ x) := by omega
      clear hx
      go_enter Tryz.func68, Tryz.ntmps68
      go_wp2_with (go_at_call 67; (with_reducible refine KM.out.mono ?_))
      (try rintro e w1 ⟨rfl, rfl⟩)
      (try go_wp2)
      go_ret
      exact ⟨rfl, rfl⟩
    · have d1 : decide (x ≥ 1) = true := decide_eq_true (by omega)
      have d2 : ¬ (x < 2 * (p : Int) + 1) := by omega
      clear hx
      go_enter Tryz.func68, Tryz.ntmps68
      go_wp2_with (go_at_call 67; (with_reducible refine KM.out.mono ?_))
      (try rintro e w1 ⟨rfl, rfl⟩)
      (try go_wp2)
      go_ret
      exact ⟨rfl, rfl⟩
set_option maxRecDepth 100000 in
theorem rTimes_walk (p a b : Nat) (w : World) (hp : 1 ≤ p) (hp2 : p ≤ 1073741824) (ha : a < 2 * p + 1) (hb : b < 2 * p + 1) :
    Calls Tryz.prog 70 #[.int .i64 (p : Int), .int .i64 (a : Int), .int .i64 (b : Int)] w fun e w' => e = .returned (.int .i64 ((a * b % (2 * p + 1) : Nat) : Int)) ∧ w = w' := by
  obtain ⟨x, hx⟩ : ∃ x : Int, x = (a : Int) := ⟨_, rfl⟩
  obtain ⟨y, hy⟩ : ∃ y : Int, y = (b : Int) := ⟨_, rfl⟩
  have hz : ((a * b % (2 * p + 1) : Nat) : Int) = x * y % (2 * (p : Int) + 1) := by
    rw [Int.natCast_emod, Int.natCast_mul, hx, hy]; congr 1
  rw [hz, ← hx, ← hy]
  have x0 : 0 ≤ x ∧ x ≤ 2147483648 := by omega
  have y0 : 0 ≤ y ∧ y ≤ 2147483648 := by omega
  have h1 := Int.mul_nonneg x0.1 y0.1
  have h2 := Int.mul_le_mul x0.2 y0.2 y0.1 (by omega)
  have h3 : x * y ≤ 4611686018427387904 := by omega
  clear h2 hz hx hy x0 y0 ha hb
  go_enter Tryz.func70, Tryz.ntmps70
  go_wp2
  go_ret
  exact ⟨rfl, rfl⟩
set_option maxRecDepth 100000 in
theorem rcomm_walk (p k : Nat) (c z : Int) (w : World) (hp : 3 ≤ p) (hp2 : p ≤ 1073741824) (hk : k < 2 * p + 1) (hc : 0 ≤ c) (hc2 : c ≤ 4611686018427387904) :
    Calls Tryz.prog 40 #[.int .i64 (p : Int), .int .i64 (k : Int), .int .i64 c, .int .i64 z] w fun e w' => e = .returned (.int .i64 ((comF p k c z : Nat) : Int)) ∧ w = w' := by
  have K1 : Hid (∀ V, Calls Tryz.prog 8 #[.int .i64 (p : Int), .int .i64 z] V fun r w' => r = .returned (.int .i64 ((gpw p 4 z : Nat) : Int)) ∧ V = w') := Lib.hid (fun V => rPublic_walk p z V (by omega) hp2)
  have K2 := Lib.hid (fun V => rPower_walk p k (-c) V (by omega) hp2 hk)
  have K3 := Lib.hid (fun V => rTimes_walk p (gpw p 4 z) (gpw p k (-c)) V (by omega) hp2 (gpw_lt _ _ _) (gpw_lt _ _ _))
  rw [comF]
  generalize gpw p 4 z * gpw p k (-c) % (2 * p + 1) = y at *
  generalize gpw p 4 z = y1 at *
  generalize gpw p k (-c) = y2 at *
  have hw : IntKind.i64.wrap (-c) = -c := by rw [IntKind.wrap_i64]; omega
  clear hk
  go_enter Tryz.func40, Tryz.ntmps40
  go_wp2_with (go_at_call 8; (with_reducible refine (K1.out _).mono ?_))
  rintro e w1 ⟨rfl, rfl⟩
  go_wp2_with (go_at_call 23; (with_reducible refine (K2.out _).mono ?_))
  rintro e w2 ⟨rfl, rfl⟩
  go_wp2_with (go_at_call 70; (with_reducible refine (K3.out _).mono ?_))
  rintro e w3 ⟨rfl, rfl⟩
  go_wp2
  go_ret
  exact ⟨rfl, rfl⟩
set_option maxRecDepth 100000 in
set_option maxHeartbeats 2000000 in
theorem rrmembers_walk (p : Nat) (a : Option Addr) (l : List Int) (cap : Nat) (w : World) (hs : rsafe (p : Int) = true) (hR : Rd w a (ints l)) (hl : l.length ≤ 281474976710656) :
    Calls Tryz.prog 37 #[.int .i64 (p : Int), .slice a l.length cap] w fun e w' => e = .returned (.bool (keysOk p l)) ∧ Below w.heap.size w w' := by
  have KM := Lib.hid (fun V x => rMember_walk p x V hs)
  clear hs
  go_enter Tryz.func37, Tryz.ntmps37
  go_wp2_with fail
  go_loopw [5] (fun i wr => ∃ k : Nat, k ≤ l.length ∧ i = .int .i64 (k : Int) ∧ Hid (∀ x ∈ l.take k, memZ p x = true) ∧ Below w.heap.size w wr) (fun i _ => l.length - (intOf i).toNat)
  case atStart => exact ⟨0, Nat.zero_le _, rfl, Lib.hid (by simp), Below.refl _ _⟩
  case round =>
    obtain ⟨k, hk, rfl, hA, hB'⟩ := hrel
    by_cases hkt : k < l.length
    · obtain ⟨gx, off, x, rfl, hc, hx⟩ := (hR.keep hB').int (k := k) hkt
      have hkl : (k : Int) < (l.length : Int) := by omega
      have K1 := Lib.hid (fun V => KM.out V x)
      have hT : memZ p x = true → ∀ y ∈ l.take (k + 1), memZ p y = true := fun h y hy => by
        rw [take_at hx] at hy
        rcases List.mem_append.1 hy with hy | hy
        · exact hA.out y hy
        · simp at hy; rw [hy]; exact h
      have hF : memZ p x = false → keysOk p l = false := fun h => by
        rw [keysOk, memsF_false (mem_at hx) h]; simp
      have HT := Lib.hid hT
      have HF := Lib.hid hF
      clear hT hF hA hx hR
      cases hz : memZ p x with
      | true =>
        rw [hz] at K1 HT
        clear hz
        go_wp2_with (go_at_call 68; (with_reducible refine (K1.out _).mono ?_))
        (try rintro e w1 ⟨rfl, rfl⟩)
        (try go_wp2)
        go_roundw
        case rel => exact ⟨k + 1, by omega, by go_num, Lib.hid (HT.out trivial), hB'⟩
        case measure => simp [intOf]; omega
      | false =>
        rw [hz] at K1 HF
        clear hz
        go_wp2_with (go_at_call 68; (with_reducible refine (K1.out _).mono ?_))
        (try rintro e w1 ⟨rfl, rfl⟩)
        (try go_wp2)
        go_ret
        exact ⟨by rw [HF.out trivial]; rfl, hB'⟩
    · have hkl : ¬ (k : Int) < (l.length : Int) := by omega
      obtain rfl : k = l.length := by omega
      have hm := memsF_true hA.out
      clear hA
      by_cases hq1 : 1 ≤ l.length
      · by_cases hq2 : l.length ≤ 64
        · have hk : keysOk p l = true := by rw [keysOk, hm, decide_eq_true ⟨hq1, hq2⟩]; rfl
          have HK := Lib.hid hk
          have d1 : decide ((l.length : Int) ≥ 1) = true := decide_eq_true (by omega)
          have d2 : decide ((l.length : Int) ≤ 64) = true := decide_eq_true (by omega)
          clear hm hk
          go_wp2
          go_ret
          exact ⟨by rw [HK.out]; rfl, hB'⟩
        · have hk : keysOk p l = false := by rw [keysOk, decide_eq_false (by omega)]; rfl
          have HK := Lib.hid hk
          have d1 : decide ((l.length : Int) ≥ 1) = true := decide_eq_true (by omega)
          have d2 : decide ((l.length : Int) ≤ 64) = false := decide_eq_false (by omega)
          clear hm hk
          go_wp2
          go_ret
          exact ⟨by rw [HK.out]; rfl, hB'⟩
      · have hk : keysOk p l = false := by rw [keysOk, decide_eq_false (by omega)]; rfl
        have HK := Lib.hid hk
        have d1 : decide ((l.length : Int) ≥ 1) = false := decide_eq_false (by omega)
        clear hm hk
        go_wp2
        go_ret
        exact ⟨by rw [HK.out]; rfl, hB'⟩
end Go.Proofs.YtcnffdgmdeflmaaGreatDoor
