/- ranges.In. -/
import Derived.Test.YtpofijdkckaphaaGreatDoorBase
import Derived.Test.YtpofijdkckaphaaGreatDoorGGreD
namespace Go.Proofs.YtpofijdkckaphaaGreatDoor
open Go.RowKit
set_option maxRecDepth 100000 in
theorem in_walk (n lo hi : Int) (w : World) :
    Calls Tryz.prog 57 #[.int .i64 n, .int .i64 lo, .int .i64 hi] w fun e w' => e = .returned (.bool (decide (lo ≤ n) && decide (n ≤ hi))) ∧ w = w' := by
  by_cases h1 : lo ≤ n
  · have d1 : decide (n ≥ lo) = true := by simpa using h1
    have d1' : decide (lo ≤ n) = true := by simpa using h1
    go_enter Tryz.func57, Tryz.ntmps57
    go_wp2
    go_ret
    exact ⟨by simp [h1], rfl⟩
  · have d1 : decide (n ≥ lo) = false := by simpa using h1
    go_enter Tryz.func57, Tryz.ntmps57
    go_wp2
    go_ret
    exact ⟨by simp, rfl⟩
/-- the two answers apart -/
theorem in_yes {n lo hi : Int} (w : World) (h : lo ≤ n ∧ n ≤ hi) : Calls Tryz.prog 57 #[.int .i64 n, .int .i64 lo, .int .i64 hi] w fun e w' => e = .returned (.bool true) ∧ w = w' := by
  have := in_walk n lo hi w
  rwa [decide_eq_true h.1, decide_eq_true h.2] at this
theorem in_no {n lo hi : Int} (w : World) (h : ¬ (lo ≤ n ∧ n ≤ hi)) : Calls Tryz.prog 57 #[.int .i64 n, .int .i64 lo, .int .i64 hi] w fun e w' => e = .returned (.bool false) ∧ w = w' := by
  have := in_walk n lo hi w
  rwa [show (decide (lo ≤ n) && decide (n ≤ hi)) = false by rw [Bool.and_eq_false_iff, decide_eq_false_iff_not, decide_eq_false_iff_not]; omega] at this
end Go.Proofs.YtpofijdkckaphaaGreatDoor
/- Seats: ranges.Rising; all the numbers (ranges.Where at the closure of all). -/
namespace Go.Proofs.YtpofijdkckaphaaGreatDoor
open Go.RowKit
set_option maxRecDepth 100000 in
set_option maxHeartbeats 2000000 in
theorem rising_walk (n : Nat) (hi : Int) (a : Option Addr) (l : List Int) (cap : Nat) (w : World) (hhi : hi = (n : Int) - 1) (hR : Rd w a (ints l)) (hl : l.length ≤ 281474976710656) :
    Calls Tryz.prog 34 #[.slice a l.length cap, .int .i64 0, .int .i64 hi] w fun e w' => e = .returned (.bool (riseP n l)) ∧ w = w' := by
  go_enter Tryz.func34, Tryz.ntmps34
  go_wp2_with fail
  go_loopw [11] (fun i wr => ∃ k : Nat, wr = w ∧ k ≤ l.length ∧ i = .int .i64 (k : Int) ∧ Hid (riseP n (l.take k) = true)) (fun i _ => l.length - (intOf i).toNat)
  case atStart => exact ⟨0, rfl, Nat.zero_le _, rfl, Lib.hid (by simp [riseP])⟩
  case round =>
    obtain ⟨k, rfl, hk, rfl, hA⟩ := hrel
    by_cases hkt : k < l.length
    · obtain ⟨gx, off, x, rfl, hc, hx⟩ := hR.int (k := k) hkt
      have hkl : (k : Int) < (l.length : Int) := by omega
      by_cases h1 : 0 ≤ x ∧ x ≤ hi
      rotate_left
      · have KI := Lib.hid (fun V : World => in_no (n := x) (lo := 0) (hi := hi) V h1)
        have HF := Lib.hid (rise_out (n := n) (mem_at hx) (by omega))
        clear hA hx hR h1 hhi
        go_wp2_with (go_at_call 57; (with_reducible refine (KI.out _).mono ?_); rintro e w1 ⟨rfl, rfl⟩)
        go_ret
        exact ⟨by rw [HF.out]; rfl, rfl⟩
      have KI := Lib.hid (fun V : World => in_yes (n := x) (lo := 0) (hi := hi) V h1)
      by_cases hk0 : k = 0
      · have hk1 : decide ((k : Int) > 0) = false := decide_eq_false (by omega)
        have hk2 : decide (0 < k) = false := decide_eq_false (by omega)
        have hk3 : ¬ (0 < k) := by omega
        have hk4 : ¬ ((k : Int) > 0) := by omega
        have HT := Lib.hid (rise_step hA.out hx.out (n := n) (by omega) (fun y h => absurd h (by omega)))
        clear hA hx hR h1 hhi hk0
        go_wp2_with (go_at_call 57; (with_reducible refine (KI.out _).mono ?_); rintro e w1 ⟨rfl, rfl⟩)
        go_roundw
        case rel => exact ⟨k + 1, trivial, by omega, by go_num, HT⟩
        case measure => simp [intOf]; omega
      · have hk1 : decide ((k : Int) > 0) = true := decide_eq_true (by omega)
        obtain ⟨gx', off', y, hga', hc2, hy⟩ := hR.int (k := k - 1) (by omega)
        cases hga'
        have e1 : IntKind.i64.wrap ((k : Int) - 1) = ((k - 1 : Nat) : Int) := by rw [IntKind.wrap_i64] <;> omega
        have hkm : ((k - 1 : Nat) : Int) < (l.length : Int) := by omega
        by_cases hxy : x ≤ y
        · have HF := Lib.hid (rise_fall (n := n) (by omega) hx.out hy.out hxy)
          clear hA hx hy hR h1 hhi
          go_wp2_with (go_at_call 57; (with_reducible refine (KI.out _).mono ?_); rintro e w1 ⟨rfl, rfl⟩)
          go_ret
          exact ⟨by rw [HF.out]; rfl, rfl⟩
        · have HT := Lib.hid (rise_step hA.out hx.out (n := n) (by omega) (fun z _ hz => by
            rw [hy.out] at hz
            have := Option.some.inj hz
            omega))
          clear hA hx hy hR h1 hhi
          go_wp2_with (go_at_call 57; (with_reducible refine (KI.out _).mono ?_); rintro e w1 ⟨rfl, rfl⟩)
          go_roundw
          case rel => exact ⟨k + 1, trivial, by omega, by go_num, HT⟩
          case measure => simp [intOf]; omega
    · have hkl : ¬ (k : Int) < (l.length : Int) := by omega
      obtain rfl : k = l.length := by omega
      have HT : Hid (riseP n l = true) := Lib.hid (by have := hA.out; rwa [List.take_length] at this)
      clear hA
      go_wp2
      go_ret
      exact ⟨by rw [HT.out]; rfl, rfl⟩
theorem upI_succ (n : Nat) : upI (n + 1) = upI n ++ [(n : Int)] := by
  unfold upI
  rw [List.range_succ, List.map_append]
  rfl
set_option maxRecDepth 100000 in
theorem all1_clo (x : Int) (w : World) : Calls Tryz.prog 64 #[.int .i64 x] w fun e w' => e = .returned (.bool true) ∧ Below w.heap.size w w' := by
  go_enter Tryz.func64, Tryz.ntmps64
  go_wp2
  go_ret
  exact ⟨rfl, Below.refl _ _⟩
set_option maxRecDepth 100000 in
set_option maxHeartbeats 2000000 in
theorem where_walk (n : Nat) (w : World) (hn : n ≤ 100000) :
    Calls Tryz.prog 63 #[.int .i64 (n : Int), .func (.func 64) #[] #[]] w fun e w' => ∃ a c, e = .returned (.slice a n c) ∧ Ow w' w.heap.size 1 a n c (ints (upI n)) ∧ Below w.heap.size w w' := by
  have K1 := Lib.hid all1_clo
  go_enter Tryz.func63, Tryz.ntmps63
  go_wp2_with fail
  go_loopw [5, 8] (fun v i wr => ∃ (k : Nat) (a : Option Addr) (c : Nat), k ≤ n ∧ i = .int .i64 (k : Int) ∧ v = .slice a k c ∧ Ow wr w.heap.size 1 a k c (ints (upI k)) ∧ Below w.heap.size w wr) (fun _ i _ => n - (intOf i).toNat)
  case atStart => exact ⟨0, none, 0, by omega, rfl, rfl, Ow.nil _ _ _, Below.refl _ _⟩
  case round =>
    obtain ⟨k, a, c, hk, rfl, rfl, hO, hB⟩ := hrel
    by_cases hkt : k < n
    · have hkl : (k : Int) < (n : Int) := by omega
      go_wp2_with ((with_reducible refine (K1.out _ _).mono ?_))
      rintro e w1 ⟨rfl, hb1⟩
      replace hO := hO.keep hb1
      replace hB := below_tr hB hb1
      clear hb1
      go_wp2_with (at_builtin; refine wpList_app1 (w0 := w) (B := w.heap.size) rfl _ _ _ rfl el_int rfl hO hB (Nat.le_refl _) hB.size rfl (by rfl) (one1 rfl) (by omega) ?_)
      intro b' c' w2 hO3 hB3 _
      have e3 : ints (upI k) ++ [.int .i64 (k : Int)] = ints (upI (k + 1)) := by rw [upI_succ, ints_snoc]
      rw [e3] at hO3
      clear hO hB e3
      go_wp2
      go_roundw
      case rel => exact ⟨k + 1, b', c', by omega, by go_num, rfl, hO3, hB3⟩
      case measure => simp [intOf]; omega
    · have hkl : ¬ (k : Int) < (n : Int) := by omega
      obtain rfl : k = n := by omega
      go_wp2
      go_ret
      exact ⟨a, c, rfl, hO, hB⟩
end Go.Proofs.YtpofijdkckaphaaGreatDoor
