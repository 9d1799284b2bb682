/- slices.Index and slices.Contains at ints. -/
import Derived.Test.YtpofijdkckaphaaGreatDoorGreP
namespace Go.Proofs.YtpofijdkckaphaaGreatDoor
open Go.RowKit
set_option maxRecDepth 100000 in
set_option maxHeartbeats 2000000 in
theorem iindex_walk (a : Option Addr) (l : List Int) (cap : Nat) (x : Int) (w : World) (hR : Rd w a (ints l)) (hl : l.length ≤ 281474976710656) :
    Calls Tryz.prog 58 #[.slice a l.length cap, .int .i64 x] w fun e w' => e = .returned (.int .i64 (idxS l x)) ∧ w = w' := by
  go_enter Tryz.func58, Tryz.ntmps58
  go_wp2_with fail
  go_loopw [8] (fun i wr => ∃ k : Nat, wr = w ∧ k ≤ l.length ∧ i = .int .i64 (k : Int) ∧ Hid (x ∉ l.take k)) (fun i _ => l.length - (intOf i).toNat)
  case atStart => exact ⟨0, rfl, Nat.zero_le _, rfl, Lib.hid (by simp)⟩
  case round =>
    obtain ⟨k, rfl, hk, rfl, hA⟩ := hrel
    by_cases hkt : k < l.length
    · obtain ⟨gx, off, y, rfl, hc, hx⟩ := hR.int (k := k) hkt
      have hkl : (k : Int) < (l.length : Int) := by omega
      by_cases hxy : x = y
      · subst hxy
        have hb : (x == x) = true := beq_self_eq_true x
        have hm := Lib.hid (idx_first hx.out hA.out)
        clear hA hx hR
        go_wp2
        go_ret
        exact ⟨by rw [hm.out]; rfl, rfl⟩
      · have hb : (x == y) = false := by rw [beq_eq_false_iff_ne]; exact hxy
        have hT : x ∉ l.take (k + 1) := fun h => by
          rw [take_at hx] at h
          rcases List.mem_append.1 h with h | h
          · exact hA.out h
          · simp at h; exact hxy h
        have HT := Lib.hid hT
        clear hT hA hx hR hxy
        go_wp2
        go_roundw
        case rel => exact ⟨k + 1, trivial, by omega, by go_num, HT⟩
        case measure => simp [intOf]; omega
    · have hkl : ¬ (k : Int) < (l.length : Int) := by omega
      obtain rfl : k = l.length := by omega
      have hm : x ∉ l := by have := hA.out; rwa [List.take_length] at this
      have HM := Lib.hid hm
      clear hA hm
      go_wp2
      go_ret
      exact ⟨by rw [idx_no HM.out]; rfl, rfl⟩
set_option maxRecDepth 100000 in
theorem icontains_walk (a : Option Addr) (l : List Int) (cap : Nat) (x : Int) (w : World) (hR : Rd w a (ints l)) (hl : l.length ≤ 281474976710656) :
    Calls Tryz.prog 35 #[.slice a l.length cap, .int .i64 x] w fun e w' => e = .returned (.bool (decide (x ∈ l))) ∧ w = w' := by
  have K1 := Lib.hid (iindex_walk a l cap x w hR hl)
  clear hR hl
  go_enter Tryz.func35, Tryz.ntmps35
  go_wp2_with (go_at_call 58; (with_reducible refine K1.out.mono ?_))
  rintro e w1 ⟨rfl, rfl⟩
  have HI := Lib.hid (idx_pos (A := l) (s := x))
  generalize idxS l x = i at *
  clear K1
  go_wp2
  go_ret
  exact ⟨by rw [← HI.out]; rfl, rfl⟩
end Go.Proofs.YtpofijdkckaphaaGreatDoor
