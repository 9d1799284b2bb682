/- slices.Index and slices.Contains at strings. -/
import Derived.Test.YtejdaeonknpgeaaGreatDoorBase
namespace Go.Proofs.YtejdaeonknpgeaaGreatDoor
open Go.RowKit
set_option maxRecDepth 100000 in
set_option maxHeartbeats 2000000 in
theorem sindex_walk (a : Option Addr) (l : List (List UInt8)) (cap : Nat) (x : List UInt8) (w : World) (hR : Rd w a (strs l)) (hl : l.length ≤ 281474976710656) :
    Calls Tryz.prog 90 #[.slice a l.length cap, .string ⟨x.toArray⟩] w fun e w' => ∃ i, e = .returned (.int .i64 i) ∧ decide (0 ≤ i) = decide (x ∈ l) ∧ w = w' := by
  go_enter Tryz.func90, Tryz.ntmps90
  go_wp2_with fail
  go_loopw [8] (fun i wr => ∃ k : Nat, wr = w ∧ k ≤ l.length ∧ i = .int .i64 (k : Int) ∧ Hid (x ∉ l.take k)) (fun i _ => l.length - (intOf i).toNat)
  case atStart => exact ⟨0, rfl, Nat.zero_le _, rfl, Lib.hid (by simp)⟩
  case round =>
    obtain ⟨k, rfl, hk, rfl, hA⟩ := hrel
    by_cases hkt : k < l.length
    · obtain ⟨gx, off, y, rfl, hc, hx⟩ := hR.str (k := k) hkt
      have hkl : (k : Int) < (l.length : Int) := by omega
      by_cases hxy : x = y
      · subst hxy
        have hm := Lib.hid (mem_at hx)
        clear hA hx hR
        go_wp2
        go_ret
        exact ⟨(k : Int), rfl, by rw [decide_eq_true hm.out]; simp, rfl⟩
      · have hb : (x == y) = false := by rw [beq_eq_false_iff_ne]; exact hxy
        have hT : x ∉ l.take (k + 1) := fun h => by
          rw [take_at hx] at h
          rcases List.mem_append.1 h with h | h
          · exact hA.out h
          · simp at h; exact hxy h
        have HT := Lib.hid hT
        clear hT hA hx hR hxy
        go_wp2
        go_roundw
        case rel => exact ⟨k + 1, trivial, by omega, by go_num, HT⟩
        case measure => simp [intOf]; omega
    · have hkl : ¬ (k : Int) < (l.length : Int) := by omega
      obtain rfl : k = l.length := by omega
      have hm : x ∉ l := by have := hA.out; rwa [List.take_length] at this
      have HM := Lib.hid hm
      clear hA hm
      go_wp2
      go_ret
      exact ⟨-1, rfl, ⟨fun h => absurd h (by decide), fun h => absurd h HM.out⟩, rfl⟩
set_option maxRecDepth 100000 in
theorem scontains_walk (a : Option Addr) (l : List (List UInt8)) (cap : Nat) (x : List UInt8) (w : World) (hR : Rd w a (strs l)) (hl : l.length ≤ 281474976710656) :
    Calls Tryz.prog 83 #[.slice a l.length cap, .string ⟨x.toArray⟩] w fun e w' => e = .returned (.bool (decide (x ∈ l))) ∧ w = w' := by
  have K1 := Lib.hid (sindex_walk a l cap x w hR hl)
  clear hR hl
  go_enter Tryz.func83, Tryz.ntmps83
  go_wp2_with (go_at_call 90; (with_reducible refine K1.out.mono ?_))
  rintro e w1 ⟨i, rfl, hi, rfl⟩
  have HI := Lib.hid hi
  clear K1 hi
  go_wp2
  go_ret
  exact ⟨by rw [← HI.out]; rfl, rfl⟩
end Go.Proofs.YtejdaeonknpgeaaGreatDoor
