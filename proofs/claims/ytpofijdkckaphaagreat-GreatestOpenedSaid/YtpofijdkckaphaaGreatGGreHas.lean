/- law28: ref28.Has; what the laws begin with. -/
import Derived.Test.YtpofijdkckaphaaGreatGPlyE
import Derived.Test.YtpofijdkckaphaaGreatGGreY
namespace Go.Proofs.YtpofijdkckaphaaGreat
open Go.RowKit
set_option maxRecDepth 100000 in
set_option maxHeartbeats 2000000 in
theorem rhas_walk (a : Option Addr) (l : List Int) (cap : Nat) (x : Int) (w : World) (hR : Rd w a (ints l)) (hl : l.length ≤ 281474976710656) :
    Calls Tryz.prog 10 #[.slice a l.length cap, .int .i64 x] w fun e w' => e = .returned (.bool (decide (x ∈ l))) ∧ w = w' := by
  go_enter Tryz.func10, Tryz.ntmps10
  go_wp2_with fail
  go_loopw [5] (fun i wr => ∃ k : Nat, wr = w ∧ k ≤ l.length ∧ i = .int .i64 (k : Int) ∧ Hid (x ∉ l.take k)) (fun i _ => l.length - (intOf i).toNat)
  case atStart => exact ⟨0, rfl, Nat.zero_le _, rfl, Lib.hid (by simp)⟩
  case round =>
    obtain ⟨k, rfl, hk, rfl, hA⟩ := hrel
    by_cases hkt : k < l.length
    · obtain ⟨gx, off, y, rfl, hc, hx⟩ := hR.int (k := k) hkt
      have hkl : (k : Int) < (l.length : Int) := by omega
      by_cases hxy : y = x
      · subst hxy
        have hb : (y == y) = true := beq_self_eq_true y
        have hm := Lib.hid (decide_eq_true (mem_at hx))
        clear hA hx hR
        go_wp2
        go_ret
        exact ⟨by rw [hm.out]; rfl, rfl⟩
      · have hb : (y == x) = false := by rw [beq_eq_false_iff_ne]; exact hxy
        have HT : Hid (x ∉ l.take (k + 1)) := Lib.hid (fun h => by
          rw [take_at hx] at h
          rcases List.mem_append.1 h with h | h
          · exact hA.out h
          · simp at h; exact hxy h.symm)
        clear hA hx hR hxy
        go_wp2
        go_roundw
        case rel => exact ⟨k + 1, trivial, by omega, by go_num, HT⟩
        case measure => simp [intOf]; omega
    · have hkl : ¬ (k : Int) < (l.length : Int) := by omega
      obtain rfl : k = l.length := by omega
      have HM := Lib.hid (decide_eq_false (by have := hA.out; rwa [List.take_length] at this : x ∉ l))
      clear hA
      go_wp2
      go_ret
      exact ⟨by rw [HM.out]; rfl, rfl⟩
theorem Ss.rdS {W w0 w : World} {db : Nat} {p : Option Addr} {l : List Int} {cap : Nat} {a : Option Addr} {n c : Nat} {L : List Seat} {m : Nat} (h : Ss W w0 w db p l cap a n c L m) : RdS w a L := rdS_mk h.o.rd h.ok
theorem Dc.first {W w : World} {p : Option Addr} {l : List Int} {cap : Nat} (hD : Dice w W.heap.size p l cap 0) (hR : Rd W p (ints l)) (hb : Below W.heap.size W w) (hl : l.length ≤ 281474976710656) : Dc W w W.heap.size p l cap :=
  ⟨⟨0, hD, hR.keep hb, hb⟩, Nat.le_refl _, hR, hl⟩
theorem setP_len (op : Int → Bool) (H : List Int → Int → Bool) (n : Nat) : (setP op H n).length ≤ n := by
  have := (set_sub op H n).length_le
  rwa [upI_len] at this
end Go.Proofs.YtpofijdkckaphaaGreat
