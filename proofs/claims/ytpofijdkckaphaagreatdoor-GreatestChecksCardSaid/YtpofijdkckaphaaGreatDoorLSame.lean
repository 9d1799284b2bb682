/- Lists of numbers that are the same: the reference's Same. -/
import Derived.Test.YtpofijdkckaphaaGreatDoorBase
namespace Go.Proofs.YtpofijdkckaphaaGreatDoor
open Go.RowKit
set_option maxRecDepth 100000 in
set_option maxHeartbeats 2000000 in
theorem lsame_eq (a : Option Addr) (l : List Int) (c : Nat) (b : Option Addr) (d : Nat) (w : World) (hR : Rd w a (ints l)) (hS : Rd w b (ints l)) (hn : l.length ≤ 281474976710656) :
    Calls Tryz.prog 19 #[.slice a l.length c, .slice b l.length d] w fun e w' => e = .returned (.bool true) ∧ Below w.heap.size w w' := by
  go_enter Tryz.func19, Tryz.ntmps19
  go_wp2_with fail
  go_loopw [14] (fun i wr => ∃ k : Nat, k ≤ l.length ∧ i = .int .i64 (k : Int) ∧ Below w.heap.size w wr) (fun i _ => l.length - (intOf i).toNat)
  case atStart => exact ⟨0, Nat.zero_le _, rfl, Below.refl _ _⟩
  case round =>
    obtain ⟨k, hk, rfl, hB⟩ := hrel
    by_cases hkt : k < l.length
    · have hkl : (k : Int) < (l.length : Int) := by omega
      obtain ⟨g, off, x, rfl, c0, hx⟩ := (hR.keep hB).int (k := k) hkt
      obtain ⟨g', off', y, rfl, e0, hy⟩ := (hS.keep hB).int (k := k) hkt
      obtain rfl := same_at hx hy
      clear hx hy hR hS
      go_wp2_with fail
      go_roundw
      case rel => exact ⟨k + 1, by omega, by go_num, hB⟩
      case measure => simp [intOf]; omega
    · have hkl : ¬ (k : Int) < (l.length : Int) := by omega
      go_wp2
      go_ret
      exact ⟨rfl, hB⟩
end Go.Proofs.YtpofijdkckaphaaGreatDoor
