/- How wide elements are, and how many. -/
import Derived.Test.YtpbhendndelonaaDoorPackZ
import Derived.RegionTactic
import Derived.BigRegion
namespace Go.Proofs.YtpbhendndelonaaDoor
open Go.RowKit
set_option maxRecDepth 100000 in
theorem width_walk (p : Int) (w : World) (hp : 0 ≤ p) (hp2 : p ≤ 1073741824) :
    Calls Tryd.prog 21 #[.int .i64 p] w fun e w' => e = .returned (.int .i64 (widthF p : Int)) ∧ w = w' := by
  go_enter Tryd.func21, Tryd.ntmps21
  go_wp2
  go_loopw [3, 4] (fun u v wr => ∃ (k : Nat) (n : Int), wr = w ∧ u = .int .i64 (k : Int) ∧ v = .int .i64 n ∧ ((k = 0 ∧ n = 256) ∨ (k = 1 ∧ n = 65536 ∧ 256 ≤ p) ∨ (k = 2 ∧ n = 16777216 ∧ 65536 ≤ p) ∨ (k = 3 ∧ n = 4294967296 ∧ 16777216 ≤ p))) (fun u _ _ => 3 - (intOf u).toNat)
  case atStart => exact ⟨0, 256, rfl, rfl, rfl, .inl ⟨rfl, rfl⟩⟩
  case round =>
    obtain ⟨k, n, rfl, rfl, rfl, hc⟩ := hrel
    rcases Int.lt_or_le p n with hn | hn
    · have hw : widthF p = k := by unfold widthF; rcases hc with ⟨rfl, rfl⟩ | ⟨rfl, rfl, h⟩ | ⟨rfl, rfl, h⟩ | ⟨rfl, rfl, h⟩ <;> (repeat' split) <;> omega
      have hk : k ≤ 3 := by omega
      have HW := Lib.hid hw
      clear hw hc
      by_cases hk3 : k < 3
      · go_wp2
        go_ret
        exact ⟨ret_int (by rw [HW.out]), rfl⟩
      · obtain rfl : k = 3 := by omega
        go_wp2
        go_ret
        exact ⟨ret_int (by rw [HW.out]), rfl⟩
    · have hk3 : k < 3 := by omega
      have hn4 : n ≤ 16777216 := by omega
      have hn0 : 256 ≤ n := by omega
      have hnew : ((k + 1 = 0 ∧ n * 256 = 256) ∨ (k + 1 = 1 ∧ n * 256 = 65536 ∧ 256 ≤ p) ∨ (k + 1 = 2 ∧ n * 256 = 16777216 ∧ 65536 ≤ p) ∨ (k + 1 = 3 ∧ n * 256 = 4294967296 ∧ 16777216 ≤ p)) := by omega
      have HC := Lib.hid hnew
      clear hc hnew
      go_wp2
      go_roundw
      case rel => exact ⟨k + 1, n * 256, trivial, by go_num, rfl, HC.out⟩
      case measure => simp [intOf]; omega
theorem widthF_le (p : Int) : widthF p ≤ 3 := by unfold widthF; (repeat' split) <;> omega
set_option maxRecDepth 100000 in
theorem count_walk (p : Int) (n : Nat) (w : World) (hp : 0 ≤ p) (hp2 : p ≤ 1073741824) (hn : n ≤ 281474976710656) :
    Calls Tryd.prog 13 #[.int .i64 p, .int .i64 (n : Int)] w fun e w' => e = .returned (.int .i64 (countF (widthF p) n : Int)) ∧ Below w.heap.size w w' := by
  have hw3 := widthF_le p
  go_enter Tryd.func13, Tryd.ntmps13
  go_wp2_with (go_at_call 21; (with_reducible refine (width_walk p _ hp hp2).mono ?_))
  rintro e w1 ⟨rfl, rfl⟩
  obtain ⟨k, hkw⟩ : ∃ k, widthF p = k := ⟨_, rfl⟩
  rw [hkw] at hw3 ⊢
  have HK := Lib.hid hkw
  clear hkw
  by_cases hk : k = 0
  · subst hk
    go_wp2
    go_ret
    exact ⟨ret_int (by rw [HK.out]; simp [countF]), Below.refl _ _⟩
  · have hk1 : (0 : Int) < (k : Int) := by omega
    have hk0 : ((k : Int) == 0) = false := by rw [beq_eq_false_iff_ne]; omega
    have hdn : n / k ≤ n := Nat.div_le_self n k
    have hd : (n : Int) / (k : Int) = ((n / k : Nat) : Int) := (Int.natCast_ediv n k).symm
    have hr : (n : Int) % (k : Int) = ((n % k : Nat) : Int) := (Int.natCast_emod n k).symm
    obtain ⟨d, hd'⟩ : ∃ d, d = n / k := ⟨_, rfl⟩
    obtain ⟨r, hr'⟩ : ∃ r, r = n % k := ⟨_, rfl⟩
    rw [← hd'] at hd hdn
    rw [← hr'] at hr
    obtain ⟨m, hm⟩ : ∃ m : Nat, min (r : Int) 1 = (m : Int) := ⟨min r 1, by omega⟩
    have hcf : countF (widthF p) n = d + m := by rw [HK.out, countF, if_neg hk, ← hd', ← hr']; omega
    have hm1 : m ≤ 1 := by omega
    have HC := Lib.hid hcf
    clear hcf hd' hr' hk
    go_wp2
    go_region
    all_goals go_wp2
    all_goals
      go_ret
      refine ⟨ret_int (by rw [HC.out]; omega), (Below.refl _ _).drew⟩
end Go.Proofs.YtpbhendndelonaaDoor
