/- Remainders as the program takes them: plain. No program in sight. -/
import Derived.Test.YtekhepklaokaiaaDoorBase
import Derived.Test.YtekhepklaokaiaaDoorGHandA
import Derived.Test.YtekhepklaokaiaaDoorGNoDiv
namespace Go.Proofs.YtekhepklaokaiaaDoor
open Go.RowKit
theorem dmod_bd (n m : Int) (h1 : 1 ≤ m) : -m < n.tmod m ∧ n.tmod m < m := by
  by_cases h : 0 ≤ n
  · rw [Int.tmod_eq_emod_of_nonneg h]
    have := Int.emod_nonneg n (show m ≠ 0 by omega)
    have := Int.emod_lt_of_pos n (show 0 < m by omega)
    omega
  · rw [show n = -(-n) by omega, Int.neg_tmod, Int.tmod_eq_emod_of_nonneg (by omega)]
    have := Int.emod_nonneg (-n) (show m ≠ 0 by omega)
    have := Int.emod_lt_of_pos (-n) (show 0 < m by omega)
    omega
theorem dmod_eq (n m : Int) (h1 : 1 ≤ m) (h2 : m ≤ 4611686018427387904) : (wrap64 (n.tmod m + m)).tmod m = n % m := by
  obtain ⟨a, b⟩ := dmod_bd n m h1
  rw [IntWalk.wrap64_in _ ⟨by omega, by omega⟩, Int.tmod_eq_emod_of_nonneg (by omega), Int.add_emod_right]
  conv => rhs; rw [← Int.mul_tdiv_add_tmod n m]
  rw [Int.add_comm, Int.add_mul_emod_self_left]
end Go.Proofs.YtekhepklaokaiaaDoor
/- The reference's groups: trial division, powers. -/
namespace Go.Proofs.YtekhepklaokaiaaDoor
open Go.RowKit
set_option maxRecDepth 100000 in
theorem rvalid_walk (p : Int) (w : World) :
    Calls Tryd.prog 38 #[.int .i64 p] w fun e w' => e = .returned (.bool (rvalid p)) ∧ w = w' := by
  by_cases h1 : 2 ≤ p ∧ p ≤ 1073741824
  · obtain ⟨h2, h3⟩ := h1
    obtain ⟨v, hv⟩ : ∃ v, rvalid p = v := ⟨_, rfl⟩
    have HV := Lib.hid hv
    rw [hv]
    clear hv
    go_enter Tryd.func38, Tryd.ntmps38
    go_wp2
    go_loopw [3] (fun u wr => ∃ (d : Int), wr = w ∧ u = .int .i64 d ∧ 2 ≤ d ∧ d ≤ 46342 ∧ Hid (∀ d' : Int, 2 ≤ d' → d' < d → p % d' ≠ 0)) (fun u _ => (p - intOf u).toNat)
    case atStart => exact ⟨2, rfl, rfl, by omega, by omega, fun d' a b => by omega⟩
    case round =>
      obtain ⟨d, rfl, rfl, hd, hd6, HN⟩ := hrel
      obtain ⟨q0, q1⟩ := sq_le (show 0 ≤ d by omega) hd6
      have q2 : d * d < 9223372036854775808 := by omega
      have hm1 := Int.emod_nonneg p (show d ≠ 0 by omega)
      clear q1
      by_cases hle : d * d ≤ p
      · have hdp := sq_bd hd hle
        have hd5 := sq_big (by omega) hle
        by_cases hz : p % d = 0
        · have hr : v = false := by
            rw [← HV.out, Bool.eq_false_iff, ne_eq, rvalid_iff]
            rintro ⟨-, -, hN⟩
            exact hN d hd hle hz
          have HR := Lib.hid hr
          have hzb : (p % d == 0) = true := by rw [beq_iff_eq]; exact hz
          clear hr hz
          go_wp2
          go_ret
          exact ⟨ret_bool HR.out.symm, rfl⟩
        · have hzb : (p % d == 0) = false := by rw [beq_eq_false_iff_ne]; exact hz
          have HN2 : Hid (∀ d' : Int, 2 ≤ d' → d' < d + 1 → p % d' ≠ 0) := fun d' a b => by
            by_cases e : d' = d
            · rw [e]; exact hz
            · exact HN.out d' a (by omega)
          clear hz HN
          go_wp2
          go_roundw
          case rel => exact ⟨d + 1, trivial, rfl, by omega, by omega, HN2⟩
          case measure => simp [intOf]; omega
      · have hr : v = true := by
          rw [← HV.out, rvalid_iff]
          refine ⟨h2, h3, fun d' a b => HN.out d' a ?_⟩
          rcases Int.lt_or_le d' d with h | h
          · exact h
          · have := (sq_le (show (0 : Int) ≤ d by omega) h).2; omega
        have HR := Lib.hid hr
        have hle2 : p < d * d := by omega
        clear hr hle
        go_wp2
        go_ret
        exact ⟨ret_bool HR.out.symm, rfl⟩
  · have hv : rvalid p = false := by rw [Bool.eq_false_iff, ne_eq, rvalid_iff]; rintro ⟨a, b, -⟩; exact h1 ⟨a, b⟩
    rw [hv]
    rcases Int.lt_or_le p 2 with h2 | h2
    · clear hv h1
      go_enter Tryd.func38, Tryd.ntmps38
      go_wp2
      go_ret
      exact ⟨rfl, rfl⟩
    · have h3 : 1073741824 < p := by omega
      clear hv h1
      go_enter Tryd.func38, Tryd.ntmps38
      go_wp2
      go_ret
      exact ⟨rfl, rfl⟩
end Go.Proofs.YtekhepklaokaiaaDoor
