/- Remainders as the program takes them: plain. No program in sight. -/
import Derived.Test.YtejdaeonknpgeaaBase
namespace Go.Proofs.Ytejdaeonknpgeaa
open Go.RowKit
theorem dmod_bd (n m : Int) (h1 : 1 ≤ m) : -m < n.tmod m ∧ n.tmod m < m := by
  by_cases h : 0 ≤ n
  · rw [Int.tmod_eq_emod_of_nonneg h]
    have := Int.emod_nonneg n (show m ≠ 0 by omega)
    have := Int.emod_lt_of_pos n (show 0 < m by omega)
    omega
  · rw [show n = -(-n) by omega, Int.neg_tmod, Int.tmod_eq_emod_of_nonneg (by omega)]
    have := Int.emod_nonneg (-n) (show m ≠ 0 by omega)
    have := Int.emod_lt_of_pos (-n) (show 0 < m by omega)
    omega
theorem dmod_eq (n m : Int) (h1 : 1 ≤ m) (h2 : m ≤ 4611686018427387904) : (wrap64 (n.tmod m + m)).tmod m = n % m := by
  obtain ⟨a, b⟩ := dmod_bd n m h1
  rw [IntWalk.wrap64_in _ ⟨by omega, by omega⟩, Int.tmod_eq_emod_of_nonneg (by omega), Int.add_emod_right]
  conv => rhs; rw [← Int.mul_tdiv_add_tmod n m]
  rw [Int.add_comm, Int.add_mul_emod_self_left]
end Go.Proofs.Ytejdaeonknpgeaa
