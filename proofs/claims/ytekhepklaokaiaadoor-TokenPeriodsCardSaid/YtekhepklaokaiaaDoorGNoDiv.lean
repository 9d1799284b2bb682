/- Primes by trial division: plain. No program in sight. -/
import Derived.Test.YtekhepklaokaiaaDoorGModP
namespace Go.Proofs.YtekhepklaokaiaaDoor
open Go.RowKit
/-- no divisor from 2 on up to the root -/
def NoDiv (p : Int) : Prop := ∀ d : Int, 2 ≤ d → d * d ≤ p → p % d ≠ 0
noncomputable def rvalid (p : Int) : Bool := @decide (2 ≤ p ∧ p ≤ 1073741824 ∧ NoDiv p) (Classical.propDecidable _)
noncomputable def rsafe (p : Int) : Bool := @decide (3 ≤ p ∧ rvalid p = true ∧ NoDiv (2 * p + 1)) (Classical.propDecidable _)
theorem rvalid_iff (p : Int) : rvalid p = true ↔ 2 ≤ p ∧ p ≤ 1073741824 ∧ NoDiv p := by unfold rvalid; simp
theorem rsafe_iff (p : Int) : rsafe p = true ↔ 3 ≤ p ∧ rvalid p = true ∧ NoDiv (2 * p + 1) := by unfold rsafe; simp
theorem sq_le {d k : Int} (h0 : 0 ≤ d) (h : d ≤ k) : 0 ≤ d * d ∧ d * d ≤ k * k := ⟨Int.mul_nonneg h0 h0, Int.mul_le_mul h h h0 (by omega)⟩
theorem sq_big {d p : Int} (hp : p ≤ 2147483649) (h : d * d ≤ p) : d ≤ 46341 := by
  rcases Int.lt_or_le 46341 d with h1 | h1
  · have := (sq_le (show (0 : Int) ≤ 46342 by omega) (show (46342 : Int) ≤ d by omega)).2
    omega
  · exact h1
theorem sq_bd {d p : Int} (hd : 2 ≤ d) (h : d * d ≤ p) : d < p := by
  have := Int.mul_le_mul_of_nonneg_right (show (2 : Int) ≤ d from hd) (show (0 : Int) ≤ d by omega)
  omega
/-! ### Primes by trial division -/
theorem tryF_all (p s : Nat) : ∀ (n d : Nat), tryF p s n d = true → ∀ k, k < n → p % (d + k * s) ≠ 0
  | 0, _, _, k, hk => by omega
  | n + 1, d, h, k, hk => by
    rw [tryF, Bool.and_eq_true, bne_iff_ne] at h
    cases k with
    | zero => rw [Nat.zero_mul, Nat.add_zero]; exact h.1
    | succ k =>
      have := tryF_all p s n (d + s) h.2 k (by omega)
      rwa [show d + (k + 1) * s = d + s + k * s by rw [Nat.succ_mul]; omega]
theorem noDiv_of (p n : Nat) (ho : p % 2 = 1) (h : tryF p 2 n 3 = true) (hn : p < (3 + 2 * n) * (3 + 2 * n)) : NoDiv (p : Int) := by
  intro d hd hle hz
  obtain ⟨e, rfl⟩ : ∃ e : Nat, d = (e : Int) := ⟨d.toNat, by omega⟩
  have hz' : p % e = 0 := by omega
  have hdv : e ∣ p := Nat.dvd_of_mod_eq_zero hz'
  have hle' : e * e ≤ p := by
    rw [← Int.natCast_mul] at hle; omega
  have heo : e % 2 = 1 := by
    rcases Nat.mod_two_eq_zero_or_one e with h2 | h2
    · have := Nat.dvd_trans (Nat.dvd_of_mod_eq_zero h2) hdv
      omega
    · exact h2
  have hlt : e < 3 + 2 * n := by
    rcases Nat.lt_or_ge e (3 + 2 * n) with h1 | h1
    · exact h1
    · have := Nat.mul_le_mul h1 h1; omega
  have := tryF_all p 2 n 3 h ((e - 3) / 2) (by omega)
  rw [show 3 + (e - 3) / 2 * 2 = e by omega] at this
  exact this hz'
theorem primeP_of {p : Nat} (h2 : 2 ≤ p) (h : NoDiv (p : Int)) : PrimeP p := by
  have key : ∀ e : Nat, 2 ≤ e → e * e ≤ p → ¬ e ∣ p := by
    intro e he hle hd
    have := h (e : Int) (by omega) (by rw [← Int.natCast_mul]; omega)
    have hz := Nat.mod_eq_zero_of_dvd hd
    omega
  refine ⟨h2, fun d hd => ?_⟩
  obtain ⟨c, hc⟩ := hd
  rcases Nat.lt_or_ge d 2 with hd2 | hd2
  · have : d ≠ 0 := by rintro rfl; simp at hc; omega
    omega
  rcases Nat.lt_or_ge c 2 with hc2 | hc2
  · have : c ≠ 0 := by rintro rfl; simp at hc; omega
    obtain rfl : c = 1 := by omega
    omega
  exfalso
  rcases Nat.le_total d c with hdc | hdc
  · exact key d hd2 (by rw [hc]; exact Nat.mul_le_mul_left d hdc) ⟨c, hc⟩
  · exact key c hc2 (by rw [hc]; exact Nat.mul_le_mul_right c hdc) ⟨d, by rw [hc, Nat.mul_comm]⟩
end Go.Proofs.YtekhepklaokaiaaDoor
