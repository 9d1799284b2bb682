/- The reference's groups: trial division, powers. -/
import Derived.Test.YtgfcknadjijinaaDoorGModP
import Derived.Test.YtgfcknadjijinaaDoorGDice
import Derived.Test.YtgfcknadjijinaaDoorGHandG
namespace Go.Proofs.YtgfcknadjijinaaDoor
open Go.RowKit
/-- no divisor from 2 on up to the root -/
def NoDiv (p : Int) : Prop := ∀ d : Int, 2 ≤ d → d * d ≤ p → p % d ≠ 0
noncomputable def rvalid (p : Int) : Bool := @decide (2 ≤ p ∧ p ≤ 1073741824 ∧ NoDiv p) (Classical.propDecidable _)
noncomputable def rsafe (p : Int) : Bool := @decide (3 ≤ p ∧ rvalid p = true ∧ NoDiv (2 * p + 1)) (Classical.propDecidable _)
theorem rvalid_iff (p : Int) : rvalid p = true ↔ 2 ≤ p ∧ p ≤ 1073741824 ∧ NoDiv p := by unfold rvalid; simp
theorem rsafe_iff (p : Int) : rsafe p = true ↔ 3 ≤ p ∧ rvalid p = true ∧ NoDiv (2 * p + 1) := by unfold rsafe; simp
theorem sq_bd {d p : Int} (hd : 2 ≤ d) (h : d * d ≤ p) : d < p := by
  have := Int.mul_le_mul_of_nonneg_right (show (2 : Int) ≤ d from hd) (show (0 : Int) ≤ d by omega)
  omega
theorem sq_le {d k : Int} (h0 : 0 ≤ d) (h : d ≤ k) : 0 ≤ d * d ∧ d * d ≤ k * k := ⟨Int.mul_nonneg h0 h0, Int.mul_le_mul h h h0 (by omega)⟩
theorem sq_big {d p : Int} (hp : p ≤ 2147483649) (h : d * d ≤ p) : d ≤ 46341 := by
  rcases Int.lt_or_le 46341 d with h1 | h1
  · have := (sq_le (show (0 : Int) ≤ 46342 by omega) (show (46342 : Int) ≤ d by omega)).2
    omega
  · exact h1
set_option maxRecDepth 100000 in
theorem rvalid_walk (p : Int) (w : World) :
    Calls Tryd.prog 85 #[.int .i64 p] w fun e w' => e = .returned (.bool (rvalid p)) ∧ w = w' := by
  by_cases h1 : 2 ≤ p ∧ p ≤ 1073741824
  · obtain ⟨h2, h3⟩ := h1
    obtain ⟨v, hv⟩ : ∃ v, rvalid p = v := ⟨_, rfl⟩
    have HV := Lib.hid hv
    rw [hv]
    clear hv
    go_enter Tryd.func85, Tryd.ntmps85
    go_wp2
    go_loopw [3] (fun u wr => ∃ (d : Int), wr = w ∧ u = .int .i64 d ∧ 2 ≤ d ∧ d ≤ 46342 ∧ Hid (∀ d' : Int, 2 ≤ d' → d' < d → p % d' ≠ 0)) (fun u _ => (p - intOf u).toNat)
    case atStart => exact ⟨2, rfl, rfl, by omega, by omega, fun d' a b => by omega⟩
    case round =>
      obtain ⟨d, rfl, rfl, hd, hd6, HN⟩ := hrel
      obtain ⟨q0, q1⟩ := sq_le (show 0 ≤ d by omega) hd6
      have q2 : d * d < 9223372036854775808 := by omega
      have hm1 := Int.emod_nonneg p (show d ≠ 0 by omega)
      clear q1
      by_cases hle : d * d ≤ p
      · have hdp := sq_bd hd hle
        have hd5 := sq_big (by omega) hle
        by_cases hz : p % d = 0
        · have hr : v = false := by
            rw [← HV.out, Bool.eq_false_iff, ne_eq, rvalid_iff]
            rintro ⟨-, -, hN⟩
            exact hN d hd hle hz
          have HR := Lib.hid hr
          have hzb : (p % d == 0) = true := by rw [beq_iff_eq]; exact hz
          clear hr hz
          go_wp2
          go_ret
          exact ⟨ret_bool HR.out.symm, rfl⟩
        · have hzb : (p % d == 0) = false := by rw [beq_eq_false_iff_ne]; exact hz
          have HN2 : Hid (∀ d' : Int, 2 ≤ d' → d' < d + 1 → p % d' ≠ 0) := fun d' a b => by
            by_cases e : d' = d
            · rw [e]; exact hz
            · exact HN.out d' a (by omega)
          clear hz HN
          go_wp2
          go_roundw
          case rel => exact ⟨d + 1, trivial, rfl, by omega, by omega, HN2⟩
          case measure => simp [intOf]; omega
      · have hr : v = true := by
          rw [← HV.out, rvalid_iff]
          refine ⟨h2, h3, fun d' a b => HN.out d' a ?_⟩
          rcases Int.lt_or_le d' d with h | h
          · exact h
          · have := (sq_le (show (0 : Int) ≤ d by omega) h).2; omega
        have HR := Lib.hid hr
        have hle2 : p < d * d := by omega
        clear hr hle
        go_wp2
        go_ret
        exact ⟨ret_bool HR.out.symm, rfl⟩
  · have hv : rvalid p = false := by rw [Bool.eq_false_iff, ne_eq, rvalid_iff]; rintro ⟨a, b, -⟩; exact h1 ⟨a, b⟩
    rw [hv]
    rcases Int.lt_or_le p 2 with h2 | h2
    · clear hv h1
      go_enter Tryd.func85, Tryd.ntmps85
      go_wp2
      go_ret
      exact ⟨rfl, rfl⟩
    · have h3 : 1073741824 < p := by omega
      clear hv h1
      go_enter Tryd.func85, Tryd.ntmps85
      go_wp2
      go_ret
      exact ⟨rfl, rfl⟩
end Go.Proofs.YtgfcknadjijinaaDoor
/- Safe primes, and that a signature is right: plain. -/
namespace Go.Proofs.YtgfcknadjijinaaDoor
open Go.RowKit
/-! ### Primes by trial division -/
theorem tryF_all (p s : Nat) : ∀ (n d : Nat), tryF p s n d = true → ∀ k, k < n → p % (d + k * s) ≠ 0
  | 0, _, _, k, hk => by omega
  | n + 1, d, h, k, hk => by
    rw [tryF, Bool.and_eq_true, bne_iff_ne] at h
    cases k with
    | zero => rw [Nat.zero_mul, Nat.add_zero]; exact h.1
    | succ k =>
      have := tryF_all p s n (d + s) h.2 k (by omega)
      rwa [show d + (k + 1) * s = d + s + k * s by rw [Nat.succ_mul]; omega]
theorem noDiv_of (p n : Nat) (ho : p % 2 = 1) (h : tryF p 2 n 3 = true) (hn : p < (3 + 2 * n) * (3 + 2 * n)) : NoDiv (p : Int) := by
  intro d hd hle hz
  obtain ⟨e, rfl⟩ : ∃ e : Nat, d = (e : Int) := ⟨d.toNat, by omega⟩
  have hz' : p % e = 0 := by omega
  have hdv : e ∣ p := Nat.dvd_of_mod_eq_zero hz'
  have hle' : e * e ≤ p := by
    rw [← Int.natCast_mul] at hle; omega
  have heo : e % 2 = 1 := by
    rcases Nat.mod_two_eq_zero_or_one e with h2 | h2
    · have := Nat.dvd_trans (Nat.dvd_of_mod_eq_zero h2) hdv
      omega
    · exact h2
  have hlt : e < 3 + 2 * n := by
    rcases Nat.lt_or_ge e (3 + 2 * n) with h1 | h1
    · exact h1
    · have := Nat.mul_le_mul h1 h1; omega
  have := tryF_all p 2 n 3 h ((e - 3) / 2) (by omega)
  rw [show 3 + (e - 3) / 2 * 2 = e by omega] at this
  exact this hz'
theorem primeP_of {p : Nat} (h2 : 2 ≤ p) (h : NoDiv (p : Int)) : PrimeP p := by
  have key : ∀ e : Nat, 2 ≤ e → e * e ≤ p → ¬ e ∣ p := by
    intro e he hle hd
    have := h (e : Int) (by omega) (by rw [← Int.natCast_mul]; omega)
    have hz := Nat.mod_eq_zero_of_dvd hd
    omega
  refine ⟨h2, fun d hd => ?_⟩
  obtain ⟨c, hc⟩ := hd
  rcases Nat.lt_or_ge d 2 with hd2 | hd2
  · have : d ≠ 0 := by rintro rfl; simp at hc; omega
    omega
  rcases Nat.lt_or_ge c 2 with hc2 | hc2
  · have : c ≠ 0 := by rintro rfl; simp at hc; omega
    obtain rfl : c = 1 := by omega
    omega
  exfalso
  rcases Nat.le_total d c with hdc | hdc
  · exact key d hd2 (by rw [hc]; exact Nat.mul_le_mul_left d hdc) ⟨c, hc⟩
  · exact key c hc2 (by rw [hc]; exact Nat.mul_le_mul_right c hdc) ⟨d, by rw [hc, Nat.mul_comm]⟩
/-! ### The program's test, so that it can be reckoned -/
def passK (m b : Nat) : Bool :=
  let x := fpow m 40 1 (b % m) (odF 32 (m - 1) 0).1
  x == 1 || sqH m ((odF 32 (m - 1) 0).2 - 1) x
def primeK (m : Nat) : List Nat → Bool
  | [] => true
  | b :: bs => (m == b || (m % b != 0 && passK m b)) && primeK m bs
theorem passK_eq (m b : Nat) (h1 : 2 ≤ m) (hm : m ≤ 2147483649) : passH m b = passK m b := by
  have ho := (odF_pos 32 (m - 1) 0 (by omega)).2
  unfold passH passK
  rw [pow_eval m (b % m) _ (by omega)]
theorem primeK_eq (m : Nat) (h1 : 2 ≤ m) (hm : m ≤ 2147483649) : ∀ l, primeH m l = primeK m l
  | [] => rfl
  | b :: l => by rw [primeH, primeK, passK_eq m b h1 hm, primeK_eq m h1 hm l]
def safeK (p : Nat) : Bool := validP (p : Int) && primeK (2 * p + 1) basesN
theorem safeP_of {p : Nat} (h3 : 3 ≤ p) (h30 : p ≤ 1073741824) (h : safeK p = true) : safeP (p : Int) = true := by
  rw [safeK, Bool.and_eq_true] at h
  rw [safeP, h.1, decide_eq_true (by omega), show (2 * (p : Int) + 1).toNat = 2 * p + 1 by omega, primeK_eq _ (by omega) (by omega), h.2]
  rfl
theorem safeP_big : safeP 500000003 = true := safeP_of (p := 500000003) (by decide) (by decide) (by decide +kernel)
theorem rsafe_of (p n k : Nat) (h3 : 3 ≤ p) (h30 : p ≤ 1073741824) (ho : p % 2 = 1) (h1 : tryF p 2 n 3 = true) (hn : p < (3 + 2 * n) * (3 + 2 * n)) (h2 : tryF (2 * p + 1) 2 k 3 = true) (hk : 2 * p + 1 < (3 + 2 * k) * (3 + 2 * k)) : rsafe (p : Int) = true := by
  rw [rsafe_iff, rvalid_iff]
  refine ⟨by omega, ⟨by omega, by omega, noDiv_of p n ho h1 hn⟩, ?_⟩
  have := noDiv_of (2 * p + 1) k (by omega) h2 hk
  rwa [show ((2 * p + 1 : Nat) : Int) = 2 * (p : Int) + 1 by omega] at this
theorem rsafe_big : rsafe 500000003 = true := rsafe_of 500000003 11180 15811 (by decide) (by decide) (by decide) (by decide +kernel) (by decide) (by decide +kernel) (by decide)
theorem prime_big : PrimeP 500000003 := primeP_of (by decide) (by
  have := rsafe_big
  rw [rsafe_iff, rvalid_iff] at this
  exact this.2.1.2.2)
end Go.Proofs.YtgfcknadjijinaaDoor
