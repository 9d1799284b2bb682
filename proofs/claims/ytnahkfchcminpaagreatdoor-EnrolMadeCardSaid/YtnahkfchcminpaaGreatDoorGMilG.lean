/- Safe primes: the program's tests are right, for every number: plain. -/
import Derived.Test.YtnahkfchcminpaaGreatDoorGMilC1
import Derived.Test.YtnahkfchcminpaaGreatDoorGHandC
import Derived.Test.YtnahkfchcminpaaGreatDoorGNoDiv
namespace Go.Proofs.YtnahkfchcminpaaGreatDoor
open Go.RowKit
theorem passF_nat (p b : Nat) (hp : 3 ≤ p) (h30 : p ≤ 1073741824) : passF (p : Int) (b : Int) = MR.passN p b := by
  have h1 := (MR.odF_spec 31 (p - 1) 0).1
  have e1 : ((p : Int) - 1).toNat = p - 1 := by omega
  rw [passF, MR.passN, MR.strict_eq, e1]
  generalize odF 31 (p - 1) 0 = r at *
  obtain ⟨o, t⟩ := r
  simp only [Nat.sub_zero] at *
  have hole : o ≤ p - 1 := by
    have := Nat.le_mul_of_pos_right o (show 0 < 2 ^ t from Nat.pow_pos (by decide))
    omega
  have e2 : powF (p : Int) ((b : Int) % (p : Int)) o = ((b ^ o % p : Nat) : Int) := by
    rw [powF, show ((b : Int) % (p : Int)) = ((b % p : Nat) : Int) by simp, show (1 : Int) % (p : Int) = ((1 : Nat) : Int) from Int.emod_eq_of_lt (by decide) (by omega), pwF_eq p 64 1 (b % p) o (by omega) (by omega), Nat.one_mul, ← Nat.pow_mod]
  have e3 : MR.sqN p (t - 1) (b ^ o % p) = sqF (p : Int) (t - 1) ((b ^ o % p : Nat) : Int) := by
    generalize b ^ o % p = x
    generalize t - 1 = k
    induction k generalizing x with
    | zero => rfl
    | succ k ih =>
      rw [MR.sqN, sqF, MR.strict_eq]
      have hi : ((x : Int) * (x : Int) % (p : Int)) = ((x * x % p : Nat) : Int) := by simp
      rw [hi, ih]
      generalize x * x % p = y
      by_cases h : y = p - 1
      · rw [if_pos (by omega), h, Nat.beq_refl]; rfl
      · rw [if_neg (by omega), MR.beqF.2 h]; rfl
  rw [fpow_eq p 40 1 _ o (by omega), Nat.one_mul, ← Nat.pow_mod, e2, e3]
  have b1 : ∀ (x c : Nat), ((x : Int) == (c : Int)) = x.beq c := fun x c => by
    cases h : x.beq c with
    | true => rw [Nat.beq_eq] at h; rw [h]; simp
    | false => rw [MR.beqF] at h; rw [beq_eq_false_iff_ne]; omega
  have e4 := b1 (b ^ o % p) 1
  have e5 := b1 (b ^ o % p) 0
  have e6 := b1 (b ^ o % p) (p - 1)
  rw [show ((p - 1 : Nat) : Int) = (p : Int) - 1 by omega] at e6
  rw [← e4, ← e5, ← e6]; rfl
theorem vlF_all {p : Nat} (hp : 11 ≤ p) (h30 : p ≤ 1073741824) (h : vlF (p : Int) basesL = true) : ∀ b : Nat, b = 2 ∨ b = 3 ∨ b = 5 ∨ b = 7 → p % b ≠ 0 ∧ MR.passN p b = true := by
  have k : ∀ (b : Nat) (bs : List Int), b < 11 → vlF (p : Int) ((b : Int) :: bs) = true → (p % b ≠ 0 ∧ MR.passN p b = true) ∧ vlF (p : Int) bs = true := fun b bs hb h => by
    rw [vlF, if_neg (by omega)] at h
    split at h
    · cases h
    · rename_i hc
      simp only [Bool.or_eq_true, decide_eq_true_eq, Bool.not_eq_true', not_or, Bool.not_eq_false] at hc
      rw [passF_nat p b (by omega) h30] at hc
      exact ⟨⟨by have := hc.1; omega, hc.2⟩, h⟩
  have h2 := k 2 [3, 5, 7] (by omega) h
  have h3 := k 3 [5, 7] (by omega) h2.2
  have h5 := k 5 [7] (by omega) h3.2
  have h7 := k 7 [] (by omega) h5.2
  rintro b (rfl | rfl | rfl | rfl)
  · exact h2.1
  · exact h3.1
  · exact h5.1
  · exact h7.1
theorem sqH_iff (m : Nat) : ∀ (k x : Nat), x < m → (sqH m k x = true ↔ ∃ j, j ≤ k ∧ x ^ 2 ^ j % m = m - 1)
  | 0, x, hx => by
    rw [sqH, beq_iff_eq]
    constructor
    · intro h; exact ⟨0, Nat.le_refl _, by rw [Nat.pow_zero, Nat.pow_one, Nat.mod_eq_of_lt hx]; exact h⟩
    · rintro ⟨j, hj, h⟩
      obtain rfl : j = 0 := by omega
      rw [Nat.pow_zero, Nat.pow_one, Nat.mod_eq_of_lt hx] at h; exact h
  | k + 1, x, hx => by
    rw [sqH]
    by_cases h0 : x = m - 1
    · rw [if_pos h0]
      exact ⟨fun _ => ⟨0, by omega, by rw [Nat.pow_zero, Nat.pow_one, Nat.mod_eq_of_lt hx]; exact h0⟩, fun _ => rfl⟩
    · rw [if_neg h0, sqH_iff m k _ (Nat.mod_lt _ (by omega))]
      constructor
      · rintro ⟨j, h1, h2⟩
        exact ⟨j + 1, by omega, by rw [← MR.pow_two_succ]; exact h2⟩
      · rintro ⟨j, h1, h2⟩
        rcases Nat.eq_zero_or_pos j with rfl | hj
        · rw [Nat.pow_zero, Nat.pow_one, Nat.mod_eq_of_lt hx] at h2; exact absurd h2 h0
        · obtain ⟨i, rfl⟩ : ∃ i, j = i + 1 := ⟨j - 1, by omega⟩
          exact ⟨i, by omega, by rw [MR.pow_two_succ]; exact h2⟩
theorem prime_passH {m b : Nat} (hm : MR.PrimeP m) (h7 : 7 ≤ m) (hmo : m % 2 = 1) (hb : ¬ m ∣ b) : passH m b = true := by
  have h := MR.roots_of (f := 32) hm hb
  have h1 := MR.odF_one 31 (m - 1) (by omega)
  rw [passH]
  generalize odF 32 (m - 1) 0 = r at *
  obtain ⟨o, t⟩ := r
  simp only at *
  rw [← Nat.pow_mod, Bool.or_eq_true, beq_iff_eq, sqH_iff m _ _ (Nat.mod_lt _ (by omega))]
  rcases h with h | ⟨j, hj, h⟩
  · exact .inl h
  · exact .inr ⟨j, by omega, h⟩
theorem passH_ft {m b : Nat} (hm : 7 ≤ m) (ho : m % 2 = 1) (h : passH m b = true) : b ^ (m - 1) % m = 1 := by
  have h1 := MR.odF_spec 32 (m - 1) 0
  have h2 := MR.odF_one 31 (m - 1) (by omega)
  rw [passH] at h
  generalize odF 32 (m - 1) 0 = r at *
  obtain ⟨o, t⟩ := r
  simp only [Nat.sub_zero] at *
  obtain ⟨h1, -⟩ := h1
  rw [← Nat.pow_mod, Bool.or_eq_true, beq_iff_eq, sqH_iff m _ _ (Nat.mod_lt _ (by omega))] at h
  have key : (b ^ o % m) ^ 2 ^ t % m = 1 → b ^ (m - 1) % m = 1 := fun h => by rw [← h1, MR.pow_mod_mul]; exact h
  rcases h with h | ⟨j, hj, h⟩
  · exact key (by rw [h, Nat.one_pow, Nat.mod_eq_of_lt (by omega)])
  · exact key (MR.neg_one_pow (by omega) h (by omega))
theorem primeH_all {m : Nat} (hm : 11 ≤ m) (h : primeH m basesN = true) : m % 3 ≠ 0 ∧ m % 5 ≠ 0 ∧ m % 7 ≠ 0 ∧ passH m 2 = true := by
  have hne : ∀ b : Nat, b < 11 → (m == b) = false := fun b hb => by rw [beq_eq_false_iff_ne]; omega
  simp only [basesN, primeH, hne 2 (by omega), hne 3 (by omega), hne 5 (by omega), hne 7 (by omega), Bool.false_or, Bool.and_eq_true, bne_iff_ne] at h
  exact ⟨h.2.1.1, h.2.2.1.1, h.2.2.2.1.1, h.1.2⟩
theorem noDiv_prime {p : Nat} (hp : MR.PrimeP p) : NoDiv (p : Int) := by
  intro d hd hle hz
  obtain ⟨e, rfl⟩ : ∃ e : Nat, d = (e : Int) := ⟨d.toNat, by omega⟩
  have hdv : e ∣ p := Nat.dvd_of_mod_eq_zero (by omega)
  have hp2 := hp.1
  rcases hp.2 e hdv with h | h
  · omega
  · subst h
    rw [← Int.natCast_mul] at hle
    have := Nat.mul_le_mul_right e hp2
    omega
theorem safe_small : safeP 3 = true ∧ safeP 5 = true ∧ safeP 7 = false ∧ safeP 9 = false := by decide +kernel
theorem rsafe_small : rsafe 3 = true ∧ rsafe 5 = true ∧ rsafe 7 = false ∧ rsafe 9 = false := by
  have n : ∀ p : Nat, MR.PrimeP p → NoDiv (p : Int) := fun p => noDiv_prime
  have s : ∀ l ∈ MR.primes127, MR.PrimeP l := MR.primes127_all
  refine ⟨?_, ?_, ?_, ?_⟩
  · rw [rsafe_iff, rvalid_iff]; exact ⟨by decide, ⟨by decide, by decide, n 3 (s 3 (by decide))⟩, n 7 (s 7 (by decide))⟩
  · rw [rsafe_iff, rvalid_iff]; exact ⟨by decide, ⟨by decide, by decide, n 5 (s 5 (by decide))⟩, n 11 (s 11 (by decide))⟩
  · rw [Bool.eq_false_iff, ne_eq, rsafe_iff]; rintro ⟨-, -, h⟩; exact h 3 (by decide) (by decide) (by decide)
  · rw [Bool.eq_false_iff, ne_eq, rsafe_iff, rvalid_iff]; rintro ⟨-, ⟨-, -, h⟩, -⟩; exact h 3 (by decide) (by decide) (by decide)
/-- THE TESTS ARE RIGHT -/
theorem safe_eq (p : Int) : safeP p = rsafe p := by
  by_cases hb : 3 ≤ p ∧ p ≤ 1073741824 ∧ p % 2 = 1
  rotate_left
  · have h1 : safeP p = false := by
      rw [Bool.eq_false_iff]; intro h; exact hb (safeP_bd h)
    have h2 : rsafe p = false := by
      rw [Bool.eq_false_iff, ne_eq, rsafe_iff, rvalid_iff]
      rintro ⟨h3, ⟨-, h30, hd⟩, -⟩
      refine hb ⟨h3, h30, ?_⟩
      rcases Int.emod_two_eq p with h | h
      · exact absurd h (hd 2 (by omega) (by omega))
      · exact h
    rw [h1, h2]
  obtain ⟨h3, h30, ho⟩ := hb
  obtain ⟨P, rfl⟩ : ∃ P : Nat, p = (P : Int) := ⟨p.toNat, by omega⟩
  obtain ⟨s3, s5, s7, s9⟩ := safe_small
  obtain ⟨r3, r5, r7, r9⟩ := rsafe_small
  rcases Nat.lt_or_ge P 11 with hs | hs
  · have : P = 3 ∨ P = 5 ∨ P = 7 ∨ P = 9 := by omega
    rcases this with rfl | rfl | rfl | rfl
    · exact s3.trans r3.symm
    · exact s5.trans r5.symm
    · exact s7.trans r7.symm
    · exact s9.trans r9.symm
  have em : (2 * (P : Int) + 1).toNat = 2 * P + 1 := by omega
  have er : 2 * (P : Int) + 1 = ((2 * P + 1 : Nat) : Int) := by omega
  rw [Bool.eq_iff_iff]
  constructor
  · intro h
    have h' := h
    simp only [safeP, validP, em, Bool.and_eq_true, decide_eq_true_eq] at h'
    obtain ⟨-, ⟨-, -, hv⟩, hm⟩ := h'
    have ha := vlF_all hs (by omega) hv
    obtain ⟨m3, m5, m7, mp⟩ := primeH_all (by omega) hm
    have pr : ∀ b : Nat, b = 2 ∨ b = 3 ∨ b = 5 ∨ b = 7 → b ^ (P - 1) % P = 1 := fun b hb =>
      MR.pass_ft (by omega) (by omega) (by omega) (MR.primes127_all b (by rcases hb with rfl | rfl | rfl | rfl <;> decide)) (ha b hb).1 (ha b hb).2
    have hP : MR.PrimeP P := MR.mh_prime ⟨by omega, by omega, (ha 3 (by simp)).1, (ha 5 (by simp)).1, (ha 7 (by simp)).1, by omega, by omega, by omega, pr 2 (by simp), pr 3 (by simp), pr 5 (by simp), pr 7 (by simp), by
      rw [MR.strongN, (ha 2 (by simp)).2, (ha 3 (by simp)).2, (ha 5 (by simp)).2, (ha 7 (by simp)).2]; rfl⟩ (by omega)
    have hM := MR.twice_prime hP (by omega) m3 (by have := passH_ft (by omega) (by omega) mp; rwa [show 2 * P + 1 - 1 = 2 * P by omega] at this)
    rw [rsafe_iff, rvalid_iff, er]
    exact ⟨h3, ⟨by omega, h30, noDiv_prime hP⟩, noDiv_prime hM⟩
  · intro h
    rw [rsafe_iff, rvalid_iff, er] at h
    obtain ⟨-, ⟨-, -, hd⟩, hd2⟩ := h
    have hP : MR.PrimeP P := primeP_of (by omega) hd
    have hM : MR.PrimeP (2 * P + 1) := primeP_of (by omega) hd2
    have nd : ∀ {q b : Nat}, 11 ≤ q → 0 < b → b < 11 → ¬ q ∣ b := fun h1 h2 h3 hd => by have := Nat.le_of_dvd h2 hd; omega
    have hv : vlF (P : Int) basesL = true := by
      have k : ∀ (b : Nat) (bs : List Int), 2 ≤ b → b < 11 → vlF (P : Int) bs = true → vlF (P : Int) ((b : Int) :: bs) = true := fun b bs h2 hb h => by
        rw [vlF, if_neg (by omega), if_neg, h]
        rw [passF_nat P b (by omega) (by omega), MR.prime_pass hP (by omega) (nd hs (by omega) hb)]
        have := MR.small_no hP h2 (by omega)
        simp; omega
      exact k 2 _ (by decide) (by decide) (k 3 _ (by decide) (by decide) (k 5 _ (by decide) (by decide) (k 7 _ (by decide) (by decide) rfl)))
    have hm : primeH (2 * P + 1) basesN = true := by
      have k : ∀ (b : Nat) (bs : List Nat), 2 ≤ b → b < 11 → primeH (2 * P + 1) bs = true → primeH (2 * P + 1) (b :: bs) = true := fun b bs h2 hb h => by
        rw [primeH, h, prime_passH hM (by omega) (by omega) (nd (by omega) (by omega) hb)]
        have := MR.small_no hM h2 (by omega)
        simp; omega
      exact k 2 _ (by decide) (by decide) (k 3 _ (by decide) (by decide) (k 5 _ (by decide) (by decide) (k 7 _ (by decide) (by decide) rfl)))
    simp only [safeP, validP, em, Bool.and_eq_true, decide_eq_true_eq]
    exact ⟨h3, ⟨h30, ho, hv⟩, hm⟩
end Go.Proofs.YtnahkfchcminpaaGreatDoor
