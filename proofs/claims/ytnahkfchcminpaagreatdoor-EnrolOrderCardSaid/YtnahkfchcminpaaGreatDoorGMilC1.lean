/- The reckoning of the prime factors between 100 and 32768, by the kernel (part 0). No program in sight. -/
import Derived.Test.YtnahkfchcminpaaGreatDoorGMilB
import Derived.Test.YtnahkfchcminpaaGreatDoorGMilE
import Derived.Test.YtnahkfchcminpaaGreatDoorGPackZ
import Derived.Test.YtnahkfchcminpaaGreatDoorGNoDiv
namespace Go.Proofs.YtnahkfchcminpaaGreatDoor.MR
set_option maxRecDepth 100000
theorem chk2_50 : chk2s 5 50 = true := by decide +kernel
theorem chk2_82 : chk2s 6 82 = true := by decide +kernel
theorem chk2_146 : chk2s 7 146 = true := by decide +kernel
end Go.Proofs.YtnahkfchcminpaaGreatDoor.MR
/- The reckoning of the prime factors between 100 and 32768, by the kernel (part 1). No program in sight. -/
namespace Go.Proofs.YtnahkfchcminpaaGreatDoor.MR
set_option maxRecDepth 100000
theorem chk2_274 : chk2s 8 274 = true := by decide +kernel
theorem chk2_530 : chk2s 9 530 = true := by decide +kernel
theorem chk2_1042 : chk2s 10 1042 = true := by decide +kernel
theorem chk2_2066 : chk2s 11 2066 = true := by decide +kernel
end Go.Proofs.YtnahkfchcminpaaGreatDoor.MR
/- The reckoning of the prime factors between 100 and 32768, by the kernel (part 2). No program in sight. -/
namespace Go.Proofs.YtnahkfchcminpaaGreatDoor.MR
set_option maxRecDepth 100000
theorem chk2_4114 : chk2s 12 4114 = true := by decide +kernel
end Go.Proofs.YtnahkfchcminpaaGreatDoor.MR
/- The reckoning of the prime factors between 100 and 32768, by the kernel (part 3). No program in sight. -/
namespace Go.Proofs.YtnahkfchcminpaaGreatDoor.MR
set_option maxRecDepth 100000
theorem chk2_8210 : chk2s 13 8210 = true := by decide +kernel
end Go.Proofs.YtnahkfchcminpaaGreatDoor.MR
/- The numbers that the tests of Miller and Rabin with 2, 3, 5 and 7 take are prime, up to 2 to the power of 30: plain. No program in sight. -/
namespace Go.Proofs.YtnahkfchcminpaaGreatDoor.MR
theorem mid_no {q m : Nat} (hq : PrimeP q) (h1 : 100 < q) (h2 : q < 32768) (hm : 2 ≤ m) (h : MH (q * m)) : False := by
  have ho : q % 2 = 1 := by
    have := small_no hq (show 2 ≤ 2 by decide) (by omega); omega
  refine chk2_no hq h1 hm h ?_
  rcases Nat.lt_or_ge q 164 with h3 | h3
  · exact chk2s_at chk2_50 (by omega) (by omega) ho h2
  rcases Nat.lt_or_ge q 292 with h3 | h3
  · exact chk2s_at chk2_82 (by omega) (by omega) ho h2
  rcases Nat.lt_or_ge q 548 with h3 | h3
  · exact chk2s_at chk2_146 (by omega) (by omega) ho h2
  rcases Nat.lt_or_ge q 1060 with h3 | h3
  · exact chk2s_at chk2_274 (by omega) (by omega) ho h2
  rcases Nat.lt_or_ge q 2084 with h3 | h3
  · exact chk2s_at chk2_530 (by omega) (by omega) ho h2
  rcases Nat.lt_or_ge q 4132 with h3 | h3
  · exact chk2s_at chk2_1042 (by omega) (by omega) ho h2
  rcases Nat.lt_or_ge q 8228 with h3 | h3
  · exact chk2s_at chk2_2066 (by omega) (by omega) ho h2
  rcases Nat.lt_or_ge q 16420 with h3 | h3
  · exact chk2s_at chk2_4114 (by omega) (by omega) ho h2
  · exact chk2s_at chk2_8210 (by omega) (by omega) ho h2
theorem mh_prime {p : Nat} (h : MH p) (h2 : 2 ≤ p) : PrimeP p := by
  by_cases hx : ∃ q, PrimeP q ∧ q ∣ p ∧ 100 ≤ q
  · obtain ⟨q, hq, ⟨m, rfl⟩, h100⟩ := hx
    have hne : q ≠ 100 := fun e => absurd (by rw [e]) (small_no hq (d := 2) (by decide) (by omega))
    have hne2 : q ≠ 32768 := fun e => absurd (by rw [e]) (small_no hq (d := 2) (by decide) (by omega))
    rcases Nat.lt_or_ge m 2 with hm | hm
    · have : m ≠ 0 := by rintro rfl; simp at h2
      obtain rfl : m = 1 := by omega
      rw [Nat.mul_one]; exact hq
    · exfalso
      rcases Nat.lt_or_ge q 32768 with h3 | h3
      · exact mid_no hq (by omega) h3 hm h
      · exact big_no hq (by omega) hm h
  · refine smalls_prime p (smooth_no h h2 fun q hq hd => ?_)
    rcases Nat.lt_or_ge q 100 with h3 | h3
    · exact h3
    · exact absurd ⟨q, hq, hd, h3⟩ hx
/-! ### Prime numbers pass, and what passes has powers that are 1 -/
theorem fpow_eq (m : Nat) : ∀ f o y k, k < 2 ^ f → fpow m f o y k = o * y ^ k % m
  | 0, o, y, k, h => by
    have : k = 0 := by simpa using h
    subst this; simp [fpow]
  | f + 1, o, y, k, h => by
    have podd : k % 2 = 1 → (o * y % m) * (y * y % m) ^ (k / 2) % m = o * y ^ k % m := fun h => by
      have e : y ^ k = y * (y * y) ^ (k / 2) := by
        conv => lhs; rw [show k = 2 * (k / 2) + 1 by omega]
        rw [Nat.pow_succ, Nat.pow_mul, show y ^ 2 = y * y by rw [Nat.pow_succ, Nat.pow_one], Nat.mul_comm]
      rw [Nat.mul_mod, Nat.mod_mod, ← Nat.pow_mod, ← Nat.mul_mod, e, Nat.mul_assoc]
    have peven : k % 2 = 0 → o * (y * y % m) ^ (k / 2) % m = o * y ^ k % m := fun h => by
      have e : y ^ k = (y * y) ^ (k / 2) := by
        conv => lhs; rw [show k = 2 * (k / 2) by omega]
        rw [Nat.pow_mul, show y ^ 2 = y * y by rw [Nat.pow_succ, Nat.pow_one]]
      rw [Nat.mul_mod, ← Nat.pow_mod, ← Nat.mul_mod, e]
    rw [fpow]
    split
    · rename_i h0; subst h0; simp
    · have h2 : k / 2 < 2 ^ f := by rw [Nat.pow_succ] at h; omega
      split
      · rename_i ho; rw [fpow_eq m f _ _ _ h2, podd ho]
      · rw [fpow_eq m f _ _ _ h2, peven (by omega)]
theorem odF_spec : ∀ (f n t : Nat), (odF f n t).1 * 2 ^ ((odF f n t).2 - t) = n ∧ t ≤ (odF f n t).2
  | 0, n, t => by simp [odF]
  | f + 1, n, t => by
    rw [odF]
    split
    · have h := odF_spec f (n / 2) (t + 1)
      generalize odF f (n / 2) (t + 1) = r at *
      obtain ⟨h1, h2⟩ := h
      refine ⟨?_, by omega⟩
      rw [show r.2 - t = (r.2 - (t + 1)) + 1 by omega, Nat.pow_succ, ← Nat.mul_assoc, h1]
      omega
    · simp
theorem odF_one (f n : Nat) (h : n % 2 = 0) : 1 ≤ (odF (f + 1) n 0).2 := by
  rw [odF, if_pos h]
  exact (odF_spec f (n / 2) (0 + 1)).2
theorem pow_two_succ (x p j : Nat) : (x * x % p) ^ 2 ^ j % p = x ^ 2 ^ (j + 1) % p := by
  rw [← Nat.pow_mod, show x * x = x ^ 2 by rw [Nat.pow_succ, Nat.pow_one], ← Nat.pow_mul, Nat.pow_succ 2, Nat.mul_comm 2]
theorem sqN_iff (p : Nat) : ∀ (k x : Nat), sqN p k x = true ↔ ∃ j, 1 ≤ j ∧ j ≤ k ∧ x ^ 2 ^ j % p = p - 1
  | 0, x => by simp [sqN]; intro j h1 h2; omega
  | k + 1, x => by
    rw [sqN, strict_eq, Bool.or_eq_true, Nat.beq_eq, sqN_iff p k]
    constructor
    · rintro (h | ⟨j, h1, h2, h3⟩)
      · refine ⟨1, Nat.le_refl _, by omega, ?_⟩
        rw [show x ^ 2 ^ 1 = x * x by rw [Nat.pow_one, Nat.pow_succ, Nat.pow_one]]; exact h
      · exact ⟨j + 1, by omega, by omega, by rw [← pow_two_succ]; exact h3⟩
    · rintro ⟨j, h1, h2, h3⟩
      obtain ⟨i, rfl⟩ : ∃ i, j = i + 1 := ⟨j - 1, by omega⟩
      rcases Nat.eq_zero_or_pos i with rfl | hi
      · left
        rw [show x ^ 2 ^ (0 + 1) = x * x by rw [Nat.zero_add, Nat.pow_one, Nat.pow_succ, Nat.pow_one]] at h3; exact h3
      · exact .inr ⟨i, hi, by omega, by rw [pow_two_succ]; exact h3⟩
theorem neg_sq {p : Nat} (h : 2 ≤ p) : (p - 1) * (p - 1) % p = 1 := by
  obtain ⟨k, rfl⟩ : ∃ k, p = k + 2 := ⟨p - 2, by omega⟩
  rw [show (k + 2 - 1) * (k + 2 - 1) = 1 + (k + 2) * k by rw [show k + 2 - 1 = k + 1 by omega, Nat.add_mul, Nat.mul_add, Nat.add_mul]; omega, Nat.add_mul_mod_self_left, Nat.mod_eq_of_lt (by omega)]
theorem neg_one_pow {p x j t : Nat} (hp : 2 ≤ p) (h : x ^ 2 ^ j % p = p - 1) (hj : j < t) : x ^ 2 ^ t % p = 1 := by
  have h1 : x ^ 2 ^ (j + 1) % p = 1 := by
    rw [Nat.pow_succ 2, pow_mod_mul, h, show (p - 1) ^ 2 = (p - 1) * (p - 1) by rw [Nat.pow_succ, Nat.pow_one], neg_sq hp]
  exact pow_one_dvd (by omega) h1 (Nat.pow_dvd_pow 2 hj)
theorem pass_ft {p b : Nat} (hp : 3 ≤ p) (ho : p % 2 = 1) (h30 : p ≤ 1073741824) (hb : PrimeP b) (hpb : p % b ≠ 0) (h : passN p b = true) : b ^ (p - 1) % p = 1 := by
  have h1 := odF_spec 31 (p - 1) 0
  have h2 := odF_one 30 (p - 1) (by omega)
  rw [passN, strict_eq] at h
  generalize odF 31 (p - 1) 0 = r at *
  obtain ⟨o, t⟩ := r
  simp only [Nat.sub_zero] at *
  obtain ⟨h1, -⟩ := h1
  have hole : o ≤ p - 1 := by
    have := Nat.le_mul_of_pos_right o (show 0 < 2 ^ t from Nat.pow_pos (by decide))
    omega
  rw [fpow_eq p 40 1 _ o (by omega), Nat.one_mul, ← Nat.pow_mod] at h
  have key : (b ^ o % p) ^ 2 ^ t % p = 1 → b ^ (p - 1) % p = 1 := fun h => by rw [← h1, pow_mod_mul]; exact h
  have hx : (b ^ o % p) % p = b ^ o % p := Nat.mod_mod _ _
  simp only [Bool.or_eq_true, Nat.beq_eq, sqN_iff] at h
  rcases h with ((h | h) | h) | ⟨j, j1, j2, j3⟩
  · exact key (by rw [h, Nat.one_pow, Nat.mod_eq_of_lt (by omega)])
  · exfalso
    obtain ⟨q, hq, hd⟩ := prime_fac p p (Nat.le_refl _) (by omega)
    have h3 := hq.pow (Nat.dvd_trans hd (Nat.dvd_of_mod_eq_zero h))
    rcases hb.2 q h3 with e | e
    · have := hq.1; omega
    · subst e; exact hpb (Nat.mod_eq_zero_of_dvd hd)
  · exact key (neg_one_pow (j := 0) (by omega) (by rw [Nat.pow_zero, Nat.pow_one, hx]; exact h) (by omega))
  · exact key (neg_one_pow (by omega) j3 (by omega))
/-- roots of 1 modulo a prime -/
theorem root_one {p : Nat} (hp : PrimeP p) : ∀ (t y : Nat), y < p → y ^ 2 ^ t % p = 1 → y = 1 ∨ ∃ j, j < t ∧ y ^ 2 ^ j % p = p - 1
  | 0, y, hy, h => by rw [Nat.pow_zero, Nat.pow_one, Nat.mod_eq_of_lt hy] at h; exact .inl h
  | t + 1, y, hy, h => by
    have h2 := hp.1
    rw [← pow_two_succ] at h
    rcases root_one hp t (y * y % p) (Nat.mod_lt _ (by omega)) h with h | ⟨j, hj, h⟩
    · have hy0 : 1 ≤ y := by
        rcases Nat.eq_zero_or_pos y with rfl | h'
        · simp at h
        · exact h'
      have hd : p ∣ (y - 1) * (y + 1) := by
        have := dvd_sub_mod (p := p) (a := y * y) (b := 1) (by rw [h, Nat.mod_eq_of_lt (by omega)])
        rwa [show (y - 1) * (y + 1) = y * y - 1 by
          rw [Nat.sub_mul, Nat.one_mul, Nat.mul_add, Nat.mul_one]; omega]
      rcases hp.mul hd with hd | hd
      · rcases Nat.eq_zero_or_pos (y - 1) with h0 | h0
        · left; omega
        · have := Nat.le_of_dvd h0 hd; omega
      · have := Nat.le_of_dvd (by omega) hd
        right
        refine ⟨0, by omega, ?_⟩
        rw [Nat.pow_zero, Nat.pow_one, Nat.mod_eq_of_lt hy]; omega
    · exact .inr ⟨j + 1, by omega, by rw [← pow_two_succ]; exact h⟩
theorem roots_of {p b f : Nat} (hp : PrimeP p) (hb : ¬ p ∣ b) : let r := odF f (p - 1) 0; b ^ r.1 % p = 1 ∨ ∃ j, j < r.2 ∧ (b ^ r.1 % p) ^ 2 ^ j % p = p - 1 := by
  have h2 := hp.1
  have h1 := odF_spec f (p - 1) 0
  have hf := fermat hp hb
  intro r
  change r.1 * 2 ^ (r.2 - 0) = p - 1 ∧ 0 ≤ r.2 at h1
  obtain ⟨h1, -⟩ := h1
  rw [Nat.sub_zero] at h1
  rw [← h1, pow_mod_mul] at hf
  exact root_one hp r.2 _ (Nat.mod_lt _ (by omega)) hf
theorem prime_pass {p b : Nat} (hp : PrimeP p) (h30 : p ≤ 1073741824) (hb : ¬ p ∣ b) : passN p b = true := by
  have h2 := hp.1
  have h := roots_of (f := 31) hp hb
  have h1 := odF_spec 31 (p - 1) 0
  rw [passN, strict_eq]
  generalize odF 31 (p - 1) 0 = r at *
  obtain ⟨o, t⟩ := r
  simp only [Nat.sub_zero] at *
  obtain ⟨h1, -⟩ := h1
  have hole : o ≤ p - 1 := by
    have := Nat.le_mul_of_pos_right o (show 0 < 2 ^ t from Nat.pow_pos (by decide))
    omega
  rw [fpow_eq p 40 1 _ o (by omega), Nat.one_mul, ← Nat.pow_mod]
  simp only [Bool.or_eq_true, Nat.beq_eq, sqN_iff]
  rcases h with h | ⟨j, hj, h⟩
  · exact .inl (.inl (.inl h))
  · rcases Nat.eq_zero_or_pos j with rfl | h0
    · rw [Nat.pow_zero, Nat.pow_one, Nat.mod_mod] at h
      exact .inl (.inr h)
    · exact .inr ⟨j, h0, by omega, h⟩
/-- twice a prime and 1 (Pocklington) -/
theorem twice_prime {p : Nat} (hp : PrimeP p) (h3 : 3 ≤ p) (hn : (2 * p + 1) % 3 ≠ 0) (h : 2 ^ (2 * p) % (2 * p + 1) = 1) : PrimeP (2 * p + 1) := by
  refine primeP_small (by omega) fun d hd2 hdd hd => ?_
  obtain ⟨q, hq, hqd⟩ := prime_fac d d (Nat.le_refl _) hd2
  have hqm : q ∣ 2 * p + 1 := Nat.dvd_trans hqd hd
  have hq2 := hq.1
  have hle : q * q ≤ 2 * p + 1 := by
    have h1 := Nat.le_of_dvd (by omega) hqd
    exact Nat.le_trans (Nat.mul_le_mul h1 h1) hdd
  have ho : q ≠ 2 := by rintro rfl; obtain ⟨c, hc⟩ := hqm; omega
  have h1 : 2 ^ (2 * p) % q = 1 := by
    obtain ⟨c, hc⟩ := hqm
    have := Nat.mod_mul_right_mod (2 ^ (2 * p)) q c
    rw [← hc, h, Nat.mod_eq_of_lt (by omega)] at this
    exact this.symm
  have hf := fermat (a := 2) hq (fun hd => by have := Nat.le_of_dvd (by decide) hd; omega)
  have hg := pow_gcd (by omega) _ _ h1 hf
  by_cases hpg : p ∣ Nat.gcd (2 * p) (q - 1)
  · have := Nat.le_of_dvd (by omega) (Nat.dvd_trans hpg (Nat.gcd_dvd_right _ _))
    have := Nat.mul_le_mul (show p + 1 ≤ q by omega) (show 4 ≤ q by omega)
    omega
  · have hd2 : Nat.gcd (2 * p) (q - 1) ∣ 2 := (hp.cop hpg).symm.dvd_of_dvd_mul_right (Nat.gcd_dvd_left _ _)
    have h4 : 2 ^ 2 % q = 1 := pow_one_dvd (by omega) hg hd2
    have h5 := dvd_sub_mod (p := q) (a := 2 ^ 2) (b := 1) (by rw [h4, Nat.mod_eq_of_lt (by omega)])
    have h6 : q ∣ 3 := h5
    have := Nat.le_of_dvd (by decide) h6
    obtain rfl : q = 3 := by omega
    exact hn (Nat.mod_eq_zero_of_dvd hqm)
end Go.Proofs.YtnahkfchcminpaaGreatDoor.MR
/- Safe primes: the program's tests are right, for every number: plain. -/
namespace Go.Proofs.YtnahkfchcminpaaGreatDoor
open Go.RowKit
theorem passF_nat (p b : Nat) (hp : 3 ≤ p) (h30 : p ≤ 1073741824) : passF (p : Int) (b : Int) = MR.passN p b := by
  have h1 := (MR.odF_spec 31 (p - 1) 0).1
  have e1 : ((p : Int) - 1).toNat = p - 1 := by omega
  rw [passF, MR.passN, MR.strict_eq, e1]
  generalize odF 31 (p - 1) 0 = r at *
  obtain ⟨o, t⟩ := r
  simp only [Nat.sub_zero] at *
  have hole : o ≤ p - 1 := by
    have := Nat.le_mul_of_pos_right o (show 0 < 2 ^ t from Nat.pow_pos (by decide))
    omega
  have e2 : powF (p : Int) ((b : Int) % (p : Int)) o = ((b ^ o % p : Nat) : Int) := by
    rw [powF, show ((b : Int) % (p : Int)) = ((b % p : Nat) : Int) by simp, show (1 : Int) % (p : Int) = ((1 : Nat) : Int) from Int.emod_eq_of_lt (by decide) (by omega), pwF_eq p 64 1 (b % p) o (by omega) (by omega), Nat.one_mul, ← Nat.pow_mod]
  have e3 : MR.sqN p (t - 1) (b ^ o % p) = sqF (p : Int) (t - 1) ((b ^ o % p : Nat) : Int) := by
    generalize b ^ o % p = x
    generalize t - 1 = k
    induction k generalizing x with
    | zero => rfl
    | succ k ih =>
      rw [MR.sqN, sqF, MR.strict_eq]
      have hi : ((x : Int) * (x : Int) % (p : Int)) = ((x * x % p : Nat) : Int) := by simp
      rw [hi, ih]
      generalize x * x % p = y
      by_cases h : y = p - 1
      · rw [if_pos (by omega), h, Nat.beq_refl]; rfl
      · rw [if_neg (by omega), MR.beqF.2 h]; rfl
  rw [fpow_eq p 40 1 _ o (by omega), Nat.one_mul, ← Nat.pow_mod, e2, e3]
  have b1 : ∀ (x c : Nat), ((x : Int) == (c : Int)) = x.beq c := fun x c => by
    cases h : x.beq c with
    | true => rw [Nat.beq_eq] at h; rw [h]; simp
    | false => rw [MR.beqF] at h; rw [beq_eq_false_iff_ne]; omega
  have e4 := b1 (b ^ o % p) 1
  have e5 := b1 (b ^ o % p) 0
  have e6 := b1 (b ^ o % p) (p - 1)
  rw [show ((p - 1 : Nat) : Int) = (p : Int) - 1 by omega] at e6
  rw [← e4, ← e5, ← e6]; rfl
theorem vlF_all {p : Nat} (hp : 11 ≤ p) (h30 : p ≤ 1073741824) (h : vlF (p : Int) basesL = true) : ∀ b : Nat, b = 2 ∨ b = 3 ∨ b = 5 ∨ b = 7 → p % b ≠ 0 ∧ MR.passN p b = true := by
  have k : ∀ (b : Nat) (bs : List Int), b < 11 → vlF (p : Int) ((b : Int) :: bs) = true → (p % b ≠ 0 ∧ MR.passN p b = true) ∧ vlF (p : Int) bs = true := fun b bs hb h => by
    rw [vlF, if_neg (by omega)] at h
    split at h
    · cases h
    · rename_i hc
      simp only [Bool.or_eq_true, decide_eq_true_eq, Bool.not_eq_true', not_or, Bool.not_eq_false] at hc
      rw [passF_nat p b (by omega) h30] at hc
      exact ⟨⟨by have := hc.1; omega, hc.2⟩, h⟩
  have h2 := k 2 [3, 5, 7] (by omega) h
  have h3 := k 3 [5, 7] (by omega) h2.2
  have h5 := k 5 [7] (by omega) h3.2
  have h7 := k 7 [] (by omega) h5.2
  rintro b (rfl | rfl | rfl | rfl)
  · exact h2.1
  · exact h3.1
  · exact h5.1
  · exact h7.1
theorem sqH_iff (m : Nat) : ∀ (k x : Nat), x < m → (sqH m k x = true ↔ ∃ j, j ≤ k ∧ x ^ 2 ^ j % m = m - 1)
  | 0, x, hx => by
    rw [sqH, beq_iff_eq]
    constructor
    · intro h; exact ⟨0, Nat.le_refl _, by rw [Nat.pow_zero, Nat.pow_one, Nat.mod_eq_of_lt hx]; exact h⟩
    · rintro ⟨j, hj, h⟩
      obtain rfl : j = 0 := by omega
      rw [Nat.pow_zero, Nat.pow_one, Nat.mod_eq_of_lt hx] at h; exact h
  | k + 1, x, hx => by
    rw [sqH]
    by_cases h0 : x = m - 1
    · rw [if_pos h0]
      exact ⟨fun _ => ⟨0, by omega, by rw [Nat.pow_zero, Nat.pow_one, Nat.mod_eq_of_lt hx]; exact h0⟩, fun _ => rfl⟩
    · rw [if_neg h0, sqH_iff m k _ (Nat.mod_lt _ (by omega))]
      constructor
      · rintro ⟨j, h1, h2⟩
        exact ⟨j + 1, by omega, by rw [← MR.pow_two_succ]; exact h2⟩
      · rintro ⟨j, h1, h2⟩
        rcases Nat.eq_zero_or_pos j with rfl | hj
        · rw [Nat.pow_zero, Nat.pow_one, Nat.mod_eq_of_lt hx] at h2; exact absurd h2 h0
        · obtain ⟨i, rfl⟩ : ∃ i, j = i + 1 := ⟨j - 1, by omega⟩
          exact ⟨i, by omega, by rw [MR.pow_two_succ]; exact h2⟩
theorem prime_passH {m b : Nat} (hm : MR.PrimeP m) (h7 : 7 ≤ m) (hmo : m % 2 = 1) (hb : ¬ m ∣ b) : passH m b = true := by
  have h := MR.roots_of (f := 32) hm hb
  have h1 := MR.odF_one 31 (m - 1) (by omega)
  rw [passH]
  generalize odF 32 (m - 1) 0 = r at *
  obtain ⟨o, t⟩ := r
  simp only at *
  rw [← Nat.pow_mod, Bool.or_eq_true, beq_iff_eq, sqH_iff m _ _ (Nat.mod_lt _ (by omega))]
  rcases h with h | ⟨j, hj, h⟩
  · exact .inl h
  · exact .inr ⟨j, by omega, h⟩
theorem passH_ft {m b : Nat} (hm : 7 ≤ m) (ho : m % 2 = 1) (h : passH m b = true) : b ^ (m - 1) % m = 1 := by
  have h1 := MR.odF_spec 32 (m - 1) 0
  have h2 := MR.odF_one 31 (m - 1) (by omega)
  rw [passH] at h
  generalize odF 32 (m - 1) 0 = r at *
  obtain ⟨o, t⟩ := r
  simp only [Nat.sub_zero] at *
  obtain ⟨h1, -⟩ := h1
  rw [← Nat.pow_mod, Bool.or_eq_true, beq_iff_eq, sqH_iff m _ _ (Nat.mod_lt _ (by omega))] at h
  have key : (b ^ o % m) ^ 2 ^ t % m = 1 → b ^ (m - 1) % m = 1 := fun h => by rw [← h1, MR.pow_mod_mul]; exact h
  rcases h with h | ⟨j, hj, h⟩
  · exact key (by rw [h, Nat.one_pow, Nat.mod_eq_of_lt (by omega)])
  · exact key (MR.neg_one_pow (by omega) h (by omega))
theorem primeH_all {m : Nat} (hm : 11 ≤ m) (h : primeH m basesN = true) : m % 3 ≠ 0 ∧ m % 5 ≠ 0 ∧ m % 7 ≠ 0 ∧ passH m 2 = true := by
  have hne : ∀ b : Nat, b < 11 → (m == b) = false := fun b hb => by rw [beq_eq_false_iff_ne]; omega
  simp only [basesN, primeH, hne 2 (by omega), hne 3 (by omega), hne 5 (by omega), hne 7 (by omega), Bool.false_or, Bool.and_eq_true, bne_iff_ne] at h
  exact ⟨h.2.1.1, h.2.2.1.1, h.2.2.2.1.1, h.1.2⟩
theorem noDiv_prime {p : Nat} (hp : MR.PrimeP p) : NoDiv (p : Int) := by
  intro d hd hle hz
  obtain ⟨e, rfl⟩ : ∃ e : Nat, d = (e : Int) := ⟨d.toNat, by omega⟩
  have hdv : e ∣ p := Nat.dvd_of_mod_eq_zero (by omega)
  have hp2 := hp.1
  rcases hp.2 e hdv with h | h
  · omega
  · subst h
    rw [← Int.natCast_mul] at hle
    have := Nat.mul_le_mul_right e hp2
    omega
theorem safe_small : safeP 3 = true ∧ safeP 5 = true ∧ safeP 7 = false ∧ safeP 9 = false := by decide +kernel
theorem rsafe_small : rsafe 3 = true ∧ rsafe 5 = true ∧ rsafe 7 = false ∧ rsafe 9 = false := by
  have n : ∀ p : Nat, MR.PrimeP p → NoDiv (p : Int) := fun p => noDiv_prime
  have s : ∀ l ∈ MR.primes127, MR.PrimeP l := MR.primes127_all
  refine ⟨?_, ?_, ?_, ?_⟩
  · rw [rsafe_iff, rvalid_iff]; exact ⟨by decide, ⟨by decide, by decide, n 3 (s 3 (by decide))⟩, n 7 (s 7 (by decide))⟩
  · rw [rsafe_iff, rvalid_iff]; exact ⟨by decide, ⟨by decide, by decide, n 5 (s 5 (by decide))⟩, n 11 (s 11 (by decide))⟩
  · rw [Bool.eq_false_iff, ne_eq, rsafe_iff]; rintro ⟨-, -, h⟩; exact h 3 (by decide) (by decide) (by decide)
  · rw [Bool.eq_false_iff, ne_eq, rsafe_iff, rvalid_iff]; rintro ⟨-, ⟨-, -, h⟩, -⟩; exact h 3 (by decide) (by decide) (by decide)
/-- THE TESTS ARE RIGHT -/
theorem safe_eq (p : Int) : safeP p = rsafe p := by
  by_cases hb : 3 ≤ p ∧ p ≤ 1073741824 ∧ p % 2 = 1
  rotate_left
  · have h1 : safeP p = false := by
      rw [Bool.eq_false_iff]; intro h; exact hb (safeP_bd h)
    have h2 : rsafe p = false := by
      rw [Bool.eq_false_iff, ne_eq, rsafe_iff, rvalid_iff]
      rintro ⟨h3, ⟨-, h30, hd⟩, -⟩
      refine hb ⟨h3, h30, ?_⟩
      rcases Int.emod_two_eq p with h | h
      · exact absurd h (hd 2 (by omega) (by omega))
      · exact h
    rw [h1, h2]
  obtain ⟨h3, h30, ho⟩ := hb
  obtain ⟨P, rfl⟩ : ∃ P : Nat, p = (P : Int) := ⟨p.toNat, by omega⟩
  obtain ⟨s3, s5, s7, s9⟩ := safe_small
  obtain ⟨r3, r5, r7, r9⟩ := rsafe_small
  rcases Nat.lt_or_ge P 11 with hs | hs
  · have : P = 3 ∨ P = 5 ∨ P = 7 ∨ P = 9 := by omega
    rcases this with rfl | rfl | rfl | rfl
    · exact s3.trans r3.symm
    · exact s5.trans r5.symm
    · exact s7.trans r7.symm
    · exact s9.trans r9.symm
  have em : (2 * (P : Int) + 1).toNat = 2 * P + 1 := by omega
  have er : 2 * (P : Int) + 1 = ((2 * P + 1 : Nat) : Int) := by omega
  rw [Bool.eq_iff_iff]
  constructor
  · intro h
    have h' := h
    simp only [safeP, validP, em, Bool.and_eq_true, decide_eq_true_eq] at h'
    obtain ⟨-, ⟨-, -, hv⟩, hm⟩ := h'
    have ha := vlF_all hs (by omega) hv
    obtain ⟨m3, m5, m7, mp⟩ := primeH_all (by omega) hm
    have pr : ∀ b : Nat, b = 2 ∨ b = 3 ∨ b = 5 ∨ b = 7 → b ^ (P - 1) % P = 1 := fun b hb =>
      MR.pass_ft (by omega) (by omega) (by omega) (MR.primes127_all b (by rcases hb with rfl | rfl | rfl | rfl <;> decide)) (ha b hb).1 (ha b hb).2
    have hP : MR.PrimeP P := MR.mh_prime ⟨by omega, by omega, (ha 3 (by simp)).1, (ha 5 (by simp)).1, (ha 7 (by simp)).1, by omega, by omega, by omega, pr 2 (by simp), pr 3 (by simp), pr 5 (by simp), pr 7 (by simp), by
      rw [MR.strongN, (ha 2 (by simp)).2, (ha 3 (by simp)).2, (ha 5 (by simp)).2, (ha 7 (by simp)).2]; rfl⟩ (by omega)
    have hM := MR.twice_prime hP (by omega) m3 (by have := passH_ft (by omega) (by omega) mp; rwa [show 2 * P + 1 - 1 = 2 * P by omega] at this)
    rw [rsafe_iff, rvalid_iff, er]
    exact ⟨h3, ⟨by omega, h30, noDiv_prime hP⟩, noDiv_prime hM⟩
  · intro h
    rw [rsafe_iff, rvalid_iff, er] at h
    obtain ⟨-, ⟨-, -, hd⟩, hd2⟩ := h
    have hP : MR.PrimeP P := primeP_of (by omega) hd
    have hM : MR.PrimeP (2 * P + 1) := primeP_of (by omega) hd2
    have nd : ∀ {q b : Nat}, 11 ≤ q → 0 < b → b < 11 → ¬ q ∣ b := fun h1 h2 h3 hd => by have := Nat.le_of_dvd h2 hd; omega
    have hv : vlF (P : Int) basesL = true := by
      have k : ∀ (b : Nat) (bs : List Int), 2 ≤ b → b < 11 → vlF (P : Int) bs = true → vlF (P : Int) ((b : Int) :: bs) = true := fun b bs h2 hb h => by
        rw [vlF, if_neg (by omega), if_neg, h]
        rw [passF_nat P b (by omega) (by omega), MR.prime_pass hP (by omega) (nd hs (by omega) hb)]
        have := MR.small_no hP h2 (by omega)
        simp; omega
      exact k 2 _ (by decide) (by decide) (k 3 _ (by decide) (by decide) (k 5 _ (by decide) (by decide) (k 7 _ (by decide) (by decide) rfl)))
    have hm : primeH (2 * P + 1) basesN = true := by
      have k : ∀ (b : Nat) (bs : List Nat), 2 ≤ b → b < 11 → primeH (2 * P + 1) bs = true → primeH (2 * P + 1) (b :: bs) = true := fun b bs h2 hb h => by
        rw [primeH, h, prime_passH hM (by omega) (by omega) (nd (by omega) (by omega) hb)]
        have := MR.small_no hM h2 (by omega)
        simp; omega
      exact k 2 _ (by decide) (by decide) (k 3 _ (by decide) (by decide) (k 5 _ (by decide) (by decide) (k 7 _ (by decide) (by decide) rfl)))
    simp only [safeP, validP, em, Bool.and_eq_true, decide_eq_true_eq]
    exact ⟨h3, ⟨h30, ho, hv⟩, hm⟩
end Go.Proofs.YtnahkfchcminpaaGreatDoor
