/- The reckoning of the prime factors between 100 and 32768, by the kernel (part 0). No program in sight. -/
import Derived.Test.YtnahkfchcminpaaGreatDoorGMilB
import Derived.Test.YtnahkfchcminpaaGreatDoorGMilE
namespace Go.Proofs.YtnahkfchcminpaaGreatDoor.MR
set_option maxRecDepth 100000
theorem chk2_50 : chk2s 5 50 = true := by decide +kernel
theorem chk2_82 : chk2s 6 82 = true := by decide +kernel
theorem chk2_146 : chk2s 7 146 = true := by decide +kernel
end Go.Proofs.YtnahkfchcminpaaGreatDoor.MR
/- The reckoning of the prime factors between 100 and 32768, by the kernel (part 1). No program in sight. -/
namespace Go.Proofs.YtnahkfchcminpaaGreatDoor.MR
set_option maxRecDepth 100000
theorem chk2_274 : chk2s 8 274 = true := by decide +kernel
theorem chk2_530 : chk2s 9 530 = true := by decide +kernel
theorem chk2_1042 : chk2s 10 1042 = true := by decide +kernel
theorem chk2_2066 : chk2s 11 2066 = true := by decide +kernel
end Go.Proofs.YtnahkfchcminpaaGreatDoor.MR
/- The reckoning of the prime factors between 100 and 32768, by the kernel (part 2). No program in sight. -/
namespace Go.Proofs.YtnahkfchcminpaaGreatDoor.MR
set_option maxRecDepth 100000
theorem chk2_4114 : chk2s 12 4114 = true := by decide +kernel
end Go.Proofs.YtnahkfchcminpaaGreatDoor.MR
/- The reckoning of the prime factors between 100 and 32768, by the kernel (part 3). No program in sight. -/
namespace Go.Proofs.YtnahkfchcminpaaGreatDoor.MR
set_option maxRecDepth 100000
theorem chk2_8210 : chk2s 13 8210 = true := by decide +kernel
end Go.Proofs.YtnahkfchcminpaaGreatDoor.MR
/- The numbers that the tests of Miller and Rabin with 2, 3, 5 and 7 take are prime, up to 2 to the power of 30: plain. No program in sight. -/
namespace Go.Proofs.YtnahkfchcminpaaGreatDoor.MR
theorem mid_no {q m : Nat} (hq : PrimeP q) (h1 : 100 < q) (h2 : q < 32768) (hm : 2 ≤ m) (h : MH (q * m)) : False := by
  have ho : q % 2 = 1 := by
    have := small_no hq (show 2 ≤ 2 by decide) (by omega); omega
  refine chk2_no hq h1 hm h ?_
  rcases Nat.lt_or_ge q 164 with h3 | h3
  · exact chk2s_at chk2_50 (by omega) (by omega) ho h2
  rcases Nat.lt_or_ge q 292 with h3 | h3
  · exact chk2s_at chk2_82 (by omega) (by omega) ho h2
  rcases Nat.lt_or_ge q 548 with h3 | h3
  · exact chk2s_at chk2_146 (by omega) (by omega) ho h2
  rcases Nat.lt_or_ge q 1060 with h3 | h3
  · exact chk2s_at chk2_274 (by omega) (by omega) ho h2
  rcases Nat.lt_or_ge q 2084 with h3 | h3
  · exact chk2s_at chk2_530 (by omega) (by omega) ho h2
  rcases Nat.lt_or_ge q 4132 with h3 | h3
  · exact chk2s_at chk2_1042 (by omega) (by omega) ho h2
  rcases Nat.lt_or_ge q 8228 with h3 | h3
  · exact chk2s_at chk2_2066 (by omega) (by omega) ho h2
  rcases Nat.lt_or_ge q 16420 with h3 | h3
  · exact chk2s_at chk2_4114 (by omega) (by omega) ho h2
  · exact chk2s_at chk2_8210 (by omega) (by omega) ho h2
theorem mh_prime {p : Nat} (h : MH p) (h2 : 2 ≤ p) : PrimeP p := by
  by_cases hx : ∃ q, PrimeP q ∧ q ∣ p ∧ 100 ≤ q
  · obtain ⟨q, hq, ⟨m, rfl⟩, h100⟩ := hx
    have hne : q ≠ 100 := fun e => absurd (by rw [e]) (small_no hq (d := 2) (by decide) (by omega))
    have hne2 : q ≠ 32768 := fun e => absurd (by rw [e]) (small_no hq (d := 2) (by decide) (by omega))
    rcases Nat.lt_or_ge m 2 with hm | hm
    · have : m ≠ 0 := by rintro rfl; simp at h2
      obtain rfl : m = 1 := by omega
      rw [Nat.mul_one]; exact hq
    · exfalso
      rcases Nat.lt_or_ge q 32768 with h3 | h3
      · exact mid_no hq (by omega) h3 hm h
      · exact big_no hq (by omega) hm h
  · refine smalls_prime p (smooth_no h h2 fun q hq hd => ?_)
    rcases Nat.lt_or_ge q 100 with h3 | h3
    · exact h3
    · exact absurd ⟨q, hq, hd, h3⟩ hx
/-! ### Prime numbers pass, and what passes has powers that are 1 -/
theorem fpow_eq (m : Nat) : ∀ f o y k, k < 2 ^ f → fpow m f o y k = o * y ^ k % m
  | 0, o, y, k, h => by
    have : k = 0 := by simpa using h
    subst this; simp [fpow]
  | f + 1, o, y, k, h => by
    have podd : k % 2 = 1 → (o * y % m) * (y * y % m) ^ (k / 2) % m = o * y ^ k % m := fun h => by
      have e : y ^ k = y * (y * y) ^ (k / 2) := by
        conv => lhs; rw [show k = 2 * (k / 2) + 1 by omega]
        rw [Nat.pow_succ, Nat.pow_mul, show y ^ 2 = y * y by rw [Nat.pow_succ, Nat.pow_one], Nat.mul_comm]
      rw [Nat.mul_mod, Nat.mod_mod, ← Nat.pow_mod, ← Nat.mul_mod, e, Nat.mul_assoc]
    have peven : k % 2 = 0 → o * (y * y % m) ^ (k / 2) % m = o * y ^ k % m := fun h => by
      have e : y ^ k = (y * y) ^ (k / 2) := by
        conv => lhs; rw [show k = 2 * (k / 2) by omega]
        rw [Nat.pow_mul, show y ^ 2 = y * y by rw [Nat.pow_succ, Nat.pow_one]]
      rw [Nat.mul_mod, ← Nat.pow_mod, ← Nat.mul_mod, e]
    rw [fpow]
    split
    · rename_i h0; subst h0; simp
    · have h2 : k / 2 < 2 ^ f := by rw [Nat.pow_succ] at h; omega
      split
      · rename_i ho; rw [fpow_eq m f _ _ _ h2, podd ho]
      · rw [fpow_eq m f _ _ _ h2, peven (by omega)]
theorem odF_spec : ∀ (f n t : Nat), (odF f n t).1 * 2 ^ ((odF f n t).2 - t) = n ∧ t ≤ (odF f n t).2
  | 0, n, t => by simp [odF]
  | f + 1, n, t => by
    rw [odF]
    split
    · have h := odF_spec f (n / 2) (t + 1)
      generalize odF f (n / 2) (t + 1) = r at *
      obtain ⟨h1, h2⟩ := h
      refine ⟨?_, by omega⟩
      rw [show r.2 - t = (r.2 - (t + 1)) + 1 by omega, Nat.pow_succ, ← Nat.mul_assoc, h1]
      omega
    · simp
theorem odF_one (f n : Nat) (h : n % 2 = 0) : 1 ≤ (odF (f + 1) n 0).2 := by
  rw [odF, if_pos h]
  exact (odF_spec f (n / 2) (0 + 1)).2
theorem pow_two_succ (x p j : Nat) : (x * x % p) ^ 2 ^ j % p = x ^ 2 ^ (j + 1) % p := by
  rw [← Nat.pow_mod, show x * x = x ^ 2 by rw [Nat.pow_succ, Nat.pow_one], ← Nat.pow_mul, Nat.pow_succ 2, Nat.mul_comm 2]
theorem sqN_iff (p : Nat) : ∀ (k x : Nat), sqN p k x = true ↔ ∃ j, 1 ≤ j ∧ j ≤ k ∧ x ^ 2 ^ j % p = p - 1
  | 0, x => by simp [sqN]; intro j h1 h2; omega
  | k + 1, x => by
    rw [sqN, strict_eq, Bool.or_eq_true, Nat.beq_eq, sqN_iff p k]
    constructor
    · rintro (h | ⟨j, h1, h2, h3⟩)
      · refine ⟨1, Nat.le_refl _, by omega, ?_⟩
        rw [show x ^ 2 ^ 1 = x * x by rw [Nat.pow_one, Nat.pow_succ, Nat.pow_one]]; exact h
      · exact ⟨j + 1, by omega, by omega, by rw [← pow_two_succ]; exact h3⟩
    · rintro ⟨j, h1, h2, h3⟩
      obtain ⟨i, rfl⟩ : ∃ i, j = i + 1 := ⟨j - 1, by omega⟩
      rcases Nat.eq_zero_or_pos i with rfl | hi
      · left
        rw [show x ^ 2 ^ (0 + 1) = x * x by rw [Nat.zero_add, Nat.pow_one, Nat.pow_succ, Nat.pow_one]] at h3; exact h3
      · exact .inr ⟨i, hi, by omega, by rw [pow_two_succ]; exact h3⟩
theorem neg_sq {p : Nat} (h : 2 ≤ p) : (p - 1) * (p - 1) % p = 1 := by
  obtain ⟨k, rfl⟩ : ∃ k, p = k + 2 := ⟨p - 2, by omega⟩
  rw [show (k + 2 - 1) * (k + 2 - 1) = 1 + (k + 2) * k by rw [show k + 2 - 1 = k + 1 by omega, Nat.add_mul, Nat.mul_add, Nat.add_mul]; omega, Nat.add_mul_mod_self_left, Nat.mod_eq_of_lt (by omega)]
theorem neg_one_pow {p x j t : Nat} (hp : 2 ≤ p) (h : x ^ 2 ^ j % p = p - 1) (hj : j < t) : x ^ 2 ^ t % p = 1 := by
  have h1 : x ^ 2 ^ (j + 1) % p = 1 := by
    rw [Nat.pow_succ 2, pow_mod_mul, h, show (p - 1) ^ 2 = (p - 1) * (p - 1) by rw [Nat.pow_succ, Nat.pow_one], neg_sq hp]
  exact pow_one_dvd (by omega) h1 (Nat.pow_dvd_pow 2 hj)
theorem pass_ft {p b : Nat} (hp : 3 ≤ p) (ho : p % 2 = 1) (h30 : p ≤ 1073741824) (hb : PrimeP b) (hpb : p % b ≠ 0) (h : passN p b = true) : b ^ (p - 1) % p = 1 := by
  have h1 := odF_spec 31 (p - 1) 0
  have h2 := odF_one 30 (p - 1) (by omega)
  rw [passN, strict_eq] at h
  generalize odF 31 (p - 1) 0 = r at *
  obtain ⟨o, t⟩ := r
  simp only [Nat.sub_zero] at *
  obtain ⟨h1, -⟩ := h1
  have hole : o ≤ p - 1 := by
    have := Nat.le_mul_of_pos_right o (show 0 < 2 ^ t from Nat.pow_pos (by decide))
    omega
  rw [fpow_eq p 40 1 _ o (by omega), Nat.one_mul, ← Nat.pow_mod] at h
  have key : (b ^ o % p) ^ 2 ^ t % p = 1 → b ^ (p - 1) % p = 1 := fun h => by rw [← h1, pow_mod_mul]; exact h
  have hx : (b ^ o % p) % p = b ^ o % p := Nat.mod_mod _ _
  simp only [Bool.or_eq_true, Nat.beq_eq, sqN_iff] at h
  rcases h with ((h | h) | h) | ⟨j, j1, j2, j3⟩
  · exact key (by rw [h, Nat.one_pow, Nat.mod_eq_of_lt (by omega)])
  · exfalso
    obtain ⟨q, hq, hd⟩ := prime_fac p p (Nat.le_refl _) (by omega)
    have h3 := hq.pow (Nat.dvd_trans hd (Nat.dvd_of_mod_eq_zero h))
    rcases hb.2 q h3 with e | e
    · have := hq.1; omega
    · subst e; exact hpb (Nat.mod_eq_zero_of_dvd hd)
  · exact key (neg_one_pow (j := 0) (by omega) (by rw [Nat.pow_zero, Nat.pow_one, hx]; exact h) (by omega))
  · exact key (neg_one_pow (by omega) j3 (by omega))
/-- roots of 1 modulo a prime -/
theorem root_one {p : Nat} (hp : PrimeP p) : ∀ (t y : Nat), y < p → y ^ 2 ^ t % p = 1 → y = 1 ∨ ∃ j, j < t ∧ y ^ 2 ^ j % p = p - 1
  | 0, y, hy, h => by rw [Nat.pow_zero, Nat.pow_one, Nat.mod_eq_of_lt hy] at h; exact .inl h
  | t + 1, y, hy, h => by
    have h2 := hp.1
    rw [← pow_two_succ] at h
    rcases root_one hp t (y * y % p) (Nat.mod_lt _ (by omega)) h with h | ⟨j, hj, h⟩
    · have hy0 : 1 ≤ y := by
        rcases Nat.eq_zero_or_pos y with rfl | h'
        · simp at h
        · exact h'
      have hd : p ∣ (y - 1) * (y + 1) := by
        have := dvd_sub_mod (p := p) (a := y * y) (b := 1) (by rw [h, Nat.mod_eq_of_lt (by omega)])
        rwa [show (y - 1) * (y + 1) = y * y - 1 by
          rw [Nat.sub_mul, Nat.one_mul, Nat.mul_add, Nat.mul_one]; omega]
      rcases hp.mul hd with hd | hd
      · rcases Nat.eq_zero_or_pos (y - 1) with h0 | h0
        · left; omega
        · have := Nat.le_of_dvd h0 hd; omega
      · have := Nat.le_of_dvd (by omega) hd
        right
        refine ⟨0, by omega, ?_⟩
        rw [Nat.pow_zero, Nat.pow_one, Nat.mod_eq_of_lt hy]; omega
    · exact .inr ⟨j + 1, by omega, by rw [← pow_two_succ]; exact h⟩
theorem roots_of {p b f : Nat} (hp : PrimeP p) (hb : ¬ p ∣ b) : let r := odF f (p - 1) 0; b ^ r.1 % p = 1 ∨ ∃ j, j < r.2 ∧ (b ^ r.1 % p) ^ 2 ^ j % p = p - 1 := by
  have h2 := hp.1
  have h1 := odF_spec f (p - 1) 0
  have hf := fermat hp hb
  intro r
  change r.1 * 2 ^ (r.2 - 0) = p - 1 ∧ 0 ≤ r.2 at h1
  obtain ⟨h1, -⟩ := h1
  rw [Nat.sub_zero] at h1
  rw [← h1, pow_mod_mul] at hf
  exact root_one hp r.2 _ (Nat.mod_lt _ (by omega)) hf
theorem prime_pass {p b : Nat} (hp : PrimeP p) (h30 : p ≤ 1073741824) (hb : ¬ p ∣ b) : passN p b = true := by
  have h2 := hp.1
  have h := roots_of (f := 31) hp hb
  have h1 := odF_spec 31 (p - 1) 0
  rw [passN, strict_eq]
  generalize odF 31 (p - 1) 0 = r at *
  obtain ⟨o, t⟩ := r
  simp only [Nat.sub_zero] at *
  obtain ⟨h1, -⟩ := h1
  have hole : o ≤ p - 1 := by
    have := Nat.le_mul_of_pos_right o (show 0 < 2 ^ t from Nat.pow_pos (by decide))
    omega
  rw [fpow_eq p 40 1 _ o (by omega), Nat.one_mul, ← Nat.pow_mod]
  simp only [Bool.or_eq_true, Nat.beq_eq, sqN_iff]
  rcases h with h | ⟨j, hj, h⟩
  · exact .inl (.inl (.inl h))
  · rcases Nat.eq_zero_or_pos j with rfl | h0
    · rw [Nat.pow_zero, Nat.pow_one, Nat.mod_mod] at h
      exact .inl (.inr h)
    · exact .inr ⟨j, h0, by omega, h⟩
/-- twice a prime and 1 (Pocklington) -/
theorem twice_prime {p : Nat} (hp : PrimeP p) (h3 : 3 ≤ p) (hn : (2 * p + 1) % 3 ≠ 0) (h : 2 ^ (2 * p) % (2 * p + 1) = 1) : PrimeP (2 * p + 1) := by
  refine primeP_small (by omega) fun d hd2 hdd hd => ?_
  obtain ⟨q, hq, hqd⟩ := prime_fac d d (Nat.le_refl _) hd2
  have hqm : q ∣ 2 * p + 1 := Nat.dvd_trans hqd hd
  have hq2 := hq.1
  have hle : q * q ≤ 2 * p + 1 := by
    have h1 := Nat.le_of_dvd (by omega) hqd
    exact Nat.le_trans (Nat.mul_le_mul h1 h1) hdd
  have ho : q ≠ 2 := by rintro rfl; obtain ⟨c, hc⟩ := hqm; omega
  have h1 : 2 ^ (2 * p) % q = 1 := by
    obtain ⟨c, hc⟩ := hqm
    have := Nat.mod_mul_right_mod (2 ^ (2 * p)) q c
    rw [← hc, h, Nat.mod_eq_of_lt (by omega)] at this
    exact this.symm
  have hf := fermat (a := 2) hq (fun hd => by have := Nat.le_of_dvd (by decide) hd; omega)
  have hg := pow_gcd (by omega) _ _ h1 hf
  by_cases hpg : p ∣ Nat.gcd (2 * p) (q - 1)
  · have := Nat.le_of_dvd (by omega) (Nat.dvd_trans hpg (Nat.gcd_dvd_right _ _))
    have := Nat.mul_le_mul (show p + 1 ≤ q by omega) (show 4 ≤ q by omega)
    omega
  · have hd2 : Nat.gcd (2 * p) (q - 1) ∣ 2 := (hp.cop hpg).symm.dvd_of_dvd_mul_right (Nat.gcd_dvd_left _ _)
    have h4 : 2 ^ 2 % q = 1 := pow_one_dvd (by omega) hg hd2
    have h5 := dvd_sub_mod (p := q) (a := 2 ^ 2) (b := 1) (by rw [h4, Nat.mod_eq_of_lt (by omega)])
    have h6 : q ∣ 3 := h5
    have := Nat.le_of_dvd (by decide) h6
    obtain rfl : q = 3 := by omega
    exact hn (Nat.mod_eq_zero_of_dvd hqm)
end Go.Proofs.YtnahkfchcminpaaGreatDoor.MR
