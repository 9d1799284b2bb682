/- The numbers that the program's test could take for primes: which have to be looked at, and the reckoning: plain. No program in sight. -/
import Derived.Test.YtnahkfchcminpaaGreatDoorGModP
namespace Go.Proofs.YtnahkfchcminpaaGreatDoor.MR
theorem beqF {a b : Nat} : (a.beq b = false) ↔ a ≠ b := by
  constructor
  · intro h e
    subst e
    rw [Nat.beq_refl] at h
    cases h
  · intro h
    cases e : a.beq b with
    | false => rfl
    | true => exact absurd (Nat.eq_of_beq_eq_true e) h
theorem le_pow30 : 1073741824 = 2 ^ 30 := by decide
def strict {α : Type} (n : Nat) (f : Nat → α) : α := match n with
  | 0 => f 0
  | k + 1 => f (k + 1)
theorem strict_eq {α : Type} (n : Nat) (f : Nat → α) : strict n f = f n := by cases n <;> rfl
/-! ### Powers and strong tests that the kernel can reckon -/
def pw2 (p : Nat) : Nat := strict (p - 1) fun e => ((2 ^ (e / 1048576) % p) ^ 1024 * 2 ^ (e / 1024 % 1024) % p) ^ 1024 * 2 ^ (e % 1024) % p
set_option exponentiation.threshold 2000 in
theorem pw2_eq (p : Nat) : pw2 p = 2 ^ (p - 1) % p := by
  rw [pw2, strict_eq]
  generalize p - 1 = e
  have h : e = (e / 1048576 * 1024 + e / 1024 % 1024) * 1024 + e % 1024 := by omega
  conv => rhs; rw [h]
  rw [Nat.pow_add, Nat.pow_mul, Nat.pow_add, Nat.pow_mul]
  conv => rhs; rw [Nat.mul_mod, Nat.pow_mod]
  conv => lhs; rw [Nat.mul_mod, Nat.pow_mod]
  congr 4
  rw [Nat.mod_mod, Nat.mul_mod, ← Nat.pow_mod, ← Nat.mul_mod]
/-- some of the squares that follow is -1 -/
def sqN (p : Nat) : Nat → Nat → Bool
  | 0, _ => false
  | k + 1, x => strict (x * x % p) fun y => y.beq (p - 1) || sqN p k y
/-- the test of Miller and Rabin at one base -/
def passN (p b : Nat) : Bool := strict (fpow p 40 1 (b % p) (odF 31 (p - 1) 0).1) fun x => x.beq 1 || x.beq 0 || x.beq (p - 1) || sqN p ((odF 31 (p - 1) 0).2 - 1) x
def strongN (p : Nat) : Bool := passN p 2 && (passN p 3 && (passN p 5 && passN p 7))
def kill (p : Nat) : Bool := !((pw2 p).beq 1) || !(strongN p)
/-- what is known of a number that the tests take -/
structure MH (p : Nat) : Prop where
  le : p ≤ 1073741824
  two : p % 2 = 1
  three : p % 3 ≠ 0
  five : p % 5 ≠ 0
  seven : p % 7 ≠ 0
  three' : p % 3 ≠ 1
  five' : p % 5 ≠ 2
  seven' : p % 7 ≠ 3
  f2 : 2 ^ (p - 1) % p = 1
  f3 : 3 ^ (p - 1) % p = 1
  f5 : 5 ^ (p - 1) % p = 1
  f7 : 7 ^ (p - 1) % p = 1
  st : strongN p = true
def bad (p : Nat) : Bool := (p % 3).beq 1 || ((p % 5).beq 2 || ((p % 7).beq 3 || kill p))
theorem MH.bad {p : Nat} (h : MH p) : MR.bad p = false := by
  have e : kill p = false := by rw [kill, pw2_eq, h.f2, h.st]; rfl
  rw [MR.bad, e, beqF.2 h.three', beqF.2 h.five', beqF.2 h.seven']; rfl
/-- four powers are 1 -/
structure R4 (q k : Nat) : Prop where
  a2 : 2 ^ k % q = 1
  a3 : 3 ^ k % q = 1
  a5 : 5 ^ k % q = 1
  a7 : 7 ^ k % q = 1
theorem PrimeP.ndvd {q a : Nat} (h0 : 0 < a) (h : a < q) : ¬ q ∣ a := fun hd => by have := Nat.le_of_dvd h0 hd; omega
theorem R4.fermat {q : Nat} (hq : PrimeP q) (h7 : 7 < q) : R4 q (q - 1) :=
  ⟨MR.fermat hq (PrimeP.ndvd (by decide) (by omega)), MR.fermat hq (PrimeP.ndvd (by decide) (by omega)), MR.fermat hq (PrimeP.ndvd (by decide) (by omega)), MR.fermat hq (PrimeP.ndvd (by decide) (by omega))⟩
theorem down {q m a : Nat} (hq : 1 < q) (hm : 1 ≤ m) (h : a ^ (q * m - 1) % (q * m) = 1) (hf : a ^ (q - 1) % q = 1) : a ^ (m - 1) % q = 1 := by
  have h1 : a ^ (q * m - 1) % q = 1 := by
    have := Nat.mod_mul_right_mod (a ^ (q * m - 1)) q m
    rw [h, Nat.mod_eq_of_lt hq] at this
    exact this.symm
  have e : q * m - 1 = (q - 1) * m + (m - 1) := by
    have := Nat.mul_le_mul_right m (show 1 ≤ q by omega)
    rw [Nat.sub_mul, Nat.one_mul]; omega
  rw [e, pow_mod_add, pow_mod_mul, hf, Nat.one_pow, Nat.mod_eq_of_lt hq, Nat.one_mul, Nat.mod_mod] at h1
  exact h1
theorem R4.down {q m : Nat} (hq : PrimeP q) (h7 : 7 < q) (hm : 1 ≤ m) (h : MH (q * m)) : R4 q (m - 1) :=
  have f := R4.fermat hq h7
  ⟨MR.down (by omega) hm h.f2 f.a2, MR.down (by omega) hm h.f3 f.a3, MR.down (by omega) hm h.f5 f.a5, MR.down (by omega) hm h.f7 f.a7⟩
/-! ### Orders -/
def fails (q d : Nat) : Bool := !((2 ^ d % q).beq 1 && ((3 ^ d % q).beq 1 && ((5 ^ d % q).beq 1 && (7 ^ d % q).beq 1)))
theorem fails_part {q l n k : Nat} (hq : 1 < q) (hl : PrimeP l) (h1 : R4 q n) (h2 : R4 q k) (hf : fails q (n / l) = true) (e : Nat) : Nat.gcd n (l ^ e) ∣ k := by
  by_cases c2 : 2 ^ (n / l) % q = 1
  · by_cases c3 : 3 ^ (n / l) % q = 1
    · by_cases c5 : 5 ^ (n / l) % q = 1
      · by_cases c7 : 7 ^ (n / l) % q = 1
        · rw [fails, c2, c3, c5, c7] at hf; cases hf
        · exact ord_part hq hl h1.a7 h2.a7 c7
      · exact ord_part hq hl h1.a5 h2.a5 c5
    · exact ord_part hq hl h1.a3 h2.a3 c3
  · exact ord_part hq hl h1.a2 h2.a2 c2
def primes127 : List Nat := [2, 3, 5, 7, 11, 13, 17, 19, 23, 29, 31, 37, 41, 43, 47, 53, 59, 61, 67, 71, 73, 79, 83, 89, 97, 101, 103, 107, 109, 113, 127]
theorem primes127_all : ∀ l ∈ primes127, PrimeP l := by
  have h : (primes127.all fun l => Nat.ble 2 l && Nat.blt l 144 && (l.beq 2 || l.beq 3 || l.beq 5 || l.beq 7 || l.beq 11 || !((l % 2).beq 0 || (l % 3).beq 0 || (l % 5).beq 0 || (l % 7).beq 0 || (l % 11).beq 0))) = true := by decide +kernel
  intro l hl
  have h1 := List.all_eq_true.1 h l hl
  simp only [Bool.and_eq_true, Bool.or_eq_true, Bool.not_eq_true', Bool.or_eq_false_iff, Nat.beq_eq, beqF, Nat.ble_eq, Nat.blt_eq] at h1
  obtain ⟨⟨h2, h3⟩, h4⟩ := h1
  refine primeP_small h2 fun d hd2 hdd hd => ?_
  have hd12 : d < 12 := by
    rcases Nat.lt_or_ge d 12 with h | h
    · exact h
    · have := Nat.mul_le_mul h h; omega
  have hz := Nat.mod_eq_zero_of_dvd hd
  have hlt : 2 * d ≤ l := by have := Nat.mul_le_mul_right d hd2; omega
  have : d = 2 ∨ d = 3 ∨ d = 4 ∨ d = 5 ∨ d = 6 ∨ d = 7 ∨ d = 8 ∨ d = 9 ∨ d = 10 ∨ d = 11 := by omega
  rcases this with rfl | rfl | rfl | rfl | rfl | rfl | rfl | rfl | rfl | rfl <;> omega
def ordF (q n : Nat) : List Nat → Nat → Nat
  | [], L => L
  | l :: ls, L => cond ((n % l).beq 0 && fails q (n / l)) (strict (Nat.lcm L (Nat.gcd n (l ^ 15))) fun L => ordF q n ls L) (ordF q n ls L)
theorem ordF_dvd {q n k : Nat} (hq : 1 < q) (h1 : R4 q n) (h2 : R4 q k) : ∀ (ls : List Nat) (L : Nat), (∀ l ∈ ls, PrimeP l) → L ∣ k → ordF q n ls L ∣ k
  | [], L, _, hL => hL
  | l :: ls, L, hp, hL => by
    have hp' : ∀ x ∈ ls, PrimeP x := fun x hx => hp x (List.mem_cons_of_mem _ hx)
    rw [ordF]
    cases hc : ((n % l).beq 0 && fails q (n / l)) with
    | false => exact ordF_dvd hq h1 h2 ls L hp' hL
    | true =>
      rw [cond_true, strict_eq]
      rw [Bool.and_eq_true] at hc
      exact ordF_dvd hq h1 h2 ls _ hp' (Nat.lcm_dvd hL (fails_part hq (hp l List.mem_cons_self) h1 h2 hc.2 15))
def f130 : Nat := 13353756090997411579403749204440236542538872688049072000
theorem f130_dvd : ∀ d, 2 ≤ d → d < 131 → d ∣ f130 := by
  have h : ((List.range 131).all fun d => Nat.blt d 2 || (f130 % d).beq 0) = true := by decide +kernel
  intro d h2 h3
  have := List.all_eq_true.1 h d (List.mem_range.2 h3)
  simp only [Bool.or_eq_true, Nat.blt_eq, Nat.beq_eq] at this
  rcases this with h | h
  · omega
  · exact Nat.dvd_of_mod_eq_zero h
theorem prime_130 {c : Nat} (h2 : 2 ≤ c) (h : Nat.gcd c f130 = 1) (hc : c < 17161) : PrimeP c := by
  refine primeP_small h2 fun d hd2 hdd hd => ?_
  have hd12 : d < 131 := by
    rcases Nat.lt_or_ge d 131 with h | h
    · exact h
    · have := Nat.mul_le_mul h h; omega
  have := Nat.dvd_gcd hd (f130_dvd d hd2 hd12)
  rw [h] at this
  have := Nat.le_of_dvd (by decide) this
  omega
def big127 : Nat := 4014476939333036189094441199026045136645885247730 ^ 15
/-- a divisor of all exponents at which the four powers are 1 -/
def ordL (q : Nat) : Nat := strict (q - 1) fun n => strict (ordF q n primes127 1) fun L => strict (n / Nat.gcd n big127) fun c =>
  cond (Nat.blt 1 c && (Nat.blt c 17161 && ((Nat.gcd c f130).beq 1 && fails q (n / c)))) (Nat.lcm L (Nat.gcd n (c ^ 1))) L
theorem ordL_dvd {q k : Nat} (hq : 1 < q) (h1 : R4 q (q - 1)) (h2 : R4 q k) : ordL q ∣ k := by
  rw [ordL, strict_eq, strict_eq, strict_eq]
  have h3 := ordF_dvd hq h1 h2 primes127 1 primes127_all (Nat.one_dvd k)
  generalize (q - 1) / Nat.gcd (q - 1) big127 = c
  cases hc : (Nat.blt 1 c && (Nat.blt c 17161 && ((Nat.gcd c f130).beq 1 && fails q ((q - 1) / c)))) with
  | false => exact h3
  | true =>
    simp only [Bool.and_eq_true, Nat.blt_eq, Nat.beq_eq] at hc
    exact Nat.lcm_dvd h3 (fails_part hq (prime_130 (by omega) hc.2.2.1 hc.2.1) h1 h2 hc.2.2.2 1)
/-! ### All of a range -/
def allC (f : Nat → Bool) (K : Nat) : Nat → Nat → Bool
  | 0, lo => Nat.blt K lo || f lo
  | d + 1, lo => Nat.blt K lo || (allC f K d lo && allC f K d (lo + 2 ^ d))
theorem allC_at {f : Nat → Bool} {K : Nat} : ∀ (d lo : Nat), allC f K d lo = true → ∀ k, lo ≤ k → k < lo + 2 ^ d → k ≤ K → f k = true
  | 0, lo, h, k, h1, h2, h3 => by
    obtain rfl : k = lo := by simp at h2; omega
    simp only [allC, Bool.or_eq_true, Nat.blt_eq] at h
    rcases h with h | h
    · omega
    · exact h
  | d + 1, lo, h, k, h1, h2, h3 => by
    simp only [allC, Bool.or_eq_true, Nat.blt_eq, Bool.and_eq_true] at h
    rcases h with h | ⟨ha, hb⟩
    · omega
    · rw [Nat.pow_succ] at h2
      rcases Nat.lt_or_ge k (lo + 2 ^ d) with h4 | h4
      · exact allC_at d lo ha k h1 h4 h3
      · exact allC_at d _ hb k h4 (by omega) h3
/-! ### A prime factor between 100 and 32768 -/
def primes181 : List Nat := [2, 3, 5, 7, 11, 13, 17, 19, 23, 29, 31, 37, 41, 43, 47, 53, 59, 61, 67, 71, 73, 79, 83, 89, 97, 101, 103, 107, 109, 113, 127, 131, 137, 139, 149, 151, 157, 163, 167, 173, 179, 181]
def f181 : Nat := 5397346292805549782720214077673687806275517530364350655459511599582614290
theorem f181_eq : f181 = lprod primes181 := by decide +kernel
theorem f181_ndvd {q : Nat} (hq : PrimeP q) (h : 181 < q) : ¬ q ∣ f181 := fun hd => by
  rw [f181_eq] at hd
  obtain ⟨x, hx, hd⟩ := hq.lprod hd
  have h1 : (primes181.all fun x => Nat.blt 0 x && Nat.blt x 182) = true := by decide +kernel
  have h2 := List.all_eq_true.1 h1 x hx
  simp only [Bool.and_eq_true, Nat.blt_eq] at h2
  have := Nat.le_of_dvd h2.1 hd
  omega
theorem small_no {q d : Nat} (hq : PrimeP q) (h2 : 2 ≤ d) (h : d < q) : q % d ≠ 0 := fun e => by
  rcases hq.2 d (Nat.dvd_of_mod_eq_zero e) with e | e <;> omega
def leaf (q L k : Nat) : Bool := strict (1 + k * L) fun m => (m % 3).beq 0 || ((m % 5).beq 0 || ((m % 7).beq 0 || bad (q * m)))
def ordM (q : Nat) : Nat := cond ((q % 3).beq 2) (Nat.lcm (ordL q) 3) (ordL q)
def chk2 (q : Nat) : Bool := Nat.blt q 101 || ((!((Nat.gcd q f181).beq 1) && (Nat.blt 181 q || ((q % 3).beq 0 || ((q % 5).beq 0 || ((q % 7).beq 0 || (q % 11).beq 0))))) || ((((q - 1) % 3).beq 0 && fails q ((q - 1) / 3)) ||
  strict (ordM q) fun L => strict ((1073741824 / q - 1) / L) fun K => Nat.blt 0 L && (Nat.blt K 65536 && allC (leaf q L) K 16 1)))
theorem chk2_no {q m : Nat} (hq : PrimeP q) (h1 : 100 < q) (hm : 2 ≤ m) (h : MH (q * m)) (hc : chk2 q = true) : False := by
  have hr := R4.down hq (by omega) (by omega) h
  have hf := R4.fermat hq (by omega)
  have hqm : q * m % 3 = 2 := by have := h.three; have := h.three'; omega
  simp only [chk2, Bool.or_eq_true, Bool.and_eq_true, Nat.blt_eq, Bool.not_eq_true', beqF, Nat.beq_eq, strict_eq] at hc
  rcases hc with hc | ⟨hc1, hc2⟩ | ⟨hc1, hc2⟩ | ⟨hL, hK, hc⟩
  · omega
  · rcases hc2 with h | h | h | h | h
    · exact hc1 (hq.cop (f181_ndvd hq h))
    · exact small_no hq (by decide) (by omega) h
    · exact small_no hq (by decide) (by omega) h
    · exact small_no hq (by decide) (by omega) h
    · exact small_no hq (by decide) (by omega) h
  · have h3 := fails_part (e := 1) (by omega) (primes127_all 3 (by decide)) hf hr hc2
    have h4 : 3 ∣ Nat.gcd (q - 1) (3 ^ 1) := Nat.dvd_gcd (Nat.dvd_of_mod_eq_zero hc1) (by decide)
    have h5 := Nat.mod_eq_zero_of_dvd (Nat.dvd_trans h4 h3)
    have : q * m % 3 = 1 := by rw [Nat.mul_mod, show q % 3 = 1 by omega, show m % 3 = 1 by omega]
    omega
  · have hd : ordM q ∣ m - 1 := by
      have h3 := ordL_dvd (by omega) hf hr
      rw [ordM]
      cases e : (q % 3).beq 2 with
      | false => exact h3
      | true =>
        rw [Nat.beq_eq] at e
        rw [cond_true]
        refine Nat.lcm_dvd h3 (Nat.dvd_of_mod_eq_zero ?_)
        have := Nat.mul_mod q m 3
        rw [hqm, e] at this
        have hm3 : m % 3 = 0 ∨ m % 3 = 1 ∨ m % 3 = 2 := by omega
        rcases hm3 with e3 | e3 | e3 <;> rw [e3] at this <;> omega
    obtain ⟨k, hk⟩ := hd
    generalize ordM q = L at *
    have hmk : m = 1 + k * L := by rw [Nat.mul_comm]; omega
    have hle : m ≤ 1073741824 / q := by rw [Nat.le_div_iff_mul_le (by omega), Nat.mul_comm]; exact h.le
    have hk1 : 1 ≤ k := by
      rcases Nat.eq_zero_or_pos k with rfl | h
      · simp at hmk; omega
      · exact h
    have hkK : k ≤ (1073741824 / q - 1) / L := by rw [Nat.le_div_iff_mul_le hL]; omega
    have := allC_at 16 1 hc k hk1 (by omega) hkK
    have n3 : m % 3 ≠ 0 := fun e => h.three (Nat.mod_eq_zero_of_dvd (Nat.dvd_trans (Nat.dvd_of_mod_eq_zero e) (Nat.dvd_mul_left m q)))
    have n5 : m % 5 ≠ 0 := fun e => h.five (Nat.mod_eq_zero_of_dvd (Nat.dvd_trans (Nat.dvd_of_mod_eq_zero e) (Nat.dvd_mul_left m q)))
    have n7 : m % 7 ≠ 0 := fun e => h.seven (Nat.mod_eq_zero_of_dvd (Nat.dvd_trans (Nat.dvd_of_mod_eq_zero e) (Nat.dvd_mul_left m q)))
    simp only [leaf, strict_eq, ← hmk, Bool.or_eq_true, Nat.beq_eq, n3, n5, n7, h.bad, false_or] at this
    cases this
/-- all odd numbers from 2 lo + 1 on, 2 ^ d of them -/
def chk2s (d lo : Nat) : Bool := allC (fun i => chk2 (2 * i + 1)) 16384 d lo
theorem chk2s_at {d lo q : Nat} (h : chk2s d lo = true) (h1 : 2 * lo ≤ q) (h2 : q < 2 * (lo + 2 ^ d)) (ho : q % 2 = 1) (hq : q < 32768) : chk2 q = true := by
  have := allC_at d lo h (q / 2) (by omega) (by omega) (by omega)
  rw [show 2 * (q / 2) + 1 = q by omega] at this
  exact this
end Go.Proofs.YtnahkfchcminpaaGreatDoor.MR
