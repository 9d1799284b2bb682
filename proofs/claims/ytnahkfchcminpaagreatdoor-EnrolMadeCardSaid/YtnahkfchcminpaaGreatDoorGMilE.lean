/- A prime factor above 32768, and products of small primes alone: plain, with the reckoning. No program in sight. -/
import Derived.Test.YtnahkfchcminpaaGreatDoorGMilB
namespace Go.Proofs.YtnahkfchcminpaaGreatDoor.MR
set_option maxRecDepth 100000
theorem MH.cof {q m : Nat} (h : MH (q * m)) : m % 2 = 1 ∧ m % 3 ≠ 0 ∧ m % 5 ≠ 0 ∧ m % 7 ≠ 0 := by
  refine ⟨?_, fun e => h.three ?_, fun e => h.five ?_, fun e => h.seven ?_⟩
  · rcases Nat.mod_two_eq_zero_or_one m with e | e
    · have := Nat.mod_eq_zero_of_dvd (Nat.dvd_trans (Nat.dvd_of_mod_eq_zero e) (Nat.dvd_mul_left m q))
      have := h.two; omega
    · exact e
  · exact Nat.mod_eq_zero_of_dvd (Nat.dvd_trans (Nat.dvd_of_mod_eq_zero e) (Nat.dvd_mul_left m q))
  · exact Nat.mod_eq_zero_of_dvd (Nat.dvd_trans (Nat.dvd_of_mod_eq_zero e) (Nat.dvd_mul_left m q))
  · exact Nat.mod_eq_zero_of_dvd (Nat.dvd_trans (Nat.dvd_of_mod_eq_zero e) (Nat.dvd_mul_left m q))
/-! ### A prime factor above 32768 -/
/-- what all primes divide at which k is an exponent of 1 -/
def gm (k : Nat) : Nat := Nat.gcd (Nat.gcd (Nat.gcd (2 ^ k - 1) (3 ^ k - 1)) (5 ^ k - 1)) (7 ^ k - 1)
theorem dvd_pow_sub {q a k : Nat} (hq : 1 < q) (h : a ^ k % q = 1) : q ∣ a ^ k - 1 := dvd_sub_mod (by rw [h, Nat.mod_eq_of_lt hq])
theorem gm_dvd {q k : Nat} (hq : 1 < q) (h : R4 q k) : q ∣ gm k := Nat.dvd_gcd (Nat.dvd_gcd (Nat.dvd_gcd (dvd_pow_sub hq h.a2) (dvd_pow_sub hq h.a3)) (dvd_pow_sub hq h.a5)) (dvd_pow_sub hq h.a7)
/-- the product of the odd numbers from 2 lo + 1 on, 2 ^ d of them -/
def oddP : Nat → Nat → Nat
  | 0, lo => 2 * lo + 1
  | d + 1, lo => oddP d lo * oddP d (lo + 2 ^ d)
theorem oddP_lt {q : Nat} (hq : PrimeP q) : ∀ {d lo : Nat}, q ∣ oddP d lo → q < 2 * (lo + 2 ^ d)
  | 0, lo, h => by have := Nat.le_of_dvd (by simp [oddP]) h; simp only [oddP] at this; omega
  | d + 1, lo, h => by
    rw [Nat.pow_succ]
    rcases hq.mul h with h | h
    · have := oddP_lt hq h; omega
    · have := oddP_lt hq h; omega
theorem oddP_in {q : Nat} (ho : q % 2 = 1) : ∀ {d lo : Nat}, 2 * lo ≤ q → q < 2 * (lo + 2 ^ d) → q ∣ oddP d lo
  | 0, lo, h1, h2 => by
    have : oddP 0 lo = q := by show 2 * lo + 1 = q; rw [Nat.pow_zero] at h2; omega
    rw [this]; exact Nat.dvd_refl _
  | d + 1, lo, h1, h2 => by
    rw [Nat.pow_succ] at h2
    rcases Nat.lt_or_ge q (2 * (lo + 2 ^ d)) with h | h
    · exact Nat.dvd_trans (oddP_in ho h1 h) (Nat.dvd_mul_right _ _)
    · exact Nat.dvd_trans (oddP_in ho (lo := lo + 2 ^ d) h (by omega)) (Nat.dvd_mul_left _ _)
def strip (F g : Nat) : Nat := g / Nat.gcd g F
theorem strip_dvd {q F g : Nat} (hq : PrimeP q) (hF : ¬ q ∣ F) (h : q ∣ g) : q ∣ strip F g := by
  have e : g = Nat.gcd g F * (g / Nat.gcd g F) := (Nat.mul_div_cancel' (Nat.gcd_dvd_left g F)).symm
  rw [e] at h
  rcases hq.mul h with h | h
  · exact absurd (Nat.dvd_trans h (Nat.gcd_dvd_right g F)) hF
  · exact h
def leaf1 (F m : Nat) : Bool := Nat.blt m 11 || ((m % 3).beq 0 || ((m % 5).beq 0 || ((m % 7).beq 0 || strict (gm (m - 1)) fun G => strict (strip F (strip F G)) fun E =>
  E.beq 1 || (((E % 2).beq 1 && (Nat.blt E 98304 && (Nat.blt 1073741824 (E * m) || bad (E * m)))) || ((Nat.gcd E (oddP 12 16384)).beq 1 && Nat.blt (1073741824 / m) 40960)))))
def chk1s (d lo : Nat) : Bool := strict (oddP 14 0) fun F => allC (fun i => leaf1 F (2 * i + 1)) 16384 d lo
theorem leaf1_no {q m : Nat} (hq : PrimeP q) (h1 : 32768 < q) (hm : 2 ≤ m) (h : MH (q * m)) (hc : leaf1 (oddP 14 0) m = true) : False := by
  have hr := R4.down hq (by omega) (by omega) h
  obtain ⟨n2, n3, n5, n7⟩ := h.cof
  have ho : q % 2 = 1 := by
    have := small_no hq (show 2 ≤ 2 by decide) (by omega); omega
  have hF : ¬ q ∣ oddP 14 0 := fun hd => by have := oddP_lt hq hd; omega
  have hE : q ∣ strip (oddP 14 0) (strip (oddP 14 0) (gm (m - 1))) := strip_dvd hq hF (strip_dvd hq hF (gm_dvd (by omega) hr))
  simp only [leaf1, strict_eq, Bool.or_eq_true, Bool.and_eq_true, Nat.blt_eq, Nat.beq_eq, n3, n5, n7, false_or] at hc
  generalize strip (oddP 14 0) (strip (oddP 14 0) (gm (m - 1))) = E at *
  rcases hc with hc | hc | ⟨c1, c2, hc⟩ | ⟨c1, c2⟩
  · have : m = 3 ∨ m = 5 ∨ m = 7 ∨ m = 9 := by omega
    rcases this with rfl | rfl | rfl | rfl <;> simp at n3 n5 n7
  · subst hc; have := Nat.le_of_dvd (by decide) hE; omega
  · obtain ⟨c, rfl⟩ := hE
    have hc1 : c = 1 := by
      rcases Nat.lt_or_ge c 3 with h3 | h3
      · have : c ≠ 0 := by rintro rfl; simp at c1
        have : c ≠ 2 := by rintro rfl; rw [Nat.mul_mod_left] at c1; omega
        omega
      · have := Nat.mul_le_mul (show 32769 ≤ q by omega) h3
        omega
    subst hc1
    rw [Nat.mul_one] at hc
    rcases hc with hc | hc
    · have := h.le; omega
    · rw [h.bad] at hc; cases hc
  · have hle : q ≤ 1073741824 / m := by rw [Nat.le_div_iff_mul_le (by omega)]; exact h.le
    have := Nat.dvd_gcd hE (oddP_in (d := 12) (lo := 16384) ho (by omega) (by omega))
    rw [c1] at this
    have := Nat.le_of_dvd (by decide) this
    omega
theorem chk1_0 : chk1s 13 0 = true := by decide +kernel
theorem chk1_1 : chk1s 13 8192 = true := by decide +kernel
theorem big_no {q m : Nat} (hq : PrimeP q) (h1 : 32768 < q) (hm : 2 ≤ m) (h : MH (q * m)) : False := by
  have hlt : m < 32768 := by
    rcases Nat.lt_or_ge m 32768 with h2 | h2
    · exact h2
    · have := Nat.mul_le_mul h1 h2
      have := h.le; omega
  obtain ⟨n2, -⟩ := h.cof
  refine leaf1_no hq h1 hm h ?_
  have h0 := chk1_0
  have h2 := chk1_1
  rw [chk1s, strict_eq] at h0 h2
  rcases Nat.lt_or_ge (m / 2) 8192 with h3 | h3
  · have := allC_at 13 0 h0 (m / 2) (by omega) (by omega) (by omega)
    rwa [show 2 * (m / 2) + 1 = m by omega] at this
  · have := allC_at 13 8192 h2 (m / 2) (by omega) (by omega) (by omega)
    rwa [show 2 * (m / 2) + 1 = m by omega] at this
/-! ### Primes below 100 alone -/
def smalls : List Nat := [11, 17, 23, 29, 41, 47, 53, 59, 71, 83, 89]
/-- the products of some numbers of a list -/
def prods : List Nat → List Nat
  | [] => [1]
  | r :: rs => prods rs ++ (prods rs).map (r * ·)
theorem prods_mem : ∀ (rs : List Nat) (p : Nat), 0 < p → (∀ q, PrimeP q → q ∣ p → q ∈ rs) → (∀ q, PrimeP q → ¬ q * q ∣ p) → (∀ r ∈ rs, PrimeP r) → p ∈ prods rs
  | [], p, h0, h1, _, _ => by
    rcases Nat.lt_or_ge p 2 with h | h
    · obtain rfl : p = 1 := by omega
      simp [prods]
    · obtain ⟨q, hq, hd⟩ := prime_fac p p (Nat.le_refl _) h
      cases h1 q hq hd
  | r :: rs, p, h0, h1, h2, h3 => by
    have h3' : ∀ x ∈ rs, PrimeP x := fun x hx => h3 x (List.mem_cons_of_mem _ hx)
    have hr := h3 r List.mem_cons_self
    rw [prods, List.mem_append]
    by_cases hd : r ∣ p
    · obtain ⟨c, rfl⟩ := hd
      right
      rw [List.mem_map]
      have hc0 : 0 < c := by
        rcases Nat.eq_zero_or_pos c with rfl | h
        · simp at h0
        · exact h
      refine ⟨c, prods_mem rs c hc0 (fun q hq hqd => ?_) (fun q hq hqd => h2 q hq (Nat.dvd_trans hqd (Nat.dvd_mul_left _ _))) h3', rfl⟩
      rcases List.mem_cons.1 (h1 q hq (Nat.dvd_trans hqd (Nat.dvd_mul_left _ _))) with rfl | h
      · exact absurd (Nat.mul_dvd_mul_left q hqd) (h2 q hq)
      · exact h
    · left
      refine prods_mem rs p h0 (fun q hq hqd => ?_) h2 h3'
      rcases List.mem_cons.1 (h1 q hq hqd) with rfl | h
      · exact absurd hqd hd
      · exact h
def leaf3 (r : Nat) : Bool := (smalls.any fun x => x.beq r) || ((r % 2).beq 0 || (r.beq 1 || (r.beq 3 || (r.beq 5 || (r.beq 7 || ((r % 3).beq 0 || ((r % 5).beq 0 || ((r % 7).beq 0 || (((r - 1) % 3).beq 0 && fails r ((r - 1) / 3))))))))))
theorem leaf3_all : allC leaf3 99 7 1 = true := by decide +kernel
theorem small_in {p q : Nat} (h : MH p) (hq : PrimeP q) (hd : q ∣ p) (hlt : q < 100) : q ∈ smalls := by
  have h2 := hq.1
  have hz := Nat.mod_eq_zero_of_dvd hd
  obtain ⟨m, hpm⟩ := hd
  have n2 : q ≠ 2 := by rintro rfl; have := h.two; omega
  have n3 : q ≠ 3 := by rintro rfl; exact h.three hz
  have n5 : q ≠ 5 := by rintro rfl; exact h.five hz
  have n7 : q ≠ 7 := by rintro rfl; exact h.seven hz
  have h7 : 7 < q := by
    rcases Nat.lt_or_ge 7 q with h | h
    · exact h
    · have : q = 4 ∨ q = 6 := by omega
      rcases this with rfl | rfl
      · exact absurd rfl (small_no hq (by decide) (by decide : 2 < 4))
      · exact absurd rfl (small_no hq (by decide) (by decide : 2 < 6))
  have hc := allC_at 7 1 leaf3_all q (by omega) (by omega) (by omega)
  simp only [leaf3, Bool.or_eq_true, Bool.and_eq_true, Nat.beq_eq, List.any_eq_true] at hc
  have k1 : q ≠ 1 := by clear hc; omega
  rcases hc with ⟨x, hx, rfl⟩ | hc | hc | hc | hc | hc | hc | hc | hc | ⟨c1, c2⟩
  · exact hx
  · exact absurd hc (small_no hq (by decide) (by omega))
  · exact absurd hc k1
  · exact absurd hc n3
  · exact absurd hc n5
  · exact absurd hc n7
  · exact absurd hc (small_no hq (by decide) (by omega))
  · exact absurd hc (small_no hq (by decide) (by omega))
  · exact absurd hc (small_no hq (by decide) (by omega))
  · exfalso
    subst hpm
    have hm : 1 ≤ m := by
      rcases Nat.eq_zero_or_pos m with rfl | h'
      · have := h.two; simp at this
      · exact h'
    have hr := R4.down hq h7 hm h
    have hf := R4.fermat hq h7
    have h3 := fails_part (e := 1) (by omega) (primes127_all 3 (by decide)) hf hr c2
    have h4 : 3 ∣ Nat.gcd (q - 1) (3 ^ 1) := Nat.dvd_gcd (Nat.dvd_of_mod_eq_zero c1) (by decide)
    have h5 := Nat.mod_eq_zero_of_dvd (Nat.dvd_trans h4 h3)
    have := h.three'
    have : q * m % 3 = 1 := by rw [Nat.mul_mod, show q % 3 = 1 by omega, show m % 3 = 1 by omega]
    omega
theorem small_sq : (smalls.all fun r => (2 ^ (r * (r - 1)) % (r * r)).beq 1 && !((2 ^ (r - 1) % (r * r)).beq 1)) = true := by decide +kernel
theorem smalls_prime : ∀ r ∈ smalls, PrimeP r := fun r hr => primes127_all r (by
  have h : (smalls.all fun r => primes127.contains r) = true := by decide
  simpa using List.all_eq_true.1 h r hr)
theorem small_no_sq {p q : Nat} (h : MH p) (hq : PrimeP q) (hs : q ∈ smalls) (hd : q * q ∣ p) : False := by
  have h2 := hq.1
  have hc := List.all_eq_true.1 small_sq q hs
  simp only [Bool.and_eq_true, Nat.beq_eq, Bool.not_eq_true', beqF] at hc
  have hp : 0 < p := by have := h.two; omega
  obtain ⟨c, hcc⟩ := hd
  have h1 : 2 ^ (p - 1) % (q * q) = 1 := by
    have := Nat.mod_mul_right_mod (2 ^ (p - 1)) (q * q) c
    rw [← hcc, h.f2, Nat.mod_eq_of_lt (by have := Nat.mul_le_mul h2 h2; omega)] at this
    exact this.symm
  have hqq : 1 < q * q := by have := Nat.mul_le_mul h2 h2; omega
  have hg := pow_gcd hqq _ _ h1 hc.1
  have hcop : ¬ q ∣ Nat.gcd (p - 1) (q * (q - 1)) := fun hd => by
    have h3 := Nat.dvd_trans hd (Nat.gcd_dvd_left _ _)
    have h4 : q ∣ p := ⟨q * c, by rw [hcc, Nat.mul_assoc]⟩
    have := Nat.dvd_sub h4 h3
    rw [show p - (p - 1) = 1 by omega] at this
    have := Nat.le_of_dvd (by decide) this
    omega
  have hgd : Nat.gcd (p - 1) (q * (q - 1)) ∣ q - 1 := (hq.cop hcop).symm.dvd_of_dvd_mul_left (Nat.gcd_dvd_right _ _)
  exact hc.2 (pow_one_dvd hqq hg hgd)
theorem prods_all : ((prods smalls).all fun x => Nat.blt x 2 || ((smalls.any fun y => y.beq x) || (Nat.blt 1073741824 x || kill x))) = true := by decide +kernel
theorem smooth_no {p : Nat} (h : MH p) (h2 : 2 ≤ p) (hall : ∀ q, PrimeP q → q ∣ p → q < 100) : p ∈ smalls := by
  have hin : ∀ q, PrimeP q → q ∣ p → q ∈ smalls := fun q hq hd => small_in h hq hd (hall q hq hd)
  have hm := prods_mem smalls p (by omega) hin (fun q hq hd => small_no_sq h hq (hin q hq (Nat.dvd_trans (Nat.dvd_mul_left q q) hd)) hd) smalls_prime
  have hc := List.all_eq_true.1 prods_all p hm
  simp only [Bool.or_eq_true, Nat.blt_eq, List.any_eq_true, Nat.beq_eq] at hc
  rcases hc with hc | ⟨x, hx, rfl⟩ | hc | hc
  · omega
  · exact hx
  · have := h.le; omega
  · have e : kill p = false := by rw [kill, pw2_eq, h.f2, h.st]; rfl
    rw [e] at hc; cases hc
end Go.Proofs.YtnahkfchcminpaaGreatDoor.MR
