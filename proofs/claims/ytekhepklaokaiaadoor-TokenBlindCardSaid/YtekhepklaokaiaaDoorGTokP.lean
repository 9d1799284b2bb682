/- Tokens: which numbers blind: plain. From each square but 1 each member but 1 comes of exactly one number. -/
import Derived.Test.YtekhepklaokaiaaDoorGGrp
import Derived.Test.YtekhepklaokaiaaDoorGNoDiv
namespace Go.Proofs.YtekhepklaokaiaaDoor
open Go.RowKit
/-- a list without repetitions that lies in another one no longer than itself holds all of it -/
theorem sub_all {α : Type} [DecidableEq α] : ∀ (L M : List α), L.Nodup → (∀ x ∈ L, x ∈ M) → M.length ≤ L.length → ∀ x ∈ M, x ∈ L
  | [], M, _, _, hl, x, hx => by
    have : M = [] := List.eq_nil_of_length_eq_zero (by simpa using hl)
    subst this; cases hx
  | a :: L, M, hn, hs, hl, x, hx => by
    have ha := hs a List.mem_cons_self
    have hn' := List.nodup_cons.1 hn
    by_cases hxa : x = a
    · rw [hxa]; exact List.mem_cons_self
    · refine List.mem_cons_of_mem _ (sub_all L (M.erase a) hn'.2 (fun y hy => ?_) ?_ x ?_)
      · exact (List.mem_erase_of_ne (fun e => hn'.1 (by rw [← e]; exact hy))).2 (hs y (List.mem_cons_of_mem _ hy))
      · rw [List.length_erase_of_mem ha]
        simp at hl; omega
      · exact (List.mem_erase_of_ne hxa).2 hx
/-- how many of the numbers 1 to k give x -/
def cntF (f : Nat → Nat) (k x : Nat) : Nat := ((List.range k).filter fun i => f i == x).length
theorem cntF_succ (f : Nat → Nat) (k x : Nat) : cntF f (k + 1) x = cntF f k x + if f k = x then 1 else 0 := by
  rw [cntF, List.range_succ, List.filter_append, List.length_append, ← cntF]
  congr 1
  by_cases h : f k = x <;> simp [h]
theorem cntF_none {f : Nat → Nat} {k x : Nat} (h : ∀ i, i < k → f i ≠ x) : cntF f k x = 0 := by
  induction k with
  | zero => rfl
  | succ k ih => rw [cntF_succ, ih (fun i hi => h i (by omega)), if_neg (h k (by omega))]
theorem cntF_one {f : Nat → Nat} {k x : Nat} (hi : ∀ i j, i < j → j < k → f i ≠ f j) (h : ∃ i, i < k ∧ f i = x) : cntF f k x = 1 := by
  induction k with
  | zero => obtain ⟨i, h1, -⟩ := h; omega
  | succ k ih =>
    rw [cntF_succ]
    by_cases hk : f k = x
    · rw [if_pos hk, cntF_none fun i hik e => hi i k hik (by omega) (e.trans hk.symm)]
    · rw [if_neg hk, ih (fun i j h1 h2 => hi i j h1 (by omega))]
      obtain ⟨i, h1, h2⟩ := h
      rcases Nat.lt_or_ge i k with h3 | h3
      · exact ⟨i, h3, h2⟩
      · obtain rfl : i = k := by omega
        exact absurd h2 hk
theorem cntF_le (f : Nat → Nat) (k x : Nat) : cntF f k x ≤ k := by
  have := List.length_filter_le (fun i => f i == x) (List.range k)
  rw [List.length_range] at this; exact this
/-- the members of the group but 1 -/
def memL (P : Nat) : List Nat := (List.range (2 * P + 1)).filter fun x => memH P x && x != 1
theorem mem_memL {P x : Nat} : x ∈ memL P ↔ memH P x = true ∧ x ≠ 1 := by
  rw [memL, List.mem_filter, List.mem_range]
  simp only [Bool.and_eq_true, bne_iff_ne]
  constructor
  · rintro ⟨-, h⟩; exact h
  · intro h
    refine ⟨?_, h⟩
    have := h.1
    simp only [memH, Bool.and_eq_true, decide_eq_true_eq] at this
    exact this.2.1
theorem range_map_nodup {f : Nat → Nat} : ∀ {k : Nat}, (∀ i j, i < j → j < k → f i ≠ f j) → ((List.range k).map f).Nodup
  | 0, _ => by simp
  | k + 1, h => by
    rw [List.range_succ, List.map_append, List.nodup_append]
    refine ⟨range_map_nodup fun i j h1 h2 => h i j h1 (by omega), by simp, ?_⟩
    intro a ha b hb
    simp only [List.mem_map, List.mem_range] at ha
    simp only [List.map_cons, List.map_nil, List.mem_singleton] at hb
    obtain ⟨i, hi, rfl⟩ := ha
    rw [hb]
    exact h i k hi (by omega)
section
variable {P : Nat} (h : Grp P) (hM : (memL P).length = P - 1) {s : Nat} (hs : memH P s = true) (hs1 : s ≠ 1)
include h hM hs hs1
theorem blind_count (x : Nat) : cntF (fun i => gpw P s ((i + 1 : Nat) : Int)) (P - 1) x = if memH P x = true ∧ x ≠ 1 then 1 else 0 := by
  have hP := h.three
  have hm : 1 < 2 * P + 1 := by omega
  simp only [memH, Bool.and_eq_true, decide_eq_true_eq, beq_iff_eq] at hs
  obtain ⟨hs0, hsl, hsp⟩ := hs
  have hsx : s % (2 * P + 1) ≠ 1 := by rw [Nat.mod_eq_of_lt hsl]; exact hs1
  have hap : ∀ a b : Nat, a < b → b < P → s ^ a % (2 * P + 1) ≠ s ^ b % (2 * P + 1) := fun a b hab hb e => by
    have e2 : s ^ (P - a) * s ^ a % (2 * P + 1) = s ^ (P - a) * s ^ b % (2 * P + 1) := by rw [Nat.mul_mod, e, ← Nat.mul_mod]
    rw [← Nat.pow_add, ← Nat.pow_add, show P - a + a = P by omega, show P - a + b = P + (b - a) by omega, hsp, pow_mod_add, hsp, Nat.one_mul, Nat.mod_mod] at e2
    exact pow_ne_one hm h.prime hsx hsp (by omega) (by omega) e2.symm
  have hf : ∀ i : Nat, gpw P s ((i + 1 : Nat) : Int) = s ^ (i + 1) % (2 * P + 1) := fun i => gpw_nat hP hsp (i + 1)
  have hi : ∀ i j : Nat, i < j → j < P - 1 → gpw P s ((i + 1 : Nat) : Int) ≠ gpw P s ((j + 1 : Nat) : Int) := fun i j h1 h2 => by
    rw [hf, hf]; exact hap _ _ (by omega) (by omega)
  have hmem : ∀ i : Nat, i < P - 1 → gpw P s ((i + 1 : Nat) : Int) ∈ memL P := fun i h1 => by
    rw [mem_memL, hf]
    refine ⟨memH_pow hP hsp (i + 1), ?_⟩
    have := hap 0 (i + 1) (by omega) (by omega)
    rw [Nat.pow_zero, Nat.mod_eq_of_lt hm] at this
    exact fun e => this e.symm
  by_cases hx : memH P x = true ∧ x ≠ 1
  · rw [if_pos hx]
    refine cntF_one hi ?_
    have := sub_all ((List.range (P - 1)).map fun i : Nat => gpw P s ((i + 1 : Nat) : Int)) (memL P) (range_map_nodup hi) (fun y hy => by
      simp only [List.mem_map, List.mem_range] at hy
      obtain ⟨i, h1, rfl⟩ := hy
      exact hmem i h1) (by rw [hM]; simp) x (mem_memL.2 hx)
    simp only [List.mem_map, List.mem_range] at this
    exact this
  · rw [if_neg hx]
    exact cntF_none fun i h1 e => hx (mem_memL.1 (e ▸ hmem i h1))
end
/-! ### The five small fields -/
def smallsL : List Int := [11, 23, 29, 41, 53]
/-- what is asked of a small field -/
structure GoodP (P : Nat) : Prop where
  safe : safeP (P : Int) = true
  rsafe : rsafe (P : Int) = true
  grp : Grp P
  mem : (memL P).length = P - 1
  sq : ∀ x, 2 ≤ x → x ≤ 2 * P - 1 → memH P (x * x % (2 * P + 1)) = true ∧ x * x % (2 * P + 1) ≠ 1
  lo : 11 ≤ P
  hi : P ≤ 53
theorem goodP_of (P n k : Nat) (h11 : 11 ≤ P) (h53 : P ≤ 53) (hs : safeK P = true) (ho : P % 2 = 1) (h1 : tryF P 2 n 3 = true) (hn : P < (3 + 2 * n) * (3 + 2 * n)) (h2 : tryF (2 * P + 1) 2 k 3 = true) (hk : 2 * P + 1 < (3 + 2 * k) * (3 + 2 * k)) (h4 : fpow (2 * P + 1) 40 1 4 P = 1)
    (hm : (memL P).length = P - 1) (hq : ((List.range (2 * P)).all fun x => Nat.blt x 2 || (memH P (x * x % (2 * P + 1)) && !(Nat.beq (x * x % (2 * P + 1)) 1))) = true) : GoodP P := by
  have hp : PrimeP P := primeP_of (by omega) (noDiv_of P n ho h1 hn)
  refine ⟨safeP_of (by omega) (by omega) hs, rsafe_of P n k (by omega) (by omega) ho h1 hn h2 hk, grp_of P (by omega) (by omega) h4 hp, hm, fun x h2x hx => ?_, h11, h53⟩
  have := List.all_eq_true.1 hq x (List.mem_range.2 (by omega))
  simp only [Bool.or_eq_true, Nat.blt_eq, Bool.and_eq_true, Bool.not_eq_true'] at this
  rcases this with h | ⟨h, hne⟩
  · omega
  · exact ⟨h, fun e => by rw [e] at hne; cases hne⟩
set_option maxRecDepth 100000 in
theorem smalls_good : ∀ j, j < 5 → ∃ P : Nat, smallsL.getD j 0 = (P : Int) ∧ GoodP P := by
  intro j hj
  have : j = 0 ∨ j = 1 ∨ j = 2 ∨ j = 3 ∨ j = 4 := by omega
  rcases this with rfl | rfl | rfl | rfl | rfl
  · exact ⟨11, rfl, goodP_of 11 1 2 (by decide) (by decide) (by decide +kernel) (by decide) (by decide) (by decide) (by decide) (by decide) (by decide +kernel) (by decide +kernel) (by decide +kernel)⟩
  · exact ⟨23, rfl, goodP_of 23 1 3 (by decide) (by decide) (by decide +kernel) (by decide) (by decide) (by decide) (by decide) (by decide) (by decide +kernel) (by decide +kernel) (by decide +kernel)⟩
  · exact ⟨29, rfl, goodP_of 29 2 4 (by decide) (by decide) (by decide +kernel) (by decide) (by decide) (by decide) (by decide) (by decide) (by decide +kernel) (by decide +kernel) (by decide +kernel)⟩
  · exact ⟨41, rfl, goodP_of 41 2 4 (by decide) (by decide) (by decide +kernel) (by decide) (by decide) (by decide) (by decide) (by decide) (by decide +kernel) (by decide +kernel) (by decide +kernel)⟩
  · exact ⟨53, rfl, goodP_of 53 3 4 (by decide) (by decide) (by decide +kernel) (by decide) (by decide) (by decide) (by decide) (by decide) (by decide +kernel) (by decide +kernel) (by decide +kernel)⟩
theorem memZ_memH (P x : Nat) : memZ P (x : Int) = memH P x := by
  rw [memZ, Int.toNat_natCast, memH]
  by_cases h : 0 < x
  · rw [decide_eq_true h, decide_eq_true (show (0 : Int) < (x : Int) by omega)]; simp
  · rw [decide_eq_false h, decide_eq_false (show ¬ (0 : Int) < (x : Int) by omega)]; simp
/-- the counts -/
def cntL (f : Nat → Nat) (n k : Nat) : List Int := (List.range n).map fun x => ((cntF f k x : Nat) : Int)
theorem cntL_length (f : Nat → Nat) (n k : Nat) : (cntL f n k).length = n := by simp [cntL]
theorem cntL_zero (f : Nat → Nat) (n : Nat) : cntL f n 0 = List.replicate n 0 := by
  apply List.ext_getElem
  · simp [cntL]
  · intro i h1 h2; simp [cntL, cntF]
theorem cntL_get (f : Nat → Nat) {n k x : Nat} (h : x < n) : (cntL f n k)[x]? = some ((cntF f k x : Nat) : Int) := by
  simp [cntL, h]
theorem cntL_succ (f : Nat → Nat) {n k : Nat} : cntL f n (k + 1) = (cntL f n k).set (f k) (((cntF f k (f k) : Nat) : Int) + 1) := by
  apply List.ext_getElem?
  intro i
  by_cases hi : i < n
  · rw [cntL_get f hi, cntF_succ]
    by_cases h : f k = i
    · rw [if_pos h, h, List.getElem?_set_self (by rw [cntL_length]; exact hi)]; simp
    · rw [if_neg h, List.getElem?_set_ne h, cntL_get f hi]; simp
  · rw [List.getElem?_eq_none (by rw [cntL_length]; omega), List.getElem?_eq_none (by rw [List.length_set, cntL_length]; omega)]
end Go.Proofs.YtekhepklaokaiaaDoor
