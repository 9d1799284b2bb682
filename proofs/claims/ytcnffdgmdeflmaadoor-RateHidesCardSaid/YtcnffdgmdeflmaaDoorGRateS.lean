/- The safe primes of the plays; marks of one handle differ where the secrets do: plain. -/
import Derived.Test.YtcnffdgmdeflmaaDoorGRateP
import Derived.Test.YtcnffdgmdeflmaaDoorCodecQ
namespace Go.Proofs.YtcnffdgmdeflmaaDoor
open Go.RowKit
theorem good_of (p n : Nat) (h11 : 11 ≤ p) (hb : p ≤ 500000003) (ho : p % 2 = 1) (h1 : tryF p 2 n 3 = true) (hn : p < (3 + 2 * n) * (3 + 2 * n)) (h4 : fpow (2 * p + 1) 40 1 4 p = 1) (hs : safeK p = true) : Grp p ∧ safeP (p : Int) = true ∧ 11 ≤ p ∧ p ≤ 500000003 :=
  ⟨grp_of p (by omega) (by omega) h4 (primeP_of (by omega) (noDiv_of p n ho h1 hn)), safeP_of (by omega) (by omega) hs, h11, hb⟩
theorem safes_good : ∀ x ∈ safesL, ∃ p : Nat, x = (p : Int) ∧ Grp p ∧ safeP (p : Int) = true ∧ 11 ≤ p ∧ p ≤ 500000003 := by
  intro x hx
  simp only [safesL, List.mem_cons, List.not_mem_nil, or_false] at hx
  rcases hx with rfl | rfl | rfl | rfl | rfl | rfl
  · exact ⟨11, rfl, good_of 11 1 (by decide) (by decide) (by decide) (by decide +kernel) (by decide) (by decide +kernel) (by decide +kernel)⟩
  · exact ⟨23, rfl, good_of 23 1 (by decide) (by decide) (by decide) (by decide +kernel) (by decide) (by decide +kernel) (by decide +kernel)⟩
  · exact ⟨500000003, rfl, grp_big, safeP_big, by decide, by decide⟩
  · exact ⟨29, rfl, good_of 29 2 (by decide) (by decide) (by decide) (by decide +kernel) (by decide) (by decide +kernel) (by decide +kernel)⟩
  · exact ⟨53, rfl, good_of 53 3 (by decide) (by decide) (by decide) (by decide +kernel) (by decide) (by decide +kernel) (by decide +kernel)⟩
  · exact ⟨83, rfl, good_of 83 4 (by decide) (by decide) (by decide) (by decide +kernel) (by decide) (by decide +kernel) (by decide +kernel)⟩
theorem putInt_inj {a b : Int} (ha : I64 a) (hb : I64 b) (h : putInt a = putInt b) : a = b := by
  have h1 := getInt_put [] a [] ha (p := 0) rfl
  have h2 := getInt_put [] b [] hb (p := 0) rfl
  rw [h, h2] at h1
  exact (congrArg Prod.fst h1).symm
section
variable {P : Nat} (h : Grp P)
include h
/-- powers of a number other than 1 differ -/
theorem pow_apart {x : Nat} (hx1 : x % (2 * P + 1) ≠ 1) (hx : x ^ P % (2 * P + 1) = 1) {a b : Nat} (hab : a < b) (hb : b < P) : x ^ a % (2 * P + 1) ≠ x ^ b % (2 * P + 1) := by
  have hm : 1 < 2 * P + 1 := by have := h.three; omega
  intro e
  have e2 : x ^ (P - a) * x ^ a % (2 * P + 1) = x ^ (P - a) * x ^ b % (2 * P + 1) := by rw [Nat.mul_mod, e, ← Nat.mul_mod]
  rw [← Nat.pow_add, ← Nat.pow_add, show P - a + a = P by omega, show P - a + b = P + (b - a) by omega, hx, pow_mod_add, hx, Nat.one_mul, Nat.mod_mod] at e2
  exact pow_ne_one hm h.prime hx1 hx (by omega) (by omega) e2.symm
/-- the handle of a mark -/
theorem handle_ne {e : Nat} (h1 : 1 ≤ e) (h2 : e < P) : gpw P 4 (e : Int) ≠ 1 := by
  rw [gpw_nat h.three h.four]
  exact pow_ne_one (by have := h.three; omega) h.prime (by rw [Nat.mod_eq_of_lt (by have := h.three; omega)]; decide) h.four (by omega) h2
theorem handle_pow (e : Nat) : (gpw P 4 (e : Int)) ^ P % (2 * P + 1) = 1 := by
  rw [gpw_nat h.three h.four]
  exact pow_one_pow (by have := h.three; omega) h.four e
theorem marks_apart {e : Nat} (h1 : 1 ≤ e) (h2 : e < P) {a b : Nat} (ha : a < P) (hb : b < P) (hg : gpw P (gpw P 4 (e : Int)) (a : Int) = gpw P (gpw P 4 (e : Int)) (b : Int)) : a = b := by
  have hp := handle_pow h e
  have hn := handle_ne h h1 h2
  have hl := gpw_lt P 4 (e : Int)
  rw [gpw_nat h.three hp, gpw_nat h.three hp] at hg
  have hx : gpw P 4 (e : Int) % (2 * P + 1) ≠ 1 := by rw [Nat.mod_eq_of_lt hl]; exact hn
  rcases Nat.lt_trichotomy a b with hab | hab | hab
  · exact absurd hg (pow_apart h hx hp hab hb)
  · exact hab
  · exact absurd hg.symm (pow_apart h hx hp hab ha)
end
/-! ### Those of a list that are not equal to one before -/
def onceB {α : Type} [DecidableEq α] (l : List α) (i : Nat) : Bool := match l[i]? with | some x => !decide (x ∈ l.take i) | none => false
def onceI {α : Type} [DecidableEq α] (l : List α) (n : Nat) : List Nat := (List.range n).filter (onceB l)
theorem onceB_at {α : Type} [DecidableEq α] {l : List α} {i : Nat} {x : α} (h : l[i]? = some x) : onceB l i = !decide (x ∈ l.take i) := by rw [onceB, h]
theorem onceI_succ {α : Type} [DecidableEq α] (l : List α) (n : Nat) : onceI l (n + 1) = onceI l n ++ if onceB l n = true then [n] else [] := by
  rw [onceI, List.range_succ, List.filter_append, onceI]
  congr 1
  simp [List.filter_cons]
theorem onceI_le {α : Type} [DecidableEq α] (l : List α) (n : Nat) : (onceI l n).length ≤ n := by
  have := List.length_filter_le (onceB l) (List.range n)
  rw [List.length_range] at this; exact this
theorem onceI_app {α : Type} [DecidableEq α] (l m : List α) : onceI (l ++ m) l.length = onceI l l.length := by
  unfold onceI
  apply List.filter_congr
  intro i hi
  have hi' := List.mem_range.1 hi
  unfold onceB
  rw [List.getElem?_append_left hi', List.take_append_of_le_length (by omega)]
theorem onceI_snoc {α : Type} [DecidableEq α] (l : List α) (x : α) : onceI (l ++ [x]) (l ++ [x]).length = onceI l l.length ++ if x ∈ l then [] else [l.length] := by
  rw [List.length_append, List.length_singleton, onceI_succ, onceI_app, onceB_at (x := x) (by simp)]
  congr 1
  by_cases h : x ∈ l <;> simp [h]
theorem onceI_map {α β : Type} [DecidableEq α] [DecidableEq β] (f : α → β) (l : List α) (hf : ∀ x ∈ l, ∀ y ∈ l, f x = f y → x = y) (n : Nat) : onceI (l.map f) n = onceI l n := by
  unfold onceI
  apply List.filter_congr
  intro i _
  unfold onceB
  rw [List.getElem?_map]
  cases hx : l[i]? with
  | none => rfl
  | some x =>
    have hxm := List.mem_of_getElem? hx
    simp only [Option.map_some]
    congr 1
    rw [decide_eq_decide, ← List.map_take, List.mem_map]
    constructor
    · rintro ⟨y, hy, e⟩
      rw [← hf y (List.mem_of_mem_take hy) x hxm e]; exact hy
    · exact fun hy => ⟨x, hy, rfl⟩
end Go.Proofs.YtcnffdgmdeflmaaDoor
