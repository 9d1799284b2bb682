/- The plain law of numbers written in groups of seven bits: what is written is read again, and only that. No program in sight. -/
import Derived.Test.YtnahkfchcminpaaGreatDoorBase
namespace Go.Proofs.YtnahkfchcminpaaGreatDoor
open Go.RowKit

/-- the number without a sign -/
def zig (n : Int) : Nat := if 0 ≤ n then (2 * n).toNat else (-2 * n - 1).toNat
def zag (u : Nat) : Int := if u % 2 = 0 then ((u / 2 : Nat) : Int) else -((u / 2 : Nat) : Int) - 1
/-- its groups, the lowest first -/
def vint (u : Nat) : List UInt8 := if u < 128 then [UInt8.ofNat u] else UInt8.ofNat (u % 128 + 128) :: vint (u / 128)
  termination_by u
  decreasing_by omega
def putInt (n : Int) : List UInt8 := vint (zig n)

theorem vint_lt {u : Nat} (h : u < 128) : vint u = [UInt8.ofNat u] := by rw [vint, if_pos h]
theorem vint_ge {u : Nat} (h : ¬ u < 128) : vint u = UInt8.ofNat (u % 128 + 128) :: vint (u / 128) := by rw [vint, if_neg h]
theorem zig_lt {n : Int} (h1 : -9223372036854775808 ≤ n) (h2 : n ≤ 9223372036854775807) : zig n < 18446744073709551616 := by unfold zig; split <;> omega
theorem zag_zig (n : Int) : zag (zig n) = n := by unfold zig zag; split <;> split <;> omega
theorem zig_zag (u : Nat) : zig (zag u) = u := by unfold zig zag; split <;> split <;> omega
theorem vint_pos (u : Nat) : 0 < (vint u).length := by by_cases h : u < 128 <;> simp [vint_lt, vint_ge, h]
theorem vint_len : ∀ (k u : Nat), u < 128 ^ (k + 1) → (vint u).length ≤ k + 1
  | 0, u, h => by rw [vint_lt (by simpa using h)]; simp
  | k + 1, u, h => by
    by_cases h1 : u < 128
    · rw [vint_lt h1]; simp
    · rw [vint_ge h1]
      have := vint_len k (u / 128) (by rw [Nat.div_lt_iff_lt_mul (by omega)]; rw [Nat.pow_succ] at h; exact h)
      simp; omega
theorem vint_ten {u : Nat} (h : u < 18446744073709551616) : (vint u).length ≤ 10 := vint_len 9 u (by omega)

/-- reading: 'i' groups have been read, they are 'u'; the error's number, or the number and how many groups -/
def rd (i u : Nat) : List UInt8 → Nat ⊕ (Nat × Nat)
  | [] => .inl 5
  | c :: t => if i = 9 ∧ 1 < c.toNat then .inl 4 else if 128 ≤ c.toNat then rd (i + 1) (u + c.toNat % 128 * 128 ^ i) t
    else if c.toNat = 0 ∧ 0 < i then .inl 4 else .inr (u + c.toNat * 128 ^ i, i + 1)

/-- what 'Int' gives: the number, where it goes on, the error's number -/
def getInt (b : List UInt8) (at' : Int) : Int × Int × Int :=
  if at' < 0 ∨ (b.length : Int) < at' then (0, at', 2)
  else match rd 0 0 (b.drop at'.toNat) with
    | .inl e => (0, at', e)
    | .inr (u, k) => (zag u, at' + k, 0)
def getText (b : List UInt8) (at' : Int) : List UInt8 × Int × Int :=
  if (getInt b at').2.2 ≠ 0 then ([], at', (getInt b at').2.2)
  else if (getInt b at').1 < 0 then ([], at', 4)
  else if (b.length : Int) - (getInt b at').2.1 < (getInt b at').1 then ([], at', 5)
  else ((b.drop (getInt b at').2.1.toNat).take (getInt b at').1.toNat, (getInt b at').2.1 + (getInt b at').1, 0)
def items {α : Type} (f : Int → α × Int × Int) : Nat → Int → Int ⊕ (List α × Int)
  | 0, p => .inr ([], p)
  | n + 1, p => if (f p).2.2 ≠ 0 then .inl (f p).2.2 else match items f n (f p).2.1 with
    | .inl e => .inl e
    | .inr (l, q) => .inr ((f p).1 :: l, q)
def listOf {α : Type} (at' : Int) : Int ⊕ (List α × Int) → List α × Int × Int
  | .inl e => ([], at', e)
  | .inr (l, q) => (l, q, 0)
def getList {α : Type} (f : List UInt8 → Int → α × Int × Int) (most : Int) (b : List UInt8) (at' : Int) : List α × Int × Int :=
  if (getInt b at').2.2 ≠ 0 then ([], at', (getInt b at').2.2)
  else if (getInt b at').1 < 0 then ([], at', 4)
  else if most < (getInt b at').1 then ([], at', 3)
  else listOf at' (items (f b) (getInt b at').1.toNat (getInt b at').2.1)
def putText (s : List UInt8) : List UInt8 := putInt s.length ++ s
def putInts (l : List Int) : List UInt8 := putInt l.length ++ l.flatMap putInt
def putTexts (l : List (List UInt8)) : List UInt8 := putInt l.length ++ l.flatMap putText

theorem rd_end (k u : Nat) : rd k u [] = .inl 5 := rfl
theorem rd_top {k u c : Nat} {t : List UInt8} (hc : c < 256) (h : k = 9 ∧ 1 < c) : rd k u (UInt8.ofNat c :: t) = .inl 4 := by
  have e : (UInt8.ofNat c).toNat = c := by simp; omega
  rw [rd, e, if_pos h]
theorem rd_more {k u c : Nat} {t : List UInt8} (hc : c < 256) (h : ¬ (k = 9 ∧ 1 < c)) (h2 : 128 ≤ c) : rd k u (UInt8.ofNat c :: t) = rd (k + 1) (u + c % 128 * 128 ^ k) t := by
  have e : (UInt8.ofNat c).toNat = c := by simp; omega
  rw [rd, e, if_neg h, if_pos h2]
theorem rd_zero {k u c : Nat} {t : List UInt8} (hc : c < 256) (h : ¬ (k = 9 ∧ 1 < c)) (h2 : ¬ 128 ≤ c) (h3 : c = 0 ∧ 0 < k) : rd k u (UInt8.ofNat c :: t) = .inl 4 := by
  have e : (UInt8.ofNat c).toNat = c := by simp; omega
  rw [rd, e, if_neg h, if_neg h2, if_pos h3]
theorem rd_last {k u c : Nat} {t : List UInt8} (hc : c < 256) (h : ¬ (k = 9 ∧ 1 < c)) (h2 : ¬ 128 ≤ c) (h3 : ¬ (c = 0 ∧ 0 < k)) : rd k u (UInt8.ofNat c :: t) = .inr (u + c * 128 ^ k, k + 1) := by
  have e : (UInt8.ofNat c).toNat = c := by simp; omega
  rw [rd, e, if_neg h, if_neg h2, if_neg h3]
/-- the bound of what has been read -/
theorem rd_bound {k u c : Nat} (hu : u < 128 ^ k) (hc : c < 128) : u + c * 128 ^ k < 128 ^ (k + 1) := by
  have : c * 128 ^ k ≤ 127 * 128 ^ k := Nat.mul_le_mul_right _ (by omega)
  rw [Nat.pow_succ]; omega

theorem rd_in : ∀ (l : List UInt8) (i u v k : Nat), i ≤ 9 → u < 128 ^ i → rd i u l = .inr (v, k) → v < 18446744073709551616 ∧ i < k ∧ k ≤ i + l.length
  | [], i, u, v, k, _, _, h => by simp [rd] at h
  | c :: t, i, u, v, k, hi, hu, h => by
    have hc := c.toNat_lt
    rw [rd] at h
    split at h
    · simp at h
    · rename_i h1
      split at h
      · rename_i h2
        have := rd_in t (i + 1) _ v k (by omega) (rd_bound hu (by omega)) h
        simp only [List.length_cons]; omega
      · rename_i h2
        split at h
        · simp at h
        · simp only [Sum.inr.injEq, Prod.mk.injEq] at h
          obtain ⟨rfl, rfl⟩ := h
          refine ⟨?_, by omega, by simp⟩
          by_cases h9 : i = 9
          · subst h9
            have : c.toNat * 128 ^ 9 ≤ 1 * 128 ^ 9 := Nat.mul_le_mul_right _ (by omega)
            omega
          · have h3 := rd_bound (c := c.toNat) hu (by omega)
            have h4 : (128 : Nat) ^ (i + 1) ≤ 128 ^ 9 := Nat.pow_le_pow_right (by omega) (by omega)
            omega
theorem zag_in {u : Nat} (h : u < 18446744073709551616) : I64 (zag u) := by unfold zag I64; split <;> omega
theorem getInt_ok {b : List UInt8} {p n q : Int} (h : getInt b p = (n, q, 0)) : 0 ≤ p ∧ p < q ∧ q ≤ b.length ∧ I64 n := by
  unfold getInt at h
  split at h
  · simp at h
  · rename_i h1
    split at h
    · rename_i e he
      have : ∀ (l : List UInt8) (i u : Nat), rd i u l ≠ .inl 0 := by
        intro l
        induction l with
        | nil => intro i u; simp [rd]
        | cons c t ih =>
          intro i u
          rw [rd]
          split
          · simp
          · split
            · exact ih _ _
            · split <;> simp
      simp only [Prod.mk.injEq] at h
      obtain ⟨_, _, h⟩ := h
      obtain rfl : e = 0 := by omega
      exact absurd he (this _ _ _)
    · rename_i u k hu
      obtain ⟨h2, h3, h4⟩ := rd_in _ 0 0 u k (by omega) (by simp) hu
      simp only [Prod.mk.injEq] at h
      obtain ⟨rfl, rfl, _⟩ := h
      rw [List.length_drop] at h4
      exact ⟨by omega, by omega, by omega, zag_in h2⟩
theorem getInt_no {b : List UInt8} {p n q e : Int} (h : getInt b p = (n, q, e)) (he : e ≠ 0) : n = 0 ∧ q = p := by
  unfold getInt at h
  split at h
  · simp only [Prod.mk.injEq] at h; exact ⟨h.1.symm, h.2.1.symm⟩
  · split at h <;> simp only [Prod.mk.injEq] at h
    · exact ⟨h.1.symm, h.2.1.symm⟩
    · exact absurd h.2.2.symm he
end Go.Proofs.YtnahkfchcminpaaGreatDoor
