/- Fields and bytes as elements: plain. No program in sight. -/
import Derived.Test.YtpbhendndelonaaDoorBase
namespace Go.Proofs.YtpbhendndelonaaDoor
open Go.RowKit
/-! ### The test of Miller and Rabin -/
def pwF (p : Int) : Nat → Int → Int → Nat → Int
  | 0, out, _, _ => out
  | f + 1, out, a, n => if n = 0 then out else pwF p f (if n % 2 = 1 then out * a % p else out) (a * a % p) (n / 2)
def powF (p a : Int) (n : Nat) : Int := pwF p 64 (1 % p) a n
theorem pwF_zero (p : Int) (f : Nat) (out a : Int) : pwF p f out a 0 = out := by cases f <;> simp [pwF]
theorem pwF_fuel (p : Int) : ∀ f n out a, n < 2 ^ f → pwF p (f + 1) out a n = pwF p f out a n
  | 0, n, out, a, h => by
    have : n = 0 := by simpa using h
    subst this; simp [pwF]
  | f + 1, n, out, a, h => by
    conv => lhs; rw [pwF]
    conv => rhs; rw [pwF]
    by_cases h0 : n = 0
    · rw [if_pos h0, if_pos h0]
    · rw [if_neg h0, if_neg h0]
      exact pwF_fuel p f _ _ _ (by rw [Nat.pow_succ] at h; omega)
def odF : Nat → Nat → Nat → Nat × Nat
  | 0, o, t => (o, t)
  | f + 1, o, t => if o % 2 = 0 then odF f (o / 2) (t + 1) else (o, t)
def sqF (p : Int) : Nat → Int → Bool
  | 0, _ => false
  | k + 1, x => if x * x % p = p - 1 then true else sqF p k (x * x % p)
def passF (p b : Int) : Bool :=
  let x := powF p (b % p) (odF 31 (p - 1).toNat 0).1
  x == 1 || x == 0 || x == p - 1 || sqF p ((odF 31 (p - 1).toNat 0).2 - 1) x
def basesL : List Int := [2, 3, 5, 7]
def vlF (p : Int) : List Int → Bool
  | [] => true
  | b :: bs => if p = b then true else if p % b = 0 || !passF p b then false else vlF p bs
/-! ### Bytes as elements -/
def widthF (p : Int) : Nat := if p < 256 then 0 else if p < 65536 then 1 else if p < 16777216 then 2 else 3
def countF (w len : Nat) : Nat := if w = 0 then 8 * len else len / w + min (len % w) 1
/-- the bits of a byte from the left: n of them -/
def bitsF (c : UInt8) : Nat → List Int
  | 0 => []
  | n + 1 => bitsF c n ++ [((c.toNat / 2 ^ (7 - n) % 2 : Nat) : Int)]
def bits8 (c : UInt8) : List Int := bitsF c 8
theorem bitsF_length (c : UInt8) (n : Nat) : (bitsF c n).length = n := by induction n with | zero => rfl | succ n ih => simp [bitsF, ih]
def bitsL (s : List UInt8) (k : Nat) : List Int := (s.take k).flatMap bits8
theorem bitsL_succ {s : List UInt8} {k : Nat} {x : UInt8} (h : Hid (s[k]? = some x)) : bitsL s (k + 1) = bitsL s k ++ bits8 x := by
  rw [bitsL, take_at h, List.flatMap_append]; simp [bitsL]
theorem bitsL_length (s : List UInt8) : ∀ k, k ≤ s.length → (bitsL s k).length = 8 * k
  | 0, _ => by simp [bitsL]
  | k + 1, hk => by
    have h : Hid (s[k]? = some s[k]) := List.getElem?_eq_getElem (by omega)
    rw [bitsL_succ h, List.length_append, bitsL_length s k (by omega), bits8, bitsF_length]; omega
/-- the first n bytes as a number -/
def numB (l : List UInt8) : Nat → Nat
  | 0 => 0
  | n + 1 => numB l n * 256 + bt l n
theorem numB_lt (l : List UInt8) (n : Nat) : numB l n < 256 ^ n := by
  induction n with
  | zero => simp [numB]
  | succ n ih => have := bt_lt l n; rw [numB, Nat.pow_succ]; omega
/-- the elements of bytes, w bytes each -/
def chunkF (w : Nat) : Nat → List UInt8 → List Int
  | 0, _ => []
  | f + 1, s => if s.length = 0 then [] else (numB s (min w s.length) : Int) :: chunkF w f (s.drop (min w s.length))
theorem chunkF_nil (w f : Nat) : chunkF w f [] = [] := by cases f <;> simp [chunkF]
theorem chunkF_fuel (w : Nat) (hw : 1 ≤ w) : ∀ f s, s.length ≤ f → chunkF w (f + 1) s = chunkF w f s
  | 0, s, h => by
    have : s = [] := List.eq_nil_of_length_eq_zero (by omega)
    subst this; simp [chunkF]
  | f + 1, s, h => by
    conv => lhs; rw [chunkF]
    conv => rhs; rw [chunkF]
    by_cases h0 : s.length = 0
    · rw [if_pos h0, if_pos h0]
    · rw [if_neg h0, if_neg h0, chunkF_fuel w hw f _ (by rw [List.length_drop]; omega)]
theorem chunkF_length (w : Nat) (hw : 1 ≤ w) : ∀ f s, s.length ≤ f → (chunkF w f s).length = countF w s.length
  | 0, s, h => by
    have : s.length = 0 := by omega
    rw [this]; simp [chunkF, countF]
  | f + 1, s, h => by
    rw [chunkF]
    by_cases h0 : s.length = 0
    · rw [if_pos h0, h0]; simp [countF]
    · rw [if_neg h0, List.length_cons, chunkF_length w hw f _ (by rw [List.length_drop]; omega), List.length_drop]
      unfold countF
      rw [if_neg (by omega), if_neg (by omega)]
      by_cases hw2 : w ≤ s.length
      · rw [Nat.min_eq_left hw2]
        have e : s.length = (s.length - w) + w := by omega
        have e1 : s.length / w = (s.length - w) / w + 1 := by conv => lhs; rw [e, Nat.add_div_right _ (by omega)]
        have e2 : s.length % w = (s.length - w) % w := by conv => lhs; rw [e, Nat.add_mod_right]
        rw [e1, e2]; omega
      · rw [Nat.min_eq_right (by omega), Nat.sub_self, Nat.div_eq_of_lt (show s.length < w by omega), Nat.mod_eq_of_lt (show s.length < w by omega)]
        simp; omega
theorem chunkF_bd (w : Nat) : ∀ f s x, x ∈ chunkF w f s → 0 ≤ x ∧ x < ((256 ^ w : Nat) : Int)
  | 0, s, x, h => by simp [chunkF] at h
  | f + 1, s, x, h => by
    rw [chunkF] at h
    split at h
    · simp at h
    · rcases List.mem_cons.1 h with rfl | h
      · have := numB_lt s (min w s.length)
        have h2 : 256 ^ (min w s.length) ≤ 256 ^ w := Nat.pow_le_pow_right (by omega) (by omega)
        exact ⟨by omega, by omega⟩
      · exact chunkF_bd w f _ x h
/-- the k bytes of a number -/
def bytesN (n : Nat) : Nat → List UInt8
  | 0 => []
  | k + 1 => UInt8.ofNat (n / 256 ^ k) :: bytesN n k
theorem bytesN_length (n k : Nat) : (bytesN n k).length = k := by induction k with | zero => rfl | succ k ih => simp [bytesN, ih]
/-- what elements of w bytes each hold, up to a length -/
def ubF (w length : Nat) : List Int → List UInt8 → Option (List UInt8)
  | [], out => some out
  | n :: ns, out => if n < 0 ∨ n.toNat / 256 ^ (min w (length - out.length)) ≠ 0 then none else ubF w length ns (out ++ bytesN n.toNat (min w (length - out.length)))
theorem ubF_length (w length : Nat) : ∀ l out r, ubF w length l out = some r → r.length = min length (out.length + w * l.length) ∨ length < out.length
  | [], out, r, h => by
    simp only [ubF, Option.some.injEq] at h
    subst h; simp; omega
  | n :: ns, out, r, h => by
    rw [ubF] at h
    split at h
    · simp at h
    · rcases ubF_length w length ns _ r h with h1 | h1
      · rw [List.length_append, bytesN_length] at h1
        rw [List.length_cons, Nat.mul_add]
        omega
      · rw [List.length_append, bytesN_length] at h1
        omega
theorem bytesN_step (m b : Nat) (hb : b < 256) : ∀ k, bytesN (m * 256 + b) (k + 1) = bytesN m k ++ [UInt8.ofNat b]
  | 0 => by
    simp only [bytesN, Nat.pow_zero, Nat.div_one, List.nil_append]
    congr 1
    apply UInt8.toNat_inj.1
    simp
  | k + 1 => by
    have ih := bytesN_step m b hb k
    conv => lhs; rw [bytesN]
    rw [ih]
    conv => rhs; rw [bytesN]
    rw [List.cons_append, Nat.pow_succ, Nat.mul_comm (256 ^ k) 256, ← Nat.div_div_eq_div_mul, show (m * 256 + b) / 256 = m by omega]
theorem bytesN_numB (s : List UInt8) : ∀ k, k ≤ s.length → bytesN (numB s k) k = s.take k
  | 0, _ => by simp [bytesN]
  | k + 1, h => by
    rw [numB, bytesN_step _ _ (bt_lt s k), bytesN_numB s k (by omega), List.take_add_one]
    congr 1
    rw [bt, List.getElem?_eq_getElem (show k < s.length by omega)]
    simp
theorem ubF_chunkF (w length : Nat) (hw : 1 ≤ w) : ∀ f s out, s.length ≤ f → out.length + s.length = length → ubF w length (chunkF w f s) out = some (out ++ s)
  | 0, s, out, h, _ => by
    have : s = [] := List.eq_nil_of_length_eq_zero (by omega)
    subst this; simp [chunkF, ubF]
  | f + 1, s, out, h, hl => by
    rw [chunkF]
    by_cases h0 : s.length = 0
    · have : s = [] := List.eq_nil_of_length_eq_zero h0
      subst this; simp [ubF]
    · have hk : min w (length - out.length) = min w s.length := by omega
      have hlt := numB_lt s (min w s.length)
      rw [if_neg h0, ubF, hk, Int.toNat_natCast, if_neg (by
        intro h
        rcases h with h | h
        · omega
        · exact h (Nat.div_eq_of_lt hlt)), bytesN_numB _ _ (by omega), ubF_chunkF w length hw f _ _ (by rw [List.length_drop]; omega) (by rw [List.length_append, List.length_take, List.length_drop]; omega), List.append_assoc, List.take_append_drop]
/-- the elements of a string -/
def packF (p : Int) (s : List UInt8) : List Int := if widthF p = 0 then bitsL s s.length else chunkF (widthF p) s.length s
theorem packF_length (p : Int) (s : List UInt8) : (packF p s).length = countF (widthF p) s.length := by
  unfold packF
  split
  · rename_i h; rw [bitsL_length s _ (Nat.le_refl _), countF, if_pos h]
  · exact chunkF_length _ (by omega) _ _ (Nat.le_refl _)
theorem bitsF_bd (c : UInt8) : ∀ n x, x ∈ bitsF c n → 0 ≤ x ∧ x < 2
  | 0, x, h => by simp [bitsF] at h
  | n + 1, x, h => by
    rw [bitsF, List.mem_append] at h
    rcases h with h | h
    · exact bitsF_bd c n x h
    · simp only [List.mem_singleton] at h
      subst h; omega
theorem packF_bd (p : Int) (hp : 2 ≤ p) (s : List UInt8) : ∀ x ∈ packF p s, 0 ≤ x ∧ x < p := by
  intro x hx
  unfold packF at hx
  split at hx
  · obtain ⟨c, _, hc⟩ := List.mem_flatMap.1 hx
    have := bitsF_bd c 8 x hc
    omega
  · have h := chunkF_bd _ _ _ x hx
    unfold widthF at h
    split at h
    · have : ((256 ^ 0 : Nat) : Int) = 1 := rfl
      omega
    · split at h
      · have : ((256 ^ 1 : Nat) : Int) = 256 := rfl
        omega
      · split at h
        · have : ((256 ^ 2 : Nat) : Int) = 65536 := rfl
          omega
        · have : ((256 ^ 3 : Nat) : Int) = 16777216 := rfl
          omega
/-- what byte j holds behind r bits -/
def partB (c : UInt8) (r : Nat) : UInt8 := UInt8.ofNat (c.toNat / 2 ^ (8 - r) * 2 ^ (8 - r))
theorem partB_0 (c : UInt8) : partB c 0 = 0 := by
  have := c.toNat_lt
  apply UInt8.toNat_inj.1
  simp [partB, Nat.div_eq_of_lt this]
theorem partB_8 (c : UInt8) : partB c 8 = c := by simp [partB]
theorem partB_step : ∀ c : Fin 256, ∀ r : Fin 8, (c.val / 2 ^ (8 - r.val) * 2 ^ (8 - r.val)) ||| (c.val / 2 ^ (7 - r.val) % 2 * 2 ^ (7 - r.val)) = c.val / 2 ^ (7 - r.val) * 2 ^ (7 - r.val) := by decide +kernel
end Go.Proofs.YtpbhendndelonaaDoor
