/- Records of a chain: their cells, in plain Lean. -/
import Derived.Test.YtgjjpijcakafhaaCodecP
import Derived.Test.YtgjjpijcakafhaaGDigestS
namespace Go.Proofs.Ytgjjpijcakafhaa
open Go.RowKit
structure Rec where
  num : Int
  time : Int
  kind : Int
  body : List UInt8
  before : List UInt8
def recC (r : Rec) : List Value := [.int .i64 r.num, .int .i64 r.time, .int .i64 r.kind, .string ⟨r.body.toArray⟩, .string ⟨r.before.toArray⟩]
def recV (r : Rec) : Value := .agg #[.int .i64 r.num, .int .i64 r.time, .int .i64 r.kind, .string ⟨r.body.toArray⟩, .string ⟨r.before.toArray⟩]
def recs (l : List Rec) : List Value := l.flatMap recC
theorem recs_length (l : List Rec) : (recs l).length = l.length * 5 := by
  induction l with
  | nil => rfl
  | cons r l ih => show (recC r ++ recs l).length = _; rw [List.length_append, ih, List.length_cons]; simp [recC]; omega
theorem recs_append (a b : List Rec) : recs (a ++ b) = recs a ++ recs b := by simp [recs]
theorem recs_one (l : List Rec) : ∀ u ∈ recs l, u.oneCell' = true := by
  intro u hu
  obtain ⟨r, _, hr⟩ := List.mem_flatMap.1 hu
  simp [recC] at hr
  rcases hr with rfl | rfl | rfl | rfl | rfl <;> rfl
theorem recs_get {l : List Rec} {k : Nat} {r : Rec} (h : l[k]? = some r) {f : Nat} (hf : f < 5) : (recs l)[k * 5 + f]? = (recC r)[f]? := by
  induction l generalizing k with
  | nil => simp at h
  | cons x l ih =>
    show (recC x ++ recs l)[k * 5 + f]? = _
    have hx : (recC x).length = 5 := rfl
    cases k with
    | zero =>
      simp at h; subst h
      rw [List.getElem?_append_left (by omega)]
      simp
    | succ k =>
      rw [List.getElem?_append_right (by omega), show (k + 1) * 5 + f - (recC x).length = k * 5 + f by rw [hx]; omega]
      exact ih (by simpa using h)
/-- numbers of 64 bits -/
structure Rec.In (r : Rec) : Prop where
  num : -9223372036854775808 ≤ r.num ∧ r.num ≤ 9223372036854775807
  time : -9223372036854775808 ≤ r.time ∧ r.time ≤ 9223372036854775807
  kind : -9223372036854775808 ≤ r.kind ∧ r.kind ≤ 9223372036854775807
/-- the bytes whose sum is the digest -/
def recB (r : Rec) : List UInt8 := putInt r.num ++ putInt r.time ++ putInt r.kind ++ putText r.body ++ putText r.before
def digF (r : Rec) : List UInt8 := sha (recB r)
/-- the digest and the time of the last record -/
def lastF (l : List Rec) : List UInt8 × Int := match l.getLast? with
  | none => ([], 0)
  | some r => (digF r, r.time)
/-- what is wrong with a record that is to be the next one -/
def followsF (l : List Rec) (r : Rec) : Int :=
  if 1024 ≤ l.length ∨ 16384 < r.body.length then 3
  else if r.num ≠ (l.length : Int) ∨ r.before ≠ (lastF l).1 then 15
  else if ¬ (0 ≤ r.time ∧ r.time ≤ 1099511627776) ∨ r.time < (lastF l).2 then 16
  else if ¬ (1 ≤ r.kind ∧ r.kind ≤ 7) then 2
  else 0
/-- the first record behind the first k that is not right -/
def checkFrom (l : List Rec) : Nat → Nat → Int × Int
  | 0, _ => (0, 0)
  | n + 1, k => match l[k]? with
    | none => (0, 0)
    | some r => if followsF (l.take k) r = 0 then checkFrom l n (k + 1) else ((k : Int), followsF (l.take k) r)
def checkF (l : List Rec) : Int × Int := checkFrom l l.length 0
/-- the first k are right -/
def Right (l : List Rec) (k : Nat) : Prop := ∀ i r, i < k → l[i]? = some r → followsF (l.take i) r = 0
theorem Right.zero (l : List Rec) : Right l 0 := fun i r h => by omega
theorem Right.succ {l : List Rec} {k : Nat} {r : Rec} (h : Right l k) (hr : l[k]? = some r) (hf : followsF (l.take k) r = 0) : Right l (k + 1) := fun i x hi hx => by
  by_cases hik : i = k
  · subst hik; rw [hr] at hx; cases hx; exact hf
  · exact h i x (by omega) hx
theorem Right.len {l : List Rec} {k : Nat} (h : Right l k) (hk : k ≤ l.length) : k ≤ 1024 := by
  by_cases h0 : k = 0
  · omega
  · have hl : k - 1 < l.length := by omega
    have := h (k - 1) l[k - 1] (by omega) (List.getElem?_eq_getElem hl)
    unfold followsF at this
    split at this
    · omega
    · rename_i hn
      rw [List.length_take] at hn; omega
theorem checkFrom_right {l : List Rec} (n k : Nat) (h : ∀ i r, k ≤ i → i < k + n → l[i]? = some r → followsF (l.take i) r = 0) : checkFrom l n k = (0, 0) := by
  induction n generalizing k with
  | zero => rfl
  | succ n ih =>
    rw [checkFrom]
    split
    · rfl
    · rename_i r hr
      rw [if_pos (h k r (Nat.le_refl _) (by omega) hr)]
      exact ih (k + 1) (fun i r h1 h2 => h i r (by omega) (by omega))
theorem checkF_right {l : List Rec} (h : Right l l.length) : checkF l = (0, 0) := checkFrom_right _ _ fun i r _ h2 hr => h i r (by omega) hr
theorem checkFrom_no {l : List Rec} (n k m : Nat) (hkm : k ≤ m) (hm : m < k + n) {r : Rec} (hr : l[m]? = some r) (h : ∀ i r, k ≤ i → i < m → l[i]? = some r → followsF (l.take i) r = 0) (hf : followsF (l.take m) r ≠ 0) : checkFrom l n k = ((m : Int), followsF (l.take m) r) := by
  induction n generalizing k with
  | zero => omega
  | succ n ih =>
    rw [checkFrom]
    split
    · rename_i hn
      have := (List.getElem?_eq_some_iff.1 hr).1
      rw [List.getElem?_eq_none_iff] at hn; omega
    · rename_i x hx
      by_cases hkm2 : k = m
      · subst hkm2
        rw [hr] at hx; cases hx
        rw [if_neg hf]
      · rw [if_pos (h k x (Nat.le_refl _) (by omega) hx)]
        exact ih (k + 1) (by omega) (by omega) (fun i r h1 h2 => h i r (by omega) h2)
theorem checkF_no {l : List Rec} {m : Nat} {r : Rec} (hr : l[m]? = some r) (h : Right l m) (hf : followsF (l.take m) r ≠ 0) : checkF l = ((m : Int), followsF (l.take m) r) :=
  checkFrom_no _ _ m (Nat.zero_le _) (by have := (List.getElem?_eq_some_iff.1 hr).1; omega) hr (fun i r _ h2 => h i r h2) hf
theorem lastF_len (l : List Rec) : (lastF l).1.length ≤ 32 := by
  unfold lastF; split
  · simp
  · exact Nat.le_of_eq (sha_length _)
theorem follows_short {l : List Rec} {r : Rec} (h : followsF l r = 0) : r.body.length ≤ 16384 ∧ r.before.length ≤ 32 ∧ 0 ≤ r.time ∧ r.time ≤ 1099511627776 ∧ r.num = (l.length : Int) := by
  unfold followsF at h
  have hl := lastF_len l
  split at h
  · omega
  · split at h
    · omega
    · rename_i h1 h2
      split at h
      · omega
      · rename_i h3
        have hb : r.before = (lastF l).1 := Classical.byContradiction fun hn => h2 (.inr hn)
        rw [hb]
        omega
end Go.Proofs.Ytgjjpijcakafhaa
