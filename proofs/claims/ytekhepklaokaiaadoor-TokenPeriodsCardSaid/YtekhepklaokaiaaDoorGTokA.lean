/- Offices: what was issued, what is right, where a row stands, what is left, what becomes of an issue: plain. No program in sight. -/
import Derived.Test.YtekhepklaokaiaaDoorRowsC
import Derived.Test.YtekhepklaokaiaaDoorGGrp
import Derived.Test.YtekhepklaokaiaaDoorDigestS
import Derived.Test.YtekhepklaokaiaaDoorNum
namespace Go.Proofs.YtekhepklaokaiaaDoor
open Go.RowKit
structure Iss where
  per : Int
  prd : Int
  cnt : Int
deriving DecidableEq
def isC (r : Iss) : List Value := [.int .i64 r.per, .int .i64 r.prd, .int .i64 r.cnt]
theorem isC_len (r : Iss) : (isC r).length = 3 := rfl
theorem isC_one (r : Iss) : ∀ u ∈ isC r, u.oneCell' = true := by
  intro u hu
  simp [isC] at hu
  rcases hu with rfl | rfl | rfl <;> rfl
/-- a row stands before a person and period -/
def ltI (r : Iss) (a b : Int) : Prop := r.per < a ∨ (r.per = a ∧ r.prd < b)
instance (r : Iss) (a b : Int) : Decidable (ltI r a b) := by unfold ltI; exact inferInstance
def rowI (r : Iss) (a b : Int) : Int := if r.per = a then r.prd - b else r.per - a
theorem rowI_neg (r : Iss) (a b : Int) : rowI r a b < 0 ↔ ltI r a b := by
  unfold rowI ltI; split <;> omega
theorem rowI_zero (r : Iss) (a b : Int) : rowI r a b = 0 ↔ r.per = a ∧ r.prd = b := by
  unfold rowI; split <;> omega
/-- row i is right behind those before it -/
def iOk (l : List Iss) (i : Nat) (r : Iss) : Prop :=
  (1 ≤ r.per ∧ r.per ≤ 1048576) ∧ (0 ≤ r.prd ∧ r.prd ≤ 1099511627776) ∧ (1 ≤ r.cnt ∧ r.cnt ≤ 1000) ∧ ∀ x, 0 < i → l[i - 1]? = some x → ltI x r.per r.prd
/-- the first k rows are right -/
def IGood (l : List Iss) (k : Nat) : Prop := ∀ i r, i < k → l[i]? = some r → iOk l i r
theorem IGood.zero (l : List Iss) : IGood l 0 := fun i r h => by omega
theorem IGood.succ {l : List Iss} {k : Nat} {r : Iss} (h : IGood l k) (hr : l[k]? = some r) (hf : iOk l k r) : IGood l (k + 1) := fun i x hi hx => by
  by_cases hik : i = k
  · subst hik; rw [hr] at hx; cases hx; exact hf
  · exact h i x (by omega) hx
/-- strictly ascending -/
theorem IGood.mono {l : List Iss} (h : IGood l l.length) : ∀ (j i : Nat) (x y : Iss), i < j → l[i]? = some x → l[j]? = some y → ltI x y.per y.prd := by
  intro j
  induction j with
  | zero => intro i x y h1; omega
  | succ j ih =>
    intro i x y hij hx hy
    have hj := (List.getElem?_eq_some_iff.1 hy).1
    have hz : l[j]? = some l[j] := List.getElem?_eq_getElem (by omega)
    have h1 := (h (j + 1) y (by omega) hy).2.2.2 l[j] (by omega) (by rw [Nat.add_sub_cancel]; exact hz)
    by_cases e : i = j
    · subst e; rw [hz] at hx; cases hx; exact h1
    · have := ih i x l[j] (by omega) hx hz
      unfold ltI at *; omega
/-- the office's numbers are right -/
def offOk (p : Int) (key quota : Int) : Prop := safeP p = true ∧ (1 ≤ key ∧ key ≤ p - 1) ∧ (0 ≤ quota ∧ quota ≤ 1000)
open Classical in
/-- what is wrong with an office -/
noncomputable def chkI (p key quota : Int) (l : List Iss) : Int := if offOk p key quota ∧ l.length ≤ 1024 ∧ IGood l l.length then 0 else 42
theorem chkI_ok {p key quota : Int} {l : List Iss} (h0 : offOk p key quota) (h1 : l.length ≤ 1024) (h : IGood l l.length) : chkI p key quota l = 0 := if_pos ⟨h0, h1, h⟩
theorem chkI_no {p key quota : Int} {l : List Iss} (h : ¬ (offOk p key quota ∧ l.length ≤ 1024 ∧ IGood l l.length)) : chkI p key quota l = 42 := if_neg h
theorem chkI_bad {p key quota : Int} {l : List Iss} {k : Nat} {r : Iss} (hr : l[k]? = some r) (h : ¬ iOk l k r) : chkI p key quota l = 42 :=
  chkI_no fun ⟨_, _, hg⟩ => h (hg k r (List.getElem?_eq_some_iff.1 hr).1 hr)
theorem chkI_long {p key quota : Int} {l : List Iss} (h : 1024 < l.length) : chkI p key quota l = 42 := chkI_no fun ⟨_, h1, _⟩ => by omega
theorem chkI_off {p key quota : Int} {l : List Iss} (h : ¬ offOk p key quota) : chkI p key quota l = 42 := chkI_no fun ⟨h1, _⟩ => h h1
theorem chkI_cases (p key quota : Int) (l : List Iss) : (chkI p key quota l = 0 ∧ offOk p key quota ∧ l.length ≤ 1024 ∧ IGood l l.length) ∨ chkI p key quota l = 42 := by
  by_cases h : offOk p key quota ∧ l.length ≤ 1024 ∧ IGood l l.length
  · exact .inl ⟨if_pos h, h⟩
  · exact .inr (if_neg h)
/-- how many rows stand before those of a person and period -/
def posI : List Iss → Int → Int → Nat
  | [], _, _ => 0
  | r :: l, a, b => if ltI r a b then posI l a b + 1 else 0
theorem posI_le (l : List Iss) (a b : Int) : posI l a b ≤ l.length := by
  induction l with
  | nil => exact Nat.le_refl _
  | cons r l ih => rw [posI]; split <;> simp <;> omega
theorem posI_lt (l : List Iss) (a b : Int) : ∀ i r, i < posI l a b → l[i]? = some r → ltI r a b := by
  induction l with
  | nil => intro i r hi; simp [posI] at hi
  | cons x l ih =>
    intro i r hi hr
    rw [posI] at hi
    split at hi
    · rename_i hx
      cases i with
      | zero => simp at hr; rw [← hr]; exact hx
      | succ i => exact ih i r (by omega) (by simpa using hr)
    · omega
theorem posI_ge (l : List Iss) (a b : Int) : ∀ r, l[posI l a b]? = some r → ¬ ltI r a b := by
  induction l with
  | nil => intro r hr; simp at hr
  | cons x l ih =>
    intro r hr
    rw [posI] at hr
    split at hr
    · exact ih r (by simpa using hr)
    · rename_i hx; simp at hr; rw [← hr]; exact hx
theorem posI_eq {l : List Iss} {a b : Int} {k : Nat} (hk : k ≤ l.length) (h1 : ∀ i r, i < k → l[i]? = some r → ltI r a b) (h2 : ∀ r, l[k]? = some r → ¬ ltI r a b) : posI l a b = k := by
  have hle := posI_le l a b
  rcases Nat.lt_trichotomy (posI l a b) k with h | h | h
  · have hx : l[posI l a b]? = some l[posI l a b] := List.getElem?_eq_getElem (by omega)
    exact absurd (h1 _ _ h hx) (posI_ge l a b _ hx)
  · exact h
  · have hx : l[k]? = some l[k] := List.getElem?_eq_getElem (by omega)
    exact absurd (posI_lt l a b _ _ h hx) (h2 _ hx)
/-- the row of a person and period stands there -/
def hasI (l : List Iss) (a b : Int) : Bool := match l[posI l a b]? with
  | some r => decide (r.per = a ∧ r.prd = b)
  | none => false
theorem hasI_at {l : List Iss} {a b : Int} {r : Iss} (h : l[posI l a b]? = some r) : hasI l a b = decide (r.per = a ∧ r.prd = b) := by rw [hasI, h]
theorem hasI_end {l : List Iss} {a b : Int} (h : posI l a b = l.length) : hasI l a b = false := by rw [hasI, h, List.getElem?_eq_none (Nat.le_refl _)]
theorem hasI_some {l : List Iss} {a b : Int} (h : hasI l a b = true) : ∃ r, l[posI l a b]? = some r ∧ r.per = a ∧ r.prd = b := by
  rw [hasI] at h
  split at h
  · rename_i r hr; exact ⟨r, hr, of_decide_eq_true h⟩
  · cases h
/-- where a row with these numbers stands, if one does -/
theorem posI_at {l : List Iss} (hG : IGood l l.length) {k : Nat} {r : Iss} (hr : l[k]? = some r) : posI l r.per r.prd = k :=
  posI_eq (Nat.le_of_lt (List.getElem?_eq_some_iff.1 hr).1) (fun i x hi hx => hG.mono k i x r hi hx hr) (fun x hx => by rw [hr] at hx; cases hx; unfold ltI; omega)
theorem hasI_false {l : List Iss} (hG : IGood l l.length) {a b : Int} (h : hasI l a b = false) : ∀ (k : Nat) (r : Iss), l[k]? = some r → ¬ (r.per = a ∧ r.prd = b) := fun k r hr ⟨e1, e2⟩ => by
  have := posI_at hG hr
  rw [e1, e2] at this
  rw [hasI, this, hr] at h
  simp only [decide_eq_false_iff_not] at h
  exact h ⟨e1, e2⟩
/-- how many tokens are left -/
def leftI (quota : Int) (l : List Iss) (a b : Int) : Int := match l[posI l a b]? with
  | some r => if r.per = a ∧ r.prd = b then max 0 (quota - r.cnt) else quota
  | none => quota
theorem leftI_has {quota : Int} {l : List Iss} {a b : Int} {r : Iss} (h : l[posI l a b]? = some r) (h1 : r.per = a ∧ r.prd = b) : leftI quota l a b = max 0 (quota - r.cnt) := by
  rw [leftI, h]; exact if_pos h1
theorem leftI_not {quota : Int} {l : List Iss} {a b : Int} (h : hasI l a b = false) : leftI quota l a b = quota := by
  rw [leftI]
  rw [hasI] at h
  split
  · rename_i r hr
    rw [hr] at h
    exact if_neg (of_decide_eq_false h)
  · rfl
/-- what becomes of an issue: the rows, the answer, the error -/
noncomputable def issF (p key quota : Int) (l : List Iss) (a b x : Int) : List Iss × Int × Int :=
  if chkI p key quota l ≠ 0 then (l, 0, 42)
  else if ¬ ((1 ≤ a ∧ a ≤ 1048576) ∧ (0 ≤ b ∧ b ≤ 1099511627776)) then (l, 0, 2)
  else if x = 1 ∨ memZ p.toNat x = false then (l, 0, 1)
  else if leftI quota l a b = 0 then (l, 0, 43)
  else match l[posI l a b]? with
    | some r => if r.per = a ∧ r.prd = b then (l.set (posI l a b) ⟨a, b, r.cnt + 1⟩, ((gpw p.toNat x.toNat key : Nat) : Int), 0)
      else if 1024 ≤ l.length then (l, 0, 3) else (l.take (posI l a b) ++ ⟨a, b, 1⟩ :: l.drop (posI l a b), ((gpw p.toNat x.toNat key : Nat) : Int), 0)
    | none => if 1024 ≤ l.length then (l, 0, 3) else (l.take (posI l a b) ++ ⟨a, b, 1⟩ :: l.drop (posI l a b), ((gpw p.toNat x.toNat key : Nat) : Int), 0)
section
variable {p key quota : Int} {l : List Iss} {a b x : Int}
theorem issF_bad (h : chkI p key quota l ≠ 0) : issF p key quota l a b x = (l, 0, 42) := if_pos h
theorem issF_range (h : chkI p key quota l = 0) (h2 : ¬ ((1 ≤ a ∧ a ≤ 1048576) ∧ (0 ≤ b ∧ b ≤ 1099511627776))) : issF p key quota l a b x = (l, 0, 2) := by rw [issF, if_neg (by simp [h]), if_pos h2]
theorem issF_member (h : chkI p key quota l = 0) (h2 : (1 ≤ a ∧ a ≤ 1048576) ∧ (0 ≤ b ∧ b ≤ 1099511627776)) (h3 : x = 1 ∨ memZ p.toNat x = false) : issF p key quota l a b x = (l, 0, 1) := by
  rw [issF, if_neg (by simp [h]), if_neg (fun h => h h2), if_pos h3]
theorem issF_spent (h : chkI p key quota l = 0) (h2 : (1 ≤ a ∧ a ≤ 1048576) ∧ (0 ≤ b ∧ b ≤ 1099511627776)) (h3 : ¬ (x = 1 ∨ memZ p.toNat x = false)) (h4 : leftI quota l a b = 0) : issF p key quota l a b x = (l, 0, 43) := by
  rw [issF, if_neg (by simp [h]), if_neg (fun h => h h2), if_neg h3, if_pos h4]
theorem issF_more (h : chkI p key quota l = 0) (h2 : (1 ≤ a ∧ a ≤ 1048576) ∧ (0 ≤ b ∧ b ≤ 1099511627776)) (h3 : ¬ (x = 1 ∨ memZ p.toNat x = false)) (h4 : leftI quota l a b ≠ 0) {r : Iss} (hr : l[posI l a b]? = some r) (h5 : r.per = a ∧ r.prd = b) :
    issF p key quota l a b x = (l.set (posI l a b) ⟨a, b, r.cnt + 1⟩, ((gpw p.toNat x.toNat key : Nat) : Int), 0) := by
  rw [issF, if_neg (by simp [h]), if_neg (fun h => h h2), if_neg h3, if_neg h4, hr]; exact if_pos h5
theorem issF_full (h : chkI p key quota l = 0) (h2 : (1 ≤ a ∧ a ≤ 1048576) ∧ (0 ≤ b ∧ b ≤ 1099511627776)) (h3 : ¬ (x = 1 ∨ memZ p.toNat x = false)) (h4 : leftI quota l a b ≠ 0) (h5 : hasI l a b = false) (h6 : 1024 ≤ l.length) :
    issF p key quota l a b x = (l, 0, 3) := by
  rw [issF, if_neg (by simp [h]), if_neg (fun h => h h2), if_neg h3, if_neg h4]
  rw [hasI] at h5
  split
  · rename_i r hr
    rw [hr] at h5
    rw [if_neg (of_decide_eq_false h5), if_pos h6]
  · rw [if_pos h6]
theorem issF_new (h : chkI p key quota l = 0) (h2 : (1 ≤ a ∧ a ≤ 1048576) ∧ (0 ≤ b ∧ b ≤ 1099511627776)) (h3 : ¬ (x = 1 ∨ memZ p.toNat x = false)) (h4 : leftI quota l a b ≠ 0) (h5 : hasI l a b = false) (h6 : l.length < 1024) :
    issF p key quota l a b x = (l.take (posI l a b) ++ ⟨a, b, 1⟩ :: l.drop (posI l a b), ((gpw p.toNat x.toNat key : Nat) : Int), 0) := by
  rw [issF, if_neg (by simp [h]), if_neg (fun h => h h2), if_neg h3, if_neg h4]
  rw [hasI] at h5
  split
  · rename_i r hr
    rw [hr] at h5
    rw [if_neg (of_decide_eq_false h5), if_neg (by omega)]
  · rw [if_neg (by omega)]
end
/-- the square of a text -/
def sqx (p : Nat) (s : List UInt8) : Nat := 2 + num7 (sha s) 7 % (2 * p - 2)
def sqrF (p : Nat) (s : List UInt8) : Nat := sqx p s * sqx p s % (2 * p + 1)
theorem sqx_bd {p : Nat} (hp : 3 ≤ p) (s : List UInt8) : 2 ≤ sqx p s ∧ sqx p s ≤ 2 * p - 1 := by
  have := Nat.mod_lt (num7 (sha s) 7) (show 0 < 2 * p - 2 by omega)
  unfold sqx; omega
theorem sqrF_lt (p : Nat) (s : List UInt8) : sqrF p s < 2 * p + 1 := Nat.mod_lt _ (by omega)
end Go.Proofs.YtekhepklaokaiaaDoor
