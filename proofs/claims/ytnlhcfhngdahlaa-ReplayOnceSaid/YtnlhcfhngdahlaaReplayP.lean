/- Guards of requests: rows, what is right, where a row stands, what becomes of a request: plain. No program in sight. -/
import Derived.Test.YtnlhcfhngdahlaaRowsC
import Derived.Test.YtnlhcfhngdahlaaCodecP
import Derived.Test.YtnlhcfhngdahlaaDigestS
namespace Go.Proofs.Ytnlhcfhngdahlaa
open Go.RowKit
structure Kpt where
  sen : Int
  cnt : Int
  mark : List UInt8
  ans : List UInt8
deriving DecidableEq
def kpC (r : Kpt) : List Value := [.int .i64 r.sen, .int .i64 r.cnt, .string ⟨r.mark.toArray⟩, .string ⟨r.ans.toArray⟩]
theorem kpC_len (r : Kpt) : (kpC r).length = 4 := rfl
theorem kpC_one (r : Kpt) : ∀ u ∈ kpC r, u.oneCell' = true := by
  intro u hu
  simp [kpC] at hu
  rcases hu with rfl | rfl | rfl | rfl <;> rfl
structure Kpt.In (r : Kpt) : Prop where
  sen : I64 r.sen
  cnt : I64 r.cnt
/-- row i is right behind those before it -/
def okAt (l : List Kpt) (i : Nat) (r : Kpt) : Prop :=
  (1 ≤ r.sen ∧ r.sen ≤ 1048576) ∧ (∀ x, 0 < i → l[i - 1]? = some x → x.sen < r.sen) ∧ (1 ≤ r.cnt ∧ r.cnt ≤ 1099511627776) ∧ r.mark.length = 32 ∧ r.ans.length ≤ 16384
/-- the first k rows are right -/
def Good (l : List Kpt) (k : Nat) : Prop := ∀ i r, i < k → l[i]? = some r → okAt l i r
theorem Good.zero (l : List Kpt) : Good l 0 := fun i r h => by omega
theorem Good.succ {l : List Kpt} {k : Nat} {r : Kpt} (h : Good l k) (hr : l[k]? = some r) (hf : okAt l k r) : Good l (k + 1) := fun i x hi hx => by
  by_cases hik : i = k
  · subst hik; rw [hr] at hx; cases hx; exact hf
  · exact h i x (by omega) hx
open Classical in
/-- what is wrong with a guard -/
noncomputable def chkG (l : List Kpt) : Int := if l.length ≤ 64 ∧ Good l l.length then 0 else 1
theorem chkG_ok {l : List Kpt} (h1 : l.length ≤ 64) (h : Good l l.length) : chkG l = 0 := if_pos ⟨h1, h⟩
theorem chkG_no {l : List Kpt} (h : ¬ (l.length ≤ 64 ∧ Good l l.length)) : chkG l = 1 := if_neg h
theorem chkG_bad {l : List Kpt} {k : Nat} {r : Kpt} (hr : l[k]? = some r) (h : ¬ okAt l k r) : chkG l = 1 :=
  chkG_no fun ⟨_, hg⟩ => h (hg k r (List.getElem?_eq_some_iff.1 hr).1 hr)
theorem chkG_long {l : List Kpt} (h : 64 < l.length) : chkG l = 1 := chkG_no fun ⟨h1, _⟩ => by omega
theorem chkG_cases (l : List Kpt) : (chkG l = 0 ∧ l.length ≤ 64 ∧ Good l l.length) ∨ chkG l = 1 := by
  by_cases h : l.length ≤ 64 ∧ Good l l.length
  · exact .inl ⟨if_pos h, h⟩
  · exact .inr (if_neg h)
/-- how many rows stand before those of a sender -/
def posF : List Kpt → Int → Nat
  | [], _ => 0
  | r :: l, s => if r.sen < s then posF l s + 1 else 0
theorem posF_le (l : List Kpt) (s : Int) : posF l s ≤ l.length := by
  induction l with
  | nil => exact Nat.le_refl _
  | cons r l ih => rw [posF]; split <;> simp <;> omega
theorem posF_lt (l : List Kpt) (s : Int) : ∀ i r, i < posF l s → l[i]? = some r → r.sen < s := by
  induction l with
  | nil => intro i r hi; simp [posF] at hi
  | cons x l ih =>
    intro i r hi hr
    rw [posF] at hi
    split at hi
    · rename_i hx
      cases i with
      | zero => simp at hr; rw [← hr]; exact hx
      | succ i => exact ih i r (by omega) (by simpa using hr)
    · omega
theorem posF_ge (l : List Kpt) (s : Int) : ∀ r, l[posF l s]? = some r → s ≤ r.sen := by
  induction l with
  | nil => intro r hr; simp at hr
  | cons x l ih =>
    intro r hr
    rw [posF] at hr
    split at hr
    · exact ih r (by simpa using hr)
    · simp at hr; rw [← hr]; omega
theorem posF_eq {l : List Kpt} {s : Int} {k : Nat} (hk : k ≤ l.length) (h1 : ∀ i r, i < k → l[i]? = some r → r.sen < s) (h2 : ∀ r, l[k]? = some r → s ≤ r.sen) : posF l s = k := by
  have hle := posF_le l s
  rcases Nat.lt_trichotomy (posF l s) k with h | h | h
  · have hx : l[posF l s]? = some l[posF l s] := List.getElem?_eq_getElem (by omega)
    have a := h1 _ _ h hx
    have b := posF_ge l s _ hx
    omega
  · exact h
  · have hx : l[k]? = some l[k] := List.getElem?_eq_getElem (by omega)
    have a := posF_lt l s _ _ h hx
    have b := h2 _ hx
    omega
/-- the row of a sender stands there -/
def hasF (l : List Kpt) (s : Int) : Bool := match l[posF l s]? with
  | some r => decide (r.sen = s)
  | none => false
theorem hasF_at {l : List Kpt} {s : Int} {r : Kpt} (h : l[posF l s]? = some r) : hasF l s = decide (r.sen = s) := by rw [hasF, h]
theorem hasF_end {l : List Kpt} {s : Int} (h : posF l s = l.length) : hasF l s = false := by rw [hasF, h, List.getElem?_eq_none (Nat.le_refl _)]
theorem hasF_some {l : List Kpt} {s : Int} (h : hasF l s = true) : ∃ r, l[posF l s]? = some r ∧ r.sen = s := by
  rw [hasF] at h
  split at h
  · rename_i r hr; exact ⟨r, hr, of_decide_eq_true h⟩
  · cases h
/-- strictly ascending -/
theorem Good.mono {l : List Kpt} (h : Good l l.length) : ∀ (j i : Nat) (x y : Kpt), i < j → l[i]? = some x → l[j]? = some y → x.sen < y.sen := by
  intro j
  induction j with
  | zero => intro i x y h1; omega
  | succ j ih =>
    intro i x y hij hx hy
    have hj := (List.getElem?_eq_some_iff.1 hy).1
    have hz : l[j]? = some l[j] := List.getElem?_eq_getElem (by omega)
    have h1 := (h (j + 1) y (by omega) hy).2.1 l[j] (by omega) (by rw [Nat.add_sub_cancel]; exact hz)
    by_cases e : i = j
    · subst e; rw [hz] at hx; cases hx; exact h1
    · have := ih i x l[j] (by omega) hx hz; omega
/-- the counter of a sender's next request -/
def nextF (l : List Kpt) (s : Int) : Int := match l[posF l s]? with
  | some r => if r.sen = s then r.cnt + 1 else 1
  | none => 1
structure Rq where
  sen : Int
  cnt : Int
  body : List UInt8
def rqV (r : Rq) : Value := .agg #[.int .i64 r.sen, .int .i64 r.cnt, .string ⟨r.body.toArray⟩]
def okRq (r : Rq) : Prop := (1 ≤ r.sen ∧ r.sen ≤ 1048576) ∧ (1 ≤ r.cnt ∧ r.cnt ≤ 1099511627776) ∧ r.body.length ≤ 16384
instance (r : Rq) : Decidable (okRq r) := by unfold okRq; exact inferInstance
def markF (r : Rq) : List UInt8 := sha (putInt r.sen ++ putInt r.cnt ++ putText r.body)
/-- what to do with a request: the answer, whether it is fresh, the error -/
noncomputable def lookF (l : List Kpt) (r : Rq) : List UInt8 × Bool × Int :=
  if chkG l ≠ 0 ∨ ¬ okRq r then ([], false, 1)
  else if r.cnt = nextF l r.sen then ([], true, 0)
  else match l[posF l r.sen]? with
    | some x => if x.sen = r.sen ∧ x.cnt = r.cnt ∧ x.mark = markF r then (x.ans, false, 0) else ([], false, 55)
    | none => ([], false, 55)
def newK (r : Rq) (a : List UInt8) : Kpt := ⟨r.sen, r.cnt, markF r, a⟩
/-- the rows behind a request that was carried out, and the error -/
noncomputable def doneF (l : List Kpt) (r : Rq) (a : List UInt8) : List Kpt × Int :=
  if (lookF l r).2.2 ≠ 0 then (l, (lookF l r).2.2)
  else if (lookF l r).2.1 = false then (l, 55)
  else if 16384 < a.length ∨ (hasF l r.sen = false ∧ 64 ≤ l.length) then (l, 3)
  else if hasF l r.sen = true then (l.set (posF l r.sen) (newK r a), 0)
  else (l.take (posF l r.sen) ++ [newK r a] ++ l.drop (posF l r.sen), 0)
end Go.Proofs.Ytnlhcfhngdahlaa
