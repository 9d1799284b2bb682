/- Conditions: when they hold, how many persons are needed at least. No program in sight. -/
import Derived.Test.YtpofijdkckaphaaGreatCndP
namespace Go.Proofs.YtpofijdkckaphaaGreat
structure Ans where
  field : List UInt8
  text : List UInt8
  number : Int
/-- a member; aa, ac: where the answers lie -/
structure Mem where
  person : List UInt8
  number : Int
  dept : Int
  day : Int
  ans : List Ans
  aa : Option Addr
  ac : Nat
/-- how many different ones -/
def dst {α : Type} [DecidableEq α] : List α → Nat
  | [] => 0
  | x :: l => (if x ∈ l then 0 else 1) + dst l
theorem dst_le {α : Type} [DecidableEq α] (l : List α) : dst l ≤ l.length := by
  induction l with
  | nil => exact Nat.le_refl _
  | cons x l ih => simp only [dst, List.length_cons]; split <;> omega
theorem dst_snoc {α : Type} [DecidableEq α] (l : List α) (x : α) : dst (l ++ [x]) = dst l + (if x ∈ l then 0 else 1) := by
  induction l with
  | nil => simp [dst]
  | cons y l ih =>
    have e1 : (y ∈ l ++ [x]) ↔ (y ∈ l ∨ y = x) := by simp
    have e2 : (x ∈ y :: l) ↔ (x = y ∨ x ∈ l) := by simp
    simp only [List.cons_append, dst, ih, e1, e2]
    by_cases h1 : y ∈ l
    · rw [if_pos (.inl h1), if_pos h1]
      by_cases h2 : x ∈ l
      · rw [if_pos h2, if_pos (.inr h2)]; omega
      · rw [if_neg h2, if_neg (fun h => h.elim (fun e => h2 (e ▸ h1)) h2)]; omega
    · by_cases h3 : y = x
      · subst h3
        rw [if_pos (.inr rfl), if_neg h1, if_pos (.inl rfl)]; omega
      · rw [if_neg (fun h => h.elim h1 h3), if_neg h1]
        by_cases h2 : x ∈ l
        · rw [if_pos h2, if_pos (.inr h2)]; omega
        · rw [if_neg h2, if_neg (fun h => h.elim (fun e => h3 e.symm) h2)]; omega
/-- who counts beside a member -/
def othF (l : List Mem) (me : Mem) : List Mem := l.filter fun m => decide (m.person ≠ me.person)
def saysB (f t : List UInt8) (m : Mem) : Bool := m.ans.any fun a => decide (a.field = f) && decide (a.text = t)
/-- wi a b y: two days are at most y years apart -/
def leafT (wi : Int → Int → Int → Bool) (t : Trm) (me : Mem) (oth : List Mem) : Bool :=
  if t.kind = 3 then decide (t.number ≤ 1 + (dst (oth.map Mem.person) : Int))
  else if t.kind = 4 then decide (t.number ≤ (dst (me.dept :: oth.map Mem.dept) : Int))
  else if t.kind = 5 then decide (t.number ≤ 1 + (dst ((oth.filter fun m => wi me.day m.day t.years).map Mem.person) : Int))
  else if t.kind = 6 then oth.any fun m => decide (m.number < me.number)
  else if t.kind = 7 then decide (t.number ≤ (if saysB t.field t.text me then 1 else 0) + (dst ((oth.filter fun m => saysB t.field t.text m).map Mem.person) : Int))
  else decide (t.kind = 8)
def holdsT (wi : Int → Int → Int → Bool) (T : List Trm) (me : Mem) (oth : List Mem) : Nat → Nat → Bool
  | 0, _ => false
  | f + 1, n => match T[n]? with
    | none => false
    | some t => if t.kind = 1 then t.args.all fun a => holdsT wi T me oth f a.toNat
      else if t.kind = 2 then t.args.any fun a => holdsT wi T me oth f a.toNat
      else leafT wi t me oth
/-- Term: a term of a condition, from the view of a member -/
def termF (wi : Int → Int → Int → Bool) (T : List Trm) (n : Int) (l : List Mem) (me : Int) : Bool :=
  if 0 ≤ me then match l[me.toNat]? with
    | none => false
    | some m => rightC T && (decide (0 ≤ n ∧ n < (T.length : Int)) && holdsT wi T m (othF l m) T.length n.toNat)
  else false
/-- Persons -/
def persF (l : List Mem) (me : Int) : Int := if 0 ≤ me then match l[me.toNat]? with
    | none => 0
    | some m => 1 + (dst ((othF l m).map Mem.person) : Int)
  else 0
/-- the fuel does not matter -/
theorem holdsT_fuel {wi : Int → Int → Int → Bool} {T : List Trm} {me : Mem} {oth : List Mem} (h : Seg T 0 T.length) : ∀ (f g n : Nat), T.length - n ≤ f → T.length - n ≤ g → holdsT wi T me oth f n = holdsT wi T me oth g n
  | 0, 0, _, _, _ => rfl
  | 0, g + 1, n, h1, _ => by
    have : T[n]? = none := List.getElem?_eq_none (by omega)
    simp [holdsT, this]
  | f + 1, 0, n, _, h2 => by
    have : T[n]? = none := List.getElem?_eq_none (by omega)
    simp [holdsT, this]
  | f + 1, g + 1, n, h1, h2 => by
    simp only [holdsT]
    cases ht : T[n]? with
    | none => rfl
    | some t =>
      have hn : n < T.length := (List.getElem?_eq_some_iff.1 ht).1
      obtain ⟨t', ht', -, ha⟩ := h n (Nat.zero_le _) hn
      rw [ht] at ht'
      cases ht'
      have e : ∀ a ∈ t.args, holdsT wi T me oth f a.toNat = holdsT wi T me oth g a.toNat := fun a hh => holdsT_fuel h f g a.toNat (by have := ha a hh; omega) (by have := ha a hh; omega)
      dsimp only
      have e1 : (t.args.all fun a => holdsT wi T me oth f a.toNat) = t.args.all fun a => holdsT wi T me oth g a.toNat := by
        rw [Bool.eq_iff_iff, List.all_eq_true, List.all_eq_true]
        exact ⟨fun x a hh => by rw [← e a hh]; exact x a hh, fun x a hh => by rw [e a hh]; exact x a hh⟩
      have e2 : (t.args.any fun a => holdsT wi T me oth f a.toNat) = t.args.any fun a => holdsT wi T me oth g a.toNat := by
        rw [Bool.eq_iff_iff, List.any_eq_true, List.any_eq_true]
        exact ⟨fun ⟨a, hh, x⟩ => ⟨a, hh, by rw [← e a hh]; exact x⟩, fun ⟨a, hh, x⟩ => ⟨a, hh, by rw [e a hh]; exact x⟩⟩
      rw [e1, e2]
def maxL : List Int → Int
  | [] => 0
  | x :: r => r.foldl max x
def minL : List Int → Int
  | [] => 0
  | x :: r => r.foldl min x
def leastT (T : List Trm) : Nat → Nat → Int
  | 0, _ => 0
  | f + 1, n => match T[n]? with
    | none => 0
    | some t => if t.kind = 1 then maxL (t.args.map fun a => leastT T f a.toNat)
      else if t.kind = 2 then minL (t.args.map fun a => leastT T f a.toNat)
      else if t.kind = 3 ∨ t.kind = 5 ∨ t.kind = 7 then t.number
      else if t.kind = 4 then min t.number 2
      else if t.kind = 6 then 2
      else 1
def leastF (T : List Trm) : Int := if rightC T = true then leastT T T.length 0 else 0
end Go.Proofs.YtpofijdkckaphaaGreat
