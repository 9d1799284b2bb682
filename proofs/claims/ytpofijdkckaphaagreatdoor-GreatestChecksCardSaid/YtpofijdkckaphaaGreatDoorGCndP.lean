/- Conditions: what the document says of terms, and of terms that stand in order. No program in sight. -/
import Derived.Test.YtpofijdkckaphaaGreatDoorBase
namespace Go.Proofs.YtpofijdkckaphaaGreatDoor
/-- a term; aa, ac: where its Args lie -/
structure Trm where
  kind : Int
  number : Int
  years : Int
  field : List UInt8
  text : List UInt8
  args : List Int
  aa : Option Addr
  ac : Nat
def letN (z : Nat) : Bool := decide (97 ≤ z ∧ z ≤ 122)
def inwN (z : Nat) : Bool := letN z || decide (48 ≤ z ∧ z ≤ 57) || decide (z = 95)
/-- the words of the language -/
def resv : List (List UInt8) := [[97, 108, 108], [97, 110, 121], [114, 101, 112, 111, 114, 116, 101, 114, 115], [100, 101, 112, 97, 114, 116, 109, 101, 110, 116, 115], [121, 101, 97, 114, 115], [119, 105, 116, 104, 105, 110], [110, 111, 116, 102, 105, 114, 115, 116], [115, 97, 121, 115], [97, 108, 119, 97, 121, 115], [111, 102]]
def nameF (s : List UInt8) : Bool := (decide (1 ≤ s.length) && decide (s.length ≤ 32)) && (letN (bt s 0) && (!(decide (s ∈ resv)) && s.all fun c => inwN c.toNat))
def countB (n : Int) : Bool := decide (1 ≤ n ∧ n ≤ 64)
def noF (t : Trm) : Bool := t.field.isEmpty && t.text.isEmpty
def bareF (t : Trm) : Bool :=
  if t.kind = 1 ∨ t.kind = 2 ∨ t.kind = 6 ∨ t.kind = 8 then (t.number == 0 && t.years == 0) && noF t
  else if t.kind = 3 ∨ t.kind = 4 then (countB t.number && t.years == 0) && noF t
  else if t.kind = 5 then (countB t.number && decide (0 ≤ t.years ∧ t.years ≤ 100)) && noF t
  else if t.kind = 7 then (countB t.number && nameF t.field) && (decide (1 ≤ t.text.length ∧ t.text.length ≤ 256) && (!(decide ((34 : UInt8) ∈ t.text)) && t.years == 0))
  else false
def sevB (k : Int) : Bool := decide (k = 1 ∨ k = 2)
def okT (t : Trm) : Bool := bareF t && (sevB t.kind == decide (0 < t.args.length)) && decide (t.args.length ≠ 1)
/-- behind the arguments k of a term -/
def growA (G : Nat → Option Nat) : List Int → Nat → Option Nat
  | [], nx => some nx
  | k :: r, nx => if k = (nx : Int) then match G nx with
    | some n2 => growA G r n2
    | none => none
    else none
/-- the number of the term behind those of one -/
def growT (T : List Trm) : Nat → Nat → Option Nat
  | 0, _ => none
  | d + 1, n => match T[n]? with
    | none => none
    | some t => if okT t = true then growA (growT T d) t.args (n + 1) else none
def rightC (T : List Trm) : Bool := decide (T.length ≤ 24) && (growT T 6 0 == some T.length)
theorem growA_append (G : Nat → Option Nat) (a b : List Int) (nx : Nat) : growA G (a ++ b) nx = match growA G a nx with
    | some m => growA G b m
    | none => none := by
  induction a generalizing nx with
  | nil => rfl
  | cons k r ih =>
    simp only [List.cons_append, growA]
    split
    · split
      · rw [ih]
      · rfl
    · rfl
theorem growA_snoc {G : Nat → Option Nat} {a : List Int} {nx m k : Nat} (h : growA G a nx = some m) : growA G (a ++ [(k : Int)]) nx = if k = m then G m else none := by
  rw [growA_append, h]
  by_cases e : k = m
  · subst e
    simp only [growA, if_true]
    cases G k <;> rfl
  · rw [if_neg e]
    simp only [growA]
    rw [if_neg (by omega)]
theorem growA_bad {G : Nat → Option Nat} {a : List Int} {nx m : Nat} {k : Int} (b : List Int) (h : growA G a nx = some m) (hk : k ≠ (m : Int)) : growA G (a ++ k :: b) nx = none := by
  rw [growA_append, h]
  simp only [growA]
  rw [if_neg hk]
theorem growA_fail {G : Nat → Option Nat} {a : List Int} {nx m : Nat} (b : List Int) (h : growA G a nx = some m) (hk : G m = none) : growA G (a ++ (m : Int) :: b) nx = none := by
  rw [growA_append, h]
  simp only [growA, if_true, hk]
theorem growA_next {G : Nat → Option Nat} {a : List Int} {nx m m' : Nat} (h : growA G a nx = some m) (hk : G m = some m') : growA G (a ++ [(m : Int)]) nx = some m' := by
  rw [growA_append, h]
  simp only [growA, if_true, hk]
/-- what stands from one number to another is right -/
def Seg (T : List Trm) (i m : Nat) : Prop := ∀ j, i ≤ j → j < m → ∃ t, T[j]? = some t ∧ okT t = true ∧ ∀ a ∈ t.args, (j : Int) < a ∧ a < (m : Int)
theorem Seg.join {T : List Trm} {i m m' : Nat} (h : Seg T i m) (h2 : Seg T m m') (hm : m ≤ m') : Seg T i m' := by
  intro j h3 h4
  by_cases hj : j < m
  · obtain ⟨t, ht, ho, ha⟩ := h j h3 hj
    exact ⟨t, ht, ho, fun a hh => ⟨(ha a hh).1, by have := (ha a hh).2; omega⟩⟩
  · exact h2 j (by omega) h4
theorem growA_seg {T : List Trm} {G : Nat → Option Nat} (hG : ∀ n m, G n = some m → n < m ∧ m ≤ T.length ∧ Seg T n m) : ∀ (l : List Int) (nx m : Nat), nx ≤ T.length → growA G l nx = some m → nx ≤ m ∧ m ≤ T.length ∧ Seg T nx m ∧ ∀ a ∈ l, (nx : Int) ≤ a ∧ a < (m : Int)
  | [], nx, m, hn, h => by
    simp only [growA, Option.some.injEq] at h
    subst h
    exact ⟨Nat.le_refl _, hn, fun j h1 h2 => by omega, fun a ha => by simp at ha⟩
  | k :: r, nx, m, hn, h => by
    simp only [growA] at h
    split at h
    · next hk =>
      split at h
      · next n2 hg =>
        obtain ⟨g1, g2, g3⟩ := hG _ _ hg
        obtain ⟨i1, i2, i3, i4⟩ := growA_seg hG r n2 m g2 h
        refine ⟨by omega, i2, g3.join i3 i1, fun a ha => ?_⟩
        rcases List.mem_cons.1 ha with rfl | ha
        · omega
        · have := i4 a ha; omega
      · cases h
    · cases h
theorem growT_seg (T : List Trm) : ∀ (d n m : Nat), growT T d n = some m → n < m ∧ m ≤ T.length ∧ Seg T n m
  | 0, n, m, h => by simp [growT] at h
  | d + 1, n, m, h => by
    simp only [growT] at h
    split at h
    · cases h
    · next t ht =>
      split at h
      · next ho =>
        have hn : n < T.length := (List.getElem?_eq_some_iff.1 ht).1
        obtain ⟨i1, i2, i3, i4⟩ := growA_seg (growT_seg T d) t.args (n + 1) m (by omega) h
        refine ⟨by omega, i2, fun j h1 h2 => ?_⟩
        by_cases hj : j = n
        · subst hj
          exact ⟨t, ht, ho, fun a ha => by have := i4 a ha; omega⟩
        · exact i3 j (by omega) h2
      · cases h
/-- a right condition: each term is right, its Args stand behind it -/
theorem right_all {T : List Trm} (h : rightC T = true) : T.length ≤ 24 ∧ 0 < T.length ∧ Seg T 0 T.length := by
  simp only [rightC, Bool.and_eq_true, decide_eq_true_eq, beq_iff_eq] at h
  obtain ⟨h1, h2, h3⟩ := growT_seg T 6 0 _ h.2
  exact ⟨h.1, h1, h3⟩
/-- the reference's say on a term by itself -/
def termR (t : Trm) : Bool :=
  if t.kind = 1 ∨ t.kind = 2 then decide (2 ≤ t.args.length) && (t.number == 0 && (t.years == 0 && noF t))
  else if t.kind = 3 ∨ t.kind = 4 then decide (t.args.length = 0) && (countB t.number && (t.years == 0 && noF t))
  else if t.kind = 5 then decide (t.args.length = 0) && (countB t.number && (decide (0 ≤ t.years ∧ t.years ≤ 100) && noF t))
  else if t.kind = 6 ∨ t.kind = 8 then decide (t.args.length = 0) && (t.number == 0 && (t.years == 0 && noF t))
  else if t.kind = 7 then decide (t.args.length = 0) && (countB t.number && (t.years == 0 && (nameF t.field && (decide (1 ≤ t.text.length ∧ t.text.length ≤ 256) && !(decide ((34 : UInt8) ∈ t.text))))))
  else false
theorem termR_ok (t : Trm) : termR t = okT t := by
  unfold termR okT bareF sevB
  have hl : ∀ b : Bool, (b && decide (t.args.length = 0)) = ((b && (false == decide (0 < t.args.length))) && decide (t.args.length ≠ 1)) := by
    intro b
    cases b
    · rfl
    · by_cases e : t.args.length = 0 <;> by_cases e1 : t.args.length = 1 <;> simp [e, e1, Nat.pos_iff_ne_zero]
  have hl2 : ∀ b : Bool, (decide (2 ≤ t.args.length) && b) = ((b && (true == decide (0 < t.args.length))) && decide (t.args.length ≠ 1)) := by
    intro b
    cases b
    · simp
    · have : (2 ≤ t.args.length) ↔ (0 < t.args.length ∧ ¬ t.args.length = 1) := by omega
      simp [this]
  by_cases k1 : t.kind = 1 ∨ t.kind = 2
  · have k2 : t.kind = 1 ∨ t.kind = 2 ∨ t.kind = 6 ∨ t.kind = 8 := by omega
    rw [if_pos k1, if_pos k2, decide_eq_true k1, ← hl2]
    cases (t.number == 0) <;> cases (t.years == 0) <;> simp
  · rw [if_neg k1, decide_eq_false k1, ← hl]
    by_cases k3 : t.kind = 3 ∨ t.kind = 4
    · rw [if_pos k3, if_neg (by omega), if_pos k3]
      cases (countB t.number) <;> cases (t.years == 0) <;> cases noF t <;> simp
    · rw [if_neg k3]
      by_cases k5 : t.kind = 5
      · rw [if_pos k5, if_neg (by omega), if_neg k3, if_pos k5]
        cases (countB t.number) <;> cases noF t <;> cases (decide (t.args.length = 0)) <;> cases (decide (0 ≤ t.years ∧ t.years ≤ 100)) <;> rfl
      · rw [if_neg k5]
        by_cases k6 : t.kind = 6 ∨ t.kind = 8
        · rw [if_pos k6, if_pos (by omega)]
          cases (t.number == 0) <;> cases (t.years == 0) <;> cases noF t <;> simp
        · rw [if_neg k6, if_neg (show ¬ (t.kind = 1 ∨ t.kind = 2 ∨ t.kind = 6 ∨ t.kind = 8) by omega), if_neg k3, if_neg k5]
          by_cases k7 : t.kind = 7
          · rw [if_pos k7, if_pos k7]
            cases (countB t.number) <;> cases (t.years == 0) <;> cases nameF t.field <;> cases (decide (t.args.length = 0)) <;> cases (decide (1 ≤ t.text.length ∧ t.text.length ≤ 256)) <;> cases (decide ((34 : UInt8) ∈ t.text)) <;> rfl
          · rw [if_neg k7, if_neg k7]; simp
end Go.Proofs.YtpofijdkckaphaaGreatDoor
/- Conditions: when they hold, how many persons are needed at least. No program in sight. -/
namespace Go.Proofs.YtpofijdkckaphaaGreatDoor
structure Ans where
  field : List UInt8
  text : List UInt8
  number : Int
/-- a member; aa, ac: where the answers lie -/
structure Mem where
  person : List UInt8
  number : Int
  dept : Int
  day : Int
  ans : List Ans
  aa : Option Addr
  ac : Nat
/-- how many different ones -/
def dst {α : Type} [DecidableEq α] : List α → Nat
  | [] => 0
  | x :: l => (if x ∈ l then 0 else 1) + dst l
theorem dst_le {α : Type} [DecidableEq α] (l : List α) : dst l ≤ l.length := by
  induction l with
  | nil => exact Nat.le_refl _
  | cons x l ih => simp only [dst, List.length_cons]; split <;> omega
theorem dst_snoc {α : Type} [DecidableEq α] (l : List α) (x : α) : dst (l ++ [x]) = dst l + (if x ∈ l then 0 else 1) := by
  induction l with
  | nil => simp [dst]
  | cons y l ih =>
    have e1 : (y ∈ l ++ [x]) ↔ (y ∈ l ∨ y = x) := by simp
    have e2 : (x ∈ y :: l) ↔ (x = y ∨ x ∈ l) := by simp
    simp only [List.cons_append, dst, ih, e1, e2]
    by_cases h1 : y ∈ l
    · rw [if_pos (.inl h1), if_pos h1]
      by_cases h2 : x ∈ l
      · rw [if_pos h2, if_pos (.inr h2)]; omega
      · rw [if_neg h2, if_neg (fun h => h.elim (fun e => h2 (e ▸ h1)) h2)]; omega
    · by_cases h3 : y = x
      · subst h3
        rw [if_pos (.inr rfl), if_neg h1, if_pos (.inl rfl)]; omega
      · rw [if_neg (fun h => h.elim h1 h3), if_neg h1]
        by_cases h2 : x ∈ l
        · rw [if_pos h2, if_pos (.inr h2)]; omega
        · rw [if_neg h2, if_neg (fun h => h.elim (fun e => h3 e.symm) h2)]; omega
/-- who counts beside a member -/
def othF (l : List Mem) (me : Mem) : List Mem := l.filter fun m => decide (m.person ≠ me.person)
def saysB (f t : List UInt8) (m : Mem) : Bool := m.ans.any fun a => decide (a.field = f) && decide (a.text = t)
/-- wi a b y: two days are at most y years apart -/
def leafT (wi : Int → Int → Int → Bool) (t : Trm) (me : Mem) (oth : List Mem) : Bool :=
  if t.kind = 3 then decide (t.number ≤ 1 + (dst (oth.map Mem.person) : Int))
  else if t.kind = 4 then decide (t.number ≤ (dst (me.dept :: oth.map Mem.dept) : Int))
  else if t.kind = 5 then decide (t.number ≤ 1 + (dst ((oth.filter fun m => wi me.day m.day t.years).map Mem.person) : Int))
  else if t.kind = 6 then oth.any fun m => decide (m.number < me.number)
  else if t.kind = 7 then decide (t.number ≤ (if saysB t.field t.text me then 1 else 0) + (dst ((oth.filter fun m => saysB t.field t.text m).map Mem.person) : Int))
  else decide (t.kind = 8)
def holdsT (wi : Int → Int → Int → Bool) (T : List Trm) (me : Mem) (oth : List Mem) : Nat → Nat → Bool
  | 0, _ => false
  | f + 1, n => match T[n]? with
    | none => false
    | some t => if t.kind = 1 then t.args.all fun a => holdsT wi T me oth f a.toNat
      else if t.kind = 2 then t.args.any fun a => holdsT wi T me oth f a.toNat
      else leafT wi t me oth
/-- Term: a term of a condition, from the view of a member -/
def termF (wi : Int → Int → Int → Bool) (T : List Trm) (n : Int) (l : List Mem) (me : Int) : Bool :=
  if 0 ≤ me then match l[me.toNat]? with
    | none => false
    | some m => rightC T && (decide (0 ≤ n ∧ n < (T.length : Int)) && holdsT wi T m (othF l m) T.length n.toNat)
  else false
/-- Persons -/
def persF (l : List Mem) (me : Int) : Int := if 0 ≤ me then match l[me.toNat]? with
    | none => 0
    | some m => 1 + (dst ((othF l m).map Mem.person) : Int)
  else 0
/-- the fuel does not matter -/
theorem holdsT_fuel {wi : Int → Int → Int → Bool} {T : List Trm} {me : Mem} {oth : List Mem} (h : Seg T 0 T.length) : ∀ (f g n : Nat), T.length - n ≤ f → T.length - n ≤ g → holdsT wi T me oth f n = holdsT wi T me oth g n
  | 0, 0, _, _, _ => rfl
  | 0, g + 1, n, h1, _ => by
    have : T[n]? = none := List.getElem?_eq_none (by omega)
    simp [holdsT, this]
  | f + 1, 0, n, _, h2 => by
    have : T[n]? = none := List.getElem?_eq_none (by omega)
    simp [holdsT, this]
  | f + 1, g + 1, n, h1, h2 => by
    simp only [holdsT]
    cases ht : T[n]? with
    | none => rfl
    | some t =>
      have hn : n < T.length := (List.getElem?_eq_some_iff.1 ht).1
      obtain ⟨t', ht', -, ha⟩ := h n (Nat.zero_le _) hn
      rw [ht] at ht'
      cases ht'
      have e : ∀ a ∈ t.args, holdsT wi T me oth f a.toNat = holdsT wi T me oth g a.toNat := fun a hh => holdsT_fuel h f g a.toNat (by have := ha a hh; omega) (by have := ha a hh; omega)
      dsimp only
      have e1 : (t.args.all fun a => holdsT wi T me oth f a.toNat) = t.args.all fun a => holdsT wi T me oth g a.toNat := by
        rw [Bool.eq_iff_iff, List.all_eq_true, List.all_eq_true]
        exact ⟨fun x a hh => by rw [← e a hh]; exact x a hh, fun x a hh => by rw [e a hh]; exact x a hh⟩
      have e2 : (t.args.any fun a => holdsT wi T me oth f a.toNat) = t.args.any fun a => holdsT wi T me oth g a.toNat := by
        rw [Bool.eq_iff_iff, List.any_eq_true, List.any_eq_true]
        exact ⟨fun ⟨a, hh, x⟩ => ⟨a, hh, by rw [← e a hh]; exact x⟩, fun ⟨a, hh, x⟩ => ⟨a, hh, by rw [e a hh]; exact x⟩⟩
      rw [e1, e2]
def maxL : List Int → Int
  | [] => 0
  | x :: r => r.foldl max x
def minL : List Int → Int
  | [] => 0
  | x :: r => r.foldl min x
def leastT (T : List Trm) : Nat → Nat → Int
  | 0, _ => 0
  | f + 1, n => match T[n]? with
    | none => 0
    | some t => if t.kind = 1 then maxL (t.args.map fun a => leastT T f a.toNat)
      else if t.kind = 2 then minL (t.args.map fun a => leastT T f a.toNat)
      else if t.kind = 3 ∨ t.kind = 5 ∨ t.kind = 7 then t.number
      else if t.kind = 4 then min t.number 2
      else if t.kind = 6 then 2
      else 1
def leastF (T : List Trm) : Int := if rightC T = true then leastT T T.length 0 else 0
end Go.Proofs.YtpofijdkckaphaaGreatDoor
