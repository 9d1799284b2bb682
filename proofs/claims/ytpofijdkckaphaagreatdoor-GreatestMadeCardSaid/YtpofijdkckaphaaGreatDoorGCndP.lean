/- A block of its own whose cells are known (a struct's box). No program in sight. -/
import Derived.Test.YtpofijdkckaphaaGreatDoorBase
import Derived.Maps.OwnSet
import Derived.Test.YtpofijdkckaphaaGreatDoorGAppAt
import Derived.BigRegion
import Derived.Deep.RegionLaw
namespace Go.Proofs.YtpofijdkckaphaaGreatDoor
open Go.RowKit
/-- block g holds these cells -/
def Bx (w : World) (g : Nat) (t : TypeId) (cs : List Value) : Prop := w.heap[g]? = some (.cells cs.toArray t (0, 0))
theorem Bx.new (w : World) (t : TypeId) (cs : List Value) : Bx (w.alloc (.cells cs.toArray t)) w.heap.size t cs := heap_alloc_new w _
theorem Bx.lt {w : World} {g : Nat} {t : TypeId} {cs : List Value} (h : Bx w g t cs) : g < w.heap.size := (Array.getElem?_eq_some_iff.1 h).1
theorem Bx.keep {w w' : World} {g : Nat} {t : TypeId} {cs : List Value} (h : Bx w g t cs) (hb : Below w.heap.size w w') : Bx w' g t cs := (hb.block g h.lt).trans h
theorem Bx.drew {w : World} {g : Nat} {t : TypeId} {cs : List Value} (h : Bx w g t cs) : Bx w.drew g t cs := h
theorem Bx.alloc {w : World} {g : Nat} {t : TypeId} {cs : List Value} (h : Bx w g t cs) (o : Obj) : Bx (w.alloc o) g t cs := h.keep ((Below.refl _ _).alloc (Nat.le_refl _) _)
theorem Bx.grown {w w' : World} {g : Nat} {t : TypeId} {cs : List Value} {row : Option Nat} (h : Bx w g t cs) (hb : w.grownBy w' row) (hne : some g ≠ row) : Bx w' g t cs := (hb.block g h.lt hne).trans h
theorem Bx.other {w : World} {g : Nat} {t : TypeId} {cs : List Value} (h : Bx w g t cs) {b : Nat} (hne : g ≠ b) (o : Nat) (v : Value) : Bx (w.setCell ⟨b, o, none⟩ v) g t cs := (heap_setCell_other w ⟨b, o, none⟩ g v hne).trans h
theorem Bx.cell {w : World} {g : Nat} {t : TypeId} {cs : List Value} (h : Bx w g t cs) (j : Nat) {v : Value} (hv : cs[j]? = some v) : w.cell? ⟨g, j, none⟩ = some v := by
  rw [Lib.cell_of_heap h]; simpa using hv
theorem Bx.free {w : World} {g : Nat} {t : TypeId} {cs : List Value} (h : Bx w g t cs) (j : Nat) : w.frozen? ⟨g, j, none⟩ = false := Lib.frozen_of_heap h j
theorem Bx.set {w : World} {g : Nat} {t : TypeId} {cs : List Value} (h : Bx w g t cs) (j : Nat) (v : Value) : Bx (w.setCell ⟨g, j, none⟩ v) g t (cs.set j v) := by
  have h' : w.heap[g]? = some (.cells cs.toArray t (0, 0)) := h
  simp [Bx, World.setCell, Array.getElem?_modify, h', Array.setIfInBounds]
  intro hj
  exact (List.set_eq_of_length_le hj).symm
end Go.Proofs.YtpofijdkckaphaaGreatDoor
/- Conditions: what the document says of terms, and of terms that stand in order. No program in sight. -/
namespace Go.Proofs.YtpofijdkckaphaaGreatDoor
/-- a term; aa, ac: where its Args lie -/
structure Trm where
  kind : Int
  number : Int
  years : Int
  field : List UInt8
  text : List UInt8
  args : List Int
  aa : Option Addr
  ac : Nat
def letN (z : Nat) : Bool := decide (97 ≤ z ∧ z ≤ 122)
def inwN (z : Nat) : Bool := letN z || decide (48 ≤ z ∧ z ≤ 57) || decide (z = 95)
/-- the words of the language -/
def resv : List (List UInt8) := [[97, 108, 108], [97, 110, 121], [114, 101, 112, 111, 114, 116, 101, 114, 115], [100, 101, 112, 97, 114, 116, 109, 101, 110, 116, 115], [121, 101, 97, 114, 115], [119, 105, 116, 104, 105, 110], [110, 111, 116, 102, 105, 114, 115, 116], [115, 97, 121, 115], [97, 108, 119, 97, 121, 115], [111, 102]]
def nameF (s : List UInt8) : Bool := (decide (1 ≤ s.length) && decide (s.length ≤ 32)) && (letN (bt s 0) && (!(decide (s ∈ resv)) && s.all fun c => inwN c.toNat))
def countB (n : Int) : Bool := decide (1 ≤ n ∧ n ≤ 64)
def noF (t : Trm) : Bool := t.field.isEmpty && t.text.isEmpty
def bareF (t : Trm) : Bool :=
  if t.kind = 1 ∨ t.kind = 2 ∨ t.kind = 6 ∨ t.kind = 8 then (t.number == 0 && t.years == 0) && noF t
  else if t.kind = 3 ∨ t.kind = 4 then (countB t.number && t.years == 0) && noF t
  else if t.kind = 5 then (countB t.number && decide (0 ≤ t.years ∧ t.years ≤ 100)) && noF t
  else if t.kind = 7 then (countB t.number && nameF t.field) && (decide (1 ≤ t.text.length ∧ t.text.length ≤ 256) && (!(decide ((34 : UInt8) ∈ t.text)) && t.years == 0))
  else false
def sevB (k : Int) : Bool := decide (k = 1 ∨ k = 2)
def okT (t : Trm) : Bool := bareF t && (sevB t.kind == decide (0 < t.args.length)) && decide (t.args.length ≠ 1)
/-- behind the arguments k of a term -/
def growA (G : Nat → Option Nat) : List Int → Nat → Option Nat
  | [], nx => some nx
  | k :: r, nx => if k = (nx : Int) then match G nx with
    | some n2 => growA G r n2
    | none => none
    else none
/-- the number of the term behind those of one -/
def growT (T : List Trm) : Nat → Nat → Option Nat
  | 0, _ => none
  | d + 1, n => match T[n]? with
    | none => none
    | some t => if okT t = true then growA (growT T d) t.args (n + 1) else none
def rightC (T : List Trm) : Bool := decide (T.length ≤ 24) && (growT T 6 0 == some T.length)
theorem growA_append (G : Nat → Option Nat) (a b : List Int) (nx : Nat) : growA G (a ++ b) nx = match growA G a nx with
    | some m => growA G b m
    | none => none := by
  induction a generalizing nx with
  | nil => rfl
  | cons k r ih =>
    simp only [List.cons_append, growA]
    split
    · split
      · rw [ih]
      · rfl
    · rfl
theorem growA_snoc {G : Nat → Option Nat} {a : List Int} {nx m k : Nat} (h : growA G a nx = some m) : growA G (a ++ [(k : Int)]) nx = if k = m then G m else none := by
  rw [growA_append, h]
  by_cases e : k = m
  · subst e
    simp only [growA, if_true]
    cases G k <;> rfl
  · rw [if_neg e]
    simp only [growA]
    rw [if_neg (by omega)]
theorem growA_bad {G : Nat → Option Nat} {a : List Int} {nx m : Nat} {k : Int} (b : List Int) (h : growA G a nx = some m) (hk : k ≠ (m : Int)) : growA G (a ++ k :: b) nx = none := by
  rw [growA_append, h]
  simp only [growA]
  rw [if_neg hk]
theorem growA_fail {G : Nat → Option Nat} {a : List Int} {nx m : Nat} (b : List Int) (h : growA G a nx = some m) (hk : G m = none) : growA G (a ++ (m : Int) :: b) nx = none := by
  rw [growA_append, h]
  simp only [growA, if_true, hk]
theorem growA_next {G : Nat → Option Nat} {a : List Int} {nx m m' : Nat} (h : growA G a nx = some m) (hk : G m = some m') : growA G (a ++ [(m : Int)]) nx = some m' := by
  rw [growA_append, h]
  simp only [growA, if_true, hk]
/-- what stands from one number to another is right -/
def Seg (T : List Trm) (i m : Nat) : Prop := ∀ j, i ≤ j → j < m → ∃ t, T[j]? = some t ∧ okT t = true ∧ ∀ a ∈ t.args, (j : Int) < a ∧ a < (m : Int)
theorem Seg.join {T : List Trm} {i m m' : Nat} (h : Seg T i m) (h2 : Seg T m m') (hm : m ≤ m') : Seg T i m' := by
  intro j h3 h4
  by_cases hj : j < m
  · obtain ⟨t, ht, ho, ha⟩ := h j h3 hj
    exact ⟨t, ht, ho, fun a hh => ⟨(ha a hh).1, by have := (ha a hh).2; omega⟩⟩
  · exact h2 j (by omega) h4
theorem growA_seg {T : List Trm} {G : Nat → Option Nat} (hG : ∀ n m, G n = some m → n < m ∧ m ≤ T.length ∧ Seg T n m) : ∀ (l : List Int) (nx m : Nat), nx ≤ T.length → growA G l nx = some m → nx ≤ m ∧ m ≤ T.length ∧ Seg T nx m ∧ ∀ a ∈ l, (nx : Int) ≤ a ∧ a < (m : Int)
  | [], nx, m, hn, h => by
    simp only [growA, Option.some.injEq] at h
    subst h
    exact ⟨Nat.le_refl _, hn, fun j h1 h2 => by omega, fun a ha => by simp at ha⟩
  | k :: r, nx, m, hn, h => by
    simp only [growA] at h
    split at h
    · next hk =>
      split at h
      · next n2 hg =>
        obtain ⟨g1, g2, g3⟩ := hG _ _ hg
        obtain ⟨i1, i2, i3, i4⟩ := growA_seg hG r n2 m g2 h
        refine ⟨by omega, i2, g3.join i3 i1, fun a ha => ?_⟩
        rcases List.mem_cons.1 ha with rfl | ha
        · omega
        · have := i4 a ha; omega
      · cases h
    · cases h
theorem growT_seg (T : List Trm) : ∀ (d n m : Nat), growT T d n = some m → n < m ∧ m ≤ T.length ∧ Seg T n m
  | 0, n, m, h => by simp [growT] at h
  | d + 1, n, m, h => by
    simp only [growT] at h
    split at h
    · cases h
    · next t ht =>
      split at h
      · next ho =>
        have hn : n < T.length := (List.getElem?_eq_some_iff.1 ht).1
        obtain ⟨i1, i2, i3, i4⟩ := growA_seg (growT_seg T d) t.args (n + 1) m (by omega) h
        refine ⟨by omega, i2, fun j h1 h2 => ?_⟩
        by_cases hj : j = n
        · subst hj
          exact ⟨t, ht, ho, fun a ha => by have := i4 a ha; omega⟩
        · exact i3 j (by omega) h2
      · cases h
/-- a right condition: each term is right, its Args stand behind it -/
theorem right_all {T : List Trm} (h : rightC T = true) : T.length ≤ 24 ∧ 0 < T.length ∧ Seg T 0 T.length := by
  simp only [rightC, Bool.and_eq_true, decide_eq_true_eq, beq_iff_eq] at h
  obtain ⟨h1, h2, h3⟩ := growT_seg T 6 0 _ h.2
  exact ⟨h.1, h1, h3⟩
/-- the reference's say on a term by itself -/
def termR (t : Trm) : Bool :=
  if t.kind = 1 ∨ t.kind = 2 then decide (2 ≤ t.args.length) && (t.number == 0 && (t.years == 0 && noF t))
  else if t.kind = 3 ∨ t.kind = 4 then decide (t.args.length = 0) && (countB t.number && (t.years == 0 && noF t))
  else if t.kind = 5 then decide (t.args.length = 0) && (countB t.number && (decide (0 ≤ t.years ∧ t.years ≤ 100) && noF t))
  else if t.kind = 6 ∨ t.kind = 8 then decide (t.args.length = 0) && (t.number == 0 && (t.years == 0 && noF t))
  else if t.kind = 7 then decide (t.args.length = 0) && (countB t.number && (t.years == 0 && (nameF t.field && (decide (1 ≤ t.text.length ∧ t.text.length ≤ 256) && !(decide ((34 : UInt8) ∈ t.text))))))
  else false
theorem termR_ok (t : Trm) : termR t = okT t := by
  unfold termR okT bareF sevB
  have hl : ∀ b : Bool, (b && decide (t.args.length = 0)) = ((b && (false == decide (0 < t.args.length))) && decide (t.args.length ≠ 1)) := by
    intro b
    cases b
    · rfl
    · by_cases e : t.args.length = 0 <;> by_cases e1 : t.args.length = 1 <;> simp [e, e1, Nat.pos_iff_ne_zero]
  have hl2 : ∀ b : Bool, (decide (2 ≤ t.args.length) && b) = ((b && (true == decide (0 < t.args.length))) && decide (t.args.length ≠ 1)) := by
    intro b
    cases b
    · simp
    · have : (2 ≤ t.args.length) ↔ (0 < t.args.length ∧ ¬ t.args.length = 1) := by omega
      simp [this]
  by_cases k1 : t.kind = 1 ∨ t.kind = 2
  · have k2 : t.kind = 1 ∨ t.kind = 2 ∨ t.kind = 6 ∨ t.kind = 8 := by omega
    rw [if_pos k1, if_pos k2, decide_eq_true k1, ← hl2]
    cases (t.number == 0) <;> cases (t.years == 0) <;> simp
  · rw [if_neg k1, decide_eq_false k1, ← hl]
    by_cases k3 : t.kind = 3 ∨ t.kind = 4
    · rw [if_pos k3, if_neg (by omega), if_pos k3]
      cases (countB t.number) <;> cases (t.years == 0) <;> cases noF t <;> simp
    · rw [if_neg k3]
      by_cases k5 : t.kind = 5
      · rw [if_pos k5, if_neg (by omega), if_neg k3, if_pos k5]
        cases (countB t.number) <;> cases noF t <;> cases (decide (t.args.length = 0)) <;> cases (decide (0 ≤ t.years ∧ t.years ≤ 100)) <;> rfl
      · rw [if_neg k5]
        by_cases k6 : t.kind = 6 ∨ t.kind = 8
        · rw [if_pos k6, if_pos (by omega)]
          cases (t.number == 0) <;> cases (t.years == 0) <;> cases noF t <;> simp
        · rw [if_neg k6, if_neg (show ¬ (t.kind = 1 ∨ t.kind = 2 ∨ t.kind = 6 ∨ t.kind = 8) by omega), if_neg k3, if_neg k5]
          by_cases k7 : t.kind = 7
          · rw [if_pos k7, if_pos k7]
            cases (countB t.number) <;> cases (t.years == 0) <;> cases nameF t.field <;> cases (decide (t.args.length = 0)) <;> cases (decide (1 ≤ t.text.length ∧ t.text.length ≤ 256)) <;> cases (decide ((34 : UInt8) ∈ t.text)) <;> rfl
          · rw [if_neg k7, if_neg k7]; simp
end Go.Proofs.YtpofijdkckaphaaGreatDoor
/- Conditions: when they hold, how many persons are needed at least. No program in sight. -/
namespace Go.Proofs.YtpofijdkckaphaaGreatDoor
structure Ans where
  field : List UInt8
  text : List UInt8
  number : Int
/-- a member; aa, ac: where the answers lie -/
structure Mem where
  person : List UInt8
  number : Int
  dept : Int
  day : Int
  ans : List Ans
  aa : Option Addr
  ac : Nat
/-- how many different ones -/
def dst {α : Type} [DecidableEq α] : List α → Nat
  | [] => 0
  | x :: l => (if x ∈ l then 0 else 1) + dst l
theorem dst_le {α : Type} [DecidableEq α] (l : List α) : dst l ≤ l.length := by
  induction l with
  | nil => exact Nat.le_refl _
  | cons x l ih => simp only [dst, List.length_cons]; split <;> omega
theorem dst_snoc {α : Type} [DecidableEq α] (l : List α) (x : α) : dst (l ++ [x]) = dst l + (if x ∈ l then 0 else 1) := by
  induction l with
  | nil => simp [dst]
  | cons y l ih =>
    have e1 : (y ∈ l ++ [x]) ↔ (y ∈ l ∨ y = x) := by simp
    have e2 : (x ∈ y :: l) ↔ (x = y ∨ x ∈ l) := by simp
    simp only [List.cons_append, dst, ih, e1, e2]
    by_cases h1 : y ∈ l
    · rw [if_pos (.inl h1), if_pos h1]
      by_cases h2 : x ∈ l
      · rw [if_pos h2, if_pos (.inr h2)]; omega
      · rw [if_neg h2, if_neg (fun h => h.elim (fun e => h2 (e ▸ h1)) h2)]; omega
    · by_cases h3 : y = x
      · subst h3
        rw [if_pos (.inr rfl), if_neg h1, if_pos (.inl rfl)]; omega
      · rw [if_neg (fun h => h.elim h1 h3), if_neg h1]
        by_cases h2 : x ∈ l
        · rw [if_pos h2, if_pos (.inr h2)]; omega
        · rw [if_neg h2, if_neg (fun h => h.elim (fun e => h3 e.symm) h2)]; omega
/-- who counts beside a member -/
def othF (l : List Mem) (me : Mem) : List Mem := l.filter fun m => decide (m.person ≠ me.person)
def saysB (f t : List UInt8) (m : Mem) : Bool := m.ans.any fun a => decide (a.field = f) && decide (a.text = t)
/-- wi a b y: two days are at most y years apart -/
def leafT (wi : Int → Int → Int → Bool) (t : Trm) (me : Mem) (oth : List Mem) : Bool :=
  if t.kind = 3 then decide (t.number ≤ 1 + (dst (oth.map Mem.person) : Int))
  else if t.kind = 4 then decide (t.number ≤ (dst (me.dept :: oth.map Mem.dept) : Int))
  else if t.kind = 5 then decide (t.number ≤ 1 + (dst ((oth.filter fun m => wi me.day m.day t.years).map Mem.person) : Int))
  else if t.kind = 6 then oth.any fun m => decide (m.number < me.number)
  else if t.kind = 7 then decide (t.number ≤ (if saysB t.field t.text me then 1 else 0) + (dst ((oth.filter fun m => saysB t.field t.text m).map Mem.person) : Int))
  else decide (t.kind = 8)
def holdsT (wi : Int → Int → Int → Bool) (T : List Trm) (me : Mem) (oth : List Mem) : Nat → Nat → Bool
  | 0, _ => false
  | f + 1, n => match T[n]? with
    | none => false
    | some t => if t.kind = 1 then t.args.all fun a => holdsT wi T me oth f a.toNat
      else if t.kind = 2 then t.args.any fun a => holdsT wi T me oth f a.toNat
      else leafT wi t me oth
/-- Term: a term of a condition, from the view of a member -/
def termF (wi : Int → Int → Int → Bool) (T : List Trm) (n : Int) (l : List Mem) (me : Int) : Bool :=
  if 0 ≤ me then match l[me.toNat]? with
    | none => false
    | some m => rightC T && (decide (0 ≤ n ∧ n < (T.length : Int)) && holdsT wi T m (othF l m) T.length n.toNat)
  else false
/-- Persons -/
def persF (l : List Mem) (me : Int) : Int := if 0 ≤ me then match l[me.toNat]? with
    | none => 0
    | some m => 1 + (dst ((othF l m).map Mem.person) : Int)
  else 0
/-- the fuel does not matter -/
theorem holdsT_fuel {wi : Int → Int → Int → Bool} {T : List Trm} {me : Mem} {oth : List Mem} (h : Seg T 0 T.length) : ∀ (f g n : Nat), T.length - n ≤ f → T.length - n ≤ g → holdsT wi T me oth f n = holdsT wi T me oth g n
  | 0, 0, _, _, _ => rfl
  | 0, g + 1, n, h1, _ => by
    have : T[n]? = none := List.getElem?_eq_none (by omega)
    simp [holdsT, this]
  | f + 1, 0, n, _, h2 => by
    have : T[n]? = none := List.getElem?_eq_none (by omega)
    simp [holdsT, this]
  | f + 1, g + 1, n, h1, h2 => by
    simp only [holdsT]
    cases ht : T[n]? with
    | none => rfl
    | some t =>
      have hn : n < T.length := (List.getElem?_eq_some_iff.1 ht).1
      obtain ⟨t', ht', -, ha⟩ := h n (Nat.zero_le _) hn
      rw [ht] at ht'
      cases ht'
      have e : ∀ a ∈ t.args, holdsT wi T me oth f a.toNat = holdsT wi T me oth g a.toNat := fun a hh => holdsT_fuel h f g a.toNat (by have := ha a hh; omega) (by have := ha a hh; omega)
      dsimp only
      have e1 : (t.args.all fun a => holdsT wi T me oth f a.toNat) = t.args.all fun a => holdsT wi T me oth g a.toNat := by
        rw [Bool.eq_iff_iff, List.all_eq_true, List.all_eq_true]
        exact ⟨fun x a hh => by rw [← e a hh]; exact x a hh, fun x a hh => by rw [e a hh]; exact x a hh⟩
      have e2 : (t.args.any fun a => holdsT wi T me oth f a.toNat) = t.args.any fun a => holdsT wi T me oth g a.toNat := by
        rw [Bool.eq_iff_iff, List.any_eq_true, List.any_eq_true]
        exact ⟨fun ⟨a, hh, x⟩ => ⟨a, hh, by rw [← e a hh]; exact x⟩, fun ⟨a, hh, x⟩ => ⟨a, hh, by rw [e a hh]; exact x⟩⟩
      rw [e1, e2]
def maxL : List Int → Int
  | [] => 0
  | x :: r => r.foldl max x
def minL : List Int → Int
  | [] => 0
  | x :: r => r.foldl min x
def leastT (T : List Trm) : Nat → Nat → Int
  | 0, _ => 0
  | f + 1, n => match T[n]? with
    | none => 0
    | some t => if t.kind = 1 then maxL (t.args.map fun a => leastT T f a.toNat)
      else if t.kind = 2 then minL (t.args.map fun a => leastT T f a.toNat)
      else if t.kind = 3 ∨ t.kind = 5 ∨ t.kind = 7 then t.number
      else if t.kind = 4 then min t.number 2
      else if t.kind = 6 then 2
      else 1
def leastF (T : List Trm) : Int := if rightC T = true then leastT T T.length 0 else 0
end Go.Proofs.YtpofijdkckaphaaGreatDoor
/- Sets of numbers and of strings, kept as maps that the call made: how many they hold. -/
namespace Go.Proofs.YtpofijdkckaphaaGreatDoor
open Go.RowKit Go.Maps
noncomputable abbrev bElem : Value → Option (DataW Unit × List MemPlace) := plainElem (H := Unit) Tryz.prog 4
section
variable {α : Type} [DecidableEq α] {f : α → Lit}
noncomputable def gset (f : α → Lit) (L : List α) : DataW Unit := setOf (.lit (.bool true)) (L.map f)
omit [DecidableEq α] in
theorem gset_snoc (L : List α) (x : α) : gset f (L ++ [x]) = (gset f L).put (f x) (.lit (.bool true)) := by
  rw [gset, List.map_append, List.map_cons, List.map_nil, setOf_snoc]; rfl
omit [DecidableEq α] in
theorem gset_tidy (hf : ∀ x, WideAt.IsKeyLit (f x)) (L : List α) : Tidy (gset f L) := by
  refine tidy_setOf _ _ fun x hx => ?_
  obtain ⟨y, _, rfl⟩ := List.mem_map.1 hx
  exact hf y
theorem gset_has (hf : ∀ x, WideAt.IsKeyLit (f x)) (hi : ∀ x y, f x = f y → x = y) (x : α) (L : List α) : has (gset f L) (f x) = decide (x ∈ L) := by
  obtain ⟨M, hM⟩ : ∃ M : List α, L = M.reverse := ⟨L.reverse, by simp⟩
  subst hM
  induction M with
  | nil => rfl
  | cons y M ih =>
    rw [List.reverse_cons, gset_snoc]
    by_cases e : x = y
    · subst e
      rw [has_put_same (gset_tidy hf _).isMap (hf x)]
      simp
    · rw [has_put_other (fun h => e (hi _ _ h)), ih]
      simp [e]
theorem gset_size (hf : ∀ x, WideAt.IsKeyLit (f x)) (hi : ∀ x y, f x = f y → x = y) (L : List α) : Maps.size (gset f L) = dst L := by
  obtain ⟨M, hM⟩ : ∃ M : List α, L = M.reverse := ⟨L.reverse, by simp⟩
  subst hM
  induction M with
  | nil => rfl
  | cons y M ih =>
    rw [List.reverse_cons, gset_snoc, size_put (gset_tidy hf _), gset_has hf hi, ih, dst_snoc]
    by_cases h : y ∈ M.reverse <;> simp [h]
end
def litS (s : List UInt8) : Lit := .string s
def litI (n : Int) : Lit := .int .i64 n
theorem litS_inj (x y : List UInt8) (h : litS x = litS y) : x = y := by injection h
theorem litI_inj (x y : Int) (h : litI x = litI y) : x = y := by injection h
/-- block b is the set of the strings of a list -/
def MpS (w : World) (b n : Nat) (L : List (List UInt8)) : Prop := w.ownsMap Tryz.prog 9 bElem b n (gset litS L)
/-- block b is the set of the numbers of a list -/
def MpI (w : World) (b n : Nat) (L : List Int) : Prop := w.ownsMap Tryz.prog 3 bElem b n (gset litI L)
theorem MpS.new (w : World) : MpS (w.alloc (.map #[] 0)) w.heap.size 0 [] := World.ownsMap_made _ _ _ _
theorem MpI.new (w : World) : MpI (w.alloc (.map #[] 0)) w.heap.size 0 [] := World.ownsMap_made _ _ _ _
theorem MpS.keep {w w' : World} {b n : Nat} {L : List (List UInt8)} (h : MpS w b n L) (hb : Below w.heap.size w w') : MpS w' b n L := by
  have hlt : b < w.heap.size := World.ownsMap.lt h
  obtain ⟨es, clock, h1, r⟩ := h
  exact ⟨es, clock, (hb.block b hlt).trans h1, r⟩
theorem MpI.keep {w w' : World} {b n : Nat} {L : List Int} (h : MpI w b n L) (hb : Below w.heap.size w w') : MpI w' b n L := by
  have hlt : b < w.heap.size := World.ownsMap.lt h
  obtain ⟨es, clock, h1, r⟩ := h
  exact ⟨es, clock, (hb.block b hlt).trans h1, r⟩
theorem MpS.lt {w : World} {b n : Nat} {L : List (List UInt8)} (h : MpS w b n L) : b < w.heap.size := World.ownsMap.lt h
theorem MpI.lt {w : World} {b n : Nat} {L : List Int} (h : MpI w b n L) : b < w.heap.size := World.ownsMap.lt h
theorem keyed_s : Keyed Tryz.prog 9 := string_keyed Tryz.underlying9
theorem keyed_i : Keyed Tryz.prog 3 := int_keyed Tryz.underlying3
theorem key_s {s : List UInt8} (h : s.length ≤ 281474976710656) : keyOf Tryz.prog 9 (.string ⟨s.toArray⟩) = some (litS s) := by
  have hs : (ByteArray.mk s.toArray).size ≤ maxLen := by
    show s.toArray.size ≤ maxLen
    rw [List.size_toArray, maxLen]; omega
  simp [keyOf, Tryz.underlying9, mapKey, litS, hs]
theorem key_i {x : Int} (h : I64 x) : keyOf Tryz.prog 3 (.int .i64 x) = some (litI x) := by
  refine keyOf_int_mk Tryz.underlying3 ?_
  have h1 : IntKind.i64.min = -9223372036854775808 := rfl
  have h2 : IntKind.i64.max = 9223372036854775807 := rfl
  have := h.1
  have := h.2
  simp only [Lit.wf, Bool.and_eq_true, decide_eq_true_eq]
  omega
theorem MpS.size {L : List (List UInt8)} : Maps.size (gset litS L) = dst L := gset_size (f := litS) (fun x => (trivial : WideAt.IsKeyLit (Lit.string x))) litS_inj L
theorem MpI.size {L : List Int} : Maps.size (gset litI L) = dst L := gset_size (f := litI) (fun x => (trivial : WideAt.IsKeyLit (Lit.int .i64 x))) litI_inj L
end Go.Proofs.YtpofijdkckaphaaGreatDoor
/- 'append' of whatever is read onto nil, as a step of a region that draws its order; two such slices and their box. -/
namespace Go.Proofs.YtpofijdkckaphaaGreatDoor
open Go.RowKit
theorem step_copyn {P : Program} {w : World} {ops : Array Oper} {o : Oper} {a : Act} {K : Act → World → Prop} {Q : Exit → Act → World → Prop} {E : Prop} (hgd : o.guard = none) (s x : Operand) (t u : TypeId)
    (ho : o.op = .call { callee := .builtin .append, args := #[s, x], argTypes := #[t, u] }) {e : TypeId} {z : Value} {size bytes : Nat} (hE : ElemOf P t e z size bytes) (hs : a.eval s = .slice none 0 0)
    {src : Value} {m : Nat} {news : List Value} (hx : a.eval x = src) (hS : Src P w u src size m news) (hbytes : m * bytes ≤ 140737488355328) {B : Nat} (hB : B ≤ w.heap.size)
    (hK : ∀ a' cap' w1, Ow w1 B size a' m cap' news → Below w.heap.size w w1 → (rowOf a' = none ∨ rowOf a' = some w.heap.size) → K (a.put o.dst (.slice a' m cap')) w1) :
    if Region.wanted o (yielded ops a.tmps) = true then Oper.wp P o a w K Q else E := by
  have hw : Region.wanted o (yielded ops a.tmps) = true := by simp [Region.wanted, hgd]
  rw [if_pos hw]
  obtain ⟨a', cap', w', hr, h2, h3, h4⟩ := run_app_at (P := P) w B t u o.type e hE none 0 0 [] (Ow.nil _ _ _) src m news hS (by rw [Nat.zero_add]; exact hbytes) hB
  rw [Nat.zero_add] at hr h2
  rw [List.nil_append] at h2
  unfold Oper.wp execOp
  simp only [ho, resolve, invoke, builtin, Sem.run_bind, Sem.run_pure, Result.andThen_ok, List.map_toArray, List.map_cons, List.map_nil, hs, hx, hr]
  exact hK a' cap' w' h2 ⟨h3.os, h3.tape, h3.output, h3.size, fun k hk => h3.block k hk (by simp [rowOf])⟩ h4
/-- two slices of the call's own lie in different blocks -/
def Apart2 (a b : Option Addr) : Prop := ∀ g, rowOf a = some g → rowOf b ≠ some g
theorem Apart2.symm {a b : Option Addr} (h : Apart2 a b) : Apart2 b a := fun g hb ha => h g ha hb
theorem Apart2.keep {a b : Option Addr} (h : Apart2 a b) : rowOf b = none ∨ rowOf b ≠ rowOf a := by
  cases hb : rowOf b with
  | none => exact .inl rfl
  | some g => exact .inr fun e => h g e.symm hb
theorem Apart2.next {a b a' : Option Addr} {n : Nat} (h : Apart2 a b) (hb : ∀ g, rowOf b = some g → g < n) (ha : rowOf a' = rowOf a ∨ rowOf a' = some (n + 1)) : Apart2 a' b := by
  intro g hg hbg
  rcases ha with e | e
  · exact h g (e ▸ hg) hbg
  · have := hb g hbg
    rw [e] at hg
    have := Option.some.inj hg
    omega
theorem apart_new {a b : Option Addr} {s B : Nat} (hb : ∀ g, rowOf b = some g → B ≤ g ∧ g < s) (ha : rowOf a = none ∨ rowOf a = some s) : Apart2 a b := by
  intro g hg hbg
  rcases ha with e | e
  · rw [e] at hg; cases hg
  · rw [e] at hg
    have := hb g hbg
    have := Option.some.inj hg
    omega
theorem row_new {a : Option Addr} {s go : Nat} (hg : go < s) (ha : rowOf a = none ∨ rowOf a = some s) : ∀ g, rowOf a = some g → g ≠ go := by
  intro g h
  rcases ha with e | e
  · rw [e] at h; cases h
  · rw [e] at h
    have := Option.some.inj h
    omega
theorem row_old {a : Option Addr} {s B : Nat} (ha : ∀ g, rowOf a = some g → B ≤ g ∧ g < s) : ∀ g, rowOf a = some g → g ≠ s := fun g h => by have := ha g h; omega
end Go.Proofs.YtpofijdkckaphaaGreatDoor
