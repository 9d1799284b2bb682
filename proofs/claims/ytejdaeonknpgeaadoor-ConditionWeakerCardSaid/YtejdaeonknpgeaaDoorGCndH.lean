/- Conditions: when they hold, how many persons are needed at least. No program in sight. -/
import Derived.Test.YtejdaeonknpgeaaDoorCndP
import Derived.Test.YtejdaeonknpgeaaDoorGEnv
import Derived.Maps.OwnSet
namespace Go.Proofs.YtejdaeonknpgeaaDoor
structure Ans where
  field : List UInt8
  text : List UInt8
  number : Int
/-- a member; aa, ac: where the answers lie -/
structure Mem where
  person : List UInt8
  number : Int
  dept : Int
  day : Int
  ans : List Ans
  aa : Option Addr
  ac : Nat
/-- how many different ones -/
def dst {α : Type} [DecidableEq α] : List α → Nat
  | [] => 0
  | x :: l => (if x ∈ l then 0 else 1) + dst l
theorem dst_le {α : Type} [DecidableEq α] (l : List α) : dst l ≤ l.length := by
  induction l with
  | nil => exact Nat.le_refl _
  | cons x l ih => simp only [dst, List.length_cons]; split <;> omega
theorem dst_snoc {α : Type} [DecidableEq α] (l : List α) (x : α) : dst (l ++ [x]) = dst l + (if x ∈ l then 0 else 1) := by
  induction l with
  | nil => simp [dst]
  | cons y l ih =>
    have e1 : (y ∈ l ++ [x]) ↔ (y ∈ l ∨ y = x) := by simp
    have e2 : (x ∈ y :: l) ↔ (x = y ∨ x ∈ l) := by simp
    simp only [List.cons_append, dst, ih, e1, e2]
    by_cases h1 : y ∈ l
    · rw [if_pos (.inl h1), if_pos h1]
      by_cases h2 : x ∈ l
      · rw [if_pos h2, if_pos (.inr h2)]; omega
      · rw [if_neg h2, if_neg (fun h => h.elim (fun e => h2 (e ▸ h1)) h2)]; omega
    · by_cases h3 : y = x
      · subst h3
        rw [if_pos (.inr rfl), if_neg h1, if_pos (.inl rfl)]; omega
      · rw [if_neg (fun h => h.elim h1 h3), if_neg h1]
        by_cases h2 : x ∈ l
        · rw [if_pos h2, if_pos (.inr h2)]; omega
        · rw [if_neg h2, if_neg (fun h => h.elim (fun e => h3 e.symm) h2)]; omega
/-- who counts beside a member -/
def othF (l : List Mem) (me : Mem) : List Mem := l.filter fun m => decide (m.person ≠ me.person)
def saysB (f t : List UInt8) (m : Mem) : Bool := m.ans.any fun a => decide (a.field = f) && decide (a.text = t)
/-- wi a b y: two days are at most y years apart -/
def leafT (wi : Int → Int → Int → Bool) (t : Trm) (me : Mem) (oth : List Mem) : Bool :=
  if t.kind = 3 then decide (t.number ≤ 1 + (dst (oth.map Mem.person) : Int))
  else if t.kind = 4 then decide (t.number ≤ (dst (me.dept :: oth.map Mem.dept) : Int))
  else if t.kind = 5 then decide (t.number ≤ 1 + (dst ((oth.filter fun m => wi me.day m.day t.years).map Mem.person) : Int))
  else if t.kind = 6 then oth.any fun m => decide (m.number < me.number)
  else if t.kind = 7 then decide (t.number ≤ (if saysB t.field t.text me then 1 else 0) + (dst ((oth.filter fun m => saysB t.field t.text m).map Mem.person) : Int))
  else decide (t.kind = 8)
def holdsT (wi : Int → Int → Int → Bool) (T : List Trm) (me : Mem) (oth : List Mem) : Nat → Nat → Bool
  | 0, _ => false
  | f + 1, n => match T[n]? with
    | none => false
    | some t => if t.kind = 1 then t.args.all fun a => holdsT wi T me oth f a.toNat
      else if t.kind = 2 then t.args.any fun a => holdsT wi T me oth f a.toNat
      else leafT wi t me oth
/-- Term: a term of a condition, from the view of a member -/
def termF (wi : Int → Int → Int → Bool) (T : List Trm) (n : Int) (l : List Mem) (me : Int) : Bool :=
  if 0 ≤ me then match l[me.toNat]? with
    | none => false
    | some m => rightC T && (decide (0 ≤ n ∧ n < (T.length : Int)) && holdsT wi T m (othF l m) T.length n.toNat)
  else false
/-- Persons -/
def persF (l : List Mem) (me : Int) : Int := if 0 ≤ me then match l[me.toNat]? with
    | none => 0
    | some m => 1 + (dst ((othF l m).map Mem.person) : Int)
  else 0
/-- the fuel does not matter -/
theorem holdsT_fuel {wi : Int → Int → Int → Bool} {T : List Trm} {me : Mem} {oth : List Mem} (h : Seg T 0 T.length) : ∀ (f g n : Nat), T.length - n ≤ f → T.length - n ≤ g → holdsT wi T me oth f n = holdsT wi T me oth g n
  | 0, 0, _, _, _ => rfl
  | 0, g + 1, n, h1, _ => by
    have : T[n]? = none := List.getElem?_eq_none (by omega)
    simp [holdsT, this]
  | f + 1, 0, n, _, h2 => by
    have : T[n]? = none := List.getElem?_eq_none (by omega)
    simp [holdsT, this]
  | f + 1, g + 1, n, h1, h2 => by
    simp only [holdsT]
    cases ht : T[n]? with
    | none => rfl
    | some t =>
      have hn : n < T.length := (List.getElem?_eq_some_iff.1 ht).1
      obtain ⟨t', ht', -, ha⟩ := h n (Nat.zero_le _) hn
      rw [ht] at ht'
      cases ht'
      have e : ∀ a ∈ t.args, holdsT wi T me oth f a.toNat = holdsT wi T me oth g a.toNat := fun a hh => holdsT_fuel h f g a.toNat (by have := ha a hh; omega) (by have := ha a hh; omega)
      dsimp only
      have e1 : (t.args.all fun a => holdsT wi T me oth f a.toNat) = t.args.all fun a => holdsT wi T me oth g a.toNat := by
        rw [Bool.eq_iff_iff, List.all_eq_true, List.all_eq_true]
        exact ⟨fun x a hh => by rw [← e a hh]; exact x a hh, fun x a hh => by rw [e a hh]; exact x a hh⟩
      have e2 : (t.args.any fun a => holdsT wi T me oth f a.toNat) = t.args.any fun a => holdsT wi T me oth g a.toNat := by
        rw [Bool.eq_iff_iff, List.any_eq_true, List.any_eq_true]
        exact ⟨fun ⟨a, hh, x⟩ => ⟨a, hh, by rw [← e a hh]; exact x⟩, fun ⟨a, hh, x⟩ => ⟨a, hh, by rw [e a hh]; exact x⟩⟩
      rw [e1, e2]
def maxL : List Int → Int
  | [] => 0
  | x :: r => r.foldl max x
def minL : List Int → Int
  | [] => 0
  | x :: r => r.foldl min x
def leastT (T : List Trm) : Nat → Nat → Int
  | 0, _ => 0
  | f + 1, n => match T[n]? with
    | none => 0
    | some t => if t.kind = 1 then maxL (t.args.map fun a => leastT T f a.toNat)
      else if t.kind = 2 then minL (t.args.map fun a => leastT T f a.toNat)
      else if t.kind = 3 ∨ t.kind = 5 ∨ t.kind = 7 then t.number
      else if t.kind = 4 then min t.number 2
      else if t.kind = 6 then 2
      else 1
def leastF (T : List Trm) : Int := if rightC T = true then leastT T T.length 0 else 0
end Go.Proofs.YtejdaeonknpgeaaDoor
/- Sets of numbers and of strings, kept as maps that the call made: how many they hold. -/
namespace Go.Proofs.YtejdaeonknpgeaaDoor
open Go.RowKit Go.Maps
noncomputable abbrev bElem : Value → Option (DataW Unit × List MemPlace) := plainElem (H := Unit) Tryd.prog 4
section
variable {α : Type} [DecidableEq α] {f : α → Lit}
noncomputable def gset (f : α → Lit) (L : List α) : DataW Unit := setOf (.lit (.bool true)) (L.map f)
omit [DecidableEq α] in
theorem gset_snoc (L : List α) (x : α) : gset f (L ++ [x]) = (gset f L).put (f x) (.lit (.bool true)) := by
  rw [gset, List.map_append, List.map_cons, List.map_nil, setOf_snoc]; rfl
omit [DecidableEq α] in
theorem gset_tidy (hf : ∀ x, WideAt.IsKeyLit (f x)) (L : List α) : Tidy (gset f L) := by
  refine tidy_setOf _ _ fun x hx => ?_
  obtain ⟨y, _, rfl⟩ := List.mem_map.1 hx
  exact hf y
theorem gset_has (hf : ∀ x, WideAt.IsKeyLit (f x)) (hi : ∀ x y, f x = f y → x = y) (x : α) (L : List α) : has (gset f L) (f x) = decide (x ∈ L) := by
  obtain ⟨M, hM⟩ : ∃ M : List α, L = M.reverse := ⟨L.reverse, by simp⟩
  subst hM
  induction M with
  | nil => rfl
  | cons y M ih =>
    rw [List.reverse_cons, gset_snoc]
    by_cases e : x = y
    · subst e
      rw [has_put_same (gset_tidy hf _).isMap (hf x)]
      simp
    · rw [has_put_other (fun h => e (hi _ _ h)), ih]
      simp [e]
theorem gset_size (hf : ∀ x, WideAt.IsKeyLit (f x)) (hi : ∀ x y, f x = f y → x = y) (L : List α) : Maps.size (gset f L) = dst L := by
  obtain ⟨M, hM⟩ : ∃ M : List α, L = M.reverse := ⟨L.reverse, by simp⟩
  subst hM
  induction M with
  | nil => rfl
  | cons y M ih =>
    rw [List.reverse_cons, gset_snoc, size_put (gset_tidy hf _), gset_has hf hi, ih, dst_snoc]
    by_cases h : y ∈ M.reverse <;> simp [h]
end
def litS (s : List UInt8) : Lit := .string s
def litI (n : Int) : Lit := .int .i64 n
theorem litS_inj (x y : List UInt8) (h : litS x = litS y) : x = y := by injection h
theorem litI_inj (x y : Int) (h : litI x = litI y) : x = y := by injection h
/-- block b is the set of the strings of a list -/
def MpS (w : World) (b n : Nat) (L : List (List UInt8)) : Prop := w.ownsMap Tryd.prog 9 bElem b n (gset litS L)
/-- block b is the set of the numbers of a list -/
def MpI (w : World) (b n : Nat) (L : List Int) : Prop := w.ownsMap Tryd.prog 3 bElem b n (gset litI L)
theorem MpS.new (w : World) : MpS (w.alloc (.map #[] 0)) w.heap.size 0 [] := World.ownsMap_made _ _ _ _
theorem MpI.new (w : World) : MpI (w.alloc (.map #[] 0)) w.heap.size 0 [] := World.ownsMap_made _ _ _ _
theorem MpS.keep {w w' : World} {b n : Nat} {L : List (List UInt8)} (h : MpS w b n L) (hb : Below w.heap.size w w') : MpS w' b n L := by
  have hlt : b < w.heap.size := World.ownsMap.lt h
  obtain ⟨es, clock, h1, r⟩ := h
  exact ⟨es, clock, (hb.block b hlt).trans h1, r⟩
theorem MpI.keep {w w' : World} {b n : Nat} {L : List Int} (h : MpI w b n L) (hb : Below w.heap.size w w') : MpI w' b n L := by
  have hlt : b < w.heap.size := World.ownsMap.lt h
  obtain ⟨es, clock, h1, r⟩ := h
  exact ⟨es, clock, (hb.block b hlt).trans h1, r⟩
theorem MpS.lt {w : World} {b n : Nat} {L : List (List UInt8)} (h : MpS w b n L) : b < w.heap.size := World.ownsMap.lt h
theorem MpI.lt {w : World} {b n : Nat} {L : List Int} (h : MpI w b n L) : b < w.heap.size := World.ownsMap.lt h
theorem keyed_s : Keyed Tryd.prog 9 := string_keyed Tryd.underlying9
theorem keyed_i : Keyed Tryd.prog 3 := int_keyed Tryd.underlying3
theorem key_s {s : List UInt8} (h : s.length ≤ 281474976710656) : keyOf Tryd.prog 9 (.string ⟨s.toArray⟩) = some (litS s) := by
  have hs : (ByteArray.mk s.toArray).size ≤ maxLen := by
    show s.toArray.size ≤ maxLen
    rw [List.size_toArray, maxLen]; omega
  simp [keyOf, Tryd.underlying9, mapKey, litS, hs]
theorem key_i {x : Int} (h : I64 x) : keyOf Tryd.prog 3 (.int .i64 x) = some (litI x) := by
  refine keyOf_int_mk Tryd.underlying3 ?_
  have h1 : IntKind.i64.min = -9223372036854775808 := rfl
  have h2 : IntKind.i64.max = 9223372036854775807 := rfl
  have := h.1
  have := h.2
  simp only [Lit.wf, Bool.and_eq_true, decide_eq_true_eq]
  omega
theorem MpS.size {L : List (List UInt8)} : Maps.size (gset litS L) = dst L := gset_size (f := litS) (fun x => (trivial : WideAt.IsKeyLit (Lit.string x))) litS_inj L
theorem MpI.size {L : List Int} : Maps.size (gset litI L) = dst L := gset_size (f := litI) (fun x => (trivial : WideAt.IsKeyLit (Lit.int .i64 x))) litI_inj L
end Go.Proofs.YtejdaeonknpgeaaDoor
