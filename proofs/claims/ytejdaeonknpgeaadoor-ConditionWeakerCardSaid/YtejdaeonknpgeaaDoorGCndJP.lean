/- Conditions that are joined, and which are weaker. No program in sight. -/
import Derived.Test.YtejdaeonknpgeaaDoorGCndSP
import Derived.Test.YtejdaeonknpgeaaDoorCndQ
namespace Go.Proofs.YtejdaeonknpgeaaDoor
def headEq (x y : Trm) : Bool := decide (x.kind = y.kind) && (decide (x.number = y.number) && (decide (x.years = y.years) && (decide (x.field = y.field) && (decide (x.text = y.text) && decide (x.args.length = y.args.length)))))
def zipAll (p : Int → Int → Bool) : List Int → List Int → Bool
  | a :: l, b :: m => p a b && zipAll p l m
  | _, _ => true
/-- same: the terms of two conditions, from some numbers on, are equal -/
def sameT (A B : List Trm) : Nat → Nat → Nat → Bool
  | 0, _, _ => false
  | f + 1, i, k => match A[i]?, B[k]? with
    | some x, some y => headEq x y && zipAll (fun a b => sameT A B f a.toNat b.toNat) x.args y.args
    | _, _ => false
def firstAny (kind : Int) (T : List Trm) (p : Int → Bool) : Bool := match T[0]? with
  | some t => decide (t.kind = kind) && t.args.any p
  | none => false
/-- Weaker -/
def weakF (A B : List Trm) : Bool := (rightC A && rightC B) && (sameT A B 24 0 0 || (firstAny 2 B (fun k => sameT A B 24 0 k.toNat) || firstAny 1 A (fun k => sameT A B 24 k.toNat 0)))
/-- a term, its Args by a number greater -/
structure ShT (n : Int) (t t' : Trm) : Prop where
  kind : t'.kind = t.kind
  number : t'.number = t.number
  years : t'.years = t.years
  field : t'.field = t.field
  text : t'.text = t.text
  args : t'.args = t.args.map (· + n)
/-- one condition's terms stand in another one, from a number on -/
structure AtS (n : Nat) (A J : List Trm) : Prop where
  at' : ∀ i t, A[i]? = some t → ∃ t', J[n + i]? = some t' ∧ ShT n t t'
  le : n + A.length ≤ J.length
theorem ShT.len {n : Int} {t t' : Trm} (h : ShT n t t') : t'.args.length = t.args.length := by rw [h.args, List.length_map]
theorem ShT.ok {n : Int} {t t' : Trm} (h : ShT n t t') : okT t' = okT t := by
  unfold okT bareF noF
  rw [h.len, h.kind, h.number, h.years, h.field, h.text]
theorem ShT.head {n : Int} {t t' : Trm} (h : ShT n t t') : headEq t t' = true ∧ headEq t' t = true := by
  unfold headEq
  rw [h.len, h.kind, h.number, h.years, h.field, h.text]
  simp
theorem AtS.refl (A : List Trm) : AtS 0 A A := ⟨fun i t h => ⟨t, by rwa [Nat.zero_add], ⟨rfl, rfl, rfl, rfl, rfl, by simp⟩⟩, by omega⟩
theorem growA_shift {n : Nat} {G H : Nat → Option Nat} (hG : ∀ i m, G i = some m → H (n + i) = some (n + m)) : ∀ (l : List Int) (nx m : Nat), growA G l nx = some m → growA H (l.map (· + (n : Int))) (n + nx) = some (n + m)
  | [], nx, m, h => by
    simp only [growA, Option.some.injEq] at h
    subst h; rfl
  | k :: r, nx, m, h => by
    simp only [growA] at h
    split at h
    · next hk =>
      split at h
      · next n2 hg =>
        simp only [List.map_cons, growA]
        rw [if_pos (by subst hk; push_cast; omega), hG _ _ hg]
        exact growA_shift hG r n2 m h
      · cases h
    · cases h
theorem growT_shift {n : Nat} {A J : List Trm} (h : AtS n A J) : ∀ d i m, growT A d i = some m → growT J d (n + i) = some (n + m)
  | 0, _, _, hm => by simp [growT] at hm
  | d + 1, i, m, hm => by
    simp only [growT] at hm ⊢
    split at hm
    · cases hm
    · next t ht =>
      split at hm
      · next ho =>
        obtain ⟨t', ht', hs⟩ := h.at' i t ht
        rw [ht']
        dsimp only
        rw [if_pos (by rw [hs.ok]; exact ho), hs.args]
        exact growA_shift (growT_shift h d) t.args (i + 1) m hm
      · cases hm
theorem all_shift {l : List Int} {n : Int} {p q : Int → Bool} (h : ∀ a ∈ l, p (a + n) = q a) : ((l.map (· + n)).all p = l.all q) ∧ ((l.map (· + n)).any p = l.any q) := by
  induction l with
  | nil => exact ⟨rfl, rfl⟩
  | cons a l ih =>
    have h1 := h a (List.mem_cons_self ..)
    have h2 := ih (fun b hb => h b (List.mem_cons_of_mem _ hb))
    simp only [List.map_cons, List.all_cons, List.any_cons, h1, h2.1, h2.2, and_self]
theorem holdsT_shift {wi : Int → Int → Int → Bool} {me : Mem} {o : List Mem} {n : Nat} {A J : List Trm} (h : AtS n A J) (hS : Seg A 0 A.length) : ∀ f i, i < A.length → holdsT wi J me o f (n + i) = holdsT wi A me o f i
  | 0, _, _ => rfl
  | f + 1, i, hi => by
    obtain ⟨t, ht, -, ha⟩ := hS i (Nat.zero_le _) hi
    obtain ⟨t', ht', hs⟩ := h.at' i t ht
    have e : ∀ a ∈ t.args, (fun b : Int => holdsT wi J me o f b.toNat) (a + n) = (fun b : Int => holdsT wi A me o f b.toNat) a := fun a hh => by
      have h1 := ha a hh
      have h2 := holdsT_shift (wi := wi) (me := me) (o := o) h hS f a.toNat (by omega)
      show holdsT wi J me o f (a + n).toNat = holdsT wi A me o f a.toNat
      rw [← h2]; congr 1; omega
    simp only [holdsT, ht, ht']
    rw [hs.kind, hs.args, (all_shift e).1, (all_shift e).2]
    have hl : leafT wi t' me o = leafT wi t me o := by unfold leafT; rw [hs.kind, hs.number, hs.years, hs.field, hs.text]
    rw [hl]
theorem map_shift {l : List Int} {n : Int} {p q : Int → Int} (h : ∀ a ∈ l, p (a + n) = q a) : ((l.map (· + n)).map p = l.map q) := by
  rw [List.map_map]
  exact List.map_congr_left h
theorem leastT_shift {n : Nat} {A J : List Trm} (h : AtS n A J) (hS : Seg A 0 A.length) : ∀ f i, i < A.length → leastT J f (n + i) = leastT A f i
  | 0, _, _ => rfl
  | f + 1, i, hi => by
    obtain ⟨t, ht, -, ha⟩ := hS i (Nat.zero_le _) hi
    obtain ⟨t', ht', hs⟩ := h.at' i t ht
    have e : ∀ a ∈ t.args, (fun b : Int => leastT J f b.toNat) (a + n) = (fun b : Int => leastT A f b.toNat) a := fun a hh => by
      have h1 := ha a hh
      have h2 := leastT_shift h hS f a.toNat (by omega)
      show leastT J f (a + n).toNat = leastT A f a.toNat
      rw [← h2]; congr 1; omega
    simp only [leastT, ht, ht']
    rw [hs.kind, hs.args, map_shift e, hs.number]
theorem leastT_fuel {T : List Trm} (h : Seg T 0 T.length) : ∀ (f g n : Nat), T.length - n ≤ f → T.length - n ≤ g → leastT T f n = leastT T g n
  | 0, 0, _, _, _ => rfl
  | 0, g + 1, n, h1, _ => by
    have : T[n]? = none := List.getElem?_eq_none (by omega)
    simp [leastT, this]
  | f + 1, 0, n, _, h2 => by
    have : T[n]? = none := List.getElem?_eq_none (by omega)
    simp [leastT, this]
  | f + 1, g + 1, n, h1, h2 => by
    simp only [leastT]
    cases ht : T[n]? with
    | none => rfl
    | some t =>
      have hn : n < T.length := (List.getElem?_eq_some_iff.1 ht).1
      obtain ⟨t', ht', -, ha⟩ := h n (Nat.zero_le _) hn
      rw [ht] at ht'
      cases ht'
      have e : (t.args.map fun a => leastT T f a.toNat) = t.args.map fun a => leastT T g a.toNat := List.map_congr_left fun a hh => leastT_fuel h f g a.toNat (by have := ha a hh; omega) (by have := ha a hh; omega)
      dsimp only
      rw [e]
theorem zip_shift {l : List Int} {n : Int} {p : Int → Int → Bool} (h : ∀ a ∈ l, p a (a + n) = true) : zipAll p l (l.map (· + n)) = true := by
  induction l with
  | nil => rfl
  | cons a l ih => simp only [List.map_cons, zipAll, h a (List.mem_cons_self ..), ih (fun b hb => h b (List.mem_cons_of_mem _ hb)), Bool.and_self]
theorem zip_shift' {l : List Int} {n : Int} {p : Int → Int → Bool} (h : ∀ a ∈ l, p (a + n) a = true) : zipAll p (l.map (· + n)) l = true := by
  induction l with
  | nil => rfl
  | cons a l ih => simp only [List.map_cons, zipAll, h a (List.mem_cons_self ..), ih (fun b hb => h b (List.mem_cons_of_mem _ hb)), Bool.and_self]
theorem same_shift {n : Nat} {A J : List Trm} (h : AtS n A J) (hS : Seg A 0 A.length) : ∀ f i, i < A.length → A.length - i ≤ f → sameT A J f i (n + i) = true ∧ sameT J A f (n + i) i = true
  | 0, i, hi, hf => by omega
  | f + 1, i, hi, hf => by
    obtain ⟨t, ht, -, ha⟩ := hS i (Nat.zero_le _) hi
    obtain ⟨t', ht', hs⟩ := h.at' i t ht
    simp only [sameT, ht, ht', hs.head.1, hs.head.2, Bool.true_and, hs.args]
    have e : ∀ a ∈ t.args, sameT A J f a.toNat (a + n).toNat = true ∧ sameT J A f (a + n).toNat a.toNat = true := fun a hh => by
      have h1 := ha a hh
      have h2 := same_shift h hS f a.toNat (by omega) (by omega)
      rwa [show n + a.toNat = (a + (n : Int)).toNat by omega] at h2
    exact ⟨zip_shift (fun a hh => (e a hh).1), zip_shift' (fun a hh => (e a hh).2)⟩
theorem termJ_at {wi : Int → Int → Int → Bool} {T : List Trm} {l : List Mem} {i : Nat} {m : Mem} (hm : l[i]? = some m) (hT : rightC T = true) (h0 : 0 < T.length) : termF wi T 0 l (i : Int) = holdsT wi T m (othF l m) T.length 0 := by
  have e0 : (decide ((0 : Int) ≤ 0 ∧ (0 : Int) < (T.length : Int))) = true := decide_eq_true ⟨by omega, by omega⟩
  unfold termF
  rw [if_pos (by omega), Int.toNat_natCast, hm]
  dsimp only
  rw [hT, e0]
  simp
/-- a condition of two -/
structure Joined (kind : Int) (A B J : List Trm) : Prop where
  root : ∃ t, J[0]? = some t ∧ t.kind = kind ∧ t.number = 0 ∧ t.years = 0 ∧ t.field = [] ∧ t.text = [] ∧ t.args = [1, 1 + (A.length : Int)]
  a : AtS 1 A J
  b : AtS (1 + A.length) B J
  len : J.length = 1 + A.length + B.length
section
variable {kind : Int} {A B J : List Trm}
theorem Joined.right (h : Joined kind A B J) (hk : kind = 1 ∨ kind = 2) (hA : GrowsAt 2 0 A) (hB : GrowsAt 2 0 B) (hl : J.length ≤ 24) : rightC J = true := by
  have ga : growT A 2 0 = some A.length := by have := hA [] [] rfl; simpa using this
  have gb : growT B 2 0 = some B.length := by have := hB [] [] rfl; simpa using this
  have ja := growT_shift h.a 2 0 _ ga
  have jb := growT_shift h.b 2 0 _ gb
  obtain ⟨t, ht, t1, t2, t3, t4, t5, t6⟩ := h.root
  have ho : okT t = true := by
    unfold okT bareF noF sevB
    rw [t1, t2, t3, t4, t5, t6]
    rcases hk with rfl | rfl <;> rfl
  have g3 : growT J 3 0 = some J.length := by
    simp only [growT] at ja jb ⊢
    rw [ht]
    dsimp only
    rw [if_pos ho, t6]
    simp only [growA]
    rw [if_pos (by omega)]
    simp only [Nat.add_zero, Nat.zero_add] at ja jb ⊢
    rw [ja]
    dsimp only
    rw [if_pos (by push_cast; omega), jb]
    simp only [Option.some.injEq]
    rw [h.len]
  have g6 := growT_mono J 3 6 0 _ (by omega) g3
  simp [rightC, hl, g6]
theorem Joined.holds (h : Joined kind A B J) (hk : kind = 1 ∨ kind = 2) (hA : rightC A = true) (hB : rightC B = true) (hJ : rightC J = true) {wi : Int → Int → Int → Bool} {l : List Mem} {i : Nat} (hi : i < l.length) :
    termF wi J 0 l (i : Int) = if kind = 1 then (termF wi A 0 l (i : Int) && termF wi B 0 l (i : Int)) else (termF wi A 0 l (i : Int) || termF wi B 0 l (i : Int)) := by
  obtain ⟨-, a0, sa⟩ := right_all hA
  obtain ⟨-, b0, sb⟩ := right_all hB
  obtain ⟨-, j0, -⟩ := right_all hJ
  obtain ⟨t, ht, t1, -, -, -, -, t6⟩ := h.root
  obtain ⟨m, hm⟩ : ∃ m, l[i]? = some m := ⟨_, List.getElem?_eq_getElem hi⟩
  have hl := h.len
  rw [termJ_at hm hA a0, termJ_at hm hB b0, termJ_at hm hJ j0]
  obtain ⟨f, hf⟩ : ∃ f, J.length = f + 1 := ⟨J.length - 1, by omega⟩
  have x1 := holdsT_shift (wi := wi) (me := m) (o := othF l m) h.a sa f 0 a0
  have x2 := holdsT_shift (wi := wi) (me := m) (o := othF l m) h.b sb f 0 b0
  rw [holdsT_fuel sa f A.length 0 (by omega) (by omega)] at x1
  rw [holdsT_fuel sb f B.length 0 (by omega) (by omega)] at x2
  rw [hf]
  simp only [holdsT, ht]
  rw [t1, t6]
  have n2 : (1 + (A.length : Int)).toNat = 1 + A.length := by omega
  simp only [Nat.add_zero] at x1 x2
  rcases hk with rfl | rfl
  · rw [if_pos rfl, if_pos rfl]
    simp only [List.all_cons, List.all_nil, Bool.and_true, n2]
    rw [show (1 : Int).toNat = 1 from rfl, x1, x2]
  · rw [if_neg (by decide), if_pos rfl, if_neg (by decide)]
    simp only [List.any_cons, List.any_nil, Bool.or_false, n2]
    rw [show (1 : Int).toNat = 1 from rfl, x1, x2]
theorem Joined.least (h : Joined kind A B J) (hk : kind = 1 ∨ kind = 2) (hA : rightC A = true) (hB : rightC B = true) (hJ : rightC J = true) :
    leastF J = if kind = 1 then max (leastF A) (leastF B) else min (leastF A) (leastF B) := by
  obtain ⟨-, a0, sa⟩ := right_all hA
  obtain ⟨-, b0, sb⟩ := right_all hB
  obtain ⟨t, ht, t1, -, -, -, -, t6⟩ := h.root
  have hl := h.len
  unfold leastF
  rw [if_pos hA, if_pos hB, if_pos hJ]
  obtain ⟨f, hf⟩ : ∃ f, J.length = f + 1 := ⟨J.length - 1, by omega⟩
  have x1 := leastT_shift h.a sa f 0 a0
  have x2 := leastT_shift h.b sb f 0 b0
  rw [leastT_fuel sa f A.length 0 (by omega) (by omega)] at x1
  rw [leastT_fuel sb f B.length 0 (by omega) (by omega)] at x2
  rw [hf]
  simp only [leastT, ht]
  rw [t1, t6]
  have n2 : (1 + (A.length : Int)).toNat = 1 + A.length := by omega
  simp only [Nat.add_zero] at x1 x2
  rcases hk with rfl | rfl
  · rw [if_pos rfl, if_pos rfl]
    simp only [List.map_cons, List.map_nil, n2]
    rw [show (1 : Int).toNat = 1 from rfl, x1, x2]
    rfl
  · rw [if_neg (by decide), if_pos rfl, if_neg (by decide)]
    simp only [List.map_cons, List.map_nil, n2]
    rw [show (1 : Int).toNat = 1 from rfl, x1, x2]
    rfl
theorem Joined.weak1 (h : Joined 2 A B J) (hA : rightC A = true) (hJ : rightC J = true) : weakF A J = true := by
  obtain ⟨a24, a0, sa⟩ := right_all hA
  obtain ⟨t, ht, t1, -, -, -, -, t6⟩ := h.root
  have hs := (same_shift h.a sa 24 0 a0 (by omega)).1
  have e : firstAny 2 J (fun k => sameT A J 24 0 k.toNat) = true := by
    unfold firstAny
    rw [ht]
    dsimp only
    rw [t1, t6]
    simp only [List.any_cons]
    rw [show (1 : Int).toNat = 1 + 0 from rfl, hs]
    simp
  unfold weakF
  rw [hA, hJ, e]
  simp
theorem Joined.weak2 (h : Joined 1 A B J) (hB : rightC B = true) (hJ : rightC J = true) : weakF J B = true := by
  obtain ⟨b24, b0, sb⟩ := right_all hB
  obtain ⟨t, ht, t1, -, -, -, -, t6⟩ := h.root
  have hs := (same_shift h.b sb 24 0 b0 (by omega)).2
  have e : firstAny 1 J (fun k => sameT J B 24 k.toNat 0) = true := by
    unfold firstAny
    rw [ht]
    dsimp only
    rw [t1, t6]
    simp only [List.any_cons, List.any_nil, Bool.or_false]
    rw [show (1 + (A.length : Int)).toNat = 1 + A.length + 0 by omega, hs]
    simp
  unfold weakF
  rw [hB, hJ, e]
  simp
end
theorem weak_refl {A : List Trm} (hA : rightC A = true) : weakF A A = true := by
  obtain ⟨a24, a0, sa⟩ := right_all hA
  have hs := (same_shift (AtS.refl A) sa 24 0 a0 (by omega)).1
  unfold weakF
  rw [hA, show sameT A A 24 0 0 = true from hs]
  rfl
end Go.Proofs.YtejdaeonknpgeaaDoor
