/- The law's condition of two. -/
import Derived.Test.YtejdaeonknpgeaaDoorGCndU
import Derived.Test.YtejdaeonknpgeaaDoorGCndM
namespace Go.Proofs.YtejdaeonknpgeaaDoor
open Go.RowKit
/-- a condition's terms as they may be joined -/
def Small (A : List Trm) : Prop := A.length ≤ 24 ∧ ∀ t ∈ A, t.args.length ≤ 24 ∧ ∀ a ∈ t.args, 0 ≤ a ∧ a ≤ 1000
/-- the first i terms, their Args by n greater -/
def ShL (n : Nat) (A : List Trm) (i : Nat) (X : List Trm) : Prop := X.length = i ∧ ∀ q t, q < i → A[q]? = some t → ∃ t', X[q]? = some t' ∧ ShT n t t'
theorem ShL.snoc {n : Nat} {A : List Trm} {i : Nat} {X : List Trm} {t t' : Trm} (h : ShL n A i X) (ht : A[i]? = some t) (hs : ShT n t t') : ShL n A (i + 1) (X ++ [t']) := by
  refine ⟨by rw [List.length_append, h.1]; rfl, fun q s hq hqs => ?_⟩
  by_cases e : q = i
  · subst e
    obtain rfl := Option.some.inj (ht.symm.trans hqs)
    exact ⟨t', by rw [List.getElem?_append_right (by rw [h.1]; exact Nat.le_refl _), h.1, Nat.sub_self]; rfl, hs⟩
  · obtain ⟨s', h1, h2⟩ := h.2 q s (by omega) hqs
    exact ⟨s', by rw [List.getElem?_append_left (by rw [h.1]; omega)]; exact h1, h2⟩
def rootB (kind : Int) (n : Nat) (t : Trm) : Prop := t.kind = kind ∧ t.number = 0 ∧ t.years = 0 ∧ t.field = [] ∧ t.text = [] ∧ t.args = [1, 1 + (n : Int)]
/-- the condition of two as it grows -/
def JUp (kind : Int) (A B : List Trm) (k : Nat) (J : List Trm) : Prop := ∃ r XA XB, J = r :: (XA ++ XB) ∧ rootB kind A.length r ∧ ShL 1 A (if 1 ≤ k then A.length else 0) XA ∧ ShL (1 + A.length) B (if 2 ≤ k then B.length else 0) XB
theorem JUp.next0 {kind : Int} {A B J Y : List Trm} (h : JUp kind A B 0 J) (hy : ShL 1 A A.length Y) : JUp kind A B 1 (J ++ Y) := by
  obtain ⟨r, XA, XB, rfl, hr, ha, hb⟩ := h
  obtain rfl : XA = [] := List.length_eq_zero_iff.1 ha.1
  obtain rfl : XB = [] := List.length_eq_zero_iff.1 hb.1
  exact ⟨r, Y, [], by simp, hr, hy, hb⟩
theorem JUp.next1 {kind : Int} {A B J Y : List Trm} (h : JUp kind A B 1 J) (hy : ShL (1 + A.length) B B.length Y) : JUp kind A B 2 (J ++ Y) := by
  obtain ⟨r, XA, XB, rfl, hr, ha, hb⟩ := h
  obtain rfl : XB = [] := List.length_eq_zero_iff.1 hb.1
  exact ⟨r, XA, Y, by simp, hr, ha, hy⟩
theorem JUp.fin {kind : Int} {A B J : List Trm} (h : JUp kind A B 2 J) : Joined kind A B J := by
  obtain ⟨r, XA, XB, rfl, hr, ha, hb⟩ := h
  rw [if_pos (by omega)] at ha hb
  have la := ha.1
  have lb := hb.1
  refine ⟨⟨r, rfl, hr⟩, ⟨fun i t ht => ?_, by simp; omega⟩, ⟨fun i t ht => ?_, by simp; omega⟩, by simp; omega⟩
  · have hi := (List.getElem?_eq_some_iff.1 ht).1
    obtain ⟨t', h1, h2⟩ := ha.2 i t hi ht
    exact ⟨t', by rw [Nat.add_comm, List.getElem?_cons_succ, List.getElem?_append_left (by omega)]; exact h1, h2⟩
  · have hi := (List.getElem?_eq_some_iff.1 ht).1
    obtain ⟨t', h1, h2⟩ := hb.2 i t hi ht
    exact ⟨t', by rw [show 1 + A.length + i = (A.length + i) + 1 by omega, List.getElem?_cons_succ, List.getElem?_append_right (by omega), show A.length + i - XA.length = i by omega]; exact h1, h2⟩
/-- a condition that the call makes; S: blocks that stay -/
structure Jg (w0 w : World) (S : Nat → Prop) (g7 : Nat) (ja : Option Addr) (n jc : Nat) (J : List Trm) : Prop where
  c : Bx w g7 29 [.slice ja n jc]
  o : Ow w w0.heap.size 6 ja n jc (rowsC trC J)
  n : J.length = n
  rows : ∀ t ∈ J, Rd w t.aa (ints t.args) ∧ ∀ j, rowOf t.aa = some j → j < w.heap.size ∧ j ≠ g7 ∧ rowOf ja ≠ some j ∧ ¬ S j
  inn : ∀ t ∈ J, t.In
  nc : ∀ j, rowOf ja = some j → j ≠ g7 ∧ ¬ S j
  b : Below w0.heap.size w0 w
  lo : w0.heap.size ≤ g7
  lo2 : ∀ t ∈ J, ∀ j, rowOf t.aa = some j → w0.heap.size ≤ j
section
variable {w0 w w' : World} {S : Nat → Prop} {g7 : Nat} {ja : Option Addr} {n jc : Nat} {J : List Trm}
theorem Jg.keep (h : Jg w0 w S g7 ja n jc J) (hb : Below w.heap.size w w') : Jg w0 w' S g7 ja n jc J :=
  ⟨h.c.keep hb, h.o.keep hb, h.n, fun t ht => ⟨(h.rows t ht).1.keep hb, fun j hj => ⟨Nat.lt_of_lt_of_le ((h.rows t ht).2 j hj).1 hb.size, ((h.rows t ht).2 j hj).2⟩⟩, h.inn, h.nc, h.b.trans (hb.mono h.b.size), h.lo, h.lo2⟩
theorem Jg.more {S' : Nat → Prop} (h : Jg w0 w S g7 ja n jc J) (hs : ∀ j, S' j → S j ∨ w.heap.size ≤ j) : Jg w0 w S' g7 ja n jc J :=
  ⟨h.c, h.o, h.n, fun t ht => ⟨(h.rows t ht).1, fun j hj => ⟨((h.rows t ht).2 j hj).1, ((h.rows t ht).2 j hj).2.1, ((h.rows t ht).2 j hj).2.2.1, fun e => (hs j e).elim ((h.rows t ht).2 j hj).2.2.2 (fun e2 => by have := ((h.rows t ht).2 j hj).1; omega)⟩⟩, h.inn, fun j hj => ⟨(h.nc j hj).1, fun e => (hs j e).elim (h.nc j hj).2 (fun e2 => by have := (h.o.row j hj).2; omega)⟩, h.b, h.lo, h.lo2⟩
/-- a term is appended -/
theorem Jg.push {a2 : Option Addr} {c2 : Nat} {wA : World} {t : Trm} (h : Jg w0 w S g7 ja n jc J) (hO : Ow wA w0.heap.size 6 a2 (n + 1) c2 (rowsC trC J ++ trC t)) (hb : Below w0.heap.size w0 wA) (hg : w.grownBy wA (rowOf ja)) (hat : rowOf a2 = rowOf ja ∨ rowOf a2 = some (w.heap.size + 1))
    (hr : Rd w t.aa (ints t.args)) (hrow : ∀ j, rowOf t.aa = some j → j < w.heap.size ∧ j ≠ g7 ∧ rowOf ja ≠ some j ∧ ¬ S j) (hlow : ∀ j, rowOf t.aa = some j → w0.heap.size ≤ j) (hi : t.In) (hS : ∀ j, S j → j < w.heap.size) :
    Jg w0 (wA.setCell ⟨g7, 0, none⟩ (.slice a2 (n + 1) c2)) S g7 a2 (n + 1) c2 (J ++ [t]) ∧ Kp (fun j => j = g7 ∨ rowOf ja = some j) w (wA.setCell ⟨g7, 0, none⟩ (.slice a2 (n + 1) c2)) := by
  have lc := h.c.lt
  have c8 := h.c.grown hg (fun e => (h.nc g7 e.symm).1 rfl)
  have hk1 : Kp (fun j => j = g7 ∨ rowOf ja = some j) w wA := Kp.of_grown hg (fun j e => .inr e)
  have hk : Kp (fun j => j = g7 ∨ rowOf ja = some j) w (wA.setCell ⟨g7, 0, none⟩ (.slice a2 (n + 1) c2)) := hk1.trans (setCell_kp wA g7 0 _ (S := fun j => j = g7) rfl) (fun j _ e => .inl e)
  have hrow2 : ∀ j, rowOf a2 = some j → j ≠ g7 ∧ ¬ S j := by
    intro j hj
    rcases hat with e | e
    · exact h.nc j (e ▸ hj)
    · have e2 := Option.some.inj (e.symm.trans hj)
      exact ⟨by omega, fun e3 => by have := hS j e3; omega⟩
  rw [show rowsC trC J ++ trC t = rowsC trC (J ++ [t]) by rw [rowsC_append, rowsC_single]] at hO
  have key : ∀ s : Trm, (Rd w s.aa (ints s.args) ∧ ∀ j, rowOf s.aa = some j → j < w.heap.size ∧ j ≠ g7 ∧ rowOf ja ≠ some j ∧ ¬ S j) → Rd (wA.setCell ⟨g7, 0, none⟩ (.slice a2 (n + 1) c2)) s.aa (ints s.args) ∧ ∀ j, rowOf s.aa = some j → j < (wA.setCell ⟨g7, 0, none⟩ (.slice a2 (n + 1) c2)).heap.size ∧ j ≠ g7 ∧ rowOf a2 ≠ some j ∧ ¬ S j := by
    rintro s ⟨r1, r2⟩
    refine ⟨r1.kp hk (fun j hj => ?_), fun j hj => ?_⟩
    · have := r2 j hj
      rintro (e | e)
      · omega
      · exact this.2.2.1 e
    · have := r2 j hj
      refine ⟨Nat.lt_of_lt_of_le this.1 hk.size, this.2.1, fun e => ?_, this.2.2.2⟩
      rcases hat with e2 | e2
      · exact this.2.2.1 (e2 ▸ e)
      · have := Option.some.inj (e2.symm.trans e); omega
  refine ⟨⟨c8.set 0 _, hO.kp (setCell_kp wA g7 0 _ (S := fun j => j = g7) rfl) (fun j hj => (hrow2 j hj).1), by rw [List.length_append, h.n]; rfl, ?_, ?_, hrow2, hb.setCell (p := ⟨g7, 0, none⟩) h.lo _, h.lo, ?_⟩, hk⟩
  · intro s hs
    rcases List.mem_append.1 hs with hs | hs
    · exact key s (h.rows s hs)
    · rw [List.mem_singleton.1 hs]; exact key t ⟨hr, hrow⟩
  · intro s hs
    rcases List.mem_append.1 hs with hs | hs
    · exact h.inn s hs
    · rw [List.mem_singleton.1 hs]; exact hi
  · intro s hs
    rcases List.mem_append.1 hs with hs | hs
    · exact h.lo2 s hs
    · rw [List.mem_singleton.1 hs]; exact hlow
theorem Jg.old {wA : World} (h : Jg w0 w S g7 ja n jc J) (hg : w.grownBy wA (rowOf ja)) : wA.cell? ⟨g7, 0, none⟩ = some (.slice ja n jc) ∧ wA.frozen? ⟨g7, 0, none⟩ = false := by
  have c8 := h.c.grown hg (fun e => (h.nc g7 e.symm).1 rfl)
  exact ⟨c8.cell 0 rfl, c8.free 0⟩
end
/-- what joined returns -/
def JoinRes (kind : Int) (A B : List Trm) (w : World) (e : Ending) (w' : World) : Prop := ∃ (J : List Trm) (ja : Option Addr) (jc : Nat), e = .returned (.agg #[.slice ja J.length jc]) ∧ Joined kind A B J ∧ RdT w' ja J ∧ (∀ j, rowOf ja = some j → w.heap.size ≤ j ∧ j < w'.heap.size) ∧ (∀ t ∈ J, ∀ j, rowOf t.aa = some j → w.heap.size ≤ j ∧ j < w'.heap.size) ∧ Below w.heap.size w w'
theorem alloc7 (w : World) (c1 c2 c3 c4 c5 c6 c7 : List Value) (t1 t2 t3 t4 t5 t6 t7 : TypeId) :
    ∃ W, W = (((((((w.alloc (.cells c1.toArray t1)).alloc (.cells c2.toArray t2)).alloc (.cells c3.toArray t3)).alloc (.cells c4.toArray t4)).alloc (.cells c5.toArray t5)).alloc (.cells c6.toArray t6)).alloc (.cells c7.toArray t7)) ∧
    Bx W w.heap.size t1 c1 ∧ Bx W (w.heap.size + 1) t2 c2 ∧ Bx W (w.heap.size + 1 + 1) t3 c3 ∧ Bx W (w.heap.size + 1 + 1 + 1) t4 c4 ∧ Bx W (w.heap.size + 1 + 1 + 1 + 1) t5 c5 ∧ Bx W (w.heap.size + 1 + 1 + 1 + 1 + 1) t6 c6 ∧ Bx W (w.heap.size + 1 + 1 + 1 + 1 + 1 + 1) t7 c7 ∧ Below w.heap.size w W := by
  have b (W : World) (o : Obj) : (W.alloc o).heap.size = W.heap.size + 1 := by simp
  have k (W : World) (o : Obj) : Below W.heap.size W (W.alloc o) := (Below.refl _ _).alloc (Nat.le_refl _) _
  refine ⟨_, rfl, ?_, ?_, ?_, ?_, ?_, ?_, ?_, ?_⟩
  · exact ((((((Bx.new w t1 c1).alloc _).alloc _).alloc _).alloc _).alloc _).alloc _
  · have := Bx.new (w.alloc (.cells c1.toArray t1)) t2 c2
    rw [b] at this
    exact ((((this.alloc _).alloc _).alloc _).alloc _).alloc _
  · have := Bx.new ((w.alloc (.cells c1.toArray t1)).alloc (.cells c2.toArray t2)) t3 c3
    rw [b, b] at this
    exact (((this.alloc _).alloc _).alloc _).alloc _
  · have := Bx.new (((w.alloc (.cells c1.toArray t1)).alloc (.cells c2.toArray t2)).alloc (.cells c3.toArray t3)) t4 c4
    rw [b, b, b] at this
    exact ((this.alloc _).alloc _).alloc _
  · have := Bx.new ((((w.alloc (.cells c1.toArray t1)).alloc (.cells c2.toArray t2)).alloc (.cells c3.toArray t3)).alloc (.cells c4.toArray t4)) t5 c5
    rw [b, b, b, b] at this
    exact (this.alloc _).alloc _
  · have := Bx.new (((((w.alloc (.cells c1.toArray t1)).alloc (.cells c2.toArray t2)).alloc (.cells c3.toArray t3)).alloc (.cells c4.toArray t4)).alloc (.cells c5.toArray t5)) t6 c6
    rw [b, b, b, b, b] at this
    exact this.alloc _
  · have := Bx.new ((((((w.alloc (.cells c1.toArray t1)).alloc (.cells c2.toArray t2)).alloc (.cells c3.toArray t3)).alloc (.cells c4.toArray t4)).alloc (.cells c5.toArray t5)).alloc (.cells c6.toArray t6)) t7 c7
    rw [b, b, b, b, b, b] at this
    exact this
  · exact ((((((k _ _).trans ((k _ _).mono (by simp))).trans ((k _ _).mono (by simp; omega))).trans ((k _ _).mono (by simp; omega))).trans ((k _ _).mono (by simp; omega))).trans ((k _ _).mono (by simp; omega))).trans ((k _ _).mono (by simp; omega))
end Go.Proofs.YtejdaeonknpgeaaDoor
