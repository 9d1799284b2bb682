/- Slices of structs of any number of cells: their cells, in plain Lean; what is read of them, and slices of the call's own. -/
import Derived.Test.YtnahkfchcminpaaGreatDoorBase
import Derived.Test.YtnahkfchcminpaaGreatDoorGNoDiv
namespace Go.Proofs.YtnahkfchcminpaaGreatDoor
open Go.RowKit
theorem grown_tr {a b c : World} {row : Option Nat} (h : a.grownBy b row) (k : b.grownBy c row) : a.grownBy c row :=
  ⟨k.os.trans h.os, k.tape.trans h.tape, k.output.trans h.output, Nat.le_trans h.size k.size, fun j hj hne => (k.block j (Nat.lt_of_lt_of_le hj h.size) hne).trans (h.block j hj hne)⟩
variable {α : Type} {f : α → List Value} {k : Nat}
/-- the cells of a list of rows -/
def rowsC (f : α → List Value) (l : List α) : List Value := l.flatMap f
theorem rowsC_nil : rowsC f [] = [] := rfl
theorem rowsC_cons (x : α) (l : List α) : rowsC f (x :: l) = f x ++ rowsC f l := by simp [rowsC]
theorem rowsC_append (a b : List α) : rowsC f (a ++ b) = rowsC f a ++ rowsC f b := by simp [rowsC]
theorem rowsC_single (x : α) : rowsC f [x] = f x := by simp [rowsC]
theorem rowsC_length (hf : ∀ x, (f x).length = k) (l : List α) : (rowsC f l).length = l.length * k := by
  induction l with
  | nil => simp [rowsC]
  | cons x l ih => rw [rowsC_cons, List.length_append, ih, hf, List.length_cons, Nat.succ_mul]; omega
theorem rowsC_one (h1 : ∀ x, ∀ u ∈ f x, u.oneCell' = true) (l : List α) : ∀ u ∈ rowsC f l, u.oneCell' = true := by
  intro u hu
  obtain ⟨x, _, hx⟩ := List.mem_flatMap.1 hu
  exact h1 x u hx
theorem rowsC_drop (hf : ∀ x, (f x).length = k) (l : List α) (i : Nat) : rowsC f (l.drop i) = (rowsC f l).drop (i * k) := by
  induction l generalizing i with
  | nil => simp [rowsC]
  | cons x l ih =>
    cases i with
    | zero => simp
    | succ i =>
      rw [List.drop_succ_cons, ih, rowsC_cons, Nat.succ_mul, List.drop_append, hf, show (f x).drop (i * k + k) = [] from List.drop_eq_nil_of_le (by rw [hf]; omega), List.nil_append]
      congr 1; omega
theorem rowsC_take (hf : ∀ x, (f x).length = k) (l : List α) (i : Nat) : rowsC f (l.take i) = (rowsC f l).take (i * k) := by
  induction l generalizing i with
  | nil => simp [rowsC]
  | cons x l ih =>
    cases i with
    | zero => simp [rowsC]
    | succ i =>
      rw [List.take_succ_cons, rowsC_cons, ih, rowsC_cons, Nat.succ_mul, List.take_append, hf, List.take_of_length_le (l := f x) (by rw [hf]; omega)]
      congr 2; omega
theorem rowsC_get (hf : ∀ x, (f x).length = k) {l : List α} {i : Nat} {x : α} (h : l[i]? = some x) {j : Nat} (hj : j < k) : (rowsC f l)[i * k + j]? = (f x)[j]? := by
  rw [← List.getElem?_drop, ← rowsC_drop hf]
  obtain ⟨hi, rfl⟩ := List.getElem?_eq_some_iff.1 h
  rw [List.drop_eq_getElem_cons hi, rowsC_cons, List.getElem?_append_left (by rw [hf]; exact hj)]
/-- the cells of a row whose cells are read -/
theorem Rd.rows {w : World} {a : Option Addr} {l : List α} (hf : ∀ x, (f x).length = k) (hk : 0 < k) (h : Rd w a (rowsC f l)) {i : Nat} (hi : i < l.length) :
    ∃ g off x, a = some ⟨g, off, none⟩ ∧ Hid (l[i]? = some x) ∧ ∀ j v, (f x)[j]? = some v → w.cell? ⟨g, off + i * k + j, none⟩ = some v := by
  have hr : l[i]? = some l[i] := List.getElem?_eq_getElem hi
  obtain ⟨g, off, ha, hc⟩ := h.at (by rw [rowsC_length hf]; exact Nat.mul_pos (by omega) hk)
  refine ⟨g, off, l[i], ha, hr, fun j v hj => ?_⟩
  have hjk : j < k := by
    have := (List.getElem?_eq_some_iff.1 hj).1
    rwa [hf] at this
  have := hc (i * k + j) v (by rw [rowsC_get hf hr hjk]; exact hj)
  rwa [← Nat.add_assoc] at this
theorem Rd.takes {w : World} {a : Option Addr} {xs : List Value} (h : Rd w a xs) (n : Nat) : Rd w a (xs.take n) := fun j u hj => by
  rw [List.getElem?_take] at hj
  split at hj
  · exact h j u hj
  · cases hj
theorem Rd.rowsTake {w : World} {a : Option Addr} {l : List α} (hf : ∀ x, (f x).length = k) (h : Rd w a (rowsC f l)) (i : Nat) : Rd w a (rowsC f (l.take i)) := by
  rw [rowsC_take hf]; exact h.takes _
theorem Rd.rowsDrop {w : World} {g off : Nat} {l : List α} (hf : ∀ x, (f x).length = k) (h : Rd w (some ⟨g, off, none⟩) (rowsC f l)) (i : Nat) : Rd w (some ⟨g, off + i * k, none⟩) (rowsC f (l.drop i)) := Rd.mk fun j u hj => by
  rw [rowsC_drop hf, List.getElem?_drop] at hj
  obtain ⟨g', off', ha, hc⟩ := h _ u hj
  cases ha
  rwa [← Nat.add_assoc] at hc
end Go.Proofs.YtnahkfchcminpaaGreatDoor
/- A block of its own whose cells are known (a struct's box). No program in sight. -/
namespace Go.Proofs.YtnahkfchcminpaaGreatDoor
open Go.RowKit
/-- block g holds these cells -/
def Bx (w : World) (g : Nat) (t : TypeId) (cs : List Value) : Prop := w.heap[g]? = some (.cells cs.toArray t (0, 0))
theorem Bx.new (w : World) (t : TypeId) (cs : List Value) : Bx (w.alloc (.cells cs.toArray t)) w.heap.size t cs := heap_alloc_new w _
theorem Bx.lt {w : World} {g : Nat} {t : TypeId} {cs : List Value} (h : Bx w g t cs) : g < w.heap.size := (Array.getElem?_eq_some_iff.1 h).1
theorem Bx.keep {w w' : World} {g : Nat} {t : TypeId} {cs : List Value} (h : Bx w g t cs) (hb : Below w.heap.size w w') : Bx w' g t cs := (hb.block g h.lt).trans h
theorem Bx.drew {w : World} {g : Nat} {t : TypeId} {cs : List Value} (h : Bx w g t cs) : Bx w.drew g t cs := h
theorem Bx.alloc {w : World} {g : Nat} {t : TypeId} {cs : List Value} (h : Bx w g t cs) (o : Obj) : Bx (w.alloc o) g t cs := h.keep ((Below.refl _ _).alloc (Nat.le_refl _) _)
theorem Bx.grown {w w' : World} {g : Nat} {t : TypeId} {cs : List Value} {row : Option Nat} (h : Bx w g t cs) (hb : w.grownBy w' row) (hne : some g ≠ row) : Bx w' g t cs := (hb.block g h.lt hne).trans h
theorem Bx.other {w : World} {g : Nat} {t : TypeId} {cs : List Value} (h : Bx w g t cs) {b : Nat} (hne : g ≠ b) (o : Nat) (v : Value) : Bx (w.setCell ⟨b, o, none⟩ v) g t cs := (heap_setCell_other w ⟨b, o, none⟩ g v hne).trans h
theorem Bx.cell {w : World} {g : Nat} {t : TypeId} {cs : List Value} (h : Bx w g t cs) (j : Nat) {v : Value} (hv : cs[j]? = some v) : w.cell? ⟨g, j, none⟩ = some v := by
  rw [Lib.cell_of_heap h]; simpa using hv
theorem Bx.free {w : World} {g : Nat} {t : TypeId} {cs : List Value} (h : Bx w g t cs) (j : Nat) : w.frozen? ⟨g, j, none⟩ = false := Lib.frozen_of_heap h j
theorem Bx.set {w : World} {g : Nat} {t : TypeId} {cs : List Value} (h : Bx w g t cs) (j : Nat) (v : Value) : Bx (w.setCell ⟨g, j, none⟩ v) g t (cs.set j v) := by
  have h' : w.heap[g]? = some (.cells cs.toArray t (0, 0)) := h
  simp [Bx, World.setCell, Array.getElem?_modify, h', Array.setIfInBounds]
  intro hj
  exact (List.set_eq_of_length_le hj).symm
end Go.Proofs.YtnahkfchcminpaaGreatDoor
/- People of a roll. -/
namespace Go.Proofs.YtnahkfchcminpaaGreatDoor
open Go.RowKit
/-- a person -/
structure Prs where
  id : Int
  key : Int
  dep : Int
deriving DecidableEq
def prC (x : Prs) : List Value := [.int .i64 x.id, .int .i64 x.key, .int .i64 x.dep]
theorem prC_len (x : Prs) : (prC x).length = 3 := rfl
theorem elPr : ElemOf Tryz.prog 28 43 (.agg #[.int .i64 0, .int .i64 0, .int .i64 0]) 3 24 := ⟨Tryz.underlying28, by kernel_rfl, rfl, by decide, by decide⟩
theorem Roll.ret {fn : Func} {t : Tmp} (h : fn.results = #[.cell t 30]) (tmps : Array Value) {w : World} {g : Nat} {v0 v1 : Value} (ht : tmps.getD t undef = .pointer (some ⟨g, 0, none⟩)) (hD : Bx w g 30 [v0, v1]) :
    (results fn tmps).run Tryz.prog w = .ok (.agg #[v0, v1]) w := by
  have c0 := hD.cell 0 (v := v0) rfl
  have c1 := hD.cell 1 (v := v1) rfl
  have ht' : tmps[t]?.getD undef = .pointer (some ⟨g, 0, none⟩) := by simpa using ht
  simp [results, h, ht', go_sem, c0, c1]
end Go.Proofs.YtnahkfchcminpaaGreatDoor
/- Members of the group of a safe prime, as the program finds them. -/
namespace Go.Proofs.YtnahkfchcminpaaGreatDoor
open Go.RowKit
set_option maxRecDepth 100000 in
theorem hMember_walk (p : Nat) (x : Int) (w : World) (hB : Bases w) (hs : safeP (p : Int) = true) :
    Calls Tryz.prog 54 #[.int .i64 (p : Int), .int .i64 x] w fun e w' => e = .returned (.bool (memZ p x)) ∧ Below w.heap.size w w' := by
  obtain ⟨h3, h30, -⟩ := safeP_bd hs
  have KO := Lib.hid (fun V h => hof_yes p V h hs)
  have KH := Lib.hid (fun V => hhas_walk p x V (by omega) (by omega))
  generalize memZ p x = z at *
  clear hs h3 h30
  go_enter Tryz.func54, Tryz.ntmps54
  go_wp2_with (go_at_call 56; (with_reducible refine (KO.out _ hB).mono ?_))
  rintro e w1 ⟨rfl, hb1⟩
  have hb2 := hb1.trans (((Below.refl w1.heap.size w1).alloc (Nat.le_refl _) (.cells #[.int .i64 (p : Int), .int .i64 ((2 * p + 1 : Nat) : Int)] 82)).mono hb1.size)
  have hX := Bx.new w1 82 [.int .i64 (p : Int), .int .i64 ((2 * p + 1 : Nat) : Int)]
  rw [grp] at *
  generalize ((2 * p + 1 : Nat) : Int) = m at *
  go_upto_region 2 with (fail)
  change Bx (w1.alloc (.cells #[.int .i64 (p : Int), .int .i64 m] 82)) _ _ _ at hX
  generalize w1.alloc (.cells #[.int .i64 (p : Int), .int .i64 m] 82) = w2 at *
  generalize w1.heap.size = g at *
  have x0 := hX.cell 0 (v := .int .i64 (p : Int)) rfl
  have x1 := hX.cell 1 (v := .int .i64 m) rfl
  clear hX hb1
  go_wp2_with (go_at_call 57; (with_reducible refine (KH.out _).mono ?_))
  rintro e w3 ⟨rfl, hb3⟩
  have HB := Lib.hid (below_tr hb2 hb3)
  clear hb2 hb3 x0 x1
  go_wp2
  go_ret
  exact ⟨rfl, HB.out⟩
end Go.Proofs.YtnahkfchcminpaaGreatDoor
