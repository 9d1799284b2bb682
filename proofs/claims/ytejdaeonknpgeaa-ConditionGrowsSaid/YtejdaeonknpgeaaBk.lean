/- A block of its own whose cells are known (a struct's box). No program in sight. -/
import Derived.Test.YtejdaeonknpgeaaBase
namespace Go.Proofs.Ytejdaeonknpgeaa
open Go.RowKit
/-- block g holds these cells -/
def Bx (w : World) (g : Nat) (t : TypeId) (cs : List Value) : Prop := w.heap[g]? = some (.cells cs.toArray t (0, 0))
theorem Bx.new (w : World) (t : TypeId) (cs : List Value) : Bx (w.alloc (.cells cs.toArray t)) w.heap.size t cs := heap_alloc_new w _
theorem Bx.lt {w : World} {g : Nat} {t : TypeId} {cs : List Value} (h : Bx w g t cs) : g < w.heap.size := (Array.getElem?_eq_some_iff.1 h).1
theorem Bx.keep {w w' : World} {g : Nat} {t : TypeId} {cs : List Value} (h : Bx w g t cs) (hb : Below w.heap.size w w') : Bx w' g t cs := (hb.block g h.lt).trans h
theorem Bx.drew {w : World} {g : Nat} {t : TypeId} {cs : List Value} (h : Bx w g t cs) : Bx w.drew g t cs := h
theorem Bx.alloc {w : World} {g : Nat} {t : TypeId} {cs : List Value} (h : Bx w g t cs) (o : Obj) : Bx (w.alloc o) g t cs := h.keep ((Below.refl _ _).alloc (Nat.le_refl _) _)
theorem Bx.grown {w w' : World} {g : Nat} {t : TypeId} {cs : List Value} {row : Option Nat} (h : Bx w g t cs) (hb : w.grownBy w' row) (hne : some g ≠ row) : Bx w' g t cs := (hb.block g h.lt hne).trans h
theorem Bx.other {w : World} {g : Nat} {t : TypeId} {cs : List Value} (h : Bx w g t cs) {b : Nat} (hne : g ≠ b) (o : Nat) (v : Value) : Bx (w.setCell ⟨b, o, none⟩ v) g t cs := (heap_setCell_other w ⟨b, o, none⟩ g v hne).trans h
theorem Bx.cell {w : World} {g : Nat} {t : TypeId} {cs : List Value} (h : Bx w g t cs) (j : Nat) {v : Value} (hv : cs[j]? = some v) : w.cell? ⟨g, j, none⟩ = some v := by
  rw [Lib.cell_of_heap h]; simpa using hv
theorem Bx.free {w : World} {g : Nat} {t : TypeId} {cs : List Value} (h : Bx w g t cs) (j : Nat) : w.frozen? ⟨g, j, none⟩ = false := Lib.frozen_of_heap h j
theorem Bx.set {w : World} {g : Nat} {t : TypeId} {cs : List Value} (h : Bx w g t cs) (j : Nat) (v : Value) : Bx (w.setCell ⟨g, j, none⟩ v) g t (cs.set j v) := by
  have h' : w.heap[g]? = some (.cells cs.toArray t (0, 0)) := h
  simp [Bx, World.setCell, Array.getElem?_modify, h', Array.setIfInBounds]
  intro hj
  exact (List.set_eq_of_length_le hj).symm
end Go.Proofs.Ytejdaeonknpgeaa
