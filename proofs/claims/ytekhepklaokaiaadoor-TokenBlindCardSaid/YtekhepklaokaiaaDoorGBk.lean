/- A block of its own whose cells are known (a struct's box). No program in sight. -/
import Derived.Test.YtekhepklaokaiaaDoorBase
import Derived.Test.YtekhepklaokaiaaDoorGHandE
namespace Go.Proofs.YtekhepklaokaiaaDoor
open Go.RowKit
/-- block g holds these cells -/
def Bx (w : World) (g : Nat) (t : TypeId) (cs : List Value) : Prop := w.heap[g]? = some (.cells cs.toArray t (0, 0))
theorem Bx.new (w : World) (t : TypeId) (cs : List Value) : Bx (w.alloc (.cells cs.toArray t)) w.heap.size t cs := heap_alloc_new w _
theorem Bx.lt {w : World} {g : Nat} {t : TypeId} {cs : List Value} (h : Bx w g t cs) : g < w.heap.size := (Array.getElem?_eq_some_iff.1 h).1
theorem Bx.keep {w w' : World} {g : Nat} {t : TypeId} {cs : List Value} (h : Bx w g t cs) (hb : Below w.heap.size w w') : Bx w' g t cs := (hb.block g h.lt).trans h
theorem Bx.drew {w : World} {g : Nat} {t : TypeId} {cs : List Value} (h : Bx w g t cs) : Bx w.drew g t cs := h
theorem Bx.alloc {w : World} {g : Nat} {t : TypeId} {cs : List Value} (h : Bx w g t cs) (o : Obj) : Bx (w.alloc o) g t cs := h.keep ((Below.refl _ _).alloc (Nat.le_refl _) _)
theorem Bx.grown {w w' : World} {g : Nat} {t : TypeId} {cs : List Value} {row : Option Nat} (h : Bx w g t cs) (hb : w.grownBy w' row) (hne : some g ≠ row) : Bx w' g t cs := (hb.block g h.lt hne).trans h
theorem Bx.other {w : World} {g : Nat} {t : TypeId} {cs : List Value} (h : Bx w g t cs) {b : Nat} (hne : g ≠ b) (o : Nat) (v : Value) : Bx (w.setCell ⟨b, o, none⟩ v) g t cs := (heap_setCell_other w ⟨b, o, none⟩ g v hne).trans h
theorem Bx.cell {w : World} {g : Nat} {t : TypeId} {cs : List Value} (h : Bx w g t cs) (j : Nat) {v : Value} (hv : cs[j]? = some v) : w.cell? ⟨g, j, none⟩ = some v := by
  rw [Lib.cell_of_heap h]; simpa using hv
theorem Bx.free {w : World} {g : Nat} {t : TypeId} {cs : List Value} (h : Bx w g t cs) (j : Nat) : w.frozen? ⟨g, j, none⟩ = false := Lib.frozen_of_heap h j
theorem Bx.set {w : World} {g : Nat} {t : TypeId} {cs : List Value} (h : Bx w g t cs) (j : Nat) (v : Value) : Bx (w.setCell ⟨g, j, none⟩ v) g t (cs.set j v) := by
  have h' : w.heap[g]? = some (.cells cs.toArray t (0, 0)) := h
  simp [Bx, World.setCell, Array.getElem?_modify, h', Array.setIfInBounds]
  intro hj
  exact (List.set_eq_of_length_le hj).symm
end Go.Proofs.YtekhepklaokaiaaDoor
/- Members of the group of a safe prime, as the program finds them. -/
namespace Go.Proofs.YtekhepklaokaiaaDoor
open Go.RowKit
set_option maxRecDepth 100000 in
theorem hMember_walk (p : Nat) (x : Int) (w : World) (hB : Bases w) (hs : safeP (p : Int) = true) :
    Calls Tryd.prog 28 #[.int .i64 (p : Int), .int .i64 x] w fun e w' => e = .returned (.bool (memZ p x)) ∧ Below w.heap.size w w' := by
  obtain ⟨h3, h30, -⟩ := safeP_bd hs
  have KO := Lib.hid (fun V h => hof_yes p V h hs)
  have KH := Lib.hid (fun V => hhas_walk p x V (by omega) (by omega))
  generalize memZ p x = z at *
  clear hs h3 h30
  go_enter Tryd.func28, Tryd.ntmps28
  go_wp2_with (go_at_call 41; (with_reducible refine (KO.out _ hB).mono ?_))
  rintro e w1 ⟨rfl, hb1⟩
  have hb2 := hb1.trans (((Below.refl w1.heap.size w1).alloc (Nat.le_refl _) (.cells #[.int .i64 (p : Int), .int .i64 ((2 * p + 1 : Nat) : Int)] 64)).mono hb1.size)
  have hX := Bx.new w1 64 [.int .i64 (p : Int), .int .i64 ((2 * p + 1 : Nat) : Int)]
  rw [grp] at *
  generalize ((2 * p + 1 : Nat) : Int) = m at *
  go_upto_region 2 with (fail)
  change Bx (w1.alloc (.cells #[.int .i64 (p : Int), .int .i64 m] 64)) _ _ _ at hX
  generalize w1.alloc (.cells #[.int .i64 (p : Int), .int .i64 m] 64) = w2 at *
  generalize w1.heap.size = g at *
  have x0 := hX.cell 0 (v := .int .i64 (p : Int)) rfl
  have x1 := hX.cell 1 (v := .int .i64 m) rfl
  clear hX hb1
  go_wp2_with (go_at_call 42; (with_reducible refine (KH.out _).mono ?_))
  rintro e w3 ⟨rfl, hb3⟩
  have HB := Lib.hid (below_tr hb2 hb3)
  clear hb2 hb3 x0 x1
  go_wp2
  go_ret
  exact ⟨rfl, HB.out⟩
end Go.Proofs.YtekhepklaokaiaaDoor
