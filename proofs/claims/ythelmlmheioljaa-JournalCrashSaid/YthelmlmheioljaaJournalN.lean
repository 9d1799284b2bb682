/- What the walks of the journal's theorems share: boxes of disks beside the dice. -/
import Derived.Test.YthelmlmheioljaaJournalW
import Derived.Test.YthelmlmheioljaaSpoil
namespace Go.Proofs.Ythelmlmheioljaa
open Go.RowKit
theorem mel8 : ElemOf Try.prog 34 5 (.int .u8 0) 1 1 := ⟨Try.underlying34, by kernel_rfl, rfl, by decide, by decide⟩
/-- what Of gives of small numbers, as a number -/
theorem ofF_nat {l : List Int} {k : Nat} {xs : List Int} (h : 1 ≤ xs.length) (b : Nat) (hx : ∀ x ∈ xs, 0 ≤ x ∧ x ≤ (b : Int)) : ∃ z : Nat, ofF l k xs = (z : Int) ∧ z ≤ b := by
  have := hx _ (ofF_mem l k xs h)
  exact ⟨(ofF l k xs).toNat, by omega, by omega⟩
theorem Dk.grown {w w' : World} {g : Nat} {d : List UInt8} {f : Int} {b : Bool} {row : Option Nat} (h : Dk w g d f b) (hg : w.grownBy w' row) (hne : some g ≠ row) : Dk w' g d f b := (hg.block g h.lt hne).trans h
theorem Dk.set0 {w : World} {g : Nat} {d : List UInt8} {f : Int} {b : Bool} (h : Dk w g d f b) (d' : List UInt8) : Dk (w.setCell ⟨g, 0, none⟩ (.string ⟨d'.toArray⟩)) g d' f b := by
  have h' : w.heap[g]? = some (.cells #[.string ⟨d.toArray⟩, .int .i64 f, .bool b] 23 (0, 0)) := h
  simp [Dk, World.setCell, Array.getElem?_modify, h']
theorem Env.set {W w : World} {db : Nat} {p : Option Addr} {l : List Int} {cap k : Nat} (h : Env W w db p l cap k) (g o : Nat) (v : Value) (hg : g ≠ db) (hg2 : W.heap.size ≤ g) (hne : 0 < l.length → ∀ g' off, p = some ⟨g', off, none⟩ → g' ≠ g) : Env W (w.setCell ⟨g, o, none⟩ v) db p l cap k := by
  have hgr : w.grownBy (w.setCell ⟨g, o, none⟩ v) (some g) := ⟨rfl, rfl, rfl, by simp, fun k _ hk => heap_setCell_other w ⟨g, o, none⟩ k v (fun e => hk (by simp [e]))⟩
  refine ⟨h.dice.grown hgr (by simp; omega), ?_, h.below.setCell (p := ⟨g, o, none⟩) hg2 v⟩
  by_cases h0 : 0 < l.length
  · exact h.rd.grown hgr (by intro g' off hp; have := hne h0 g' off hp; simp; omega)
  · have : l = [] := List.eq_nil_of_length_eq_zero (by omega)
    subst this
    exact Rd.nil _ _
end Go.Proofs.Ythelmlmheioljaa
