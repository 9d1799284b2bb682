/- The dice beside what lay before: what a law's walk keeps. -/
import Derived.Test.YtejdaeonknpgeaaDice
namespace Go.Proofs.Ytejdaeonknpgeaa
open Go.RowKit
/-- the dice, what they give out of, and that what lay before is as it was -/
structure Env (W w : World) (db : Nat) (p : Option Addr) (l : List Int) (cap k : Nat) : Prop where
  dice : Dice w db p l cap k
  rd : Rd w p (ints l)
  below : Below W.heap.size W w
theorem Env.keep {W w w' : World} {db : Nat} {p : Option Addr} {l : List Int} {cap k : Nat} (h : Env W w db p l cap k) (hb : Below w.heap.size w w') : Env W w' db p l cap k :=
  ⟨h.dice.keep hb, h.rd.keep hb, h.below.trans (hb.mono h.below.size)⟩
theorem Env.alloc {W w : World} {db : Nat} {p : Option Addr} {l : List Int} {cap k : Nat} (h : Env W w db p l cap k) (o : Obj) : Env W (w.alloc o) db p l cap k :=
  h.keep ((Below.refl _ _).alloc (Nat.le_refl _) _)
theorem Env.grown {W w w' : World} {db : Nat} {p : Option Addr} {l : List Int} {cap k k' : Nat} (h : Env W w db p l cap k) (hne : 0 < l.length → ∀ g off, p = some ⟨g, off, none⟩ → g ≠ db) (hdb : W.heap.size ≤ db)
    (hD : Dice w' db p l cap k') (hg : w.grownBy w' (some db)) : Env W w' db p l cap k' := by
  refine ⟨hD, ?_, h.below.grown hg h.below.size (by intro j hj; simp at hj; omega)⟩
  by_cases h0 : 0 < l.length
  · exact h.rd.grown hg (by intro g off hp; have := hne h0 g off hp; simp; omega)
  · have : l = [] := List.eq_nil_of_length_eq_zero (by omega)
    subst this
    exact Rd.nil _ _
theorem Env.set {W w : World} {db : Nat} {p : Option Addr} {l : List Int} {cap k : Nat} (h : Env W w db p l cap k) (g o : Nat) (v : Value) (hg : g ≠ db) (hg2 : W.heap.size ≤ g) (hne : 0 < l.length → ∀ g' off, p = some ⟨g', off, none⟩ → g' ≠ g) : Env W (w.setCell ⟨g, o, none⟩ v) db p l cap k := by
  have hgr : w.grownBy (w.setCell ⟨g, o, none⟩ v) (some g) := ⟨rfl, rfl, rfl, by simp, fun k _ hk => heap_setCell_other w ⟨g, o, none⟩ k v (fun e => hk (by simp [e]))⟩
  refine ⟨h.dice.grown hgr (by simp; omega), ?_, h.below.setCell (p := ⟨g, o, none⟩) hg2 v⟩
  by_cases h0 : 0 < l.length
  · exact h.rd.grown hgr (by intro g' off hp; have := hne h0 g' off hp; simp; omega)
  · have : l = [] := List.eq_nil_of_length_eq_zero (by omega)
    subst this
    exact Rd.nil _ _
theorem Env.row {W w w' : World} {db : Nat} {p : Option Addr} {l : List Int} {cap k : Nat} (h : Env W w db p l cap k) {row : Option Nat} (hg : w.grownBy w' row) (hr : ∀ j, row = some j → db < j) (hdb : W.heap.size ≤ db) (hR : Rd W p (ints l)) : Env W w' db p l cap k := by
  refine ⟨h.dice.grown hg (fun e => by have := hr _ e.symm; omega), ?_, h.below.grown hg h.below.size (fun j hj => by have := hr j hj; omega)⟩
  by_cases h0 : 0 < l.length
  · refine h.rd.grown hg (fun g off hp e => ?_)
    have := hr _ e.symm
    exact rd_ne hR (show W.heap.size ≤ g by omega) h0 g off hp rfl
  · have : l = [] := List.eq_nil_of_length_eq_zero (by omega)
    subst this
    exact Rd.nil _ _
end Go.Proofs.Ytejdaeonknpgeaa
