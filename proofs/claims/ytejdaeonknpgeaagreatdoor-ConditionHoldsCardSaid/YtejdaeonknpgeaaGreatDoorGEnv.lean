/- A block of its own whose cells are known (a struct's box). No program in sight. -/
import Derived.Test.YtejdaeonknpgeaaGreatDoorBase
import Derived.Test.YtejdaeonknpgeaaGreatDoorGMod
import Derived.Test.YtejdaeonknpgeaaGreatDoorGRowsC
namespace Go.Proofs.YtejdaeonknpgeaaGreatDoor
open Go.RowKit
/-- block g holds these cells -/
def Bx (w : World) (g : Nat) (t : TypeId) (cs : List Value) : Prop := w.heap[g]? = some (.cells cs.toArray t (0, 0))
theorem Bx.new (w : World) (t : TypeId) (cs : List Value) : Bx (w.alloc (.cells cs.toArray t)) w.heap.size t cs := heap_alloc_new w _
theorem Bx.lt {w : World} {g : Nat} {t : TypeId} {cs : List Value} (h : Bx w g t cs) : g < w.heap.size := (Array.getElem?_eq_some_iff.1 h).1
theorem Bx.keep {w w' : World} {g : Nat} {t : TypeId} {cs : List Value} (h : Bx w g t cs) (hb : Below w.heap.size w w') : Bx w' g t cs := (hb.block g h.lt).trans h
theorem Bx.drew {w : World} {g : Nat} {t : TypeId} {cs : List Value} (h : Bx w g t cs) : Bx w.drew g t cs := h
theorem Bx.alloc {w : World} {g : Nat} {t : TypeId} {cs : List Value} (h : Bx w g t cs) (o : Obj) : Bx (w.alloc o) g t cs := h.keep ((Below.refl _ _).alloc (Nat.le_refl _) _)
theorem Bx.grown {w w' : World} {g : Nat} {t : TypeId} {cs : List Value} {row : Option Nat} (h : Bx w g t cs) (hb : w.grownBy w' row) (hne : some g ≠ row) : Bx w' g t cs := (hb.block g h.lt hne).trans h
theorem Bx.other {w : World} {g : Nat} {t : TypeId} {cs : List Value} (h : Bx w g t cs) {b : Nat} (hne : g ≠ b) (o : Nat) (v : Value) : Bx (w.setCell ⟨b, o, none⟩ v) g t cs := (heap_setCell_other w ⟨b, o, none⟩ g v hne).trans h
theorem Bx.cell {w : World} {g : Nat} {t : TypeId} {cs : List Value} (h : Bx w g t cs) (j : Nat) {v : Value} (hv : cs[j]? = some v) : w.cell? ⟨g, j, none⟩ = some v := by
  rw [Lib.cell_of_heap h]; simpa using hv
theorem Bx.free {w : World} {g : Nat} {t : TypeId} {cs : List Value} (h : Bx w g t cs) (j : Nat) : w.frozen? ⟨g, j, none⟩ = false := Lib.frozen_of_heap h j
theorem Bx.set {w : World} {g : Nat} {t : TypeId} {cs : List Value} (h : Bx w g t cs) (j : Nat) (v : Value) : Bx (w.setCell ⟨g, j, none⟩ v) g t (cs.set j v) := by
  have h' : w.heap[g]? = some (.cells cs.toArray t (0, 0)) := h
  simp [Bx, World.setCell, Array.getElem?_modify, h', Array.setIfInBounds]
  intro hj
  exact (List.set_eq_of_length_le hj).symm
end Go.Proofs.YtejdaeonknpgeaaGreatDoor
/- The dice beside what lay before: what a law's walk keeps. -/
namespace Go.Proofs.YtejdaeonknpgeaaGreatDoor
open Go.RowKit
/-- the dice, what they give out of, and that what lay before is as it was -/
structure Env (W w : World) (db : Nat) (p : Option Addr) (l : List Int) (cap k : Nat) : Prop where
  dice : Dice w db p l cap k
  rd : Rd w p (ints l)
  below : Below W.heap.size W w
theorem Env.keep {W w w' : World} {db : Nat} {p : Option Addr} {l : List Int} {cap k : Nat} (h : Env W w db p l cap k) (hb : Below w.heap.size w w') : Env W w' db p l cap k :=
  ⟨h.dice.keep hb, h.rd.keep hb, h.below.trans (hb.mono h.below.size)⟩
theorem Env.alloc {W w : World} {db : Nat} {p : Option Addr} {l : List Int} {cap k : Nat} (h : Env W w db p l cap k) (o : Obj) : Env W (w.alloc o) db p l cap k :=
  h.keep ((Below.refl _ _).alloc (Nat.le_refl _) _)
theorem Env.grown {W w w' : World} {db : Nat} {p : Option Addr} {l : List Int} {cap k k' : Nat} (h : Env W w db p l cap k) (hne : 0 < l.length → ∀ g off, p = some ⟨g, off, none⟩ → g ≠ db) (hdb : W.heap.size ≤ db)
    (hD : Dice w' db p l cap k') (hg : w.grownBy w' (some db)) : Env W w' db p l cap k' := by
  refine ⟨hD, ?_, h.below.grown hg h.below.size (by intro j hj; simp at hj; omega)⟩
  by_cases h0 : 0 < l.length
  · exact h.rd.grown hg (by intro g off hp; have := hne h0 g off hp; simp; omega)
  · have : l = [] := List.eq_nil_of_length_eq_zero (by omega)
    subst this
    exact Rd.nil _ _
theorem Env.set {W w : World} {db : Nat} {p : Option Addr} {l : List Int} {cap k : Nat} (h : Env W w db p l cap k) (g o : Nat) (v : Value) (hg : g ≠ db) (hg2 : W.heap.size ≤ g) (hne : 0 < l.length → ∀ g' off, p = some ⟨g', off, none⟩ → g' ≠ g) : Env W (w.setCell ⟨g, o, none⟩ v) db p l cap k := by
  have hgr : w.grownBy (w.setCell ⟨g, o, none⟩ v) (some g) := ⟨rfl, rfl, rfl, by simp, fun k _ hk => heap_setCell_other w ⟨g, o, none⟩ k v (fun e => hk (by simp [e]))⟩
  refine ⟨h.dice.grown hgr (by simp; omega), ?_, h.below.setCell (p := ⟨g, o, none⟩) hg2 v⟩
  by_cases h0 : 0 < l.length
  · exact h.rd.grown hgr (by intro g' off hp; have := hne h0 g' off hp; simp; omega)
  · have : l = [] := List.eq_nil_of_length_eq_zero (by omega)
    subst this
    exact Rd.nil _ _
theorem Env.row {W w w' : World} {db : Nat} {p : Option Addr} {l : List Int} {cap k : Nat} (h : Env W w db p l cap k) {row : Option Nat} (hg : w.grownBy w' row) (hr : ∀ j, row = some j → db < j) (hdb : W.heap.size ≤ db) (hR : Rd W p (ints l)) : Env W w' db p l cap k := by
  refine ⟨h.dice.grown hg (fun e => by have := hr _ e.symm; omega), ?_, h.below.grown hg h.below.size (fun j hj => by have := hr j hj; omega)⟩
  by_cases h0 : 0 < l.length
  · refine h.rd.grown hg (fun g off hp e => ?_)
    have := hr _ e.symm
    exact rd_ne hR (show W.heap.size ≤ g by omega) h0 g off hp rfl
  · have : l = [] := List.eq_nil_of_length_eq_zero (by omega)
    subst this
    exact Rd.nil _ _
end Go.Proofs.YtejdaeonknpgeaaGreatDoor
/- A world that is as it was but for some blocks. -/
namespace Go.Proofs.YtejdaeonknpgeaaGreatDoor
open Go.RowKit
structure Kp (S : Nat → Prop) (w w' : World) : Prop where
  os : w'.os = w.os
  tape : w'.tape = w.tape
  output : w'.output = w.output
  size : w.heap.size ≤ w'.heap.size
  block : ∀ k, k < w.heap.size → ¬ S k → w'.heap[k]? = w.heap[k]?
theorem Kp.refl (S : Nat → Prop) (w : World) : Kp S w w := ⟨rfl, rfl, rfl, Nat.le_refl _, fun _ _ _ => rfl⟩
theorem Kp.of_grown {w w' : World} {row : Option Nat} (h : w.grownBy w' row) {S : Nat → Prop} (hs : ∀ j, row = some j → S j) : Kp S w w' :=
  ⟨h.os, h.tape, h.output, h.size, fun k hk hn => h.block k hk (fun e => hn (hs k e.symm))⟩
theorem Kp.of_below {w w' : World} (h : Below w.heap.size w w') (S : Nat → Prop) : Kp S w w' := ⟨h.os, h.tape, h.output, h.size, fun k hk _ => h.block k hk⟩
theorem Kp.trans {S S' : Nat → Prop} {a b c : World} (h : Kp S a b) (k : Kp S' b c) (hs : ∀ j, j < a.heap.size → S' j → S j) : Kp S a c :=
  ⟨k.os.trans h.os, k.tape.trans h.tape, k.output.trans h.output, Nat.le_trans h.size k.size, fun j hj hn => (k.block j (Nat.lt_of_lt_of_le hj h.size) (fun e => hn (hs j hj e))).trans (h.block j hj hn)⟩
theorem Kp.mono {S S' : Nat → Prop} {a b : World} (h : Kp S a b) (hs : ∀ j, j < a.heap.size → S j → S' j) : Kp S' a b :=
  ⟨h.os, h.tape, h.output, h.size, fun j hj hn => h.block j hj (fun e => hn (hs j hj e))⟩
theorem Kp.below {S : Nat → Prop} {a b : World} {B : Nat} (h : Kp S a b) (hB : B ≤ a.heap.size) (hs : ∀ j, j < B → ¬ S j) : Below B a b :=
  ⟨h.os, h.tape, h.output, h.size, fun j hj => h.block j (by omega) (hs j hj)⟩
theorem Bx.kp {S : Nat → Prop} {w w' : World} {g : Nat} {t : TypeId} {cs : List Value} (h : Bx w g t cs) (hk : Kp S w w') (hs : ¬ S g) : Bx w' g t cs := (hk.block g h.lt hs).trans h
theorem Rd.kp {S : Nat → Prop} {w w' : World} {a : Option Addr} {xs : List Value} (h : Rd w a xs) (hk : Kp S w w') (hs : ∀ j, rowOf a = some j → ¬ S j) : Rd w' a xs := fun j u hj => by
  obtain ⟨g, off, ha, hc⟩ := h j u hj
  subst ha
  have hlt : g < w.heap.size := by simpa using World.block_lt_of_cell? w _ hc
  exact ⟨g, off, rfl, by rw [World.cell?_of_block (w := w) (hk.block g hlt (hs g rfl))]; exact hc⟩
theorem Ow.kp {S : Nat → Prop} {w w' : World} {base size : Nat} {a : Option Addr} {n cap : Nat} {xs : List Value} (h : Ow w base size a n cap xs) (hk : Kp S w w') (hs : ∀ j, rowOf a = some j → ¬ S j) : Ow w' base size a n cap xs := by
  obtain ⟨hl, hc, hm, ⟨rfl, rfl⟩ | ⟨g, off, rfl, hb, hgs, hx, hf⟩⟩ := h
  · exact ⟨hl, hc, hm, .inl ⟨rfl, rfl⟩⟩
  · have hk' : w'.heap[g]? = w.heap[g]? := hk.block g hgs (hs g rfl)
    refine ⟨hl, hc, hm, .inr ⟨g, off, rfl, hb, Nat.lt_of_lt_of_le hgs hk.size, fun j u hj => ?_, fun j hj => ?_⟩⟩
    · rw [World.cell?_of_block (w := w) hk']; exact hx j u hj
    · rw [World.cell?_of_block (w := w) hk', World.frozen?_of_block (w := w) hk']; exact hf j hj
theorem setCell_kp (w : World) (g o : Nat) (v : Value) {S : Nat → Prop} (hs : S g) : Kp S w (w.setCell ⟨g, o, none⟩ v) :=
  ⟨rfl, rfl, rfl, by simp, fun k _ hk => heap_setCell_other w ⟨g, o, none⟩ k v (fun e => hk (e ▸ hs))⟩
theorem Env.kp {W w w' : World} {db : Nat} {p : Option Addr} {l : List Int} {cap k : Nat} {S : Nat → Prop} (h : Env W w db p l cap k) (hk : Kp S w w') (hW : W.heap.size ≤ w.heap.size) (hs : ∀ j, j < W.heap.size → ¬ S j) (hd : ¬ S db) (hR : Rd W p (ints l)) : Env W w' db p l cap k := by
  have hb := h.below.trans (hk.below hW hs)
  exact ⟨⟨(hk.block db h.dice.lt hd).trans h.dice.1, h.dice.2⟩, hR.keep hb, hb⟩
end Go.Proofs.YtejdaeonknpgeaaGreatDoor
