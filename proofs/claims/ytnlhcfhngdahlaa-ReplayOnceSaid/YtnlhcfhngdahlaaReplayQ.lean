/- Made guards: the dice, the guard's box and its rows, a request's box: what a law's walk keeps. -/
import Derived.Test.YtnlhcfhngdahlaaReplayN
import Derived.Test.YtnlhcfhngdahlaaEnv
import Derived.Test.YtnlhcfhngdahlaaWord
import Derived.Test.YtnlhcfhngdahlaaOf
import Derived.Test.YtnlhcfhngdahlaaRegionL
import Derived.Test.YtnlhcfhngdahlaaAppStep
namespace Go.Proofs.Ytnlhcfhngdahlaa
open Go.RowKit
/-- the dice and a guard that is made -/
structure Mg (W w : World) (db : Nat) (p : Option Addr) (l : List Int) (cap q : Nat) (gg : Nat) (a : Option Addr) (L : List Kpt) (c : Nat) : Prop where
  env : Env W w db p l cap q
  g : Bx w gg 24 [.slice a L.length c]
  o : Ow w (gg + 1) 4 a L.length c (rowsC kpC L)
  nil : L = [] → a = none
  lt : db < gg
  le : W.heap.size ≤ db
theorem Mg.keep {W w w' : World} {db : Nat} {p : Option Addr} {l : List Int} {cap q gg : Nat} {a : Option Addr} {L : List Kpt} {c : Nat} (h : Mg W w db p l cap q gg a L c) (hb : Below w.heap.size w w') : Mg W w' db p l cap q gg a L c :=
  ⟨h.env.keep hb, h.g.keep hb, h.o.keep hb, h.nil, h.lt, h.le⟩
theorem Mg.row {W w : World} {db : Nat} {p : Option Addr} {l : List Int} {cap q gg : Nat} {a : Option Addr} {L : List Kpt} {c : Nat} (h : Mg W w db p l cap q gg a L c) {j : Nat} (hj : j ≤ gg) : rowOf a ≠ some j := fun e => by
  have := (h.o.row j e).1
  omega
theorem Mg.next {W w w' : World} {db : Nat} {p : Option Addr} {l : List Int} {cap q q' gg : Nat} {a : Option Addr} {L : List Kpt} {c : Nat} (h : Mg W w db p l cap q gg a L c) (hne : 0 < l.length → ∀ g off, p = some ⟨g, off, none⟩ → g ≠ db) (hD : Dice w' db p l cap q') (hg : w.grownBy w' (some db)) : Mg W w' db p l cap q' gg a L c := by
  have h1 := h.lt
  exact ⟨h.env.grown hne h.le hD hg, h.g.grown hg (by simp; omega), h.o.kept hg (.inr (h.row (by omega))), h.nil, h.lt, h.le⟩
/-- the guard's rows: one more -/
theorem Mg.push {W w w1 : World} {db : Nat} {p : Option Addr} {l : List Int} {cap q gg : Nat} {a : Option Addr} {L : List Kpt} {c : Nat} (h : Mg W w db p l cap q gg a L c) (hR : Rd W p (ints l)) {a' : Option Addr} {c' : Nat} {x : Kpt}
    (hO : Ow w1 (gg + 1) 4 a' (L.length + 1) c' (rowsC kpC L ++ kpC x)) (hg : w.grownBy w1 (rowOf a)) : Mg W (w1.setCell ⟨gg, 0, none⟩ (.slice a' (L.length + 1) c')) db p l cap q gg a' (L ++ [x]) c' ∧ Bx w1 gg 24 [.slice a L.length c] := by
  have h1 := h.lt
  have hr := h.o.row
  have he := h.env.row hg (fun j hj => by have := (hr j hj).1; omega) h.le hR
  have hG := h.g.grown hg (fun e => h.row (Nat.le_refl _) e.symm)
  have hg2 : w1.grownBy (w1.setCell ⟨gg, 0, none⟩ (.slice a' (L.length + 1) c')) (some gg) := grownBy_setCells w1 gg 0 [.slice a' (L.length + 1) c']
  have ha' : rowOf a' ≠ some gg := fun e => by have := (hO.row gg e).1; omega
  refine ⟨⟨he.row hg2 (fun j hj => by cases hj; exact h1) h.le hR, ?_, ?_, by simp, h.lt, h.le⟩, hG⟩
  · rw [List.length_append]; exact hG.set 0 _
  · rw [List.length_append, rowsC_append, rowsC_single]; exact hO.kept hg2 (.inr ha')
/-- a box of three cells holds no row of four -/
theorem Bx.noRow {w : World} {g : Nat} {t : TypeId} {v0 v1 v2 : Value} (h : Bx w g t [v0, v1, v2]) {base n c : Nat} {a : Option Addr} {L : List Kpt} (hO : Ow w base 4 a n c (rowsC kpC L)) (hL : L ≠ []) : rowOf a ≠ some g := fun e => by
  obtain ⟨x, L, rfl⟩ := List.exists_cons_of_ne_nil hL
  have hR := hO.rd
  obtain ⟨g', off, e', hc⟩ := hR 3 (.string ⟨x.ans.toArray⟩) (by simp [rowsC, kpC])
  subst e'
  simp [rowOf] at e
  subst e
  have hl := Lib.cell_of_heap (j := off + 3) h
  rw [hc] at hl
  simp at hl
/-- and a request's box -/
structure Mr (W w : World) (db : Nat) (p : Option Addr) (l : List Int) (cap q : Nat) (gg : Nat) (a : Option Addr) (L : List Kpt) (c : Nat) (gr : Nat) (r : Rq) : Prop where
  m : Mg W w db p l cap q gg a L c
  r : Bx w gr 26 [.int .i64 r.sen, .int .i64 r.cnt, .string ⟨r.body.toArray⟩]
  lt : gg < gr
  ne : rowOf a ≠ some gr
theorem Mr.keep {W w w' : World} {db : Nat} {p : Option Addr} {l : List Int} {cap q gg : Nat} {a : Option Addr} {L : List Kpt} {c gr : Nat} {r : Rq} (h : Mr W w db p l cap q gg a L c gr r) (hb : Below w.heap.size w w') : Mr W w' db p l cap q gg a L c gr r :=
  ⟨h.m.keep hb, h.r.keep hb, h.lt, h.ne⟩
theorem Mr.next {W w w' : World} {db : Nat} {p : Option Addr} {l : List Int} {cap q q' gg : Nat} {a : Option Addr} {L : List Kpt} {c gr : Nat} {r : Rq} (h : Mr W w db p l cap q gg a L c gr r) (hne : 0 < l.length → ∀ g off, p = some ⟨g, off, none⟩ → g ≠ db) (hD : Dice w' db p l cap q') (hg : w.grownBy w' (some db)) : Mr W w' db p l cap q' gg a L c gr r := by
  have h1 := h.m.lt
  have h2 := h.lt
  exact ⟨h.m.next hne hD hg, h.r.grown hg (by simp; omega), h.lt, h.ne⟩
theorem Mr.push {W w w1 : World} {db : Nat} {p : Option Addr} {l : List Int} {cap q gg : Nat} {a : Option Addr} {L : List Kpt} {c gr : Nat} {r : Rq} (h : Mr W w db p l cap q gg a L c gr r) (hR : Rd W p (ints l)) {a' : Option Addr} {c' : Nat} {x : Kpt}
    (hO : Ow w1 (gg + 1) 4 a' (L.length + 1) c' (rowsC kpC L ++ kpC x)) (hg : w.grownBy w1 (rowOf a)) : Mr W (w1.setCell ⟨gg, 0, none⟩ (.slice a' (L.length + 1) c')) db p l cap q gg a' (L ++ [x]) c' gr r ∧ Bx w1 gg 24 [.slice a L.length c] ∧ Bx w1 gr 26 [.int .i64 r.sen, .int .i64 r.cnt, .string ⟨r.body.toArray⟩] := by
  obtain ⟨h1, h2⟩ := h.m.push hR hO hg
  have hlt := h.lt
  have hr := h.r.grown hg (fun e => h.ne e.symm)
  have hr2 := hr.other (b := gg) (by omega) 0 (.slice a' (L.length + 1) c')
  exact ⟨⟨h1, hr2, h.lt, hr2.noRow h1.o (by simp)⟩, h2, hr⟩
theorem Mr.held {W w : World} {db : Nat} {p : Option Addr} {l : List Int} {cap q gg : Nat} {a : Option Addr} {L : List Kpt} {c gr : Nat} {r : Rq} (h : Mr W w db p l cap q gg a L c gr r) :
    w.cell? ⟨gg, 0, none⟩ = some (.slice a L.length c) ∧ w.cell? ⟨gr, 0, none⟩ = some (.int .i64 r.sen) ∧ w.cell? ⟨gr, 1, none⟩ = some (.int .i64 r.cnt) ∧ w.cell? ⟨gr, 2, none⟩ = some (.string ⟨r.body.toArray⟩) :=
  ⟨h.m.g.cell 0 rfl, h.r.cell 0 rfl, h.r.cell 1 rfl, h.r.cell 2 rfl⟩
theorem Mr.body {W w : World} {db : Nat} {p : Option Addr} {l : List Int} {cap q gg : Nat} {a : Option Addr} {L : List Kpt} {c gr : Nat} {r : Rq} (h : Mr W w db p l cap q gg a L c gr r) (hR : Rd W p (ints l)) (b : List UInt8) : Mr W (w.setCell ⟨gr, 2, none⟩ (.string ⟨b.toArray⟩)) db p l cap q gg a L c gr ⟨r.sen, r.cnt, b⟩ := by
  have hg : w.grownBy (w.setCell ⟨gr, 2, none⟩ (.string ⟨b.toArray⟩)) (some gr) := grownBy_setCells w gr 2 [.string ⟨b.toArray⟩]
  have h1 := h.m.lt
  have h2 := h.lt
  refine ⟨⟨h.m.env.row hg (fun j hj => by cases hj; omega) h.m.le hR, h.m.g.other (by omega) 2 _, h.m.o.kept hg (.inr h.ne), h.m.nil, h.m.lt, h.m.le⟩, h.r.set 2 _, h.lt, h.ne⟩
/-- a request's box is made -/
theorem Mg.box {W w : World} {db : Nat} {p : Option Addr} {l : List Int} {cap q gg : Nat} {a : Option Addr} {L : List Kpt} {c : Nat} (h : Mg W w db p l cap q gg a L c) (r : Rq) : Mr W (w.alloc (rqB r)) db p l cap q gg a L c w.heap.size r :=
  ⟨h.keep ((Below.refl _ _).alloc (Nat.le_refl _) _), Bx.new w _ _, h.g.lt, fun e => by have := h.o.row _ e; omega⟩
end Go.Proofs.Ytnlhcfhngdahlaa
