/- A stamp in which something is changed: what holds meanwhile. -/
import Derived.Test.YtgfcknadjijinaaDoorGWitC
import Derived.Test.YtgfcknadjijinaaDoorGCustodyU
import Derived.Test.YtgfcknadjijinaaDoorGHandT
namespace Go.Proofs.YtgfcknadjijinaaDoor
open Go.RowKit
/-- the dice, the stamp's box, the result's box -/
structure Ods (W w0 w : World) (db : Nat) (p : Option Addr) (l : List Int) (cap q gb gr : Nat) (x : Stm) : Prop where
  env : Env W w db p l cap q
  bs : Bx w gb 33 x.cells
  br : Bx w gr 33 Stm.zero.cells
  grow : w0.grownBy w (some db)
  hb : w0.heap.size ≤ gb
  hr : w0.heap.size ≤ gr
  hne : gb ≠ gr
theorem Ods.keep {W w0 w w' : World} {db : Nat} {p : Option Addr} {l : List Int} {cap q gb gr : Nat} {x : Stm} (h : Ods W w0 w db p l cap q gb gr x) (hb : Below w.heap.size w w') : Ods W w0 w' db p l cap q gb gr x :=
  ⟨h.env.keep hb, h.bs.keep hb, h.br.keep hb, grown_tr h.grow (below_grownBy hb _), h.hb, h.hr, h.hne⟩
theorem Ods.next {W w0 w w' : World} {db : Nat} {p : Option Addr} {l : List Int} {cap q q' gb gr : Nat} {x : Stm} (h : Ods W w0 w db p l cap q gb gr x) (hne : 0 < l.length → ∀ g off, p = some ⟨g, off, none⟩ → g ≠ db) (hdb : W.heap.size ≤ db) (hw : db < w0.heap.size)
    (hD : Dice w' db p l cap q') (hg : w.grownBy w' (some db)) : Ods W w0 w' db p l cap q' gb gr x := by
  have h1 := h.hb
  have h2 := h.hr
  exact ⟨h.env.grown hne hdb hD hg, h.bs.grown hg (by simp; omega), h.br.grown hg (by simp; omega), grown_tr h.grow hg, h1, h2, h.hne⟩
theorem grown_setO {w0 w : World} {db : Nat} (h : w0.grownBy w (some db)) {g : Nat} (hg : w0.heap.size ≤ g) (o : Nat) (v : Value) : w0.grownBy (w.setCell ⟨g, o, none⟩ v) (some db) :=
  ⟨h.os, h.tape, h.output, by simpa using h.size, fun k hk hne => (heap_setCell_other w ⟨g, o, none⟩ k v (by simp; omega)).trans (h.block k hk hne)⟩
theorem Ods.turn {W w0 w : World} {db : Nat} {p : Option Addr} {l : List Int} {cap q gb gr : Nat} {x x' : Stm} (h : Ods W w0 w db p l cap q gb gr x) (hR : Rd W p (ints l)) (hdb : W.heap.size ≤ db) (hw : db < w0.heap.size) (o : Nat) (v : Value) (hx : x.cells.set o v = x'.cells) : Ods W w0 (w.setCell ⟨gb, o, none⟩ v) db p l cap q gb gr x' := by
  have h1 := h.hb
  have h2 := h.hr
  exact ⟨h.env.set gb o v (by omega) (by omega) (rd_ne hR (by omega)), by have := h.bs.set o v; rwa [hx] at this, h.br.other (fun e => h.hne e.symm) o v, grown_setO h.grow h1 o v, h1, h2, h.hne⟩
theorem Ods.fin {W w0 w : World} {db : Nat} {p : Option Addr} {l : List Int} {cap q gb gr : Nat} {x : Stm} (h : Ods W w0 w db p l cap q gb gr x) (hR : Rd W p (ints l)) (hdb : W.heap.size ≤ db) (hw : db < w0.heap.size) :
    Env W ((((((((w.setCell ⟨gr, 0, none⟩ (.int .i64 x.head.count)).setCell ⟨gr, 1, none⟩ (.string ⟨x.head.last.toArray⟩)).setCell ⟨gr, 2, none⟩ (.string ⟨x.head.root.toArray⟩)).setCell ⟨gr, 3, none⟩ (.int .i64 x.head.time)).setCell ⟨gr, 4, none⟩ (.int .i64 x.seen)).setCell ⟨gr, 5, none⟩ (.int .i64 x.key)).setCell ⟨gr, 6, none⟩ (.int .i64 x.r)).setCell ⟨gr, 7, none⟩ (.int .i64 x.s)) db p l cap q
    ∧ w0.grownBy ((((((((w.setCell ⟨gr, 0, none⟩ (.int .i64 x.head.count)).setCell ⟨gr, 1, none⟩ (.string ⟨x.head.last.toArray⟩)).setCell ⟨gr, 2, none⟩ (.string ⟨x.head.root.toArray⟩)).setCell ⟨gr, 3, none⟩ (.int .i64 x.head.time)).setCell ⟨gr, 4, none⟩ (.int .i64 x.seen)).setCell ⟨gr, 5, none⟩ (.int .i64 x.key)).setCell ⟨gr, 6, none⟩ (.int .i64 x.r)).setCell ⟨gr, 7, none⟩ (.int .i64 x.s)) (some db) := by
  have h2 := h.hr
  have hp := rd_ne hR (show W.heap.size ≤ gr by omega)
  have a : gr ≠ db := by omega
  have b : W.heap.size ≤ gr := by omega
  exact ⟨(((((((h.env.set gr 0 _ a b hp).set gr 1 _ a b hp).set gr 2 _ a b hp).set gr 3 _ a b hp).set gr 4 _ a b hp).set gr 5 _ a b hp).set gr 6 _ a b hp).set gr 7 _ a b hp,
    grown_setO (grown_setO (grown_setO (grown_setO (grown_setO (grown_setO (grown_setO (grown_setO h.grow h2 0 _) h2 1 _) h2 2 _) h2 3 _) h2 4 _) h2 5 _) h2 6 _) h2 7 _⟩
theorem Bx.stm1 {fn : Func} {t : Tmp} (h : fn.results = #[.cell t 33]) (tmps : Array Value) {w : World} {g : Nat} {x : Stm} (ht : tmps.getD t undef = .pointer (some ⟨g, 0, none⟩)) (hD : Bx w g 33 x.cells) :
    (results fn tmps).run Tryd.prog w = .ok x.val w := by
  have c0 := hD.cell 0 rfl
  have c1 := hD.cell 1 rfl
  have c2 := hD.cell 2 rfl
  have c3 := hD.cell 3 rfl
  have c4 := hD.cell 4 rfl
  have c5 := hD.cell 5 rfl
  have c6 := hD.cell 6 rfl
  have c7 := hD.cell 7 rfl
  have ht' : tmps[t]?.getD undef = .pointer (some ⟨g, 0, none⟩) := by simpa using ht
  simp [results, h, ht', go_sem, c0, c1, c2, c3, c4, c5, c6, c7]
/-- what the call leaves -/
def OddSt (W w : World) (db : Nat) (p : Option Addr) (l : List Int) (cap : Nat) (e : Ending) (w' : World) : Prop :=
  ∃ (x : Stm) (q' : Nat), e = .returned x.val ∧ Env W w' db p l cap q' ∧ w.grownBy w' (some db)
theorem OddSt.intro {W w : World} {db : Nat} {p : Option Addr} {l : List Int} {cap : Nat} {e : Ending} {w' : World} (x : Stm) (q' : Nat) (he : e = .returned x.val) (hE : Env W w' db p l cap q') (hg : w.grownBy w' (some db)) : OddSt W w db p l cap e w' :=
  ⟨x, q', he, hE, hg⟩
theorem zero_cells : Stm.zero.cells = [.int .i64 0, .string ⟨#[]⟩, .string ⟨#[]⟩, .int .i64 0, .int .i64 0, .int .i64 0, .int .i64 0, .int .i64 0] := rfl
set_option maxRecDepth 100000 in
theorem kpublic_walk (k : Int) (w : World) :
    Calls Tryd.prog 30 #[.int .i64 k] w fun e w' => e = .returned (.int .i64 (gpw 500000003 4 k : Int)) ∧ w = w' := by
  have kp : ∀ V, Calls Tryd.prog 55 #[.int .i64 500000003, .int .i64 k] V fun e w' => e = .returned (.int .i64 (gpw 500000003 4 k : Int)) ∧ V = w' := fun V => rPublic_walk 500000003 k V (by omega) (by omega)
  generalize gpw 500000003 4 k = z at *
  have KP := Lib.hid kp
  clear kp
  go_enter Tryd.func30, Tryd.ntmps30
  go_wp2_with (go_at_call 55; (with_reducible refine (KP.out _).mono ?_))
  rintro e' w1 ⟨rfl, rfl⟩
  go_wp2
  go_ret
  exact ⟨rfl, rfl⟩
end Go.Proofs.YtgfcknadjijinaaDoor
