/- A stamp in which something is changed: what holds meanwhile. -/
import Derived.Test.YtipoljcgfcjlnaaGreatDoorGWitD
import Derived.Test.YtipoljcgfcjlnaaGreatDoorGRowsC
import Derived.Test.YtipoljcgfcjlnaaGreatDoorGHandT
namespace Go.Proofs.YtipoljcgfcjlnaaGreatDoor
open Go.RowKit
/-- the dice, the stamp's box, the result's box -/
structure Ods (W w0 w : World) (db : Nat) (p : Option Addr) (l : List Int) (cap q gb gr : Nat) (x : Stm) : Prop where
  env : Env W w db p l cap q
  bs : Bx w gb 28 x.cells
  br : Bx w gr 28 Stm.zero.cells
  grow : w0.grownBy w (some db)
  hb : w0.heap.size ≤ gb
  hr : w0.heap.size ≤ gr
  hne : gb ≠ gr
theorem Ods.keep {W w0 w w' : World} {db : Nat} {p : Option Addr} {l : List Int} {cap q gb gr : Nat} {x : Stm} (h : Ods W w0 w db p l cap q gb gr x) (hb : Below w.heap.size w w') : Ods W w0 w' db p l cap q gb gr x :=
  ⟨h.env.keep hb, h.bs.keep hb, h.br.keep hb, grown_tr h.grow (below_grownBy hb _), h.hb, h.hr, h.hne⟩
theorem Ods.next {W w0 w w' : World} {db : Nat} {p : Option Addr} {l : List Int} {cap q q' gb gr : Nat} {x : Stm} (h : Ods W w0 w db p l cap q gb gr x) (hne : 0 < l.length → ∀ g off, p = some ⟨g, off, none⟩ → g ≠ db) (hdb : W.heap.size ≤ db) (hw : db < w0.heap.size)
    (hD : Dice w' db p l cap q') (hg : w.grownBy w' (some db)) : Ods W w0 w' db p l cap q' gb gr x := by
  have h1 := h.hb
  have h2 := h.hr
  exact ⟨h.env.grown hne hdb hD hg, h.bs.grown hg (by simp; omega), h.br.grown hg (by simp; omega), grown_tr h.grow hg, h1, h2, h.hne⟩
theorem grown_setO {w0 w : World} {db : Nat} (h : w0.grownBy w (some db)) {g : Nat} (hg : w0.heap.size ≤ g) (o : Nat) (v : Value) : w0.grownBy (w.setCell ⟨g, o, none⟩ v) (some db) :=
  ⟨h.os, h.tape, h.output, by simpa using h.size, fun k hk hne => (heap_setCell_other w ⟨g, o, none⟩ k v (by simp; omega)).trans (h.block k hk hne)⟩
theorem Ods.turn {W w0 w : World} {db : Nat} {p : Option Addr} {l : List Int} {cap q gb gr : Nat} {x x' : Stm} (h : Ods W w0 w db p l cap q gb gr x) (hR : Rd W p (ints l)) (hdb : W.heap.size ≤ db) (hw : db < w0.heap.size) (o : Nat) (v : Value) (hx : x.cells.set o v = x'.cells) : Ods W w0 (w.setCell ⟨gb, o, none⟩ v) db p l cap q gb gr x' := by
  have h1 := h.hb
  have h2 := h.hr
  exact ⟨h.env.set gb o v (by omega) (by omega) (rd_ne hR (by omega)), by have := h.bs.set o v; rwa [hx] at this, h.br.other (fun e => h.hne e.symm) o v, grown_setO h.grow h1 o v, h1, h2, h.hne⟩
theorem Ods.fin {W w0 w : World} {db : Nat} {p : Option Addr} {l : List Int} {cap q gb gr : Nat} {x : Stm} (h : Ods W w0 w db p l cap q gb gr x) (hR : Rd W p (ints l)) (hdb : W.heap.size ≤ db) (hw : db < w0.heap.size) :
    Env W ((((((((w.setCell ⟨gr, 0, none⟩ (.int .i64 x.head.count)).setCell ⟨gr, 1, none⟩ (.string ⟨x.head.last.toArray⟩)).setCell ⟨gr, 2, none⟩ (.string ⟨x.head.root.toArray⟩)).setCell ⟨gr, 3, none⟩ (.int .i64 x.head.time)).setCell ⟨gr, 4, none⟩ (.int .i64 x.seen)).setCell ⟨gr, 5, none⟩ (.int .i64 x.key)).setCell ⟨gr, 6, none⟩ (.int .i64 x.r)).setCell ⟨gr, 7, none⟩ (.int .i64 x.s)) db p l cap q
    ∧ w0.grownBy ((((((((w.setCell ⟨gr, 0, none⟩ (.int .i64 x.head.count)).setCell ⟨gr, 1, none⟩ (.string ⟨x.head.last.toArray⟩)).setCell ⟨gr, 2, none⟩ (.string ⟨x.head.root.toArray⟩)).setCell ⟨gr, 3, none⟩ (.int .i64 x.head.time)).setCell ⟨gr, 4, none⟩ (.int .i64 x.seen)).setCell ⟨gr, 5, none⟩ (.int .i64 x.key)).setCell ⟨gr, 6, none⟩ (.int .i64 x.r)).setCell ⟨gr, 7, none⟩ (.int .i64 x.s)) (some db) := by
  have h2 := h.hr
  have hp := rd_ne hR (show W.heap.size ≤ gr by omega)
  have a : gr ≠ db := by omega
  have b : W.heap.size ≤ gr := by omega
  exact ⟨(((((((h.env.set gr 0 _ a b hp).set gr 1 _ a b hp).set gr 2 _ a b hp).set gr 3 _ a b hp).set gr 4 _ a b hp).set gr 5 _ a b hp).set gr 6 _ a b hp).set gr 7 _ a b hp,
    grown_setO (grown_setO (grown_setO (grown_setO (grown_setO (grown_setO (grown_setO (grown_setO h.grow h2 0 _) h2 1 _) h2 2 _) h2 3 _) h2 4 _) h2 5 _) h2 6 _) h2 7 _⟩
theorem Bx.stm1 {fn : Func} {t : Tmp} (h : fn.results = #[.cell t 28]) (tmps : Array Value) {w : World} {g : Nat} {x : Stm} (ht : tmps.getD t undef = .pointer (some ⟨g, 0, none⟩)) (hD : Bx w g 28 x.cells) :
    (results fn tmps).run Tryz.prog w = .ok x.val w := by
  have c0 := hD.cell 0 rfl
  have c1 := hD.cell 1 rfl
  have c2 := hD.cell 2 rfl
  have c3 := hD.cell 3 rfl
  have c4 := hD.cell 4 rfl
  have c5 := hD.cell 5 rfl
  have c6 := hD.cell 6 rfl
  have c7 := hD.cell 7 rfl
  have ht' : tmps[t]?.getD undef = .pointer (some ⟨g, 0, none⟩) := by simpa using ht
  simp [results, h, ht', go_sem, c0, c1, c2, c3, c4, c5, c6, c7]
/-- a stamp whose texts have room -/
structure Stm.Sm (x : Stm) : Prop where
  count : I64 x.head.count
  time : I64 x.head.time
  last : x.head.last.length ≤ 900
  root : x.head.root.length ≤ 900
  seen : I64 x.seen
theorem I64.wrap (x : Int) : I64 (IntKind.i64.wrap x) := by rw [IntKind.wrap_i64]; exact ⟨by omega, by omega⟩
theorem Stm.Sm.in_ {x : Stm} (h : x.Sm) : x.In := ⟨⟨h.count, h.time, by have := h.last; omega, by have := h.root; omega⟩, h.seen⟩
/-- what the call leaves -/
def OddSt (W w : World) (db : Nat) (p : Option Addr) (l : List Int) (cap : Nat) (e : Ending) (w' : World) : Prop :=
  ∃ (x : Stm) (q' : Nat), e = .returned x.val ∧ Env W w' db p l cap q' ∧ w.grownBy w' (some db) ∧ x.In
theorem OddSt.intro {W w : World} {db : Nat} {p : Option Addr} {l : List Int} {cap : Nat} {e : Ending} {w' : World} (x : Stm) (q' : Nat) (he : e = .returned x.val) (hE : Env W w' db p l cap q') (hg : w.grownBy w' (some db)) (hI : x.In) : OddSt W w db p l cap e w' :=
  ⟨x, q', he, hE, hg, hI⟩
theorem zero_cells : Stm.zero.cells = [.int .i64 0, .string ⟨#[]⟩, .string ⟨#[]⟩, .int .i64 0, .int .i64 0, .int .i64 0, .int .i64 0, .int .i64 0] := rfl
set_option maxRecDepth 100000 in
theorem kpublic_walk (k : Int) (w : World) :
    Calls Tryz.prog 28 #[.int .i64 k] w fun e w' => e = .returned (.int .i64 (gpw 500000003 4 k : Int)) ∧ w = w' := by
  have kp : ∀ V, Calls Tryz.prog 33 #[.int .i64 500000003, .int .i64 k] V fun e w' => e = .returned (.int .i64 (gpw 500000003 4 k : Int)) ∧ V = w' := fun V => rPublic_walk 500000003 k V (by omega) (by omega)
  generalize gpw 500000003 4 k = z at *
  have KP := Lib.hid kp
  clear kp
  go_enter Tryz.func28, Tryz.ntmps28
  go_wp2_with (go_at_call 33; (with_reducible refine (KP.out _).mono ?_))
  rintro e' w1 ⟨rfl, rfl⟩
  go_wp2
  go_ret
  exact ⟨rfl, rfl⟩
end Go.Proofs.YtipoljcgfcjlnaaGreatDoor
/- A stamp in which something is changed: case 0. -/
namespace Go.Proofs.YtipoljcgfcjlnaaGreatDoor
open Go.RowKit
set_option maxRecDepth 100000 in
set_option maxHeartbeats 4000000 in
theorem oddst0 (W : World) (db : Nat) (p : Option Addr) (l : List Int) (cap q : Nat) (n : Int) (lt rt : List UInt8) (t sn ky sr ss : Int) (w : World) (hE : Env W w db p l cap q) (hR : Rd W p (ints l)) (hdb : W.heap.size ≤ db) (hlen : l.length ≤ 281474976710656) (hI : Stm.Sm ⟨⟨n, lt, rt, t⟩, sn, ky, sr, ss⟩) (hx : dnum l q 8 = 0) :
    Calls Tryz.prog 9 #[.pointer (some ⟨db, 0, none⟩), .agg #[.int .i64 n, .string ⟨lt.toArray⟩, .string ⟨rt.toArray⟩, .int .i64 t, .int .i64 sn, .int .i64 ky, .int .i64 sr, .int .i64 ss]] w (OddSt W w db p l cap) := by
  have HI := Lib.hid hI
  clear hI
  have hne := rd_ne hR hdb
  have HNE := Lib.hid hne
  have HRW := Lib.hid hR
  have HX := Lib.hid hx
  have hwl := hE.dice.lt
  have hO : Ods W w ((w.alloc (stmB ⟨⟨n, lt, rt, t⟩, sn, ky, sr, ss⟩)).alloc zeroB) db p l cap q w.heap.size (w.heap.size + 1) ⟨⟨n, lt, rt, t⟩, sn, ky, sr, ss⟩ := by
    have h1 := (Below.refl w.heap.size w).alloc (Nat.le_refl _) (stmB ⟨⟨n, lt, rt, t⟩, sn, ky, sr, ss⟩)
    have h2 := h1.alloc (by simp) zeroB
    exact ⟨hE.keep h2, (Bx.new w _ _).alloc _, Bx.new2 w _ _ Stm.zero.cells, below_grownBy h2 _, Nat.le_refl _, by omega, by omega⟩
  clear hne hR hE hx
  go_enter Tryz.func9, Tryz.ntmps9
  go_wp2_with (go_at_call 10; (with_reducible refine (next_walk db p l cap q 8 _ hO.env.dice hO.env.rd HNE.out hlen (by omega) (by omega)).mono ?_))
  rintro e w1 ⟨rfl, hD1, hg1⟩
  replace hO := hO.next HNE.out hdb hwl hD1 hg1
  rw [HX.out]
  generalize dnxt l q = q1 at *
  clear hD1 hg1 HX
  obtain ⟨gb, hgb⟩ : ∃ gb, gb = w.heap.size := ⟨_, rfl⟩
  rw [← hgb] at hO ⊢
  obtain ⟨gr, hgr⟩ : ∃ gr, gr = gb + 1 := ⟨_, rfl⟩
  rw [← hgr] at hO ⊢
  clear hgb hgr
  have hdl := hO.env.dice.lt
  have hgl := hO.bs.lt
  have hgl2 := hO.br.lt
  have c0 : w1.cell? ⟨gb, 0, none⟩ = some (.int .i64 n) := hO.bs.cell 0 rfl
  have f0 := hO.bs.free 0
  have a1 := dnum_lo l q1 (n := 3) (by omega)
  have a2 := dnum_hi l q1 (n := 3) (by omega)
  have hO1 := hO.keep (show Below w1.heap.size w1 w1.drew from (Below.refl _ _).drew)
  go_wp2_with fail
  refine cut_last (fun KL hKL => ?_)
  go_cut [] (fun wr => ∃ (q' : Nat) (v : Int), I64 v ∧ Ods W w wr db p l cap q' gb gr (⟨⟨v, lt, rt, t⟩, sn, ky, sr, ss⟩ : Stm))
  case first =>
    generalize hdn : dnum l q1 3 = dn at *
    have HDN := Lib.hid hdn
    clear hdn
    go_region_with ((go_at_call 10; refine (next_walk db p l cap q1 3 _ hO1.env.dice hO1.env.rd HNE.out hlen (by omega) (by omega)).mono ?_; rintro e wN ⟨rfl, hDN, hgN⟩; rw [HDN.out]; have hON := hO1.next HNE.out hdb hwl hDN hgN; clear hDN hgN; have d1 : wN.cell? ⟨gb, 0, none⟩ = some (.int .i64 n) := hON.bs.cell 0 rfl; have e1 := hON.bs.free 0; have l1 := hON.bs.lt))
    all_goals (go_wp2_with fail; go_meet)
    all_goals
      case rel => refine ⟨_, _, ?_, (fun v => hON.turn HRW.out hdb hwl 0 (.int .i64 v) (x' := (⟨⟨v, lt, rt, t⟩, sn, ky, sr, ss⟩ : Stm)) rfl) _⟩; (first | exact I64.wrap _ | exact ⟨by omega, by omega⟩)
  case rest =>
    obtain ⟨q', v, hv0, hX⟩ := hcut
    have hv := hv0
    refine hKL.out _ _ ?_
    have hF := hX.fin HRW.out hdb hwl
    have hS := hX.br.setStm (y := Stm.zero) (⟨⟨v, lt, rt, t⟩, sn, ky, sr, ss⟩ : Stm)
    have b0 : wc.cell? ⟨gb, 0, none⟩ = some (.int .i64 (v)) := hX.bs.cell 0 rfl
    have b1 : wc.cell? ⟨gb, 1, none⟩ = some (.string ⟨lt.toArray⟩) := hX.bs.cell 1 rfl
    have b2 : wc.cell? ⟨gb, 2, none⟩ = some (.string ⟨rt.toArray⟩) := hX.bs.cell 2 rfl
    have b3 : wc.cell? ⟨gb, 3, none⟩ = some (.int .i64 t) := hX.bs.cell 3 rfl
    have b4 : wc.cell? ⟨gb, 4, none⟩ = some (.int .i64 sn) := hX.bs.cell 4 rfl
    have b5 : wc.cell? ⟨gb, 5, none⟩ = some (.int .i64 ky) := hX.bs.cell 5 rfl
    have b6 : wc.cell? ⟨gb, 6, none⟩ = some (.int .i64 sr) := hX.bs.cell 6 rfl
    have b7 : wc.cell? ⟨gb, 7, none⟩ = some (.int .i64 ss) := hX.bs.cell 7 rfl
    have z0 : wc.cell? ⟨gr, 0, none⟩ = some (.int .i64 0) := hX.br.cell 0 rfl
    have z1 : wc.cell? ⟨gr, 1, none⟩ = some (.string ⟨#[]⟩) := hX.br.cell 1 rfl
    have z2 : wc.cell? ⟨gr, 2, none⟩ = some (.string ⟨#[]⟩) := hX.br.cell 2 rfl
    have z3 : wc.cell? ⟨gr, 3, none⟩ = some (.int .i64 0) := hX.br.cell 3 rfl
    have z4 : wc.cell? ⟨gr, 4, none⟩ = some (.int .i64 0) := hX.br.cell 4 rfl
    have z5 : wc.cell? ⟨gr, 5, none⟩ = some (.int .i64 0) := hX.br.cell 5 rfl
    have z6 : wc.cell? ⟨gr, 6, none⟩ = some (.int .i64 0) := hX.br.cell 6 rfl
    have z7 : wc.cell? ⟨gr, 7, none⟩ = some (.int .i64 0) := hX.br.cell 7 rfl
    have y0 := hX.br.free 0
    have y1 := hX.br.free 1
    have y2 := hX.br.free 2
    have y3 := hX.br.free 3
    have y4 := hX.br.free 4
    have y5 := hX.br.free 5
    have y6 := hX.br.free 6
    have y7 := hX.br.free 7
    go_wp2_with fail
    exact bodyPost_ret (Bx.stm1 (x := (⟨⟨v, lt, rt, t⟩, sn, ky, sr, ss⟩ : Stm)) (t := 4) rfl _ rfl hS) rfl (OddSt.intro (⟨⟨v, lt, rt, t⟩, sn, ky, sr, ss⟩ : Stm) q' rfl hF.1 hF.2 ⟨⟨hv, HI.out.time, by have := HI.out.last; dsimp only at this ⊢; omega, by have := HI.out.root; dsimp only at this ⊢; omega⟩, HI.out.seen⟩)
end Go.Proofs.YtipoljcgfcjlnaaGreatDoor
/- A stamp in which something is changed: case 5. -/
namespace Go.Proofs.YtipoljcgfcjlnaaGreatDoor
open Go.RowKit
set_option maxRecDepth 100000 in
set_option maxHeartbeats 4000000 in
theorem oddst5 (W : World) (db : Nat) (p : Option Addr) (l : List Int) (cap q : Nat) (n : Int) (lt rt : List UInt8) (t sn ky sr ss : Int) (w : World) (hE : Env W w db p l cap q) (hR : Rd W p (ints l)) (hdb : W.heap.size ≤ db) (hlen : l.length ≤ 281474976710656) (hI : Stm.Sm ⟨⟨n, lt, rt, t⟩, sn, ky, sr, ss⟩) (hx : dnum l q 8 = 5) :
    Calls Tryz.prog 9 #[.pointer (some ⟨db, 0, none⟩), .agg #[.int .i64 n, .string ⟨lt.toArray⟩, .string ⟨rt.toArray⟩, .int .i64 t, .int .i64 sn, .int .i64 ky, .int .i64 sr, .int .i64 ss]] w (OddSt W w db p l cap) := by
  have HI := Lib.hid hI
  clear hI
  have hne := rd_ne hR hdb
  have HNE := Lib.hid hne
  have HRW := Lib.hid hR
  have HX := Lib.hid hx
  have hwl := hE.dice.lt
  have hO : Ods W w ((w.alloc (stmB ⟨⟨n, lt, rt, t⟩, sn, ky, sr, ss⟩)).alloc zeroB) db p l cap q w.heap.size (w.heap.size + 1) ⟨⟨n, lt, rt, t⟩, sn, ky, sr, ss⟩ := by
    have h1 := (Below.refl w.heap.size w).alloc (Nat.le_refl _) (stmB ⟨⟨n, lt, rt, t⟩, sn, ky, sr, ss⟩)
    have h2 := h1.alloc (by simp) zeroB
    exact ⟨hE.keep h2, (Bx.new w _ _).alloc _, Bx.new2 w _ _ Stm.zero.cells, below_grownBy h2 _, Nat.le_refl _, by omega, by omega⟩
  clear hne hR hE hx
  go_enter Tryz.func9, Tryz.ntmps9
  go_wp2_with (go_at_call 10; (with_reducible refine (next_walk db p l cap q 8 _ hO.env.dice hO.env.rd HNE.out hlen (by omega) (by omega)).mono ?_))
  rintro e w1 ⟨rfl, hD1, hg1⟩
  replace hO := hO.next HNE.out hdb hwl hD1 hg1
  rw [HX.out]
  generalize dnxt l q = q1 at *
  clear hD1 hg1 HX
  obtain ⟨gb, hgb⟩ : ∃ gb, gb = w.heap.size := ⟨_, rfl⟩
  rw [← hgb] at hO ⊢
  obtain ⟨gr, hgr⟩ : ∃ gr, gr = gb + 1 := ⟨_, rfl⟩
  rw [← hgr] at hO ⊢
  clear hgb hgr
  have hdl := hO.env.dice.lt
  have hgl := hO.bs.lt
  have hgl2 := hO.br.lt
  have c7 : w1.cell? ⟨gb, 7, none⟩ = some (.int .i64 ss) := hO.bs.cell 7 rfl
  have f7 := hO.bs.free 7
  have a1 := dnum_lo l q1 (n := 3) (by omega)
  have a2 := dnum_hi l q1 (n := 3) (by omega)
  have hO1 := hO.keep (show Below w1.heap.size w1 w1.drew from (Below.refl _ _).drew)
  go_wp2_with fail
  refine cut_last (fun KL hKL => ?_)
  go_cut [] (fun wr => ∃ (q' : Nat) (v : Int), Ods W w wr db p l cap q' gb gr (⟨⟨n, lt, rt, t⟩, sn, ky, sr, v⟩ : Stm))
  case first =>
    generalize hdn : dnum l q1 3 = dn at *
    have HDN := Lib.hid hdn
    clear hdn
    go_region_with ((go_at_call 10; refine (next_walk db p l cap q1 3 _ hO1.env.dice hO1.env.rd HNE.out hlen (by omega) (by omega)).mono ?_; rintro e wN ⟨rfl, hDN, hgN⟩; rw [HDN.out]; have hON := hO1.next HNE.out hdb hwl hDN hgN; clear hDN hgN; have d1 : wN.cell? ⟨gb, 7, none⟩ = some (.int .i64 ss) := hON.bs.cell 7 rfl; have e1 := hON.bs.free 7; have l1 := hON.bs.lt))
    all_goals (go_wp2_with fail; go_meet)
    all_goals
      case rel => exact ⟨_, _, (fun v => hON.turn HRW.out hdb hwl 7 (.int .i64 v) (x' := (⟨⟨n, lt, rt, t⟩, sn, ky, sr, v⟩ : Stm)) rfl) _⟩
  case rest =>
    obtain ⟨q', v, hX⟩ := hcut
    refine hKL.out _ _ ?_
    have hF := hX.fin HRW.out hdb hwl
    have hS := hX.br.setStm (y := Stm.zero) (⟨⟨n, lt, rt, t⟩, sn, ky, sr, v⟩ : Stm)
    have b0 : wc.cell? ⟨gb, 0, none⟩ = some (.int .i64 n) := hX.bs.cell 0 rfl
    have b1 : wc.cell? ⟨gb, 1, none⟩ = some (.string ⟨lt.toArray⟩) := hX.bs.cell 1 rfl
    have b2 : wc.cell? ⟨gb, 2, none⟩ = some (.string ⟨rt.toArray⟩) := hX.bs.cell 2 rfl
    have b3 : wc.cell? ⟨gb, 3, none⟩ = some (.int .i64 t) := hX.bs.cell 3 rfl
    have b4 : wc.cell? ⟨gb, 4, none⟩ = some (.int .i64 sn) := hX.bs.cell 4 rfl
    have b5 : wc.cell? ⟨gb, 5, none⟩ = some (.int .i64 ky) := hX.bs.cell 5 rfl
    have b6 : wc.cell? ⟨gb, 6, none⟩ = some (.int .i64 sr) := hX.bs.cell 6 rfl
    have b7 : wc.cell? ⟨gb, 7, none⟩ = some (.int .i64 (v)) := hX.bs.cell 7 rfl
    have z0 : wc.cell? ⟨gr, 0, none⟩ = some (.int .i64 0) := hX.br.cell 0 rfl
    have z1 : wc.cell? ⟨gr, 1, none⟩ = some (.string ⟨#[]⟩) := hX.br.cell 1 rfl
    have z2 : wc.cell? ⟨gr, 2, none⟩ = some (.string ⟨#[]⟩) := hX.br.cell 2 rfl
    have z3 : wc.cell? ⟨gr, 3, none⟩ = some (.int .i64 0) := hX.br.cell 3 rfl
    have z4 : wc.cell? ⟨gr, 4, none⟩ = some (.int .i64 0) := hX.br.cell 4 rfl
    have z5 : wc.cell? ⟨gr, 5, none⟩ = some (.int .i64 0) := hX.br.cell 5 rfl
    have z6 : wc.cell? ⟨gr, 6, none⟩ = some (.int .i64 0) := hX.br.cell 6 rfl
    have z7 : wc.cell? ⟨gr, 7, none⟩ = some (.int .i64 0) := hX.br.cell 7 rfl
    have y0 := hX.br.free 0
    have y1 := hX.br.free 1
    have y2 := hX.br.free 2
    have y3 := hX.br.free 3
    have y4 := hX.br.free 4
    have y5 := hX.br.free 5
    have y6 := hX.br.free 6
    have y7 := hX.br.free 7
    go_wp2_with fail
    exact bodyPost_ret (Bx.stm1 (x := (⟨⟨n, lt, rt, t⟩, sn, ky, sr, v⟩ : Stm)) (t := 4) rfl _ rfl hS) rfl (OddSt.intro (⟨⟨n, lt, rt, t⟩, sn, ky, sr, v⟩ : Stm) q' rfl hF.1 hF.2 ⟨⟨HI.out.count, HI.out.time, by have := HI.out.last; dsimp only at this ⊢; omega, by have := HI.out.root; dsimp only at this ⊢; omega⟩, HI.out.seen⟩)
end Go.Proofs.YtipoljcgfcjlnaaGreatDoor
