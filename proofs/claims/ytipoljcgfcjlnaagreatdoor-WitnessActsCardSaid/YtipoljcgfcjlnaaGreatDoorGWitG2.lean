/- A stamp in which something is changed: case 1. -/
import Derived.Test.YtipoljcgfcjlnaaGreatDoorGWitG
import Derived.Test.YtipoljcgfcjlnaaGreatDoorGWitG4
import Derived.Test.YtipoljcgfcjlnaaGreatDoorGWitG6
namespace Go.Proofs.YtipoljcgfcjlnaaGreatDoor
open Go.RowKit
set_option maxRecDepth 100000 in
set_option maxHeartbeats 4000000 in
theorem oddst1 (W : World) (db : Nat) (p : Option Addr) (l : List Int) (cap q : Nat) (n : Int) (lt rt : List UInt8) (t sn ky sr ss : Int) (w : World) (hE : Env W w db p l cap q) (hR : Rd W p (ints l)) (hdb : W.heap.size ≤ db) (hlen : l.length ≤ 281474976710656) (hrl : rt.length ≤ 1000000) (hI : Stm.Sm ⟨⟨n, lt, rt, t⟩, sn, ky, sr, ss⟩) (hx : dnum l q 8 = 1) :
    Calls Tryz.prog 9 #[.pointer (some ⟨db, 0, none⟩), .agg #[.int .i64 n, .string ⟨lt.toArray⟩, .string ⟨rt.toArray⟩, .int .i64 t, .int .i64 sn, .int .i64 ky, .int .i64 sr, .int .i64 ss]] w (OddSt W w db p l cap) := by
  have HI := Lib.hid hI
  clear hI
  have hne := rd_ne hR hdb
  have HNE := Lib.hid hne
  have HRW := Lib.hid hR
  have HX := Lib.hid hx
  have hwl := hE.dice.lt
  have hO : Ods W w ((w.alloc (stmB ⟨⟨n, lt, rt, t⟩, sn, ky, sr, ss⟩)).alloc zeroB) db p l cap q w.heap.size (w.heap.size + 1) ⟨⟨n, lt, rt, t⟩, sn, ky, sr, ss⟩ := by
    have h1 := (Below.refl w.heap.size w).alloc (Nat.le_refl _) (stmB ⟨⟨n, lt, rt, t⟩, sn, ky, sr, ss⟩)
    have h2 := h1.alloc (by simp) zeroB
    exact ⟨hE.keep h2, (Bx.new w _ _).alloc _, Bx.new2 w _ _ Stm.zero.cells, below_grownBy h2 _, Nat.le_refl _, by omega, by omega⟩
  clear hne hR hE hx
  go_enter Tryz.func9, Tryz.ntmps9
  go_wp2_with (go_at_call 10; (with_reducible refine (next_walk db p l cap q 8 _ hO.env.dice hO.env.rd HNE.out hlen (by omega) (by omega)).mono ?_))
  rintro e w1 ⟨rfl, hD1, hg1⟩
  replace hO := hO.next HNE.out hdb hwl hD1 hg1
  rw [HX.out]
  generalize dnxt l q = q1 at *
  clear hD1 hg1 HX
  obtain ⟨gb, hgb⟩ : ∃ gb, gb = w.heap.size := ⟨_, rfl⟩
  rw [← hgb] at hO ⊢
  obtain ⟨gr, hgr⟩ : ∃ gr, gr = gb + 1 := ⟨_, rfl⟩
  rw [← hgr] at hO ⊢
  clear hgb hgr
  have hdl := hO.env.dice.lt
  have hgl := hO.bs.lt
  have hgl2 := hO.br.lt
  have hlim : ¬ (9223372036854775807 < rt.length + 1) := by omega
  have c2 : w1.cell? ⟨gb, 2, none⟩ = some (.string ⟨rt.toArray⟩) := hO.bs.cell 2 rfl
  have f2 := hO.bs.free 2
  have hX := hO.turn HRW.out hdb hwl 2 (.string ⟨(rt ++ [120]).toArray⟩) (x' := (⟨⟨n, lt, rt ++ [120], t⟩, sn, ky, sr, ss⟩ : Stm)) rfl
  have hne1 : gb ≠ gr := hO.hne
  have hne2 : gr ≠ gb := fun e => hne1 e.symm
  go_upto_region 5 with (fail)
  refine cut_last (fun KL hKL => ?_)
  go_cut [] (fun wr => Ods W w wr db p l cap q1 gb gr (⟨⟨n, lt, rt ++ [120], t⟩, sn, ky, sr, ss⟩ : Stm))
  case first =>
    go_wp2_with fail
    go_meet
    case rel => exact hX
  case rest =>
    clear hX
    have hX := hcut
    refine hKL.out _ _ ?_
    clear c2 f2 hne1 hne2
    have hF := hX.fin HRW.out hdb hwl
    have hS := hX.br.setStm (y := Stm.zero) (⟨⟨n, lt, rt ++ [120], t⟩, sn, ky, sr, ss⟩ : Stm)
    have b0 : wc.cell? ⟨gb, 0, none⟩ = some (.int .i64 n) := hX.bs.cell 0 rfl
    have b1 : wc.cell? ⟨gb, 1, none⟩ = some (.string ⟨lt.toArray⟩) := hX.bs.cell 1 rfl
    have b2 : wc.cell? ⟨gb, 2, none⟩ = some (.string ⟨(rt ++ [120]).toArray⟩) := hX.bs.cell 2 rfl
    have b3 : wc.cell? ⟨gb, 3, none⟩ = some (.int .i64 t) := hX.bs.cell 3 rfl
    have b4 : wc.cell? ⟨gb, 4, none⟩ = some (.int .i64 sn) := hX.bs.cell 4 rfl
    have b5 : wc.cell? ⟨gb, 5, none⟩ = some (.int .i64 ky) := hX.bs.cell 5 rfl
    have b6 : wc.cell? ⟨gb, 6, none⟩ = some (.int .i64 sr) := hX.bs.cell 6 rfl
    have b7 : wc.cell? ⟨gb, 7, none⟩ = some (.int .i64 ss) := hX.bs.cell 7 rfl
    have z0 : wc.cell? ⟨gr, 0, none⟩ = some (.int .i64 0) := hX.br.cell 0 rfl
    have z1 : wc.cell? ⟨gr, 1, none⟩ = some (.string ⟨#[]⟩) := hX.br.cell 1 rfl
    have z2 : wc.cell? ⟨gr, 2, none⟩ = some (.string ⟨#[]⟩) := hX.br.cell 2 rfl
    have z3 : wc.cell? ⟨gr, 3, none⟩ = some (.int .i64 0) := hX.br.cell 3 rfl
    have z4 : wc.cell? ⟨gr, 4, none⟩ = some (.int .i64 0) := hX.br.cell 4 rfl
    have z5 : wc.cell? ⟨gr, 5, none⟩ = some (.int .i64 0) := hX.br.cell 5 rfl
    have z6 : wc.cell? ⟨gr, 6, none⟩ = some (.int .i64 0) := hX.br.cell 6 rfl
    have z7 : wc.cell? ⟨gr, 7, none⟩ = some (.int .i64 0) := hX.br.cell 7 rfl
    have y0 := hX.br.free 0
    have y1 := hX.br.free 1
    have y2 := hX.br.free 2
    have y3 := hX.br.free 3
    have y4 := hX.br.free 4
    have y5 := hX.br.free 5
    have y6 := hX.br.free 6
    have y7 := hX.br.free 7
    go_wp2_with fail
    exact bodyPost_ret (Bx.stm1 (x := (⟨⟨n, lt, rt ++ [120], t⟩, sn, ky, sr, ss⟩ : Stm)) (t := 4) rfl _ rfl hS) rfl (OddSt.intro (⟨⟨n, lt, rt ++ [120], t⟩, sn, ky, sr, ss⟩ : Stm) q1 rfl hF.1 hF.2 ⟨⟨HI.out.count, HI.out.time, by have := HI.out.last; dsimp only at this ⊢; omega, by have := HI.out.root; dsimp only at this ⊢; rw [List.length_append]; simp; omega⟩, HI.out.seen⟩)
end Go.Proofs.YtipoljcgfcjlnaaGreatDoor
/- A stamp in which something is changed: case 2. -/
namespace Go.Proofs.YtipoljcgfcjlnaaGreatDoor
open Go.RowKit
set_option maxRecDepth 100000 in
set_option maxHeartbeats 4000000 in
theorem oddst2 (W : World) (db : Nat) (p : Option Addr) (l : List Int) (cap q : Nat) (n : Int) (lt rt : List UInt8) (t sn ky sr ss : Int) (w : World) (hE : Env W w db p l cap q) (hR : Rd W p (ints l)) (hdb : W.heap.size ≤ db) (hlen : l.length ≤ 281474976710656) (hI : Stm.Sm ⟨⟨n, lt, rt, t⟩, sn, ky, sr, ss⟩) (hx : dnum l q 8 = 2) :
    Calls Tryz.prog 9 #[.pointer (some ⟨db, 0, none⟩), .agg #[.int .i64 n, .string ⟨lt.toArray⟩, .string ⟨rt.toArray⟩, .int .i64 t, .int .i64 sn, .int .i64 ky, .int .i64 sr, .int .i64 ss]] w (OddSt W w db p l cap) := by
  have HI := Lib.hid hI
  clear hI
  have hne := rd_ne hR hdb
  have HNE := Lib.hid hne
  have HRW := Lib.hid hR
  have HX := Lib.hid hx
  have hwl := hE.dice.lt
  have hO : Ods W w ((w.alloc (stmB ⟨⟨n, lt, rt, t⟩, sn, ky, sr, ss⟩)).alloc zeroB) db p l cap q w.heap.size (w.heap.size + 1) ⟨⟨n, lt, rt, t⟩, sn, ky, sr, ss⟩ := by
    have h1 := (Below.refl w.heap.size w).alloc (Nat.le_refl _) (stmB ⟨⟨n, lt, rt, t⟩, sn, ky, sr, ss⟩)
    have h2 := h1.alloc (by simp) zeroB
    exact ⟨hE.keep h2, (Bx.new w _ _).alloc _, Bx.new2 w _ _ Stm.zero.cells, below_grownBy h2 _, Nat.le_refl _, by omega, by omega⟩
  clear hne hR hE hx
  go_enter Tryz.func9, Tryz.ntmps9
  go_wp2_with (go_at_call 10; (with_reducible refine (next_walk db p l cap q 8 _ hO.env.dice hO.env.rd HNE.out hlen (by omega) (by omega)).mono ?_))
  rintro e w1 ⟨rfl, hD1, hg1⟩
  replace hO := hO.next HNE.out hdb hwl hD1 hg1
  rw [HX.out]
  generalize dnxt l q = q1 at *
  clear hD1 hg1 HX
  obtain ⟨gb, hgb⟩ : ∃ gb, gb = w.heap.size := ⟨_, rfl⟩
  rw [← hgb] at hO ⊢
  obtain ⟨gr, hgr⟩ : ∃ gr, gr = gb + 1 := ⟨_, rfl⟩
  rw [← hgr] at hO ⊢
  clear hgb hgr
  have hdl := hO.env.dice.lt
  have hgl := hO.bs.lt
  have hgl2 := hO.br.lt
  have c3 : w1.cell? ⟨gb, 3, none⟩ = some (.int .i64 t) := hO.bs.cell 3 rfl
  have f3 := hO.bs.free 3
  have a1 := dnum_lo l q1 (n := 3) (by omega)
  have a2 := dnum_hi l q1 (n := 3) (by omega)
  have hO1 := hO.keep (show Below w1.heap.size w1 w1.drew from (Below.refl _ _).drew)
  go_wp2_with fail
  refine cut_last (fun KL hKL => ?_)
  go_cut [] (fun wr => ∃ (q' : Nat) (v : Int), I64 v ∧ Ods W w wr db p l cap q' gb gr (⟨⟨n, lt, rt, v⟩, sn, ky, sr, ss⟩ : Stm))
  case first =>
    generalize hdn : dnum l q1 3 = dn at *
    have HDN := Lib.hid hdn
    clear hdn
    go_region_with ((go_at_call 10; refine (next_walk db p l cap q1 3 _ hO1.env.dice hO1.env.rd HNE.out hlen (by omega) (by omega)).mono ?_; rintro e wN ⟨rfl, hDN, hgN⟩; rw [HDN.out]; have hON := hO1.next HNE.out hdb hwl hDN hgN; clear hDN hgN; have d1 : wN.cell? ⟨gb, 3, none⟩ = some (.int .i64 t) := hON.bs.cell 3 rfl; have e1 := hON.bs.free 3; have l1 := hON.bs.lt))
    all_goals (go_wp2_with fail; go_meet)
    all_goals
      case rel => refine ⟨_, _, ?_, (fun v => hON.turn HRW.out hdb hwl 3 (.int .i64 v) (x' := (⟨⟨n, lt, rt, v⟩, sn, ky, sr, ss⟩ : Stm)) rfl) _⟩; (first | exact I64.wrap _ | exact ⟨by omega, by omega⟩)
  case rest =>
    obtain ⟨q', v, hv0, hX⟩ := hcut
    have hv := hv0
    refine hKL.out _ _ ?_
    have hF := hX.fin HRW.out hdb hwl
    have hS := hX.br.setStm (y := Stm.zero) (⟨⟨n, lt, rt, v⟩, sn, ky, sr, ss⟩ : Stm)
    have b0 : wc.cell? ⟨gb, 0, none⟩ = some (.int .i64 n) := hX.bs.cell 0 rfl
    have b1 : wc.cell? ⟨gb, 1, none⟩ = some (.string ⟨lt.toArray⟩) := hX.bs.cell 1 rfl
    have b2 : wc.cell? ⟨gb, 2, none⟩ = some (.string ⟨rt.toArray⟩) := hX.bs.cell 2 rfl
    have b3 : wc.cell? ⟨gb, 3, none⟩ = some (.int .i64 (v)) := hX.bs.cell 3 rfl
    have b4 : wc.cell? ⟨gb, 4, none⟩ = some (.int .i64 sn) := hX.bs.cell 4 rfl
    have b5 : wc.cell? ⟨gb, 5, none⟩ = some (.int .i64 ky) := hX.bs.cell 5 rfl
    have b6 : wc.cell? ⟨gb, 6, none⟩ = some (.int .i64 sr) := hX.bs.cell 6 rfl
    have b7 : wc.cell? ⟨gb, 7, none⟩ = some (.int .i64 ss) := hX.bs.cell 7 rfl
    have z0 : wc.cell? ⟨gr, 0, none⟩ = some (.int .i64 0) := hX.br.cell 0 rfl
    have z1 : wc.cell? ⟨gr, 1, none⟩ = some (.string ⟨#[]⟩) := hX.br.cell 1 rfl
    have z2 : wc.cell? ⟨gr, 2, none⟩ = some (.string ⟨#[]⟩) := hX.br.cell 2 rfl
    have z3 : wc.cell? ⟨gr, 3, none⟩ = some (.int .i64 0) := hX.br.cell 3 rfl
    have z4 : wc.cell? ⟨gr, 4, none⟩ = some (.int .i64 0) := hX.br.cell 4 rfl
    have z5 : wc.cell? ⟨gr, 5, none⟩ = some (.int .i64 0) := hX.br.cell 5 rfl
    have z6 : wc.cell? ⟨gr, 6, none⟩ = some (.int .i64 0) := hX.br.cell 6 rfl
    have z7 : wc.cell? ⟨gr, 7, none⟩ = some (.int .i64 0) := hX.br.cell 7 rfl
    have y0 := hX.br.free 0
    have y1 := hX.br.free 1
    have y2 := hX.br.free 2
    have y3 := hX.br.free 3
    have y4 := hX.br.free 4
    have y5 := hX.br.free 5
    have y6 := hX.br.free 6
    have y7 := hX.br.free 7
    go_wp2_with fail
    exact bodyPost_ret (Bx.stm1 (x := (⟨⟨n, lt, rt, v⟩, sn, ky, sr, ss⟩ : Stm)) (t := 4) rfl _ rfl hS) rfl (OddSt.intro (⟨⟨n, lt, rt, v⟩, sn, ky, sr, ss⟩ : Stm) q' rfl hF.1 hF.2 ⟨⟨HI.out.count, hv, by have := HI.out.last; dsimp only at this ⊢; omega, by have := HI.out.root; dsimp only at this ⊢; omega⟩, HI.out.seen⟩)
end Go.Proofs.YtipoljcgfcjlnaaGreatDoor
/- A stamp in which something is changed: case 3. -/
namespace Go.Proofs.YtipoljcgfcjlnaaGreatDoor
open Go.RowKit
set_option maxRecDepth 100000 in
set_option maxHeartbeats 4000000 in
theorem oddst3 (W : World) (db : Nat) (p : Option Addr) (l : List Int) (cap q : Nat) (n : Int) (lt rt : List UInt8) (t sn ky sr ss : Int) (w : World) (hE : Env W w db p l cap q) (hR : Rd W p (ints l)) (hdb : W.heap.size ≤ db) (hlen : l.length ≤ 281474976710656) (hI : Stm.Sm ⟨⟨n, lt, rt, t⟩, sn, ky, sr, ss⟩) (hx : dnum l q 8 = 3) :
    Calls Tryz.prog 9 #[.pointer (some ⟨db, 0, none⟩), .agg #[.int .i64 n, .string ⟨lt.toArray⟩, .string ⟨rt.toArray⟩, .int .i64 t, .int .i64 sn, .int .i64 ky, .int .i64 sr, .int .i64 ss]] w (OddSt W w db p l cap) := by
  have HI := Lib.hid hI
  clear hI
  have hne := rd_ne hR hdb
  have HNE := Lib.hid hne
  have HRW := Lib.hid hR
  have HX := Lib.hid hx
  have hwl := hE.dice.lt
  have hO : Ods W w ((w.alloc (stmB ⟨⟨n, lt, rt, t⟩, sn, ky, sr, ss⟩)).alloc zeroB) db p l cap q w.heap.size (w.heap.size + 1) ⟨⟨n, lt, rt, t⟩, sn, ky, sr, ss⟩ := by
    have h1 := (Below.refl w.heap.size w).alloc (Nat.le_refl _) (stmB ⟨⟨n, lt, rt, t⟩, sn, ky, sr, ss⟩)
    have h2 := h1.alloc (by simp) zeroB
    exact ⟨hE.keep h2, (Bx.new w _ _).alloc _, Bx.new2 w _ _ Stm.zero.cells, below_grownBy h2 _, Nat.le_refl _, by omega, by omega⟩
  clear hne hR hE hx
  go_enter Tryz.func9, Tryz.ntmps9
  go_wp2_with (go_at_call 10; (with_reducible refine (next_walk db p l cap q 8 _ hO.env.dice hO.env.rd HNE.out hlen (by omega) (by omega)).mono ?_))
  rintro e w1 ⟨rfl, hD1, hg1⟩
  replace hO := hO.next HNE.out hdb hwl hD1 hg1
  rw [HX.out]
  generalize dnxt l q = q1 at *
  clear hD1 hg1 HX
  obtain ⟨gb, hgb⟩ : ∃ gb, gb = w.heap.size := ⟨_, rfl⟩
  rw [← hgb] at hO ⊢
  obtain ⟨gr, hgr⟩ : ∃ gr, gr = gb + 1 := ⟨_, rfl⟩
  rw [← hgr] at hO ⊢
  clear hgb hgr
  have hdl := hO.env.dice.lt
  have hgl := hO.bs.lt
  have hgl2 := hO.br.lt
  have c4 : w1.cell? ⟨gb, 4, none⟩ = some (.int .i64 sn) := hO.bs.cell 4 rfl
  have f4 := hO.bs.free 4
  have a1 := dnum_lo l q1 (n := 3) (by omega)
  have a2 := dnum_hi l q1 (n := 3) (by omega)
  have hO1 := hO.keep (show Below w1.heap.size w1 w1.drew from (Below.refl _ _).drew)
  go_wp2_with fail
  refine cut_last (fun KL hKL => ?_)
  go_cut [] (fun wr => ∃ (q' : Nat) (v : Int), I64 v ∧ Ods W w wr db p l cap q' gb gr (⟨⟨n, lt, rt, t⟩, v, ky, sr, ss⟩ : Stm))
  case first =>
    generalize hdn : dnum l q1 3 = dn at *
    have HDN := Lib.hid hdn
    clear hdn
    go_region_with ((go_at_call 10; refine (next_walk db p l cap q1 3 _ hO1.env.dice hO1.env.rd HNE.out hlen (by omega) (by omega)).mono ?_; rintro e wN ⟨rfl, hDN, hgN⟩; rw [HDN.out]; have hON := hO1.next HNE.out hdb hwl hDN hgN; clear hDN hgN; have d1 : wN.cell? ⟨gb, 4, none⟩ = some (.int .i64 sn) := hON.bs.cell 4 rfl; have e1 := hON.bs.free 4; have l1 := hON.bs.lt))
    all_goals (go_wp2_with fail; go_meet)
    all_goals
      case rel => refine ⟨_, _, ?_, (fun v => hON.turn HRW.out hdb hwl 4 (.int .i64 v) (x' := (⟨⟨n, lt, rt, t⟩, v, ky, sr, ss⟩ : Stm)) rfl) _⟩; (first | exact I64.wrap _ | exact ⟨by omega, by omega⟩)
  case rest =>
    obtain ⟨q', v, hv0, hX⟩ := hcut
    have hv := hv0
    refine hKL.out _ _ ?_
    have hF := hX.fin HRW.out hdb hwl
    have hS := hX.br.setStm (y := Stm.zero) (⟨⟨n, lt, rt, t⟩, v, ky, sr, ss⟩ : Stm)
    have b0 : wc.cell? ⟨gb, 0, none⟩ = some (.int .i64 n) := hX.bs.cell 0 rfl
    have b1 : wc.cell? ⟨gb, 1, none⟩ = some (.string ⟨lt.toArray⟩) := hX.bs.cell 1 rfl
    have b2 : wc.cell? ⟨gb, 2, none⟩ = some (.string ⟨rt.toArray⟩) := hX.bs.cell 2 rfl
    have b3 : wc.cell? ⟨gb, 3, none⟩ = some (.int .i64 t) := hX.bs.cell 3 rfl
    have b4 : wc.cell? ⟨gb, 4, none⟩ = some (.int .i64 (v)) := hX.bs.cell 4 rfl
    have b5 : wc.cell? ⟨gb, 5, none⟩ = some (.int .i64 ky) := hX.bs.cell 5 rfl
    have b6 : wc.cell? ⟨gb, 6, none⟩ = some (.int .i64 sr) := hX.bs.cell 6 rfl
    have b7 : wc.cell? ⟨gb, 7, none⟩ = some (.int .i64 ss) := hX.bs.cell 7 rfl
    have z0 : wc.cell? ⟨gr, 0, none⟩ = some (.int .i64 0) := hX.br.cell 0 rfl
    have z1 : wc.cell? ⟨gr, 1, none⟩ = some (.string ⟨#[]⟩) := hX.br.cell 1 rfl
    have z2 : wc.cell? ⟨gr, 2, none⟩ = some (.string ⟨#[]⟩) := hX.br.cell 2 rfl
    have z3 : wc.cell? ⟨gr, 3, none⟩ = some (.int .i64 0) := hX.br.cell 3 rfl
    have z4 : wc.cell? ⟨gr, 4, none⟩ = some (.int .i64 0) := hX.br.cell 4 rfl
    have z5 : wc.cell? ⟨gr, 5, none⟩ = some (.int .i64 0) := hX.br.cell 5 rfl
    have z6 : wc.cell? ⟨gr, 6, none⟩ = some (.int .i64 0) := hX.br.cell 6 rfl
    have z7 : wc.cell? ⟨gr, 7, none⟩ = some (.int .i64 0) := hX.br.cell 7 rfl
    have y0 := hX.br.free 0
    have y1 := hX.br.free 1
    have y2 := hX.br.free 2
    have y3 := hX.br.free 3
    have y4 := hX.br.free 4
    have y5 := hX.br.free 5
    have y6 := hX.br.free 6
    have y7 := hX.br.free 7
    go_wp2_with fail
    exact bodyPost_ret (Bx.stm1 (x := (⟨⟨n, lt, rt, t⟩, v, ky, sr, ss⟩ : Stm)) (t := 4) rfl _ rfl hS) rfl (OddSt.intro (⟨⟨n, lt, rt, t⟩, v, ky, sr, ss⟩ : Stm) q' rfl hF.1 hF.2 ⟨⟨HI.out.count, HI.out.time, by have := HI.out.last; dsimp only at this ⊢; omega, by have := HI.out.root; dsimp only at this ⊢; omega⟩, hv⟩)
end Go.Proofs.YtipoljcgfcjlnaaGreatDoor
/- A stamp in which something is changed: case 7. -/
namespace Go.Proofs.YtipoljcgfcjlnaaGreatDoor
open Go.RowKit
set_option maxRecDepth 100000 in
set_option maxHeartbeats 4000000 in
theorem oddst7 (W : World) (db : Nat) (p : Option Addr) (l : List Int) (cap q : Nat) (n : Int) (lt rt : List UInt8) (t sn ky sr ss : Int) (w : World) (hE : Env W w db p l cap q) (hR : Rd W p (ints l)) (hdb : W.heap.size ≤ db) (hlen : l.length ≤ 281474976710656) (hI : Stm.Sm ⟨⟨n, lt, rt, t⟩, sn, ky, sr, ss⟩) (hx : dnum l q 8 = 7) :
    Calls Tryz.prog 9 #[.pointer (some ⟨db, 0, none⟩), .agg #[.int .i64 n, .string ⟨lt.toArray⟩, .string ⟨rt.toArray⟩, .int .i64 t, .int .i64 sn, .int .i64 ky, .int .i64 sr, .int .i64 ss]] w (OddSt W w db p l cap) := by
  have HI := Lib.hid hI
  clear hI
  have hne := rd_ne hR hdb
  have HNE := Lib.hid hne
  have HRW := Lib.hid hR
  have HX := Lib.hid hx
  have hwl := hE.dice.lt
  have hO : Ods W w ((w.alloc (stmB ⟨⟨n, lt, rt, t⟩, sn, ky, sr, ss⟩)).alloc zeroB) db p l cap q w.heap.size (w.heap.size + 1) ⟨⟨n, lt, rt, t⟩, sn, ky, sr, ss⟩ := by
    have h1 := (Below.refl w.heap.size w).alloc (Nat.le_refl _) (stmB ⟨⟨n, lt, rt, t⟩, sn, ky, sr, ss⟩)
    have h2 := h1.alloc (by simp) zeroB
    exact ⟨hE.keep h2, (Bx.new w _ _).alloc _, Bx.new2 w _ _ Stm.zero.cells, below_grownBy h2 _, Nat.le_refl _, by omega, by omega⟩
  clear hne hR hE hx
  go_enter Tryz.func9, Tryz.ntmps9
  go_wp2_with (go_at_call 10; (with_reducible refine (next_walk db p l cap q 8 _ hO.env.dice hO.env.rd HNE.out hlen (by omega) (by omega)).mono ?_))
  rintro e w1 ⟨rfl, hD1, hg1⟩
  replace hO := hO.next HNE.out hdb hwl hD1 hg1
  rw [HX.out]
  generalize dnxt l q = q1 at *
  clear hD1 hg1 HX
  obtain ⟨gb, hgb⟩ : ∃ gb, gb = w.heap.size := ⟨_, rfl⟩
  rw [← hgb] at hO ⊢
  obtain ⟨gr, hgr⟩ : ∃ gr, gr = gb + 1 := ⟨_, rfl⟩
  rw [← hgr] at hO ⊢
  clear hgb hgr
  have hdl := hO.env.dice.lt
  have hgl := hO.bs.lt
  have hgl2 := hO.br.lt
  have hF := hO.fin HRW.out hdb hwl
  have hS := hO.br.setStm (y := Stm.zero) (⟨⟨n, lt, rt, t⟩, sn, ky, sr, ss⟩ : Stm)
  have b0 : w1.cell? ⟨gb, 0, none⟩ = some (.int .i64 n) := hO.bs.cell 0 rfl
  have b1 : w1.cell? ⟨gb, 1, none⟩ = some (.string ⟨lt.toArray⟩) := hO.bs.cell 1 rfl
  have b2 : w1.cell? ⟨gb, 2, none⟩ = some (.string ⟨rt.toArray⟩) := hO.bs.cell 2 rfl
  have b3 : w1.cell? ⟨gb, 3, none⟩ = some (.int .i64 t) := hO.bs.cell 3 rfl
  have b4 : w1.cell? ⟨gb, 4, none⟩ = some (.int .i64 sn) := hO.bs.cell 4 rfl
  have b5 : w1.cell? ⟨gb, 5, none⟩ = some (.int .i64 ky) := hO.bs.cell 5 rfl
  have b6 : w1.cell? ⟨gb, 6, none⟩ = some (.int .i64 sr) := hO.bs.cell 6 rfl
  have b7 : w1.cell? ⟨gb, 7, none⟩ = some (.int .i64 ss) := hO.bs.cell 7 rfl
  have z0 : w1.cell? ⟨gr, 0, none⟩ = some (.int .i64 0) := hO.br.cell 0 rfl
  have z1 : w1.cell? ⟨gr, 1, none⟩ = some (.string ⟨#[]⟩) := hO.br.cell 1 rfl
  have z2 : w1.cell? ⟨gr, 2, none⟩ = some (.string ⟨#[]⟩) := hO.br.cell 2 rfl
  have z3 : w1.cell? ⟨gr, 3, none⟩ = some (.int .i64 0) := hO.br.cell 3 rfl
  have z4 : w1.cell? ⟨gr, 4, none⟩ = some (.int .i64 0) := hO.br.cell 4 rfl
  have z5 : w1.cell? ⟨gr, 5, none⟩ = some (.int .i64 0) := hO.br.cell 5 rfl
  have z6 : w1.cell? ⟨gr, 6, none⟩ = some (.int .i64 0) := hO.br.cell 6 rfl
  have z7 : w1.cell? ⟨gr, 7, none⟩ = some (.int .i64 0) := hO.br.cell 7 rfl
  have y0 := hO.br.free 0
  have y1 := hO.br.free 1
  have y2 := hO.br.free 2
  have y3 := hO.br.free 3
  have y4 := hO.br.free 4
  have y5 := hO.br.free 5
  have y6 := hO.br.free 6
  have y7 := hO.br.free 7
  go_wp2_with fail
  exact bodyPost_ret (Bx.stm1 (x := (⟨⟨n, lt, rt, t⟩, sn, ky, sr, ss⟩ : Stm)) (t := 4) rfl _ rfl hS) rfl (OddSt.intro (⟨⟨n, lt, rt, t⟩, sn, ky, sr, ss⟩ : Stm) q1 rfl hF.1 hF.2 ⟨⟨HI.out.count, HI.out.time, by have := HI.out.last; dsimp only at this ⊢; omega, by have := HI.out.root; dsimp only at this ⊢; omega⟩, HI.out.seen⟩)
end Go.Proofs.YtipoljcgfcjlnaaGreatDoor
/- A stamp in which something is changed. -/
namespace Go.Proofs.YtipoljcgfcjlnaaGreatDoor
open Go.RowKit
theorem oddst_walk (W : World) (db : Nat) (p : Option Addr) (l : List Int) (cap q : Nat) (n : Int) (lt rt : List UInt8) (t sn ky sr ss : Int) (w : World) (hE : Env W w db p l cap q) (hR : Rd W p (ints l)) (hdb : W.heap.size ≤ db) (hlen : l.length ≤ 281474976710656) (hI : Stm.Sm ⟨⟨n, lt, rt, t⟩, sn, ky, sr, ss⟩) :
    Calls Tryz.prog 9 #[.pointer (some ⟨db, 0, none⟩), .agg #[.int .i64 n, .string ⟨lt.toArray⟩, .string ⟨rt.toArray⟩, .int .i64 t, .int .i64 sn, .int .i64 ky, .int .i64 sr, .int .i64 ss]] w (OddSt W w db p l cap) := by
  have a1 := dnum_lo l q (n := 8) (by omega)
  have a2 := dnum_hi l q (n := 8) (by omega)
  rcases (show dnum l q 8 = 0 ∨ dnum l q 8 = 1 ∨ dnum l q 8 = 2 ∨ dnum l q 8 = 3 ∨ dnum l q 8 = 4 ∨ dnum l q 8 = 5 ∨ dnum l q 8 = 6 ∨ dnum l q 8 = 7 by omega) with h | h | h | h | h | h | h | h
  · exact oddst0 W db p l cap q n lt rt t sn ky sr ss w hE hR hdb hlen hI h
  · exact oddst1 W db p l cap q n lt rt t sn ky sr ss w hE hR hdb hlen (by have := hI.root; dsimp only at this; omega) hI h
  · exact oddst2 W db p l cap q n lt rt t sn ky sr ss w hE hR hdb hlen hI h
  · exact oddst3 W db p l cap q n lt rt t sn ky sr ss w hE hR hdb hlen hI h
  · exact oddst4 W db p l cap q n lt rt t sn ky sr ss w hE hR hdb hlen hI h
  · exact oddst5 W db p l cap q n lt rt t sn ky sr ss w hE hR hdb hlen hI h
  · exact oddst6 W db p l cap q n lt rt t sn ky sr ss w hE hR hdb hlen hI h
  · exact oddst7 W db p l cap q n lt rt t sn ky sr ss w hE hR hdb hlen hI h
end Go.Proofs.YtipoljcgfcjlnaaGreatDoor
