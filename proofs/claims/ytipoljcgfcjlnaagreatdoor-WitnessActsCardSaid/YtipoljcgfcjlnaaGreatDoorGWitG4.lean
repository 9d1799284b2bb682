/- A stamp in which something is changed: case 4. -/
import Derived.Test.YtipoljcgfcjlnaaGreatDoorGWitG
namespace Go.Proofs.YtipoljcgfcjlnaaGreatDoor
open Go.RowKit
set_option maxRecDepth 100000 in
set_option maxHeartbeats 4000000 in
theorem oddst4 (W : World) (db : Nat) (p : Option Addr) (l : List Int) (cap q : Nat) (n : Int) (lt rt : List UInt8) (t sn ky sr ss : Int) (w : World) (hE : Env W w db p l cap q) (hR : Rd W p (ints l)) (hdb : W.heap.size ≤ db) (hlen : l.length ≤ 281474976710656) (hI : Stm.Sm ⟨⟨n, lt, rt, t⟩, sn, ky, sr, ss⟩) (hx : dnum l q 8 = 4) :
    Calls Tryz.prog 9 #[.pointer (some ⟨db, 0, none⟩), .agg #[.int .i64 n, .string ⟨lt.toArray⟩, .string ⟨rt.toArray⟩, .int .i64 t, .int .i64 sn, .int .i64 ky, .int .i64 sr, .int .i64 ss]] w (OddSt W w db p l cap) := by
  have HI := Lib.hid hI
  clear hI
  have hne := rd_ne hR hdb
  have HNE := Lib.hid hne
  have HRW := Lib.hid hR
  have HX := Lib.hid hx
  have hwl := hE.dice.lt
  have hO : Ods W w ((w.alloc (stmB ⟨⟨n, lt, rt, t⟩, sn, ky, sr, ss⟩)).alloc zeroB) db p l cap q w.heap.size (w.heap.size + 1) ⟨⟨n, lt, rt, t⟩, sn, ky, sr, ss⟩ := by
    have h1 := (Below.refl w.heap.size w).alloc (Nat.le_refl _) (stmB ⟨⟨n, lt, rt, t⟩, sn, ky, sr, ss⟩)
    have h2 := h1.alloc (by simp) zeroB
    exact ⟨hE.keep h2, (Bx.new w _ _).alloc _, Bx.new2 w _ _ Stm.zero.cells, below_grownBy h2 _, Nat.le_refl _, by omega, by omega⟩
  clear hne hR hE hx
  go_enter Tryz.func9, Tryz.ntmps9
  go_wp2_with (go_at_call 10; (with_reducible refine (next_walk db p l cap q 8 _ hO.env.dice hO.env.rd HNE.out hlen (by omega) (by omega)).mono ?_))
  rintro e w1 ⟨rfl, hD1, hg1⟩
  replace hO := hO.next HNE.out hdb hwl hD1 hg1
  rw [HX.out]
  generalize dnxt l q = q1 at *
  clear hD1 hg1 HX
  obtain ⟨gb, hgb⟩ : ∃ gb, gb = w.heap.size := ⟨_, rfl⟩
  rw [← hgb] at hO ⊢
  obtain ⟨gr, hgr⟩ : ∃ gr, gr = gb + 1 := ⟨_, rfl⟩
  rw [← hgr] at hO ⊢
  clear hgb hgr
  have hdl := hO.env.dice.lt
  have hgl := hO.bs.lt
  have hgl2 := hO.br.lt
  have kp : ∀ V, Calls Tryz.prog 28 #[.int .i64 3] V fun e w' => e = .returned (.int .i64 (gpw 500000003 4 3 : Int)) ∧ V = w' := fun V => kpublic_walk 3 V
  generalize gpw 500000003 4 3 = pb at *
  have KP := Lib.hid kp
  clear kp
  obtain ⟨k2, hk2⟩ : ∃ k2, k2 = IntKind.i64.wrap (ky + 1) := ⟨_, rfl⟩
  have a1 := dnum_lo l q1 (n := 5) (by omega)
  have a2 := dnum_hi l q1 (n := 5) (by omega)
  obtain ⟨j, hj⟩ : ∃ j : Nat, dnum l q1 5 = (j : Int) := ⟨(dnum l q1 5).toNat, by omega⟩
  have hjk : j < 5 := by omega
  have HJ := Lib.hid hj
  clear a1 a2 hj
  have hO1 := hO.keep (show Below w1.heap.size w1 w1.drew from (Below.refl _ _).drew)
  have c5 : w1.cell? ⟨gb, 5, none⟩ = some (.int .i64 ky) := hO.bs.cell 5 rfl
  have f5 := hO.bs.free 5
  have hw : IntKind.i64.wrap (ky + 1) = k2 := hk2.symm
  clear hk2
  go_wp2_with fail
  refine cut_last (fun KL hKL => ?_)
  go_cut [] (fun wr => ∃ (q' : Nat) (v : Int), Ods W w wr db p l cap q' gb gr (⟨⟨n, lt, rt, t⟩, sn, v, sr, ss⟩ : Stm))
  case first =>
    have hO2 := hO.keep (show Below w1.heap.size w1 (w1.alloc (.cells #[.int .i64 0, .int .i64 1, .int .i64 4, .int .i64 k2, .int .i64 (pb : Int)] 3)).drew from ((Below.refl _ _).alloc (Nat.le_refl _) _).drew)
    rcases (show j = 0 ∨ j = 1 ∨ j = 2 ∨ j = 3 ∨ j = 4 by omega) with rfl | rfl | rfl | rfl | rfl
    · go_region_with (first | (go_at_call 28; ((with_reducible refine (KP.out _).mono ?_)); rintro e wP ⟨rfl, rfl⟩) | (go_at_call 10; refine (next_walk db p l cap q1 5 _ (by first | exact hO1.env.dice | exact hO2.env.dice) (by first | exact hO1.env.rd | exact hO2.env.rd) HNE.out hlen (by omega) (by omega)).mono ?_; rintro e wN ⟨rfl, hDN, hgN⟩; rw [HJ.out]; (first | (have hON := hO1.next HNE.out hdb hwl hDN hgN) | (have hON := hO2.next HNE.out hdb hwl hDN hgN; have s0 := hgN.cell (a := ⟨w1.heap.size, 0, none⟩) (v := .int .i64 0) (by simp [World.cell?_alloc_at]) (by simp; omega); have s1 := hgN.cell (a := ⟨w1.heap.size, 1, none⟩) (v := .int .i64 1) (by simp [World.cell?_alloc_at]) (by simp; omega); have s2 := hgN.cell (a := ⟨w1.heap.size, 2, none⟩) (v := .int .i64 4) (by simp [World.cell?_alloc_at]) (by simp; omega); have s3 := hgN.cell (a := ⟨w1.heap.size, 3, none⟩) (v := .int .i64 k2) (by simp [World.cell?_alloc_at]) (by simp; omega); have s4 := hgN.cell (a := ⟨w1.heap.size, 4, none⟩) (v := .int .i64 (pb : Int)) (by simp [World.cell?_alloc_at]) (by simp; omega))); clear hDN hgN; have d1 : wN.cell? ⟨gb, 5, none⟩ = some (.int .i64 ky) := hON.bs.cell 5 rfl; have e1 := hON.bs.free 5; have l1 := hON.bs.lt))
      all_goals (go_wp2_with fail; go_meet)
      all_goals
        case rel =>
          first
            | (have _ := s0; exact ⟨_, _, (fun v => hON.turn HRW.out hdb hwl 5 (.int .i64 v) (x' := (⟨⟨n, lt, rt, t⟩, sn, v, sr, ss⟩ : Stm)) rfl) _⟩)
            | (have hOM := (hON.turn HRW.out hdb hwl 5 (.int .i64 0) rfl (x' := (⟨⟨n, lt, rt, t⟩, sn, 0, sr, ss⟩ : Stm))).keep ((Below.refl _ _).alloc (Nat.le_refl _) (.cells #[.int .i64 0, .int .i64 1, .int .i64 4, .int .i64 k2, .int .i64 (pb : Int)] 3)); exact ⟨_, _, hOM⟩)
    · go_region_with (first | (go_at_call 28; ((with_reducible refine (KP.out _).mono ?_)); rintro e wP ⟨rfl, rfl⟩) | (go_at_call 10; refine (next_walk db p l cap q1 5 _ (by first | exact hO1.env.dice | exact hO2.env.dice) (by first | exact hO1.env.rd | exact hO2.env.rd) HNE.out hlen (by omega) (by omega)).mono ?_; rintro e wN ⟨rfl, hDN, hgN⟩; rw [HJ.out]; (first | (have hON := hO1.next HNE.out hdb hwl hDN hgN) | (have hON := hO2.next HNE.out hdb hwl hDN hgN; have s0 := hgN.cell (a := ⟨w1.heap.size, 0, none⟩) (v := .int .i64 0) (by simp [World.cell?_alloc_at]) (by simp; omega); have s1 := hgN.cell (a := ⟨w1.heap.size, 1, none⟩) (v := .int .i64 1) (by simp [World.cell?_alloc_at]) (by simp; omega); have s2 := hgN.cell (a := ⟨w1.heap.size, 2, none⟩) (v := .int .i64 4) (by simp [World.cell?_alloc_at]) (by simp; omega); have s3 := hgN.cell (a := ⟨w1.heap.size, 3, none⟩) (v := .int .i64 k2) (by simp [World.cell?_alloc_at]) (by simp; omega); have s4 := hgN.cell (a := ⟨w1.heap.size, 4, none⟩) (v := .int .i64 (pb : Int)) (by simp [World.cell?_alloc_at]) (by simp; omega))); clear hDN hgN; have d1 : wN.cell? ⟨gb, 5, none⟩ = some (.int .i64 ky) := hON.bs.cell 5 rfl; have e1 := hON.bs.free 5; have l1 := hON.bs.lt))
      all_goals (go_wp2_with fail; go_meet)
      all_goals
        case rel =>
          first
            | (have _ := s0; exact ⟨_, _, (fun v => hON.turn HRW.out hdb hwl 5 (.int .i64 v) (x' := (⟨⟨n, lt, rt, t⟩, sn, v, sr, ss⟩ : Stm)) rfl) _⟩)
            | (have hOM := (hON.turn HRW.out hdb hwl 5 (.int .i64 1) rfl (x' := (⟨⟨n, lt, rt, t⟩, sn, 1, sr, ss⟩ : Stm))).keep ((Below.refl _ _).alloc (Nat.le_refl _) (.cells #[.int .i64 0, .int .i64 1, .int .i64 4, .int .i64 k2, .int .i64 (pb : Int)] 3)); exact ⟨_, _, hOM⟩)
    · go_region_with (first | (go_at_call 28; ((with_reducible refine (KP.out _).mono ?_)); rintro e wP ⟨rfl, rfl⟩) | (go_at_call 10; refine (next_walk db p l cap q1 5 _ (by first | exact hO1.env.dice | exact hO2.env.dice) (by first | exact hO1.env.rd | exact hO2.env.rd) HNE.out hlen (by omega) (by omega)).mono ?_; rintro e wN ⟨rfl, hDN, hgN⟩; rw [HJ.out]; (first | (have hON := hO1.next HNE.out hdb hwl hDN hgN) | (have hON := hO2.next HNE.out hdb hwl hDN hgN; have s0 := hgN.cell (a := ⟨w1.heap.size, 0, none⟩) (v := .int .i64 0) (by simp [World.cell?_alloc_at]) (by simp; omega); have s1 := hgN.cell (a := ⟨w1.heap.size, 1, none⟩) (v := .int .i64 1) (by simp [World.cell?_alloc_at]) (by simp; omega); have s2 := hgN.cell (a := ⟨w1.heap.size, 2, none⟩) (v := .int .i64 4) (by simp [World.cell?_alloc_at]) (by simp; omega); have s3 := hgN.cell (a := ⟨w1.heap.size, 3, none⟩) (v := .int .i64 k2) (by simp [World.cell?_alloc_at]) (by simp; omega); have s4 := hgN.cell (a := ⟨w1.heap.size, 4, none⟩) (v := .int .i64 (pb : Int)) (by simp [World.cell?_alloc_at]) (by simp; omega))); clear hDN hgN; have d1 : wN.cell? ⟨gb, 5, none⟩ = some (.int .i64 ky) := hON.bs.cell 5 rfl; have e1 := hON.bs.free 5; have l1 := hON.bs.lt))
      all_goals (go_wp2_with fail; go_meet)
      all_goals
        case rel =>
          first
            | (have _ := s0; exact ⟨_, _, (fun v => hON.turn HRW.out hdb hwl 5 (.int .i64 v) (x' := (⟨⟨n, lt, rt, t⟩, sn, v, sr, ss⟩ : Stm)) rfl) _⟩)
            | (have hOM := (hON.turn HRW.out hdb hwl 5 (.int .i64 4) rfl (x' := (⟨⟨n, lt, rt, t⟩, sn, 4, sr, ss⟩ : Stm))).keep ((Below.refl _ _).alloc (Nat.le_refl _) (.cells #[.int .i64 0, .int .i64 1, .int .i64 4, .int .i64 k2, .int .i64 (pb : Int)] 3)); exact ⟨_, _, hOM⟩)
    · go_region_with (first | (go_at_call 28; ((with_reducible refine (KP.out _).mono ?_)); rintro e wP ⟨rfl, rfl⟩) | (go_at_call 10; refine (next_walk db p l cap q1 5 _ (by first | exact hO1.env.dice | exact hO2.env.dice) (by first | exact hO1.env.rd | exact hO2.env.rd) HNE.out hlen (by omega) (by omega)).mono ?_; rintro e wN ⟨rfl, hDN, hgN⟩; rw [HJ.out]; (first | (have hON := hO1.next HNE.out hdb hwl hDN hgN) | (have hON := hO2.next HNE.out hdb hwl hDN hgN; have s0 := hgN.cell (a := ⟨w1.heap.size, 0, none⟩) (v := .int .i64 0) (by simp [World.cell?_alloc_at]) (by simp; omega); have s1 := hgN.cell (a := ⟨w1.heap.size, 1, none⟩) (v := .int .i64 1) (by simp [World.cell?_alloc_at]) (by simp; omega); have s2 := hgN.cell (a := ⟨w1.heap.size, 2, none⟩) (v := .int .i64 4) (by simp [World.cell?_alloc_at]) (by simp; omega); have s3 := hgN.cell (a := ⟨w1.heap.size, 3, none⟩) (v := .int .i64 k2) (by simp [World.cell?_alloc_at]) (by simp; omega); have s4 := hgN.cell (a := ⟨w1.heap.size, 4, none⟩) (v := .int .i64 (pb : Int)) (by simp [World.cell?_alloc_at]) (by simp; omega))); clear hDN hgN; have d1 : wN.cell? ⟨gb, 5, none⟩ = some (.int .i64 ky) := hON.bs.cell 5 rfl; have e1 := hON.bs.free 5; have l1 := hON.bs.lt))
      all_goals (go_wp2_with fail; go_meet)
      all_goals
        case rel =>
          first
            | (have _ := s0; exact ⟨_, _, (fun v => hON.turn HRW.out hdb hwl 5 (.int .i64 v) (x' := (⟨⟨n, lt, rt, t⟩, sn, v, sr, ss⟩ : Stm)) rfl) _⟩)
            | (have hOM := (hON.turn HRW.out hdb hwl 5 (.int .i64 k2) rfl (x' := (⟨⟨n, lt, rt, t⟩, sn, k2, sr, ss⟩ : Stm))).keep ((Below.refl _ _).alloc (Nat.le_refl _) (.cells #[.int .i64 0, .int .i64 1, .int .i64 4, .int .i64 k2, .int .i64 (pb : Int)] 3)); exact ⟨_, _, hOM⟩)
    · go_region_with (first | (go_at_call 28; ((with_reducible refine (KP.out _).mono ?_)); rintro e wP ⟨rfl, rfl⟩) | (go_at_call 10; refine (next_walk db p l cap q1 5 _ (by first | exact hO1.env.dice | exact hO2.env.dice) (by first | exact hO1.env.rd | exact hO2.env.rd) HNE.out hlen (by omega) (by omega)).mono ?_; rintro e wN ⟨rfl, hDN, hgN⟩; rw [HJ.out]; (first | (have hON := hO1.next HNE.out hdb hwl hDN hgN) | (have hON := hO2.next HNE.out hdb hwl hDN hgN; have s0 := hgN.cell (a := ⟨w1.heap.size, 0, none⟩) (v := .int .i64 0) (by simp [World.cell?_alloc_at]) (by simp; omega); have s1 := hgN.cell (a := ⟨w1.heap.size, 1, none⟩) (v := .int .i64 1) (by simp [World.cell?_alloc_at]) (by simp; omega); have s2 := hgN.cell (a := ⟨w1.heap.size, 2, none⟩) (v := .int .i64 4) (by simp [World.cell?_alloc_at]) (by simp; omega); have s3 := hgN.cell (a := ⟨w1.heap.size, 3, none⟩) (v := .int .i64 k2) (by simp [World.cell?_alloc_at]) (by simp; omega); have s4 := hgN.cell (a := ⟨w1.heap.size, 4, none⟩) (v := .int .i64 (pb : Int)) (by simp [World.cell?_alloc_at]) (by simp; omega))); clear hDN hgN; have d1 : wN.cell? ⟨gb, 5, none⟩ = some (.int .i64 ky) := hON.bs.cell 5 rfl; have e1 := hON.bs.free 5; have l1 := hON.bs.lt))
      all_goals (go_wp2_with fail; go_meet)
      all_goals
        case rel =>
          first
            | (have _ := s0; exact ⟨_, _, (fun v => hON.turn HRW.out hdb hwl 5 (.int .i64 v) (x' := (⟨⟨n, lt, rt, t⟩, sn, v, sr, ss⟩ : Stm)) rfl) _⟩)
            | (have hOM := (hON.turn HRW.out hdb hwl 5 (.int .i64 (pb : Int)) rfl (x' := (⟨⟨n, lt, rt, t⟩, sn, (pb : Int), sr, ss⟩ : Stm))).keep ((Below.refl _ _).alloc (Nat.le_refl _) (.cells #[.int .i64 0, .int .i64 1, .int .i64 4, .int .i64 k2, .int .i64 (pb : Int)] 3)); exact ⟨_, _, hOM⟩)
  case rest =>
    obtain ⟨q', v, hX⟩ := hcut
    refine hKL.out _ _ ?_
    have hF := hX.fin HRW.out hdb hwl
    have hS := hX.br.setStm (y := Stm.zero) (⟨⟨n, lt, rt, t⟩, sn, v, sr, ss⟩ : Stm)
    have b0 : wc.cell? ⟨gb, 0, none⟩ = some (.int .i64 n) := hX.bs.cell 0 rfl
    have b1 : wc.cell? ⟨gb, 1, none⟩ = some (.string ⟨lt.toArray⟩) := hX.bs.cell 1 rfl
    have b2 : wc.cell? ⟨gb, 2, none⟩ = some (.string ⟨rt.toArray⟩) := hX.bs.cell 2 rfl
    have b3 : wc.cell? ⟨gb, 3, none⟩ = some (.int .i64 t) := hX.bs.cell 3 rfl
    have b4 : wc.cell? ⟨gb, 4, none⟩ = some (.int .i64 sn) := hX.bs.cell 4 rfl
    have b5 : wc.cell? ⟨gb, 5, none⟩ = some (.int .i64 (v)) := hX.bs.cell 5 rfl
    have b6 : wc.cell? ⟨gb, 6, none⟩ = some (.int .i64 sr) := hX.bs.cell 6 rfl
    have b7 : wc.cell? ⟨gb, 7, none⟩ = some (.int .i64 ss) := hX.bs.cell 7 rfl
    have z0 : wc.cell? ⟨gr, 0, none⟩ = some (.int .i64 0) := hX.br.cell 0 rfl
    have z1 : wc.cell? ⟨gr, 1, none⟩ = some (.string ⟨#[]⟩) := hX.br.cell 1 rfl
    have z2 : wc.cell? ⟨gr, 2, none⟩ = some (.string ⟨#[]⟩) := hX.br.cell 2 rfl
    have z3 : wc.cell? ⟨gr, 3, none⟩ = some (.int .i64 0) := hX.br.cell 3 rfl
    have z4 : wc.cell? ⟨gr, 4, none⟩ = some (.int .i64 0) := hX.br.cell 4 rfl
    have z5 : wc.cell? ⟨gr, 5, none⟩ = some (.int .i64 0) := hX.br.cell 5 rfl
    have z6 : wc.cell? ⟨gr, 6, none⟩ = some (.int .i64 0) := hX.br.cell 6 rfl
    have z7 : wc.cell? ⟨gr, 7, none⟩ = some (.int .i64 0) := hX.br.cell 7 rfl
    have y0 := hX.br.free 0
    have y1 := hX.br.free 1
    have y2 := hX.br.free 2
    have y3 := hX.br.free 3
    have y4 := hX.br.free 4
    have y5 := hX.br.free 5
    have y6 := hX.br.free 6
    have y7 := hX.br.free 7
    go_wp2_with fail
    exact bodyPost_ret (Bx.stm1 (x := (⟨⟨n, lt, rt, t⟩, sn, v, sr, ss⟩ : Stm)) (t := 4) rfl _ rfl hS) rfl (OddSt.intro (⟨⟨n, lt, rt, t⟩, sn, v, sr, ss⟩ : Stm) q' rfl hF.1 hF.2 ⟨⟨HI.out.count, HI.out.time, by have := HI.out.last; dsimp only at this ⊢; omega, by have := HI.out.root; dsimp only at this ⊢; omega⟩, HI.out.seen⟩)
end Go.Proofs.YtipoljcgfcjlnaaGreatDoor
