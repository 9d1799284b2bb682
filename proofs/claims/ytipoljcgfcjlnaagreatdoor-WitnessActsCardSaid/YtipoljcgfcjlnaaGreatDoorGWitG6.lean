/- A stamp in which something is changed: case 6. -/
import Derived.Test.YtipoljcgfcjlnaaGreatDoorGWitG
namespace Go.Proofs.YtipoljcgfcjlnaaGreatDoor
open Go.RowKit
theorem wordF_len {l : List Int} {q m : Nat} {xs : List (List UInt8)} (h : ∀ x ∈ xs, x.length ≤ m) : (wordF l q xs).length ≤ m := by
  unfold wordF
  rw [List.getD_eq_getElem?_getD]
  cases hx : xs[(dnum l q (xs.length : Int)).toNat]? with
  | none => simp
  | some y => exact h y (List.mem_of_getElem? hx)
set_option maxRecDepth 100000 in
set_option maxHeartbeats 4000000 in
theorem oddst6 (W : World) (db : Nat) (p : Option Addr) (l : List Int) (cap q : Nat) (n : Int) (lt rt : List UInt8) (t sn ky sr ss : Int) (w : World) (hE : Env W w db p l cap q) (hR : Rd W p (ints l)) (hdb : W.heap.size ≤ db) (hlen : l.length ≤ 281474976710656) (hI : Stm.Sm ⟨⟨n, lt, rt, t⟩, sn, ky, sr, ss⟩) (hx : dnum l q 8 = 6) :
    Calls Tryz.prog 9 #[.pointer (some ⟨db, 0, none⟩), .agg #[.int .i64 n, .string ⟨lt.toArray⟩, .string ⟨rt.toArray⟩, .int .i64 t, .int .i64 sn, .int .i64 ky, .int .i64 sr, .int .i64 ss]] w (OddSt W w db p l cap) := by
  have HI := Lib.hid hI
  clear hI
  have hne := rd_ne hR hdb
  have HNE := Lib.hid hne
  have HRW := Lib.hid hR
  have HX := Lib.hid hx
  have hwl := hE.dice.lt
  have hO : Ods W w ((w.alloc (stmB ⟨⟨n, lt, rt, t⟩, sn, ky, sr, ss⟩)).alloc zeroB) db p l cap q w.heap.size (w.heap.size + 1) ⟨⟨n, lt, rt, t⟩, sn, ky, sr, ss⟩ := by
    have h1 := (Below.refl w.heap.size w).alloc (Nat.le_refl _) (stmB ⟨⟨n, lt, rt, t⟩, sn, ky, sr, ss⟩)
    have h2 := h1.alloc (by simp) zeroB
    exact ⟨hE.keep h2, (Bx.new w _ _).alloc _, Bx.new2 w _ _ Stm.zero.cells, below_grownBy h2 _, Nat.le_refl _, by omega, by omega⟩
  clear hne hR hE hx
  go_enter Tryz.func9, Tryz.ntmps9
  go_wp2_with (go_at_call 10; (with_reducible refine (next_walk db p l cap q 8 _ hO.env.dice hO.env.rd HNE.out hlen (by omega) (by omega)).mono ?_))
  rintro e w1 ⟨rfl, hD1, hg1⟩
  replace hO := hO.next HNE.out hdb hwl hD1 hg1
  rw [HX.out]
  generalize dnxt l q = q1 at *
  clear hD1 hg1 HX
  obtain ⟨gb, hgb⟩ : ∃ gb, gb = w.heap.size := ⟨_, rfl⟩
  rw [← hgb] at hO ⊢
  obtain ⟨gr, hgr⟩ : ∃ gr, gr = gb + 1 := ⟨_, rfl⟩
  rw [← hgr] at hO ⊢
  clear hgb hgr
  have hdl := hO.env.dice.lt
  have hgl := hO.bs.lt
  have hgl2 := hO.br.lt
  go_wp2_with fail
  refine new_strs (fun V => Calls _ _ _ V _) [[], [120]] ?_
  intro w3 hb3 hRp
  have hsz := hO.env.dice.lt
  refine (dword_walk db p l cap q1 w1.heap.size [[], [120]] _ w3 (hO.keep hb3).env.dice (hO.keep hb3).env.rd HNE.out hlen hRp (by omega) (by simp) (by simp)).mono ?_
  rintro e w4 ⟨rfl, hD4, hg4⟩
  replace hO := (hO.keep hb3).next HNE.out hdb hwl hD4 hg4
  have HS1 := Lib.hid (wordF_len (l := l) (q := q1) (xs := [[], [120]]) (m := 1000) (by intro x hx; simp at hx; rcases hx with rfl | rfl <;> simp))
  generalize wordF l q1 [[], [120]] = s1 at *
  generalize dnxt l q1 = q2 at *
  generalize w1.heap.size = g2 at *
  clear hD4 hg4 hb3 hRp hsz
  have f1 := hO.bs.free 1
  have c1 : w4.cell? ⟨gb, 1, none⟩ = some (.string ⟨lt.toArray⟩) := hO.bs.cell 1 rfl
  have hX := hO.turn HRW.out hdb hwl 1 (.string ⟨s1.toArray⟩) (x' := (⟨⟨n, s1, rt, t⟩, sn, ky, sr, ss⟩ : Stm)) rfl
  have hne1 : gb ≠ gr := hO.hne
  have hne2 : gr ≠ gb := fun e => hne1 e.symm
  obtain ⟨W5, hW5⟩ : ∃ W5, W5 = w4.setCell ⟨gb, 1, none⟩ (.string ⟨s1.toArray⟩) := ⟨_, rfl⟩
  have HW5 := Lib.hid hW5
  clear hW5
  go_upto_region 16 with (fail)
  rw [← HW5.out]
  rw [← HW5.out] at hX
  clear c1 f1 hne1 hne2 hO HW5
  have hF := hX.fin HRW.out hdb hwl
  have hS := hX.br.setStm (y := Stm.zero) (⟨⟨n, s1, rt, t⟩, sn, ky, sr, ss⟩ : Stm)
  have b0 : W5.cell? ⟨gb, 0, none⟩ = some (.int .i64 n) := hX.bs.cell 0 rfl
  have b1 : W5.cell? ⟨gb, 1, none⟩ = some (.string ⟨(s1).toArray⟩) := hX.bs.cell 1 rfl
  have b2 : W5.cell? ⟨gb, 2, none⟩ = some (.string ⟨rt.toArray⟩) := hX.bs.cell 2 rfl
  have b3 : W5.cell? ⟨gb, 3, none⟩ = some (.int .i64 t) := hX.bs.cell 3 rfl
  have b4 : W5.cell? ⟨gb, 4, none⟩ = some (.int .i64 sn) := hX.bs.cell 4 rfl
  have b5 : W5.cell? ⟨gb, 5, none⟩ = some (.int .i64 ky) := hX.bs.cell 5 rfl
  have b6 : W5.cell? ⟨gb, 6, none⟩ = some (.int .i64 sr) := hX.bs.cell 6 rfl
  have b7 : W5.cell? ⟨gb, 7, none⟩ = some (.int .i64 ss) := hX.bs.cell 7 rfl
  have z0 : W5.cell? ⟨gr, 0, none⟩ = some (.int .i64 0) := hX.br.cell 0 rfl
  have z1 : W5.cell? ⟨gr, 1, none⟩ = some (.string ⟨#[]⟩) := hX.br.cell 1 rfl
  have z2 : W5.cell? ⟨gr, 2, none⟩ = some (.string ⟨#[]⟩) := hX.br.cell 2 rfl
  have z3 : W5.cell? ⟨gr, 3, none⟩ = some (.int .i64 0) := hX.br.cell 3 rfl
  have z4 : W5.cell? ⟨gr, 4, none⟩ = some (.int .i64 0) := hX.br.cell 4 rfl
  have z5 : W5.cell? ⟨gr, 5, none⟩ = some (.int .i64 0) := hX.br.cell 5 rfl
  have z6 : W5.cell? ⟨gr, 6, none⟩ = some (.int .i64 0) := hX.br.cell 6 rfl
  have z7 : W5.cell? ⟨gr, 7, none⟩ = some (.int .i64 0) := hX.br.cell 7 rfl
  have y0 := hX.br.free 0
  have y1 := hX.br.free 1
  have y2 := hX.br.free 2
  have y3 := hX.br.free 3
  have y4 := hX.br.free 4
  have y5 := hX.br.free 5
  have y6 := hX.br.free 6
  have y7 := hX.br.free 7
  go_wp2_with fail
  exact bodyPost_ret (Bx.stm1 (x := (⟨⟨n, s1, rt, t⟩, sn, ky, sr, ss⟩ : Stm)) (t := 4) rfl _ rfl hS) rfl (OddSt.intro (⟨⟨n, s1, rt, t⟩, sn, ky, sr, ss⟩ : Stm) q2 rfl hF.1 hF.2 ⟨⟨HI.out.count, HI.out.time, HS1.out, by have := HI.out.root; dsimp only at this ⊢; omega⟩, HI.out.seen⟩)
end Go.Proofs.YtipoljcgfcjlnaaGreatDoor
