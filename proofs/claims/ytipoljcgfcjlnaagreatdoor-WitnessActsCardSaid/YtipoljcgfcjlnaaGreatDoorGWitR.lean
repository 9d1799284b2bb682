/- Stamps of a witness: the reference's. -/
import Derived.Test.YtipoljcgfcjlnaaGreatDoorGPutR
import Derived.Test.YtipoljcgfcjlnaaGreatDoorGRPow
import Derived.Test.YtipoljcgfcjlnaaGreatDoorGRegion
import Derived.Test.YtipoljcgfcjlnaaGreatDoorGHandT
namespace Go.Proofs.YtipoljcgfcjlnaaGreatDoor
open Go.RowKit
set_option maxRecDepth 100000 in
set_option maxHeartbeats 1000000 in
theorem rwtext_walk (h : Head) (seen : Int) (w : World) (hI : h.In) (hs : I64 seen) :
    Calls Tryz.prog 16 #[.agg #[.int .i64 h.count, .string ⟨h.last.toArray⟩, .string ⟨h.root.toArray⟩, .int .i64 h.time], .int .i64 seen] w fun e w' => e = .returned (.string ⟨(wtextF h seen).toArray⟩) ∧ Below w.heap.size w w' := by
  obtain ⟨n, l, r, t⟩ := h
  obtain ⟨i1, i2, i3, i4⟩ := hI
  dsimp only at i1 i2 i3 i4 ⊢
  have l1 := putInt_ten i1
  have l2 := putText_len _ i3
  have l3 := putText_len _ i4
  have l4 := putInt_ten i2
  have k1 : ∀ V, Calls Tryz.prog 39 #[.string ⟨#[]⟩, .int .i64 n] V fun e w' => e = .returned (.string ⟨(putInt n).toArray⟩) ∧ Below V.heap.size V w' := fun V => rputInt_walk [] n V i1 (by simp)
  have k2 : ∀ V, Calls Tryz.prog 38 #[.string ⟨(putInt n).toArray⟩, .string ⟨l.toArray⟩] V fun e w' => e = .returned (.string ⟨(putInt n ++ putText l).toArray⟩) ∧ Below V.heap.size V w' := fun V => rputText_walk _ l V (by omega) (by omega)
  have k3 : ∀ V, Calls Tryz.prog 38 #[.string ⟨(putInt n ++ putText l).toArray⟩, .string ⟨r.toArray⟩] V fun e w' => e = .returned (.string ⟨(putInt n ++ putText l ++ putText r).toArray⟩) ∧ Below V.heap.size V w' := fun V => rputText_walk _ r V (by rw [List.length_append]; omega) (by omega)
  have k4 : ∀ V, Calls Tryz.prog 39 #[.string ⟨(putInt n ++ putText l ++ putText r).toArray⟩, .int .i64 t] V fun e w' => e = .returned (.string ⟨(putInt n ++ putText l ++ putText r ++ putInt t).toArray⟩) ∧ Below V.heap.size V w' := fun V => rputInt_walk _ t V i2 (by simp only [List.length_append]; omega)
  have k5 : ∀ V, Calls Tryz.prog 39 #[.string ⟨(putInt n ++ putText l ++ putText r ++ putInt t).toArray⟩, .int .i64 seen] V fun e w' => e = .returned (.string ⟨(wtextF ⟨n, l, r, t⟩ seen).toArray⟩) ∧ Below V.heap.size V w' := fun V => rputInt_walk _ seen V hs (by simp only [List.length_append]; omega)
  generalize wtextF ⟨n, l, r, t⟩ seen = s5 at *
  generalize putInt n ++ putText l ++ putText r ++ putInt t = s4 at *
  generalize putInt n ++ putText l ++ putText r = s3 at *
  generalize putInt n ++ putText l = s2 at *
  generalize putInt n = s1 at *
  have K1 := Lib.hid k1
  have K2 := Lib.hid k2
  have K3 := Lib.hid k3
  have K4 := Lib.hid k4
  have K5 := Lib.hid k5
  have hb0 := (Below.refl w.heap.size w).alloc (Nat.le_refl _) (.cells #[.int .i64 n, .string ⟨l.toArray⟩, .string ⟨r.toArray⟩, .int .i64 t] 24)
  have hk := Bx.new w 24 [.int .i64 n, .string ⟨l.toArray⟩, .string ⟨r.toArray⟩, .int .i64 t]
  clear k1 k2 k3 k4 k5 l1 l2 l3 l4 i1 i2 i3 i4 hs
  go_enter Tryz.func16, Tryz.ntmps16
  go_wp2
  have h48 : ∃ W, W = w.alloc (.cells #[.int .i64 n, .string ⟨l.toArray⟩, .string ⟨r.toArray⟩, .int .i64 t] 24) := ⟨_, rfl⟩
  obtain ⟨W, hW⟩ := h48
  rw [← hW]
  simp only [← hW] at hk hb0
  obtain ⟨g, hg⟩ : ∃ g, g = w.heap.size := ⟨_, rfl⟩
  rw [← hg] at hk ⊢
  have c0 := fun d os => cell_regrown (hk.cell 0 rfl) d os
  have c1 := fun d os => cell_regrown (hk.cell 1 rfl) d os
  have c2 := fun d os => cell_regrown (hk.cell 2 rfl) d os
  clear hW hg
  refine wp_region_quiet_below (by kernel_rfl) (by kernel_rfl) ?_
  repeat (go_big_quiet_step (first
    | (go_at_call 39; with_reducible exact Calls.regrown_of (K1.out _))
    | (go_at_call 38; with_reducible exact Calls.regrown_of (K2.out _))
    | (go_at_call 38; with_reducible exact Calls.regrown_of (K3.out _))))
  refine wpQuiet_nil ?_
  rintro w9 ⟨p1, rfl⟩
  have hb9 := below_regrown W p1.d p1.os
  clear c0 c1 c2
  replace hk := hk.keep hb9
  generalize Sort.grow (redrawn W p1.d) p1.os = w10 at *
  have c3 := hk.cell 3 rfl
  go_wp2_with (first
    | (go_at_call 39; ((with_reducible refine (K4.out _).mono ?_)); rintro e w11 ⟨rfl, hb11⟩)
    | (go_at_call 39; ((with_reducible refine (K5.out _).mono ?_)); rintro e w12 ⟨rfl, hb12⟩))
  go_ret
  exact ⟨rfl, hb0.trans ((below_tr hb9 (below_tr hb11 hb12)).mono hb0.size)⟩
set_option maxRecDepth 100000 in
set_option maxHeartbeats 4000000 in
theorem rwstamp_yes (p key nonce : Nat) (h : Head) (seen : Int) (w : World) (hI : h.In) (hsn : I64 seen) (hs : h.time ≤ seen) (hsp : rsafe (p : Int) = true) (hky : 1 ≤ key) (hkp : key < p) (hn : 1 ≤ nonce) (hnp : nonce < p) :
    Calls Tryz.prog 12 #[.int .i64 (p : Int), .int .i64 (key : Int), .int .i64 (nonce : Int), h.val, .int .i64 seen] w fun e w' => e = .returned (.tuple #[(Stm.mk h seen (gpw p 4 (key : Int)) (signR p nonce) (signS p key nonce (wtextF h seen))).val, .int .i64 0]) ∧ Below w.heap.size w w' := by
  obtain ⟨h3, h30, -⟩ := rsafe_bd hsp
  have hl := wtextF_len hI hsn
  have k1 : ∀ V, Calls Tryz.prog 16 #[h.val, .int .i64 seen] V fun e w' => e = .returned (.string ⟨(wtextF h seen).toArray⟩) ∧ Below V.heap.size V w' := fun V => rwtext_walk h seen V hI hsn
  have k2 : ∀ V, Calls Tryz.prog 32 #[.int .i64 (p : Int), .int .i64 (key : Int), .int .i64 (nonce : Int), .string ⟨(wtextF h seen).toArray⟩] V fun e w' => e = .returned (.tuple #[.agg #[.int .i64 (signR p nonce : Int), .int .i64 (signS p key nonce (wtextF h seen) : Int)], .int .i64 0]) ∧ Below V.heap.size V w' := fun V => rsign_yes p key nonce _ V hsp hky hkp hn hnp (by omega)
  have k3 : ∀ V, Calls Tryz.prog 33 #[.int .i64 (p : Int), .int .i64 (key : Int)] V fun e w' => e = .returned (.int .i64 (gpw p 4 (key : Int) : Int)) ∧ Below V.heap.size V w' := fun V => (rPublic_walk p key V (by omega) (by omega)).mono fun _ _ ⟨a, b⟩ => ⟨a, b ▸ Below.refl _ _⟩
  generalize signS p key nonce (wtextF h seen) = S at *
  generalize signR p nonce = R at *
  generalize gpw p 4 (key : Int) = pub at *
  generalize wtextF h seen = tx at *
  obtain ⟨n, l, r, t⟩ := h
  dsimp only [Head.val] at hs k1 ⊢
  have K1 := Lib.hid k1
  have K2 := Lib.hid k2
  have K3 := Lib.hid k3
  have hb0 := ((Below.refl w.heap.size w).alloc (Nat.le_refl _) (headB ⟨n, l, r, t⟩)).alloc (by simp) zeroB
  have hk := Bx.new (w.alloc (headB ⟨n, l, r, t⟩)) 28 Stm.zero.cells
  have hH := (Bx.new w 24 [.int .i64 n, .string ⟨l.toArray⟩, .string ⟨r.toArray⟩, .int .i64 t]).alloc zeroB
  rw [World.size_alloc] at hk
  clear k1 k2 k3 hI hsn hl hky hkp hn hnp hsp h3 h30
  go_enter Tryz.func12, Tryz.ntmps12
  go_wp2_with (go_at_call 16; (with_reducible refine (K1.out _).mono ?_))
  rintro e w1 ⟨rfl, hb1⟩
  replace hk := hk.keep hb1
  replace hH := hH.keep hb1
  replace hb0 := hb0.trans (hb1.mono hb0.size)
  clear hb1
  go_wp2_with (go_at_call 32; (with_reducible refine (K2.out _).mono ?_))
  rintro e w2 ⟨rfl, hb1⟩
  replace hk := hk.keep hb1
  replace hH := hH.keep hb1
  replace hb0 := hb0.trans (hb1.mono hb0.size)
  clear hb1
  obtain ⟨g, hg⟩ : ∃ g, g = w.heap.size + 1 := ⟨_, rfl⟩
  have hwg : w.heap.size ≤ g := by omega
  rw [← hg] at hk ⊢
  clear hg
  go_upto_region 6 with (fail)
  have hG := Bx.new w2 26 [.int .i64 (R : Int), .int .i64 (S : Int)]
  replace hk := hk.alloc (.cells #[.int .i64 (R : Int), .int .i64 (S : Int)] 26)
  replace hH := hH.alloc (.cells #[.int .i64 (R : Int), .int .i64 (S : Int)] 26)
  replace hb0 := hb0.alloc hb0.size (.cells #[.int .i64 (R : Int), .int .i64 (S : Int)] 26)
  change Bx (w2.alloc (.cells #[.int .i64 (R : Int), .int .i64 (S : Int)] 26)) _ _ _ at hG
  generalize w2.alloc (.cells #[.int .i64 (R : Int), .int .i64 (S : Int)] 26) = w3 at *
  generalize w2.heap.size = gS at *
  have c0 : w3.cell? ⟨g, 0, none⟩ = some (.int .i64 0) := hk.cell 0 rfl
  have c1 : w3.cell? ⟨g, 1, none⟩ = some (.string ⟨#[]⟩) := hk.cell 1 rfl
  have c2 : w3.cell? ⟨g, 2, none⟩ = some (.string ⟨#[]⟩) := hk.cell 2 rfl
  have c3 : w3.cell? ⟨g, 3, none⟩ = some (.int .i64 0) := hk.cell 3 rfl
  have c4 : w3.cell? ⟨g, 4, none⟩ = some (.int .i64 0) := hk.cell 4 rfl
  have c5 : w3.cell? ⟨g, 5, none⟩ = some (.int .i64 0) := hk.cell 5 rfl
  have c6 : w3.cell? ⟨g, 6, none⟩ = some (.int .i64 0) := hk.cell 6 rfl
  have c7 : w3.cell? ⟨g, 7, none⟩ = some (.int .i64 0) := hk.cell 7 rfl
  have f0 := hk.free 0
  have f1 := hk.free 1
  have f2 := hk.free 2
  have f3 := hk.free 3
  have f4 := hk.free 4
  have f5 := hk.free 5
  have f6 := hk.free 6
  have f7 := hk.free 7
  have d0 : w3.cell? ⟨w.heap.size, 0, none⟩ = some (.int .i64 n) := hH.cell 0 rfl
  have d1 : w3.cell? ⟨w.heap.size, 1, none⟩ = some (.string ⟨l.toArray⟩) := hH.cell 1 rfl
  have d2 : w3.cell? ⟨w.heap.size, 2, none⟩ = some (.string ⟨r.toArray⟩) := hH.cell 2 rfl
  have d3 : w3.cell? ⟨w.heap.size, 3, none⟩ = some (.int .i64 t) := hH.cell 3 rfl
  have e0 : w3.cell? ⟨gS, 0, none⟩ = some (.int .i64 (R : Int)) := hG.cell 0 rfl
  have e1 : w3.cell? ⟨gS, 1, none⟩ = some (.int .i64 (S : Int)) := hG.cell 1 rfl
  refine cut_last (fun KL hKL => ?_)
  go_cut [11] (fun e wr => e = .int .i64 0 ∧ Bx wr g 28 (Stm.cells ⟨⟨n, l, r, t⟩, seen, (pub : Int), (R : Int), (S : Int)⟩) ∧ Below w.heap.size w wr)
  case first =>
    go_region_with ((go_at_call 33; ((with_reducible refine (K3.out _).mono ?_)); rintro e w4 ⟨rfl, hb4⟩; have hk4 := hk.drew.keep hb4; have hH4 := hH.drew.keep hb4; have hG4 := hG.drew.keep hb4; have hb5 := hb0.drew.trans (hb4.mono hb0.size); have c04 : w4.cell? ⟨g, 0, none⟩ = some (.int .i64 0) := hk4.cell 0 rfl; have c14 : w4.cell? ⟨g, 1, none⟩ = some (.string ⟨#[]⟩) := hk4.cell 1 rfl; have c24 : w4.cell? ⟨g, 2, none⟩ = some (.string ⟨#[]⟩) := hk4.cell 2 rfl; have c34 : w4.cell? ⟨g, 3, none⟩ = some (.int .i64 0) := hk4.cell 3 rfl; have c44 : w4.cell? ⟨g, 4, none⟩ = some (.int .i64 0) := hk4.cell 4 rfl; have c54 : w4.cell? ⟨g, 5, none⟩ = some (.int .i64 0) := hk4.cell 5 rfl; have c64 : w4.cell? ⟨g, 6, none⟩ = some (.int .i64 0) := hk4.cell 6 rfl; have c74 : w4.cell? ⟨g, 7, none⟩ = some (.int .i64 0) := hk4.cell 7 rfl; have f04 := hk4.free 0; have f14 := hk4.free 1; have f24 := hk4.free 2; have f34 := hk4.free 3; have f44 := hk4.free 4; have f54 := hk4.free 5; have f64 := hk4.free 6; have f74 := hk4.free 7; have d04 : w4.cell? ⟨w.heap.size, 0, none⟩ = some (.int .i64 n) := hH4.cell 0 rfl; have d14 : w4.cell? ⟨w.heap.size, 1, none⟩ = some (.string ⟨l.toArray⟩) := hH4.cell 1 rfl; have d24 : w4.cell? ⟨w.heap.size, 2, none⟩ = some (.string ⟨r.toArray⟩) := hH4.cell 2 rfl; have d34 : w4.cell? ⟨w.heap.size, 3, none⟩ = some (.int .i64 t) := hH4.cell 3 rfl; have e04 : w4.cell? ⟨gS, 0, none⟩ = some (.int .i64 (R : Int)) := hG4.cell 0 rfl; have e14 : w4.cell? ⟨gS, 1, none⟩ = some (.int .i64 (S : Int)) := hG4.cell 1 rfl))
    all_goals (go_wp2_with fail; go_meet)
    all_goals
      case rel => exact ⟨rfl, hk4.setStm (y := Stm.zero) ⟨⟨n, l, r, t⟩, seen, (pub : Int), (R : Int), (S : Int)⟩, below8 hb5 hwg _ _ _ _ _ _ _ _⟩
  case rest =>
    obtain ⟨rfl, hX, hb9⟩ := hcut
    refine hKL.out _ _ ?_
    go_wp2_with fail
    exact bodyPost_ret (Bx.stm (x := ⟨⟨n, l, r, t⟩, seen, (pub : Int), (R : Int), (S : Int)⟩) (t := 10) (u := 11) rfl _ rfl hX) rfl ⟨rfl, hb9⟩
end Go.Proofs.YtipoljcgfcjlnaaGreatDoor
/- When no stamp is made, as the reference finds it. -/
namespace Go.Proofs.YtipoljcgfcjlnaaGreatDoor
open Go.RowKit
set_option maxRecDepth 100000 in
set_option maxHeartbeats 1000000 in
theorem rwstamp_late (p key nonce : Int) (h : Head) (seen : Int) (w : World) (hs : seen < h.time) :
    Calls Tryz.prog 12 #[.int .i64 p, .int .i64 key, .int .i64 nonce, h.val, .int .i64 seen] w fun e w' => e = .returned (.tuple #[Stm.zero.val, .int .i64 16]) ∧ Below w.heap.size w w' := by
  obtain ⟨n, l, r, t⟩ := h
  dsimp only at hs ⊢
  have hb0 := ((Below.refl w.heap.size w).alloc (Nat.le_refl _) (headB ⟨n, l, r, t⟩)).alloc (by simp) zeroB
  have hk := Bx.new (w.alloc (headB ⟨n, l, r, t⟩)) 28 Stm.zero.cells
  rw [World.size_alloc] at hk
  go_enter Tryz.func12, Tryz.ntmps12
  go_wp2
  exact bodyPost_ret (Bx.stm (x := Stm.zero) (t := 10) (u := 11) rfl _ rfl hk) rfl ⟨rfl, hb0⟩
set_option maxRecDepth 100000 in
set_option maxHeartbeats 2000000 in
theorem rwstamp_no (p key nonce : Int) (h : Head) (seen : Int) (w : World) (hI : h.In) (hsn : I64 seen) (hs : h.time ≤ seen) (hno : rsafe p = false ∨ key < 1 ∨ p ≤ key ∨ nonce < 1 ∨ p ≤ nonce) :
    Calls Tryz.prog 12 #[.int .i64 p, .int .i64 key, .int .i64 nonce, h.val, .int .i64 seen] w fun e w' => e = .returned (.tuple #[Stm.zero.val, .int .i64 2]) ∧ Below w.heap.size w w' := by
  have k1 : ∀ V, Calls Tryz.prog 16 #[h.val, .int .i64 seen] V fun e w' => e = .returned (.string ⟨(wtextF h seen).toArray⟩) ∧ Below V.heap.size V w' := fun V => rwtext_walk h seen V hI hsn
  have k2 : ∀ V, Calls Tryz.prog 32 #[.int .i64 p, .int .i64 key, .int .i64 nonce, .string ⟨(wtextF h seen).toArray⟩] V fun e w' => e = .returned (.tuple #[.agg #[.int .i64 0, .int .i64 0], .int .i64 2]) ∧ Below V.heap.size V w' := fun V => rsign_no p key nonce _ V hno
  generalize wtextF h seen = tx at *
  obtain ⟨n, l, r, t⟩ := h
  dsimp only [Head.val] at hs k1 ⊢
  have K1 := Lib.hid k1
  have K2 := Lib.hid k2
  have hb0 := ((Below.refl w.heap.size w).alloc (Nat.le_refl _) (headB ⟨n, l, r, t⟩)).alloc (by simp) zeroB
  have hk := Bx.new (w.alloc (headB ⟨n, l, r, t⟩)) 28 Stm.zero.cells
  rw [World.size_alloc] at hk
  clear k1 k2 hno hI hsn
  go_enter Tryz.func12, Tryz.ntmps12
  go_wp2_with (go_at_call 16; (with_reducible refine (K1.out _).mono ?_))
  rintro e w1 ⟨rfl, hb1⟩
  replace hk := hk.keep hb1
  replace hb0 := hb0.trans (hb1.mono hb0.size)
  clear hb1
  go_wp2_with (go_at_call 32; (with_reducible refine (K2.out _).mono ?_))
  rintro e w2 ⟨rfl, hb1⟩
  replace hk := hk.keep hb1
  replace hb0 := hb0.trans (hb1.mono hb0.size)
  have hgw := hk.lt
  clear hb1
  obtain ⟨g, hg⟩ : ∃ g, g = w.heap.size + 1 := ⟨_, rfl⟩
  have hwg : w.heap.size ≤ g := by omega
  rw [← hg] at hk hgw ⊢
  clear hg
  go_upto_region 5 with (fail)
  replace hk := hk.alloc (.cells #[.int .i64 0, .int .i64 0] 26)
  replace hb0 := hb0.alloc hb0.size (.cells #[.int .i64 0, .int .i64 0] 26)
  clear hgw
  generalize w2.alloc (.cells #[.int .i64 0, .int .i64 0] 26) = w3 at *
  have c0 : w3.cell? ⟨g, 0, none⟩ = some (.int .i64 0) := hk.cell 0 rfl
  have c1 : w3.cell? ⟨g, 1, none⟩ = some (.string ⟨#[]⟩) := hk.cell 1 rfl
  have c2 : w3.cell? ⟨g, 2, none⟩ = some (.string ⟨#[]⟩) := hk.cell 2 rfl
  have c3 : w3.cell? ⟨g, 3, none⟩ = some (.int .i64 0) := hk.cell 3 rfl
  have c4 : w3.cell? ⟨g, 4, none⟩ = some (.int .i64 0) := hk.cell 4 rfl
  have c5 : w3.cell? ⟨g, 5, none⟩ = some (.int .i64 0) := hk.cell 5 rfl
  have c6 : w3.cell? ⟨g, 6, none⟩ = some (.int .i64 0) := hk.cell 6 rfl
  have c7 : w3.cell? ⟨g, 7, none⟩ = some (.int .i64 0) := hk.cell 7 rfl
  have f0 := hk.free 0
  have f1 := hk.free 1
  have f2 := hk.free 2
  have f3 := hk.free 3
  have f4 := hk.free 4
  have f5 := hk.free 5
  have f6 := hk.free 6
  have f7 := hk.free 7
  go_wp2
  exact bodyPost_ret (Bx.stm (x := Stm.zero) (t := 10) (u := 11) rfl _ rfl (hk.setStm (y := Stm.zero) Stm.zero)) rfl ⟨rfl, below8 hb0 hwg _ _ _ _ _ _ _ _⟩
end Go.Proofs.YtipoljcgfcjlnaaGreatDoor
