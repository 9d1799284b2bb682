/- Rings of keys: the reference's: how one is made. -/
import Derived.Test.YtbjpmkoiabkcbaaGreatDoorGRateRD
import Derived.Test.YtbjpmkoiabkcbaaGreatDoorGRateH
import Derived.Test.YtbjpmkoiabkcbaaGreatDoorGRateP
namespace Go.Proofs.YtbjpmkoiabkcbaaGreatDoor
open Go.RowKit
theorem sum_zeros (n : Nat) : (List.replicate n (0 : Int)).sum = 0 := by
  induction n with
  | zero => rfl
  | succ n ih => rw [List.replicate_succ, List.sum_cons, ih]; rfl
set_option maxRecDepth 100000 in
set_option maxHeartbeats 8000000 in
theorem rrprove_walk (p : Nat) (a : Option Addr) (keys : List Int) (cap : Nat) (me secret : Int) (text : List UInt8) (ra : Option Addr) (rnd : List Int) (rc : Nat) (w : World) (hs : rsafe (p : Int) = true)
    (hR : Rd w a (ints keys)) (hl : keys.length ≤ 281474976710656) (hRR : Rd w ra (ints rnd)) (hrl : rnd.length ≤ 281474976710656) (ht : text.length ≤ 1000000) :
    Calls Tryz.prog 12 #[.int .i64 (p : Int), .slice a keys.length cap, .int .i64 me, .int .i64 secret, .string ⟨text.toArray⟩, .slice ra rnd.length rc] w (RingRes w (proveF p keys me secret text rnd).1.1 (proveF p keys me secret text rnd).1.2 (proveF p keys me secret text rnd).2) := by
  obtain ⟨h3, h30, -⟩ := rsafe_bd hs
  have KA := Lib.hid (fun V hV => knows_walk p a keys cap me secret V hs hV hl)
  have KE := Lib.hid (fun V hV => relements_walk p ra rnd rc V hs hV hrl)
  clear hs
  obtain ⟨gr, hgr⟩ : ∃ g, g = w.heap.size := ⟨_, rfl⟩
  have hb0 := (Below.refl w.heap.size w).alloc (Nat.le_refl _) (.cells #[.slice none 0 0, .slice none 0 0] 24)
  have hG := Bx.new w 24 [.slice none 0 0, .slice none 0 0]
  rw [← hgr] at hG
  have HGB := Lib.hid hgr
  have hgw : w.heap.size = gr := hgr.symm
  clear hgr
  change Bx (w.alloc (.cells #[.slice none 0 0, .slice none 0 0] 24)) _ _ _ at hG
  obtain ⟨ae, hae⟩ : ∃ e, e = allowF p keys me secret := ⟨_, rfl⟩
  rw [← hae] at KA
  go_enter Tryz.func12, Tryz.ntmps12
  go_upto_region 1 with (fail)
  generalize w.alloc (.cells #[.slice none 0 0, .slice none 0 0] 24) = w0 at *
  clear hgw
  have hRw := hR.keep hb0
  go_wp2_with (go_at_call 33; (with_reducible refine (KA.out _ hRw).mono ?_))
  rintro e w1 ⟨rfl, hb1⟩
  replace hb0 := below_tr hb0 hb1
  replace hG := hG.keep hb1
  clear hb1 hRw KA
  have hgr : w.heap.size ≤ gr := Nat.le_of_eq HGB.out.symm
  by_cases hz : ae = 0
  rotate_left
  · have t1 : (ae != 0) = true := by rw [bne_iff_ne]; exact hz
    have HE := Lib.hid (show proveF p keys me secret text rnd = (([], []), ae) by rw [proveF, if_pos (by rw [← hae]; exact hz), hae])
    have g0 := hG.cell 0 (v := .slice none 0 0) rfl
    have g1 := hG.cell 1 (v := .slice none 0 0) rfl
    have f0 := hG.free 0
    have f1 := hG.free 1
    have hF : Bx ((w1.setCell ⟨gr, 0, none⟩ (.slice none 0 0)).setCell ⟨gr, 1, none⟩ (.slice none 0 0)) gr 24 [.slice none 0 0, .slice none 0 0] := (hG.set 0 (.slice none 0 0)).set 1 (.slice none 0 0)
    have hFB := (hb0.setCell (p := ⟨gr, 0, none⟩) hgr (.slice none 0 0)).setCell (p := ⟨gr, 1, none⟩) hgr (.slice none 0 0)
    clear hz hae hG hb0
    go_wp2_with fail
    refine bodyPost_ret (Ring.ret (t := 12) (u := 13) rfl _ rfl hF) rfl ?_
    rw [HE.out]
    exact ⟨none, 0, none, 0, rfl, Rd.nil _ _, Rd.nil _ _, Fresh.nil _, Fresh.nil _, hFB⟩
  have t1 : (ae != 0) = false := by rw [bne_eq_false_iff_eq]; exact hz
  obtain ⟨hko, ⟨hme0, hme1⟩, ⟨hsc0, hsc1⟩, -⟩ := allow_ok (hae.symm.trans hz)
  obtain ⟨⟨hn1, hn2⟩, hkey⟩ := keysOk_bd hko
  have HAE := Lib.hid (hae.symm.trans hz)
  have HKEY := Lib.hid hkey
  clear hz hae hko hkey
  obtain ⟨eb, heb⟩ : ∃ b, b = elsF p rnd := ⟨_, rfl⟩
  rw [← heb] at KE
  have HEB := Lib.hid heb
  clear heb
  have hRRw := hRR.keep hb0
  have hwn : IntKind.i64.wrap (2 * (keys.length : Int)) = 2 * (keys.length : Int) := by rw [IntKind.wrap_i64]; omega
  have hwn2 : IntKind.i64.wrap (2 * (keys.length : Int) - 1) = 2 * (keys.length : Int) - 1 := by rw [IntKind.wrap_i64]; omega
  have hG0 := hG
  by_cases hrn : rnd.length + 1 = 2 * keys.length ∧ eb = true
  rotate_left
  · have HE := Lib.hid (show proveF p keys me secret text rnd = (([], []), 1) by
      rw [proveF, if_neg (fun h => h HAE.out), if_pos]
      rintro ⟨h1, h2⟩
      exact hrn ⟨h1, HEB.out.trans h2⟩)
    have hor : ((rnd.length : Int) != 2 * (keys.length : Int) - 1) = true ∨ (((rnd.length : Int) != 2 * (keys.length : Int) - 1) = false ∧ eb = false) := by
      by_cases h : rnd.length + 1 = 2 * keys.length
      · refine .inr ⟨by rw [bne_eq_false_iff_eq]; omega, ?_⟩
        cases eb with
        | false => rfl
        | true => exact absurd ⟨h, rfl⟩ hrn
      · exact .inl (by rw [bne_iff_ne]; omega)
    clear hrn
    rcases hor with h5 | ⟨h5, rfl⟩
    · have g0 := hG.cell 0 (v := .slice none 0 0) rfl
      have g1 := hG.cell 1 (v := .slice none 0 0) rfl
      have f0 := hG.free 0
      have f1 := hG.free 1
      have hF : Bx ((w1.setCell ⟨gr, 0, none⟩ (.slice none 0 0)).setCell ⟨gr, 1, none⟩ (.slice none 0 0)) gr 24 [.slice none 0 0, .slice none 0 0] := (hG.set 0 (.slice none 0 0)).set 1 (.slice none 0 0)
      have hFB := (hb0.setCell (p := ⟨gr, 0, none⟩) hgr (.slice none 0 0)).setCell (p := ⟨gr, 1, none⟩) hgr (.slice none 0 0)
      clear hG hb0 hG0
      go_wp2_with fail
      refine bodyPost_ret (Ring.ret (t := 12) (u := 13) rfl _ rfl hF) rfl ?_
      rw [HE.out]
      exact ⟨none, 0, none, 0, rfl, Rd.nil _ _, Rd.nil _ _, Fresh.nil _, Fresh.nil _, hFB⟩
    · go_wp2_with (go_at_call 34; (with_reducible refine (KE.out _ hRRw).mono ?_))
      first | rintro e w2 rfl hb2 | rintro e w2 ⟨rfl, hb2⟩
      replace hb0 := below_tr hb0 hb2
      replace hG := hG.keep hb2
      have g0 := hG.cell 0 (v := .slice none 0 0) rfl
      have g1 := hG.cell 1 (v := .slice none 0 0) rfl
      have f0 := hG.free 0
      have f1 := hG.free 1
      have hF : Bx ((w2.setCell ⟨gr, 0, none⟩ (.slice none 0 0)).setCell ⟨gr, 1, none⟩ (.slice none 0 0)) gr 24 [.slice none 0 0, .slice none 0 0] := (hG.set 0 (.slice none 0 0)).set 1 (.slice none 0 0)
      have hFB := (hb0.setCell (p := ⟨gr, 0, none⟩) hgr (.slice none 0 0)).setCell (p := ⟨gr, 1, none⟩) hgr (.slice none 0 0)
      clear hG hb0 hG0 hb2 KE
      go_wp2_with fail
      refine bodyPost_ret (Ring.ret (t := 12) (u := 13) rfl _ rfl hF) rfl ?_
      rw [HE.out]
      exact ⟨none, 0, none, 0, rfl, Rd.nil _ _, Rd.nil _ _, Fresh.nil _, Fresh.nil _, hFB⟩
  obtain ⟨hrn, rfl⟩ := hrn
  have h5 : ((rnd.length : Int) != 2 * (keys.length : Int) - 1) = false := by rw [bne_eq_false_iff_eq]; omega
  have HE := Lib.hid (show proveF p keys me secret text rnd = (((cL rnd me.toNat keys.length keys.length).set me.toNat (cMe p keys rnd me.toNat text), (zL rnd me.toNat keys.length keys.length).set me.toNat (zMe p keys rnd me.toNat secret text)), 0) by
    rw [proveF, if_neg (fun h => h HAE.out), if_neg (fun h => h ⟨hrn, HEB.out.symm⟩)])
  have HEL := Lib.hid (elsF_all HEB.out.symm)
  obtain ⟨j, rfl, hj⟩ : ∃ j : Nat, me = (j : Int) ∧ j < keys.length := ⟨me.toNat, by omega, by omega⟩
  rw [Int.toNat_natCast] at HE
  have hji : (j : Int) < (keys.length : Int) := by omega
  clear hG0 hme0 hme1
  go_wp2_with (go_at_call 34; (with_reducible refine (KE.out _ hRRw).mono ?_))
  first | rintro e w2 rfl hb2 | rintro e w2 ⟨rfl, hb2⟩
  replace hb0 := below_tr hb0 hb2
  replace hG := hG.keep hb2
  clear hRRw hb2 KE
  have hnew : ∀ V : World, Bx (V.alloc (.cells (ints (List.replicate keys.length 0)).toArray 3)) V.heap.size 3 (ints (List.replicate keys.length 0)) := fun V => Bx.new V _ _
  have mI : ∀ V, (Instr.makeSlice 22 (.int .i64 (keys.length : Int)) (.int .i64 (keys.length : Int))).run Tryz.prog V = .ok (.slice (some ⟨V.heap.size, 0, none⟩) keys.length keys.length) (V.alloc (.cells (ints (List.replicate keys.length 0)).toArray 3)) := fun V => by
    have h := mk_run V elI4 rfl .i64 keys.length (by omega)
    rw [mk_ints] at h
    exact h
  generalize (.cells (ints (List.replicate keys.length 0)).toArray 3 : Obj) = oz at hnew mI
  clear HAE
  go_upto_region 6 with (fail)
  go_cut [15] (fun v wx => ∃ go gC gZ : Nat, v = .pointer (some ⟨go, 0, none⟩) ∧ Bx wx gr 24 [.slice none 0 0, .slice none 0 0] ∧ Bx wx go 24 [.slice (some ⟨gC, 0, none⟩) keys.length keys.length, .slice (some ⟨gZ, 0, none⟩) keys.length keys.length] ∧ Bx wx gC 3 (ints (List.replicate keys.length 0)) ∧ Bx wx gZ 3 (ints (List.replicate keys.length 0)) ∧ Below w.heap.size w wx ∧ gr < go ∧ gr < gC ∧ gr < gZ ∧ gC ≠ go ∧ gZ ≠ go ∧ gC ≠ gZ)
  case first =>
    --R6
    refine wp_region_held_last' (S := fun _ => True) 8 rfl (by kernel_rfl) (by kernel_rfl) (by kernel_rfl) trivial (fun hHeld => ?_)
    dsimp only [List.dropLast, List.replicate] at hHeld ⊢
    refine held_take (0) (v := ?_) rfl (by kernel_rfl) (by kernel_rfl) (by kernel_rfl) (fun _ _ _ h => h) (Or.inl ⟨by rfl, ?_⟩) (by assumption) ?_
    rotate_left
    · intro w hSw
      try dsimp only at hSw
      go_simp
      with_reducible rfl
    try simp only [Act.put, List.setIfInBounds_toArray, List.set_cons_zero, List.set_cons_succ]
    refine held_take (1) (v := ?_) rfl (by kernel_rfl) (by kernel_rfl) (by kernel_rfl) (fun _ _ _ h => h) (Or.inl ⟨by rfl, ?_⟩) (by assumption) ?_
    rotate_left
    · intro w hSw
      try dsimp only at hSw
      go_simp
      with_reducible rfl
    try simp only [Act.put, List.setIfInBounds_toArray, List.set_cons_zero, List.set_cons_succ]
    refine held_take (3) (v := ?_) rfl (by kernel_rfl) (by kernel_rfl) (by kernel_rfl) (fun _ _ _ h => h) (Or.inl ⟨by rfl, ?_⟩) (by assumption) ?_
    rotate_left
    · intro w hSw
      try dsimp only at hSw
      go_simp
      with_reducible rfl
    try simp only [Act.put, List.setIfInBounds_toArray, List.set_cons_zero, List.set_cons_succ]
    refine held_take (4) (v := ?_) rfl (by kernel_rfl) (by kernel_rfl) (by kernel_rfl) (fun _ _ _ h => h) (Or.inl ⟨by rfl, ?_⟩) (by assumption) ?_
    rotate_left
    · intro w hSw
      try dsimp only at hSw
      go_simp
      with_reducible rfl
    try simp only [Act.put, List.setIfInBounds_toArray, List.set_cons_zero, List.set_cons_succ]
    refine wpAnyH_ready (rs := [2, 5, 7]) (by kernel_rfl) (by simp) ?_
    refine held_cons rfl (fun K hK => ?_) ?_
    · skip
      go_simp
      have hbL : Below w2.heap.size w2 ((w2.alloc oz).drew) := ((Below.refl _ _).alloc (Nat.le_refl _) oz).drew
      have hC : Bx ((w2.alloc oz).drew) w2.heap.size 3 (ints (List.replicate keys.length 0)) := (hnew w2).drew
      have lhC : gr < w2.heap.size := hG.lt
      replace hG := hG.keep hbL
      replace hb0 := below_tr hb0 hbL
      clear hbL
      generalize w2.heap.size = gC at *
      generalize (w2.alloc oz).drew = wL at *
      refine hK.out _ _ trivial (fun hHeld => ?_)
      clear hK K
      try simp only [Act.put, List.setIfInBounds_toArray, List.set_cons_zero, List.set_cons_succ]
      refine wpAnyH_ready (rs := [5, 7]) (by kernel_rfl) (by simp) ?_
      refine held_cons rfl (fun K hK => ?_) ?_
      · skip
        go_simp
        have hbL : Below wL.heap.size wL (wL.alloc oz) := ((Below.refl _ _).alloc (Nat.le_refl _) oz)
        have hZ : Bx (wL.alloc oz) wL.heap.size 3 (ints (List.replicate keys.length 0)) := hnew wL
        have lhZ : gr < wL.heap.size := hG.lt
        have lhZhC := hC.lt
        replace hG := hG.keep hbL
        replace hb0 := below_tr hb0 hbL
        replace hC := hC.keep hbL
        clear hbL
        generalize wL.heap.size = gZ at *
        generalize wL.alloc oz = wL at *
        refine hK.out _ _ trivial (fun hHeld => ?_)
        clear hK K
        try simp only [Act.put, List.setIfInBounds_toArray, List.set_cons_zero, List.set_cons_succ]
        refine held_take (6) (v := ?_) rfl (by kernel_rfl) (by kernel_rfl) (by kernel_rfl) (fun _ _ _ h => h) (Or.inl ⟨by rfl, ?_⟩) (by assumption) ?_
        rotate_left
        · intro w hSw
          try dsimp only at hSw
          go_simp
          with_reducible rfl
        try simp only [Act.put, List.setIfInBounds_toArray, List.set_cons_zero, List.set_cons_succ]
        refine wpAnyH_ready (rs := [7]) (by kernel_rfl) (by simp) ?_
        refine held_cons rfl (fun K hK => ?_) AllReadyH.nil
        go_simp
        have hbL : Below wL.heap.size wL (wL.alloc (.cells #[.slice none 0 0, .slice none 0 0] 24)) := ((Below.refl _ _).alloc (Nat.le_refl _) (.cells #[.slice none 0 0, .slice none 0 0] 24))
        have hO : Bx (wL.alloc (.cells #[.slice none 0 0, .slice none 0 0] 24)) wL.heap.size 24 [.slice none 0 0, .slice none 0 0] := Bx.new wL 24 [.slice none 0 0, .slice none 0 0]
        have lhO : gr < wL.heap.size := hG.lt
        have lhOhC := hC.lt
        have lhOhZ := hZ.lt
        replace hG := hG.keep hbL
        replace hb0 := below_tr hb0 hbL
        replace hC := hC.keep hbL
        replace hZ := hZ.keep hbL
        clear hbL
        generalize wL.heap.size = go at *
        generalize wL.alloc (.cells #[.slice none 0 0, .slice none 0 0] 24) = wL at *
        refine hK.out _ _ trivial (fun hHeld => ?_)
        clear hK K
        try simp only [Act.put, List.setIfInBounds_toArray, List.set_cons_zero, List.set_cons_succ]
        refine wpAnyH_done (by kernel_rfl) ?_ _
        dsimp only [Behind]
        have z0 := hO.free 0
        have z1 := hO.free 1
        have y0 := hO.cell 0 (v := .slice none 0 0) rfl
        have y1 := hO.cell 1 (v := .slice none 0 0) rfl
        go_simp
        go_wp2_with fail
        go_meet
        case rel =>
          refine ⟨go, gC, gZ, rfl, (hG.other (by omega) 0 _).other (by omega) 1 _, (hO.set 0 _).set 1 _, (hC.other (by omega) 0 _).other (by omega) 1 _, (hZ.other (by omega) 0 _).other (by omega) 1 _, (hb0.setCell (p := ⟨go, 0, none⟩) (by dsimp only; omega) _).setCell (p := ⟨go, 1, none⟩) (by dsimp only; omega) _, by omega, by omega, by omega, by omega, by omega, by omega⟩
      · refine held_cons rfl (fun K hK => ?_) AllReadyH.nil
        go_simp
        have hbL : Below wL.heap.size wL (wL.alloc (.cells #[.slice none 0 0, .slice none 0 0] 24)) := ((Below.refl _ _).alloc (Nat.le_refl _) (.cells #[.slice none 0 0, .slice none 0 0] 24))
        have hO : Bx (wL.alloc (.cells #[.slice none 0 0, .slice none 0 0] 24)) wL.heap.size 24 [.slice none 0 0, .slice none 0 0] := Bx.new wL 24 [.slice none 0 0, .slice none 0 0]
        have lhO : gr < wL.heap.size := hG.lt
        have lhOhC := hC.lt
        replace hG := hG.keep hbL
        replace hb0 := below_tr hb0 hbL
        replace hC := hC.keep hbL
        clear hbL
        generalize wL.heap.size = go at *
        generalize wL.alloc (.cells #[.slice none 0 0, .slice none 0 0] 24) = wL at *
        refine hK.out _ _ trivial (fun hHeld => ?_)
        clear hK K
        try simp only [Act.put, List.setIfInBounds_toArray, List.set_cons_zero, List.set_cons_succ]
        refine wpAnyH_ready (rs := [5]) (by kernel_rfl) (by simp) ?_
        refine held_cons rfl (fun K hK => ?_) AllReadyH.nil
        go_simp
        have hbL : Below wL.heap.size wL (wL.alloc oz) := ((Below.refl _ _).alloc (Nat.le_refl _) oz)
        have hZ : Bx (wL.alloc oz) wL.heap.size 3 (ints (List.replicate keys.length 0)) := hnew wL
        have lhZ : gr < wL.heap.size := hG.lt
        have lhZhC := hC.lt
        have lhZhO := hO.lt
        replace hG := hG.keep hbL
        replace hb0 := below_tr hb0 hbL
        replace hC := hC.keep hbL
        replace hO := hO.keep hbL
        clear hbL
        generalize wL.heap.size = gZ at *
        generalize wL.alloc oz = wL at *
        refine hK.out _ _ trivial (fun hHeld => ?_)
        clear hK K
        try simp only [Act.put, List.setIfInBounds_toArray, List.set_cons_zero, List.set_cons_succ]
        refine held_take (6) (v := ?_) rfl (by kernel_rfl) (by kernel_rfl) (by kernel_rfl) (fun _ _ _ h => h) (Or.inl ⟨by rfl, ?_⟩) (by assumption) ?_
        rotate_left
        · intro w hSw
          try dsimp only at hSw
          go_simp
          with_reducible rfl
        try simp only [Act.put, List.setIfInBounds_toArray, List.set_cons_zero, List.set_cons_succ]
        refine wpAnyH_done (by kernel_rfl) ?_ _
        dsimp only [Behind]
        have z0 := hO.free 0
        have z1 := hO.free 1
        have y0 := hO.cell 0 (v := .slice none 0 0) rfl
        have y1 := hO.cell 1 (v := .slice none 0 0) rfl
        go_simp
        go_wp2_with fail
        go_meet
        case rel =>
          refine ⟨go, gC, gZ, rfl, (hG.other (by omega) 0 _).other (by omega) 1 _, (hO.set 0 _).set 1 _, (hC.other (by omega) 0 _).other (by omega) 1 _, (hZ.other (by omega) 0 _).other (by omega) 1 _, (hb0.setCell (p := ⟨go, 0, none⟩) (by dsimp only; omega) _).setCell (p := ⟨go, 1, none⟩) (by dsimp only; omega) _, by omega, by omega, by omega, by omega, by omega, by omega⟩
    refine held_cons rfl (fun K hK => ?_) ?_
    · skip
      go_simp
      have hbL : Below w2.heap.size w2 ((w2.alloc oz).drew) := ((Below.refl _ _).alloc (Nat.le_refl _) oz).drew
      have hZ : Bx ((w2.alloc oz).drew) w2.heap.size 3 (ints (List.replicate keys.length 0)) := (hnew w2).drew
      have lhZ : gr < w2.heap.size := hG.lt
      replace hG := hG.keep hbL
      replace hb0 := below_tr hb0 hbL
      clear hbL
      generalize w2.heap.size = gZ at *
      generalize (w2.alloc oz).drew = wL at *
      refine hK.out _ _ trivial (fun hHeld => ?_)
      clear hK K
      try simp only [Act.put, List.setIfInBounds_toArray, List.set_cons_zero, List.set_cons_succ]
      refine wpAnyH_ready (rs := [2, 7]) (by kernel_rfl) (by simp) ?_
      refine held_cons rfl (fun K hK => ?_) ?_
      · skip
        go_simp
        have hbL : Below wL.heap.size wL (wL.alloc oz) := ((Below.refl _ _).alloc (Nat.le_refl _) oz)
        have hC : Bx (wL.alloc oz) wL.heap.size 3 (ints (List.replicate keys.length 0)) := hnew wL
        have lhC : gr < wL.heap.size := hG.lt
        have lhChZ := hZ.lt
        replace hG := hG.keep hbL
        replace hb0 := below_tr hb0 hbL
        replace hZ := hZ.keep hbL
        clear hbL
        generalize wL.heap.size = gC at *
        generalize wL.alloc oz = wL at *
        refine hK.out _ _ trivial (fun hHeld => ?_)
        clear hK K
        try simp only [Act.put, List.setIfInBounds_toArray, List.set_cons_zero, List.set_cons_succ]
        refine held_take (6) (v := ?_) rfl (by kernel_rfl) (by kernel_rfl) (by kernel_rfl) (fun _ _ _ h => h) (Or.inl ⟨by rfl, ?_⟩) (by assumption) ?_
        rotate_left
        · intro w hSw
          try dsimp only at hSw
          go_simp
          with_reducible rfl
        try simp only [Act.put, List.setIfInBounds_toArray, List.set_cons_zero, List.set_cons_succ]
        refine wpAnyH_ready (rs := [7]) (by kernel_rfl) (by simp) ?_
        refine held_cons rfl (fun K hK => ?_) AllReadyH.nil
        go_simp
        have hbL : Below wL.heap.size wL (wL.alloc (.cells #[.slice none 0 0, .slice none 0 0] 24)) := ((Below.refl _ _).alloc (Nat.le_refl _) (.cells #[.slice none 0 0, .slice none 0 0] 24))
        have hO : Bx (wL.alloc (.cells #[.slice none 0 0, .slice none 0 0] 24)) wL.heap.size 24 [.slice none 0 0, .slice none 0 0] := Bx.new wL 24 [.slice none 0 0, .slice none 0 0]
        have lhO : gr < wL.heap.size := hG.lt
        have lhOhZ := hZ.lt
        have lhOhC := hC.lt
        replace hG := hG.keep hbL
        replace hb0 := below_tr hb0 hbL
        replace hZ := hZ.keep hbL
        replace hC := hC.keep hbL
        clear hbL
        generalize wL.heap.size = go at *
        generalize wL.alloc (.cells #[.slice none 0 0, .slice none 0 0] 24) = wL at *
        refine hK.out _ _ trivial (fun hHeld => ?_)
        clear hK K
        try simp only [Act.put, List.setIfInBounds_toArray, List.set_cons_zero, List.set_cons_succ]
        refine wpAnyH_done (by kernel_rfl) ?_ _
        dsimp only [Behind]
        have z0 := hO.free 0
        have z1 := hO.free 1
        have y0 := hO.cell 0 (v := .slice none 0 0) rfl
        have y1 := hO.cell 1 (v := .slice none 0 0) rfl
        go_simp
        go_wp2_with fail
        go_meet
        case rel =>
          refine ⟨go, gC, gZ, rfl, (hG.other (by omega) 0 _).other (by omega) 1 _, (hO.set 0 _).set 1 _, (hC.other (by omega) 0 _).other (by omega) 1 _, (hZ.other (by omega) 0 _).other (by omega) 1 _, (hb0.setCell (p := ⟨go, 0, none⟩) (by dsimp only; omega) _).setCell (p := ⟨go, 1, none⟩) (by dsimp only; omega) _, by omega, by omega, by omega, by omega, by omega, by omega⟩
      · refine held_cons rfl (fun K hK => ?_) AllReadyH.nil
        go_simp
        have hbL : Below wL.heap.size wL (wL.alloc (.cells #[.slice none 0 0, .slice none 0 0] 24)) := ((Below.refl _ _).alloc (Nat.le_refl _) (.cells #[.slice none 0 0, .slice none 0 0] 24))
        have hO : Bx (wL.alloc (.cells #[.slice none 0 0, .slice none 0 0] 24)) wL.heap.size 24 [.slice none 0 0, .slice none 0 0] := Bx.new wL 24 [.slice none 0 0, .slice none 0 0]
        have lhO : gr < wL.heap.size := hG.lt
        have lhOhZ := hZ.lt
        replace hG := hG.keep hbL
        replace hb0 := below_tr hb0 hbL
        replace hZ := hZ.keep hbL
        clear hbL
        generalize wL.heap.size = go at *
        generalize wL.alloc (.cells #[.slice none 0 0, .slice none 0 0] 24) = wL at *
        refine hK.out _ _ trivial (fun hHeld => ?_)
        clear hK K
        try simp only [Act.put, List.setIfInBounds_toArray, List.set_cons_zero, List.set_cons_succ]
        refine wpAnyH_ready (rs := [2]) (by kernel_rfl) (by simp) ?_
        refine held_cons rfl (fun K hK => ?_) AllReadyH.nil
        go_simp
        have hbL : Below wL.heap.size wL (wL.alloc oz) := ((Below.refl _ _).alloc (Nat.le_refl _) oz)
        have hC : Bx (wL.alloc oz) wL.heap.size 3 (ints (List.replicate keys.length 0)) := hnew wL
        have lhC : gr < wL.heap.size := hG.lt
        have lhChZ := hZ.lt
        have lhChO := hO.lt
        replace hG := hG.keep hbL
        replace hb0 := below_tr hb0 hbL
        replace hZ := hZ.keep hbL
        replace hO := hO.keep hbL
        clear hbL
        generalize wL.heap.size = gC at *
        generalize wL.alloc oz = wL at *
        refine hK.out _ _ trivial (fun hHeld => ?_)
        clear hK K
        try simp only [Act.put, List.setIfInBounds_toArray, List.set_cons_zero, List.set_cons_succ]
        refine held_take (6) (v := ?_) rfl (by kernel_rfl) (by kernel_rfl) (by kernel_rfl) (fun _ _ _ h => h) (Or.inl ⟨by rfl, ?_⟩) (by assumption) ?_
        rotate_left
        · intro w hSw
          try dsimp only at hSw
          go_simp
          with_reducible rfl
        try simp only [Act.put, List.setIfInBounds_toArray, List.set_cons_zero, List.set_cons_succ]
        refine wpAnyH_done (by kernel_rfl) ?_ _
        dsimp only [Behind]
        have z0 := hO.free 0
        have z1 := hO.free 1
        have y0 := hO.cell 0 (v := .slice none 0 0) rfl
        have y1 := hO.cell 1 (v := .slice none 0 0) rfl
        go_simp
        go_wp2_with fail
        go_meet
        case rel =>
          refine ⟨go, gC, gZ, rfl, (hG.other (by omega) 0 _).other (by omega) 1 _, (hO.set 0 _).set 1 _, (hC.other (by omega) 0 _).other (by omega) 1 _, (hZ.other (by omega) 0 _).other (by omega) 1 _, (hb0.setCell (p := ⟨go, 0, none⟩) (by dsimp only; omega) _).setCell (p := ⟨go, 1, none⟩) (by dsimp only; omega) _, by omega, by omega, by omega, by omega, by omega, by omega⟩
    · refine held_cons rfl (fun K hK => ?_) AllReadyH.nil
      go_simp
      have hbL : Below w2.heap.size w2 ((w2.alloc (.cells #[.slice none 0 0, .slice none 0 0] 24)).drew) := ((Below.refl _ _).alloc (Nat.le_refl _) (.cells #[.slice none 0 0, .slice none 0 0] 24)).drew
      have hO : Bx ((w2.alloc (.cells #[.slice none 0 0, .slice none 0 0] 24)).drew) w2.heap.size 24 [.slice none 0 0, .slice none 0 0] := (Bx.new w2 24 [.slice none 0 0, .slice none 0 0]).drew
      have lhO : gr < w2.heap.size := hG.lt
      replace hG := hG.keep hbL
      replace hb0 := below_tr hb0 hbL
      clear hbL
      generalize w2.heap.size = go at *
      generalize (w2.alloc (.cells #[.slice none 0 0, .slice none 0 0] 24)).drew = wL at *
      refine hK.out _ _ trivial (fun hHeld => ?_)
      clear hK K
      try simp only [Act.put, List.setIfInBounds_toArray, List.set_cons_zero, List.set_cons_succ]
      refine wpAnyH_ready (rs := [2, 5]) (by kernel_rfl) (by simp) ?_
      refine held_cons rfl (fun K hK => ?_) ?_
      · skip
        go_simp
        have hbL : Below wL.heap.size wL (wL.alloc oz) := ((Below.refl _ _).alloc (Nat.le_refl _) oz)
        have hC : Bx (wL.alloc oz) wL.heap.size 3 (ints (List.replicate keys.length 0)) := hnew wL
        have lhC : gr < wL.heap.size := hG.lt
        have lhChO := hO.lt
        replace hG := hG.keep hbL
        replace hb0 := below_tr hb0 hbL
        replace hO := hO.keep hbL
        clear hbL
        generalize wL.heap.size = gC at *
        generalize wL.alloc oz = wL at *
        refine hK.out _ _ trivial (fun hHeld => ?_)
        clear hK K
        try simp only [Act.put, List.setIfInBounds_toArray, List.set_cons_zero, List.set_cons_succ]
        refine wpAnyH_ready (rs := [5]) (by kernel_rfl) (by simp) ?_
        refine held_cons rfl (fun K hK => ?_) AllReadyH.nil
        go_simp
        have hbL : Below wL.heap.size wL (wL.alloc oz) := ((Below.refl _ _).alloc (Nat.le_refl _) oz)
        have hZ : Bx (wL.alloc oz) wL.heap.size 3 (ints (List.replicate keys.length 0)) := hnew wL
        have lhZ : gr < wL.heap.size := hG.lt
        have lhZhC := hC.lt
        have lhZhO := hO.lt
        replace hG := hG.keep hbL
        replace hb0 := below_tr hb0 hbL
        replace hC := hC.keep hbL
        replace hO := hO.keep hbL
        clear hbL
        generalize wL.heap.size = gZ at *
        generalize wL.alloc oz = wL at *
        refine hK.out _ _ trivial (fun hHeld => ?_)
        clear hK K
        try simp only [Act.put, List.setIfInBounds_toArray, List.set_cons_zero, List.set_cons_succ]
        refine held_take (6) (v := ?_) rfl (by kernel_rfl) (by kernel_rfl) (by kernel_rfl) (fun _ _ _ h => h) (Or.inl ⟨by rfl, ?_⟩) (by assumption) ?_
        rotate_left
        · intro w hSw
          try dsimp only at hSw
          go_simp
          with_reducible rfl
        try simp only [Act.put, List.setIfInBounds_toArray, List.set_cons_zero, List.set_cons_succ]
        refine wpAnyH_done (by kernel_rfl) ?_ _
        dsimp only [Behind]
        have z0 := hO.free 0
        have z1 := hO.free 1
        have y0 := hO.cell 0 (v := .slice none 0 0) rfl
        have y1 := hO.cell 1 (v := .slice none 0 0) rfl
        go_simp
        go_wp2_with fail
        go_meet
        case rel =>
          refine ⟨go, gC, gZ, rfl, (hG.other (by omega) 0 _).other (by omega) 1 _, (hO.set 0 _).set 1 _, (hC.other (by omega) 0 _).other (by omega) 1 _, (hZ.other (by omega) 0 _).other (by omega) 1 _, (hb0.setCell (p := ⟨go, 0, none⟩) (by dsimp only; omega) _).setCell (p := ⟨go, 1, none⟩) (by dsimp only; omega) _, by omega, by omega, by omega, by omega, by omega, by omega⟩
      · refine held_cons rfl (fun K hK => ?_) AllReadyH.nil
        go_simp
        have hbL : Below wL.heap.size wL (wL.alloc oz) := ((Below.refl _ _).alloc (Nat.le_refl _) oz)
        have hZ : Bx (wL.alloc oz) wL.heap.size 3 (ints (List.replicate keys.length 0)) := hnew wL
        have lhZ : gr < wL.heap.size := hG.lt
        have lhZhO := hO.lt
        replace hG := hG.keep hbL
        replace hb0 := below_tr hb0 hbL
        replace hO := hO.keep hbL
        clear hbL
        generalize wL.heap.size = gZ at *
        generalize wL.alloc oz = wL at *
        refine hK.out _ _ trivial (fun hHeld => ?_)
        clear hK K
        try simp only [Act.put, List.setIfInBounds_toArray, List.set_cons_zero, List.set_cons_succ]
        refine wpAnyH_ready (rs := [2]) (by kernel_rfl) (by simp) ?_
        refine held_cons rfl (fun K hK => ?_) AllReadyH.nil
        go_simp
        have hbL : Below wL.heap.size wL (wL.alloc oz) := ((Below.refl _ _).alloc (Nat.le_refl _) oz)
        have hC : Bx (wL.alloc oz) wL.heap.size 3 (ints (List.replicate keys.length 0)) := hnew wL
        have lhC : gr < wL.heap.size := hG.lt
        have lhChZ := hZ.lt
        have lhChO := hO.lt
        replace hG := hG.keep hbL
        replace hb0 := below_tr hb0 hbL
        replace hZ := hZ.keep hbL
        replace hO := hO.keep hbL
        clear hbL
        generalize wL.heap.size = gC at *
        generalize wL.alloc oz = wL at *
        refine hK.out _ _ trivial (fun hHeld => ?_)
        clear hK K
        try simp only [Act.put, List.setIfInBounds_toArray, List.set_cons_zero, List.set_cons_succ]
        refine held_take (6) (v := ?_) rfl (by kernel_rfl) (by kernel_rfl) (by kernel_rfl) (fun _ _ _ h => h) (Or.inl ⟨by rfl, ?_⟩) (by assumption) ?_
        rotate_left
        · intro w hSw
          try dsimp only at hSw
          go_simp
          with_reducible rfl
        try simp only [Act.put, List.setIfInBounds_toArray, List.set_cons_zero, List.set_cons_succ]
        refine wpAnyH_done (by kernel_rfl) ?_ _
        dsimp only [Behind]
        have z0 := hO.free 0
        have z1 := hO.free 1
        have y0 := hO.cell 0 (v := .slice none 0 0) rfl
        have y1 := hO.cell 1 (v := .slice none 0 0) rfl
        go_simp
        go_wp2_with fail
        go_meet
        case rel =>
          refine ⟨go, gC, gZ, rfl, (hG.other (by omega) 0 _).other (by omega) 1 _, (hO.set 0 _).set 1 _, (hC.other (by omega) 0 _).other (by omega) 1 _, (hZ.other (by omega) 0 _).other (by omega) 1 _, (hb0.setCell (p := ⟨go, 0, none⟩) (by dsimp only; omega) _).setCell (p := ⟨go, 1, none⟩) (by dsimp only; omega) _, by omega, by omega, by omega, by omega, by omega, by omega⟩
    --/R6
  case rest =>
    obtain ⟨go, gC, gZ, rfl, hGr, hO, hC, hZ, hb3, l1, l2, l3, l4, l5, l6⟩ := hcut
    clear hG hb0
    have hA := hnew wc
    have hbL := (Below.refl wc.heap.size wc).alloc (Nat.le_refl _) oz
    have g1 := hGr.lt
    have g2 := hO.lt
    have g3 := hC.lt
    have g4 := hZ.lt
    have hP : Pv w (wc.alloc oz) gr go gC gZ wc.heap.size keys.length (cL rnd j keys.length 0) (zL rnd j keys.length 0) (aL p keys rnd j 0) := by
      rw [cL_zero, zL_zero, aL_zero]
      exact ⟨hGr.keep hbL, hO.keep hbL, hC.keep hbL, hZ.keep hbL, hA, below_tr hb3 hbL, ⟨by omega, l4, l6, by omega, by omega, l5, by omega, by omega, by omega⟩, ⟨by omega, by omega, by omega, by omega⟩⟩
    clear hGr hO hC hZ hb3 hA hbL l1 l2 l3 l4 l5 l6 g1 g2 g3 g4
    go_wp2_with fail
    generalize wc.alloc oz = w5 at *
    generalize wc.heap.size = gA at *
    clear hnew mI
    have hz0 : sumF (p : Int) (cL rnd j keys.length 0) = 0 := by rw [sumF_eq (by omega), cL_zero, sum_zeros]; simp
    have HZ0 := Lib.hid hz0
    clear hz0
    go_loopw [17, 18, 19] (fun v s i wr => ∃ (k m : Nat) (t : Int), k ≤ keys.length ∧ i = .int .i64 (k : Int) ∧ v = .int .i64 (m : Int) ∧ s = .int .i64 t ∧ Hid (t = sumF p (cL rnd j keys.length k)) ∧ 0 ≤ t ∧ t < p ∧ Hid (m = 1 + 2 * cntJ j k) ∧ Pv w wr gr go gC gZ gA keys.length (cL rnd j keys.length k) (zL rnd j keys.length k) (aL p keys rnd j k)) (fun _ _ i _ => keys.length - (intOf i).toNat)
    case atStart => exact ⟨0, 1, 0, by omega, rfl, rfl, rfl, Lib.hid HZ0.out.symm, by omega, by omega, Lib.hid (by simp [cntJ]), hP⟩
    case round =>
      clear hP
      obtain ⟨k, m, sm, hk, rfl, rfl, rfl, hsm, sm0, sm1, hm, hP⟩ := hrel
      by_cases hkt : k < keys.length
      · have hkl : (k : Int) < (keys.length : Int) := by omega
        by_cases hkj : k = j
        · subst hkj
          obtain ⟨g0, o0, rfl, hr0⟩ := rd_get hRR (k := 0) (by omega)
          have hc0 := hr0 _ (hRR.keep hP.b)
          rw [Nat.add_zero] at hc0
          have hrp : (0 : Int) < (rnd.length : Int) := by omega
          have K0 : Hid (∀ V, Calls Tryz.prog 6 #[.int .i64 (p : Int), .int .i64 (rnd.getD 0 0)] V fun r w' => r = .returned (.int .i64 ((gpw p 4 (rnd.getD 0 0) : Nat) : Int)) ∧ V = w') := Lib.hid (fun V => rPublic_walk p (rnd.getD 0 0) V (by omega) (by omega))
          have HAS := Lib.hid (aL_set (p := p) (keys := keys) (rnd := rnd) (me := k) (k := k) hkt)
          have HAF := Lib.hid (show aFn p keys rnd k (k + 1) k = ((gpw p 4 (rnd.getD 0 0) : Nat) : Int) by rw [aFn, if_pos (by omega), if_pos rfl])
          generalize rnd.getD 0 0 = r0 at *
          generalize gpw p 4 r0 = y at *
          go_wp2_with (go_at_call 6; (with_reducible refine (K0.out _).mono ?_))
          (first | rintro e w6 rfl rfl | rintro e w6 ⟨rfl, rfl⟩)
          have v1 := hP.a.cell k (v := .int .i64 ((aL p keys rnd k k).getD k 0)) (by rw [ints_get (by rw [aL_length]; exact hkt)])
          have v2 := hP.a.free k
          have hP2 := hP.setA k ((y : Nat) : Int)
          rw [← HAF.out, HAS.out, HAF.out, ← cL_me, ← zL_me] at hP2
          clear hP hc0
          go_wp2_with fail
          go_roundw
          case rel => exact ⟨k + 1, m, sm, by omega, by go_num, rfl, rfl, by rw [cL_me]; exact hsm, sm0, sm1, by rw [cntJ_me]; exact hm, hP2⟩
          case measure => simp [intOf]; omega
        · obtain ⟨gk, ok, ky, hka, -, hkx⟩ := (hR.keep hP.b).int (k := k) hkt
          have t5 : ((k : Int) == (j : Int)) = false := by rw [beq_eq_false_iff_ne]; omega
          have hcl := cntJ_lt hkj hkt hj
          have hmN : m + 2 ≤ rnd.length := by rw [hm.out]; omega
          obtain ⟨gp, op, rfl, hx0⟩ := rd_get hRR (k := m) (by omega)
          obtain ⟨gp', op', e', hz0⟩ := rd_get hRR (k := m + 1) (by omega)
          cases e'
          rw [show m = 1 + 2 * cntJ j k from hm.out] at hx0
          rw [show m + 1 = 2 + 2 * cntJ j k by rw [hm.out]; omega] at hz0
          have HXB := Lib.hid (getD_bd (p := (p : Int)) (by omega) HEL.out (1 + 2 * cntJ j k))
          have HZB := Lib.hid (getD_bd (p := (p : Int)) (by omega) HEL.out (2 + 2 * cntJ j k))
          have HCS := Lib.hid (cL_set (rnd := rnd) (n := keys.length) hkt hkj)
          have HZS := Lib.hid (zL_set (rnd := rnd) (n := keys.length) hkt hkj)
          have HAS := Lib.hid (aL_set (p := p) (keys := keys) (rnd := rnd) (me := j) (k := k) hkt)
          have hkyb := HKEY.out ky (mem_at hkx)
          obtain ⟨kn, hkn⟩ : ∃ q : Nat, ky = (q : Int) := ⟨ky.toNat, by omega⟩
          subst hkn
          have HAF := Lib.hid (show aFn p keys rnd j (k + 1) k = ((comF p kn (rnd.getD (1 + 2 * cntJ j k) 0) (rnd.getD (2 + 2 * cntJ j k) 0) : Nat) : Int) by
            rw [aFn, if_pos (by omega), if_neg hkj, pairI_cnt hkj, show (keys.getD k 0).toNat = kn by rw [List.getD, hkx.out]; simp])
          rw [pairI_cnt hkj] at HCS HZS
          obtain ⟨x, hx⟩ : ∃ x, x = rnd.getD (1 + 2 * cntJ j k) 0 := ⟨_, rfl⟩
          obtain ⟨z, hz⟩ : ∃ z, z = rnd.getD (2 + 2 * cntJ j k) 0 := ⟨_, rfl⟩
          rw [← hx] at hx0 HXB HCS HAF
          rw [← hz] at hz0 HZB HZS HAF
          have KC := Lib.hid (fun V => rcomm_walk p kn x z V (by omega) (by omega) (by omega) HXB.out.1 (by have := HXB.out.2; omega))
          obtain ⟨y, hy⟩ : ∃ y, y = comF p kn x z := ⟨_, rfl⟩
          rw [← hy] at KC HAF
          have HSG := Lib.hid (show (sm + x) % p = sumF p (cL rnd j keys.length (k + 1)) by
            have h1 := sum_set (cL rnd j keys.length k) k x (by rw [cL_length]; exact hkt)
            rw [HCS.out, cL_getD hkt, show cFn rnd j k k = 0 by rw [cFn, if_neg (by omega)]] at h1
            rw [hsm.out, sumF_eq (by omega), sumF_eq (by omega), Int.emod_add_emod, ← h1, Int.add_zero])
          have KAD := Lib.hid (fun V => radd_walk (p : Int) sm x V (by omega) h30 ⟨sm0, by omega⟩ ⟨HXB.out.1, by have := HXB.out.2; omega⟩)
          have sn0 := Int.emod_nonneg (sm + x) (show (p : Int) ≠ 0 by omega)
          have sn1 := Int.emod_lt_of_pos (sm + x) (show (0 : Int) < (p : Int) by omega)
          generalize (sm + x) % (p : Int) = sn at *
          have hx0' : ∀ V, Rd V (some ⟨gp, op, none⟩) (ints rnd) → V.cell? ⟨gp, op + m, none⟩ = some (.int .i64 x) := fun V h => by rw [hm.out]; exact hx0 V h
          have hz0' : ∀ V, Rd V (some ⟨gp, op, none⟩) (ints rnd) → V.cell? ⟨gp, op + (m + 1), none⟩ = some (.int .i64 z) := fun V h => by rw [show m + 1 = 2 + 2 * cntJ j k by rw [hm.out]; omega]; exact hz0 V h
          have HKY := Lib.hid (fun V (hb : Below w.heap.size w V) => (show V.cell? ⟨gk, ok + k, none⟩ = some (.int .i64 (kn : Int)) by
            obtain ⟨g', off', x', e, hc, hx'⟩ := (hR.keep hb).int (k := k) hkt
            rw [hka] at e
            cases e
            rw [← same_at hkx hx']; exact hc))
          have hmi : (m : Int) < (rnd.length : Int) := by omega
          have hmi2 : (m : Int) + 1 < (rnd.length : Int) := by omega
          have hm0 : (0 : Int) ≤ (m : Int) := by omega
          have hmb : (m : Int) ≤ 1000 := by omega
          have hmw : IntKind.i64.wrap ((m : Int) + 1) = (m : Int) + 1 := by rw [IntKind.wrap_i64]; omega
          have hmw0 : (0 : Int) ≤ (m : Int) + 1 := by omega
          have hmwn : ((m : Int) + 1).toNat = m + 1 := by omega
          have HSS := Lib.hid (fun V (hV : Bx V go 24 [.slice (some ⟨gC, 0, none⟩) keys.length keys.length, .slice (some ⟨gZ, 0, none⟩) keys.length keys.length]) (hb : Below w.heap.size w V) => (show V.cell? ⟨go, 0, none⟩ = some (.slice (some ⟨gC, 0, none⟩) keys.length keys.length) ∧ V.cell? ⟨go, 1, none⟩ = some (.slice (some ⟨gZ, 0, none⟩) keys.length keys.length) ∧ V.cell? ⟨gp, op + m, none⟩ = some (.int .i64 x) ∧ V.cell? ⟨gp, op + (m + 1), none⟩ = some (.int .i64 z) from
            ⟨hV.cell 0 rfl, hV.cell 1 rfl, hx0' V (hRR.keep hb), hz0' V (hRR.keep hb)⟩))
          have HM : Hid (m + 2 = 1 + 2 * cntJ j (k + 1)) := by show _ = _; rw [cntJ_other hkj, hm.out]; omega
          clear hx hz hy hkyb hkx hm hcl hx0 hz0 hx0' hz0' hkj hsm hmN
          subst hka
          have v1 := hP.c.cell k (v := .int .i64 ((cL rnd j keys.length k).getD k 0)) (by rw [ints_get (by rw [cL_length]; exact hkt)])
          have v2 := hP.c.free k
          have v3 := hP.z.cell k (v := .int .i64 ((zL rnd j keys.length k).getD k 0)) (by rw [ints_get (by rw [zL_length]; exact hkt)])
          have v4 := hP.z.free k
          have hP1 := hP.setC k x
          have hP2 := hP1.setZ k z
          rw [HCS.out, HZS.out] at hP2
          obtain ⟨n1, n2, n3, n4, n5, n6, n7, n8, n9⟩ := hP.ne
          go_upto_region 14 with (fail)
          --R14
          refine wp_region_held_last' (S := fun w' => w'.cell? ⟨go, 0, none⟩ = some (.slice (some ⟨gC, 0, none⟩) keys.length keys.length) ∧ w'.cell? ⟨go, 1, none⟩ = some (.slice (some ⟨gZ, 0, none⟩) keys.length keys.length) ∧ w'.cell? ⟨gp, op + m, none⟩ = some (.int .i64 x) ∧ w'.cell? ⟨gp, op + (m + 1), none⟩ = some (.int .i64 z)) 18 rfl (by kernel_rfl) (by kernel_rfl) (by kernel_rfl) (HSS.out _ hP.o.drew (below_tr hP.b (Below.refl _ _).drew)) (fun hHeld => ?_)
          dsimp only [List.dropLast, List.replicate] at hHeld ⊢
          refine held_take (0) (v := ?_) rfl (by kernel_rfl) (by kernel_rfl) (by kernel_rfl) (fun _ _ _ h => h) (Or.inl ⟨by rfl, ?_⟩) (by assumption) ?_
          rotate_left
          · intro w hSw
            try dsimp only at hSw
            go_simp
            with_reducible rfl
          try simp only [Act.put, List.setIfInBounds_toArray, List.set_cons_zero, List.set_cons_succ]
          refine held_take (1) (v := ?_) rfl (by kernel_rfl) (by kernel_rfl) (by kernel_rfl) (fun _ _ _ h => h) (Or.inl ⟨by rfl, ?_⟩) (by assumption) ?_
          rotate_left
          · intro w hSw
            try dsimp only at hSw
            go_simp
            with_reducible rfl
          try simp only [Act.put, List.setIfInBounds_toArray, List.set_cons_zero, List.set_cons_succ]
          refine held_take (2) (v := ?_) rfl (by kernel_rfl) (by kernel_rfl) (by kernel_rfl) (fun _ _ _ h => h) (Or.inl ⟨by rfl, ?_⟩) (by assumption) ?_
          rotate_left
          · intro w hSw
            try dsimp only at hSw
            go_simp
            with_reducible rfl
          try simp only [Act.put, List.setIfInBounds_toArray, List.set_cons_zero, List.set_cons_succ]
          refine held_take (3) (v := ?_) rfl (by kernel_rfl) (by kernel_rfl) (by kernel_rfl) (fun _ _ _ h => h) (Or.inl ⟨by rfl, ?_⟩) (by assumption) ?_
          rotate_left
          · intro w hSw
            try dsimp only at hSw
            go_simp
            with_reducible rfl
          try simp only [Act.put, List.setIfInBounds_toArray, List.set_cons_zero, List.set_cons_succ]
          refine held_take (4) (v := ?_) rfl (by kernel_rfl) (by kernel_rfl) (by kernel_rfl) (fun _ _ _ h => h) (Or.inl ⟨by rfl, ?_⟩) (by assumption) ?_
          rotate_left
          · intro w hSw
            try dsimp only at hSw
            go_simp
            with_reducible rfl
          try simp only [Act.put, List.setIfInBounds_toArray, List.set_cons_zero, List.set_cons_succ]
          refine held_take (5) (v := ?_) rfl (by kernel_rfl) (by kernel_rfl) (by kernel_rfl) (fun _ _ _ h => h) (Or.inl ⟨by rfl, ?_⟩) (by assumption) ?_
          rotate_left
          · intro w hSw
            try dsimp only at hSw
            go_simp
            with_reducible rfl
          try simp only [Act.put, List.setIfInBounds_toArray, List.set_cons_zero, List.set_cons_succ]
          refine held_take (6) (v := ?_) rfl (by kernel_rfl) (by kernel_rfl) (by kernel_rfl) (fun _ _ _ h => h) (Or.inl ⟨by rfl, ?_⟩) (by assumption) ?_
          rotate_left
          · intro w hSw
            try dsimp only at hSw
            go_simp
            with_reducible rfl
          try simp only [Act.put, List.setIfInBounds_toArray, List.set_cons_zero, List.set_cons_succ]
          refine held_take (7) (v := ?_) rfl (by kernel_rfl) (by kernel_rfl) (by kernel_rfl) (fun _ _ _ h => h) (Or.inl ⟨by rfl, ?_⟩) (by assumption) ?_
          rotate_left
          · intro w hSw
            try dsimp only at hSw
            go_simp
            with_reducible rfl
          try simp only [Act.put, List.setIfInBounds_toArray, List.set_cons_zero, List.set_cons_succ]
          refine held_take (8) (v := ?_) rfl (by kernel_rfl) (by kernel_rfl) (by kernel_rfl) (fun _ _ _ h => h) (Or.inl ⟨by rfl, ?_⟩) (by assumption) ?_
          rotate_left
          · intro w hSw
            try dsimp only at hSw
            go_simp
            with_reducible rfl
          try simp only [Act.put, List.setIfInBounds_toArray, List.set_cons_zero, List.set_cons_succ]
          refine held_take (9) (v := ?_) rfl (by kernel_rfl) (by kernel_rfl) (by kernel_rfl) (fun _ _ _ h => h) (Or.inl ⟨by rfl, ?_⟩) (by assumption) ?_
          rotate_left
          · intro w hSw
            try dsimp only at hSw
            go_simp
            with_reducible rfl
          try simp only [Act.put, List.setIfInBounds_toArray, List.set_cons_zero, List.set_cons_succ]
          refine held_take (10) (v := ?_) rfl (by kernel_rfl) (by kernel_rfl) (by kernel_rfl) (fun _ _ _ h => h) (Or.inl ⟨by rfl, ?_⟩) (by assumption) ?_
          rotate_left
          · intro w hSw
            try dsimp only at hSw
            go_simp
            with_reducible rfl
          try simp only [Act.put, List.setIfInBounds_toArray, List.set_cons_zero, List.set_cons_succ]
          refine held_take (11) (v := ?_) rfl (by kernel_rfl) (by kernel_rfl) (by kernel_rfl) (fun _ _ _ h => h) (Or.inl ⟨by rfl, ?_⟩) (by assumption) ?_
          rotate_left
          · intro w hSw
            try dsimp only at hSw
            go_simp
            with_reducible rfl
          try simp only [Act.put, List.setIfInBounds_toArray, List.set_cons_zero, List.set_cons_succ]
          refine held_take (12) (v := ?_) rfl (by kernel_rfl) (by kernel_rfl) (by kernel_rfl) (fun _ _ _ h => h) (Or.inl ⟨by rfl, ?_⟩) (by assumption) ?_
          rotate_left
          · intro w hSw
            try dsimp only at hSw
            go_simp
            with_reducible rfl
          try simp only [Act.put, List.setIfInBounds_toArray, List.set_cons_zero, List.set_cons_succ]
          refine held_take (13) (v := ?_) rfl (by kernel_rfl) (by kernel_rfl) (by kernel_rfl) (fun _ _ _ h => h) (Or.inl ⟨by rfl, ?_⟩) (by assumption) ?_
          rotate_left
          · intro w hSw
            try dsimp only at hSw
            go_simp
            with_reducible rfl
          try simp only [Act.put, List.setIfInBounds_toArray, List.set_cons_zero, List.set_cons_succ]
          refine held_take (14) (v := ?_) rfl (by kernel_rfl) (by kernel_rfl) (by kernel_rfl) (fun _ _ _ h => h) (Or.inl ⟨by rfl, ?_⟩) (by assumption) ?_
          rotate_left
          · intro w hSw
            try dsimp only at hSw
            go_simp
            with_reducible rfl
          try simp only [Act.put, List.setIfInBounds_toArray, List.set_cons_zero, List.set_cons_succ]
          refine held_take (15) (v := ?_) rfl (by kernel_rfl) (by kernel_rfl) (by kernel_rfl) (fun _ _ _ h => h) (Or.inl ⟨by rfl, ?_⟩) (by assumption) ?_
          rotate_left
          · intro w hSw
            try dsimp only at hSw
            go_simp
            with_reducible rfl
          try simp only [Act.put, List.setIfInBounds_toArray, List.set_cons_zero, List.set_cons_succ]
          refine wpAnyH_ready (rs := [16]) (by kernel_rfl) (by simp) ?_
          refine held_cons rfl (fun K hK => ?_) AllReadyH.nil
          go_simp
          refine hK.out _ _ (HSS.out _ hP1.o.drew (below_tr hP1.b (Below.refl _ _).drew)) (fun hHeld => ?_)
          clear hK K
          try simp only [Act.put, List.setIfInBounds_toArray, List.set_cons_zero, List.set_cons_succ]
          refine held_take (17) (v := ?_) rfl (by kernel_rfl) (by kernel_rfl) (by kernel_rfl) (fun _ _ _ h => h) (Or.inl ⟨by rfl, ?_⟩) (by assumption) ?_
          rotate_left
          · intro w hSw
            try dsimp only at hSw
            go_simp
            with_reducible rfl
          try simp only [Act.put, List.setIfInBounds_toArray, List.set_cons_zero, List.set_cons_succ]
          refine wpAnyH_done (by kernel_rfl) ?_ _
          dsimp only [Behind]
          go_simp
          --/R14
          have hP3 := hP2.keep (Below.refl _ _).drew
          generalize ((wr.setCell ⟨gC, k, none⟩ (.int .i64 x)).setCell ⟨gZ, k, none⟩ (.int .i64 z)).drew = w6 at *
          clear hP hP1 hP2 v1 v2 v3 v4 HSS hmi hmi2 hm0 hmw hmw0 hmwn
          have q0 := hP3.o.cell 0 (v := .slice (some ⟨gC, 0, none⟩) keys.length keys.length) rfl
          have q1 := hP3.c.cell k (v := .int .i64 x) (by rw [ints_get (by rw [cL_length]; exact hkt), show (cL rnd j keys.length (k + 1)).getD k 0 = x by rw [← HCS.out, List.getD, List.getElem?_set_self (by rw [cL_length]; exact hkt)]; rfl])
          go_wp2_with (go_at_call 35; (with_reducible refine (KAD.out _).mono ?_))
          (first | rintro e w7 rfl rfl | rintro e w7 ⟨rfl, rfl⟩)
          clear q0 q1
          go_wp2_with fail
          have v1 := hP3.a.free k
          have HC1 := Lib.hid (show (cL rnd j keys.length (k + 1)).getD k 0 = x by rw [← HCS.out, List.getD, List.getElem?_set_self (by rw [cL_length]; exact hkt)]; rfl)
          have HZ1 := Lib.hid (show (zL rnd j keys.length (k + 1)).getD k 0 = z by rw [← HZS.out, List.getD, List.getElem?_set_self (by rw [zL_length]; exact hkt)]; rfl)
          have HSS := Lib.hid (fun V (hV : Pv w V gr go gC gZ gA keys.length (cL rnd j keys.length (k + 1)) (zL rnd j keys.length (k + 1)) (aL p keys rnd j k)) => (show V.cell? ⟨go, 0, none⟩ = some (.slice (some ⟨gC, 0, none⟩) keys.length keys.length) ∧ V.cell? ⟨go, 1, none⟩ = some (.slice (some ⟨gZ, 0, none⟩) keys.length keys.length) ∧ V.cell? ⟨gC, k, none⟩ = some (.int .i64 x) ∧ V.cell? ⟨gZ, k, none⟩ = some (.int .i64 z) ∧ V.cell? ⟨gk, ok + k, none⟩ = some (.int .i64 (kn : Int)) from
            ⟨hV.o.cell 0 rfl, hV.o.cell 1 rfl, hV.c.cell k (by rw [ints_get (by rw [cL_length]; exact hkt), HC1.out]), hV.z.cell k (by rw [ints_get (by rw [zL_length]; exact hkt), HZ1.out]), HKY.out V hV.b⟩))
          --R15
          refine wp_region_held_last' (S := fun w' => w'.cell? ⟨go, 0, none⟩ = some (.slice (some ⟨gC, 0, none⟩) keys.length keys.length) ∧ w'.cell? ⟨go, 1, none⟩ = some (.slice (some ⟨gZ, 0, none⟩) keys.length keys.length) ∧ w'.cell? ⟨gC, k, none⟩ = some (.int .i64 x) ∧ w'.cell? ⟨gZ, k, none⟩ = some (.int .i64 z) ∧ w'.cell? ⟨gk, ok + k, none⟩ = some (.int .i64 (kn : Int))) 19 rfl (by kernel_rfl) (by kernel_rfl) (by kernel_rfl) (HSS.out _ (hP3.keep (Below.refl _ _).drew)) (fun hHeld => ?_)
          dsimp only [List.dropLast, List.replicate] at hHeld ⊢
          refine held_take (0) (v := ?_) rfl (by kernel_rfl) (by kernel_rfl) (by kernel_rfl) (fun _ _ _ h => h) (Or.inl ⟨by rfl, ?_⟩) (by assumption) ?_
          rotate_left
          · intro w hSw
            try dsimp only at hSw
            go_simp
            with_reducible rfl
          try simp only [Act.put, List.setIfInBounds_toArray, List.set_cons_zero, List.set_cons_succ]
          refine held_take (1) (v := ?_) rfl (by kernel_rfl) (by kernel_rfl) (by kernel_rfl) (fun _ _ _ h => h) (Or.inl ⟨by rfl, ?_⟩) (by assumption) ?_
          rotate_left
          · intro w hSw
            try dsimp only at hSw
            go_simp
            with_reducible rfl
          try simp only [Act.put, List.setIfInBounds_toArray, List.set_cons_zero, List.set_cons_succ]
          refine held_take (2) (v := ?_) rfl (by kernel_rfl) (by kernel_rfl) (by kernel_rfl) (fun _ _ _ h => h) (Or.inl ⟨by rfl, ?_⟩) (by assumption) ?_
          rotate_left
          · intro w hSw
            try dsimp only at hSw
            go_simp
            with_reducible rfl
          try simp only [Act.put, List.setIfInBounds_toArray, List.set_cons_zero, List.set_cons_succ]
          refine held_take (3) (v := ?_) rfl (by kernel_rfl) (by kernel_rfl) (by kernel_rfl) (fun _ _ _ h => h) (Or.inl ⟨by rfl, ?_⟩) (by assumption) ?_
          rotate_left
          · intro w hSw
            try dsimp only at hSw
            go_simp
            with_reducible rfl
          try simp only [Act.put, List.setIfInBounds_toArray, List.set_cons_zero, List.set_cons_succ]
          refine held_take (4) (v := ?_) rfl (by kernel_rfl) (by kernel_rfl) (by kernel_rfl) (fun _ _ _ h => h) (Or.inl ⟨by rfl, ?_⟩) (by assumption) ?_
          rotate_left
          · intro w hSw
            try dsimp only at hSw
            go_simp
            with_reducible rfl
          try simp only [Act.put, List.setIfInBounds_toArray, List.set_cons_zero, List.set_cons_succ]
          refine held_take (5) (v := ?_) rfl (by kernel_rfl) (by kernel_rfl) (by kernel_rfl) (fun _ _ _ h => h) (Or.inl ⟨by rfl, ?_⟩) (by assumption) ?_
          rotate_left
          · intro w hSw
            try dsimp only at hSw
            go_simp
            with_reducible rfl
          try simp only [Act.put, List.setIfInBounds_toArray, List.set_cons_zero, List.set_cons_succ]
          refine held_take (6) (v := ?_) rfl (by kernel_rfl) (by kernel_rfl) (by kernel_rfl) (fun _ _ _ h => h) (Or.inl ⟨by rfl, ?_⟩) (by assumption) ?_
          rotate_left
          · intro w hSw
            try dsimp only at hSw
            go_simp
            with_reducible rfl
          try simp only [Act.put, List.setIfInBounds_toArray, List.set_cons_zero, List.set_cons_succ]
          refine held_take (7) (v := ?_) rfl (by kernel_rfl) (by kernel_rfl) (by kernel_rfl) (fun _ _ _ h => h) (Or.inl ⟨by rfl, ?_⟩) (by assumption) ?_
          rotate_left
          · intro w hSw
            try dsimp only at hSw
            go_simp
            with_reducible rfl
          try simp only [Act.put, List.setIfInBounds_toArray, List.set_cons_zero, List.set_cons_succ]
          refine held_take (8) (v := ?_) rfl (by kernel_rfl) (by kernel_rfl) (by kernel_rfl) (fun _ _ _ h => h) (Or.inl ⟨by rfl, ?_⟩) (by assumption) ?_
          rotate_left
          · intro w hSw
            try dsimp only at hSw
            go_simp
            with_reducible rfl
          try simp only [Act.put, List.setIfInBounds_toArray, List.set_cons_zero, List.set_cons_succ]
          refine held_take (9) (v := ?_) rfl (by kernel_rfl) (by kernel_rfl) (by kernel_rfl) (fun _ _ _ h => h) (Or.inl ⟨by rfl, ?_⟩) (by assumption) ?_
          rotate_left
          · intro w hSw
            try dsimp only at hSw
            go_simp
            with_reducible rfl
          try simp only [Act.put, List.setIfInBounds_toArray, List.set_cons_zero, List.set_cons_succ]
          refine held_take (10) (v := ?_) rfl (by kernel_rfl) (by kernel_rfl) (by kernel_rfl) (fun _ _ _ h => h) (Or.inl ⟨by rfl, ?_⟩) (by assumption) ?_
          rotate_left
          · intro w hSw
            try dsimp only at hSw
            go_simp
            with_reducible rfl
          try simp only [Act.put, List.setIfInBounds_toArray, List.set_cons_zero, List.set_cons_succ]
          refine held_take (11) (v := ?_) rfl (by kernel_rfl) (by kernel_rfl) (by kernel_rfl) (fun _ _ _ h => h) (Or.inl ⟨by rfl, ?_⟩) (by assumption) ?_
          rotate_left
          · intro w hSw
            try dsimp only at hSw
            go_simp
            with_reducible rfl
          try simp only [Act.put, List.setIfInBounds_toArray, List.set_cons_zero, List.set_cons_succ]
          refine held_take (12) (v := ?_) rfl (by kernel_rfl) (by kernel_rfl) (by kernel_rfl) (fun _ _ _ h => h) (Or.inl ⟨by rfl, ?_⟩) (by assumption) ?_
          rotate_left
          · intro w hSw
            try dsimp only at hSw
            go_simp
            with_reducible rfl
          try simp only [Act.put, List.setIfInBounds_toArray, List.set_cons_zero, List.set_cons_succ]
          refine held_take (13) (v := ?_) rfl (by kernel_rfl) (by kernel_rfl) (by kernel_rfl) (fun _ _ _ h => h) (Or.inl ⟨by rfl, ?_⟩) (by assumption) ?_
          rotate_left
          · intro w hSw
            try dsimp only at hSw
            go_simp
            with_reducible rfl
          try simp only [Act.put, List.setIfInBounds_toArray, List.set_cons_zero, List.set_cons_succ]
          refine held_take (14) (v := ?_) rfl (by kernel_rfl) (by kernel_rfl) (by kernel_rfl) (fun _ _ _ h => h) (Or.inl ⟨by rfl, ?_⟩) (by assumption) ?_
          rotate_left
          · intro w hSw
            try dsimp only at hSw
            go_simp
            with_reducible rfl
          try simp only [Act.put, List.setIfInBounds_toArray, List.set_cons_zero, List.set_cons_succ]
          refine held_take (15) (v := ?_) rfl (by kernel_rfl) (by kernel_rfl) (by kernel_rfl) (fun _ _ _ h => h) (Or.inl ⟨by rfl, ?_⟩) (by assumption) ?_
          rotate_left
          · intro w hSw
            try dsimp only at hSw
            go_simp
            with_reducible rfl
          try simp only [Act.put, List.setIfInBounds_toArray, List.set_cons_zero, List.set_cons_succ]
          refine held_take (16) (v := ?_) rfl (by kernel_rfl) (by kernel_rfl) (by kernel_rfl) (fun _ _ _ h => h) (Or.inl ⟨by rfl, ?_⟩) (by assumption) ?_
          rotate_left
          · intro w hSw
            try dsimp only at hSw
            go_simp
            with_reducible rfl
          try simp only [Act.put, List.setIfInBounds_toArray, List.set_cons_zero, List.set_cons_succ]
          refine wpAnyH_ready (rs := [17]) (by kernel_rfl) (by simp) ?_
          refine held_cons rfl (fun K hK => ?_) AllReadyH.nil
          go_simp
          go_at_call 36
          (with_reducible refine (KC.out _).mono ?_)
          first | rintro e wM rfl rfl | rintro e wM ⟨rfl, rfl⟩
          go_wp2_with fail
          refine hK.out _ _ (HSS.out _ (hP3.keep (Below.refl _ _).drew)) (fun hHeld => ?_)
          clear hK K
          try simp only [Act.put, List.setIfInBounds_toArray, List.set_cons_zero, List.set_cons_succ]
          refine held_take (18) (v := ?_) rfl (by kernel_rfl) (by kernel_rfl) (by kernel_rfl) (fun _ _ _ h => h) (Or.inl ⟨by rfl, ?_⟩) (by assumption) ?_
          rotate_left
          · intro w hSw
            try dsimp only at hSw
            go_simp
            with_reducible rfl
          try simp only [Act.put, List.setIfInBounds_toArray, List.set_cons_zero, List.set_cons_succ]
          refine wpAnyH_done (by kernel_rfl) ?_ _
          dsimp only [Behind]
          have hP4 := hP3.keep (Below.refl _ _).drew
          have v2 := hP3.a.cell k (v := .int .i64 ((aL p keys rnd j k).getD k 0)) (by rw [ints_get (by rw [aL_length]; exact hkt)])
          have v3 := hP4.a.free k
          have hP5 := hP4.setA k ((y : Nat) : Int)
          rw [← HAF.out, HAS.out, HAF.out] at hP5
          clear hP3 hP4
          go_simp
          go_wp2_with fail
          go_roundw
          case rel => exact ⟨k + 1, m + 2, sn, by omega, by go_num, by go_num, rfl, HSG, sn0, sn1, HM, hP5⟩
          case measure => simp [intOf]; omega
          --/R15
      · have hkl : ¬ (k : Int) < (keys.length : Int) := by omega
        obtain rfl : k = keys.length := by omega
        have hal := aL_length p keys rnd j keys.length
        have hab := aL_bd p (by omega) keys rnd j keys.length
        have hcl := cL_length rnd j keys.length keys.length
        have hcb := cL_bd (p := (p : Int)) (by omega) HEL.out j keys.length keys.length
        have KCH : Hid (∀ V, Rd V a (ints keys) → Rd V (some ⟨gA, 0, none⟩) (ints (aL p keys rnd j keys.length)) → Calls Tryz.prog 38 #[.int .i64 (p : Int), .slice a keys.length cap, .slice (some ⟨gA, 0, none⟩) keys.length keys.length, .string ⟨text.toArray⟩] V fun e w' => e = .returned (.int .i64 (rchF p keys (aL p keys rnd j keys.length) text)) ∧ Below V.heap.size V w') := Lib.hid fun V h1 h2 => by
          have := rrchal_walk p a keys cap (some ⟨gA, 0, none⟩) (aL p keys rnd j keys.length) keys.length text V (by omega) (by omega) h1 h2 (fun x hx => by have := HKEY.out x hx; exact ⟨by omega, by omega⟩) hab (by omega) (by omega) ht
          rw [hal] at this
          exact this
        have hchb := rchF_bd (p := (p : Int)) (by omega) keys (aL p keys rnd j keys.length) text
        obtain ⟨g0, o0, rfl, hr0⟩ := rd_get hRR (k := 0) (by omega)
        have hrb := getD_bd (p := (p : Int)) (by omega) HEL.out 0
        have HZM := Lib.hid (show zMe p keys rnd j secret text = (rnd.getD 0 0 + cMe p keys rnd j text * secret % p) % p from rfl)
        have HCM := Lib.hid (show cMe p keys rnd j text = (rchF p keys (aL p keys rnd j keys.length) text - sumF p (cL rnd j keys.length keys.length)) % p from rfl)
        generalize rchF p keys (aL p keys rnd j keys.length) text = ch at *
        have hsm2 := hsm.out
        rw [← hsm2] at HCM
        have hcm0 := Int.emod_nonneg (ch - sm) (show (p : Int) ≠ 0 by omega)
        have hcm1 := Int.emod_lt_of_pos (ch - sm) (show (0 : Int) < (p : Int) by omega)
        have KSB := Lib.hid (fun V => rsub_walk (p : Int) ch sm V (by omega) h30 ⟨by omega, hchb.2⟩ ⟨sm0, sm1⟩)
        obtain ⟨cm, hcm⟩ : ∃ t, t = (ch - sm) % (p : Int) := ⟨_, rfl⟩
        rw [← hcm] at hcm0 hcm1 KSB HCM
        have hmm0 := Int.emod_nonneg (cm * secret) (show (p : Int) ≠ 0 by omega)
        have hmm1 := Int.emod_lt_of_pos (cm * secret) (show (0 : Int) < (p : Int) by omega)
        have KMU := Lib.hid (fun V => rmul_walk (p : Int) cm secret V (by omega) h30 ⟨hcm0, hcm1⟩ ⟨hsc0, hsc1⟩)
        rw [HCM.out] at HZM
        obtain ⟨xs, hxs⟩ : ∃ t, t = cm * secret % (p : Int) := ⟨_, rfl⟩
        rw [← hxs] at KMU HZM hmm0 hmm1
        generalize rnd.getD 0 0 = r0 at *
        have KAD := Lib.hid (fun V => radd_walk (p : Int) r0 xs V (by omega) h30 ⟨hrb.1, by omega⟩ ⟨hmm0, by omega⟩)
        obtain ⟨zm, hzm⟩ : ∃ t, t = (r0 + xs) % (p : Int) := ⟨_, rfl⟩
        rw [← hzm] at KAD HZM
        rw [HCM.out, HZM.out] at HE
        have HSS := Lib.hid (fun V (hV : Bx V go 24 [.slice (some ⟨gC, 0, none⟩) keys.length keys.length, .slice (some ⟨gZ, 0, none⟩) keys.length keys.length]) => (show V.cell? ⟨go, 0, none⟩ = some (.slice (some ⟨gC, 0, none⟩) keys.length keys.length) ∧ V.cell? ⟨go, 1, none⟩ = some (.slice (some ⟨gZ, 0, none⟩) keys.length keys.length) from ⟨hV.cell 0 rfl, hV.cell 1 rfl⟩))
        have hrp : (0 : Int) < (rnd.length : Int) := by omega
        have hrp2 : 0 < rnd.length := by omega
        have HR0 := Lib.hid (fun V (h : Rd V (some ⟨g0, o0, none⟩) (ints rnd)) => (show V.cell? ⟨g0, o0, none⟩ = some (.int .i64 r0) by have := hr0 V h; rw [Nat.add_zero] at this; exact this))
        clear hal hab hcb hchb hrb hcm hxs hzm hmm0 hmm1 hcm0 hcm1 hm hsm hsm2 hr0 HCM HZM
        go_upto_region 18 with (fail)
        --R17
        refine wp_region_held_last' (S := fun w' => w'.cell? ⟨go, 0, none⟩ = some (.slice (some ⟨gC, 0, none⟩) keys.length keys.length) ∧ w'.cell? ⟨go, 1, none⟩ = some (.slice (some ⟨gZ, 0, none⟩) keys.length keys.length)) 12 rfl (by kernel_rfl) (by kernel_rfl) (by kernel_rfl) (HSS.out _ (hP.keep (Below.refl _ _).drew).o) (fun hHeld => ?_)
        dsimp only [List.dropLast, List.replicate] at hHeld ⊢
        refine held_take (0) (v := ?_) rfl (by kernel_rfl) (by kernel_rfl) (by kernel_rfl) (fun _ _ _ h => h) (Or.inl ⟨by rfl, ?_⟩) (by assumption) ?_
        rotate_left
        · intro w hSw
          try dsimp only at hSw
          go_simp
          with_reducible rfl
        try simp only [Act.put, List.setIfInBounds_toArray, List.set_cons_zero, List.set_cons_succ]
        refine held_take (1) (v := ?_) rfl (by kernel_rfl) (by kernel_rfl) (by kernel_rfl) (fun _ _ _ h => h) (Or.inl ⟨by rfl, ?_⟩) (by assumption) ?_
        rotate_left
        · intro w hSw
          try dsimp only at hSw
          go_simp
          with_reducible rfl
        try simp only [Act.put, List.setIfInBounds_toArray, List.set_cons_zero, List.set_cons_succ]
        refine held_take (2) (v := ?_) rfl (by kernel_rfl) (by kernel_rfl) (by kernel_rfl) (fun _ _ _ h => h) (Or.inl ⟨by rfl, ?_⟩) (by assumption) ?_
        rotate_left
        · intro w hSw
          try dsimp only at hSw
          go_simp
          with_reducible rfl
        try simp only [Act.put, List.setIfInBounds_toArray, List.set_cons_zero, List.set_cons_succ]
        refine held_take (3) (v := ?_) rfl (by kernel_rfl) (by kernel_rfl) (by kernel_rfl) (fun _ _ _ h => h) (Or.inl ⟨by rfl, ?_⟩) (by assumption) ?_
        rotate_left
        · intro w hSw
          try dsimp only at hSw
          go_simp
          with_reducible rfl
        try simp only [Act.put, List.setIfInBounds_toArray, List.set_cons_zero, List.set_cons_succ]
        refine held_take (4) (v := ?_) rfl (by kernel_rfl) (by kernel_rfl) (by kernel_rfl) (fun _ _ _ h => h) (Or.inl ⟨by rfl, ?_⟩) (by assumption) ?_
        rotate_left
        · intro w hSw
          try dsimp only at hSw
          go_simp
          with_reducible rfl
        try simp only [Act.put, List.setIfInBounds_toArray, List.set_cons_zero, List.set_cons_succ]
        refine held_take (5) (v := ?_) rfl (by kernel_rfl) (by kernel_rfl) (by kernel_rfl) (fun _ _ _ h => h) (Or.inl ⟨by rfl, ?_⟩) (by assumption) ?_
        rotate_left
        · intro w hSw
          try dsimp only at hSw
          go_simp
          with_reducible rfl
        try simp only [Act.put, List.setIfInBounds_toArray, List.set_cons_zero, List.set_cons_succ]
        refine held_take (6) (v := ?_) rfl (by kernel_rfl) (by kernel_rfl) (by kernel_rfl) (fun _ _ _ h => h) (Or.inl ⟨by rfl, ?_⟩) (by assumption) ?_
        rotate_left
        · intro w hSw
          try dsimp only at hSw
          go_simp
          with_reducible rfl
        try simp only [Act.put, List.setIfInBounds_toArray, List.set_cons_zero, List.set_cons_succ]
        refine held_take (7) (v := ?_) rfl (by kernel_rfl) (by kernel_rfl) (by kernel_rfl) (fun _ _ _ h => h) (Or.inl ⟨by rfl, ?_⟩) (by assumption) ?_
        rotate_left
        · intro w hSw
          try dsimp only at hSw
          go_simp
          with_reducible rfl
        try simp only [Act.put, List.setIfInBounds_toArray, List.set_cons_zero, List.set_cons_succ]
        refine held_take (9) (v := ?_) rfl (by kernel_rfl) (by kernel_rfl) (by kernel_rfl) (fun _ _ _ h => h) (Or.inl ⟨by rfl, ?_⟩) (by assumption) ?_
        rotate_left
        · intro w hSw
          try dsimp only at hSw
          go_simp
          with_reducible rfl
        try simp only [Act.put, List.setIfInBounds_toArray, List.set_cons_zero, List.set_cons_succ]
        refine wpAnyH_ready (rs := [8]) (by kernel_rfl) (by simp) ?_
        refine held_cons rfl (fun K hK => ?_) AllReadyH.nil
        replace hP := hP.keep (Below.refl _ _).drew
        go_simp
        go_at_call 38
        (with_reducible refine (KCH.out _ (hR.keep hP.b) hP.a.rdd).mono ?_)
        first | rintro e wN rfl hbN | rintro e wN ⟨rfl, hbN⟩
        go_wp2_with fail
        replace hP := hP.keep hbN
        clear hbN
        refine hK.out _ _ (HSS.out _ hP.o) (fun hHeld => ?_)
        clear hK K
        try simp only [Act.put, List.setIfInBounds_toArray, List.set_cons_zero, List.set_cons_succ]
        refine wpAnyH_ready (rs := [10]) (by kernel_rfl) (by simp) ?_
        refine held_cons rfl (fun K hK => ?_) AllReadyH.nil
        go_simp
        go_at_call 37
        (with_reducible refine (KSB.out _).mono ?_)
        first | rintro e wM rfl rfl | rintro e wM ⟨rfl, rfl⟩
        go_wp2_with fail
        refine hK.out _ _ (HSS.out _ hP.o) (fun hHeld => ?_)
        clear hK K
        try simp only [Act.put, List.setIfInBounds_toArray, List.set_cons_zero, List.set_cons_succ]
        refine held_take (11) (v := ?_) rfl (by kernel_rfl) (by kernel_rfl) (by kernel_rfl) (fun _ _ _ h => h) (Or.inl ⟨by rfl, ?_⟩) (by assumption) ?_
        rotate_left
        · intro w hSw
          try dsimp only at hSw
          go_simp
          with_reducible rfl
        try simp only [Act.put, List.setIfInBounds_toArray, List.set_cons_zero, List.set_cons_succ]
        refine wpAnyH_done (by kernel_rfl) ?_ _
        dsimp only [Behind]
        have v1 := hP.c.cell j (v := .int .i64 ((cL rnd j keys.length keys.length).getD j 0)) (by rw [ints_get (by rw [hcl]; exact hj)])
        have v2 := hP.c.free j
        have hP1 := hP.setC j cm
        clear hP
        go_simp
        --/R17
        have hP2 := hP1.keep (Below.refl _ _)
        clear hP1 v1 v2
        have hP := hP2
        clear hP2 HSS
        go_upto_region 19 with (fail)
        generalize World.setCell _ _ _ = w7 at *
        have HC1 := Lib.hid (show ((cL rnd j keys.length keys.length).set j cm).getD j 0 = cm by rw [List.getD, List.getElem?_set_self (by rw [hcl]; exact hj)]; rfl)
        have HSS := Lib.hid (fun V (hV : Pv w V gr go gC gZ gA keys.length ((cL rnd j keys.length keys.length).set j cm) (zL rnd j keys.length keys.length) (aL p keys rnd j keys.length)) => (show V.cell? ⟨go, 0, none⟩ = some (.slice (some ⟨gC, 0, none⟩) keys.length keys.length) ∧ V.cell? ⟨go, 1, none⟩ = some (.slice (some ⟨gZ, 0, none⟩) keys.length keys.length) ∧ V.cell? ⟨gC, j, none⟩ = some (.int .i64 cm) ∧ V.cell? ⟨g0, o0, none⟩ = some (.int .i64 r0) from
          ⟨hV.o.cell 0 rfl, hV.o.cell 1 rfl, hV.c.cell j (by rw [ints_get (by rw [List.length_set, hcl]; exact hj), HC1.out]), HR0.out V (hRR.keep hV.b)⟩))
        --R18
        refine wp_region_held_last' (S := fun w' => w'.cell? ⟨go, 0, none⟩ = some (.slice (some ⟨gC, 0, none⟩) keys.length keys.length) ∧ w'.cell? ⟨go, 1, none⟩ = some (.slice (some ⟨gZ, 0, none⟩) keys.length keys.length) ∧ w'.cell? ⟨gC, j, none⟩ = some (.int .i64 cm) ∧ w'.cell? ⟨g0, o0, none⟩ = some (.int .i64 r0)) 17 rfl (by kernel_rfl) (by kernel_rfl) (by kernel_rfl) (HSS.out _ (hP.keep (Below.refl _ _).drew)) (fun hHeld => ?_)
        dsimp only [List.dropLast, List.replicate] at hHeld ⊢
        refine held_take (0) (v := ?_) rfl (by kernel_rfl) (by kernel_rfl) (by kernel_rfl) (fun _ _ _ h => h) (Or.inl ⟨by rfl, ?_⟩) (by assumption) ?_
        rotate_left
        · intro w hSw
          try dsimp only at hSw
          go_simp
          with_reducible rfl
        try simp only [Act.put, List.setIfInBounds_toArray, List.set_cons_zero, List.set_cons_succ]
        refine held_take (1) (v := ?_) rfl (by kernel_rfl) (by kernel_rfl) (by kernel_rfl) (fun _ _ _ h => h) (Or.inl ⟨by rfl, ?_⟩) (by assumption) ?_
        rotate_left
        · intro w hSw
          try dsimp only at hSw
          go_simp
          with_reducible rfl
        try simp only [Act.put, List.setIfInBounds_toArray, List.set_cons_zero, List.set_cons_succ]
        refine held_take (2) (v := ?_) rfl (by kernel_rfl) (by kernel_rfl) (by kernel_rfl) (fun _ _ _ h => h) (Or.inl ⟨by rfl, ?_⟩) (by assumption) ?_
        rotate_left
        · intro w hSw
          try dsimp only at hSw
          go_simp
          with_reducible rfl
        try simp only [Act.put, List.setIfInBounds_toArray, List.set_cons_zero, List.set_cons_succ]
        refine held_take (3) (v := ?_) rfl (by kernel_rfl) (by kernel_rfl) (by kernel_rfl) (fun _ _ _ h => h) (Or.inl ⟨by rfl, ?_⟩) (by assumption) ?_
        rotate_left
        · intro w hSw
          try dsimp only at hSw
          go_simp
          with_reducible rfl
        try simp only [Act.put, List.setIfInBounds_toArray, List.set_cons_zero, List.set_cons_succ]
        refine held_take (4) (v := ?_) rfl (by kernel_rfl) (by kernel_rfl) (by kernel_rfl) (fun _ _ _ h => h) (Or.inl ⟨by rfl, ?_⟩) (by assumption) ?_
        rotate_left
        · intro w hSw
          try dsimp only at hSw
          go_simp
          with_reducible rfl
        try simp only [Act.put, List.setIfInBounds_toArray, List.set_cons_zero, List.set_cons_succ]
        refine held_take (5) (v := ?_) rfl (by kernel_rfl) (by kernel_rfl) (by kernel_rfl) (fun _ _ _ h => h) (Or.inl ⟨by rfl, ?_⟩) (by assumption) ?_
        rotate_left
        · intro w hSw
          try dsimp only at hSw
          go_simp
          with_reducible rfl
        try simp only [Act.put, List.setIfInBounds_toArray, List.set_cons_zero, List.set_cons_succ]
        refine held_take (6) (v := ?_) rfl (by kernel_rfl) (by kernel_rfl) (by kernel_rfl) (fun _ _ _ h => h) (Or.inl ⟨by rfl, ?_⟩) (by assumption) ?_
        rotate_left
        · intro w hSw
          try dsimp only at hSw
          go_simp
          with_reducible rfl
        try simp only [Act.put, List.setIfInBounds_toArray, List.set_cons_zero, List.set_cons_succ]
        refine held_take (7) (v := ?_) rfl (by kernel_rfl) (by kernel_rfl) (by kernel_rfl) (fun _ _ _ h => h) (Or.inl ⟨by rfl, ?_⟩) (by assumption) ?_
        rotate_left
        · intro w hSw
          try dsimp only at hSw
          go_simp
          with_reducible rfl
        try simp only [Act.put, List.setIfInBounds_toArray, List.set_cons_zero, List.set_cons_succ]
        refine held_take (8) (v := ?_) rfl (by kernel_rfl) (by kernel_rfl) (by kernel_rfl) (fun _ _ _ h => h) (Or.inl ⟨by rfl, ?_⟩) (by assumption) ?_
        rotate_left
        · intro w hSw
          try dsimp only at hSw
          go_simp
          with_reducible rfl
        try simp only [Act.put, List.setIfInBounds_toArray, List.set_cons_zero, List.set_cons_succ]
        refine held_take (9) (v := ?_) rfl (by kernel_rfl) (by kernel_rfl) (by kernel_rfl) (fun _ _ _ h => h) (Or.inl ⟨by rfl, ?_⟩) (by assumption) ?_
        rotate_left
        · intro w hSw
          try dsimp only at hSw
          go_simp
          with_reducible rfl
        try simp only [Act.put, List.setIfInBounds_toArray, List.set_cons_zero, List.set_cons_succ]
        refine held_take (10) (v := ?_) rfl (by kernel_rfl) (by kernel_rfl) (by kernel_rfl) (fun _ _ _ h => h) (Or.inl ⟨by rfl, ?_⟩) (by assumption) ?_
        rotate_left
        · intro w hSw
          try dsimp only at hSw
          go_simp
          with_reducible rfl
        try simp only [Act.put, List.setIfInBounds_toArray, List.set_cons_zero, List.set_cons_succ]
        refine held_take (11) (v := ?_) rfl (by kernel_rfl) (by kernel_rfl) (by kernel_rfl) (fun _ _ _ h => h) (Or.inl ⟨by rfl, ?_⟩) (by assumption) ?_
        rotate_left
        · intro w hSw
          try dsimp only at hSw
          go_simp
          with_reducible rfl
        try simp only [Act.put, List.setIfInBounds_toArray, List.set_cons_zero, List.set_cons_succ]
        refine held_take (12) (v := ?_) rfl (by kernel_rfl) (by kernel_rfl) (by kernel_rfl) (fun _ _ _ h => h) (Or.inl ⟨by rfl, ?_⟩) (by assumption) ?_
        rotate_left
        · intro w hSw
          try dsimp only at hSw
          go_simp
          with_reducible rfl
        try simp only [Act.put, List.setIfInBounds_toArray, List.set_cons_zero, List.set_cons_succ]
        refine held_take (13) (v := ?_) rfl (by kernel_rfl) (by kernel_rfl) (by kernel_rfl) (fun _ _ _ h => h) (Or.inl ⟨by rfl, ?_⟩) (by assumption) ?_
        rotate_left
        · intro w hSw
          try dsimp only at hSw
          go_simp
          with_reducible rfl
        try simp only [Act.put, List.setIfInBounds_toArray, List.set_cons_zero, List.set_cons_succ]
        refine wpAnyH_ready (rs := [14]) (by kernel_rfl) (by simp) ?_
        refine held_cons rfl (fun K hK => ?_) AllReadyH.nil
        go_simp
        go_at_call 39
        (with_reducible refine (KMU.out _).mono ?_)
        first | rintro e wM rfl rfl | rintro e wM ⟨rfl, rfl⟩
        go_wp2_with fail
        refine hK.out _ _ (HSS.out _ (hP.keep (Below.refl _ _).drew)) (fun hHeld => ?_)
        clear hK K
        try simp only [Act.put, List.setIfInBounds_toArray, List.set_cons_zero, List.set_cons_succ]
        refine wpAnyH_ready (rs := [15]) (by kernel_rfl) (by simp) ?_
        refine held_cons rfl (fun K hK => ?_) AllReadyH.nil
        go_simp
        go_at_call 35
        (with_reducible refine (KAD.out _).mono ?_)
        first | rintro e wM rfl rfl | rintro e wM ⟨rfl, rfl⟩
        go_wp2_with fail
        refine hK.out _ _ (HSS.out _ (hP.keep (Below.refl _ _).drew)) (fun hHeld => ?_)
        clear hK K
        try simp only [Act.put, List.setIfInBounds_toArray, List.set_cons_zero, List.set_cons_succ]
        refine held_take (16) (v := ?_) rfl (by kernel_rfl) (by kernel_rfl) (by kernel_rfl) (fun _ _ _ h => h) (Or.inl ⟨by rfl, ?_⟩) (by assumption) ?_
        rotate_left
        · intro w hSw
          try dsimp only at hSw
          go_simp
          with_reducible rfl
        try simp only [Act.put, List.setIfInBounds_toArray, List.set_cons_zero, List.set_cons_succ]
        refine wpAnyH_done (by kernel_rfl) ?_ _
        dsimp only [Behind]
        have v1 := hP.z.cell j (v := .int .i64 ((zL rnd j keys.length keys.length).getD j 0)) (by rw [ints_get (by rw [zL_length]; exact hj)])
        have v2 := hP.z.free j
        have hP1 := (hP.setZ j zm).keep (Below.refl _ _).drew
        clear hP
        go_simp
        --/R18
        have hP := hP1
        clear hP1 v1 v2 HSS
        go_upto_region 20 with (fail)
        generalize (w7.setCell ⟨gZ, j, none⟩ (.int .i64 zm)).drew = w8 at *
        have c0 := hP.o.cell 0 (v := .slice (some ⟨gC, 0, none⟩) keys.length keys.length) rfl
        have c1 := hP.o.cell 1 (v := .slice (some ⟨gZ, 0, none⟩) keys.length keys.length) rfl
        have y0 := hP.r.cell 0 (v := .slice none 0 0) rfl
        have y1 := hP.r.cell 1 (v := .slice none 0 0) rfl
        have f0 := hP.r.free 0
        have f1 := hP.r.free 1
        obtain ⟨n1, n2, n3, n4, n5, n6, n7, n8, n9⟩ := hP.ne
        have hlo := Lib.hid hP.lo
        have hF : Bx ((w8.setCell ⟨gr, 0, none⟩ (.slice (some ⟨gC, 0, none⟩) keys.length keys.length)).setCell ⟨gr, 1, none⟩ (.slice (some ⟨gZ, 0, none⟩) keys.length keys.length)) gr 24 [.slice (some ⟨gC, 0, none⟩) keys.length keys.length, .slice (some ⟨gZ, 0, none⟩) keys.length keys.length] := (hP.r.set 0 _).set 1 _
        have hFC := ((hP.c.other n1 0 (.slice (some ⟨gC, 0, none⟩) keys.length keys.length)).other n1 1 (.slice (some ⟨gZ, 0, none⟩) keys.length keys.length)).rdd
        have hFZ := ((hP.z.other n5 0 (.slice (some ⟨gC, 0, none⟩) keys.length keys.length)).other n5 1 (.slice (some ⟨gZ, 0, none⟩) keys.length keys.length)).rdd
        have hFB := (hP.b.setCell (p := ⟨gr, 0, none⟩) hgr (.slice (some ⟨gC, 0, none⟩) keys.length keys.length)).setCell (p := ⟨gr, 1, none⟩) hgr (.slice (some ⟨gZ, 0, none⟩) keys.length keys.length)
        clear hP
        go_wp2_with fail
        refine bodyPost_ret (Ring.ret (t := 12) (u := 13) rfl _ rfl hF) rfl ?_
        rw [HE.out]
        exact ⟨some ⟨gC, 0, none⟩, keys.length, some ⟨gZ, 0, none⟩, keys.length, by rw [List.length_set, List.length_set, cL_length, zL_length]; rfl, hFC, hFZ, Fresh.mk hlo.out.2.1, Fresh.mk hlo.out.2.2.1, hFB⟩
end Go.Proofs.YtbjpmkoiabkcbaaGreatDoor
