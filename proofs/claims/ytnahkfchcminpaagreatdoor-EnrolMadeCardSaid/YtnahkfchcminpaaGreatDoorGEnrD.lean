/- Rolls: who is found: the program's first, Find, By. -/
import Derived.Test.YtnahkfchcminpaaGreatDoorGEnrC
namespace Go.Proofs.YtnahkfchcminpaaGreatDoor
open Go.RowKit
set_option maxRecDepth 100000 in
set_option maxHeartbeats 1000000 in
theorem efind_first (p : Int) (a : Option Addr) (l : List Prs) (c : Nat) (z : Int) (g0 : Nat) (w : World) (hX : Bx w g0 3 [.int .i64 z]) (hR : Rd w a (rowsC prC l)) (hn : l.length ≤ 281474976710656) :
    Calls Tryz.prog 49 #[.agg #[.int .i64 p, .slice a l.length c], .func (.func 50) #[] #[.pointer (some ⟨g0, 0, none⟩)]] w fun e w' => e = .returned (.tuple #[prV ((fstP Prs.id l z).getD Prs.zero), .bool (fstP Prs.id l z).isSome]) ∧ Below w.heap.size w w' := by
  obtain ⟨w0, hw0⟩ : ∃ w0, w0 = (w.alloc (.cells #[.int .i64 p, .slice a l.length c] 30)).alloc (.cells #[.int .i64 0, .int .i64 0, .int .i64 0] 43) := ⟨_, rfl⟩
  have hb0 : Below w.heap.size w w0 := by rw [hw0]; exact ((Below.refl w.heap.size w).alloc (Nat.le_refl _) _).alloc (by simp) _
  obtain ⟨gb, hgb⟩ : ∃ g, g = w.heap.size := ⟨_, rfl⟩
  have hG : Bx w0 gb 30 [.int .i64 p, .slice a l.length c] := by rw [hw0, hgb]; exact (Bx.new w 30 [.int .i64 p, .slice a l.length c]).alloc _
  have hZ : Bx w0 (gb + 1) 43 (prC Prs.zero) := by
    rw [hw0, hgb]
    have := Bx.new (w.alloc (.cells #[.int .i64 p, .slice a l.length c] 30)) 43 (prC Prs.zero)
    simpa [prC, Prs.zero] using this
  have hR0 := hR.keep hb0
  have hX0 := hX.keep hb0
  have hbw : w.heap.size = gb := hgb.symm
  have HI := Lib.hid (efind1_idx a l c z g0 w0 hX0 hR0 hn)
  have hfx := idxP_fst Prs.id l z
  generalize idxP (fun r => r.id == z) l = ix at *
  have HFX := Lib.hid hfx
  clear hgb hR hX hX0 hfx
  go_enter Tryz.func49, Tryz.ntmps49
  go_upto_region 1 with (fail)
  rw [← hw0]
  clear hw0
  have c1 := hG.cell 1 (v := .slice a l.length c) rfl
  go_wp2_with (go_at_call 55; (with_reducible refine HI.out.mono ?_))
  rintro e w1 ⟨rfl, hb1⟩
  replace hG := hG.keep hb1
  replace hZ := hZ.keep hb1
  replace hR0 := hR0.keep hb1
  have hbb := hb0.trans (hb1.mono hb0.size)
  clear hb0 hb1 c1 HI
  have c1 := hG.cell 1 (v := .slice a l.length c) rfl
  have z0 := hZ.cell 0 (v := .int .i64 0) rfl
  have z1 := hZ.cell 1 (v := .int .i64 0) rfl
  have z2 := hZ.cell 2 (v := .int .i64 0) rfl
  have f0 := hZ.free 0
  have f1 := hZ.free 1
  have f2 := hZ.free 2
  rcases HFX.out with ⟨k, r, rfl, hk, hf⟩ | ⟨rfl, hf⟩
  · have hkt : k < l.length := (List.getElem?_eq_some_iff.1 hk).1
    obtain ⟨g, off, r', rfl, hr, d0, d1, d2⟩ := hR0.prs hkt
    obtain rfl : r = r' := by
      have := hr.out
      rw [hk] at this
      exact Option.some.inj this
    have t1 : decide ((k : Int) ≥ 0) = true := decide_eq_true (by omega)
    have hkl : (k : Int) < (l.length : Int) := by omega
    have HF := Lib.hid hf
    have HX := Lib.hid (((hZ.set 0 (.int .i64 r.id)).set 1 (.int .i64 r.key)).set 2 (.int .i64 r.dep))
    have HBB := Lib.hid (((hbb.setCell (p := ⟨gb + 1, 0, none⟩) (by show _ ≤ gb + 1; omega) (.int .i64 r.id)).setCell (p := ⟨gb + 1, 1, none⟩) (by show _ ≤ gb + 1; omega) (.int .i64 r.key)).setCell (p := ⟨gb + 1, 2, none⟩) (by show _ ≤ gb + 1; omega) (.int .i64 r.dep))
    clear hG hZ hbb hf hk hr HFX hR0
    go_wp2
    exact bodyPost_ret (Bx.prs (t := 4) (u := 5) (r := r) rfl _ rfl HX.out) rfl ⟨by rw [HF.out]; rfl, hbw ▸ HBB.out⟩
  · have HF := Lib.hid hf
    have HX := Lib.hid (((hZ.set 0 (.int .i64 0)).set 1 (.int .i64 0)).set 2 (.int .i64 0))
    have HBB := Lib.hid (((hbb.setCell (p := ⟨gb + 1, 0, none⟩) (by show _ ≤ gb + 1; omega) (.int .i64 0)).setCell (p := ⟨gb + 1, 1, none⟩) (by show _ ≤ gb + 1; omega) (.int .i64 0)).setCell (p := ⟨gb + 1, 2, none⟩) (by show _ ≤ gb + 1; omega) (.int .i64 0))
    clear hG hZ hbb hf HFX hR0
    go_wp2
    exact bodyPost_ret (Bx.prs (t := 4) (u := 5) (r := Prs.zero) rfl _ rfl HX.out) rfl ⟨by rw [HF.out]; rfl, hbw ▸ HBB.out⟩
set_option maxRecDepth 100000 in
set_option maxHeartbeats 1000000 in
theorem efind_walk (p : Int) (a : Option Addr) (l : List Prs) (c : Nat) (z : Int) (w : World) (hR : Rd w a (rowsC prC l)) (hn : l.length ≤ 281474976710656) :
    Calls Tryz.prog 22 #[.agg #[.int .i64 p, .slice a l.length c], .int .i64 z] w fun e w' => e = .returned (.tuple #[prV ((fstP Prs.id l z).getD Prs.zero), .bool (fstP Prs.id l z).isSome]) ∧ Below w.heap.size w w' := by
  obtain ⟨w0, hw0⟩ : ∃ w0, w0 = ((w.alloc (.cells #[.int .i64 p, .slice a l.length c] 30)).alloc (.cells #[.int .i64 z] 3)).alloc (.cells #[.int .i64 0, .int .i64 0, .int .i64 0] 43) := ⟨_, rfl⟩
  have hb0 : Below w.heap.size w w0 := by rw [hw0]; exact (((Below.refl w.heap.size w).alloc (Nat.le_refl _) _).alloc (by simp) _).alloc (by simp; omega) _
  obtain ⟨gb, hgb⟩ : ∃ g, g = w.heap.size := ⟨_, rfl⟩
  have hG : Bx w0 gb 30 [.int .i64 p, .slice a l.length c] := by rw [hw0, hgb]; exact ((Bx.new w 30 [.int .i64 p, .slice a l.length c]).alloc _).alloc _
  have hX : Bx w0 (gb + 1) 3 [.int .i64 z] := by
    have := Bx.new (w.alloc (.cells #[.int .i64 p, .slice a l.length c] 30)) 3 [.int .i64 z]
    have e : (w.alloc (.cells #[.int .i64 p, .slice a l.length c] 30)).heap.size = gb + 1 := by rw [hgb]; simp
    rw [e] at this
    rw [hw0]
    exact this.alloc _
  have hZ : Bx w0 (gb + 1 + 1) 43 (prC Prs.zero) := by
    have := Bx.new ((w.alloc (.cells #[.int .i64 p, .slice a l.length c] 30)).alloc (.cells #[.int .i64 z] 3)) 43 (prC Prs.zero)
    have e : ((w.alloc (.cells #[.int .i64 p, .slice a l.length c] 30)).alloc (.cells #[.int .i64 z] 3)).heap.size = gb + 1 + 1 := by rw [hgb]; simp
    rw [e] at this
    rw [hw0]
    exact this
  have hR0 := hR.keep hb0
  have hbw : w.heap.size = gb := hgb.symm
  have HI := Lib.hid (efind_first p a l c z (gb + 1) w0 hX hR0 hn)
  generalize (fstP Prs.id l z).isSome = bb at *
  generalize (fstP Prs.id l z).getD Prs.zero = rr at *
  clear hgb hR
  go_enter Tryz.func22, Tryz.ntmps22
  go_upto_region 1 with (fail)
  rw [← hw0]
  clear hw0
  have c0 := hG.cell 0 (v := .int .i64 p) rfl
  have c1 := hG.cell 1 (v := .slice a l.length c) rfl
  go_wp2_with (go_at_call 49; (with_reducible refine HI.out.mono ?_))
  rintro e w1 ⟨rfl, hb1⟩
  replace hZ := hZ.keep hb1
  have hbb := hb0.trans (hb1.mono hb0.size)
  clear hb0 hb1 c0 c1 HI
  have z0 := hZ.cell 0 (v := .int .i64 0) rfl
  have z1 := hZ.cell 1 (v := .int .i64 0) rfl
  have z2 := hZ.cell 2 (v := .int .i64 0) rfl
  have f0 := hZ.free 0
  have f1 := hZ.free 1
  have f2 := hZ.free 2
  have HX := Lib.hid (((hZ.set 0 (.int .i64 rr.id)).set 1 (.int .i64 rr.key)).set 2 (.int .i64 rr.dep))
  have HBB := Lib.hid (((hbb.setCell (p := ⟨gb + 1 + 1, 0, none⟩) (by show _ ≤ gb + 1 + 1; omega) (.int .i64 rr.id)).setCell (p := ⟨gb + 1 + 1, 1, none⟩) (by show _ ≤ gb + 1 + 1; omega) (.int .i64 rr.key)).setCell (p := ⟨gb + 1 + 1, 2, none⟩) (by show _ ≤ gb + 1 + 1; omega) (.int .i64 rr.dep))
  clear hG hX hZ hbb hR0
  go_wp2
  exact bodyPost_ret (Bx.prs (t := 4) (u := 5) (r := rr) rfl _ rfl HX.out) rfl ⟨rfl, hbw ▸ HBB.out⟩
set_option maxRecDepth 100000 in
set_option maxHeartbeats 1000000 in
theorem eby_first (p : Int) (a : Option Addr) (l : List Prs) (c : Nat) (z : Int) (g0 : Nat) (w : World) (hX : Bx w g0 3 [.int .i64 z]) (hR : Rd w a (rowsC prC l)) (hn : l.length ≤ 281474976710656) :
    Calls Tryz.prog 49 #[.agg #[.int .i64 p, .slice a l.length c], .func (.func 68) #[] #[.pointer (some ⟨g0, 0, none⟩)]] w fun e w' => e = .returned (.tuple #[prV ((fstP Prs.key l z).getD Prs.zero), .bool (fstP Prs.key l z).isSome]) ∧ Below w.heap.size w w' := by
  obtain ⟨w0, hw0⟩ : ∃ w0, w0 = (w.alloc (.cells #[.int .i64 p, .slice a l.length c] 30)).alloc (.cells #[.int .i64 0, .int .i64 0, .int .i64 0] 43) := ⟨_, rfl⟩
  have hb0 : Below w.heap.size w w0 := by rw [hw0]; exact ((Below.refl w.heap.size w).alloc (Nat.le_refl _) _).alloc (by simp) _
  obtain ⟨gb, hgb⟩ : ∃ g, g = w.heap.size := ⟨_, rfl⟩
  have hG : Bx w0 gb 30 [.int .i64 p, .slice a l.length c] := by rw [hw0, hgb]; exact (Bx.new w 30 [.int .i64 p, .slice a l.length c]).alloc _
  have hZ : Bx w0 (gb + 1) 43 (prC Prs.zero) := by
    rw [hw0, hgb]
    have := Bx.new (w.alloc (.cells #[.int .i64 p, .slice a l.length c] 30)) 43 (prC Prs.zero)
    simpa [prC, Prs.zero] using this
  have hR0 := hR.keep hb0
  have hX0 := hX.keep hb0
  have hbw : w.heap.size = gb := hgb.symm
  have HI := Lib.hid (eby1_idx a l c z g0 w0 hX0 hR0 hn)
  have hfx := idxP_fst Prs.key l z
  generalize idxP (fun r => r.key == z) l = ix at *
  have HFX := Lib.hid hfx
  clear hgb hR hX hX0 hfx
  go_enter Tryz.func49, Tryz.ntmps49
  go_upto_region 1 with (fail)
  rw [← hw0]
  clear hw0
  have c1 := hG.cell 1 (v := .slice a l.length c) rfl
  go_wp2_with (go_at_call 55; (with_reducible refine HI.out.mono ?_))
  rintro e w1 ⟨rfl, hb1⟩
  replace hG := hG.keep hb1
  replace hZ := hZ.keep hb1
  replace hR0 := hR0.keep hb1
  have hbb := hb0.trans (hb1.mono hb0.size)
  clear hb0 hb1 c1 HI
  have c1 := hG.cell 1 (v := .slice a l.length c) rfl
  have z0 := hZ.cell 0 (v := .int .i64 0) rfl
  have z1 := hZ.cell 1 (v := .int .i64 0) rfl
  have z2 := hZ.cell 2 (v := .int .i64 0) rfl
  have f0 := hZ.free 0
  have f1 := hZ.free 1
  have f2 := hZ.free 2
  rcases HFX.out with ⟨k, r, rfl, hk, hf⟩ | ⟨rfl, hf⟩
  · have hkt : k < l.length := (List.getElem?_eq_some_iff.1 hk).1
    obtain ⟨g, off, r', rfl, hr, d0, d1, d2⟩ := hR0.prs hkt
    obtain rfl : r = r' := by
      have := hr.out
      rw [hk] at this
      exact Option.some.inj this
    have t1 : decide ((k : Int) ≥ 0) = true := decide_eq_true (by omega)
    have hkl : (k : Int) < (l.length : Int) := by omega
    have HF := Lib.hid hf
    have HX := Lib.hid (((hZ.set 0 (.int .i64 r.id)).set 1 (.int .i64 r.key)).set 2 (.int .i64 r.dep))
    have HBB := Lib.hid (((hbb.setCell (p := ⟨gb + 1, 0, none⟩) (by show _ ≤ gb + 1; omega) (.int .i64 r.id)).setCell (p := ⟨gb + 1, 1, none⟩) (by show _ ≤ gb + 1; omega) (.int .i64 r.key)).setCell (p := ⟨gb + 1, 2, none⟩) (by show _ ≤ gb + 1; omega) (.int .i64 r.dep))
    clear hG hZ hbb hf hk hr HFX hR0
    go_wp2
    exact bodyPost_ret (Bx.prs (t := 4) (u := 5) (r := r) rfl _ rfl HX.out) rfl ⟨by rw [HF.out]; rfl, hbw ▸ HBB.out⟩
  · have HF := Lib.hid hf
    have HX := Lib.hid (((hZ.set 0 (.int .i64 0)).set 1 (.int .i64 0)).set 2 (.int .i64 0))
    have HBB := Lib.hid (((hbb.setCell (p := ⟨gb + 1, 0, none⟩) (by show _ ≤ gb + 1; omega) (.int .i64 0)).setCell (p := ⟨gb + 1, 1, none⟩) (by show _ ≤ gb + 1; omega) (.int .i64 0)).setCell (p := ⟨gb + 1, 2, none⟩) (by show _ ≤ gb + 1; omega) (.int .i64 0))
    clear hG hZ hbb hf HFX hR0
    go_wp2
    exact bodyPost_ret (Bx.prs (t := 4) (u := 5) (r := Prs.zero) rfl _ rfl HX.out) rfl ⟨by rw [HF.out]; rfl, hbw ▸ HBB.out⟩
set_option maxRecDepth 100000 in
set_option maxHeartbeats 1000000 in
theorem eby_walk (p : Int) (a : Option Addr) (l : List Prs) (c : Nat) (z : Int) (w : World) (hR : Rd w a (rowsC prC l)) (hn : l.length ≤ 281474976710656) :
    Calls Tryz.prog 41 #[.agg #[.int .i64 p, .slice a l.length c], .int .i64 z] w fun e w' => e = .returned (.tuple #[prV ((fstP Prs.key l z).getD Prs.zero), .bool (fstP Prs.key l z).isSome]) ∧ Below w.heap.size w w' := by
  obtain ⟨w0, hw0⟩ : ∃ w0, w0 = ((w.alloc (.cells #[.int .i64 p, .slice a l.length c] 30)).alloc (.cells #[.int .i64 z] 3)).alloc (.cells #[.int .i64 0, .int .i64 0, .int .i64 0] 43) := ⟨_, rfl⟩
  have hb0 : Below w.heap.size w w0 := by rw [hw0]; exact (((Below.refl w.heap.size w).alloc (Nat.le_refl _) _).alloc (by simp) _).alloc (by simp; omega) _
  obtain ⟨gb, hgb⟩ : ∃ g, g = w.heap.size := ⟨_, rfl⟩
  have hG : Bx w0 gb 30 [.int .i64 p, .slice a l.length c] := by rw [hw0, hgb]; exact ((Bx.new w 30 [.int .i64 p, .slice a l.length c]).alloc _).alloc _
  have hX : Bx w0 (gb + 1) 3 [.int .i64 z] := by
    have := Bx.new (w.alloc (.cells #[.int .i64 p, .slice a l.length c] 30)) 3 [.int .i64 z]
    have e : (w.alloc (.cells #[.int .i64 p, .slice a l.length c] 30)).heap.size = gb + 1 := by rw [hgb]; simp
    rw [e] at this
    rw [hw0]
    exact this.alloc _
  have hZ : Bx w0 (gb + 1 + 1) 43 (prC Prs.zero) := by
    have := Bx.new ((w.alloc (.cells #[.int .i64 p, .slice a l.length c] 30)).alloc (.cells #[.int .i64 z] 3)) 43 (prC Prs.zero)
    have e : ((w.alloc (.cells #[.int .i64 p, .slice a l.length c] 30)).alloc (.cells #[.int .i64 z] 3)).heap.size = gb + 1 + 1 := by rw [hgb]; simp
    rw [e] at this
    rw [hw0]
    exact this
  have hR0 := hR.keep hb0
  have hbw : w.heap.size = gb := hgb.symm
  have HI := Lib.hid (eby_first p a l c z (gb + 1) w0 hX hR0 hn)
  generalize (fstP Prs.key l z).isSome = bb at *
  generalize (fstP Prs.key l z).getD Prs.zero = rr at *
  clear hgb hR
  go_enter Tryz.func41, Tryz.ntmps41
  go_upto_region 1 with (fail)
  rw [← hw0]
  clear hw0
  have c0 := hG.cell 0 (v := .int .i64 p) rfl
  have c1 := hG.cell 1 (v := .slice a l.length c) rfl
  go_wp2_with (go_at_call 49; (with_reducible refine HI.out.mono ?_))
  rintro e w1 ⟨rfl, hb1⟩
  replace hZ := hZ.keep hb1
  have hbb := hb0.trans (hb1.mono hb0.size)
  clear hb0 hb1 c0 c1 HI
  have z0 := hZ.cell 0 (v := .int .i64 0) rfl
  have z1 := hZ.cell 1 (v := .int .i64 0) rfl
  have z2 := hZ.cell 2 (v := .int .i64 0) rfl
  have f0 := hZ.free 0
  have f1 := hZ.free 1
  have f2 := hZ.free 2
  have HX := Lib.hid (((hZ.set 0 (.int .i64 rr.id)).set 1 (.int .i64 rr.key)).set 2 (.int .i64 rr.dep))
  have HBB := Lib.hid (((hbb.setCell (p := ⟨gb + 1 + 1, 0, none⟩) (by show _ ≤ gb + 1 + 1; omega) (.int .i64 rr.id)).setCell (p := ⟨gb + 1 + 1, 1, none⟩) (by show _ ≤ gb + 1 + 1; omega) (.int .i64 rr.key)).setCell (p := ⟨gb + 1 + 1, 2, none⟩) (by show _ ≤ gb + 1 + 1; omega) (.int .i64 rr.dep))
  clear hG hX hZ hbb hR0
  go_wp2
  exact bodyPost_ret (Bx.prs (t := 4) (u := 5) (r := rr) rfl _ rfl HX.out) rfl ⟨rfl, hbw ▸ HBB.out⟩
end Go.Proofs.YtnahkfchcminpaaGreatDoor
