/- Offices: which are right: the program's Check. -/
import Derived.Test.YtekhepklaokaiaaDoorGTokC
import Derived.Test.YtekhepklaokaiaaDoorIn
import Derived.Lib.QuietBelow
namespace Go.Proofs.YtekhepklaokaiaaDoor
open Go.RowKit
/-- the row box -/
abbrev isB (r : Iss) : Obj := .cells #[.int .i64 r.per, .int .i64 r.prd, .int .i64 r.cnt] 57
theorem iok_not {p key quota : Int} {l : List Iss} {k : Nat} {r : Iss} (hr : l[k]? = some r) (h : ¬ iOk l k r) : Ending.returned (.int .i64 42) = .returned (.int .i64 (chkI p key quota l)) := by rw [chkI_bad hr h]
set_option maxRecDepth 100000 in
theorem tsafe_walk (p : Int) (w : World) (hB : Bases w) :
    Calls Tryd.prog 18 #[.int .i64 p] w fun e w' => e = .returned (.bool (safeP p)) ∧ w = w' := by
  cases hs : safeP p with
  | true =>
    have KM := Lib.hid (hmod_yes p w hB hs)
    clear hs hB
    go_enter Tryd.func18, Tryd.ntmps18
    go_wp2_with (go_at_call 33; (with_reducible refine KM.out.mono ?_))
    rintro e w1 ⟨rfl, rfl⟩
    go_wp2
    go_ret
    exact ⟨rfl, rfl⟩
  | false =>
    have KM := Lib.hid (hmod_no p w hB hs)
    clear hs hB
    go_enter Tryd.func18, Tryd.ntmps18
    go_wp2_with (go_at_call 33; (with_reducible refine KM.out.mono ?_))
    rintro e w1 ⟨rfl, rfl⟩
    go_wp2
    go_ret
    exact ⟨rfl, rfl⟩
set_option maxRecDepth 100000 in
theorem texp_walk (p x : Int) (w : World) (hp : -4611686018427387904 ≤ p ∧ p ≤ 4611686018427387904) :
    Calls Tryd.prog 20 #[.int .i64 p, .int .i64 x] w fun e w' => e = .returned (.bool (decide (1 ≤ x ∧ x ≤ p - 1))) ∧ w = w' := by
  have hw : IntKind.i64.wrap (p - 1) = p - 1 := by rw [IntKind.wrap_i64]; omega
  by_cases h : 1 ≤ x ∧ x ≤ p - 1
  · have K := Lib.hid (in_yes (n := x) (lo := 1) (hi := p - 1) w h)
    rw [decide_eq_true h]
    clear h hp
    go_enter Tryd.func20, Tryd.ntmps20
    go_wp2_with (go_at_call 27; (with_reducible refine K.out.mono ?_))
    rintro e w1 ⟨rfl, rfl⟩
    go_wp2
    go_ret
    exact ⟨rfl, rfl⟩
  · have K := Lib.hid (in_no (n := x) (lo := 1) (hi := p - 1) w h)
    rw [decide_eq_false h]
    clear h hp
    go_enter Tryd.func20, Tryd.ntmps20
    go_wp2_with (go_at_call 27; (with_reducible refine K.out.mono ?_))
    rintro e w1 ⟨rfl, rfl⟩
    go_wp2
    go_ret
    exact ⟨rfl, rfl⟩
set_option maxRecDepth 100000 in
set_option maxHeartbeats 4000000 in
theorem icheck_walk (p key quota : Int) (q : Option Addr) (l : List Iss) (cap : Nat) (w : World) (hB : Bases w) (hR : Rd w q (rowsC isC l)) (hn : l.length ≤ 281474976710656) :
    Calls Tryd.prog 14 #[.agg #[.int .i64 p, .int .i64 key, .int .i64 quota, .slice q l.length cap]] w fun e w' => e = .returned (.int .i64 (chkI p key quota l)) ∧ Below w.heap.size w w' := by
  have hb0 := (Below.refl w.heap.size w).alloc (Nat.le_refl _) (.cells #[.int .i64 p, .int .i64 key, .int .i64 quota, .slice q l.length cap] 35)
  have hG := Bx.new w 35 (offC p key quota (.slice q l.length cap))
  have hR1 := hR.keep hb0
  have hB1 := hB.keep hb0
  change Bx (w.alloc (.cells #[.int .i64 p, .int .i64 key, .int .i64 quota, .slice q l.length cap] 35)) _ _ _ at hG
  go_enter Tryd.func14, Tryd.ntmps14
  go_upto_region 1 with (fail)
  generalize w.alloc (.cells #[.int .i64 p, .int .i64 key, .int .i64 quota, .slice q l.length cap] 35) = w0 at *
  obtain ⟨gg, hgg⟩ : ∃ gg, w.heap.size = gg := ⟨_, rfl⟩
  rw [hgg] at hG ⊢
  clear hgg hR hB
  have c0 := hG.cell 0 (v := .int .i64 p) rfl
  have c1 := hG.cell 1 (v := .int .i64 key) rfl
  have c2 := hG.cell 2 (v := .int .i64 quota) rfl
  have c3 := hG.cell 3 (v := .slice q l.length cap) rfl
  have KS := Lib.hid (tsafe_walk p w0 hB1)
  by_cases hs : safeP p = true
  rotate_left
  · have HC := Lib.hid (chkI_off (key := key) (quota := quota) (l := l) (fun h => hs h.1))
    rw [Bool.not_eq_true] at hs
    rw [hs] at KS
    clear hs
    go_wp2_with (go_at_call 18; (with_reducible refine KS.out.mono ?_))
    rintro e w1 ⟨rfl, rfl⟩
    go_wp2
    go_ret
    exact ⟨ret_int HC.out.symm, hb0⟩
  obtain ⟨h3, h30, -⟩ := safeP_bd hs
  have KE := Lib.hid (texp_walk p key w0 (by omega))
  by_cases he : 1 ≤ key ∧ key ≤ p - 1
  rotate_left
  · have HC := Lib.hid (chkI_off (p := p) (quota := quota) (l := l) (fun h => he h.2.1))
    rw [hs] at KS
    rw [decide_eq_false he] at KE
    clear hs he
    go_wp2_with (go_at_call 18; (with_reducible refine KS.out.mono ?_))
    rintro e w1 ⟨rfl, rfl⟩
    go_wp2_with (go_at_call 20; (with_reducible refine KE.out.mono ?_))
    rintro e w1 ⟨rfl, rfl⟩
    go_wp2
    go_ret
    exact ⟨ret_int HC.out.symm, hb0⟩
  by_cases hqq : 0 ≤ quota ∧ quota ≤ 1000
  rotate_left
  · have HC := Lib.hid (chkI_off (p := p) (key := key) (l := l) (fun h => hqq h.2.2))
    have KQ := Lib.hid (in_no (n := quota) (lo := 0) (hi := 1000) w0 hqq)
    rw [hs] at KS
    rw [decide_eq_true he] at KE
    clear hs he hqq
    go_wp2_with (go_at_call 18; (with_reducible refine KS.out.mono ?_))
    rintro e w1 ⟨rfl, rfl⟩
    go_wp2_with (go_at_call 20; (with_reducible refine KE.out.mono ?_))
    rintro e w1 ⟨rfl, rfl⟩
    go_wp2_with (go_at_call 27; (with_reducible refine KQ.out.mono ?_))
    rintro e w1 ⟨rfl, rfl⟩
    go_wp2
    go_ret
    exact ⟨ret_int HC.out.symm, hb0⟩
  have KQ := Lib.hid (in_yes (n := quota) (lo := 0) (hi := 1000) w0 hqq)
  have HOF := Lib.hid (show offOk p key quota from ⟨hs, he, hqq⟩)
  rw [hs] at KS
  rw [decide_eq_true he] at KE
  clear hs he hqq
  by_cases hlong : 1024 < l.length
  · have HC := Lib.hid (chkI_long (p := p) (key := key) (quota := quota) hlong)
    have d1 : decide ((l.length : Int) > 1024) = true := decide_eq_true (by omega)
    clear hlong
    go_wp2_with (go_at_call 18; (with_reducible refine KS.out.mono ?_))
    rintro e w1 ⟨rfl, rfl⟩
    go_wp2_with (go_at_call 20; (with_reducible refine KE.out.mono ?_))
    rintro e w1 ⟨rfl, rfl⟩
    go_wp2_with (go_at_call 27; (with_reducible refine KQ.out.mono ?_))
    rintro e w1 ⟨rfl, rfl⟩
    go_wp2
    go_ret
    exact ⟨ret_int HC.out.symm, hb0⟩
  have d1 : decide ((l.length : Int) > 1024) = false := decide_eq_false (by omega)
  go_wp2_with (go_at_call 18; (with_reducible refine KS.out.mono ?_))
  rintro e w1 ⟨rfl, rfl⟩
  go_wp2_with (go_at_call 20; (with_reducible refine KE.out.mono ?_))
  rintro e w1 ⟨rfl, rfl⟩
  go_wp2_with (go_at_call 27; (with_reducible refine KQ.out.mono ?_))
  rintro e w1 ⟨rfl, rfl⟩
  clear KS KE KQ c0 c1 c2
  go_wp2_with fail
  go_loopw [32] (fun i wr => ∃ k : Nat, k ≤ l.length ∧ i = .int .i64 (k : Int) ∧ IGood l k ∧ Below w.heap.size w wr ∧ Bx wr gg 35 (offC p key quota (.slice q l.length cap)) ∧ Rd wr q (rowsC isC l)) (fun i _ => l.length - (intOf i).toNat)
  case atStart => exact ⟨0, Nat.zero_le _, rfl, IGood.zero l, hb0, hG, hR1⟩
  case round =>
    clear hG hR1 hb0 c3
    obtain ⟨k, hk, rfl, hRt, hB, hG, hR1⟩ := hrel
    have HRt := Lib.hid hRt
    clear hRt
    by_cases hkt : k < l.length
    rotate_left
    · have hkl : ¬ ((k : Int) < (l.length : Int)) := by omega
      obtain rfl : k = l.length := by omega
      have HC := Lib.hid (chkI_ok HOF.out (by omega) HRt.out)
      go_wp2
      go_ret
      exact ⟨ret_int HC.out.symm, hB⟩
    obtain ⟨g, off, r, rfl, hr, c0, c1, c2⟩ := hR1.is (k := k) hkt
    have hkl : (k : Int) < (l.length : Int) := by omega
    have hbx := Bx.new wr 57 (isC r)
    have hb1 := (Below.refl wr.heap.size wr).alloc (Nat.le_refl _) (isB r)
    replace hG := hG.keep hb1
    replace hR1 := hR1.keep hb1
    replace hB := hB.trans (hb1.mono (by have := hB.size; omega))
    go_wp2_with fail
    change Bx (wr.alloc (.cells #[.int .i64 r.per, .int .i64 r.prd, .int .i64 r.cnt] 57)) _ _ _ at hbx
    generalize wr.alloc (.cells #[.int .i64 r.per, .int .i64 r.prd, .int .i64 r.cnt] 57) = w1 at *
    clear c0 c1 c2 hb1
    generalize wr.heap.size = gb at *
    have d0 := fun d os => cell_regrown (hbx.cell 0 (v := .int .i64 r.per) rfl) d os
    have d2 := fun d os => cell_regrown (hbx.cell 1 (v := .int .i64 r.prd) rfl) d os
    have d3 := fun d os => cell_regrown (hbx.cell 2 (v := .int .i64 r.cnt) rfl) d os
    have d5 := fun d os => cell_regrown (hG.cell 3 (v := .slice (some ⟨g, off, none⟩) l.length cap) rfl) d os
    have HR1 := Lib.hid hR1
    clear hR1
    by_cases q1 : 1 ≤ r.per ∧ r.per ≤ 1048576
    rotate_left
    · have KA := Lib.hid (fun V : World => in_no (n := r.per) (lo := 1) (hi := 1048576) V q1)
      have HBad := Lib.hid (iok_not (p := p) (key := key) (quota := quota) hr.out (fun h => q1 h.1))
      clear q1
      refine wp_region_quiet_below (by kernel_rfl) (by kernel_rfl) ?_
      repeat (go_big_quiet_step (first | (go_at_call 27; with_reducible exact Calls.regrown_of (Calls.calm (KA.out _)))))
      refine wpQuiet_nil ?_
      rintro w3 ⟨p2, rfl⟩
      have hb2 := below_regrown w1 p2.d p2.os
      replace hG := hG.keep hb2
      replace hB := hB.trans (hb2.mono (by have := hB.size; omega))
      have hR1 := HR1.out.keep hb2
      clear hb2 d0 d2 d3 d5
      go_wp2
      go_ret
      exact ⟨HBad.out, hB⟩
    have KA := Lib.hid (fun V : World => in_yes (n := r.per) (lo := 1) (hi := 1048576) V q1)
    by_cases q2 : 0 ≤ r.prd ∧ r.prd ≤ 1099511627776
    rotate_left
    · have KP := Lib.hid (fun V : World => in_no (n := r.prd) (lo := 0) (hi := 1099511627776) V q2)
      have HBad := Lib.hid (iok_not (p := p) (key := key) (quota := quota) hr.out (fun h => q2 h.2.1))
      clear q1 q2
      refine wp_region_quiet_below (by kernel_rfl) (by kernel_rfl) ?_
      repeat (go_big_quiet_step (first | (go_at_call 27; with_reducible exact Calls.regrown_of (Calls.calm (KA.out _))) | (go_at_call 27; with_reducible exact Calls.regrown_of (Calls.calm (KP.out _)))))
      refine wpQuiet_nil ?_
      rintro w3 ⟨p2, rfl⟩
      have hb2 := below_regrown w1 p2.d p2.os
      replace hG := hG.keep hb2
      replace hB := hB.trans (hb2.mono (by have := hB.size; omega))
      have hR1 := HR1.out.keep hb2
      clear hb2 d0 d2 d3 d5
      go_wp2
      go_ret
      exact ⟨HBad.out, hB⟩
    have KP := Lib.hid (fun V : World => in_yes (n := r.prd) (lo := 0) (hi := 1099511627776) V q2)
    by_cases q3 : 1 ≤ r.cnt ∧ r.cnt ≤ 1000
    rotate_left
    · have KC := Lib.hid (fun V : World => in_no (n := r.cnt) (lo := 1) (hi := 1000) V q3)
      have HBad := Lib.hid (iok_not (p := p) (key := key) (quota := quota) hr.out (fun h => q3 h.2.2.1))
      clear q1 q2 q3
      refine wp_region_quiet_below (by kernel_rfl) (by kernel_rfl) ?_
      repeat (go_big_quiet_step (first | (go_at_call 27; with_reducible exact Calls.regrown_of (Calls.calm (KA.out _))) | (go_at_call 27; with_reducible exact Calls.regrown_of (Calls.calm (KP.out _))) | (go_at_call 27; with_reducible exact Calls.regrown_of (Calls.calm (KC.out _)))))
      refine wpQuiet_nil ?_
      rintro w3 ⟨p2, rfl⟩
      have hb2 := below_regrown w1 p2.d p2.os
      replace hG := hG.keep hb2
      replace hB := hB.trans (hb2.mono (by have := hB.size; omega))
      have hR1 := HR1.out.keep hb2
      clear hb2 d0 d2 d3 d5
      go_wp2
      go_ret
      exact ⟨HBad.out, hB⟩
    have KC := Lib.hid (fun V : World => in_yes (n := r.cnt) (lo := 1) (hi := 1000) V q3)
    by_cases hk0 : k = 0
    · have n1 : decide ((k : Int) > 0) = false := decide_eq_false (by omega)
      have n2 : decide (0 < k) = false := decide_eq_false (by omega)
      have HGD := Lib.hid (HRt.out.succ hr.out (show iOk l k r from ⟨q1, q2, q3, fun x h => absurd h (by omega)⟩))
      clear q1 q2 q3
      refine wp_region_quiet_below (by kernel_rfl) (by kernel_rfl) ?_
      repeat (go_big_quiet_step (first | (go_at_call 27; with_reducible exact Calls.regrown_of (Calls.calm (KA.out _))) | (go_at_call 27; with_reducible exact Calls.regrown_of (Calls.calm (KP.out _))) | (go_at_call 27; with_reducible exact Calls.regrown_of (Calls.calm (KC.out _)))))
      refine wpQuiet_nil ?_
      rintro w3 ⟨p2, rfl⟩
      have hb2 := below_regrown w1 p2.d p2.os
      replace hG := hG.keep hb2
      replace hB := hB.trans (hb2.mono (by have := hB.size; omega))
      have hR1 := HR1.out.keep hb2
      clear hb2 d0 d2 d3 d5
      go_wp2
      go_roundw
      case rel => exact ⟨k + 1, by omega, by go_num, HGD.out, hB, hG, hR1⟩
      case measure => simp [intOf]; omega
    have n1 : decide ((k : Int) > 0) = true := decide_eq_true (by omega)
    have n2 : decide (0 < k) = true := decide_eq_true (by omega)
    obtain ⟨g', off', x, hg', hx, e0, e1, e2⟩ := HR1.out.is (k := k - 1) (by omega)
    cases hg'
    have d6 := fun d os => cell_regrown e0 d os
    have d7 := fun d os => cell_regrown e1 d os
    have d8 := fun d os => cell_regrown e2 d os
    have n3 : IntKind.i64.wrap ((k : Int) - 1) = (k : Int) - 1 := by rw [IntKind.wrap_i64]; omega
    have n4 : 0 ≤ (k : Int) - 1 := by omega
    have n5 : ((k : Int) - 1).toNat = k - 1 := by omega
    have n6 : (k : Int) - 1 < (l.length : Int) := by omega
    have hnear := (HRt.out _ x (by omega) hx.out).near (a := r.per) (b := r.prd) ⟨by omega, by omega⟩
    obtain ⟨c, hc⟩ : ∃ c, c = rowI x r.per r.prd := ⟨_, rfl⟩
    have KR := Lib.hid (fun V => (show Calls Tryd.prog 31 #[.agg #[.int .i64 x.per, .int .i64 x.prd, .int .i64 x.cnt], .int .i64 r.per, .int .i64 r.prd] V fun e w' => e = .returned (.int .i64 c) ∧ Below V.heap.size V w' by rw [hc]; exact irow_walk x r.per r.prd V hnear.1 hnear.2))
    clear hnear e0 e1 e2
    by_cases q4 : ltI x r.per r.prd
    rotate_left
    · have n7 : decide (c ≥ 0) = true := decide_eq_true (by rw [← rowI_neg, ← hc] at q4; omega)
      have n8 : decide (0 ≤ c) = true := n7
      have HBad := Lib.hid (iok_not (p := p) (key := key) (quota := quota) hr.out (fun h => q4 (h.2.2.2 x (by omega) hx.out)))
      clear q1 q2 q3 q4 hc
      refine wp_region_quiet_below (by kernel_rfl) (by kernel_rfl) ?_
      repeat (go_big_quiet_step (first | (go_at_call 27; with_reducible exact Calls.regrown_of (Calls.calm (KA.out _))) | (go_at_call 27; with_reducible exact Calls.regrown_of (Calls.calm (KP.out _))) | (go_at_call 27; with_reducible exact Calls.regrown_of (Calls.calm (KC.out _))) | (go_at_call 31; with_reducible exact Calls.regrown_of (KR.out _))))
      refine wpQuiet_nil ?_
      rintro w3 ⟨p2, rfl⟩
      have hb2 := below_regrown w1 p2.d p2.os
      replace hG := hG.keep hb2
      replace hB := hB.trans (hb2.mono (by have := hB.size; omega))
      have hR1 := HR1.out.keep hb2
      clear hb2 d0 d2 d3 d5
      go_wp2
      go_ret
      exact ⟨HBad.out, hB⟩
    have n7 : decide (c ≥ 0) = false := decide_eq_false (by rw [← rowI_neg, ← hc] at q4; omega)
    have n8 : decide (0 ≤ c) = false := n7
    have HGD := Lib.hid (HRt.out.succ hr.out (show iOk l k r from ⟨q1, q2, q3, fun y _ hy => by rw [hx.out] at hy; cases hy; exact q4⟩))
    clear q1 q2 q3 q4 hc
    refine wp_region_quiet_below (by kernel_rfl) (by kernel_rfl) ?_
    repeat (go_big_quiet_step (first | (go_at_call 27; with_reducible exact Calls.regrown_of (Calls.calm (KA.out _))) | (go_at_call 27; with_reducible exact Calls.regrown_of (Calls.calm (KP.out _))) | (go_at_call 27; with_reducible exact Calls.regrown_of (Calls.calm (KC.out _))) | (go_at_call 31; with_reducible exact Calls.regrown_of (KR.out _))))
    refine wpQuiet_nil ?_
    rintro w3 ⟨p2, rfl⟩
    have hb2 := below_regrown w1 p2.d p2.os
    replace hG := hG.keep hb2
    replace hB := hB.trans (hb2.mono (by have := hB.size; omega))
    have hR1 := HR1.out.keep hb2
    clear hb2 d0 d2 d3 d5
    go_wp2
    go_roundw
    case rel => exact ⟨k + 1, by omega, by go_num, HGD.out, hB, hG, hR1⟩
    case measure => simp [intOf]; omega
end Go.Proofs.YtekhepklaokaiaaDoor
