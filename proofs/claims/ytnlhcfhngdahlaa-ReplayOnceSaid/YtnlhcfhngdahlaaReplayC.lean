/- Guards: which are right: the program's Check. -/
import Derived.Test.YtnlhcfhngdahlaaReplayB
import Derived.Test.YtnlhcfhngdahlaaIn
namespace Go.Proofs.Ytnlhcfhngdahlaa
open Go.RowKit
/-- the row box -/
abbrev kpB (r : Kpt) : Obj := .cells #[.int .i64 r.sen, .int .i64 r.cnt, .string ⟨r.mark.toArray⟩, .string ⟨r.ans.toArray⟩] 37
theorem ok_not {l : List Kpt} {k : Nat} {r : Kpt} (hr : l[k]? = some r) (h : ¬ okAt l k r) : Ending.returned (.int .i64 1) = .returned (.int .i64 (chkG l)) := by rw [chkG_bad hr h]
set_option maxRecDepth 100000 in
set_option maxHeartbeats 4000000 in
theorem kcheck_walk (a : Option Addr) (l : List Kpt) (cap : Nat) (w : World) (hR : Rd w a (rowsC kpC l)) (hn : l.length ≤ 281474976710656) :
    Calls Try.prog 17 #[.agg #[.slice a l.length cap]] w fun e w' => e = .returned (.int .i64 (chkG l)) ∧ Below w.heap.size w w' := by
  have hb0 := (Below.refl w.heap.size w).alloc (Nat.le_refl _) (.cells #[.slice a l.length cap] 24)
  by_cases hlong : 64 < l.length
  · have hc := chkG_long hlong
    have HC := Lib.hid hc
    have d1 : decide ((l.length : Int) > 64) = true := decide_eq_true (by omega)
    clear hc
    go_enter Try.func17, Try.ntmps17
    go_wp2
    go_ret
    exact ⟨by rw [HC.out]; rfl, hb0⟩
  have d1 : decide ((l.length : Int) > 64) = false := decide_eq_false (by omega)
  have hG := Bx.new w 24 [.slice a l.length cap]
  have hR1 := hR.keep hb0
  go_enter Try.func17, Try.ntmps17
  go_wp2_with fail
  change Bx (w.alloc (.cells #[.slice a l.length cap] 24)) _ _ _ at hG
  generalize w.alloc (.cells #[.slice a l.length cap] 24) = w0 at *
  obtain ⟨gg, hgg⟩ : ∃ gg, w.heap.size = gg := ⟨_, rfl⟩
  rw [hgg] at hG ⊢
  clear hgg
  go_loopw [12] (fun i wr => ∃ k : Nat, k ≤ l.length ∧ i = .int .i64 (k : Int) ∧ Good l k ∧ Below w.heap.size w wr ∧ Bx wr gg 24 [.slice a l.length cap] ∧ Rd wr a (rowsC kpC l)) (fun i _ => l.length - (intOf i).toNat)
  case atStart => exact ⟨0, Nat.zero_le _, rfl, Good.zero l, hb0, hG, hR1⟩
  case round =>
    clear hG hR1 hb0
    obtain ⟨k, hk, rfl, hRt, hB, hG, hR1⟩ := hrel
    have HRt := Lib.hid hRt
    clear hRt
    by_cases hkt : k < l.length
    · obtain ⟨g, off, r, rfl, hr, c0, c1, c2, c3⟩ := hR1.kp (k := k) hkt
      have hkl : (k : Int) < (l.length : Int) := by omega
      have hbx := Bx.new wr 37 (kpC r)
      have hb1 := (Below.refl wr.heap.size wr).alloc (Nat.le_refl _) (kpB r)
      replace hG := hG.keep hb1
      replace hR1 := hR1.keep hb1
      replace hB := hB.trans (hb1.mono (by have := hB.size; omega))
      go_wp2_with fail
      change Bx (wr.alloc (.cells #[.int .i64 r.sen, .int .i64 r.cnt, .string ⟨r.mark.toArray⟩, .string ⟨r.ans.toArray⟩] 37)) _ _ _ at hbx
      generalize wr.alloc (.cells #[.int .i64 r.sen, .int .i64 r.cnt, .string ⟨r.mark.toArray⟩, .string ⟨r.ans.toArray⟩] 37) = w1 at *
      clear c0 c1 c2 c3 hb1
      generalize wr.heap.size = gb at *
      have d0 := fun d os => cell_regrown (hbx.cell 0 (v := .int .i64 r.sen) rfl) d os
      have d2 := fun d os => cell_regrown (hbx.cell 1 (v := .int .i64 r.cnt) rfl) d os
      have d3 := fun d os => cell_regrown (hbx.cell 2 (v := .string ⟨r.mark.toArray⟩) rfl) d os
      have d4 := fun d os => cell_regrown (hbx.cell 3 (v := .string ⟨r.ans.toArray⟩) rfl) d os
      have d5 := fun d os => cell_regrown (hG.cell 0 (v := .slice (some ⟨g, off, none⟩) l.length cap) rfl) d os
      have HR1 := Lib.hid hR1
      have HOK : Hid (okAt l k r ↔ (1 ≤ r.sen ∧ r.sen ≤ 1048576) ∧ (∀ x, 0 < k → l[k - 1]? = some x → x.sen < r.sen) ∧ (1 ≤ r.cnt ∧ r.cnt ≤ 1099511627776) ∧ r.mark.length = 32 ∧ r.ans.length ≤ 16384) := Lib.hid Iff.rfl
      clear HOK hR1
      by_cases q1 : 1 ≤ r.sen ∧ r.sen ≤ 1048576
      · have KS := Lib.hid (fun V : World => in_yes (n := r.sen) (lo := 1) (hi := 1048576) V q1)
        by_cases hk0 : k = 0
        · have q2 : True := trivial
          have n1 : decide ((k : Int) > 0) = false := decide_eq_false (by omega)
          have n2 : decide (0 < k) = false := decide_eq_false (by omega)
          by_cases q3 : 1 ≤ r.cnt ∧ r.cnt ≤ 1099511627776
          · have KC := Lib.hid (fun V : World => in_yes (n := r.cnt) (lo := 1) (hi := 1099511627776) V q3)
            by_cases q4 : r.mark.length = 32
            · have m1 : ((r.mark.length : Int) != 32) = false := by rw [q4]; rfl
              by_cases q5 : r.ans.length ≤ 16384
              · have m2 : decide ((r.ans.length : Int) > 16384) = false := decide_eq_false (by omega)
                have m3 : decide (16384 < r.ans.length) = false := decide_eq_false (by omega)
                have HGD := Lib.hid (HRt.out.succ hr.out (show okAt l k r from ⟨q1, fun x h => absurd h (by omega), q3, q4, q5⟩))
                clear q1 q2 q3 q4 q5
                refine wp_region_quiet_below (by kernel_rfl) (by kernel_rfl) ?_
                repeat (go_big_quiet_step (first | (go_at_call 32; with_reducible exact Calls.regrown_of (Calls.calm (KS.out _))) | (go_at_call 32; with_reducible exact Calls.regrown_of (Calls.calm (KC.out _)))))
                refine wpQuiet_nil ?_
                rintro w3 ⟨p2, rfl⟩
                have hb2 := below_regrown w1 p2.d p2.os
                replace hG := hG.keep hb2
                replace hB := hB.trans (hb2.mono (by have := hB.size; omega))
                have hR1 := HR1.out.keep hb2
                clear hb2 d0 d2 d3 d4 d5
                go_wp2
                go_roundw
                case rel => exact ⟨k + 1, by omega, by go_num, HGD.out, hB, hG, hR1⟩
                case measure => simp [intOf]; omega
              · have m2 : decide ((r.ans.length : Int) > 16384) = true := decide_eq_true (by omega)
                have m3 : decide (16384 < r.ans.length) = true := decide_eq_true (by omega)
                have HBad := Lib.hid (ok_not hr.out (fun h => q5 h.2.2.2.2))
                clear q1 q2 q3 q4 q5
                refine wp_region_quiet_below (by kernel_rfl) (by kernel_rfl) ?_
                repeat (go_big_quiet_step (first | (go_at_call 32; with_reducible exact Calls.regrown_of (Calls.calm (KS.out _))) | (go_at_call 32; with_reducible exact Calls.regrown_of (Calls.calm (KC.out _)))))
                refine wpQuiet_nil ?_
                rintro w3 ⟨p2, rfl⟩
                have hb2 := below_regrown w1 p2.d p2.os
                replace hG := hG.keep hb2
                replace hB := hB.trans (hb2.mono (by have := hB.size; omega))
                have hR1 := HR1.out.keep hb2
                clear hb2 d0 d2 d3 d4 d5
                go_wp2
                go_ret
                exact ⟨HBad.out, hB⟩
            · have m1 : ((r.mark.length : Int) != 32) = true := by rw [bne_iff_ne]; omega
              have HBad := Lib.hid (ok_not hr.out (fun h => q4 h.2.2.2.1))
              clear q1 q2 q3 q4
              refine wp_region_quiet_below (by kernel_rfl) (by kernel_rfl) ?_
              repeat (go_big_quiet_step (first | (go_at_call 32; with_reducible exact Calls.regrown_of (Calls.calm (KS.out _))) | (go_at_call 32; with_reducible exact Calls.regrown_of (Calls.calm (KC.out _)))))
              refine wpQuiet_nil ?_
              rintro w3 ⟨p2, rfl⟩
              have hb2 := below_regrown w1 p2.d p2.os
              replace hG := hG.keep hb2
              replace hB := hB.trans (hb2.mono (by have := hB.size; omega))
              have hR1 := HR1.out.keep hb2
              clear hb2 d0 d2 d3 d4 d5
              go_wp2
              go_ret
              exact ⟨HBad.out, hB⟩
          · have KC := Lib.hid (fun V : World => in_no (n := r.cnt) (lo := 1) (hi := 1099511627776) V q3)
            have HBad := Lib.hid (ok_not hr.out (fun h => q3 h.2.2.1))
            clear q1 q2 q3
            refine wp_region_quiet_below (by kernel_rfl) (by kernel_rfl) ?_
            repeat (go_big_quiet_step (first | (go_at_call 32; with_reducible exact Calls.regrown_of (Calls.calm (KS.out _))) | (go_at_call 32; with_reducible exact Calls.regrown_of (Calls.calm (KC.out _)))))
            refine wpQuiet_nil ?_
            rintro w3 ⟨p2, rfl⟩
            have hb2 := below_regrown w1 p2.d p2.os
            replace hG := hG.keep hb2
            replace hB := hB.trans (hb2.mono (by have := hB.size; omega))
            have hR1 := HR1.out.keep hb2
            clear hb2 d0 d2 d3 d4 d5
            go_wp2
            go_ret
            exact ⟨HBad.out, hB⟩
        · have n1 : decide ((k : Int) > 0) = true := decide_eq_true (by omega)
          have n2 : decide (0 < k) = true := decide_eq_true (by omega)
          obtain ⟨g', off', x, hg', hx, e0, -, -, -⟩ := HR1.out.kp (k := k - 1) (by omega)
          cases hg'
          have d6 := fun d os => cell_regrown e0 d os
          have n3 : IntKind.i64.wrap ((k : Int) - 1) = (k : Int) - 1 := by rw [IntKind.wrap_i64]; omega
          have n4 : 0 ≤ (k : Int) - 1 := by omega
          have n5 : ((k : Int) - 1).toNat = k - 1 := by omega
          have n6 : (k : Int) - 1 < (l.length : Int) := by omega
          by_cases q2 : x.sen < r.sen
          · have n7 : decide (r.sen ≤ x.sen) = false := decide_eq_false (by omega)
            by_cases q3 : 1 ≤ r.cnt ∧ r.cnt ≤ 1099511627776
            · have KC := Lib.hid (fun V : World => in_yes (n := r.cnt) (lo := 1) (hi := 1099511627776) V q3)
              by_cases q4 : r.mark.length = 32
              · have m1 : ((r.mark.length : Int) != 32) = false := by rw [q4]; rfl
                by_cases q5 : r.ans.length ≤ 16384
                · have m2 : decide ((r.ans.length : Int) > 16384) = false := decide_eq_false (by omega)
                  have m3 : decide (16384 < r.ans.length) = false := decide_eq_false (by omega)
                  have HGD := Lib.hid (HRt.out.succ hr.out (show okAt l k r from ⟨q1, fun y _ hy => by rw [hx.out] at hy; cases hy; exact q2, q3, q4, q5⟩))
                  clear q1 q2 q3 q4 q5
                  refine wp_region_quiet_below (by kernel_rfl) (by kernel_rfl) ?_
                  repeat (go_big_quiet_step (first | (go_at_call 32; with_reducible exact Calls.regrown_of (Calls.calm (KS.out _))) | (go_at_call 32; with_reducible exact Calls.regrown_of (Calls.calm (KC.out _)))))
                  refine wpQuiet_nil ?_
                  rintro w3 ⟨p2, rfl⟩
                  have hb2 := below_regrown w1 p2.d p2.os
                  replace hG := hG.keep hb2
                  replace hB := hB.trans (hb2.mono (by have := hB.size; omega))
                  have hR1 := HR1.out.keep hb2
                  clear hb2 d0 d2 d3 d4 d5
                  go_wp2
                  go_roundw
                  case rel => exact ⟨k + 1, by omega, by go_num, HGD.out, hB, hG, hR1⟩
                  case measure => simp [intOf]; omega
                · have m2 : decide ((r.ans.length : Int) > 16384) = true := decide_eq_true (by omega)
                  have m3 : decide (16384 < r.ans.length) = true := decide_eq_true (by omega)
                  have HBad := Lib.hid (ok_not hr.out (fun h => q5 h.2.2.2.2))
                  clear q1 q2 q3 q4 q5
                  refine wp_region_quiet_below (by kernel_rfl) (by kernel_rfl) ?_
                  repeat (go_big_quiet_step (first | (go_at_call 32; with_reducible exact Calls.regrown_of (Calls.calm (KS.out _))) | (go_at_call 32; with_reducible exact Calls.regrown_of (Calls.calm (KC.out _)))))
                  refine wpQuiet_nil ?_
                  rintro w3 ⟨p2, rfl⟩
                  have hb2 := below_regrown w1 p2.d p2.os
                  replace hG := hG.keep hb2
                  replace hB := hB.trans (hb2.mono (by have := hB.size; omega))
                  have hR1 := HR1.out.keep hb2
                  clear hb2 d0 d2 d3 d4 d5
                  go_wp2
                  go_ret
                  exact ⟨HBad.out, hB⟩
              · have m1 : ((r.mark.length : Int) != 32) = true := by rw [bne_iff_ne]; omega
                have HBad := Lib.hid (ok_not hr.out (fun h => q4 h.2.2.2.1))
                clear q1 q2 q3 q4
                refine wp_region_quiet_below (by kernel_rfl) (by kernel_rfl) ?_
                repeat (go_big_quiet_step (first | (go_at_call 32; with_reducible exact Calls.regrown_of (Calls.calm (KS.out _))) | (go_at_call 32; with_reducible exact Calls.regrown_of (Calls.calm (KC.out _)))))
                refine wpQuiet_nil ?_
                rintro w3 ⟨p2, rfl⟩
                have hb2 := below_regrown w1 p2.d p2.os
                replace hG := hG.keep hb2
                replace hB := hB.trans (hb2.mono (by have := hB.size; omega))
                have hR1 := HR1.out.keep hb2
                clear hb2 d0 d2 d3 d4 d5
                go_wp2
                go_ret
                exact ⟨HBad.out, hB⟩
            · have KC := Lib.hid (fun V : World => in_no (n := r.cnt) (lo := 1) (hi := 1099511627776) V q3)
              have HBad := Lib.hid (ok_not hr.out (fun h => q3 h.2.2.1))
              clear q1 q2 q3
              refine wp_region_quiet_below (by kernel_rfl) (by kernel_rfl) ?_
              repeat (go_big_quiet_step (first | (go_at_call 32; with_reducible exact Calls.regrown_of (Calls.calm (KS.out _))) | (go_at_call 32; with_reducible exact Calls.regrown_of (Calls.calm (KC.out _)))))
              refine wpQuiet_nil ?_
              rintro w3 ⟨p2, rfl⟩
              have hb2 := below_regrown w1 p2.d p2.os
              replace hG := hG.keep hb2
              replace hB := hB.trans (hb2.mono (by have := hB.size; omega))
              have hR1 := HR1.out.keep hb2
              clear hb2 d0 d2 d3 d4 d5
              go_wp2
              go_ret
              exact ⟨HBad.out, hB⟩
          · have n7 : decide (r.sen ≤ x.sen) = true := decide_eq_true (by omega)
            have HBad := Lib.hid (ok_not hr.out (fun h => q2 (h.2.1 x (by omega) hx.out)))
            clear q1 q2
            have KC := KS
            refine wp_region_quiet_below (by kernel_rfl) (by kernel_rfl) ?_
            repeat (go_big_quiet_step (first | (go_at_call 32; with_reducible exact Calls.regrown_of (Calls.calm (KS.out _))) | (go_at_call 32; with_reducible exact Calls.regrown_of (Calls.calm (KC.out _)))))
            refine wpQuiet_nil ?_
            rintro w3 ⟨p2, rfl⟩
            have hb2 := below_regrown w1 p2.d p2.os
            replace hG := hG.keep hb2
            replace hB := hB.trans (hb2.mono (by have := hB.size; omega))
            have hR1 := HR1.out.keep hb2
            clear hb2 d0 d2 d3 d4 d5
            go_wp2
            go_ret
            exact ⟨HBad.out, hB⟩
      · have KS := Lib.hid (fun V : World => in_no (n := r.sen) (lo := 1) (hi := 1048576) V q1)
        have KC := KS
        have HBad := Lib.hid (ok_not hr.out (fun h => q1 h.1))
        clear q1
        refine wp_region_quiet_below (by kernel_rfl) (by kernel_rfl) ?_
        repeat (go_big_quiet_step (first | (go_at_call 32; with_reducible exact Calls.regrown_of (Calls.calm (KS.out _))) | (go_at_call 32; with_reducible exact Calls.regrown_of (Calls.calm (KC.out _)))))
        refine wpQuiet_nil ?_
        rintro w3 ⟨p2, rfl⟩
        have hb2 := below_regrown w1 p2.d p2.os
        replace hG := hG.keep hb2
        replace hB := hB.trans (hb2.mono (by have := hB.size; omega))
        have hR1 := HR1.out.keep hb2
        clear hb2 d0 d2 d3 d4 d5
        go_wp2
        go_ret
        exact ⟨HBad.out, hB⟩
    · have hkl : ¬ ((k : Int) < (l.length : Int)) := by omega
      have HC := Lib.hid (chkG_ok (l := l) (by omega) (by rw [show l.length = k by omega]; exact HRt.out))
      go_wp2
      go_ret
      exact ⟨by rw [HC.out]; rfl, hB⟩
end Go.Proofs.Ytnlhcfhngdahlaa
