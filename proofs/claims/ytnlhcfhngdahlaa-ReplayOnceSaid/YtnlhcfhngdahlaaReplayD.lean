/- Guards: which are right: the reference's Check. -/
import Derived.Test.YtnlhcfhngdahlaaReplayC
namespace Go.Proofs.Ytnlhcfhngdahlaa
open Go.RowKit
set_option maxRecDepth 100000 in
set_option maxHeartbeats 4000000 in
theorem rkcheck_walk (a : Option Addr) (l : List Kpt) (cap : Nat) (w : World) (hR : Rd w a (rowsC kpC l)) (hn : l.length ≤ 281474976710656) :
    Calls Try.prog 22 #[.agg #[.slice a l.length cap]] w fun e w' => e = .returned (.int .i64 (chkG l)) ∧ Below w.heap.size w w' := by
  have hb0 := (Below.refl w.heap.size w).alloc (Nat.le_refl _) (.cells #[.slice a l.length cap] 24)
  have hG := Bx.new w 24 [.slice a l.length cap]
  have hR1 := hR.keep hb0
  go_enter Try.func22, Try.ntmps22
  go_wp2_with fail
  change Bx (w.alloc (.cells #[.slice a l.length cap] 24)) _ _ _ at hG
  generalize w.alloc (.cells #[.slice a l.length cap] 24) = w0 at *
  obtain ⟨gg, hgg⟩ : ∃ gg, w.heap.size = gg := ⟨_, rfl⟩
  rw [hgg] at hG ⊢
  clear hgg
  go_loopw [3] (fun i wr => ∃ k : Nat, k ≤ l.length ∧ i = .int .i64 (k : Int) ∧ Good l k ∧ Below w.heap.size w wr ∧ Bx wr gg 24 [.slice a l.length cap] ∧ Rd wr a (rowsC kpC l)) (fun i _ => l.length - (intOf i).toNat)
  case atStart => exact ⟨0, Nat.zero_le _, rfl, Good.zero l, hb0, hG, hR1⟩
  case round =>
    clear hG hR1 hb0
    obtain ⟨k, hk, rfl, hRt, hB, hG, hR1⟩ := hrel
    have HRt := Lib.hid hRt
    clear hRt
    have hgc := hG.cell 0 (v := .slice a l.length cap) rfl
    by_cases hkt : k < l.length
    · obtain ⟨g, off, r, rfl, hr, c0, c1, c2, c3⟩ := hR1.kp (k := k) hkt
      have hkl : (k : Int) < (l.length : Int) := by omega
      have hbx := Bx.new wr 37 (kpC r)
      have hb1 := (Below.refl wr.heap.size wr).alloc (Nat.le_refl _) (kpB r)
      replace hG := hG.keep hb1
      replace hR1 := hR1.keep hb1
      replace hB := hB.trans (hb1.mono (by have := hB.size; omega))
      go_wp2_with fail
      change Bx (wr.alloc (.cells #[.int .i64 r.sen, .int .i64 r.cnt, .string ⟨r.mark.toArray⟩, .string ⟨r.ans.toArray⟩] 37)) _ _ _ at hbx
      generalize wr.alloc (.cells #[.int .i64 r.sen, .int .i64 r.cnt, .string ⟨r.mark.toArray⟩, .string ⟨r.ans.toArray⟩] 37) = w1 at *
      clear c0 c1 c2 c3 hb1 hgc
      generalize wr.heap.size = gb at *
      have d0 := fun d os => cell_regrown (hbx.cell 0 (v := .int .i64 r.sen) rfl) d os
      have d2 := fun d os => cell_regrown (hbx.cell 1 (v := .int .i64 r.cnt) rfl) d os
      have d3 := fun d os => cell_regrown (hbx.cell 2 (v := .string ⟨r.mark.toArray⟩) rfl) d os
      have d4 := fun d os => cell_regrown (hbx.cell 3 (v := .string ⟨r.ans.toArray⟩) rfl) d os
      have d5 := fun d os => cell_regrown (hG.cell 0 (v := .slice (some ⟨g, off, none⟩) l.length cap) rfl) d os
      have HR1 := Lib.hid hR1
      clear hR1
      by_cases q1 : r.sen < 1
      · have q1d : decide (r.sen < 1) = true := decide_eq_true (by omega)
        have HBad := Lib.hid (ok_not hr.out (fun h => absurd (h.1).1 (by omega)))
        clear q1 
        refine wp_region_quiet_below (by kernel_rfl) (by kernel_rfl) ?_
        repeat (go_big_quiet_step (fail))
        refine wpQuiet_nil ?_
        rintro w3 ⟨p2, rfl⟩
        have hb2 := below_regrown w1 p2.d p2.os
        replace hG := hG.keep hb2
        replace hB := hB.trans (hb2.mono (by have := hB.size; omega))
        have hR1 := HR1.out.keep hb2
        clear hb2 d0 d2 d3 d4 d5
        go_wp2
        go_ret
        exact ⟨HBad.out, hB⟩
      have q1d : decide (r.sen < 1) = false := decide_eq_false (by omega)
      by_cases q2 : r.sen > 1048576
      · have q2d : decide (r.sen > 1048576) = true := decide_eq_true (by omega)
        have HBad := Lib.hid (ok_not hr.out (fun h => absurd (h.1).2 (by omega)))
        clear q1 q2 
        refine wp_region_quiet_below (by kernel_rfl) (by kernel_rfl) ?_
        repeat (go_big_quiet_step (fail))
        refine wpQuiet_nil ?_
        rintro w3 ⟨p2, rfl⟩
        have hb2 := below_regrown w1 p2.d p2.os
        replace hG := hG.keep hb2
        replace hB := hB.trans (hb2.mono (by have := hB.size; omega))
        have hR1 := HR1.out.keep hb2
        clear hb2 d0 d2 d3 d4 d5
        go_wp2
        go_ret
        exact ⟨HBad.out, hB⟩
      have q2d : decide (r.sen > 1048576) = false := decide_eq_false (by omega)
      by_cases hk0 : k = 0
      · have q0 : True := trivial
        have n1 : decide ((k : Int) > 0) = false := decide_eq_false (by omega)
        have n2 : decide (0 < k) = false := decide_eq_false (by omega)
        by_cases q3 : r.cnt < 1
        · have q3d : decide (r.cnt < 1) = true := decide_eq_true (by omega)
          have HBad := Lib.hid (ok_not hr.out (fun h => absurd (h.2.2.1).1 (by omega)))
          clear q3 q1 q2 q0
          refine wp_region_quiet_below (by kernel_rfl) (by kernel_rfl) ?_
          repeat (go_big_quiet_step (fail))
          refine wpQuiet_nil ?_
          rintro w3 ⟨p2, rfl⟩
          have hb2 := below_regrown w1 p2.d p2.os
          replace hG := hG.keep hb2
          replace hB := hB.trans (hb2.mono (by have := hB.size; omega))
          have hR1 := HR1.out.keep hb2
          clear hb2 d0 d2 d3 d4 d5
          go_wp2
          go_ret
          exact ⟨HBad.out, hB⟩
        have q3d : decide (r.cnt < 1) = false := decide_eq_false (by omega)
        by_cases q4 : r.cnt > 1099511627776
        · have q4d : decide (r.cnt > 1099511627776) = true := decide_eq_true (by omega)
          have HBad := Lib.hid (ok_not hr.out (fun h => absurd (h.2.2.1).2 (by omega)))
          clear q3 q4 q1 q2 q0
          refine wp_region_quiet_below (by kernel_rfl) (by kernel_rfl) ?_
          repeat (go_big_quiet_step (fail))
          refine wpQuiet_nil ?_
          rintro w3 ⟨p2, rfl⟩
          have hb2 := below_regrown w1 p2.d p2.os
          replace hG := hG.keep hb2
          replace hB := hB.trans (hb2.mono (by have := hB.size; omega))
          have hR1 := HR1.out.keep hb2
          clear hb2 d0 d2 d3 d4 d5
          go_wp2
          go_ret
          exact ⟨HBad.out, hB⟩
        have q4d : decide (r.cnt > 1099511627776) = false := decide_eq_false (by omega)
        by_cases q5 : r.mark.length = 32
        rotate_left
        · have m1 : ((r.mark.length : Int) != 32) = true := by rw [bne_iff_ne]; omega
          have HBad := Lib.hid (ok_not hr.out (fun h => q5 h.2.2.2.1))
          clear q0 q1 q2 q3 q4 q5
          refine wp_region_quiet_below (by kernel_rfl) (by kernel_rfl) ?_
          repeat (go_big_quiet_step (fail))
          refine wpQuiet_nil ?_
          rintro w3 ⟨p2, rfl⟩
          have hb2 := below_regrown w1 p2.d p2.os
          replace hG := hG.keep hb2
          replace hB := hB.trans (hb2.mono (by have := hB.size; omega))
          have hR1 := HR1.out.keep hb2
          clear hb2 d0 d2 d3 d4 d5
          go_wp2
          go_ret
          exact ⟨HBad.out, hB⟩
        have m1 : ((r.mark.length : Int) != 32) = false := by rw [q5]; rfl
        by_cases q6 : r.ans.length ≤ 16384
        rotate_left
        · have m2 : decide ((r.ans.length : Int) > 16384) = true := decide_eq_true (by omega)
          have m3 : decide (16384 < r.ans.length) = true := decide_eq_true (by omega)
          have HBad := Lib.hid (ok_not hr.out (fun h => q6 h.2.2.2.2))
          clear q0 q1 q2 q3 q4 q5 q6
          refine wp_region_quiet_below (by kernel_rfl) (by kernel_rfl) ?_
          repeat (go_big_quiet_step (fail))
          refine wpQuiet_nil ?_
          rintro w3 ⟨p2, rfl⟩
          have hb2 := below_regrown w1 p2.d p2.os
          replace hG := hG.keep hb2
          replace hB := hB.trans (hb2.mono (by have := hB.size; omega))
          have hR1 := HR1.out.keep hb2
          clear hb2 d0 d2 d3 d4 d5
          go_wp2
          go_ret
          exact ⟨HBad.out, hB⟩
        have m2 : decide ((r.ans.length : Int) > 16384) = false := decide_eq_false (by omega)
        have m3 : decide (16384 < r.ans.length) = false := decide_eq_false (by omega)
        have HGD := Lib.hid (HRt.out.succ hr.out (show okAt l k r from ⟨⟨by omega, by omega⟩, fun x h => absurd h (by omega), ⟨by omega, by omega⟩, q5, q6⟩))
        clear q0 q1 q2 q3 q4 q5 q6
        refine wp_region_quiet_below (by kernel_rfl) (by kernel_rfl) ?_
        repeat (go_big_quiet_step (fail))
        refine wpQuiet_nil ?_
        rintro w3 ⟨p2, rfl⟩
        have hb2 := below_regrown w1 p2.d p2.os
        replace hG := hG.keep hb2
        replace hB := hB.trans (hb2.mono (by have := hB.size; omega))
        have hR1 := HR1.out.keep hb2
        clear hb2 d0 d2 d3 d4 d5
        go_wp2
        go_roundw
        case rel => exact ⟨k + 1, by omega, by go_num, HGD.out, hB, hG, hR1⟩
        case measure => simp [intOf]; omega
      · have n1 : decide ((k : Int) > 0) = true := decide_eq_true (by omega)
        have n2 : decide (0 < k) = true := decide_eq_true (by omega)
        obtain ⟨g', off', x, hg', hx, e0, -, -, -⟩ := HR1.out.kp (k := k - 1) (by omega)
        cases hg'
        have d6 := fun d os => cell_regrown e0 d os
        have n3 : IntKind.i64.wrap ((k : Int) - 1) = (k : Int) - 1 := by rw [IntKind.wrap_i64]; omega
        have n4 : 0 ≤ (k : Int) - 1 := by omega
        have n5 : ((k : Int) - 1).toNat = k - 1 := by omega
        have n6 : (k : Int) - 1 < (l.length : Int) := by omega
        by_cases q0 : x.sen < r.sen
        rotate_left
        · have n7 : decide (r.sen ≤ x.sen) = true := decide_eq_true (by omega)
          have HBad := Lib.hid (ok_not hr.out (fun h => q0 (h.2.1 x (by omega) hx.out)))
          clear q0 q1 q2
          refine wp_region_quiet_below (by kernel_rfl) (by kernel_rfl) ?_
          repeat (go_big_quiet_step (fail))
          refine wpQuiet_nil ?_
          rintro w3 ⟨p2, rfl⟩
          have hb2 := below_regrown w1 p2.d p2.os
          replace hG := hG.keep hb2
          replace hB := hB.trans (hb2.mono (by have := hB.size; omega))
          have hR1 := HR1.out.keep hb2
          clear hb2 d0 d2 d3 d4 d5
          go_wp2
          go_ret
          exact ⟨HBad.out, hB⟩
        have n7 : decide (r.sen ≤ x.sen) = false := decide_eq_false (by omega)
        by_cases q3 : r.cnt < 1
        · have q3d : decide (r.cnt < 1) = true := decide_eq_true (by omega)
          have HBad := Lib.hid (ok_not hr.out (fun h => absurd (h.2.2.1).1 (by omega)))
          clear q3 q1 q2 q0
          refine wp_region_quiet_below (by kernel_rfl) (by kernel_rfl) ?_
          repeat (go_big_quiet_step (fail))
          refine wpQuiet_nil ?_
          rintro w3 ⟨p2, rfl⟩
          have hb2 := below_regrown w1 p2.d p2.os
          replace hG := hG.keep hb2
          replace hB := hB.trans (hb2.mono (by have := hB.size; omega))
          have hR1 := HR1.out.keep hb2
          clear hb2 d0 d2 d3 d4 d5
          go_wp2
          go_ret
          exact ⟨HBad.out, hB⟩
        have q3d : decide (r.cnt < 1) = false := decide_eq_false (by omega)
        by_cases q4 : r.cnt > 1099511627776
        · have q4d : decide (r.cnt > 1099511627776) = true := decide_eq_true (by omega)
          have HBad := Lib.hid (ok_not hr.out (fun h => absurd (h.2.2.1).2 (by omega)))
          clear q3 q4 q1 q2 q0
          refine wp_region_quiet_below (by kernel_rfl) (by kernel_rfl) ?_
          repeat (go_big_quiet_step (fail))
          refine wpQuiet_nil ?_
          rintro w3 ⟨p2, rfl⟩
          have hb2 := below_regrown w1 p2.d p2.os
          replace hG := hG.keep hb2
          replace hB := hB.trans (hb2.mono (by have := hB.size; omega))
          have hR1 := HR1.out.keep hb2
          clear hb2 d0 d2 d3 d4 d5
          go_wp2
          go_ret
          exact ⟨HBad.out, hB⟩
        have q4d : decide (r.cnt > 1099511627776) = false := decide_eq_false (by omega)
        by_cases q5 : r.mark.length = 32
        rotate_left
        · have m1 : ((r.mark.length : Int) != 32) = true := by rw [bne_iff_ne]; omega
          have HBad := Lib.hid (ok_not hr.out (fun h => q5 h.2.2.2.1))
          clear q0 q1 q2 q3 q4 q5
          refine wp_region_quiet_below (by kernel_rfl) (by kernel_rfl) ?_
          repeat (go_big_quiet_step (fail))
          refine wpQuiet_nil ?_
          rintro w3 ⟨p2, rfl⟩
          have hb2 := below_regrown w1 p2.d p2.os
          replace hG := hG.keep hb2
          replace hB := hB.trans (hb2.mono (by have := hB.size; omega))
          have hR1 := HR1.out.keep hb2
          clear hb2 d0 d2 d3 d4 d5
          go_wp2
          go_ret
          exact ⟨HBad.out, hB⟩
        have m1 : ((r.mark.length : Int) != 32) = false := by rw [q5]; rfl
        by_cases q6 : r.ans.length ≤ 16384
        rotate_left
        · have m2 : decide ((r.ans.length : Int) > 16384) = true := decide_eq_true (by omega)
          have m3 : decide (16384 < r.ans.length) = true := decide_eq_true (by omega)
          have HBad := Lib.hid (ok_not hr.out (fun h => q6 h.2.2.2.2))
          clear q0 q1 q2 q3 q4 q5 q6
          refine wp_region_quiet_below (by kernel_rfl) (by kernel_rfl) ?_
          repeat (go_big_quiet_step (fail))
          refine wpQuiet_nil ?_
          rintro w3 ⟨p2, rfl⟩
          have hb2 := below_regrown w1 p2.d p2.os
          replace hG := hG.keep hb2
          replace hB := hB.trans (hb2.mono (by have := hB.size; omega))
          have hR1 := HR1.out.keep hb2
          clear hb2 d0 d2 d3 d4 d5
          go_wp2
          go_ret
          exact ⟨HBad.out, hB⟩
        have m2 : decide ((r.ans.length : Int) > 16384) = false := decide_eq_false (by omega)
        have m3 : decide (16384 < r.ans.length) = false := decide_eq_false (by omega)
        have HGD := Lib.hid (HRt.out.succ hr.out (show okAt l k r from ⟨⟨by omega, by omega⟩, fun y _ hy => by rw [hx.out] at hy; cases hy; exact q0, ⟨by omega, by omega⟩, q5, q6⟩))
        clear q0 q1 q2 q3 q4 q5 q6
        refine wp_region_quiet_below (by kernel_rfl) (by kernel_rfl) ?_
        repeat (go_big_quiet_step (fail))
        refine wpQuiet_nil ?_
        rintro w3 ⟨p2, rfl⟩
        have hb2 := below_regrown w1 p2.d p2.os
        replace hG := hG.keep hb2
        replace hB := hB.trans (hb2.mono (by have := hB.size; omega))
        have hR1 := HR1.out.keep hb2
        clear hb2 d0 d2 d3 d4 d5
        go_wp2
        go_roundw
        case rel => exact ⟨k + 1, by omega, by go_num, HGD.out, hB, hG, hR1⟩
        case measure => simp [intOf]; omega
    · have hkl : ¬ ((k : Int) < (l.length : Int)) := by omega
      obtain rfl : k = l.length := by omega
      by_cases hlong : 64 < l.length
      · have d1 : decide ((l.length : Int) > 64) = true := decide_eq_true (by omega)
        have HC := Lib.hid (chkG_long hlong)
        clear hlong
        go_wp2
        go_ret
        exact ⟨by rw [HC.out]; rfl, hB⟩
      · have d1 : decide ((l.length : Int) > 64) = false := decide_eq_false (by omega)
        have HC := Lib.hid (chkG_ok (l := l) (by omega) HRt.out)
        clear hlong
        go_wp2
        go_ret
        exact ⟨by rw [HC.out]; rfl, hB⟩
end Go.Proofs.Ytnlhcfhngdahlaa
