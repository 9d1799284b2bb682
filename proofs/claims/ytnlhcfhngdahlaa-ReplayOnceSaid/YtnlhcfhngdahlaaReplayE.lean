/- Guards: where a row stands, the reference's; which requests are proper, and their marks. -/
import Derived.Test.YtnlhcfhngdahlaaReplayD
import Derived.Test.YtnlhcfhngdahlaaPut
import Derived.Test.YtnlhcfhngdahlaaPutR
import Derived.Test.YtnlhcfhngdahlaaDigestE
import Derived.Test.YtnlhcfhngdahlaaDigestF
namespace Go.Proofs.Ytnlhcfhngdahlaa
open Go.RowKit
set_option maxRecDepth 100000 in
set_option maxHeartbeats 2000000 in
theorem kfind_walk (a : Option Addr) (l : List Kpt) (cap : Nat) (s : Int) (w : World) (hR : Rd w a (rowsC kpC l)) (hn : l.length ≤ 281474976710656) :
    Calls Try.prog 37 #[.agg #[.slice a l.length cap], .int .i64 s] w fun e w' => e = .returned (.tuple #[.int .i64 (posF l s : Int), .bool (hasF l s)]) ∧ Below w.heap.size w w' := by
  have hb0 := (Below.refl w.heap.size w).alloc (Nat.le_refl _) (.cells #[.slice a l.length cap] 24)
  have hG := Bx.new w 24 [.slice a l.length cap]
  have hR1 := hR.keep hb0
  go_enter Try.func37, Try.ntmps37
  go_wp2_with fail
  change Bx (w.alloc (.cells #[.slice a l.length cap] 24)) _ _ _ at hG
  generalize w.alloc (.cells #[.slice a l.length cap] 24) = w0 at *
  obtain ⟨gg, hgg⟩ : ∃ gg, w.heap.size = gg := ⟨_, rfl⟩
  rw [hgg] at hG ⊢
  clear hgg
  have hgc := hG.cell 0 (v := .slice a l.length cap) rfl
  go_loop [6] (fun i => ∃ x : Nat, i = .int .i64 (x : Int) ∧ x ≤ l.length ∧ LoK l s x) (fun i => l.length - (intOf i).toNat)
  case atStart => exact ⟨0, rfl, Nat.zero_le _, fun m r h => by omega⟩
  case round =>
    obtain ⟨x, rfl, hx, hL⟩ := hrel
    by_cases hxl : x < l.length
    · have t1 : decide (x < l.length) = true := decide_eq_true hxl
      have t2 : decide ((x : Int) < (l.length : Int)) = true := decide_eq_true (by omega)
      have hkl : (x : Int) < (l.length : Int) := by omega
      obtain ⟨g, off, r, rfl, hr, c0, c1, c2, c3⟩ := hR1.kp (k := x) hxl
      by_cases hs : r.sen < s
      · have t3 : decide (r.sen < s) = true := decide_eq_true hs
        have HL := Lib.hid (show LoK l s (x + 1) from fun m y hm hy => by
          by_cases e : m = x
          · subst e; rw [hr.out] at hy; cases hy; exact hs
          · exact hL m y (by omega) hy)
        clear hL hs
        go_wp2
        go_round
        case rel => exact ⟨x + 1, by go_num, by omega, HL.out⟩
        case measure => simp [intOf]; omega
      · have t3 : decide (r.sen < s) = false := decide_eq_false hs
        have hp : posF l s = x := posF_eq hx hL (fun y hy => by rw [hr.out] at hy; cases hy; omega)
        have hh : hasF l s = decide (r.sen = s) := hasF_at (by rw [hp]; exact hr.out)
        have hd : (r.sen == s) = decide (r.sen = s) := by rw [Bool.eq_iff_iff, beq_iff_eq, decide_eq_true_iff]
        have HP := Lib.hid hp
        have HH := Lib.hid hh
        have d0 := fun d os => cell_regrown c0 d os
        have d5 := fun d os => cell_regrown hgc d os
        generalize decide (r.sen = s) = b at *
        clear hp hh hL hs
        go_wp2_with fail
        refine wp_region_quiet_below (by kernel_rfl) (by kernel_rfl) ?_
        repeat (go_big_quiet_step (fail))
        refine wpQuiet_nil ?_
        rintro w3 ⟨p2, rfl⟩
        have hb2 := below_regrown w0 p2.d p2.os
        go_wp2
        go_ret2
        exact ⟨by rw [HP.out, HH.out]; rfl, hb0.trans (hb2.mono hb0.size)⟩
    · obtain rfl : x = l.length := by omega
      have t1 : decide (l.length < l.length) = false := decide_eq_false hxl
      have t2 : decide ((l.length : Int) < (l.length : Int)) = false := decide_eq_false (by omega)
      have hp : posF l s = l.length := posF_eq hx hL (fun y hy => by simp at hy)
      have hh : hasF l s = false := hasF_end hp
      have HP := Lib.hid hp
      have HH := Lib.hid hh
      have d5 := fun d os => cell_regrown hgc d os
      clear hp hh hL hxl
      go_wp2_with fail
      refine wp_region_quiet_below (by kernel_rfl) (by kernel_rfl) ?_
      repeat (go_big_quiet_step (fail))
      refine wpQuiet_nil ?_
      rintro w3 ⟨p2, rfl⟩
      have hb2 := below_regrown w0 p2.d p2.os
      go_wp2
      go_ret2
      exact ⟨by rw [HP.out, HH.out]; rfl, hb0.trans (hb2.mono hb0.size)⟩
abbrev rqB (r : Rq) : Obj := .cells #[.int .i64 r.sen, .int .i64 r.cnt, .string ⟨r.body.toArray⟩] 26
set_option maxRecDepth 100000 in
theorem proper_walk (r : Rq) (w : World) :
    Calls Try.prog 28 #[.agg #[.int .i64 r.sen, .int .i64 r.cnt, .string ⟨r.body.toArray⟩]] w fun e w' => e = .returned (.bool (decide (okRq r))) ∧ Below w.heap.size w w' := by
  have hb0 := (Below.refl w.heap.size w).alloc (Nat.le_refl _) (rqB r)
  by_cases q1 : 1 ≤ r.sen ∧ r.sen ≤ 1048576
  · have KS := Lib.hid (fun V : World => in_yes (n := r.sen) (lo := 1) (hi := 1048576) V q1)
    by_cases q2 : 1 ≤ r.cnt ∧ r.cnt ≤ 1099511627776
    · have KC := Lib.hid (fun V : World => in_yes (n := r.cnt) (lo := 1) (hi := 1099511627776) V q2)
      have HD := Lib.hid (show decide (okRq r) = decide (r.body.length ≤ 16384) by rw [decide_eq_decide]; exact ⟨fun h => h.2.2, fun h => ⟨q1, q2, h⟩⟩)
      have t1 : decide ((r.body.length : Int) ≤ 16384) = decide (r.body.length ≤ 16384) := by rw [decide_eq_decide]; omega
      generalize decide (r.body.length ≤ 16384) = b at *
      clear q1 q2
      go_enter Try.func28, Try.ntmps28
      go_wp2_with (first | (go_at_call 32; (with_reducible refine (KS.out _).mono ?_); rintro e w1 ⟨rfl, rfl⟩) | (go_at_call 32; (with_reducible refine (KC.out _).mono ?_); rintro e w1 ⟨rfl, rfl⟩))
      go_ret
      exact ⟨by rw [HD.out]; first | rfl | simp, hb0⟩
    · have KC := Lib.hid (fun V : World => in_no (n := r.cnt) (lo := 1) (hi := 1099511627776) V q2)
      have HD := Lib.hid (show decide (okRq r) = false from decide_eq_false (fun h => q2 h.2.1))
      clear q1 q2
      go_enter Try.func28, Try.ntmps28
      go_wp2_with (first | (go_at_call 32; (with_reducible refine (KS.out _).mono ?_); rintro e w1 ⟨rfl, rfl⟩) | (go_at_call 32; (with_reducible refine (KC.out _).mono ?_); rintro e w1 ⟨rfl, rfl⟩))
      go_ret
      exact ⟨by rw [HD.out]; rfl, hb0⟩
  · have KS := Lib.hid (fun V : World => in_no (n := r.sen) (lo := 1) (hi := 1048576) V q1)
    have HD := Lib.hid (show decide (okRq r) = false from decide_eq_false (fun h => q1 h.1))
    clear q1
    go_enter Try.func28, Try.ntmps28
    go_wp2_with (go_at_call 32; (with_reducible refine (KS.out _).mono ?_); rintro e w1 ⟨rfl, rfl⟩)
    go_ret
    exact ⟨by rw [HD.out]; rfl, hb0⟩
set_option maxRecDepth 100000 in
theorem rproper_walk (r : Rq) (w : World) :
    Calls Try.prog 36 #[.agg #[.int .i64 r.sen, .int .i64 r.cnt, .string ⟨r.body.toArray⟩]] w fun e w' => e = .returned (.bool (decide (okRq r))) ∧ Below w.heap.size w w' := by
  have hb0 := (Below.refl w.heap.size w).alloc (Nat.le_refl _) (rqB r)
  by_cases q1 : 1 ≤ r.sen
  · have d1 : decide (r.sen ≥ 1) = true := decide_eq_true q1
    by_cases q2 : r.sen ≤ 1048576
    · have d2 : decide (r.sen ≤ 1048576) = true := decide_eq_true q2
      by_cases q3 : 1 ≤ r.cnt
      · have d3 : decide (r.cnt ≥ 1) = true := decide_eq_true q3
        by_cases q4 : r.cnt ≤ 1099511627776
        · have d4 : decide (r.cnt ≤ 1099511627776) = true := decide_eq_true q4
          have HD := Lib.hid (show decide (okRq r) = decide (r.body.length ≤ 16384) by rw [decide_eq_decide]; exact ⟨fun h => h.2.2, fun h => ⟨⟨q1, q2⟩, ⟨q3, q4⟩, h⟩⟩)
          have t1 : decide ((r.body.length : Int) ≤ 16384) = decide (r.body.length ≤ 16384) := by rw [decide_eq_decide]; omega
          generalize decide (r.body.length ≤ 16384) = b at *
          clear q1 q2 q3 q4
          go_enter Try.func36, Try.ntmps36
          go_wp2
          go_ret
          exact ⟨by rw [HD.out]; first | rfl | simp, hb0⟩
        · have d4 : decide (r.cnt ≤ 1099511627776) = false := decide_eq_false q4
          have HD := Lib.hid (show decide (okRq r) = false from decide_eq_false (fun h => q4 h.2.1.2))
          clear q1 q2 q3 q4
          go_enter Try.func36, Try.ntmps36
          go_wp2
          go_ret
          exact ⟨by rw [HD.out]; rfl, hb0⟩
      · have d3 : decide (r.cnt ≥ 1) = false := decide_eq_false q3
        have HD := Lib.hid (show decide (okRq r) = false from decide_eq_false (fun h => q3 h.2.1.1))
        clear q1 q2 q3
        go_enter Try.func36, Try.ntmps36
        go_wp2
        go_ret
        exact ⟨by rw [HD.out]; rfl, hb0⟩
    · have d2 : decide (r.sen ≤ 1048576) = false := decide_eq_false q2
      have HD := Lib.hid (show decide (okRq r) = false from decide_eq_false (fun h => q2 h.1.2))
      clear q1 q2
      go_enter Try.func36, Try.ntmps36
      go_wp2
      go_ret
      exact ⟨by rw [HD.out]; rfl, hb0⟩
  · have d1 : decide (r.sen ≥ 1) = false := decide_eq_false q1
    have HD := Lib.hid (show decide (okRq r) = false from decide_eq_false (fun h => q1 h.1.1))
    clear q1
    go_enter Try.func36, Try.ntmps36
    go_wp2
    go_ret
    exact ⟨by rw [HD.out]; rfl, hb0⟩
end Go.Proofs.Ytnlhcfhngdahlaa
