/- Rolls: which are right: the reference's. -/
import Derived.Test.YtnahkfchcminpaaGreatDoorGEnrA
import Derived.Test.YtnahkfchcminpaaGreatDoorGHandG
namespace Go.Proofs.YtnahkfchcminpaaGreatDoor
open Go.RowKit
theorem pok_not {p : Int} {l : List Prs} {k : Nat} {r : Prs} (hr : l[k]? = some r) (h : ¬ pOk p.toNat l k r) : chkP p l = 40 := chkP_bad hr h
set_option maxRecDepth 100000 in
set_option maxHeartbeats 4000000 in
theorem recheck_walk (p : Int) (a : Option Addr) (l : List Prs) (c : Nat) (w : World) (hsp : rsafe p = safeP p) (hR : Rd w a (rowsC prC l)) (hn : l.length ≤ 281474976710656) :
    Calls Tryz.prog 39 #[.agg #[.int .i64 p, .slice a l.length c]] w fun e w' => e = .returned (.int .i64 (chkP p l)) ∧ Below w.heap.size w w' := by
  have hb0 := (Below.refl w.heap.size w).alloc (Nat.le_refl _) (.cells #[.int .i64 p, .slice a l.length c] 30)
  have hG := Bx.new w 30 [.int .i64 p, .slice a l.length c]
  have hR1 := hR.keep hb0
  change Bx (w.alloc (.cells #[.int .i64 p, .slice a l.length c] 30)) _ _ _ at hG
  go_enter Tryz.func39, Tryz.ntmps39
  go_upto_region 1 with (fail)
  generalize w.alloc (.cells #[.int .i64 p, .slice a l.length c] 30) = w0 at *
  obtain ⟨gg, hgg⟩ : ∃ gg, w.heap.size = gg := ⟨_, rfl⟩
  rw [hgg] at hG ⊢
  clear hgg hR
  have c0 := hG.cell 0 (v := .int .i64 p) rfl
  have c1 := hG.cell 1 (v := .slice a l.length c) rfl
  have KM := Lib.hid (rmod_walk p w0)
  cases hs : safeP p with
  | false =>
    rw [hsp, hs, if_neg (by decide)] at KM
    have HC := Lib.hid (chkP_unsafe (l := l) hs)
    clear hs hsp
    go_wp2_with (go_at_call 24; (with_reducible refine KM.out.mono ?_))
    rintro e w1 ⟨rfl, rfl⟩
    go_wp2
    go_ret
    exact ⟨ret_int HC.out.symm, hb0⟩
  | true =>
    rw [hsp, hs, if_pos rfl] at KM
    have hrs : rsafe p = true := by rw [hsp, hs]
    obtain ⟨h3, h30, -⟩ := rsafe_bd hrs
    obtain ⟨P, rfl⟩ : ∃ P : Nat, p = (P : Int) := ⟨p.toNat, by omega⟩
    have KMB := Lib.hid (fun V x => rMember_walk P x V hrs)
    have HS := Lib.hid hs
    clear hs hsp hrs h3 h30
    by_cases hlong : 64 < l.length
    · have HC := Lib.hid (chkP_long (p := (P : Int)) hlong)
      have d1 : decide ((l.length : Int) > 64) = true := decide_eq_true (by omega)
      clear hlong
      go_wp2_with (go_at_call 24; (with_reducible refine KM.out.mono ?_))
      rintro e w1 ⟨rfl, rfl⟩
      go_wp2
      go_ret
      exact ⟨ret_int HC.out.symm, hb0⟩
    have d1 : decide ((l.length : Int) > 64) = false := decide_eq_false (by omega)
    go_wp2_with (go_at_call 24; (with_reducible refine KM.out.mono ?_))
    rintro e w1 ⟨rfl, rfl⟩
    go_wp2_with fail
    clear KM c0 d1
    go_loopw [5] (fun i wr => ∃ k : Nat, k ≤ l.length ∧ i = .int .i64 (k : Int) ∧ PGood P l k ∧ Below w.heap.size w wr ∧ Bx wr gg 30 [.int .i64 (P : Int), .slice a l.length c] ∧ Rd wr a (rowsC prC l)) (fun i _ => l.length - (intOf i).toNat)
    case atStart => exact ⟨0, Nat.zero_le _, rfl, PGood.zero P l, hb0, hG, hR1⟩
    case round =>
      clear hG hR1 hb0 c1
      obtain ⟨k, hk, rfl, hRt, hB, hG, hR1⟩ := hrel
      have HRt := Lib.hid hRt
      clear hRt
      have hgc := hG.cell 1 (v := .slice a l.length c) rfl
      by_cases hkt : k < l.length
      rotate_left
      · have hkl : ¬ ((k : Int) < (l.length : Int)) := by omega
        obtain rfl : k = l.length := by omega
        have HC := Lib.hid (chkP_ok (l := l) HS.out (by omega) (by rw [Int.toNat_natCast]; exact HRt.out))
        go_wp2
        go_ret
        exact ⟨ret_int HC.out.symm, hB⟩
      obtain ⟨g, off, r, rfl, hr, c0, c1, c2⟩ := hR1.prs (k := k) hkt
      have hkl : (k : Int) < (l.length : Int) := by omega
      have hbx := Bx.new wr 43 (prC r)
      have hb1 := (Below.refl wr.heap.size wr).alloc (Nat.le_refl _) (.cells #[.int .i64 r.id, .int .i64 r.key, .int .i64 r.dep] 43)
      replace hG := hG.keep hb1
      replace hR1 := hR1.keep hb1
      replace hB := hB.trans (hb1.mono (by have := hB.size; omega))
      go_upto_region 8 with (fail)
      change Bx (wr.alloc (.cells #[.int .i64 r.id, .int .i64 r.key, .int .i64 r.dep] 43)) _ _ _ at hbx
      generalize wr.alloc (.cells #[.int .i64 r.id, .int .i64 r.key, .int .i64 r.dep] 43) = w1 at *
      clear c0 c1 c2 hb1 hgc
      generalize wr.heap.size = gb at *
      have d0 := fun d os => cell_regrown (hbx.cell 0 (v := .int .i64 r.id) rfl) d os
      have d1 := fun d os => cell_regrown (hbx.cell 1 (v := .int .i64 r.key) rfl) d os
      have d2 := fun d os => cell_regrown (hbx.cell 2 (v := .int .i64 r.dep) rfl) d os
      have d4 := fun d os => cell_regrown (hG.cell 0 (v := .int .i64 (P : Int)) rfl) d os
      have d5 := fun d os => cell_regrown (hG.cell 1 (v := .slice (some ⟨g, off, none⟩) l.length c) rfl) d os
      have HR1 := Lib.hid hR1
      clear hR1
      have KB := Lib.hid (fun V => KMB.out V r.key)
      by_cases q1 : r.id < 1
      · have q1d : decide (r.id < 1) = true := decide_eq_true q1
        have HBad : Hid (¬ pOk (Int.toNat (P : Int)) l k r) := Lib.hid (fun h => by have := h.1; omega)
        clear q1
        refine wp_region_quiet_below (by kernel_rfl) (by kernel_rfl) ?_
        repeat (go_big_quiet_step (first | fail))
        refine wpQuiet_nil ?_
        rintro w3 ⟨p2, hw3⟩
        have hb2 : Below w1.heap.size w1 w3 := by first | (rw [hw3]; exact below_regrown _ p2.d p2.os) | (rw [← hw3]; exact below_regrown _ p2.d p2.os)
        clear hw3
        replace hG := hG.keep hb2
        replace hB := hB.trans (hb2.mono (by have := hB.size; omega))
        have HC := Lib.hid (pok_not (p := (P : Int)) hr.out HBad.out)
        clear hb2 HBad d0 d1 d2 d4 d5
        go_wp2
        go_ret
        exact ⟨ret_int HC.out.symm, hB⟩
      have q1d : decide (r.id < 1) = false := decide_eq_false q1
      by_cases q2 : r.id > 1048576
      · have q2d : decide (r.id > 1048576) = true := decide_eq_true q2
        have HBad : Hid (¬ pOk (Int.toNat (P : Int)) l k r) := Lib.hid (fun h => by have := h.1; omega)
        clear q1 q2
        refine wp_region_quiet_below (by kernel_rfl) (by kernel_rfl) ?_
        repeat (go_big_quiet_step (first | fail))
        refine wpQuiet_nil ?_
        rintro w3 ⟨p2, hw3⟩
        have hb2 : Below w1.heap.size w1 w3 := by first | (rw [hw3]; exact below_regrown _ p2.d p2.os) | (rw [← hw3]; exact below_regrown _ p2.d p2.os)
        clear hw3
        replace hG := hG.keep hb2
        replace hB := hB.trans (hb2.mono (by have := hB.size; omega))
        have HC := Lib.hid (pok_not (p := (P : Int)) hr.out HBad.out)
        clear hb2 HBad d0 d1 d2 d4 d5
        go_wp2
        go_ret
        exact ⟨ret_int HC.out.symm, hB⟩
      have q2d : decide (r.id > 1048576) = false := decide_eq_false q2
      by_cases hk0 : k = 0
      · have n1 : decide ((k : Int) > 0) = false := decide_eq_false (by omega)
        have n2 : decide (0 < k) = false := decide_eq_false (by omega)
        have HPV : Hid (∀ x, 0 < k → l[k - 1]? = some x → x.id < r.id) := Lib.hid (fun x h => absurd h (by omega))
        cases q5 : memZ P r.key with
        | false =>
          have HBad : Hid (¬ pOk (Int.toNat (P : Int)) l k r) := Lib.hid (fun h => by have := h.2.2.1; rw [Int.toNat_natCast, q5] at this; cases this)
          rw [q5] at KB
          clear q5 q1 q2
          refine wp_region_quiet_below (by kernel_rfl) (by kernel_rfl) ?_
          repeat (go_big_quiet_step (first | (go_at_call 66; with_reducible exact Calls.regrown_of (Calls.calm (KB.out _)))))
          refine wpQuiet_nil ?_
          rintro w3 ⟨p2, hw3⟩
          have hb2 : Below w1.heap.size w1 w3 := by first | (rw [hw3]; exact below_regrown _ p2.d p2.os) | (rw [← hw3]; exact below_regrown _ p2.d p2.os)
          clear hw3
          replace hG := hG.keep hb2
          replace hB := hB.trans (hb2.mono (by have := hB.size; omega))
          have HC := Lib.hid (pok_not (p := (P : Int)) hr.out HBad.out)
          clear hb2 HBad d0 d1 d2 d4 d5
          go_wp2
          go_ret
          exact ⟨ret_int HC.out.symm, hB⟩
        | true =>
          rw [q5] at KB
          have HMEM := Lib.hid q5
          clear q5
          by_cases q6 : r.key = 1
          · have q6d : (r.key == 1) = true := by rw [beq_iff_eq]; exact q6
            have HBad : Hid (¬ pOk (Int.toNat (P : Int)) l k r) := Lib.hid (fun h => h.2.2.2.1 q6)
            clear q6 q1 q2
            refine wp_region_quiet_below (by kernel_rfl) (by kernel_rfl) ?_
            repeat (go_big_quiet_step (first | (go_at_call 66; with_reducible exact Calls.regrown_of (Calls.calm (KB.out _)))))
            refine wpQuiet_nil ?_
            rintro w3 ⟨p2, hw3⟩
            have hb2 : Below w1.heap.size w1 w3 := by first | (rw [hw3]; exact below_regrown _ p2.d p2.os) | (rw [← hw3]; exact below_regrown _ p2.d p2.os)
            clear hw3
            replace hG := hG.keep hb2
            replace hB := hB.trans (hb2.mono (by have := hB.size; omega))
            have HC := Lib.hid (pok_not (p := (P : Int)) hr.out HBad.out)
            clear hb2 HBad d0 d1 d2 d4 d5
            go_wp2
            go_ret
            exact ⟨ret_int HC.out.symm, hB⟩
          have q6d : (r.key == 1) = false := by rw [beq_eq_false_iff_ne]; exact q6
          by_cases q7 : r.dep < 0
          · have q7d : decide (r.dep < 0) = true := decide_eq_true q7
            have HBad : Hid (¬ pOk (Int.toNat (P : Int)) l k r) := Lib.hid (fun h => by have := h.2.2.2.2.1; omega)
            clear q1 q2 q6 q7
            refine wp_region_quiet_below (by kernel_rfl) (by kernel_rfl) ?_
            repeat (go_big_quiet_step (first | (go_at_call 66; with_reducible exact Calls.regrown_of (Calls.calm (KB.out _)))))
            refine wpQuiet_nil ?_
            rintro w3 ⟨p2, hw3⟩
            have hb2 : Below w1.heap.size w1 w3 := by first | (rw [hw3]; exact below_regrown _ p2.d p2.os) | (rw [← hw3]; exact below_regrown _ p2.d p2.os)
            clear hw3
            replace hG := hG.keep hb2
            replace hB := hB.trans (hb2.mono (by have := hB.size; omega))
            have HC := Lib.hid (pok_not (p := (P : Int)) hr.out HBad.out)
            clear hb2 HBad d0 d1 d2 d4 d5
            go_wp2
            go_ret
            exact ⟨ret_int HC.out.symm, hB⟩
          have q7d : decide (r.dep < 0) = false := decide_eq_false q7
          by_cases q8 : r.dep > 63
          · have q8d : decide (r.dep > 63) = true := decide_eq_true q8
            have HBad : Hid (¬ pOk (Int.toNat (P : Int)) l k r) := Lib.hid (fun h => by have := h.2.2.2.2.1; omega)
            clear q1 q2 q6 q7 q8
            refine wp_region_quiet_below (by kernel_rfl) (by kernel_rfl) ?_
            repeat (go_big_quiet_step (first | (go_at_call 66; with_reducible exact Calls.regrown_of (Calls.calm (KB.out _)))))
            refine wpQuiet_nil ?_
            rintro w3 ⟨p2, hw3⟩
            have hb2 : Below w1.heap.size w1 w3 := by first | (rw [hw3]; exact below_regrown _ p2.d p2.os) | (rw [← hw3]; exact below_regrown _ p2.d p2.os)
            clear hw3
            replace hG := hG.keep hb2
            replace hB := hB.trans (hb2.mono (by have := hB.size; omega))
            have HC := Lib.hid (pok_not (p := (P : Int)) hr.out HBad.out)
            clear hb2 HBad d0 d1 d2 d4 d5
            go_wp2
            go_ret
            exact ⟨ret_int HC.out.symm, hB⟩
          have q8d : decide (r.dep > 63) = false := decide_eq_false q8
          have HOK : Hid ((1 ≤ r.id ∧ r.id ≤ 1048576) ∧ r.key ≠ 1 ∧ (0 ≤ r.dep ∧ r.dep ≤ 63)) := Lib.hid ⟨⟨by omega, by omega⟩, q6, by omega, by omega⟩
          clear q1 q2 q6 q7 q8
          refine wp_region_quiet_below (by kernel_rfl) (by kernel_rfl) ?_
          repeat (go_big_quiet_step (first | (go_at_call 66; with_reducible exact Calls.regrown_of (Calls.calm (KB.out _)))))
          refine wpQuiet_nil ?_
          rintro w3 ⟨p2, hw3⟩
          have hb2 : Below w1.heap.size w1 w3 := by first | (rw [hw3]; exact below_regrown _ p2.d p2.os) | (rw [← hw3]; exact below_regrown _ p2.d p2.os)
          clear hw3
          replace hG := hG.keep hb2
          replace hB := hB.trans (hb2.mono (by have := hB.size; omega))
          have hR1 := HR1.out.keep hb2
          replace hbx := hbx.keep hb2
          clear hb2 q1d q2d q6d q7d q8d KB HR1 d0 d1 d2 d4 d5
          go_wp2_with fail
          go_loopw [7] (fun v wr2 => ∃ m : Nat, m ≤ k ∧ v = .int .i64 (m : Int) ∧ (∀ (j : Nat) (x : Prs), j < m → l[j]? = some x → x.key ≠ r.key) ∧ Below w.heap.size w wr2 ∧ Bx wr2 gg 30 [.int .i64 (P : Int), .slice (some ⟨g, off, none⟩) l.length c] ∧ Rd wr2 (some ⟨g, off, none⟩) (rowsC prC l) ∧ Bx wr2 gb 43 (prC r)) (fun v _ => k - (intOf v).toNat)
          case atStart => exact ⟨0, Nat.zero_le _, rfl, fun j x h => by omega, hB, hG, hR1, hbx⟩
          case round =>
            clear hB hG hR1 hbx
            obtain ⟨m, hm, rfl, hno, hB, hG, hR1, hbx⟩ := hrel
            have HNO := Lib.hid hno
            clear hno
            by_cases hmk : m < k
            · exact absurd hmk (by omega)
            · have hmi : ¬ ((m : Int) < (k : Int)) := by omega
              have HGD := Lib.hid (HRt.out.succ hr.out (show pOk P l k r from ⟨HOK.out.1, HPV.out, HMEM.out, HOK.out.2.1, HOK.out.2.2, fun j x hj hx => HNO.out j x (by omega) hx⟩))
              clear hbx HNO
              go_wp2
              go_roundw
              case rel => exact ⟨k + 1, by omega, by go_num, HGD.out, hB, hG, hR1⟩
              case measure => simp [intOf]; omega
      have n1 : decide ((k : Int) > 0) = true := decide_eq_true (by omega)
      have n2 : decide (0 < k) = true := decide_eq_true (by omega)
      obtain ⟨g', off', x, hg', hx, e0, e1, e2⟩ := HR1.out.prs (k := k - 1) (by omega)
      cases hg'
      have d6 := fun d os => cell_regrown e0 d os
      have n3 : IntKind.i64.wrap ((k : Int) - 1) = (k : Int) - 1 := by rw [IntKind.wrap_i64]; omega
      have n4 : 0 ≤ (k : Int) - 1 := by omega
      have n5 : ((k : Int) - 1).toNat = k - 1 := by omega
      have n6 : (k : Int) - 1 < (l.length : Int) := by omega
      clear e0 e1 e2
      by_cases q3 : r.id ≤ x.id
      · have q3d : decide (r.id ≤ x.id) = true := decide_eq_true q3
        have HBad : Hid (¬ pOk (Int.toNat (P : Int)) l k r) := Lib.hid (fun h => by have := h.2.1 x (by omega) hx.out; omega)
        clear q1 q2 q3
        refine wp_region_quiet_below (by kernel_rfl) (by kernel_rfl) ?_
        repeat (go_big_quiet_step (first | fail))
        refine wpQuiet_nil ?_
        rintro w3 ⟨p2, hw3⟩
        have hb2 : Below w1.heap.size w1 w3 := by first | (rw [hw3]; exact below_regrown _ p2.d p2.os) | (rw [← hw3]; exact below_regrown _ p2.d p2.os)
        clear hw3
        replace hG := hG.keep hb2
        replace hB := hB.trans (hb2.mono (by have := hB.size; omega))
        have HC := Lib.hid (pok_not (p := (P : Int)) hr.out HBad.out)
        clear hb2 HBad d0 d1 d2 d4 d5 d6
        go_wp2
        go_ret
        exact ⟨ret_int HC.out.symm, hB⟩
      have q3d : decide (r.id ≤ x.id) = false := decide_eq_false q3
      have HPV : Hid (∀ x, 0 < k → l[k - 1]? = some x → x.id < r.id) := Lib.hid (fun y h hy => by rw [hx.out] at hy; cases hy; omega)
      clear hx
      cases q5 : memZ P r.key with
      | false =>
        have HBad : Hid (¬ pOk (Int.toNat (P : Int)) l k r) := Lib.hid (fun h => by have := h.2.2.1; rw [Int.toNat_natCast, q5] at this; cases this)
        rw [q5] at KB
        clear q5 q1 q2 q3
        refine wp_region_quiet_below (by kernel_rfl) (by kernel_rfl) ?_
        repeat (go_big_quiet_step (first | (go_at_call 66; with_reducible exact Calls.regrown_of (Calls.calm (KB.out _)))))
        refine wpQuiet_nil ?_
        rintro w3 ⟨p2, hw3⟩
        have hb2 : Below w1.heap.size w1 w3 := by first | (rw [hw3]; exact below_regrown _ p2.d p2.os) | (rw [← hw3]; exact below_regrown _ p2.d p2.os)
        clear hw3
        replace hG := hG.keep hb2
        replace hB := hB.trans (hb2.mono (by have := hB.size; omega))
        have HC := Lib.hid (pok_not (p := (P : Int)) hr.out HBad.out)
        clear hb2 HBad d0 d1 d2 d4 d5 d6
        go_wp2
        go_ret
        exact ⟨ret_int HC.out.symm, hB⟩
      | true =>
        rw [q5] at KB
        have HMEM := Lib.hid q5
        clear q5
        by_cases q6 : r.key = 1
        · have q6d : (r.key == 1) = true := by rw [beq_iff_eq]; exact q6
          have HBad : Hid (¬ pOk (Int.toNat (P : Int)) l k r) := Lib.hid (fun h => h.2.2.2.1 q6)
          clear q6 q1 q2 q3
          refine wp_region_quiet_below (by kernel_rfl) (by kernel_rfl) ?_
          repeat (go_big_quiet_step (first | (go_at_call 66; with_reducible exact Calls.regrown_of (Calls.calm (KB.out _)))))
          refine wpQuiet_nil ?_
          rintro w3 ⟨p2, hw3⟩
          have hb2 : Below w1.heap.size w1 w3 := by first | (rw [hw3]; exact below_regrown _ p2.d p2.os) | (rw [← hw3]; exact below_regrown _ p2.d p2.os)
          clear hw3
          replace hG := hG.keep hb2
          replace hB := hB.trans (hb2.mono (by have := hB.size; omega))
          have HC := Lib.hid (pok_not (p := (P : Int)) hr.out HBad.out)
          clear hb2 HBad d0 d1 d2 d4 d5 d6
          go_wp2
          go_ret
          exact ⟨ret_int HC.out.symm, hB⟩
        have q6d : (r.key == 1) = false := by rw [beq_eq_false_iff_ne]; exact q6
        by_cases q7 : r.dep < 0
        · have q7d : decide (r.dep < 0) = true := decide_eq_true q7
          have HBad : Hid (¬ pOk (Int.toNat (P : Int)) l k r) := Lib.hid (fun h => by have := h.2.2.2.2.1; omega)
          clear q1 q2 q3 q6 q7
          refine wp_region_quiet_below (by kernel_rfl) (by kernel_rfl) ?_
          repeat (go_big_quiet_step (first | (go_at_call 66; with_reducible exact Calls.regrown_of (Calls.calm (KB.out _)))))
          refine wpQuiet_nil ?_
          rintro w3 ⟨p2, hw3⟩
          have hb2 : Below w1.heap.size w1 w3 := by first | (rw [hw3]; exact below_regrown _ p2.d p2.os) | (rw [← hw3]; exact below_regrown _ p2.d p2.os)
          clear hw3
          replace hG := hG.keep hb2
          replace hB := hB.trans (hb2.mono (by have := hB.size; omega))
          have HC := Lib.hid (pok_not (p := (P : Int)) hr.out HBad.out)
          clear hb2 HBad d0 d1 d2 d4 d5 d6
          go_wp2
          go_ret
          exact ⟨ret_int HC.out.symm, hB⟩
        have q7d : decide (r.dep < 0) = false := decide_eq_false q7
        by_cases q8 : r.dep > 63
        · have q8d : decide (r.dep > 63) = true := decide_eq_true q8
          have HBad : Hid (¬ pOk (Int.toNat (P : Int)) l k r) := Lib.hid (fun h => by have := h.2.2.2.2.1; omega)
          clear q1 q2 q3 q6 q7 q8
          refine wp_region_quiet_below (by kernel_rfl) (by kernel_rfl) ?_
          repeat (go_big_quiet_step (first | (go_at_call 66; with_reducible exact Calls.regrown_of (Calls.calm (KB.out _)))))
          refine wpQuiet_nil ?_
          rintro w3 ⟨p2, hw3⟩
          have hb2 : Below w1.heap.size w1 w3 := by first | (rw [hw3]; exact below_regrown _ p2.d p2.os) | (rw [← hw3]; exact below_regrown _ p2.d p2.os)
          clear hw3
          replace hG := hG.keep hb2
          replace hB := hB.trans (hb2.mono (by have := hB.size; omega))
          have HC := Lib.hid (pok_not (p := (P : Int)) hr.out HBad.out)
          clear hb2 HBad d0 d1 d2 d4 d5 d6
          go_wp2
          go_ret
          exact ⟨ret_int HC.out.symm, hB⟩
        have q8d : decide (r.dep > 63) = false := decide_eq_false q8
        have HOK : Hid ((1 ≤ r.id ∧ r.id ≤ 1048576) ∧ r.key ≠ 1 ∧ (0 ≤ r.dep ∧ r.dep ≤ 63)) := Lib.hid ⟨⟨by omega, by omega⟩, q6, by omega, by omega⟩
        clear q1 q2 q3 q6 q7 q8
        refine wp_region_quiet_below (by kernel_rfl) (by kernel_rfl) ?_
        repeat (go_big_quiet_step (first | (go_at_call 66; with_reducible exact Calls.regrown_of (Calls.calm (KB.out _)))))
        refine wpQuiet_nil ?_
        rintro w3 ⟨p2, hw3⟩
        have hb2 : Below w1.heap.size w1 w3 := by first | (rw [hw3]; exact below_regrown _ p2.d p2.os) | (rw [← hw3]; exact below_regrown _ p2.d p2.os)
        clear hw3
        replace hG := hG.keep hb2
        replace hB := hB.trans (hb2.mono (by have := hB.size; omega))
        have hR1 := HR1.out.keep hb2
        replace hbx := hbx.keep hb2
        clear hb2 q1d q2d q6d q7d q8d KB HR1 d0 d1 d2 d4 d5 d6
        go_wp2_with fail
        go_loopw [7] (fun v wr2 => ∃ m : Nat, m ≤ k ∧ v = .int .i64 (m : Int) ∧ (∀ (j : Nat) (x : Prs), j < m → l[j]? = some x → x.key ≠ r.key) ∧ Below w.heap.size w wr2 ∧ Bx wr2 gg 30 [.int .i64 (P : Int), .slice (some ⟨g, off, none⟩) l.length c] ∧ Rd wr2 (some ⟨g, off, none⟩) (rowsC prC l) ∧ Bx wr2 gb 43 (prC r)) (fun v _ => k - (intOf v).toNat)
        case atStart => exact ⟨0, Nat.zero_le _, rfl, fun j x h => by omega, hB, hG, hR1, hbx⟩
        case round =>
          clear hB hG hR1 hbx
          obtain ⟨m, hm, rfl, hno, hB, hG, hR1, hbx⟩ := hrel
          have HNO := Lib.hid hno
          clear hno
          by_cases hmk : m < k
          · have hmi : (m : Int) < (k : Int) := by omega
            have hml : (m : Int) < (l.length : Int) := by omega
            obtain ⟨g', off', x, hg', hx, e0, e1, e2⟩ := hR1.prs (k := m) (by omega)
            cases hg'
            have HR1 := Lib.hid hR1
            have HG := Lib.hid hG
            have HX := Lib.hid hbx
            have d1 := fun d os => cell_regrown (hbx.cell 1 (v := .int .i64 r.key) rfl) d os
            have d5 := fun d os => cell_regrown (hG.cell 1 (v := .slice (some ⟨g, off, none⟩) l.length c) rfl) d os
            have d6 := fun d os => cell_regrown e1 d os
            go_upto_region 13 with (fail)
            clear e0 e1 e2 hR1 hG hbx
            by_cases hxe : x.key = r.key
            · have t1 : (x.key == r.key) = true := by rw [beq_iff_eq]; exact hxe
              have HC := Lib.hid (pok_not (p := (P : Int)) hr.out (fun h => h.2.2.2.2.2 m x hmk hx.out hxe))
              clear hxe
              refine wp_region_quiet_below (by kernel_rfl) (by kernel_rfl) ?_
              repeat (go_big_quiet_step (fail))
              refine wpQuiet_nil ?_
              rintro w4 ⟨p3, hw4⟩
              have hb4 : Below wr.heap.size wr w4 := by first | (rw [hw4]; exact below_regrown _ p3.d p3.os) | (rw [← hw4]; exact below_regrown _ p3.d p3.os)
              replace hB := hB.trans (hb4.mono hB.size)
              clear hb4 hw4 d1 d5 d6
              go_wp2
              go_ret
              exact ⟨ret_int HC.out.symm, hB⟩
            · have t1 : (x.key == r.key) = false := by rw [beq_eq_false_iff_ne]; exact hxe
              have HS : Hid (∀ (j : Nat) (y : Prs), j < m + 1 → l[j]? = some y → y.key ≠ r.key) := Lib.hid fun j y hj hy => by
                by_cases e : j = m
                · subst e; rw [hx.out] at hy; cases hy; exact hxe
                · exact HNO.out j y (by omega) hy
              clear hxe HNO
              refine wp_region_quiet_below (by kernel_rfl) (by kernel_rfl) ?_
              repeat (go_big_quiet_step (fail))
              refine wpQuiet_nil ?_
              rintro w4 ⟨p3, hw4⟩
              have hb4 : Below wr.heap.size wr w4 := by first | (rw [hw4]; exact below_regrown _ p3.d p3.os) | (rw [← hw4]; exact below_regrown _ p3.d p3.os)
              replace hB := hB.trans (hb4.mono hB.size)
              have hG := HG.out.keep hb4
              have hR1 := HR1.out.keep hb4
              have hbx := HX.out.keep hb4
              clear hb4 hw4 d1 d5 d6 HG HR1 HX
              go_wp2
              go_roundw
              case rel => exact ⟨m + 1, by omega, by go_num, HS.out, hB, hG, hR1, hbx⟩
              case measure => simp [intOf]; omega
          · have hmi : ¬ ((m : Int) < (k : Int)) := by omega
            have HGD := Lib.hid (HRt.out.succ hr.out (show pOk P l k r from ⟨HOK.out.1, HPV.out, HMEM.out, HOK.out.2.1, HOK.out.2.2, fun j x hj hx => HNO.out j x (by omega) hx⟩))
            clear hbx HNO
            go_wp2
            go_roundw
            case rel => exact ⟨k + 1, by omega, by go_num, HGD.out, hB, hG, hR1⟩
            case measure => simp [intOf]; omega
end Go.Proofs.YtnahkfchcminpaaGreatDoor
