/- Rolls: which are right: the program's; the keys seen are kept in a map[int]bool. -/
import Derived.Test.YtnahkfchcminpaaGreatDoorGEnrA
import Derived.Test.YtnahkfchcminpaaGreatDoorGRowsC
import Derived.Test.YtnahkfchcminpaaGreatDoorIn
import Derived.Test.YtnahkfchcminpaaGreatDoorMapB
namespace Go.Proofs.YtnahkfchcminpaaGreatDoor
open Go.RowKit
theorem pok_no {p : Int} {l : List Prs} {k : Nat} {r : Prs} (hr : l[k]? = some r) (h : ¬ pOk p.toNat l k r) : chkP p l = 40 := chkP_bad hr h
theorem keys_snoc {l : List Prs} {k : Nat} {r : Prs} (h : Hid (l[k]? = some r)) : (l.take k).map Prs.key ++ [r.key] = (l.take (k + 1)).map Prs.key := by
  rw [take_at h, List.map_append]; rfl
theorem keys_mem {l : List Prs} {k : Nat} {z : Int} (h : z ∈ (l.take k).map Prs.key) : ∃ (j : Nat) (x : Prs), j < k ∧ l[j]? = some x ∧ x.key = z := by
  obtain ⟨x, hx, rfl⟩ := List.mem_map.1 h
  obtain ⟨j, hj, e⟩ := List.getElem_of_mem hx
  rw [List.length_take] at hj
  refine ⟨j, x, by omega, ?_, rfl⟩
  rw [← e, List.getElem_take]
  exact List.getElem?_eq_getElem (by omega)
theorem keys_not {l : List Prs} {k : Nat} {z : Int} (h : ¬ z ∈ (l.take k).map Prs.key) : ∀ (j : Nat) (x : Prs), j < k → l[j]? = some x → x.key ≠ z := fun j x hj hx e => h (by
  refine List.mem_map.2 ⟨x, List.mem_of_getElem? (i := j) ?_, e⟩
  rw [List.getElem?_take, if_pos hj]; exact hx)
theorem Rd.prs_lt {w : World} {a : Option Addr} {l : List Prs} (h : Rd w a (rowsC prC l)) (h0 : 0 < l.length) : ∀ g off, a = some ⟨g, off, none⟩ → g < w.heap.size := fun g off e => by
  obtain ⟨g', off', r, ha, _, d0, _, _⟩ := h.prs (k := 0) h0
  rw [ha] at e
  cases e
  simpa using World.block_lt_of_cell? w _ d0
set_option maxRecDepth 100000 in
theorem esafe_walk (p : Int) (w : World) (hB : Bases w) :
    Calls Tryz.prog 51 #[.int .i64 p] w fun e w' => e = .returned (.bool (safeP p)) ∧ w = w' := by
  cases hs : safeP p with
  | true =>
    have KM := Lib.hid (hmod_yes p w hB hs)
    clear hs hB
    go_enter Tryz.func51, Tryz.ntmps51
    go_wp2_with (go_at_call 69; (with_reducible refine KM.out.mono ?_))
    rintro e w1 ⟨rfl, rfl⟩
    go_wp2
    go_ret
    exact ⟨rfl, rfl⟩
  | false =>
    have KM := Lib.hid (hmod_no p w hB hs)
    clear hs hB
    go_enter Tryz.func51, Tryz.ntmps51
    go_wp2_with (go_at_call 69; (with_reducible refine KM.out.mono ?_))
    rintro e w1 ⟨rfl, rfl⟩
    go_wp2
    go_ret
    exact ⟨rfl, rfl⟩
set_option maxRecDepth 100000 in
theorem ekey_walk (p : Nat) (x : Int) (w : World) (hB : Bases w) (hs : safeP (p : Int) = true) :
    Calls Tryz.prog 29 #[.int .i64 (p : Int), .int .i64 x] w fun e w' => e = .returned (.bool (x != 1 && memZ p x)) ∧ Below w.heap.size w w' := by
  have KM := Lib.hid (hMember_walk p x w hB hs)
  clear hs hB
  by_cases h : x = 1
  · have t1 : (x != 1) = false := by simpa using h
    rw [t1]
    clear h KM
    go_enter Tryz.func29, Tryz.ntmps29
    go_wp2
    go_ret
    exact ⟨rfl, Below.refl _ _⟩
  · have t1 : (x != 1) = true := by simpa using h
    rw [t1]
    clear h
    go_enter Tryz.func29, Tryz.ntmps29
    go_wp2_with (go_at_call 54; (with_reducible refine KM.out.mono ?_))
    rintro e w1 ⟨rfl, hb1⟩
    go_wp2
    go_ret
    exact ⟨rfl, hb1⟩
set_option maxRecDepth 100000 in
set_option maxHeartbeats 4000000 in
theorem echeck_walk (p : Int) (a : Option Addr) (l : List Prs) (c : Nat) (w : World) (hB : Bases w) (hR : Rd w a (rowsC prC l)) (hI : ∀ r ∈ l, I64 r.key) (hn : l.length ≤ 281474976710656) :
    Calls Tryz.prog 23 #[.agg #[.int .i64 p, .slice a l.length c]] w fun e w' => e = .returned (.int .i64 (chkP p l)) ∧ Below w.heap.size w w' := by
  have hb0 := (Below.refl w.heap.size w).alloc (Nat.le_refl _) (.cells #[.int .i64 p, .slice a l.length c] 30)
  have hG := Bx.new w 30 [.int .i64 p, .slice a l.length c]
  have hR1 := hR.keep hb0
  have hB1 := hB.keep hb0
  have HLT := Lib.hid (fun h0 => hR.prs_lt h0)
  change Bx (w.alloc (.cells #[.int .i64 p, .slice a l.length c] 30)) _ _ _ at hG
  have hmm := @run_makeMap Tryz.prog
  go_enter Tryz.func23, Tryz.ntmps23
  go_upto_region 1 with (fail)
  generalize w.alloc (.cells #[.int .i64 p, .slice a l.length c] 30) = w0 at *
  obtain ⟨gg, hgg⟩ : ∃ gg, w.heap.size = gg := ⟨_, rfl⟩
  rw [hgg] at hG
  clear hR
  have c0 := hG.cell 0 (v := .int .i64 p) rfl
  have c1 := hG.cell 1 (v := .slice a l.length c) rfl
  have KS := Lib.hid (esafe_walk p w0 hB1)
  rw [hgg]
  cases hs : safeP p with
  | false =>
    rw [hs] at KS
    have HC := Lib.hid (chkP_unsafe (l := l) hs)
    clear hs
    go_wp2_with (go_at_call 51; (with_reducible refine KS.out.mono ?_))
    rintro e w1 ⟨rfl, rfl⟩
    go_wp2
    go_ret
    exact ⟨ret_int HC.out.symm, hb0⟩
  | true =>
    rw [hs] at KS
    obtain ⟨h3, h30, -⟩ := safeP_bd hs
    obtain ⟨P, rfl⟩ : ∃ P : Nat, p = (P : Int) := ⟨p.toNat, by omega⟩
    have HS := Lib.hid hs
    clear hs h3 h30
    by_cases hlong : 64 < l.length
    · have HC := Lib.hid (chkP_long (p := (P : Int)) hlong)
      have d1 : decide ((l.length : Int) > 64) = true := decide_eq_true (by omega)
      clear hlong
      go_wp2_with (go_at_call 51; (with_reducible refine KS.out.mono ?_))
      rintro e w1 ⟨rfl, rfl⟩
      go_wp2
      go_ret
      exact ⟨ret_int HC.out.symm, hb0⟩
    have d1 : decide ((l.length : Int) > 64) = false := decide_eq_false (by omega)
    go_wp2_with (go_at_call 51; (with_reducible refine KS.out.mono ?_))
    rintro e w1 ⟨rfl, rfl⟩
    have hgl : gg < w0.heap.size := hG.lt
    have hM0 := Ms.new w0
    have hb1 := hb0.alloc hb0.size (.map #[] 0)
    replace hG := hG.alloc (.map #[] 0)
    replace hR1 := hR1.keep ((Below.refl _ _).alloc (Nat.le_refl _) (.map #[] 0))
    have hc1 := hG.cell 1 (v := .slice a l.length c) rfl
    have hwl : w.heap.size ≤ w0.heap.size := hb0.size
    go_upto_region 4 with (fail)
    clear c0 c1
    generalize w0.alloc (.map #[] 0) = w2 at *
    generalize w0.heap.size = gm at *
    go_wp2_with fail
    clear KS d1 hc1 hb0 hB1 hmm
    go_loopw [20] (fun i wr => ∃ k : Nat, k ≤ l.length ∧ i = .int .i64 (k : Int) ∧ PGood P l k ∧ Below w.heap.size w wr ∧ Bx wr gg 30 [.int .i64 (P : Int), .slice a l.length c] ∧ Rd wr a (rowsC prC l) ∧ Ms wr gm k ((l.take k).map Prs.key)) (fun i _ => l.length - (intOf i).toNat)
    case atStart => exact ⟨0, Nat.zero_le _, rfl, PGood.zero P l, hb1, hG, hR1, hM0⟩
    case round =>
      clear hG hR1 hb1 hM0
      obtain ⟨k, hk, rfl, hRt, hBl, hG, hR1, hM⟩ := hrel
      have HRt := Lib.hid hRt
      clear hRt
      by_cases hkt : k < l.length
      rotate_left
      · have hkl : ¬ ((k : Int) < (l.length : Int)) := by omega
        obtain rfl : k = l.length := by omega
        have HC := Lib.hid (chkP_ok (l := l) HS.out (by omega) (by rw [Int.toNat_natCast]; exact HRt.out))
        clear hM
        go_wp2
        go_ret
        exact ⟨ret_int HC.out.symm, hgg ▸ hBl⟩
      obtain ⟨g, off, r, rfl, hr, c0, c1, c2⟩ := hR1.prs (k := k) hkt
      have hkl : (k : Int) < (l.length : Int) := by omega
      have hbx := Bx.new wr 43 (prC r)
      have hb1 := (Below.refl wr.heap.size wr).alloc (Nat.le_refl _) (.cells #[.int .i64 r.id, .int .i64 r.key, .int .i64 r.dep] 43)
      have hgb : gm < wr.heap.size := World.ownsMap.lt hM
      replace hG := hG.keep hb1
      replace hR1 := hR1.keep hb1
      replace hM := hM.keep hb1
      replace hBl := hBl.trans (hb1.mono (by have := hBl.size; omega))
      go_upto_region 7 with (fail)
      change Bx (wr.alloc (.cells #[.int .i64 r.id, .int .i64 r.key, .int .i64 r.dep] 43)) _ _ _ at hbx
      generalize wr.alloc (.cells #[.int .i64 r.id, .int .i64 r.key, .int .i64 r.dep] 43) = w1 at *
      clear c0 c1 c2 hb1
      generalize wr.heap.size = gb at *
      have hIr : I64 r.key := hI r (List.mem_of_getElem? hr.out)
      have d0 := fun d os => cell_regrown (hbx.cell 0 (v := .int .i64 r.id) rfl) d os
      have d1 := fun d os => cell_regrown (hbx.cell 1 (v := .int .i64 r.key) rfl) d os
      have d2 := fun d os => cell_regrown (hbx.cell 2 (v := .int .i64 r.dep) rfl) d os
      have d4 := fun d os => cell_regrown (hG.cell 0 (v := .int .i64 (P : Int)) rfl) d os
      have d5 := fun d os => cell_regrown (hG.cell 1 (v := .slice (some ⟨g, off, none⟩) l.length c) rfl) d os
      have dl := fun d os => (hM.keep (below_regrown w1 d os)).look hIr
      have HR1 := Lib.hid hR1
      have HMS := Lib.hid hM
      have KEY := Lib.hid (fun V hV => ekey_walk P r.key V hV HS.out)
      have hBw := hB.keep hBl
      have HBW := Lib.hid hBw
      clear hR1 hM hBw
      by_cases q1 : 1 ≤ r.id ∧ r.id ≤ 1048576
      rotate_left
      · have KI := Lib.hid (fun V : World => in_no (n := r.id) (lo := 1) (hi := 1048576) V q1)
        have HBad : Hid (¬ pOk (Int.toNat (P : Int)) l k r) := Lib.hid (fun h => q1 h.1)
        clear q1
        refine wp_region_quiet_below (by kernel_rfl) (by kernel_rfl) ?_
        repeat (go_big_quiet_step (first | (go_at_call 28; with_reducible exact Calls.regrown_of (Calls.calm (KI.out _)))))
        refine wpQuiet_nil ?_
        rintro w3 ⟨p2, hw3⟩
        have hb2 : Below w1.heap.size w1 w3 := by first | (rw [hw3]; exact below_regrown _ p2.d p2.os) | (rw [← hw3]; exact below_regrown _ p2.d p2.os)
        clear hw3
        replace hG := hG.keep hb2
        replace hBl := hBl.trans (hb2.mono (by have := hBl.size; omega))
        have HC := Lib.hid (pok_no (p := (P : Int)) hr.out HBad.out)
        clear hb2 HBad d0 d1 d2 d4 d5 dl
        go_wp2
        go_ret
        exact ⟨ret_int HC.out.symm, hgg ▸ hBl⟩
      have KI := Lib.hid (fun V : World => in_yes (n := r.id) (lo := 1) (hi := 1048576) V q1)
      by_cases hk0 : k = 0
      · have n1 : decide ((k : Int) > 0) = false := decide_eq_false (by omega)
        have n2 : decide (0 < k) = false := decide_eq_false (by omega)
        have HPV : Hid (∀ x, 0 < k → l[k - 1]? = some x → x.id < r.id) := Lib.hid (fun x h => absurd h (by omega))
        by_cases q5 : r.key ∈ (l.take k).map Prs.key
        · have HBad : Hid (¬ pOk (Int.toNat (P : Int)) l k r) := Lib.hid (fun h => by
            obtain ⟨j, x, hj, hx, e⟩ := keys_mem q5
            exact h.2.2.2.2.2 j x hj hx e)
          simp only [decide_eq_true q5] at dl
          clear q5
          refine wp_region_quiet_below (by kernel_rfl) (by kernel_rfl) ?_
          repeat (go_big_quiet_step (first | (go_at_call 28; with_reducible exact Calls.regrown_of (Calls.calm (KI.out _)))))
          refine wpQuiet_nil ?_
          rintro w3 ⟨p2, hw3⟩
          have hb2 : Below w1.heap.size w1 w3 := by first | (rw [hw3]; exact below_regrown _ p2.d p2.os) | (rw [← hw3]; exact below_regrown _ p2.d p2.os)
          clear hw3
          replace hG := hG.keep hb2
          replace hBl := hBl.trans (hb2.mono (by have := hBl.size; omega))
          have HC := Lib.hid (pok_no (p := (P : Int)) hr.out HBad.out)
          clear hb2 HBad d0 d1 d2 d4 d5 dl
          go_wp2
          go_ret
          exact ⟨ret_int HC.out.symm, hgg ▸ hBl⟩
        simp only [decide_eq_false q5] at dl
        cases q6 : (r.key != 1 && memZ P r.key) with
        | false =>
          have HBad : Hid (¬ pOk (Int.toNat (P : Int)) l k r) := Lib.hid (fun h => by
            have h1 := h.2.2.1
            have h2 := h.2.2.2.1
            rw [Int.toNat_natCast] at h1
            rw [h1, Bool.and_true, bne_eq_false_iff_eq] at q6
            exact h2 q6)
          rw [q6] at KEY
          clear q5 q6
          refine wp_region_quiet_below (by kernel_rfl) (by kernel_rfl) ?_
          repeat (go_big_quiet_step (first | (go_at_call 28; with_reducible exact Calls.regrown_of (Calls.calm (KI.out _))) | (go_at_call 29; with_reducible exact Calls.regrown_of (KEY.out _ (HBW.out.keep (below_regrown _ _ _))))))
          refine wpQuiet_nil ?_
          rintro w3 ⟨p2, hw3⟩
          have hb2 : Below w1.heap.size w1 w3 := by first | (rw [hw3]; exact below_regrown _ p2.d p2.os) | (rw [← hw3]; exact below_regrown _ p2.d p2.os)
          clear hw3
          replace hG := hG.keep hb2
          replace hBl := hBl.trans (hb2.mono (by have := hBl.size; omega))
          have HC := Lib.hid (pok_no (p := (P : Int)) hr.out HBad.out)
          clear hb2 HBad d0 d1 d2 d4 d5 dl
          go_wp2
          go_ret
          exact ⟨ret_int HC.out.symm, hgg ▸ hBl⟩
        | true =>
          rw [q6] at KEY
          rw [Bool.and_eq_true, bne_iff_ne] at q6
          by_cases q7 : 0 ≤ r.dep ∧ r.dep ≤ 63
          rotate_left
          · have KD := Lib.hid (fun V : World => in_no (n := r.dep) (lo := 0) (hi := 63) V q7)
            have HBad : Hid (¬ pOk (Int.toNat (P : Int)) l k r) := Lib.hid (fun h => q7 h.2.2.2.2.1)
            clear q5 q6 q7
            refine wp_region_quiet_below (by kernel_rfl) (by kernel_rfl) ?_
            repeat (go_big_quiet_step (first | (go_at_call 28; with_reducible exact Calls.regrown_of (Calls.calm (KI.out _))) | (go_at_call 29; with_reducible exact Calls.regrown_of (KEY.out _ (HBW.out.keep (below_regrown _ _ _)))) | (go_at_call 28; with_reducible exact Calls.regrown_of (Calls.calm (KD.out _)))))
            refine wpQuiet_nil ?_
            rintro w3 ⟨p2, hw3⟩
            have hb2 : Below w1.heap.size w1 w3 := by first | (rw [hw3]; exact below_regrown _ p2.d p2.os) | (rw [← hw3]; exact below_regrown _ p2.d p2.os)
            clear hw3
            replace hG := hG.keep hb2
            replace hBl := hBl.trans (hb2.mono (by have := hBl.size; omega))
            have HC := Lib.hid (pok_no (p := (P : Int)) hr.out HBad.out)
            clear hb2 HBad d0 d1 d2 d4 d5 dl
            go_wp2
            go_ret
            exact ⟨ret_int HC.out.symm, hgg ▸ hBl⟩
          have KD := Lib.hid (fun V : World => in_yes (n := r.dep) (lo := 0) (hi := 63) V q7)
          have HGD := Lib.hid (HRt.out.succ hr.out (show pOk P l k r from ⟨q1, HPV.out, q6.2, q6.1, q7, keys_not q5⟩))
          clear q1 q5 q6 q7
          refine wp_region_quiet_below (by kernel_rfl) (by kernel_rfl) ?_
          repeat (go_big_quiet_step (first | (go_at_call 28; with_reducible exact Calls.regrown_of (Calls.calm (KI.out _))) | (go_at_call 29; with_reducible exact Calls.regrown_of (KEY.out _ (HBW.out.keep (below_regrown _ _ _)))) | (go_at_call 28; with_reducible exact Calls.regrown_of (Calls.calm (KD.out _)))))
          refine wpQuiet_nil ?_
          rintro w3 ⟨p2, hw3⟩
          have hb2 : Below w1.heap.size w1 w3 := by first | (rw [hw3]; exact below_regrown _ p2.d p2.os) | (rw [← hw3]; exact below_regrown _ p2.d p2.os)
          clear hw3
          replace hG := hG.keep hb2
          replace hBl := hBl.trans (hb2.mono (by have := hBl.size; omega))
          have hR1 := HR1.out.keep hb2
          have hM : Tryz.prog = Tryz.prog ∧ Ms w3 gm k ((l.take k).map Prs.key) := ⟨rfl, HMS.out.keep hb2⟩
          have hown := hM.2
          replace hbx := hbx.keep hb2
          have e1 := hbx.cell 1 (v := .int .i64 r.key) rfl
          have hkey := key_i64 hIr
          have hgne : g ≠ gm := by have := HLT.out (by omega) g off rfl; omega
          clear hb2 hM KI KD KEY HR1 HMS d0 d1 d2 d4 d5 dl
          go_wp2_with (first
            | (at_mapUpdate; refine wpList_mapUpdate_own _ rfl _ _ _ 75 rfl 3 4 keyed_int Tryz.underlying75 bE gm k _ rfl hown (by unfold maxLen; omega) _ _ _ rfl rfl hkey _ [] (plainElem_bool Tryz.underlying4 true) ?_; intro w4 hown1 hgrow1))
          have hM4 : Ms w4 gm (k + 1) ((l.take (k + 1)).map Prs.key) := by
            rw [← keys_snoc hr]
            show World.ownsMap _ _ _ _ _ _ _
            rw [mset_snoc]; exact hown1
          have hG4 := hG.grown hgrow1 (by simp; omega)
          have hR4 := hR1.grown hgrow1 (fun g' off' e => by cases e; simp; omega)
          have hB4 := hBl.grown hgrow1 hBl.size (fun j hj => by cases hj; exact hwl)
          clear hown hown1 hgrow1 hG hR1 hBl
          go_wp2
          go_roundw
          case rel => exact ⟨k + 1, by omega, by go_num, HGD.out, hB4, hG4, hR4, hM4⟩
          case measure => simp [intOf]; omega
      have n1 : decide ((k : Int) > 0) = true := decide_eq_true (by omega)
      have n2 : decide (0 < k) = true := decide_eq_true (by omega)
      obtain ⟨g', off', x, hg', hx, e0, e1, e2⟩ := HR1.out.prs (k := k - 1) (by omega)
      cases hg'
      have d6 := fun d os => cell_regrown e0 d os
      have n3 : IntKind.i64.wrap ((k : Int) - 1) = (k : Int) - 1 := by rw [IntKind.wrap_i64]; omega
      have n4 : 0 ≤ (k : Int) - 1 := by omega
      have n5 : ((k : Int) - 1).toNat = k - 1 := by omega
      have n6 : (k : Int) - 1 < (l.length : Int) := by omega
      clear e0 e1 e2
      by_cases q3 : r.id ≤ x.id
      · have q3d : decide (r.id ≤ x.id) = true := decide_eq_true q3
        have HBad : Hid (¬ pOk (Int.toNat (P : Int)) l k r) := Lib.hid (fun h => by have := h.2.1 x (by omega) hx.out; omega)
        clear q1 q3
        refine wp_region_quiet_below (by kernel_rfl) (by kernel_rfl) ?_
        repeat (go_big_quiet_step (first | (go_at_call 28; with_reducible exact Calls.regrown_of (Calls.calm (KI.out _)))))
        refine wpQuiet_nil ?_
        rintro w3 ⟨p2, hw3⟩
        have hb2 : Below w1.heap.size w1 w3 := by first | (rw [hw3]; exact below_regrown _ p2.d p2.os) | (rw [← hw3]; exact below_regrown _ p2.d p2.os)
        clear hw3
        replace hG := hG.keep hb2
        replace hBl := hBl.trans (hb2.mono (by have := hBl.size; omega))
        have HC := Lib.hid (pok_no (p := (P : Int)) hr.out HBad.out)
        clear hb2 HBad d0 d1 d2 d4 d5 dl d6
        go_wp2
        go_ret
        exact ⟨ret_int HC.out.symm, hgg ▸ hBl⟩
      have q3d : decide (r.id ≤ x.id) = false := decide_eq_false q3
      have HPV : Hid (∀ x, 0 < k → l[k - 1]? = some x → x.id < r.id) := Lib.hid (fun y h hy => by rw [hx.out] at hy; cases hy; omega)
      clear hx q3
      by_cases q5 : r.key ∈ (l.take k).map Prs.key
      · have HBad : Hid (¬ pOk (Int.toNat (P : Int)) l k r) := Lib.hid (fun h => by
          obtain ⟨j, x, hj, hx, e⟩ := keys_mem q5
          exact h.2.2.2.2.2 j x hj hx e)
        simp only [decide_eq_true q5] at dl
        clear q5
        refine wp_region_quiet_below (by kernel_rfl) (by kernel_rfl) ?_
        repeat (go_big_quiet_step (first | (go_at_call 28; with_reducible exact Calls.regrown_of (Calls.calm (KI.out _)))))
        refine wpQuiet_nil ?_
        rintro w3 ⟨p2, hw3⟩
        have hb2 : Below w1.heap.size w1 w3 := by first | (rw [hw3]; exact below_regrown _ p2.d p2.os) | (rw [← hw3]; exact below_regrown _ p2.d p2.os)
        clear hw3
        replace hG := hG.keep hb2
        replace hBl := hBl.trans (hb2.mono (by have := hBl.size; omega))
        have HC := Lib.hid (pok_no (p := (P : Int)) hr.out HBad.out)
        clear hb2 HBad d0 d1 d2 d4 d5 dl d6
        go_wp2
        go_ret
        exact ⟨ret_int HC.out.symm, hgg ▸ hBl⟩
      simp only [decide_eq_false q5] at dl
      cases q6 : (r.key != 1 && memZ P r.key) with
      | false =>
        have HBad : Hid (¬ pOk (Int.toNat (P : Int)) l k r) := Lib.hid (fun h => by
          have h1 := h.2.2.1
          have h2 := h.2.2.2.1
          rw [Int.toNat_natCast] at h1
          rw [h1, Bool.and_true, bne_eq_false_iff_eq] at q6
          exact h2 q6)
        rw [q6] at KEY
        clear q5 q6
        refine wp_region_quiet_below (by kernel_rfl) (by kernel_rfl) ?_
        repeat (go_big_quiet_step (first | (go_at_call 28; with_reducible exact Calls.regrown_of (Calls.calm (KI.out _))) | (go_at_call 29; with_reducible exact Calls.regrown_of (KEY.out _ (HBW.out.keep (below_regrown _ _ _))))))
        refine wpQuiet_nil ?_
        rintro w3 ⟨p2, hw3⟩
        have hb2 : Below w1.heap.size w1 w3 := by first | (rw [hw3]; exact below_regrown _ p2.d p2.os) | (rw [← hw3]; exact below_regrown _ p2.d p2.os)
        clear hw3
        replace hG := hG.keep hb2
        replace hBl := hBl.trans (hb2.mono (by have := hBl.size; omega))
        have HC := Lib.hid (pok_no (p := (P : Int)) hr.out HBad.out)
        clear hb2 HBad d0 d1 d2 d4 d5 dl d6
        go_wp2
        go_ret
        exact ⟨ret_int HC.out.symm, hgg ▸ hBl⟩
      | true =>
        rw [q6] at KEY
        rw [Bool.and_eq_true, bne_iff_ne] at q6
        by_cases q7 : 0 ≤ r.dep ∧ r.dep ≤ 63
        rotate_left
        · have KD := Lib.hid (fun V : World => in_no (n := r.dep) (lo := 0) (hi := 63) V q7)
          have HBad : Hid (¬ pOk (Int.toNat (P : Int)) l k r) := Lib.hid (fun h => q7 h.2.2.2.2.1)
          clear q5 q6 q7
          refine wp_region_quiet_below (by kernel_rfl) (by kernel_rfl) ?_
          repeat (go_big_quiet_step (first | (go_at_call 28; with_reducible exact Calls.regrown_of (Calls.calm (KI.out _))) | (go_at_call 29; with_reducible exact Calls.regrown_of (KEY.out _ (HBW.out.keep (below_regrown _ _ _)))) | (go_at_call 28; with_reducible exact Calls.regrown_of (Calls.calm (KD.out _)))))
          refine wpQuiet_nil ?_
          rintro w3 ⟨p2, hw3⟩
          have hb2 : Below w1.heap.size w1 w3 := by first | (rw [hw3]; exact below_regrown _ p2.d p2.os) | (rw [← hw3]; exact below_regrown _ p2.d p2.os)
          clear hw3
          replace hG := hG.keep hb2
          replace hBl := hBl.trans (hb2.mono (by have := hBl.size; omega))
          have HC := Lib.hid (pok_no (p := (P : Int)) hr.out HBad.out)
          clear hb2 HBad d0 d1 d2 d4 d5 dl d6
          go_wp2
          go_ret
          exact ⟨ret_int HC.out.symm, hgg ▸ hBl⟩
        have KD := Lib.hid (fun V : World => in_yes (n := r.dep) (lo := 0) (hi := 63) V q7)
        have HGD := Lib.hid (HRt.out.succ hr.out (show pOk P l k r from ⟨q1, HPV.out, q6.2, q6.1, q7, keys_not q5⟩))
        clear q1 q5 q6 q7
        refine wp_region_quiet_below (by kernel_rfl) (by kernel_rfl) ?_
        repeat (go_big_quiet_step (first | (go_at_call 28; with_reducible exact Calls.regrown_of (Calls.calm (KI.out _))) | (go_at_call 29; with_reducible exact Calls.regrown_of (KEY.out _ (HBW.out.keep (below_regrown _ _ _)))) | (go_at_call 28; with_reducible exact Calls.regrown_of (Calls.calm (KD.out _)))))
        refine wpQuiet_nil ?_
        rintro w3 ⟨p2, hw3⟩
        have hb2 : Below w1.heap.size w1 w3 := by first | (rw [hw3]; exact below_regrown _ p2.d p2.os) | (rw [← hw3]; exact below_regrown _ p2.d p2.os)
        clear hw3
        replace hG := hG.keep hb2
        replace hBl := hBl.trans (hb2.mono (by have := hBl.size; omega))
        have hR1 := HR1.out.keep hb2
        have hM : Tryz.prog = Tryz.prog ∧ Ms w3 gm k ((l.take k).map Prs.key) := ⟨rfl, HMS.out.keep hb2⟩
        have hown := hM.2
        replace hbx := hbx.keep hb2
        have e1 := hbx.cell 1 (v := .int .i64 r.key) rfl
        have hkey := key_i64 hIr
        have hgne : g ≠ gm := by have := HLT.out (by omega) g off rfl; omega
        clear hb2 hM KI KD KEY HR1 HMS d0 d1 d2 d4 d5 dl d6
        go_wp2_with (first
          | (at_mapUpdate; refine wpList_mapUpdate_own _ rfl _ _ _ 75 rfl 3 4 keyed_int Tryz.underlying75 bE gm k _ rfl hown (by unfold maxLen; omega) _ _ _ rfl rfl hkey _ [] (plainElem_bool Tryz.underlying4 true) ?_; intro w4 hown1 hgrow1))
        have hM4 : Ms w4 gm (k + 1) ((l.take (k + 1)).map Prs.key) := by
          rw [← keys_snoc hr]
          show World.ownsMap _ _ _ _ _ _ _
          rw [mset_snoc]; exact hown1
        have hG4 := hG.grown hgrow1 (by simp; omega)
        have hR4 := hR1.grown hgrow1 (fun g' off' e => by cases e; simp; omega)
        have hB4 := hBl.grown hgrow1 hBl.size (fun j hj => by cases hj; exact hwl)
        clear hown hown1 hgrow1 hG hR1 hBl
        go_wp2
        go_roundw
        case rel => exact ⟨k + 1, by omega, by go_num, HGD.out, hB4, hG4, hR4, hM4⟩
        case measure => simp [intOf]; omega
end Go.Proofs.YtnahkfchcminpaaGreatDoor
