/- Guards: what to do with a request: the reference's. -/
import Derived.Test.YtnlhcfhngdahlaaReplayH
namespace Go.Proofs.Ytnlhcfhngdahlaa
open Go.RowKit
set_option maxRecDepth 100000 in
set_option maxHeartbeats 4000000 in
theorem rklook_walk (a : Option Addr) (l : List Kpt) (cap : Nat) (r : Rq) (w : World) (hR : Rd w a (rowsC kpC l)) (hn : l.length ≤ 1000000) (h1 : I64 r.sen) (h2 : I64 r.cnt) :
    Calls Try.prog 19 #[.agg #[.slice a l.length cap], .agg #[.int .i64 r.sen, .int .i64 r.cnt, .string ⟨r.body.toArray⟩]] w fun e w' => e = .returned (.tuple #[.string ⟨(lookF l r).1.toArray⟩, .bool (lookF l r).2.1, .int .i64 (lookF l r).2.2]) ∧ Below w.heap.size w w' := by
  have hb0 := (Below.refl w.heap.size w).alloc (Nat.le_refl _) (.cells #[.slice a l.length cap] 24)
  have hb00 := hb0.alloc hb0.size (rqB r)
  have hG := (Bx.new w 24 [.slice a l.length cap]).alloc (rqB r)
  have hQ : Bx ((w.alloc (.cells #[.slice a l.length cap] 24)).alloc (rqB r)) (w.heap.size + 1) 26 [.int .i64 r.sen, .int .i64 r.cnt, .string ⟨r.body.toArray⟩] := by
    have := Bx.new (w.alloc (.cells #[.slice a l.length cap] 24)) 26 [.int .i64 r.sen, .int .i64 r.cnt, .string ⟨r.body.toArray⟩]
    simpa using this
  have hR0 := hR.keep hb00
  obtain ⟨c, hc⟩ : ∃ c, c = chkG l := ⟨_, rfl⟩
  have kc : ∀ V, Rd V a (rowsC kpC l) → Calls Try.prog 22 #[.agg #[.slice a l.length cap]] V fun e w' => e = .returned (.int .i64 c) ∧ Below V.heap.size V w' := fun V hV => by rw [hc]; exact rkcheck_walk a l cap V hV (by omega)
  obtain ⟨b, hb⟩ : ∃ b, b = decide (okRq r) := ⟨_, rfl⟩
  have kp : ∀ V, Calls Try.prog 36 #[.agg #[.int .i64 r.sen, .int .i64 r.cnt, .string ⟨r.body.toArray⟩]] V fun e w' => e = .returned (.bool b) ∧ Below V.heap.size V w' := fun V => by rw [hb]; exact rproper_walk r V
  have KC := Lib.hid kc
  have KP := Lib.hid kp
  have HBq := Lib.hid hb
  clear kc kp hb
  have hz : w.heap.size < (w.alloc (.cells #[.slice a l.length cap] 24)).heap.size := by simp
  have hc01 := chkG_cases l
  rw [← hc] at hc01
  have HC := Lib.hid hc
  clear hc
  rcases hc01 with ⟨rfl, hlen, hgood⟩ | rfl
  rotate_left
  · have HL := Lib.hid (lookF_bad (l := l) (r := r) (.inl (by rw [← HC.out]; decide)))
    have t1 : ((1 : Int) != 0) = true := rfl
    clear hb0 hG hQ
    go_enter Try.func19, Try.ntmps19
    go_wp2_with (go_at_call 22; (with_reducible refine (KC.out _ hR0).mono ?_))
    rintro e w1 ⟨rfl, hb1⟩
    go_wp2
    go_ret3
    exact ⟨by rw [HL.out]; rfl, below_tr hb00 hb1⟩
  have hok := HBq.out
  cases b with
  | false =>
    have HL := Lib.hid (lookF_bad (l := l) (r := r) (.inr (of_decide_eq_false hok.symm)))
    clear hok hgood hb0
    go_enter Try.func19, Try.ntmps19
    go_wp2_with fail
    change Bx ((w.alloc (.cells #[.slice a l.length cap] 24)).alloc (.cells #[.int .i64 r.sen, .int .i64 r.cnt, .string ⟨r.body.toArray⟩] 26)) _ _ _ at hQ
    generalize (w.alloc (.cells #[.slice a l.length cap] 24)).alloc (.cells #[.int .i64 r.sen, .int .i64 r.cnt, .string ⟨r.body.toArray⟩] 26) = w0 at *
    go_wp2_with (go_at_call 22; (with_reducible refine (KC.out _ hR0).mono ?_))
    rintro e w1 ⟨rfl, hb1⟩
    have hQ1 := hQ.keep hb1
    have q0 := hQ1.cell 0 (v := .int .i64 r.sen) rfl
    have q1 := hQ1.cell 1 (v := .int .i64 r.cnt) rfl
    have q2 := hQ1.cell 2 (v := .string ⟨r.body.toArray⟩) rfl
    go_wp2_with (go_at_call 36; (with_reducible refine (KP.out _).mono ?_))
    rintro e w2 ⟨rfl, hb2⟩
    go_wp2
    go_ret3
    exact ⟨by rw [HL.out]; rfl, below_tr (below_tr hb00 hb1) hb2⟩
  | true =>
    have hokr : okRq r := of_decide_eq_true hok.symm
    have hcb : ∀ x ∈ l, -4611686018427387904 ≤ x.cnt ∧ x.cnt ≤ 4611686018427387904 := fun x hx => by
      obtain ⟨i, hi, rfl⟩ := List.getElem_of_mem hx
      have := (hgood i _ hi (List.getElem?_eq_getElem hi)).2.2.1
      omega
    obtain ⟨nx, hnx⟩ : ∃ nx, nx = nextF l r.sen := ⟨_, rfl⟩
    have kn : ∀ V, Rd V a (rowsC kpC l) → Calls Try.prog 23 #[.agg #[.slice a l.length cap], .int .i64 r.sen] V fun e w' => e = .returned (.int .i64 nx) ∧ Below V.heap.size V w' := fun V hV => by rw [hnx]; exact rknext_walk a l cap r.sen V hV hn hcb
    have kr : ∀ V, Rd V a (rowsC kpC l) → Calls Try.prog 37 #[.agg #[.slice a l.length cap], .int .i64 r.sen] V fun e w' => e = .returned (.tuple #[.int .i64 (posF l r.sen : Int), .bool (hasF l r.sen)]) ∧ Below V.heap.size V w' := fun V hV => kfind_walk a l cap r.sen V hV (by omega)
    have hbl := hokr.2.2
    have km : ∀ V, Calls Try.prog 12 #[.agg #[.int .i64 r.sen, .int .i64 r.cnt, .string ⟨r.body.toArray⟩]] V fun e w' => e = .returned (.string ⟨(markF r).toArray⟩) ∧ Below V.heap.size V w' := fun V => rkmark_walk r V h1 h2 (by omega)
    have hle := posF_le l r.sen
    obtain ⟨k, hk⟩ : ∃ k, k = posF l r.sen := ⟨_, rfl⟩
    obtain ⟨o, ho⟩ : ∃ o, o = hasF l r.sen := ⟨_, rfl⟩
    rw [← hk, ← ho] at kr
    rw [← hk] at hle
    have KN := Lib.hid kn
    have KR := Lib.hid kr
    have KM := Lib.hid km
    have HNX := Lib.hid hnx
    have HK := Lib.hid hk
    have HO := Lib.hid ho
    have HOK := Lib.hid hokr
    clear kn kr km hnx hk ho hcb hgood hb0 hok hokr h1 h2
    go_enter Try.func19, Try.ntmps19
    go_wp2_with fail
    change Bx ((w.alloc (.cells #[.slice a l.length cap] 24)).alloc (.cells #[.int .i64 r.sen, .int .i64 r.cnt, .string ⟨r.body.toArray⟩] 26)) _ _ _ at hQ
    generalize (w.alloc (.cells #[.slice a l.length cap] 24)).alloc (.cells #[.int .i64 r.sen, .int .i64 r.cnt, .string ⟨r.body.toArray⟩] 26) = w0 at *
    go_wp2_with (go_at_call 22; (with_reducible refine (KC.out _ hR0).mono ?_))
    rintro e w1 ⟨rfl, hb1⟩
    replace hQ := hQ.keep hb1
    replace hG := hG.keep hb1
    replace hR0 := hR0.keep hb1
    have q0 := hQ.cell 0 (v := .int .i64 r.sen) rfl
    have q1 := hQ.cell 1 (v := .int .i64 r.cnt) rfl
    have q2 := hQ.cell 2 (v := .string ⟨r.body.toArray⟩) rfl
    go_wp2_with (go_at_call 36; (with_reducible refine (KP.out _).mono ?_))
    rintro e w2 ⟨rfl, hb2⟩
    have hbe := below_tr (below_tr hb00 hb1) hb2
    replace hQ := hQ.keep hb2
    replace hG := hG.keep hb2
    replace hR0 := hR0.keep hb2
    clear q0 q1 q2 hb1 hb2 hb00
    have d0 := fun d os => cell_regrown (hQ.cell 0 (v := .int .i64 r.sen) rfl) d os
    have d1 := fun d os => cell_regrown (hQ.cell 1 (v := .int .i64 r.cnt) rfl) d os
    have d2 := fun d os => cell_regrown (hG.cell 0 (v := .slice a l.length cap) rfl) d os
    go_wp2_with fail
    refine wp_region_quiet_below (by kernel_rfl) (by kernel_rfl) ?_
    repeat (go_big_quiet_step (first
      | (go_at_call 23; with_reducible exact Calls.regrown_of (KN.out _ (hR0.keep (below_regrown _ _ _))))))
    refine wpQuiet_nil ?_
    rintro w3 ⟨p2, rfl⟩
    have hb3 := below_regrown w2 p2.d p2.os
    generalize «Sort».grow (redrawn w2 p2.d) p2.os = w3 at *
    clear d0 d1 d2
    replace hbe := below_tr hbe hb3
    replace hQ := hQ.keep hb3
    replace hG := hG.keep hb3
    replace hR0 := hR0.keep hb3
    by_cases hcn : r.cnt = nx
    · have t1 : (r.cnt == nx) = true := by rw [beq_iff_eq]; exact hcn
      have HL := Lib.hid (lookF_fresh HC.out.symm HOK.out (by rw [← HNX.out]; exact hcn))
      clear hcn
      go_wp2
      go_ret3
      exact ⟨by rw [HL.out]; rfl, hbe⟩
    have t1 : (r.cnt == nx) = false := by rw [beq_eq_false_iff_ne]; exact hcn
    have HCN := Lib.hid (show r.cnt ≠ nextF l r.sen by rw [← HNX.out]; exact hcn)
    clear hcn
    have q0 := hQ.cell 0 (v := .int .i64 r.sen) rfl
    have q1 := hQ.cell 1 (v := .int .i64 r.cnt) rfl
    have q2 := hG.cell 0 (v := .slice a l.length cap) rfl
    go_wp2_with (go_at_call 37; (with_reducible refine (KR.out _ hR0).mono ?_))
    rintro e w4 ⟨rfl, hb4⟩
    replace hbe := below_tr hbe hb4
    replace hQ := hQ.keep hb4
    replace hG := hG.keep hb4
    replace hR0 := hR0.keep hb4
    clear q0 q1 q2 hb3 hb4 t1
    have d0 := fun d os => cell_regrown (hQ.cell 0 (v := .int .i64 r.sen) rfl) d os
    have d1 := fun d os => cell_regrown (hQ.cell 1 (v := .int .i64 r.cnt) rfl) d os
    have d2 := fun d os => cell_regrown (hQ.cell 2 (v := .string ⟨r.body.toArray⟩) rfl) d os
    have d3 := fun d os => cell_regrown (hG.cell 0 (v := .slice a l.length cap) rfl) d os
    cases o with
    | false =>
      have HL := Lib.hid (lookF_none HC.out.symm HOK.out HCN.out HO.out.symm)
      go_wp2_with fail
      refine wp_region_quiet_below (by kernel_rfl) (by kernel_rfl) ?_
      repeat (go_big_quiet_step (fail))
      refine wpQuiet_nil ?_
      rintro w5 ⟨p2, rfl⟩
      have hb5 := below_regrown w4 p2.d p2.os
      go_wp2
      go_ret3
      exact ⟨by rw [HL.out]; rfl, below_tr hbe hb5⟩
    | true =>
      obtain ⟨x, hx, hs⟩ := hasF_some HO.out.symm
      have HL0 := Lib.hid (lookF_some HC.out.symm HOK.out HCN.out hx hs)
      rw [← HK.out] at hx
      have hkl := (List.getElem?_eq_some_iff.1 hx).1
      obtain ⟨g, off, x', rfl, hx', c0, c1, c2, c3⟩ := hR0.kp (k := k) hkl
      rw [hx'.out] at hx
      cases hx
      have e1 := fun d os => cell_regrown c1 d os
      have e2 := fun d os => cell_regrown c2 d os
      have hki : (k : Int) < (l.length : Int) := by omega
      obtain ⟨m, hm⟩ : ∃ m, m = markF r := ⟨_, rfl⟩
      have HKM : Hid (∀ V, Calls Try.prog 12 #[.agg #[.int .i64 r.sen, .int .i64 r.cnt, .string ⟨r.body.toArray⟩]] V fun e w' => e = .returned (.string ⟨m.toArray⟩) ∧ Below V.heap.size V w') := Lib.hid (by rw [hm]; exact KM.out)
      by_cases hcx : x.cnt = r.cnt
      rotate_left
      · have t1 : (x.cnt == r.cnt) = false := by rw [beq_eq_false_iff_ne]; exact hcx
        have HL := Lib.hid (HL0.out.trans (if_neg (fun h => hcx h.1)))
        clear hcx hs hm c0 c2 c3 c1
        go_wp2_with fail
        refine wp_region_quiet_below (by kernel_rfl) (by kernel_rfl) ?_
        repeat (go_big_quiet_step (fail))
        refine wpQuiet_nil ?_
        rintro w5 ⟨p2, rfl⟩
        have hb5 := below_regrown w4 p2.d p2.os
        go_wp2
        go_ret3
        exact ⟨by rw [HL.out]; rfl, below_tr hbe hb5⟩
      have t1 : (x.cnt == r.cnt) = true := by rw [beq_iff_eq]; exact hcx
      by_cases hmx : x.mark = m
      · have t2 : (x.mark == m) = true := by rw [beq_iff_eq]; exact hmx
        have HL := Lib.hid (HL0.out.trans (if_pos ⟨hcx, by rw [← hm]; exact hmx⟩))
        have f3 := fun d os => cell_regrown c3 d os
        clear hcx hmx hs hm c0 c1 c2
        go_wp2_with fail
        refine wp_region_quiet_below (by kernel_rfl) (by kernel_rfl) ?_
        repeat (go_big_quiet_step (first | (go_at_call 12; with_reducible exact Calls.regrown_of (HKM.out _))))
        refine wpQuiet_nil ?_
        rintro w5 ⟨p2, rfl⟩
        have hb5 := below_regrown w4 p2.d p2.os
        go_wp2
        go_ret3
        exact ⟨by rw [HL.out]; rfl, below_tr hbe hb5⟩
      · have t2 : (x.mark == m) = false := by rw [beq_eq_false_iff_ne]; exact hmx
        have HL := Lib.hid (HL0.out.trans (if_neg (fun h => hmx (h.2.trans hm.symm))))
        clear hcx hmx hs hm c0 c1 c2 c3
        go_wp2_with fail
        refine wp_region_quiet_below (by kernel_rfl) (by kernel_rfl) ?_
        repeat (go_big_quiet_step (first | (go_at_call 12; with_reducible exact Calls.regrown_of (HKM.out _))))
        refine wpQuiet_nil ?_
        rintro w5 ⟨p2, rfl⟩
        have hb5 := below_regrown w4 p2.d p2.os
        go_wp2
        go_ret3
        exact ⟨by rw [HL.out]; rfl, below_tr hbe hb5⟩
end Go.Proofs.Ytnlhcfhngdahlaa
