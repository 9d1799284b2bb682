/- Guards: all functions agree with the reference. -/
import Derived.Test.YtnlhcfhngdahlaaReplayM
namespace Go.Proofs.Ytnlhcfhngdahlaa
open Go.RowKit
theorem doneF_length (l : List Kpt) (r : Rq) (a : List UInt8) : (doneF l r a).1.length ≤ l.length + 1 := by
  unfold doneF
  split
  · exact Nat.le_succ _
  split
  · exact Nat.le_succ _
  split
  · exact Nat.le_succ _
  split
  · simp
  · simp; omega
set_option maxRecDepth 100000 in
set_option maxHeartbeats 8000000 in
theorem agree_walk (a : Option Addr) (l : List Kpt) (cap : Nat) (r : Rq) (ans : List UInt8) (w : World) (hR : Rd w a (rowsC kpC l)) (hn : l.length ≤ 1000000) (h1 : I64 r.sen) (h2 : I64 r.cnt) (hbl : r.body.length ≤ 1000000) (hal : ans.length ≤ 281474976710656) :
    Calls Try.prog 7 #[.agg #[.slice a l.length cap], .agg #[.int .i64 r.sen, .int .i64 r.cnt, .string ⟨r.body.toArray⟩], .string ⟨ans.toArray⟩] w fun e w' => e = .returned (.bool true) ∧ Below w.heap.size w w' := by
  obtain ⟨gg, hgg⟩ : ∃ gg, gg = w.heap.size := ⟨_, rfl⟩
  have hA1 := (Below.refl w.heap.size w).alloc (Nat.le_refl _) (.cells #[.slice a l.length cap] 24)
  have hG := (Bx.new w 24 [.slice a l.length cap]).alloc (rqB r)
  have hQ : Bx ((w.alloc (.cells #[.slice a l.length cap] 24)).alloc (rqB r)) (w.heap.size + 1) 26 [.int .i64 r.sen, .int .i64 r.cnt, .string ⟨r.body.toArray⟩] := by
    have := Bx.new (w.alloc (.cells #[.slice a l.length cap] 24)) 26 [.int .i64 r.sen, .int .i64 r.cnt, .string ⟨r.body.toArray⟩]
    simpa using this
  have hB := hA1.alloc (by simp) (rqB r)
  replace hR := hR.keep hB
  rw [← hgg] at hG hQ
  have hgw : w.heap.size = gg := hgg.symm
  have HGG := Lib.hid hgg
  clear hgg hA1
  obtain ⟨le, hle⟩ : ∃ x, x = (lookF l r).2.2 := ⟨_, rfl⟩
  obtain ⟨lf, hlf⟩ : ∃ x, x = (lookF l r).2.1 := ⟨_, rfl⟩
  obtain ⟨la, hla⟩ : ∃ x, x = (lookF l r).1 := ⟨_, rfl⟩
  obtain ⟨L, hL⟩ : ∃ x, x = (doneF l r ans).1 := ⟨_, rfl⟩
  obtain ⟨de, hde⟩ : ∃ x, x = (doneF l r ans).2 := ⟨_, rfl⟩
  have hLn : L.length ≤ 1000001 := by rw [hL]; have := doneF_length l r ans; omega
  obtain ⟨m, hm⟩ : ∃ x, x = markF r := ⟨_, rfl⟩
  obtain ⟨ck, hck⟩ : ∃ x, x = chkG l := ⟨_, rfl⟩
  have KL : Hid (∀ V, Rd V a (rowsC kpC l) → Calls Try.prog 14 #[.agg #[.slice a l.length cap], .agg #[.int .i64 r.sen, .int .i64 r.cnt, .string ⟨r.body.toArray⟩]] V fun e w' => e = .returned (.tuple #[.string ⟨la.toArray⟩, .bool lf, .int .i64 le]) ∧ Below V.heap.size V w') := Lib.hid fun V hV => by rw [hle, hlf, hla]; exact klook_walk a l cap r V hV hn h1 h2
  have KX : Hid (∀ V, Rd V a (rowsC kpC l) → Calls Try.prog 19 #[.agg #[.slice a l.length cap], .agg #[.int .i64 r.sen, .int .i64 r.cnt, .string ⟨r.body.toArray⟩]] V fun e w' => e = .returned (.tuple #[.string ⟨la.toArray⟩, .bool lf, .int .i64 le]) ∧ Below V.heap.size V w') := Lib.hid fun V hV => by rw [hle, hlf, hla]; exact rklook_walk a l cap r V hV hn h1 h2
  have KD : Hid (∀ V, Rd V a (rowsC kpC l) → Calls Try.prog 15 #[.agg #[.slice a l.length cap], .agg #[.int .i64 r.sen, .int .i64 r.cnt, .string ⟨r.body.toArray⟩], .string ⟨ans.toArray⟩] V fun e w' => ∃ a c, e = .returned (.tuple #[.agg #[.slice a L.length c], .int .i64 de]) ∧ Rd w' a (rowsC kpC L) ∧ Below V.heap.size V w') := Lib.hid fun V hV => by
    rw [hde, hL]
    exact (kdone_walk a l cap r ans V hV hn h1 h2 hal).mono (fun e w' ⟨a, c, h1, h2, h3⟩ => ⟨a, c, h1, h2.rd, h3⟩)
  have KE : Hid (∀ V, Rd V a (rowsC kpC l) → Calls Try.prog 20 #[.agg #[.slice a l.length cap], .agg #[.int .i64 r.sen, .int .i64 r.cnt, .string ⟨r.body.toArray⟩], .string ⟨ans.toArray⟩] V fun e w' => ∃ a c, e = .returned (.tuple #[.agg #[.slice a L.length c], .int .i64 de]) ∧ Rd w' a (rowsC kpC L) ∧ Below V.heap.size V w') := Lib.hid fun V hV => by
    rw [hde, hL]
    exact (rkdone_walk a l cap r ans V hV hn h1 h2 hal).mono (fun e w' ⟨a, c, h1, h2, h3⟩ => ⟨a, c, h1, h2.rd, h3⟩)
  have KS : Hid (∀ a c b d V, Rd V a (rowsC kpC L) → Rd V b (rowsC kpC L) → Calls Try.prog 21 #[.agg #[.slice a L.length c], .agg #[.slice b L.length d]] V fun e w' => e = .returned (.bool true) ∧ Below V.heap.size V w') := Lib.hid fun a c b d V hA hV => ksame_walk a L c b d V hA hV (by omega)
  have KC : Hid (∀ V, Rd V a (rowsC kpC l) → Calls Try.prog 17 #[.agg #[.slice a l.length cap]] V fun e w' => e = .returned (.int .i64 ck) ∧ Below V.heap.size V w') := Lib.hid fun V hV => by rw [hck]; exact kcheck_walk a l cap V hV (by omega)
  have KF : Hid (∀ V, Rd V a (rowsC kpC l) → Calls Try.prog 22 #[.agg #[.slice a l.length cap]] V fun e w' => e = .returned (.int .i64 ck) ∧ Below V.heap.size V w') := Lib.hid fun V hV => by rw [hck]; exact rkcheck_walk a l cap V hV (by omega)
  have KM : Hid (∀ V, Calls Try.prog 18 #[.agg #[.int .i64 r.sen, .int .i64 r.cnt, .string ⟨r.body.toArray⟩]] V fun e w' => e = .returned (.string ⟨m.toArray⟩) ∧ Below V.heap.size V w') := Lib.hid fun V => by rw [hm]; exact kmark_walk r V h1 h2 hbl
  have KP : Hid (∀ V, Calls Try.prog 12 #[.agg #[.int .i64 r.sen, .int .i64 r.cnt, .string ⟨r.body.toArray⟩]] V fun e w' => e = .returned (.string ⟨m.toArray⟩) ∧ Below V.heap.size V w') := Lib.hid fun V => by rw [hm]; exact rkmark_walk r V h1 h2 hbl
  have HC := Lib.hid (chkG_cases l)
  rw [← hck] at HC
  clear hle hlf hla hL hde hm hck h1 h2
  go_enter Try.func7, Try.ntmps7
  go_upto_region 1 with (fail)
  change Bx ((w.alloc (.cells #[.slice a l.length cap] 24)).alloc (.cells #[.int .i64 r.sen, .int .i64 r.cnt, .string ⟨r.body.toArray⟩] 26)) _ _ _ at hQ
  generalize (w.alloc (.cells #[.slice a l.length cap] 24)).alloc (.cells #[.int .i64 r.sen, .int .i64 r.cnt, .string ⟨r.body.toArray⟩] 26) = w0 at *
  clear hgw
  have g0 := hG.cell 0 (v := .slice a l.length cap) rfl
  have q0 := hQ.cell 0 (v := .int .i64 r.sen) rfl
  have q1 := hQ.cell 1 (v := .int .i64 r.cnt) rfl
  have q2 := hQ.cell 2 (v := .string ⟨r.body.toArray⟩) rfl
  go_wp2_with (go_at_call 14; (with_reducible refine (KL.out _ hR).mono ?_))
  rintro e w1 ⟨rfl, hb⟩
  replace hB := below_tr hB hb
  replace hG := hG.keep hb
  replace hQ := hQ.keep hb
  replace hR := hR.keep hb
  clear hb KL
  clear g0 q0 q1 q2
  have g0 := hG.cell 0 (v := .slice a l.length cap) rfl
  have q0 := hQ.cell 0 (v := .int .i64 r.sen) rfl
  have q1 := hQ.cell 1 (v := .int .i64 r.cnt) rfl
  have q2 := hQ.cell 2 (v := .string ⟨r.body.toArray⟩) rfl
  go_wp2_with (go_at_call 19; (with_reducible refine (KX.out _ hR).mono ?_))
  rintro e w2 ⟨rfl, hb⟩
  replace hB := below_tr hB hb
  replace hG := hG.keep hb
  replace hQ := hQ.keep hb
  replace hR := hR.keep hb
  clear hb KX
  clear g0 q0 q1 q2
  have g0 := hG.cell 0 (v := .slice a l.length cap) rfl
  have q0 := hQ.cell 0 (v := .int .i64 r.sen) rfl
  have q1 := hQ.cell 1 (v := .int .i64 r.cnt) rfl
  have q2 := hQ.cell 2 (v := .string ⟨r.body.toArray⟩) rfl
  go_wp2_with (go_at_call 15; (with_reducible refine (KD.out _ hR).mono ?_))
  rintro e w3 ⟨a1, c1, rfl, hR1, hb⟩
  have hA := (Below.refl w3.heap.size w3).alloc (Nat.le_refl _) (.cells #[.slice a1 L.length c1] 24)
  have hb' := below_tr hb hA
  replace hB := below_tr hB hb'
  replace hG := hG.keep hb'
  replace hQ := hQ.keep hb'
  replace hR := hR.keep hb'
  replace hR1 := hR1.keep hA
  have hX1 := Bx.new w3 24 [.slice a1 L.length c1]
  clear hA hb hb' KD
  clear g0 q0 q1 q2
  go_upto_region 4 with (fail)
  change Bx (w3.alloc (.cells #[.slice a1 L.length c1] 24)) _ _ _ at hX1
  generalize w3.alloc (.cells #[.slice a1 L.length c1] 24) = w4 at *
  generalize w3.heap.size = gx1 at *
  have g0 := hG.cell 0 (v := .slice a l.length cap) rfl
  have q0 := hQ.cell 0 (v := .int .i64 r.sen) rfl
  have q1 := hQ.cell 1 (v := .int .i64 r.cnt) rfl
  have q2 := hQ.cell 2 (v := .string ⟨r.body.toArray⟩) rfl
  go_wp2_with (go_at_call 20; (with_reducible refine (KE.out _ hR).mono ?_))
  rintro e w5 ⟨a2, c2, rfl, hR2, hb⟩
  have hA := (Below.refl w5.heap.size w5).alloc (Nat.le_refl _) (.cells #[.slice a2 L.length c2] 24)
  have hb' := below_tr hb hA
  replace hB := below_tr hB hb'
  replace hG := hG.keep hb'
  replace hQ := hQ.keep hb'
  replace hR := hR.keep hb'
  replace hR2 := hR2.keep hA
  replace hR1 := hR1.keep hb'
  replace hX1 := hX1.keep hb'
  have hX2 := Bx.new w5 24 [.slice a2 L.length c2]
  clear hA hb hb' KE
  clear g0 q0 q1 q2
  go_upto_region 5 with (fail)
  change Bx (w5.alloc (.cells #[.slice a2 L.length c2] 24)) _ _ _ at hX2
  generalize w5.alloc (.cells #[.slice a2 L.length c2] 24) = w6 at *
  generalize w5.heap.size = gx2 at *
  have g0 := hG.cell 0 (v := .slice a l.length cap) rfl
  have q0 := hQ.cell 0 (v := .int .i64 r.sen) rfl
  have q1 := hQ.cell 1 (v := .int .i64 r.cnt) rfl
  have q2 := hQ.cell 2 (v := .string ⟨r.body.toArray⟩) rfl
  have d0 := fun d os => cell_regrown g0 d os
  have d1 := fun d os => cell_regrown q0 d os
  have d2 := fun d os => cell_regrown q1 d os
  have d3 := fun d os => cell_regrown q2 d os
  have d4 := fun d os => cell_regrown (hX1.cell 0 (v := .slice a1 L.length c1) rfl) d os
  have d5 := fun d os => cell_regrown (hX2.cell 0 (v := .slice a2 L.length c2) rfl) d os
  clear g0 q0 q1 q2 hG hQ hX1 hX2
  rcases HC.out with ⟨rfl, hlen, hgood⟩ | rfl
  · have hcb : ∀ x ∈ l, -4611686018427387904 ≤ x.cnt ∧ x.cnt ≤ 4611686018427387904 := fun x hx => by
      obtain ⟨i, hi, rfl⟩ := List.getElem_of_mem hx
      have := (hgood i _ hi (List.getElem?_eq_getElem hi)).2.2.1
      omega
    obtain ⟨nx, hnx⟩ : ∃ nx, nx = nextF l r.sen := ⟨_, rfl⟩
    have KN : Hid (∀ V, Rd V a (rowsC kpC l) → Calls Try.prog 16 #[.agg #[.slice a l.length cap], .int .i64 r.sen] V fun e w' => e = .returned (.int .i64 nx) ∧ Below V.heap.size V w') := Lib.hid fun V hV => by rw [hnx]; exact knext_walk a l cap r.sen V hV hn hgood hcb
    have KO : Hid (∀ V, Rd V a (rowsC kpC l) → Calls Try.prog 23 #[.agg #[.slice a l.length cap], .int .i64 r.sen] V fun e w' => e = .returned (.int .i64 nx) ∧ Below V.heap.size V w') := Lib.hid fun V hV => by rw [hnx]; exact rknext_walk a l cap r.sen V hV hn hcb
    clear hcb hnx hgood hlen HC
    refine wp_region_quiet_below (by kernel_rfl) (by kernel_rfl) ?_
    repeat (go_big_quiet_step (first
      | (go_at_call 21; with_reducible exact Calls.regrown_of (KS.out _ _ _ _ _ (hR1.keep (below_regrown _ _ _)) (hR2.keep (below_regrown _ _ _))))
      | (go_at_call 17; with_reducible exact Calls.regrown_of (KC.out _ (hR.keep (below_regrown _ _ _))))
      | (go_at_call 22; with_reducible exact Calls.regrown_of (KF.out _ (hR.keep (below_regrown _ _ _))))
      | (go_at_call 18; with_reducible exact Calls.regrown_of (KM.out _))
      | (go_at_call 12; with_reducible exact Calls.regrown_of (KP.out _))
      | (go_at_call 16; with_reducible exact Calls.regrown_of (KN.out _ (hR.keep (below_regrown _ _ _))))
      | (go_at_call 23; with_reducible exact Calls.regrown_of (KO.out _ (hR.keep (below_regrown _ _ _))))))
    refine wpQuiet_nil ?_
    rintro w9 ⟨p2, rfl⟩
    have hb9 := below_tr hB (below_regrown _ p2.d p2.os)
    go_wp2
    go_ret
    exact ⟨rfl, hb9⟩
  · clear HC
    refine wp_region_quiet_below (by kernel_rfl) (by kernel_rfl) ?_
    repeat (go_big_quiet_step (first
      | (go_at_call 21; with_reducible exact Calls.regrown_of (KS.out _ _ _ _ _ (hR1.keep (below_regrown _ _ _)) (hR2.keep (below_regrown _ _ _))))
      | (go_at_call 17; with_reducible exact Calls.regrown_of (KC.out _ (hR.keep (below_regrown _ _ _))))
      | (go_at_call 22; with_reducible exact Calls.regrown_of (KF.out _ (hR.keep (below_regrown _ _ _))))
      | (go_at_call 18; with_reducible exact Calls.regrown_of (KM.out _))
      | (go_at_call 12; with_reducible exact Calls.regrown_of (KP.out _))))
    refine wpQuiet_nil ?_
    rintro w9 ⟨p2, rfl⟩
    have hb9 := below_tr hB (below_regrown _ p2.d p2.os)
    go_wp2
    go_ret
    exact ⟨rfl, hb9⟩
end Go.Proofs.Ytnlhcfhngdahlaa
