/- Guards: marks of requests, the next counter: the program's. -/
import Derived.Test.YtnlhcfhngdahlaaReplayE
namespace Go.Proofs.Ytnlhcfhngdahlaa
open Go.RowKit
set_option maxRecDepth 100000 in
set_option maxHeartbeats 1000000 in
theorem kmark_walk (r : Rq) (w : World) (h1 : I64 r.sen) (h2 : I64 r.cnt) (hb : r.body.length ≤ 1000000) :
    Calls Try.prog 18 #[.agg #[.int .i64 r.sen, .int .i64 r.cnt, .string ⟨r.body.toArray⟩]] w fun e w' => e = .returned (.string ⟨(markF r).toArray⟩) ∧ Below w.heap.size w w' := by
  have hb0 := (Below.refl w.heap.size w).alloc (Nat.le_refl _) (rqB r)
  have hbx := Bx.new w 26 [.int .i64 r.sen, .int .i64 r.cnt, .string ⟨r.body.toArray⟩]
  have l1 := putInt_ten h1
  have l2 := putInt_ten h2
  have l3 := putInt_ten (I64.nat (show r.body.length ≤ 281474976710656 by omega))
  have k1 : ∀ V, Calls Try.prog 35 #[.string ⟨#[]⟩, .int .i64 r.sen] V fun e w' => e = .returned (.string ⟨(putInt r.sen).toArray⟩) ∧ Below V.heap.size V w' := fun V => putInt_nil r.sen V h1
  have k2 : ∀ V, Calls Try.prog 35 #[.string ⟨(putInt r.sen).toArray⟩, .int .i64 r.cnt] V fun e w' => e = .returned (.string ⟨(putInt r.sen ++ putInt r.cnt).toArray⟩) ∧ Below V.heap.size V w' := fun V => putInt_any (putInt r.sen) r.cnt V h2 (by omega)
  have k3 : ∀ V, Calls Try.prog 34 #[.string ⟨(putInt r.sen ++ putInt r.cnt).toArray⟩, .string ⟨r.body.toArray⟩] V fun e w' => e = .returned (.string ⟨(putInt r.sen ++ putInt r.cnt ++ putText r.body).toArray⟩) ∧ Below V.heap.size V w' := fun V => putText_any _ _ V (by rw [List.length_append]; omega) (by omega)
  have k4 : ∀ V, Calls Try.prog 33 #[.string ⟨(putInt r.sen ++ putInt r.cnt ++ putText r.body).toArray⟩] V fun e w' => e = .returned (.string ⟨(markF r).toArray⟩) ∧ Below V.heap.size V w' := fun V => sum_walk _ V (by simp only [putText, List.length_append]; omega)
  generalize putInt r.sen ++ putInt r.cnt ++ putText r.body = s3 at *
  generalize putInt r.sen ++ putInt r.cnt = s2 at *
  generalize putInt r.sen = s1 at *
  generalize markF r = m at *
  have K1 := Lib.hid k1
  have K2 := Lib.hid k2
  have K3 := Lib.hid k3
  have K4 := Lib.hid k4
  clear k1 k2 k3 k4 l1 l2 l3
  go_enter Try.func18, Try.ntmps18
  go_wp2_with fail
  change Bx (w.alloc (.cells #[.int .i64 r.sen, .int .i64 r.cnt, .string ⟨r.body.toArray⟩] 26)) _ _ _ at hbx
  generalize w.alloc (.cells #[.int .i64 r.sen, .int .i64 r.cnt, .string ⟨r.body.toArray⟩] 26) = w0 at *
  obtain ⟨gg, hgg⟩ : ∃ gg, w.heap.size = gg := ⟨_, rfl⟩
  rw [hgg] at hbx ⊢
  have d0 := fun d os => cell_regrown (hbx.cell 0 (v := .int .i64 r.sen) rfl) d os
  have d1 := fun d os => cell_regrown (hbx.cell 1 (v := .int .i64 r.cnt) rfl) d os
  have d2 := fun d os => cell_regrown (hbx.cell 2 (v := .string ⟨r.body.toArray⟩) rfl) d os
  refine wp_region_quiet_below (by kernel_rfl) (by kernel_rfl) ?_
  repeat (go_big_quiet_step (first
    | (go_at_call 35; with_reducible exact Calls.regrown_of (K1.out _))
    | (go_at_call 35; with_reducible exact Calls.regrown_of (K2.out _))
    | (go_at_call 34; with_reducible exact Calls.regrown_of (K3.out _))
    | (go_at_call 33; with_reducible exact Calls.regrown_of (K4.out _))))
  refine wpQuiet_nil ?_
  rintro w3 ⟨p2, rfl⟩
  have hb2 := below_regrown w0 p2.d p2.os
  go_wp2
  go_ret
  exact ⟨rfl, hb0.trans (hb2.mono hb0.size)⟩
set_option maxRecDepth 100000 in
set_option maxHeartbeats 1000000 in
theorem knext_walk (a : Option Addr) (l : List Kpt) (cap : Nat) (s : Int) (w : World) (hR : Rd w a (rowsC kpC l)) (hn : l.length ≤ 1000000) (hG : Good l l.length) (hI : ∀ r ∈ l, -4611686018427387904 ≤ r.cnt ∧ r.cnt ≤ 4611686018427387904) :
    Calls Try.prog 16 #[.agg #[.slice a l.length cap], .int .i64 s] w fun e w' => e = .returned (.int .i64 (nextF l s)) ∧ Below w.heap.size w w' := by
  have hb0 := (Below.refl w.heap.size w).alloc (Nat.le_refl _) (.cells #[.slice a l.length cap] 24)
  have hG1 := Bx.new w 24 [.slice a l.length cap]
  have hR1 := hR.keep hb0
  have k1 : ∀ V, Rd V a (rowsC kpC l) → Calls Try.prog 29 #[.agg #[.slice a l.length cap], .int .i64 s] V fun e w' => e = .returned (.tuple #[.int .i64 (posF l s : Int), .bool (hasF l s)]) ∧ Below V.heap.size V w' := fun V hV => krow_walk a l cap s V hV hn hG
  have hle := posF_le l s
  obtain ⟨k, hk⟩ : ∃ k, k = posF l s := ⟨_, rfl⟩
  obtain ⟨b, hb⟩ : ∃ b, b = hasF l s := ⟨_, rfl⟩
  rw [← hk, ← hb] at k1
  rw [← hk] at hle
  have K1 := Lib.hid k1
  have HK := Lib.hid hk
  have HB := Lib.hid hb
  have HI := Lib.hid hI
  clear k1 hk hb hI hG
  go_enter Try.func16, Try.ntmps16
  go_wp2_with (go_at_call 29; (with_reducible refine (K1.out _ hR1).mono ?_))
  rintro e w1 ⟨rfl, hb1⟩
  have hG2 := Bx.keep hG1 hb1
  have hR2 := hR1.keep hb1
  cases b with
  | false =>
    have HN := Lib.hid (show nextF l s = 1 by
      have h := HB.out
      unfold hasF at h
      unfold nextF
      split
      · rename_i r hr
        rw [hr] at h
        rw [if_neg (of_decide_eq_false h.symm)]
      · rfl)
    go_wp2
    go_ret
    exact ⟨by rw [HN.out]; rfl, below_tr hb0 hb1⟩
  | true =>
    obtain ⟨r, hr, hs⟩ := hasF_some HB.out.symm
    rw [← HK.out] at hr
    have hkl := (List.getElem?_eq_some_iff.1 hr).1
    obtain ⟨g, off, r', rfl, hr', c0, c1, c2, c3⟩ := hR2.kp (k := k) hkl
    rw [hr'.out] at hr
    cases hr
    have hbd := HI.out r (List.mem_of_getElem? hr'.out)
    have HN := Lib.hid (show nextF l s = r.cnt + 1 by
      unfold nextF
      rw [← HK.out, hr'.out]
      exact if_pos hs)
    have g0 := hG2.cell 0 (v := .slice (some ⟨g, off, none⟩) l.length cap) rfl
    have hki : (k : Int) < (l.length : Int) := by omega
    clear hs
    go_wp2
    go_ret
    exact ⟨by rw [HN.out]; rfl, below_tr hb0 hb1⟩
end Go.Proofs.Ytnlhcfhngdahlaa
