/- Rolls: who is added: the program's Add. -/
import Derived.Test.YtnahkfchcminpaaGreatDoorGEnrL
import Derived.Test.YtnahkfchcminpaaGreatDoorGEnrJ
import Derived.Test.YtnahkfchcminpaaGreatDoorGPrsKeys
namespace Go.Proofs.YtnahkfchcminpaaGreatDoor
open Go.RowKit
theorem ids_not {l : List Prs} {x : Prs} (h : (l.any fun r => r.id == x.id || r.key == x.key) = false) : ∀ r ∈ l, r.id ≠ x.id := fun r hr e => by
  have := List.any_eq_false.1 h r hr
  rw [e] at this
  simp at this
set_option maxRecDepth 100000 in
set_option maxHeartbeats 8000000 in
theorem eadd_walk (p : Int) (a : Option Addr) (l : List Prs) (c : Nat) (x : Prs) (R S : Int) (w : World) (hBs : Bases w) (hR : Rd w a (rowsC prC l)) (hI : ∀ r ∈ l, I64 r.key) (hn : l.length ≤ 281474976710656) :
    Calls Tryz.prog 12 #[.agg #[.int .i64 p, .slice a l.length c], prV x, .agg #[.int .i64 R, .int .i64 S]] w (RollRes w (addQ (addE p l x (verP p x.key (clmF x.id x.dep) R S)) p) (addE p l x (verP p x.key (clmF x.id x.dep) R S)) (addP (addE p l x (verP p x.key (clmF x.id x.dep) R S)) x l)) := by
  obtain ⟨ok, hok⟩ : ∃ ok, ok = verP p x.key (clmF x.id x.dep) R S := ⟨_, rfl⟩
  rw [← hok]
  have hD := Ra.mk0 w p a l.length c l x R S hR
  obtain ⟨w0, hw0⟩ : ∃ w0, w0 = (((w.alloc (.cells #[.int .i64 p, .slice a l.length c] 30)).alloc (.cells #[.int .i64 x.id, .int .i64 x.key, .int .i64 x.dep] 43)).alloc (.cells #[.int .i64 R, .int .i64 S] 34)).alloc (.cells #[.int .i64 0, .slice none 0 0] 30) := ⟨_, rfl⟩
  rw [← hw0] at hD
  have hBs0 := hBs.keep hD.b
  obtain ⟨gb, hgb⟩ : ∃ g, g = w.heap.size := ⟨_, rfl⟩
  rw [← hgb] at hD
  have HB := Lib.hid hgb
  have HOK := Lib.hid hok
  have hbw : w.heap.size = gb := hgb.symm
  have K1 := Lib.hid (echeck_walk p a l c w0 hBs0 hD.r hI hn)
  have HBS0 := Lib.hid hBs
  clear hgb hR hok hBs0 hBs
  go_enter Tryz.func12, Tryz.ntmps12
  go_upto_region 2 with (fail)
  rw [← hw0]
  clear hw0
  obtain ⟨y0, y1, y2, y3, y4, y5, y6⟩ := hD.held
  rcases chkP_cases p l with ⟨hc, hsf, hl64, hgood⟩ | hc
  rotate_left
  · rw [hc] at K1
    have HL := Lib.hid (addE_roll (x := x) (ok := ok) (show chkP p l ≠ 0 by rw [hc]; decide))
    clear hc
    go_wp2_with (go_at_call 23; (with_reducible refine K1.out.mono ?_))
    rintro e w1 ⟨rfl, hb1⟩
    replace hD := hD.keep hb1
    clear y0 y1 y2 y3 y4 y5 y6 hb1 K1
    obtain ⟨⟨z0, z1⟩, ⟨f0, f1⟩⟩ := hD.res
    have hF := hD.fin (.int .i64 0) (.slice none 0 0)
    go_wp2_with fail
    exact bodyPost_ret (RollB.ret (t := 6) (u := 7) rfl _ rfl hF.1) rfl (RollRes.added HL.out (by decide) (HB.out ▸ hF.2))
  rw [hc] at K1
  have HC := Lib.hid hc
  have HASC := Lib.hid (asc_good hgood)
  obtain ⟨h3, h30, -⟩ := safeP_bd hsf
  obtain ⟨P, rfl⟩ : ∃ P : Nat, p = (P : Int) := ⟨p.toNat, by omega⟩
  have HSF := Lib.hid hsf
  clear hc hsf h3 h30 hgood
  go_wp2_with (go_at_call 23; (with_reducible refine K1.out.mono ?_))
  rintro e w1 ⟨rfl, hb1⟩
  replace hD := hD.keep hb1
  clear y0 y1 y2 y3 y4 y5 y6 hb1 K1
  obtain ⟨y0, y1, y2, y3, y4, y5, y6⟩ := hD.held
  by_cases q1 : 1 ≤ x.id ∧ x.id ≤ 1048576
  rotate_left
  · have KI := Lib.hid (fun V : World => in_no (n := x.id) (lo := 1) (hi := 1048576) V q1)
    have HL := Lib.hid (addE_range (x := x) (ok := ok) HC.out (fun h => q1 h.1))
    clear q1
    obtain ⟨⟨z0, z1⟩, ⟨f0, f1⟩⟩ := hD.res
    have hF := hD.fin (.int .i64 0) (.slice none 0 0)
    go_wp2_with (go_at_call 28; (with_reducible refine (KI.out _).mono ?_); (first | rintro e w2 ⟨rfl, rfl⟩ | rintro e w2 rfl rfl))
    exact bodyPost_ret (RollB.ret (t := 6) (u := 7) rfl _ rfl hF.1) rfl (RollRes.added HL.out (by decide) (HB.out ▸ hF.2))
  have KI := Lib.hid (fun V : World => in_yes (n := x.id) (lo := 1) (hi := 1048576) V q1)
  by_cases q2 : 0 ≤ x.dep ∧ x.dep ≤ 63
  rotate_left
  · have KD := Lib.hid (fun V : World => in_no (n := x.dep) (lo := 0) (hi := 63) V q2)
    have HL := Lib.hid (addE_range (x := x) (ok := ok) HC.out (fun h => q2 h.2))
    clear q1 q2
    obtain ⟨⟨z0, z1⟩, ⟨f0, f1⟩⟩ := hD.res
    have hF := hD.fin (.int .i64 0) (.slice none 0 0)
    go_wp2_with (first
      | (go_at_call 28; (with_reducible refine (KI.out _).mono ?_); (first | rintro e w2 ⟨rfl, rfl⟩ | rintro e w2 rfl rfl))
      | (go_at_call 28; (with_reducible refine (KD.out _).mono ?_); (first | rintro e w2 ⟨rfl, rfl⟩ | rintro e w2 rfl rfl)))
    exact bodyPost_ret (RollB.ret (t := 6) (u := 7) rfl _ rfl hF.1) rfl (RollRes.added HL.out (by decide) (HB.out ▸ hF.2))
  have KD := Lib.hid (fun V : World => in_yes (n := x.dep) (lo := 0) (hi := 63) V q2)
  have HQ : Hid ((1 ≤ x.id ∧ x.id ≤ 1048576) ∧ (0 ≤ x.dep ∧ x.dep ≤ 63)) := Lib.hid ⟨q1, q2⟩
  have hI1 : I64 x.id := ⟨by omega, by omega⟩
  have hI2 : I64 x.dep := ⟨by omega, by omega⟩
  have HI1 := Lib.hid hI1
  have HI2 := Lib.hid hI2
  clear q1 q2 hI1 hI2
  go_upto_region 6 with (first
    | (go_at_call 28; (with_reducible refine (KI.out _).mono ?_); (first | rintro e w2 ⟨rfl, rfl⟩ | rintro e w2 rfl rfl))
    | (go_at_call 28; (with_reducible refine (KD.out _).mono ?_); (first | rintro e w2 ⟨rfl, rfl⟩ | rintro e w2 rfl rfl)))
  clear KI KD
  have km := ekey_walk P x.key w1 ((HBS0.out.keep (HB.out ▸ hD.b))) HSF.out
  cases hm : (x.key != 1 && memZ P x.key) with
  | false =>
    rw [hm] at km
    have KM := Lib.hid km
    have HL := Lib.hid (addE_key (ok := ok) HC.out HQ.out (by rw [Int.toNat_natCast]; exact hm))
    clear km hm
    go_wp2_with (go_at_call 29; (with_reducible refine KM.out.mono ?_))
    (first | rintro e w2 ⟨rfl, hb2⟩ | rintro e w2 rfl hb2)
    replace hD := hD.keep hb2
    clear y0 y1 y2 y3 y4 y5 y6 hb2 KM
    obtain ⟨⟨z0, z1⟩, ⟨f0, f1⟩⟩ := hD.res
    have hF := hD.fin (.int .i64 0) (.slice none 0 0)
    go_wp2_with fail
    exact bodyPost_ret (RollB.ret (t := 6) (u := 7) rfl _ rfl hF.1) rfl (RollRes.added HL.out (by decide) (HB.out ▸ hF.2))
  | true =>
  rw [hm] at km
  have KM := Lib.hid km
  have HKY : Hid ((x.key != 1 && memZ (P : Int).toNat x.key) = true) := Lib.hid (by rw [Int.toNat_natCast]; exact hm)
  clear km hm
  go_wp2_with (go_at_call 29; (with_reducible refine KM.out.mono ?_))
  (first | rintro e w2 ⟨rfl, hb2⟩ | rintro e w2 rfl hb2)
  replace hD := hD.keep hb2
  clear y0 y1 y2 y3 y4 y5 y6 hb2 KM
  obtain ⟨y0, y1, y2, y3, y4, y5, y6⟩ := hD.held
  have kh := ehas_walk a l c x (gb + 1) w2 hD.x hD.r hn
  cases hany : (l.any fun r => r.id == x.id || r.key == x.key) with
  | true =>
    rw [hany] at kh
    have KH := Lib.hid kh
    have HL := Lib.hid (addE_in (ok := ok) HC.out HQ.out HKY.out hany)
    clear kh hany
    go_wp2_with (go_at_call 30; (with_reducible refine KH.out.mono ?_))
    (first | rintro e w3 ⟨rfl, hb3⟩ | rintro e w3 rfl hb3)
    replace hD := hD.keep hb3
    clear y0 y1 y2 y3 y4 y5 y6 hb3 KH
    obtain ⟨⟨z0, z1⟩, ⟨f0, f1⟩⟩ := hD.res
    have hF := hD.fin (.int .i64 0) (.slice none 0 0)
    go_wp2_with fail
    exact bodyPost_ret (RollB.ret (t := 6) (u := 7) rfl _ rfl hF.1) rfl (RollRes.added HL.out (by decide) (HB.out ▸ hF.2))
  | false =>
  rw [hany] at kh
  have KH := Lib.hid kh
  have HAT := Lib.hid hany
  clear kh hany
  go_wp2_with (go_at_call 30; (with_reducible refine KH.out.mono ?_))
  (first | rintro e w3 ⟨rfl, hb3⟩ | rintro e w3 rfl hb3)
  replace hD := hD.keep hb3
  clear y0 y1 y2 y3 y4 y5 y6 hb3 KH
  have hcl := clmF_len HI1.out HI2.out
  have KC := Lib.hid (fun V => eclaim_walk x.id x.dep V HI1.out HI2.out)
  have kv := fun V hV => hverify_walk (P : Int) x.key (clmF x.id x.dep) R S V hV (by omega)
  simp only [← HOK.out] at kv
  have KV := Lib.hid kv
  generalize clmF x.id x.dep = txt at *
  clear kv hcl
  go_upto_region 10 with (fail)
  obtain ⟨y0, y1, y2, y3, y4, y5, y6⟩ := hD.held
  have d0 := fun d os => cell_regrown y0 d os
  have d1 := fun d os => cell_regrown y1 d os
  have d2 := fun d os => cell_regrown y2 d os
  have d3 := fun d os => cell_regrown y3 d os
  have d4 := fun d os => cell_regrown y4 d os
  have d5 := fun d os => cell_regrown y5 d os
  have d6 := fun d os => cell_regrown y6 d os
  have HBW := Lib.hid (HBS0.out.keep (HB.out ▸ hD.b))
  have HD := Lib.hid hD
  clear y0 y1 y2 y3 y4 y5 y6 hD
  refine wp_region_quiet_below (by kernel_rfl) (by kernel_rfl) ?_
  repeat (go_big_quiet_step (first | (go_at_call 11; with_reducible exact Calls.regrown_of (KC.out _)) | (go_at_call 31; with_reducible exact Calls.regrown_of (KV.out _ (HBW.out.keep (below_regrown _ _ _))))))
  refine wpQuiet_nil ?_
  rintro w7 ⟨p2, hw7⟩
  have hD := HD.out.keep (show Below w3.heap.size w3 w7 by first | (rw [hw7]; exact below_regrown w3 p2.d p2.os) | (rw [← hw7]; exact below_regrown w3 p2.d p2.os))
  clear hw7 d0 d1 d2 d3 d4 d5 d6 HD KC KV HBW
  cases ok with
  | false =>
    have HL := Lib.hid (addE_sig HC.out HQ.out HKY.out HAT.out (rfl : false = false))
    obtain ⟨⟨z0, z1⟩, ⟨f0, f1⟩⟩ := hD.res
    have hF := hD.fin (.int .i64 0) (.slice none 0 0)
    go_wp2_with fail
    exact bodyPost_ret (RollB.ret (t := 6) (u := 7) rfl _ rfl hF.1) rfl (RollRes.added HL.out (by decide) (HB.out ▸ hF.2))
  | true =>
  obtain ⟨y0, y1, y2, y3, y4, y5, y6⟩ := hD.held
  by_cases hfull : 64 ≤ l.length
  · have HL := Lib.hid (addE_full HC.out HQ.out HKY.out HAT.out (rfl : true = true) hfull)
    have t7 : decide ((l.length : Int) ≥ 64) = true := decide_eq_true (by omega)
    clear hfull
    obtain ⟨⟨z0, z1⟩, ⟨f0, f1⟩⟩ := hD.res
    have hF := hD.fin (.int .i64 0) (.slice none 0 0)
    go_wp2_with fail
    exact bodyPost_ret (RollB.ret (t := 6) (u := 7) rfl _ rfl hF.1) rfl (RollRes.added HL.out (by decide) (HB.out ▸ hF.2))
  have t7 : decide ((l.length : Int) ≥ 64) = false := decide_eq_false (by omega)
  have HL := Lib.hid (addE_ok HC.out HQ.out HKY.out HAT.out (rfl : true = true) (by omega))
  have HIN := Lib.hid (ids_not HAT.out)
  clear HC HQ HKY HAT HOK HI1 HI2 HSF
  go_upto_region 14 with (fail)
  obtain ⟨N, hN⟩ : ∃ N, N = w7.heap.size := ⟨_, rfl⟩
  have hN1 : gb + 3 < N := by rw [hN]; exact hD.z.lt
  have hN2 : 0 < l.length → ∀ j, rowOf a = some j → j < N := fun h0 j hj => by rw [hN]; exact hD.old h0 j hj
  have hNd : N ≤ w7.drew.heap.size := by rw [hN]; exact Nat.le_refl _
  have hNa : N ≤ ((w7.alloc (.cells #[.int .i64 x.id, .int .i64 x.key, .int .i64 x.dep] 43)).drew).heap.size := by rw [hN]; simp
  have H1 := Lib.hid (hD.keep (Below.refl w7.heap.size w7).drew)
  have H2 := Lib.hid (hD.keep ((Below.refl w7.heap.size w7).alloc (Nat.le_refl _) (.cells #[.int .i64 x.id, .int .i64 x.key, .int .i64 x.dep] 43)).drew)
  have HY2 : Hid (Rd ((w7.alloc (.cells #[.int .i64 x.id, .int .i64 x.key, .int .i64 x.dep] 43)).drew) (some ⟨w7.heap.size, 0, none⟩) (prC x)) := Lib.hid (Bx.rd (t := 43) ((Bx.new w7 43 [.int .i64 x.id, .int .i64 x.key, .int .i64 x.dep]).drew))
  have hgbN : gb ≤ N := by omega
  have hlb : (l.length + 1) * 24 ≤ 140737488355328 := by omega
  obtain ⟨u0, x1⟩ := H1.out.held
  obtain ⟨v0, x2⟩ := H2.out.held
  have KC := Lib.hid (fun V hV => eclone_walk a l c V hV (by omega))
  clear y0 y1 y2 y3 y4 y5 y6 t7 hD u0 v0
  refine wp_region_held_last' (S := fun w' => w'.cell? ⟨gb, 1, none⟩ = some (.slice a l.length c) ∧ w'.cell? ⟨gb + 1, 0, none⟩ = some (.int .i64 x.id) ∧ w'.cell? ⟨gb + 1, 1, none⟩ = some (.int .i64 x.key) ∧ w'.cell? ⟨gb + 1, 2, none⟩ = some (.int .i64 x.dep)) 6 rfl (by kernel_rfl) (by kernel_rfl) (by kernel_rfl) ⟨x1.1, x1.2.1, x1.2.2.1, x1.2.2.2.1⟩ (fun hHeld => ?_)
  dsimp only [List.dropLast, List.replicate] at hHeld ⊢
  refine held_take (0) (v := ?_) rfl (by kernel_rfl) (by kernel_rfl) (by kernel_rfl) (fun _ _ _ h => h) (Or.inl ⟨by rfl, ?_⟩) (by assumption) ?_
  rotate_left
  · intro w hSw
    try dsimp only at hSw
    go_simp
    with_reducible rfl
  try simp only [Act.put, List.setIfInBounds_toArray, List.set_cons_zero, List.set_cons_succ]
  refine held_take (1) (v := ?_) rfl (by kernel_rfl) (by kernel_rfl) (by kernel_rfl) (fun _ _ _ h => h) (Or.inl ⟨by rfl, ?_⟩) (by assumption) ?_
  rotate_left
  · intro w hSw
    try dsimp only at hSw
    go_simp
    with_reducible rfl
  try simp only [Act.put, List.setIfInBounds_toArray, List.set_cons_zero, List.set_cons_succ]
  refine held_take (3) (v := ?_) rfl (by kernel_rfl) (by kernel_rfl) (by kernel_rfl) (fun _ _ _ h => h) (Or.inl ⟨by rfl, ?_⟩) (by assumption) ?_
  rotate_left
  · intro w hSw
    try dsimp only at hSw
    go_simp
    with_reducible rfl
  try simp only [Act.put, List.setIfInBounds_toArray, List.set_cons_zero, List.set_cons_succ]
  refine wpAnyH_ready (rs := [2, 4]) (by kernel_rfl) (by simp) ?_
  refine held_cons rfl (fun K hK => ?_) ?_
  · skip
    go_simp
    go_at_call 32
    (with_reducible refine (KC.out _ H1.out.r).mono ?_)
    (first | rintro e w8 ⟨a8, c8, rfl, hO8, hb8⟩ | rintro e w8 a8 c8 rfl hO8 hb8)
    replace hO8 := hO8.lower hNd
    have h8 := H1.out.keep hb8
    obtain ⟨-, x8⟩ := h8.held
    have hs8 : N ≤ w8.heap.size := Nat.le_trans hNd hb8.size
    have h8a := h8.keep ((Below.refl w8.heap.size w8).alloc (Nat.le_refl _) (.cells #[.int .i64 x.id, .int .i64 x.key, .int .i64 x.dep] 43))
    obtain ⟨-, x8a⟩ := h8a.held
    have hs8a : N ≤ (w8.alloc (.cells #[.int .i64 x.id, .int .i64 x.key, .int .i64 x.dep] 43)).heap.size := by (simp; omega)
    go_wp2_with fail
    refine hK.out _ _ ⟨x8.1, x8.2.1, x8.2.2.1, x8.2.2.2.1⟩ (fun hHeld => ?_)
    clear hK K
    try simp only [Act.put, List.setIfInBounds_toArray, List.set_cons_zero, List.set_cons_succ]
    refine wpAnyH_ready (rs := [4]) (by kernel_rfl) (by simp) ?_
    refine held_cons rfl (fun K hK => ?_) AllReadyH.nil
    go_simp
    refine hK.out _ _ ⟨x8a.1, x8a.2.1, x8a.2.2.1, x8a.2.2.2.1⟩ (fun hHeld => ?_)
    clear hK K
    try simp only [Act.put, List.setIfInBounds_toArray, List.set_cons_zero, List.set_cons_succ]
    refine wpAnyH_ready (rs := [5]) (by kernel_rfl) (by simp) ?_
    refine held_cons rfl (fun K hK => ?_) AllReadyH.nil
    refine step_apps (w0 := w) (B := gb) rfl _ _ _ _ rfl elPr rfl (hO8.keep ((Below.refl _ _).alloc (Nat.le_refl _) _)) h8a.b hgbN hs8a rfl (Src.slice (m := 1) Tryz.underlying28 (by rfl) (Bx.rd (Bx.new w8 43 (prC x))) (prC_one _)) hlb ?_
    intro a9 c9 w9 hO9 hB9 hgr9
    have h9 := h8a.faro hgr9 hN1 hN2 (fun j hj => (hO8.row j hj).1)
    obtain ⟨-, x9⟩ := h9.held
    refine hK.out _ _ ⟨x9.1, x9.2.1, x9.2.2.1, x9.2.2.2.1⟩ (fun hHeld => ?_)
    clear hK K
    try simp only [Act.put, List.setIfInBounds_toArray, List.set_cons_zero, List.set_cons_succ]
    refine wpAnyH_done (by kernel_rfl) ?_ _
    dsimp only [Behind]
    go_simp
    have hO10 : Ow w9 N 3 a9 (l.length + 1) c9 (rowsC prC (l ++ [x])) := by rw [rowsC_append, rowsC_single]; exact hO9
    obtain ⟨ga, off, rfl⟩ : ∃ ga off, a9 = some ⟨ga, off, none⟩ := by
      obtain ⟨g, off, r, e, _⟩ := hO10.rd.prs (k := 0) (by simp)
      exact ⟨g, off, e⟩
    have hga := (hO10.row ga rfl).1
    have KS := Lib.hid (esort_walk N ga off (l ++ [x]) (l.length + 1) c9 w9 hO10 (by simp) (by omega))
    have hcc := hO10.2.1
    clear x1 x2 x8 x9 hO9
    generalize hln : l.length + 1 = n9 at *
    go_wp2_with (go_at_call 33; (with_reducible refine KS.out.mono ?_))
    (first | rintro e wS ⟨rfl, m, hp, hst, hRm, hgS⟩ | rintro e wS rfl m hp hst hRm hgS)
    have hmm := sorted_ins HASC.out HIN.out hp hst
    have hDS := h9.faro (N := N) hgS hN1 hN2 (fun j hj => by cases hj; exact hga)
    subst hmm
    clear hp hst KS hgS hO10
    obtain ⟨⟨z0, z1⟩, ⟨f0, f1⟩⟩ := hDS.res
    have y0 := hDS.g.cell 0 (v := .int .i64 (P : Int)) rfl
    have hF := hDS.fin (.int .i64 (P : Int)) (.slice (some ⟨ga, off, none⟩) n9 c9)
    have hRF := (hRm.grown (set_grown wS (gb + 3) 0 (.int .i64 (P : Int))) (fun g o e => by cases e; simp; omega)).grown (set_grown _ (gb + 3) 1 (.slice (some ⟨ga, off, none⟩) n9 c9)) (fun g o e => by cases e; simp; omega)
    clear hRm hDS
    have HLN := Lib.hid hln
    clear hln
    go_wp2_with fail
    refine bodyPost_ret (RollB.ret (t := 6) (u := 7) rfl _ rfl hF.1) rfl ?_
    have hip : addP 0 x l = insP x l := by rw [addP, if_pos rfl]
    rw [HL.out, hip]
    exact ⟨some ⟨ga, off, none⟩, c9, by rw [insP_len, HLN.out]; rfl, by rw [insP_len, HLN.out]; exact hcc, hRF, fun j hj => (show w.heap.size ≤ j by rw [← Option.some.inj (show some ga = some j from hj)]; omega), HB.out ▸ hF.2⟩
  · refine held_cons rfl (fun K hK => ?_) AllReadyH.nil
    go_simp
    refine hK.out _ _ ⟨x2.1, x2.2.1, x2.2.2.1, x2.2.2.2.1⟩ (fun hHeld => ?_)
    clear hK K
    try simp only [Act.put, List.setIfInBounds_toArray, List.set_cons_zero, List.set_cons_succ]
    refine wpAnyH_ready (rs := [2]) (by kernel_rfl) (by simp) ?_
    refine held_cons rfl (fun K hK => ?_) AllReadyH.nil
    go_simp
    go_at_call 32
    (with_reducible refine (KC.out _ H2.out.r).mono ?_)
    (first | rintro e w8 ⟨a8, c8, rfl, hO8, hb8⟩ | rintro e w8 a8 c8 rfl hO8 hb8)
    replace hO8 := hO8.lower hNa
    have h8 := H2.out.keep hb8
    obtain ⟨-, x8⟩ := h8.held
    have hs8 : N ≤ w8.heap.size := Nat.le_trans hNa hb8.size
    have hy8 := HY2.out.keep hb8
    go_wp2_with fail
    refine hK.out _ _ ⟨x8.1, x8.2.1, x8.2.2.1, x8.2.2.2.1⟩ (fun hHeld => ?_)
    clear hK K
    try simp only [Act.put, List.setIfInBounds_toArray, List.set_cons_zero, List.set_cons_succ]
    refine wpAnyH_ready (rs := [5]) (by kernel_rfl) (by simp) ?_
    refine held_cons rfl (fun K hK => ?_) AllReadyH.nil
    refine step_apps (w0 := w) (B := gb) rfl _ _ _ _ rfl elPr rfl hO8 h8.b hgbN hs8 rfl (Src.slice (m := 1) Tryz.underlying28 (by rfl) hy8 (prC_one _)) hlb ?_
    intro a9 c9 w9 hO9 hB9 hgr9
    have h9 := h8.faro hgr9 hN1 hN2 (fun j hj => (hO8.row j hj).1)
    obtain ⟨-, x9⟩ := h9.held
    refine hK.out _ _ ⟨x9.1, x9.2.1, x9.2.2.1, x9.2.2.2.1⟩ (fun hHeld => ?_)
    clear hK K
    try simp only [Act.put, List.setIfInBounds_toArray, List.set_cons_zero, List.set_cons_succ]
    refine wpAnyH_done (by kernel_rfl) ?_ _
    dsimp only [Behind]
    go_simp
    have hO10 : Ow w9 N 3 a9 (l.length + 1) c9 (rowsC prC (l ++ [x])) := by rw [rowsC_append, rowsC_single]; exact hO9
    obtain ⟨ga, off, rfl⟩ : ∃ ga off, a9 = some ⟨ga, off, none⟩ := by
      obtain ⟨g, off, r, e, _⟩ := hO10.rd.prs (k := 0) (by simp)
      exact ⟨g, off, e⟩
    have hga := (hO10.row ga rfl).1
    have KS := Lib.hid (esort_walk N ga off (l ++ [x]) (l.length + 1) c9 w9 hO10 (by simp) (by omega))
    have hcc := hO10.2.1
    clear x1 x2 x8 x9 hO9
    generalize hln : l.length + 1 = n9 at *
    go_wp2_with (go_at_call 33; (with_reducible refine KS.out.mono ?_))
    (first | rintro e wS ⟨rfl, m, hp, hst, hRm, hgS⟩ | rintro e wS rfl m hp hst hRm hgS)
    have hmm := sorted_ins HASC.out HIN.out hp hst
    have hDS := h9.faro (N := N) hgS hN1 hN2 (fun j hj => by cases hj; exact hga)
    subst hmm
    clear hp hst KS hgS hO10
    obtain ⟨⟨z0, z1⟩, ⟨f0, f1⟩⟩ := hDS.res
    have y0 := hDS.g.cell 0 (v := .int .i64 (P : Int)) rfl
    have hF := hDS.fin (.int .i64 (P : Int)) (.slice (some ⟨ga, off, none⟩) n9 c9)
    have hRF := (hRm.grown (set_grown wS (gb + 3) 0 (.int .i64 (P : Int))) (fun g o e => by cases e; simp; omega)).grown (set_grown _ (gb + 3) 1 (.slice (some ⟨ga, off, none⟩) n9 c9)) (fun g o e => by cases e; simp; omega)
    clear hRm hDS
    have HLN := Lib.hid hln
    clear hln
    go_wp2_with fail
    refine bodyPost_ret (RollB.ret (t := 6) (u := 7) rfl _ rfl hF.1) rfl ?_
    have hip : addP 0 x l = insP x l := by rw [addP, if_pos rfl]
    rw [HL.out, hip]
    exact ⟨some ⟨ga, off, none⟩, c9, by rw [insP_len, HLN.out]; rfl, by rw [insP_len, HLN.out]; exact hcc, hRF, fun j hj => (show w.heap.size ≤ j by rw [← Option.some.inj (show some ga = some j from hj)]; omega), HB.out ▸ hF.2⟩
end Go.Proofs.YtnahkfchcminpaaGreatDoor
