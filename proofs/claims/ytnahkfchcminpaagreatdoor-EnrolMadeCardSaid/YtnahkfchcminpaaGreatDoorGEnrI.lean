/- Rolls: who is added: the reference's Add. -/
import Derived.Test.YtnahkfchcminpaaGreatDoorGEnrH
import Derived.Test.YtnahkfchcminpaaGreatDoorGHandG
namespace Go.Proofs.YtnahkfchcminpaaGreatDoor
open Go.RowKit
theorem Ra.old {W w : World} {gb : Nat} {p : Int} {a : Option Addr} {n c : Nat} {L : List Prs} {x : Prs} {R S : Int} (h : Ra W w gb p a n c L x R S) (h0 : 0 < L.length) : ∀ j, rowOf a = some j → j < w.heap.size := fun j hj => by
  obtain ⟨g, off, r, ha, _, d0, _⟩ := h.r.prs h0
  rw [ha] at hj
  cases hj
  simpa using World.block_lt_of_cell? w _ d0
theorem Ra.faro {W w w' : World} {gb : Nat} {p : Int} {a : Option Addr} {n c : Nat} {L : List Prs} {x : Prs} {R S : Int} {N : Nat} {row : Option Nat} (h : Ra W w gb p a n c L x R S) (hg : w.grownBy w' row) (h1 : gb + 3 < N) (h2 : 0 < L.length → ∀ j, rowOf a = some j → j < N) (hr : ∀ j, row = some j → N ≤ j) : Ra W w' gb p a n c L x R S := by
  by_cases h0 : 0 < L.length
  · exact h.far hg h1 (h2 h0) hr
  · have hx : ∀ j, j < N → some j ≠ row := fun j hj e => by have := hr j e.symm; omega
    have hL : L = [] := List.eq_nil_of_length_eq_zero (by omega)
    exact ⟨h.g.grown hg (hx _ (by omega)), h.x.grown hg (hx _ (by omega)), h.s.grown hg (hx _ (by omega)), h.z.grown hg (hx _ (by omega)), hL ▸ Rd.nil _ _, h.b.grown hg (Nat.le_of_lt h.g.lt) (fun k hk => by have := hr k hk; omega)⟩
theorem RollRes.added {W w' : World} {e p : Int} {l : List Prs} {x : Prs} {ok : Bool} (he : addE p l x ok = e) (h0 : e ≠ 0) (h : Below W.heap.size W w') :
    RollRes W (addQ (addE p l x ok) p) (addE p l x ok) (addP (addE p l x ok) x l) (.returned (.tuple #[.agg #[.int .i64 0, .slice none 0 0], .int .i64 e])) w' := by
  rw [he, addQ, addP, if_neg h0, if_neg h0]
  exact RollRes.no h
set_option maxRecDepth 100000 in
set_option maxHeartbeats 8000000 in
theorem readd_walk (p : Int) (a : Option Addr) (l : List Prs) (c : Nat) (x : Prs) (R S : Int) (w : World) (hsp : rsafe p = safeP p) (hR : Rd w a (rowsC prC l)) (hn : l.length ≤ 281474976710656) (hlc : l.length ≤ c) :
    Calls Tryz.prog 37 #[.agg #[.int .i64 p, .slice a l.length c], prV x, .agg #[.int .i64 R, .int .i64 S]] w (RollRes w (addQ (addE p l x (verP p x.key (clmF x.id x.dep) R S)) p) (addE p l x (verP p x.key (clmF x.id x.dep) R S)) (addP (addE p l x (verP p x.key (clmF x.id x.dep) R S)) x l)) := by
  obtain ⟨ok, hok⟩ : ∃ ok, ok = verP p x.key (clmF x.id x.dep) R S := ⟨_, rfl⟩
  rw [← hok]
  have hD := Ra.mk0 w p a l.length c l x R S hR
  obtain ⟨w0, hw0⟩ : ∃ w0, w0 = (((w.alloc (.cells #[.int .i64 p, .slice a l.length c] 30)).alloc (.cells #[.int .i64 x.id, .int .i64 x.key, .int .i64 x.dep] 43)).alloc (.cells #[.int .i64 R, .int .i64 S] 34)).alloc (.cells #[.int .i64 0, .slice none 0 0] 30) := ⟨_, rfl⟩
  rw [← hw0] at hD
  obtain ⟨gb, hgb⟩ : ∃ g, g = w.heap.size := ⟨_, rfl⟩
  rw [← hgb] at hD
  have HB := Lib.hid hgb
  have HOK := Lib.hid hok
  have hbw : w.heap.size = gb := hgb.symm
  have K1 := Lib.hid (recheck_walk p a l c w0 hsp hD.r hn)
  have HSP := Lib.hid hsp
  clear hgb hR hsp hok
  go_enter Tryz.func37, Tryz.ntmps37
  go_upto_region 1 with (fail)
  rw [← hw0]
  clear hw0
  obtain ⟨y0, y1, y2, y3, y4, y5, y6⟩ := hD.held
  rcases chkP_cases p l with ⟨hc, hsf, hl64, -⟩ | hc
  rotate_left
  · rw [hc] at K1
    have HL := Lib.hid (addE_roll (x := x) (ok := ok) (show chkP p l ≠ 0 by rw [hc]; decide))
    clear hc
    go_wp2_with (go_at_call 39; (with_reducible refine K1.out.mono ?_))
    rintro e w1 ⟨rfl, hb1⟩
    replace hD := hD.keep hb1
    clear y0 y1 y2 y3 y4 y5 y6 hb1 K1
    obtain ⟨⟨z0, z1⟩, ⟨f0, f1⟩⟩ := hD.res
    have hF := hD.fin (.int .i64 0) (.slice none 0 0)
    go_wp2_with fail
    exact bodyPost_ret (RollB.ret (t := 6) (u := 7) rfl _ rfl hF.1) rfl (RollRes.added HL.out (by decide) (HB.out ▸ hF.2))
  rw [hc] at K1
  have HC := Lib.hid hc
  obtain ⟨h3, h30, -⟩ := safeP_bd hsf
  obtain ⟨P, rfl⟩ : ∃ P : Nat, p = (P : Int) := ⟨p.toNat, by omega⟩
  have HRS := Lib.hid (HSP.out.trans hsf)
  clear hc hsf h3 h30
  go_wp2_with (go_at_call 39; (with_reducible refine K1.out.mono ?_))
  rintro e w1 ⟨rfl, hb1⟩
  replace hD := hD.keep hb1
  clear y0 y1 y2 y3 y4 y5 y6 hb1 K1
  obtain ⟨y0, y1, y2, y3, y4, y5, y6⟩ := hD.held
  by_cases q1 : x.id < 1
  · have q1d : decide (x.id < 1) = true := decide_eq_true q1
    have HL := Lib.hid (addE_range (x := x) (ok := ok) HC.out (fun h => by omega))
    obtain ⟨⟨z0, z1⟩, ⟨f0, f1⟩⟩ := hD.res
    have hF := hD.fin (.int .i64 0) (.slice none 0 0)
    go_wp2_with fail
    exact bodyPost_ret (RollB.ret (t := 6) (u := 7) rfl _ rfl hF.1) rfl (RollRes.added HL.out (by decide) (HB.out ▸ hF.2))
  have q1d : decide (x.id < 1) = false := decide_eq_false q1
  by_cases q2 : x.id > 1048576
  · have q2d : decide (x.id > 1048576) = true := decide_eq_true q2
    have HL := Lib.hid (addE_range (x := x) (ok := ok) HC.out (fun h => by omega))
    obtain ⟨⟨z0, z1⟩, ⟨f0, f1⟩⟩ := hD.res
    have hF := hD.fin (.int .i64 0) (.slice none 0 0)
    go_wp2_with fail
    exact bodyPost_ret (RollB.ret (t := 6) (u := 7) rfl _ rfl hF.1) rfl (RollRes.added HL.out (by decide) (HB.out ▸ hF.2))
  have q2d : decide (x.id > 1048576) = false := decide_eq_false q2
  by_cases q3 : x.dep < 0
  · have q3d : decide (x.dep < 0) = true := decide_eq_true q3
    have HL := Lib.hid (addE_range (x := x) (ok := ok) HC.out (fun h => by omega))
    obtain ⟨⟨z0, z1⟩, ⟨f0, f1⟩⟩ := hD.res
    have hF := hD.fin (.int .i64 0) (.slice none 0 0)
    go_wp2_with fail
    exact bodyPost_ret (RollB.ret (t := 6) (u := 7) rfl _ rfl hF.1) rfl (RollRes.added HL.out (by decide) (HB.out ▸ hF.2))
  have q3d : decide (x.dep < 0) = false := decide_eq_false q3
  by_cases q4 : x.dep > 63
  · have q4d : decide (x.dep > 63) = true := decide_eq_true q4
    have HL := Lib.hid (addE_range (x := x) (ok := ok) HC.out (fun h => by omega))
    obtain ⟨⟨z0, z1⟩, ⟨f0, f1⟩⟩ := hD.res
    have hF := hD.fin (.int .i64 0) (.slice none 0 0)
    go_wp2_with fail
    exact bodyPost_ret (RollB.ret (t := 6) (u := 7) rfl _ rfl hF.1) rfl (RollRes.added HL.out (by decide) (HB.out ▸ hF.2))
  have q4d : decide (x.dep > 63) = false := decide_eq_false q4
  have HQ : Hid ((1 ≤ x.id ∧ x.id ≤ 1048576) ∧ (0 ≤ x.dep ∧ x.dep ≤ 63)) := Lib.hid (by omega)
  have hI1 : I64 x.id := ⟨by omega, by omega⟩
  have hI2 : I64 x.dep := ⟨by omega, by omega⟩
  have HI1 := Lib.hid hI1
  have HI2 := Lib.hid hI2
  clear q1 q2 q3 q4 hI1 hI2
  have km := fun V => rMember_walk P x.key V HRS.out
  cases hm : memZ P x.key with
  | false =>
    rw [hm] at km
    have KM := Lib.hid km
    have HL := Lib.hid (addE_key (ok := ok) HC.out HQ.out (by rw [Int.toNat_natCast, hm, Bool.and_false]))
    clear km hm
    go_wp2_with (go_at_call 66; (with_reducible refine (KM.out _).mono ?_))
    (try rintro e w2 ⟨rfl, rfl⟩)
    obtain ⟨⟨z0, z1⟩, ⟨f0, f1⟩⟩ := hD.res
    have hF := hD.fin (.int .i64 0) (.slice none 0 0)
    go_wp2_with fail
    exact bodyPost_ret (RollB.ret (t := 6) (u := 7) rfl _ rfl hF.1) rfl (RollRes.added HL.out (by decide) (HB.out ▸ hF.2))
  | true =>
  rw [hm] at km
  have KM := Lib.hid km
  clear km
  by_cases h1 : x.key = 1
  · have t1 : (x.key == 1) = true := by rw [beq_iff_eq]; exact h1
    have HL := Lib.hid (addE_key (ok := ok) HC.out HQ.out (by rw [h1]; rfl))
    clear h1 hm
    go_wp2_with (go_at_call 66; (with_reducible refine (KM.out _).mono ?_))
    (try rintro e w2 ⟨rfl, rfl⟩)
    obtain ⟨⟨z0, z1⟩, ⟨f0, f1⟩⟩ := hD.res
    have hF := hD.fin (.int .i64 0) (.slice none 0 0)
    go_wp2_with fail
    exact bodyPost_ret (RollB.ret (t := 6) (u := 7) rfl _ rfl hF.1) rfl (RollRes.added HL.out (by decide) (HB.out ▸ hF.2))
  have t1 : (x.key == 1) = false := by rw [beq_eq_false_iff_ne]; exact h1
  have HKY : Hid ((x.key != 1 && memZ (P : Int).toNat x.key) = true) := Lib.hid (by rw [Int.toNat_natCast, hm, Bool.and_true, bne_iff_ne]; exact h1)
  clear h1 hm
  go_wp2_with (go_at_call 66; (with_reducible refine (KM.out _).mono ?_))
  (try rintro e w2 ⟨rfl, rfl⟩)
  go_upto_region 7 with (fail)
  have K2 := Lib.hid (fun V hV => rfind_walk (P : Int) a l c x.id V hV hn)
  have K3 := Lib.hid (fun V hV => rby_walk (P : Int) a l c x.key V hV hn)
  have hat := any_two l x
  generalize (fstP Prs.id l x.id).isSome = b1 at *
  generalize (fstP Prs.key l x.key).isSome = b2 at *
  generalize (fstP Prs.id l x.id).getD Prs.zero = r1 at *
  generalize (fstP Prs.key l x.key).getD Prs.zero = r2 at *
  have HAT := Lib.hid hat
  clear hat KM t1 q1d q2d q3d q4d
  go_wp2_with (go_at_call 40; (with_reducible refine (K2.out _ hD.r).mono ?_))
  (first | rintro e w3 rfl hb3 | rintro e w3 ⟨rfl, hb3⟩)
  replace hD := (hD.keep hb3).keep ((Below.refl w3.heap.size w3).alloc (Nat.le_refl _) (.cells #[.int .i64 r1.id, .int .i64 r1.key, .int .i64 r1.dep] 43))
  clear y0 y1 y2 y3 y4 y5 y6 hb3 K2
  go_upto_region 8 with (fail)
  generalize w3.alloc (.cells #[.int .i64 r1.id, .int .i64 r1.key, .int .i64 r1.dep] 43) = w4 at *
  obtain ⟨y0, y1, y2, y3, y4, y5, y6⟩ := hD.held
  go_wp2_with (go_at_call 42; (with_reducible refine (K3.out _ hD.r).mono ?_))
  (first | rintro e w5 rfl hb5 | rintro e w5 ⟨rfl, hb5⟩)
  replace hD := (hD.keep hb5).keep ((Below.refl w5.heap.size w5).alloc (Nat.le_refl _) (.cells #[.int .i64 r2.id, .int .i64 r2.key, .int .i64 r2.dep] 43))
  clear y0 y1 y2 y3 y4 y5 y6 hb5 K3
  go_upto_region 9 with (fail)
  generalize w5.alloc (.cells #[.int .i64 r2.id, .int .i64 r2.key, .int .i64 r2.dep] 43) = w6 at *
  cases b1 with
  | true =>
    have HL := Lib.hid (addE_in (ok := ok) HC.out HQ.out HKY.out (by rw [HAT.out]; rfl))
    obtain ⟨⟨z0, z1⟩, ⟨f0, f1⟩⟩ := hD.res
    have hF := hD.fin (.int .i64 0) (.slice none 0 0)
    go_wp2_with fail
    exact bodyPost_ret (RollB.ret (t := 6) (u := 7) rfl _ rfl hF.1) rfl (RollRes.added HL.out (by decide) (HB.out ▸ hF.2))
  | false =>
  cases b2 with
  | true =>
    have HL := Lib.hid (addE_in (ok := ok) HC.out HQ.out HKY.out (by rw [HAT.out]; rfl))
    obtain ⟨⟨z0, z1⟩, ⟨f0, f1⟩⟩ := hD.res
    have hF := hD.fin (.int .i64 0) (.slice none 0 0)
    go_wp2_with fail
    exact bodyPost_ret (RollB.ret (t := 6) (u := 7) rfl _ rfl hF.1) rfl (RollRes.added HL.out (by decide) (HB.out ▸ hF.2))
  | false =>
  rw [Bool.false_or] at HAT
  have hcl := clmF_len HI1.out HI2.out
  have KC := Lib.hid (fun V => reclaim_walk x.id x.dep V HI1.out HI2.out)
  have kv := fun V => rverify_walk (P : Int) x.key (clmF x.id x.dep) R S V HSP.out (by omega)
  simp only [← HOK.out] at kv
  have KV := Lib.hid kv
  generalize clmF x.id x.dep = txt at *
  clear kv hcl
  go_upto_region 11 with (fail)
  obtain ⟨y0, y1, y2, y3, y4, y5, y6⟩ := hD.held
  have d0 := fun d os => cell_regrown y0 d os
  have d1 := fun d os => cell_regrown y1 d os
  have d2 := fun d os => cell_regrown y2 d os
  have d3 := fun d os => cell_regrown y3 d os
  have d4 := fun d os => cell_regrown y4 d os
  have d5 := fun d os => cell_regrown y5 d os
  have d6 := fun d os => cell_regrown y6 d os
  have HD := Lib.hid hD
  clear y0 y1 y2 y3 y4 y5 y6 hD
  refine wp_region_quiet_below (by kernel_rfl) (by kernel_rfl) ?_
  repeat (go_big_quiet_step (first | (go_at_call 20; with_reducible exact Calls.regrown_of (KC.out _)) | (go_at_call 67; with_reducible exact Calls.regrown_of (KV.out _))))
  refine wpQuiet_nil ?_
  rintro w7 ⟨p2, hw7⟩
  have hD := HD.out.keep (show Below w6.heap.size w6 w7 by first | (rw [hw7]; exact below_regrown w6 p2.d p2.os) | (rw [← hw7]; exact below_regrown w6 p2.d p2.os))
  clear hw7 d0 d1 d2 d3 d4 d5 d6 HD KC KV
  cases ok with
  | false =>
    have HL := Lib.hid (addE_sig HC.out HQ.out HKY.out HAT.out (rfl : false = false))
    obtain ⟨⟨z0, z1⟩, ⟨f0, f1⟩⟩ := hD.res
    have hF := hD.fin (.int .i64 0) (.slice none 0 0)
    go_wp2_with fail
    exact bodyPost_ret (RollB.ret (t := 6) (u := 7) rfl _ rfl hF.1) rfl (RollRes.added HL.out (by decide) (HB.out ▸ hF.2))
  | true =>
  obtain ⟨y0, y1, y2, y3, y4, y5, y6⟩ := hD.held
  by_cases hfull : 64 ≤ l.length
  · have HL := Lib.hid (addE_full HC.out HQ.out HKY.out HAT.out (rfl : true = true) hfull)
    have t7 : ((l.length : Int) == 64) = true := by rw [beq_iff_eq]; omega
    clear hfull
    obtain ⟨⟨z0, z1⟩, ⟨f0, f1⟩⟩ := hD.res
    have hF := hD.fin (.int .i64 0) (.slice none 0 0)
    go_wp2_with fail
    exact bodyPost_ret (RollB.ret (t := 6) (u := 7) rfl _ rfl hF.1) rfl (RollRes.added HL.out (by decide) (HB.out ▸ hF.2))
  have t7 : ((l.length : Int) == 64) = false := by rw [beq_eq_false_iff_ne]; omega
  have HL := Lib.hid (addE_ok HC.out HQ.out HKY.out HAT.out (rfl : true = true) (by omega))
  clear HC HQ HKY HAT HOK HSP HRS HI1 HI2
  go_upto_region 16 with (fail)
  have hX := Bx.new w7 30 [.int .i64 (P : Int), .slice none 0 0]
  change Bx (w7.alloc (.cells #[.int .i64 (P : Int), .slice none 0 0] 30)) _ _ _ at hX
  have hgo : gb + 3 < w7.heap.size := hD.z.lt
  have HOLD := Lib.hid (fun h0 => hD.old h0)
  replace hD := hD.keep ((Below.refl w7.heap.size w7).alloc (Nat.le_refl _) (.cells #[.int .i64 (P : Int), .slice none 0 0] 30))
  clear y0 y1 y2 y3 y4 y5 y6 t7
  generalize w7.alloc (.cells #[.int .i64 (P : Int), .slice none 0 0] 30) = w8 at *
  generalize w7.heap.size = go at *
  go_wp2_with fail
  go_loopw [13] (fun i wr => ∃ k : Nat, k ≤ l.length ∧ i = .int .i64 (k : Int) ∧ (∀ (j : Nat) (r : Prs), j < k → l[j]? = some r → r.id < x.id) ∧ Ra w wr gb (P : Int) a l.length c l x R S ∧ Bx wr go 30 [.int .i64 (P : Int), .slice none 0 0]) (fun i _ => l.length - (intOf i).toNat)
  case atStart => exact ⟨0, Nat.zero_le _, rfl, fun j r h => by omega, hD, hX⟩
  case round =>
    clear hD hX
    obtain ⟨k, hk, rfl, hlo, hD, hX⟩ := hrel
    have HLO := Lib.hid hlo
    clear hlo
    obtain ⟨y0, y1, y2, y3, y4, y5, y6⟩ := hD.held
    have d1 := fun d os => cell_regrown y1 d os
    have d2 := fun d os => cell_regrown y2 d os
    have HD := Lib.hid hD
    have HX := Lib.hid hX
    by_cases hkt : k < l.length
    rotate_left
    · have hkl : decide ((k : Int) < (l.length : Int)) = false := decide_eq_false (by omega)
      have hkl2 : decide (k < l.length) = false := decide_eq_false (by omega)
      have HK := Lib.hid (lowN_eq hk HLO.out (fun r hr => absurd (List.getElem?_eq_some_iff.1 hr).1 hkt))
      clear y0 y1 y2 y3 y4 y5 y6 hD hX
      go_upto_region 17 with (fail)
      refine wp_region_quiet_below (by kernel_rfl) (by kernel_rfl) ?_
      repeat (go_big_quiet_step (fail))
      refine wpQuiet_nil ?_
      rintro w9 ⟨p2, hw9⟩
      have hb9 : Below wr.heap.size wr w9 := by first | (rw [hw9]; exact below_regrown wr p2.d p2.os) | (rw [← hw9]; exact below_regrown wr p2.d p2.os)
      have hRn := HD.out.keep hb9
      have hXn := HX.out.keep hb9
      clear hw9 hb9
      clear d1 d2 HD HX
      have hlen2 := ins_length (z := x) hk
      have s1 := fun V => slice_to (P := Tryz.prog) (size := 3) Tryz.underlying28 (fun _ => by kernel_rfl) a l.length c k (by omega) V
      have s2 := fun V => slice_from (P := Tryz.prog) (size := 3) Tryz.underlying28 (fun _ => by kernel_rfl) a l.length c k hk V
      generalize hsf : sfrom a 3 k c = af at s2
      obtain ⟨N, hN⟩ : ∃ N, N = w9.heap.size := ⟨_, rfl⟩
      have hgx : go < w9.heap.size := hXn.lt
      have hN1 : gb + 3 < N := by rw [hN]; exact hRn.z.lt
      have hN2 : 0 < l.length → ∀ j, rowOf a = some j → j < N := fun h0 j hj => by rw [hN]; exact hRn.old h0 j hj
      have hN3 : go < N := by rw [hN]; exact hXn.lt
      have hNd : N ≤ w9.drew.heap.size := by rw [hN]; exact Nat.le_refl _
      have hNa : N ≤ ((w9.alloc (.cells #[.int .i64 x.id, .int .i64 x.key, .int .i64 x.dep] 43)).drew).heap.size := by rw [hN]; simp
      have htl : (rowsC prC (l.take k)).length = k * 3 := by rw [rowsC_length prC_len, List.length_take, Nat.min_eq_left hk]
      have hdl : (rowsC prC (l.drop k)).length = (l.length - k) * 3 := by rw [rowsC_length prC_len, List.length_drop]
      have hll := rowsC_length prC_len l
      have H1 := Lib.hid (hRn.keep (Below.refl w9.heap.size w9).drew)
      have H2 := Lib.hid (hRn.keep ((Below.refl w9.heap.size w9).alloc (Nat.le_refl _) (.cells #[.int .i64 x.id, .int .i64 x.key, .int .i64 x.dep] 43)).drew)
      have X1 := Lib.hid (hXn.keep (Below.refl w9.heap.size w9).drew)
      have X2 := Lib.hid (hXn.keep ((Below.refl w9.heap.size w9).alloc (Nat.le_refl _) (.cells #[.int .i64 x.id, .int .i64 x.key, .int .i64 x.dep] 43)).drew)
      have HY2 : Hid (Rd ((w9.alloc (.cells #[.int .i64 x.id, .int .i64 x.key, .int .i64 x.dep] 43)).drew) (some ⟨w9.heap.size, 0, none⟩) (prC x)) := Lib.hid (Bx.rd (t := 43) ((Bx.new w9 43 [.int .i64 x.id, .int .i64 x.key, .int .i64 x.dep]).drew))
      have hbN : gb ≤ N := by omega
      obtain ⟨u0, x1⟩ := H1.out.held
      obtain ⟨v0, x2⟩ := H2.out.held
      have hby1 : (0 + k) * 24 ≤ 140737488355328 := by omega
      have hby2 : (k + 1) * 24 ≤ 140737488355328 := by omega
      have hby3 : (k + 1 + (l.length - k)) * 24 ≤ 140737488355328 := by omega
      have HSF : Hid (∀ V, Rd V a (rowsC prC l) → Rd V af (rowsC prC (l.drop k))) := Lib.hid (fun V hV => by rw [← hsf, rowsC_drop prC_len]; exact hV.sfrom (size := 3) hll hlc)
      have gc1 := hRn.g.cell 1 (v := .slice a l.length c) rfl
      clear hRn hXn hsf u0 v0
      go_upto_region 19 with (fail)
      clear gc1
      refine wp_region_held_last' (S := fun w' => w'.cell? ⟨gb, 1, none⟩ = some (.slice a l.length c) ∧ w'.cell? ⟨gb + 1, 0, none⟩ = some (.int .i64 x.id) ∧ w'.cell? ⟨gb + 1, 1, none⟩ = some (.int .i64 x.key) ∧ w'.cell? ⟨gb + 1, 2, none⟩ = some (.int .i64 x.dep)) 14 rfl (by kernel_rfl) (by kernel_rfl) (by kernel_rfl) ⟨x1.1, x1.2.1, x1.2.2.1, x1.2.2.2.1⟩ (fun hHeld => ?_)
      dsimp only [List.dropLast, List.replicate] at hHeld ⊢
      refine held_take (0) (v := ?_) rfl (by kernel_rfl) (by kernel_rfl) (by kernel_rfl) (fun _ _ _ h => h) (Or.inl ⟨by rfl, ?_⟩) (by assumption) ?_
      rotate_left
      · intro w hSw
        try dsimp only at hSw
        go_simp
        with_reducible rfl
      try simp only [Act.put, List.setIfInBounds_toArray, List.set_cons_zero, List.set_cons_succ]
      refine held_take (1) (v := ?_) rfl (by kernel_rfl) (by kernel_rfl) (by kernel_rfl) (fun _ _ _ h => h) (Or.inl ⟨by rfl, ?_⟩) (by assumption) ?_
      rotate_left
      · intro w hSw
        try dsimp only at hSw
        go_simp
        with_reducible rfl
      try simp only [Act.put, List.setIfInBounds_toArray, List.set_cons_zero, List.set_cons_succ]
      refine held_take (2) (v := ?_) rfl (by kernel_rfl) (by kernel_rfl) (by kernel_rfl) (fun _ _ _ h => h) (Or.inl ⟨by rfl, ?_⟩) (by assumption) ?_
      rotate_left
      · intro w hSw
        try dsimp only at hSw
        go_simp
        with_reducible rfl
      try simp only [Act.put, List.setIfInBounds_toArray, List.set_cons_zero, List.set_cons_succ]
      refine held_take (3) (v := ?_) rfl (by kernel_rfl) (by kernel_rfl) (by kernel_rfl) (fun _ _ _ h => h) (Or.inl ⟨by rfl, ?_⟩) (by assumption) ?_
      rotate_left
      · intro w hSw
        try dsimp only at hSw
        go_simp
        with_reducible rfl
      try simp only [Act.put, List.setIfInBounds_toArray, List.set_cons_zero, List.set_cons_succ]
      refine held_take (5) (v := ?_) rfl (by kernel_rfl) (by kernel_rfl) (by kernel_rfl) (fun _ _ _ h => h) (Or.inl ⟨by rfl, ?_⟩) (by assumption) ?_
      rotate_left
      · intro w hSw
        try dsimp only at hSw
        go_simp
        with_reducible rfl
      try simp only [Act.put, List.setIfInBounds_toArray, List.set_cons_zero, List.set_cons_succ]
      refine held_take (8) (v := ?_) rfl (by kernel_rfl) (by kernel_rfl) (by kernel_rfl) (fun _ _ _ h => h) (Or.inl ⟨by rfl, ?_⟩) (by assumption) ?_
      rotate_left
      · intro w hSw
        try dsimp only at hSw
        go_simp
        with_reducible rfl
      try simp only [Act.put, List.setIfInBounds_toArray, List.set_cons_zero, List.set_cons_succ]
      refine held_take (9) (v := ?_) rfl (by kernel_rfl) (by kernel_rfl) (by kernel_rfl) (fun _ _ _ h => h) (Or.inl ⟨by rfl, ?_⟩) (by assumption) ?_
      rotate_left
      · intro w hSw
        try dsimp only at hSw
        go_simp
        with_reducible rfl
      try simp only [Act.put, List.setIfInBounds_toArray, List.set_cons_zero, List.set_cons_succ]
      refine held_take (10) (v := ?_) rfl (by kernel_rfl) (by kernel_rfl) (by kernel_rfl) (fun _ _ _ h => h) (Or.inl ⟨by rfl, ?_⟩) (by assumption) ?_
      rotate_left
      · intro w hSw
        try dsimp only at hSw
        go_simp
        with_reducible rfl
      try simp only [Act.put, List.setIfInBounds_toArray, List.set_cons_zero, List.set_cons_succ]
      refine held_take (11) (v := ?_) rfl (by kernel_rfl) (by kernel_rfl) (by kernel_rfl) (fun _ _ _ h => h) (Or.inl ⟨by rfl, ?_⟩) (by assumption) ?_
      rotate_left
      · intro w hSw
        try dsimp only at hSw
        go_simp
        with_reducible rfl
      try simp only [Act.put, List.setIfInBounds_toArray, List.set_cons_zero, List.set_cons_succ]
      refine wpAnyH_ready (rs := [4, 6]) (by kernel_rfl) (by simp) ?_
      refine held_cons rfl (fun K hK => ?_) ?_
      · skip
        refine step_apps (w0 := w) (B := gb) (base := N) (sa := none) (n := 0) (cap := 0) (xs := []) rfl _ _ _ _ rfl elPr rfl (Ow.nil _ _ _) H1.out.b hbN hNd rfl (Src.slice Tryz.underlying28 htl (H1.out.r.rowsTake prC_len k) (rowsC_one prC_one _)) hby1 ?_
        intro a7 c7 w7 hO7 hB7 hgr7
        rw [Nat.zero_add, List.nil_append] at hO7
        rw [Nat.zero_add]
        have h7 := H1.out.faro hgr7 hN1 hN2 (by simp [rowOf])
        have X7 := X1.out.grown hgr7 (by simp [rowOf])
        obtain ⟨-, x7⟩ := h7.held
        have hs7 : N ≤ w7.heap.size := Nat.le_trans hNd hgr7.size
        have h7a := h7.keep ((Below.refl w7.heap.size w7).alloc (Nat.le_refl _) (.cells #[.int .i64 x.id, .int .i64 x.key, .int .i64 x.dep] 43))
        have X7a := X7.alloc (.cells #[.int .i64 x.id, .int .i64 x.key, .int .i64 x.dep] 43)
        obtain ⟨-, x7a⟩ := h7a.held
        have hs7a : N ≤ (w7.alloc (.cells #[.int .i64 x.id, .int .i64 x.key, .int .i64 x.dep] 43)).heap.size := by (simp; omega)
        refine hK.out _ _ ⟨x7.1, x7.2.1, x7.2.2.1, x7.2.2.2.1⟩ (fun hHeld => ?_)
        clear hK K
        try simp only [Act.put, List.setIfInBounds_toArray, List.set_cons_zero, List.set_cons_succ]
        refine wpAnyH_ready (rs := [6]) (by kernel_rfl) (by simp) ?_
        refine held_cons rfl (fun K hK => ?_) AllReadyH.nil
        go_simp
        refine hK.out _ _ ⟨x7a.1, x7a.2.1, x7a.2.2.1, x7a.2.2.2.1⟩ (fun hHeld => ?_)
        clear hK K
        try simp only [Act.put, List.setIfInBounds_toArray, List.set_cons_zero, List.set_cons_succ]
        refine wpAnyH_ready (rs := [7]) (by kernel_rfl) (by simp) ?_
        refine held_cons rfl (fun K hK => ?_) AllReadyH.nil
        refine step_apps (w0 := w) (B := gb) rfl _ _ _ _ rfl elPr rfl (hO7.keep ((Below.refl _ _).alloc (Nat.le_refl _) _)) h7a.b hbN hs7a rfl (Src.slice (m := 1) Tryz.underlying28 (by rfl) (Bx.rd (Bx.new w7 43 (prC x))) (prC_one _)) hby2 ?_
        intro a8 c8 w8 hO8 hB8 hgr8
        have h8 := h7a.faro hgr8 hN1 hN2 (fun j hj => (hO7.row j hj).1)
        have X8 := X7a.grown hgr8 (fun e => by have := (hO7.row _ e.symm).1; omega)
        obtain ⟨-, x8⟩ := h8.held
        have hs8 : N ≤ w8.heap.size := Nat.le_trans hs7a hgr8.size
        refine hK.out _ _ ⟨x8.1, x8.2.1, x8.2.2.1, x8.2.2.2.1⟩ (fun hHeld => ?_)
        clear hK K
        try simp only [Act.put, List.setIfInBounds_toArray, List.set_cons_zero, List.set_cons_succ]
        refine wpAnyH_ready (rs := [12]) (by kernel_rfl) (by simp) ?_
        refine held_cons rfl (fun K hK => ?_) AllReadyH.nil
        refine step_apps (w0 := w) (B := gb) rfl _ _ _ _ rfl elPr rfl hO8 h8.b hbN hs8 rfl (Src.slice Tryz.underlying28 hdl (HSF.out _ h8.r) (rowsC_one prC_one _)) hby3 ?_
        intro a9 c9 w10 hO9 hB9 hgr9
        have h9 := h8.faro hgr9 hN1 hN2 (fun j hj => (hO8.row j hj).1)
        have X9 := X8.grown hgr9 (fun e => by have := (hO8.row _ e.symm).1; omega)
        obtain ⟨-, x9⟩ := h9.held
        have f9 := X9.free 1
        have g9 := X9.cell 1 (v := .slice none 0 0) rfl
        refine hK.out _ _ ⟨x9.1, x9.2.1, x9.2.2.1, x9.2.2.2.1⟩ (fun hHeld => ?_)
        clear hK K
        try simp only [Act.put, List.setIfInBounds_toArray, List.set_cons_zero, List.set_cons_succ]
        refine held_take (13) (v := ?_) rfl (by kernel_rfl) (by kernel_rfl) (by kernel_rfl) (fun _ _ _ h => h) (Or.inl ⟨by rfl, ?_⟩) (by assumption) ?_
        rotate_left
        · intro w hSw
          try dsimp only at hSw
          go_simp
          with_reducible rfl
        try simp only [Act.put, List.setIfInBounds_toArray, List.set_cons_zero, List.set_cons_succ]
        refine wpAnyH_done (by kernel_rfl) ?_ _
        dsimp only [Behind]
        go_simp
        have hO10 : Ow w10 N 3 a9 (k + 1 + (l.length - k)) c9 (rowsC prC (l.take k ++ x :: l.drop k)) := by
          rwa [List.append_assoc, ← rowsC_cons, ← rowsC_append] at hO9
        have hlen3 : k + 1 + (l.length - k) = l.length + 1 := by omega
        generalize k + 1 + (l.length - k) = n9 at *
        subst hlen3
        have hgS := set_grown w10 go 1 (.slice a9 (l.length + 1) c9)
        have hO11 := hO10.kept hgS (.inr (fun e => by have := (hO10.row _ e).1; omega))
        have hX11 := X9.set 1 (.slice a9 (l.length + 1) c9)
        have hD11 := h9.faro (N := go) hgS hgo HOLD.out (fun j hj => by cases hj; exact Nat.le_refl _)
        change Bx _ _ _ [.int .i64 (P : Int), .slice a9 (l.length + 1) c9] at hX11
        generalize w10.setCell ⟨go, 1, none⟩ (.slice a9 (l.length + 1) c9) = w11 at *
        clear x1 x2 x7 x8 x9 f9 g9 hgS
        obtain ⟨⟨z0, z1⟩, ⟨f0, f1⟩⟩ := hD11.res
        have x0 := hX11.cell 0 (v := .int .i64 (P : Int)) rfl
        have x1 := hX11.cell 1 (v := .slice a9 (l.length + 1) c9) rfl
        have hF := hD11.fin (.int .i64 (P : Int)) (.slice a9 (l.length + 1) c9)
        have hO12 := (hO11.kept (set_grown w11 (gb + 3) 0 (.int .i64 (P : Int))) (.inr (fun e => by have := (hO11.row _ e).1; omega))).kept (set_grown _ (gb + 3) 1 (.slice a9 (l.length + 1) c9)) (.inr (fun e => by have := (hO11.row _ e).1; omega))
        go_wp2_with fail
        refine bodyPost_ret (RollB.ret (t := 6) (u := 7) rfl _ rfl hF.1) rfl ?_
        rw [HL.out]
        have hip : addP 0 x l = l.take k ++ x :: l.drop k := by rw [addP, if_pos rfl, insP, ← HK.out]
        rw [hip]
        exact ⟨a9, c9, by rw [hlen2]; rfl, by rw [hlen2]; exact hO12.2.1, hO12.rd, fun j hj => by have := (hO12.row j hj).1; omega, HB.out ▸ hF.2⟩
      · refine held_cons rfl (fun K hK => ?_) AllReadyH.nil
        go_simp
        refine hK.out _ _ ⟨x2.1, x2.2.1, x2.2.2.1, x2.2.2.2.1⟩ (fun hHeld => ?_)
        clear hK K
        try simp only [Act.put, List.setIfInBounds_toArray, List.set_cons_zero, List.set_cons_succ]
        refine wpAnyH_ready (rs := [4]) (by kernel_rfl) (by simp) ?_
        refine held_cons rfl (fun K hK => ?_) AllReadyH.nil
        refine step_apps (w0 := w) (B := gb) (base := N) (sa := none) (n := 0) (cap := 0) (xs := []) rfl _ _ _ _ rfl elPr rfl (Ow.nil _ _ _) H2.out.b hbN hNa rfl (Src.slice Tryz.underlying28 htl (H2.out.r.rowsTake prC_len k) (rowsC_one prC_one _)) hby1 ?_
        intro a7 c7 w7 hO7 hB7 hgr7
        rw [Nat.zero_add, List.nil_append] at hO7
        rw [Nat.zero_add]
        have h7 := H2.out.faro hgr7 hN1 hN2 (by simp [rowOf])
        have X7 := X2.out.grown hgr7 (by simp [rowOf])
        obtain ⟨-, x7⟩ := h7.held
        have hs7 : N ≤ w7.heap.size := Nat.le_trans hNa hgr7.size
        have hy7 := HY2.out.grown hgr7 (by simp [rowOf])
        refine hK.out _ _ ⟨x7.1, x7.2.1, x7.2.2.1, x7.2.2.2.1⟩ (fun hHeld => ?_)
        clear hK K
        try simp only [Act.put, List.setIfInBounds_toArray, List.set_cons_zero, List.set_cons_succ]
        refine wpAnyH_ready (rs := [7]) (by kernel_rfl) (by simp) ?_
        refine held_cons rfl (fun K hK => ?_) AllReadyH.nil
        refine step_apps (w0 := w) (B := gb) rfl _ _ _ _ rfl elPr rfl hO7 h7.b hbN hs7 rfl (Src.slice (m := 1) Tryz.underlying28 (by rfl) hy7 (prC_one _)) hby2 ?_
        intro a8 c8 w8 hO8 hB8 hgr8
        have h8 := h7.faro hgr8 hN1 hN2 (fun j hj => (hO7.row j hj).1)
        have X8 := X7.grown hgr8 (fun e => by have := (hO7.row _ e.symm).1; omega)
        obtain ⟨-, x8⟩ := h8.held
        have hs8 : N ≤ w8.heap.size := Nat.le_trans hs7 hgr8.size
        refine hK.out _ _ ⟨x8.1, x8.2.1, x8.2.2.1, x8.2.2.2.1⟩ (fun hHeld => ?_)
        clear hK K
        try simp only [Act.put, List.setIfInBounds_toArray, List.set_cons_zero, List.set_cons_succ]
        refine wpAnyH_ready (rs := [12]) (by kernel_rfl) (by simp) ?_
        refine held_cons rfl (fun K hK => ?_) AllReadyH.nil
        refine step_apps (w0 := w) (B := gb) rfl _ _ _ _ rfl elPr rfl hO8 h8.b hbN hs8 rfl (Src.slice Tryz.underlying28 hdl (HSF.out _ h8.r) (rowsC_one prC_one _)) hby3 ?_
        intro a9 c9 w10 hO9 hB9 hgr9
        have h9 := h8.faro hgr9 hN1 hN2 (fun j hj => (hO8.row j hj).1)
        have X9 := X8.grown hgr9 (fun e => by have := (hO8.row _ e.symm).1; omega)
        obtain ⟨-, x9⟩ := h9.held
        have f9 := X9.free 1
        have g9 := X9.cell 1 (v := .slice none 0 0) rfl
        refine hK.out _ _ ⟨x9.1, x9.2.1, x9.2.2.1, x9.2.2.2.1⟩ (fun hHeld => ?_)
        clear hK K
        try simp only [Act.put, List.setIfInBounds_toArray, List.set_cons_zero, List.set_cons_succ]
        refine held_take (13) (v := ?_) rfl (by kernel_rfl) (by kernel_rfl) (by kernel_rfl) (fun _ _ _ h => h) (Or.inl ⟨by rfl, ?_⟩) (by assumption) ?_
        rotate_left
        · intro w hSw
          try dsimp only at hSw
          go_simp
          with_reducible rfl
        try simp only [Act.put, List.setIfInBounds_toArray, List.set_cons_zero, List.set_cons_succ]
        refine wpAnyH_done (by kernel_rfl) ?_ _
        dsimp only [Behind]
        go_simp
        have hO10 : Ow w10 N 3 a9 (k + 1 + (l.length - k)) c9 (rowsC prC (l.take k ++ x :: l.drop k)) := by
          rwa [List.append_assoc, ← rowsC_cons, ← rowsC_append] at hO9
        have hlen3 : k + 1 + (l.length - k) = l.length + 1 := by omega
        generalize k + 1 + (l.length - k) = n9 at *
        subst hlen3
        have hgS := set_grown w10 go 1 (.slice a9 (l.length + 1) c9)
        have hO11 := hO10.kept hgS (.inr (fun e => by have := (hO10.row _ e).1; omega))
        have hX11 := X9.set 1 (.slice a9 (l.length + 1) c9)
        have hD11 := h9.faro (N := go) hgS hgo HOLD.out (fun j hj => by cases hj; exact Nat.le_refl _)
        change Bx _ _ _ [.int .i64 (P : Int), .slice a9 (l.length + 1) c9] at hX11
        generalize w10.setCell ⟨go, 1, none⟩ (.slice a9 (l.length + 1) c9) = w11 at *
        clear x1 x2 x7 x8 x9 f9 g9 hgS
        obtain ⟨⟨z0, z1⟩, ⟨f0, f1⟩⟩ := hD11.res
        have x0 := hX11.cell 0 (v := .int .i64 (P : Int)) rfl
        have x1 := hX11.cell 1 (v := .slice a9 (l.length + 1) c9) rfl
        have hF := hD11.fin (.int .i64 (P : Int)) (.slice a9 (l.length + 1) c9)
        have hO12 := (hO11.kept (set_grown w11 (gb + 3) 0 (.int .i64 (P : Int))) (.inr (fun e => by have := (hO11.row _ e).1; omega))).kept (set_grown _ (gb + 3) 1 (.slice a9 (l.length + 1) c9)) (.inr (fun e => by have := (hO11.row _ e).1; omega))
        go_wp2_with fail
        refine bodyPost_ret (RollB.ret (t := 6) (u := 7) rfl _ rfl hF.1) rfl ?_
        rw [HL.out]
        have hip : addP 0 x l = l.take k ++ x :: l.drop k := by rw [addP, if_pos rfl, insP, ← HK.out]
        rw [hip]
        exact ⟨a9, c9, by rw [hlen2]; rfl, by rw [hlen2]; exact hO12.2.1, hO12.rd, fun j hj => by have := (hO12.row j hj).1; omega, HB.out ▸ hF.2⟩
    obtain ⟨g, off, r, rfl, hr, e0, e1, e2⟩ := hD.r.prs hkt
    have hkl : decide ((k : Int) < (l.length : Int)) = true := decide_eq_true (by omega)
    have hkl2 : decide (k < l.length) = true := decide_eq_true hkt
    have hkl3 : (k : Int) < (l.length : Int) := by omega
    have d3 := fun d os => cell_regrown e0 d os
    clear y0 y1 y2 y3 y4 y5 y6 hD hX e0 e1 e2
    by_cases hlt : r.id < x.id
    · have t1 : decide (r.id < x.id) = true := decide_eq_true hlt
      have HLO2 : Hid (∀ (j : Nat) (q : Prs), j < k + 1 → l[j]? = some q → q.id < x.id) := Lib.hid fun j q hj hq => by
        by_cases e : j = k
        · subst e; rw [hr.out] at hq; cases hq; exact hlt
        · exact HLO.out j q (by omega) hq
      clear hlt hr
      go_upto_region 17 with (fail)
      refine wp_region_quiet_below (by kernel_rfl) (by kernel_rfl) ?_
      repeat (go_big_quiet_step (fail))
      refine wpQuiet_nil ?_
      rintro w9 ⟨p2, hw9⟩
      have hb9 : Below wr.heap.size wr w9 := by first | (rw [hw9]; exact below_regrown wr p2.d p2.os) | (rw [← hw9]; exact below_regrown wr p2.d p2.os)
      have hRn := HD.out.keep hb9
      have hXn := HX.out.keep hb9
      clear hw9 hb9
      clear d1 d2 d3 HD HX
      go_wp2_with fail
      go_roundw
      case rel => exact ⟨k + 1, by omega, by go_num, HLO2.out, hRn, hXn⟩
      case measure => simp [intOf]; omega
    · have t1 : decide (r.id < x.id) = false := decide_eq_false hlt
      have HK := Lib.hid (lowN_eq hk HLO.out (fun q hq => by rw [hr.out] at hq; cases hq; exact hlt))
      clear hlt hr
      go_upto_region 17 with (fail)
      refine wp_region_quiet_below (by kernel_rfl) (by kernel_rfl) ?_
      repeat (go_big_quiet_step (fail))
      refine wpQuiet_nil ?_
      rintro w9 ⟨p2, hw9⟩
      have hb9 : Below wr.heap.size wr w9 := by first | (rw [hw9]; exact below_regrown wr p2.d p2.os) | (rw [← hw9]; exact below_regrown wr p2.d p2.os)
      have hRn := HD.out.keep hb9
      have hXn := HX.out.keep hb9
      clear hw9 hb9
      clear d1 d2 d3 HD HX
      have hlen2 := ins_length (z := x) hk
      have s1 := fun V => slice_to (P := Tryz.prog) (size := 3) Tryz.underlying28 (fun _ => by kernel_rfl) (some ⟨g, off, none⟩) l.length c k (by omega) V
      have s2 := fun V => slice_from (P := Tryz.prog) (size := 3) Tryz.underlying28 (fun _ => by kernel_rfl) (some ⟨g, off, none⟩) l.length c k hk V
      generalize hsf : sfrom (some ⟨g, off, none⟩) 3 k c = af at s2
      obtain ⟨N, hN⟩ : ∃ N, N = w9.heap.size := ⟨_, rfl⟩
      have hgx : go < w9.heap.size := hXn.lt
      have hN1 : gb + 3 < N := by rw [hN]; exact hRn.z.lt
      have hN2 : 0 < l.length → ∀ j, rowOf (some ⟨g, off, none⟩) = some j → j < N := fun h0 j hj => by rw [hN]; exact hRn.old h0 j hj
      have hN3 : go < N := by rw [hN]; exact hXn.lt
      have hNd : N ≤ w9.drew.heap.size := by rw [hN]; exact Nat.le_refl _
      have hNa : N ≤ ((w9.alloc (.cells #[.int .i64 x.id, .int .i64 x.key, .int .i64 x.dep] 43)).drew).heap.size := by rw [hN]; simp
      have htl : (rowsC prC (l.take k)).length = k * 3 := by rw [rowsC_length prC_len, List.length_take, Nat.min_eq_left hk]
      have hdl : (rowsC prC (l.drop k)).length = (l.length - k) * 3 := by rw [rowsC_length prC_len, List.length_drop]
      have hll := rowsC_length prC_len l
      have H1 := Lib.hid (hRn.keep (Below.refl w9.heap.size w9).drew)
      have H2 := Lib.hid (hRn.keep ((Below.refl w9.heap.size w9).alloc (Nat.le_refl _) (.cells #[.int .i64 x.id, .int .i64 x.key, .int .i64 x.dep] 43)).drew)
      have X1 := Lib.hid (hXn.keep (Below.refl w9.heap.size w9).drew)
      have X2 := Lib.hid (hXn.keep ((Below.refl w9.heap.size w9).alloc (Nat.le_refl _) (.cells #[.int .i64 x.id, .int .i64 x.key, .int .i64 x.dep] 43)).drew)
      have HY2 : Hid (Rd ((w9.alloc (.cells #[.int .i64 x.id, .int .i64 x.key, .int .i64 x.dep] 43)).drew) (some ⟨w9.heap.size, 0, none⟩) (prC x)) := Lib.hid (Bx.rd (t := 43) ((Bx.new w9 43 [.int .i64 x.id, .int .i64 x.key, .int .i64 x.dep]).drew))
      have hbN : gb ≤ N := by omega
      obtain ⟨u0, x1⟩ := H1.out.held
      obtain ⟨v0, x2⟩ := H2.out.held
      have hby1 : (0 + k) * 24 ≤ 140737488355328 := by omega
      have hby2 : (k + 1) * 24 ≤ 140737488355328 := by omega
      have hby3 : (k + 1 + (l.length - k)) * 24 ≤ 140737488355328 := by omega
      have HSF : Hid (∀ V, Rd V (some ⟨g, off, none⟩) (rowsC prC l) → Rd V af (rowsC prC (l.drop k))) := Lib.hid (fun V hV => by rw [← hsf, rowsC_drop prC_len]; exact hV.sfrom (size := 3) hll hlc)
      have gc1 := hRn.g.cell 1 (v := .slice (some ⟨g, off, none⟩) l.length c) rfl
      clear hRn hXn hsf u0 v0
      go_upto_region 19 with (fail)
      clear gc1
      refine wp_region_held_last' (S := fun w' => w'.cell? ⟨gb, 1, none⟩ = some (.slice (some ⟨g, off, none⟩) l.length c) ∧ w'.cell? ⟨gb + 1, 0, none⟩ = some (.int .i64 x.id) ∧ w'.cell? ⟨gb + 1, 1, none⟩ = some (.int .i64 x.key) ∧ w'.cell? ⟨gb + 1, 2, none⟩ = some (.int .i64 x.dep)) 14 rfl (by kernel_rfl) (by kernel_rfl) (by kernel_rfl) ⟨x1.1, x1.2.1, x1.2.2.1, x1.2.2.2.1⟩ (fun hHeld => ?_)
      dsimp only [List.dropLast, List.replicate] at hHeld ⊢
      refine held_take (0) (v := ?_) rfl (by kernel_rfl) (by kernel_rfl) (by kernel_rfl) (fun _ _ _ h => h) (Or.inl ⟨by rfl, ?_⟩) (by assumption) ?_
      rotate_left
      · intro w hSw
        try dsimp only at hSw
        go_simp
        with_reducible rfl
      try simp only [Act.put, List.setIfInBounds_toArray, List.set_cons_zero, List.set_cons_succ]
      refine held_take (1) (v := ?_) rfl (by kernel_rfl) (by kernel_rfl) (by kernel_rfl) (fun _ _ _ h => h) (Or.inl ⟨by rfl, ?_⟩) (by assumption) ?_
      rotate_left
      · intro w hSw
        try dsimp only at hSw
        go_simp
        with_reducible rfl
      try simp only [Act.put, List.setIfInBounds_toArray, List.set_cons_zero, List.set_cons_succ]
      refine held_take (2) (v := ?_) rfl (by kernel_rfl) (by kernel_rfl) (by kernel_rfl) (fun _ _ _ h => h) (Or.inl ⟨by rfl, ?_⟩) (by assumption) ?_
      rotate_left
      · intro w hSw
        try dsimp only at hSw
        go_simp
        with_reducible rfl
      try simp only [Act.put, List.setIfInBounds_toArray, List.set_cons_zero, List.set_cons_succ]
      refine held_take (3) (v := ?_) rfl (by kernel_rfl) (by kernel_rfl) (by kernel_rfl) (fun _ _ _ h => h) (Or.inl ⟨by rfl, ?_⟩) (by assumption) ?_
      rotate_left
      · intro w hSw
        try dsimp only at hSw
        go_simp
        with_reducible rfl
      try simp only [Act.put, List.setIfInBounds_toArray, List.set_cons_zero, List.set_cons_succ]
      refine held_take (5) (v := ?_) rfl (by kernel_rfl) (by kernel_rfl) (by kernel_rfl) (fun _ _ _ h => h) (Or.inl ⟨by rfl, ?_⟩) (by assumption) ?_
      rotate_left
      · intro w hSw
        try dsimp only at hSw
        go_simp
        with_reducible rfl
      try simp only [Act.put, List.setIfInBounds_toArray, List.set_cons_zero, List.set_cons_succ]
      refine held_take (8) (v := ?_) rfl (by kernel_rfl) (by kernel_rfl) (by kernel_rfl) (fun _ _ _ h => h) (Or.inl ⟨by rfl, ?_⟩) (by assumption) ?_
      rotate_left
      · intro w hSw
        try dsimp only at hSw
        go_simp
        with_reducible rfl
      try simp only [Act.put, List.setIfInBounds_toArray, List.set_cons_zero, List.set_cons_succ]
      refine held_take (9) (v := ?_) rfl (by kernel_rfl) (by kernel_rfl) (by kernel_rfl) (fun _ _ _ h => h) (Or.inl ⟨by rfl, ?_⟩) (by assumption) ?_
      rotate_left
      · intro w hSw
        try dsimp only at hSw
        go_simp
        with_reducible rfl
      try simp only [Act.put, List.setIfInBounds_toArray, List.set_cons_zero, List.set_cons_succ]
      refine held_take (10) (v := ?_) rfl (by kernel_rfl) (by kernel_rfl) (by kernel_rfl) (fun _ _ _ h => h) (Or.inl ⟨by rfl, ?_⟩) (by assumption) ?_
      rotate_left
      · intro w hSw
        try dsimp only at hSw
        go_simp
        with_reducible rfl
      try simp only [Act.put, List.setIfInBounds_toArray, List.set_cons_zero, List.set_cons_succ]
      refine held_take (11) (v := ?_) rfl (by kernel_rfl) (by kernel_rfl) (by kernel_rfl) (fun _ _ _ h => h) (Or.inl ⟨by rfl, ?_⟩) (by assumption) ?_
      rotate_left
      · intro w hSw
        try dsimp only at hSw
        go_simp
        with_reducible rfl
      try simp only [Act.put, List.setIfInBounds_toArray, List.set_cons_zero, List.set_cons_succ]
      refine wpAnyH_ready (rs := [4, 6]) (by kernel_rfl) (by simp) ?_
      refine held_cons rfl (fun K hK => ?_) ?_
      · skip
        refine step_apps (w0 := w) (B := gb) (base := N) (sa := none) (n := 0) (cap := 0) (xs := []) rfl _ _ _ _ rfl elPr rfl (Ow.nil _ _ _) H1.out.b hbN hNd rfl (Src.slice Tryz.underlying28 htl (H1.out.r.rowsTake prC_len k) (rowsC_one prC_one _)) hby1 ?_
        intro a7 c7 w7 hO7 hB7 hgr7
        rw [Nat.zero_add, List.nil_append] at hO7
        rw [Nat.zero_add]
        have h7 := H1.out.faro hgr7 hN1 hN2 (by simp [rowOf])
        have X7 := X1.out.grown hgr7 (by simp [rowOf])
        obtain ⟨-, x7⟩ := h7.held
        have hs7 : N ≤ w7.heap.size := Nat.le_trans hNd hgr7.size
        have h7a := h7.keep ((Below.refl w7.heap.size w7).alloc (Nat.le_refl _) (.cells #[.int .i64 x.id, .int .i64 x.key, .int .i64 x.dep] 43))
        have X7a := X7.alloc (.cells #[.int .i64 x.id, .int .i64 x.key, .int .i64 x.dep] 43)
        obtain ⟨-, x7a⟩ := h7a.held
        have hs7a : N ≤ (w7.alloc (.cells #[.int .i64 x.id, .int .i64 x.key, .int .i64 x.dep] 43)).heap.size := by (simp; omega)
        refine hK.out _ _ ⟨x7.1, x7.2.1, x7.2.2.1, x7.2.2.2.1⟩ (fun hHeld => ?_)
        clear hK K
        try simp only [Act.put, List.setIfInBounds_toArray, List.set_cons_zero, List.set_cons_succ]
        refine wpAnyH_ready (rs := [6]) (by kernel_rfl) (by simp) ?_
        refine held_cons rfl (fun K hK => ?_) AllReadyH.nil
        go_simp
        refine hK.out _ _ ⟨x7a.1, x7a.2.1, x7a.2.2.1, x7a.2.2.2.1⟩ (fun hHeld => ?_)
        clear hK K
        try simp only [Act.put, List.setIfInBounds_toArray, List.set_cons_zero, List.set_cons_succ]
        refine wpAnyH_ready (rs := [7]) (by kernel_rfl) (by simp) ?_
        refine held_cons rfl (fun K hK => ?_) AllReadyH.nil
        refine step_apps (w0 := w) (B := gb) rfl _ _ _ _ rfl elPr rfl (hO7.keep ((Below.refl _ _).alloc (Nat.le_refl _) _)) h7a.b hbN hs7a rfl (Src.slice (m := 1) Tryz.underlying28 (by rfl) (Bx.rd (Bx.new w7 43 (prC x))) (prC_one _)) hby2 ?_
        intro a8 c8 w8 hO8 hB8 hgr8
        have h8 := h7a.faro hgr8 hN1 hN2 (fun j hj => (hO7.row j hj).1)
        have X8 := X7a.grown hgr8 (fun e => by have := (hO7.row _ e.symm).1; omega)
        obtain ⟨-, x8⟩ := h8.held
        have hs8 : N ≤ w8.heap.size := Nat.le_trans hs7a hgr8.size
        refine hK.out _ _ ⟨x8.1, x8.2.1, x8.2.2.1, x8.2.2.2.1⟩ (fun hHeld => ?_)
        clear hK K
        try simp only [Act.put, List.setIfInBounds_toArray, List.set_cons_zero, List.set_cons_succ]
        refine wpAnyH_ready (rs := [12]) (by kernel_rfl) (by simp) ?_
        refine held_cons rfl (fun K hK => ?_) AllReadyH.nil
        refine step_apps (w0 := w) (B := gb) rfl _ _ _ _ rfl elPr rfl hO8 h8.b hbN hs8 rfl (Src.slice Tryz.underlying28 hdl (HSF.out _ h8.r) (rowsC_one prC_one _)) hby3 ?_
        intro a9 c9 w10 hO9 hB9 hgr9
        have h9 := h8.faro hgr9 hN1 hN2 (fun j hj => (hO8.row j hj).1)
        have X9 := X8.grown hgr9 (fun e => by have := (hO8.row _ e.symm).1; omega)
        obtain ⟨-, x9⟩ := h9.held
        have f9 := X9.free 1
        have g9 := X9.cell 1 (v := .slice none 0 0) rfl
        refine hK.out _ _ ⟨x9.1, x9.2.1, x9.2.2.1, x9.2.2.2.1⟩ (fun hHeld => ?_)
        clear hK K
        try simp only [Act.put, List.setIfInBounds_toArray, List.set_cons_zero, List.set_cons_succ]
        refine held_take (13) (v := ?_) rfl (by kernel_rfl) (by kernel_rfl) (by kernel_rfl) (fun _ _ _ h => h) (Or.inl ⟨by rfl, ?_⟩) (by assumption) ?_
        rotate_left
        · intro w hSw
          try dsimp only at hSw
          go_simp
          with_reducible rfl
        try simp only [Act.put, List.setIfInBounds_toArray, List.set_cons_zero, List.set_cons_succ]
        refine wpAnyH_done (by kernel_rfl) ?_ _
        dsimp only [Behind]
        go_simp
        have hO10 : Ow w10 N 3 a9 (k + 1 + (l.length - k)) c9 (rowsC prC (l.take k ++ x :: l.drop k)) := by
          rwa [List.append_assoc, ← rowsC_cons, ← rowsC_append] at hO9
        have hlen3 : k + 1 + (l.length - k) = l.length + 1 := by omega
        generalize k + 1 + (l.length - k) = n9 at *
        subst hlen3
        have hgS := set_grown w10 go 1 (.slice a9 (l.length + 1) c9)
        have hO11 := hO10.kept hgS (.inr (fun e => by have := (hO10.row _ e).1; omega))
        have hX11 := X9.set 1 (.slice a9 (l.length + 1) c9)
        have hD11 := h9.faro (N := go) hgS hgo HOLD.out (fun j hj => by cases hj; exact Nat.le_refl _)
        change Bx _ _ _ [.int .i64 (P : Int), .slice a9 (l.length + 1) c9] at hX11
        generalize w10.setCell ⟨go, 1, none⟩ (.slice a9 (l.length + 1) c9) = w11 at *
        clear x1 x2 x7 x8 x9 f9 g9 hgS
        obtain ⟨⟨z0, z1⟩, ⟨f0, f1⟩⟩ := hD11.res
        have x0 := hX11.cell 0 (v := .int .i64 (P : Int)) rfl
        have x1 := hX11.cell 1 (v := .slice a9 (l.length + 1) c9) rfl
        have hF := hD11.fin (.int .i64 (P : Int)) (.slice a9 (l.length + 1) c9)
        have hO12 := (hO11.kept (set_grown w11 (gb + 3) 0 (.int .i64 (P : Int))) (.inr (fun e => by have := (hO11.row _ e).1; omega))).kept (set_grown _ (gb + 3) 1 (.slice a9 (l.length + 1) c9)) (.inr (fun e => by have := (hO11.row _ e).1; omega))
        go_wp2_with fail
        refine bodyPost_ret (RollB.ret (t := 6) (u := 7) rfl _ rfl hF.1) rfl ?_
        rw [HL.out]
        have hip : addP 0 x l = l.take k ++ x :: l.drop k := by rw [addP, if_pos rfl, insP, ← HK.out]
        rw [hip]
        exact ⟨a9, c9, by rw [hlen2]; rfl, by rw [hlen2]; exact hO12.2.1, hO12.rd, fun j hj => by have := (hO12.row j hj).1; omega, HB.out ▸ hF.2⟩
      · refine held_cons rfl (fun K hK => ?_) AllReadyH.nil
        go_simp
        refine hK.out _ _ ⟨x2.1, x2.2.1, x2.2.2.1, x2.2.2.2.1⟩ (fun hHeld => ?_)
        clear hK K
        try simp only [Act.put, List.setIfInBounds_toArray, List.set_cons_zero, List.set_cons_succ]
        refine wpAnyH_ready (rs := [4]) (by kernel_rfl) (by simp) ?_
        refine held_cons rfl (fun K hK => ?_) AllReadyH.nil
        refine step_apps (w0 := w) (B := gb) (base := N) (sa := none) (n := 0) (cap := 0) (xs := []) rfl _ _ _ _ rfl elPr rfl (Ow.nil _ _ _) H2.out.b hbN hNa rfl (Src.slice Tryz.underlying28 htl (H2.out.r.rowsTake prC_len k) (rowsC_one prC_one _)) hby1 ?_
        intro a7 c7 w7 hO7 hB7 hgr7
        rw [Nat.zero_add, List.nil_append] at hO7
        rw [Nat.zero_add]
        have h7 := H2.out.faro hgr7 hN1 hN2 (by simp [rowOf])
        have X7 := X2.out.grown hgr7 (by simp [rowOf])
        obtain ⟨-, x7⟩ := h7.held
        have hs7 : N ≤ w7.heap.size := Nat.le_trans hNa hgr7.size
        have hy7 := HY2.out.grown hgr7 (by simp [rowOf])
        refine hK.out _ _ ⟨x7.1, x7.2.1, x7.2.2.1, x7.2.2.2.1⟩ (fun hHeld => ?_)
        clear hK K
        try simp only [Act.put, List.setIfInBounds_toArray, List.set_cons_zero, List.set_cons_succ]
        refine wpAnyH_ready (rs := [7]) (by kernel_rfl) (by simp) ?_
        refine held_cons rfl (fun K hK => ?_) AllReadyH.nil
        refine step_apps (w0 := w) (B := gb) rfl _ _ _ _ rfl elPr rfl hO7 h7.b hbN hs7 rfl (Src.slice (m := 1) Tryz.underlying28 (by rfl) hy7 (prC_one _)) hby2 ?_
        intro a8 c8 w8 hO8 hB8 hgr8
        have h8 := h7.faro hgr8 hN1 hN2 (fun j hj => (hO7.row j hj).1)
        have X8 := X7.grown hgr8 (fun e => by have := (hO7.row _ e.symm).1; omega)
        obtain ⟨-, x8⟩ := h8.held
        have hs8 : N ≤ w8.heap.size := Nat.le_trans hs7 hgr8.size
        refine hK.out _ _ ⟨x8.1, x8.2.1, x8.2.2.1, x8.2.2.2.1⟩ (fun hHeld => ?_)
        clear hK K
        try simp only [Act.put, List.setIfInBounds_toArray, List.set_cons_zero, List.set_cons_succ]
        refine wpAnyH_ready (rs := [12]) (by kernel_rfl) (by simp) ?_
        refine held_cons rfl (fun K hK => ?_) AllReadyH.nil
        refine step_apps (w0 := w) (B := gb) rfl _ _ _ _ rfl elPr rfl hO8 h8.b hbN hs8 rfl (Src.slice Tryz.underlying28 hdl (HSF.out _ h8.r) (rowsC_one prC_one _)) hby3 ?_
        intro a9 c9 w10 hO9 hB9 hgr9
        have h9 := h8.faro hgr9 hN1 hN2 (fun j hj => (hO8.row j hj).1)
        have X9 := X8.grown hgr9 (fun e => by have := (hO8.row _ e.symm).1; omega)
        obtain ⟨-, x9⟩ := h9.held
        have f9 := X9.free 1
        have g9 := X9.cell 1 (v := .slice none 0 0) rfl
        refine hK.out _ _ ⟨x9.1, x9.2.1, x9.2.2.1, x9.2.2.2.1⟩ (fun hHeld => ?_)
        clear hK K
        try simp only [Act.put, List.setIfInBounds_toArray, List.set_cons_zero, List.set_cons_succ]
        refine held_take (13) (v := ?_) rfl (by kernel_rfl) (by kernel_rfl) (by kernel_rfl) (fun _ _ _ h => h) (Or.inl ⟨by rfl, ?_⟩) (by assumption) ?_
        rotate_left
        · intro w hSw
          try dsimp only at hSw
          go_simp
          with_reducible rfl
        try simp only [Act.put, List.setIfInBounds_toArray, List.set_cons_zero, List.set_cons_succ]
        refine wpAnyH_done (by kernel_rfl) ?_ _
        dsimp only [Behind]
        go_simp
        have hO10 : Ow w10 N 3 a9 (k + 1 + (l.length - k)) c9 (rowsC prC (l.take k ++ x :: l.drop k)) := by
          rwa [List.append_assoc, ← rowsC_cons, ← rowsC_append] at hO9
        have hlen3 : k + 1 + (l.length - k) = l.length + 1 := by omega
        generalize k + 1 + (l.length - k) = n9 at *
        subst hlen3
        have hgS := set_grown w10 go 1 (.slice a9 (l.length + 1) c9)
        have hO11 := hO10.kept hgS (.inr (fun e => by have := (hO10.row _ e).1; omega))
        have hX11 := X9.set 1 (.slice a9 (l.length + 1) c9)
        have hD11 := h9.faro (N := go) hgS hgo HOLD.out (fun j hj => by cases hj; exact Nat.le_refl _)
        change Bx _ _ _ [.int .i64 (P : Int), .slice a9 (l.length + 1) c9] at hX11
        generalize w10.setCell ⟨go, 1, none⟩ (.slice a9 (l.length + 1) c9) = w11 at *
        clear x1 x2 x7 x8 x9 f9 g9 hgS
        obtain ⟨⟨z0, z1⟩, ⟨f0, f1⟩⟩ := hD11.res
        have x0 := hX11.cell 0 (v := .int .i64 (P : Int)) rfl
        have x1 := hX11.cell 1 (v := .slice a9 (l.length + 1) c9) rfl
        have hF := hD11.fin (.int .i64 (P : Int)) (.slice a9 (l.length + 1) c9)
        have hO12 := (hO11.kept (set_grown w11 (gb + 3) 0 (.int .i64 (P : Int))) (.inr (fun e => by have := (hO11.row _ e).1; omega))).kept (set_grown _ (gb + 3) 1 (.slice a9 (l.length + 1) c9)) (.inr (fun e => by have := (hO11.row _ e).1; omega))
        go_wp2_with fail
        refine bodyPost_ret (RollB.ret (t := 6) (u := 7) rfl _ rfl hF.1) rfl ?_
        rw [HL.out]
        have hip : addP 0 x l = l.take k ++ x :: l.drop k := by rw [addP, if_pos rfl, insP, ← HK.out]
        rw [hip]
        exact ⟨a9, c9, by rw [hlen2]; rfl, by rw [hlen2]; exact hO12.2.1, hO12.rd, fun j hj => by have := (hO12.row j hj).1; omega, HB.out ▸ hF.2⟩
end Go.Proofs.YtnahkfchcminpaaGreatDoor
