/- Rolls: both sides answer alike. -/
import Derived.Test.YtnahkfchcminpaaGreatDoorGEnrM
import Derived.Test.YtnahkfchcminpaaGreatDoorLSame
import Derived.Test.YtnahkfchcminpaaGreatDoorRegionL
namespace Go.Proofs.YtnahkfchcminpaaGreatDoor
open Go.RowKit
/-- the boxes of agree -/
structure Ag (W w : World) (gb : Nat) (p : Int) (a : Option Addr) (n c : Nat) (L : List Prs) (x : Prs) (R S : Int) : Prop where
  g : Bx w gb 30 [.int .i64 p, .slice a n c]
  x : Bx w (gb + 1) 43 (prC x)
  s : Bx w (gb + 2) 34 [.int .i64 R, .int .i64 S]
  r : Rd w a (rowsC prC L)
  b : Below gb W w
theorem Ag.keep {W w w' : World} {gb : Nat} {p : Int} {a : Option Addr} {n c : Nat} {L : List Prs} {x : Prs} {R S : Int} (h : Ag W w gb p a n c L x R S) (hb : Below w.heap.size w w') : Ag W w' gb p a n c L x R S :=
  ⟨h.g.keep hb, h.x.keep hb, h.s.keep hb, h.r.keep hb, h.b.trans (hb.mono (Nat.le_of_lt h.g.lt))⟩
theorem Ag.held {W w : World} {gb : Nat} {p : Int} {a : Option Addr} {n c : Nat} {L : List Prs} {x : Prs} {R S : Int} (h : Ag W w gb p a n c L x R S) :
    w.cell? ⟨gb, 0, none⟩ = some (.int .i64 p) ∧ w.cell? ⟨gb, 1, none⟩ = some (.slice a n c) ∧ w.cell? ⟨gb + 1, 0, none⟩ = some (.int .i64 x.id) ∧ w.cell? ⟨gb + 1, 1, none⟩ = some (.int .i64 x.key) ∧ w.cell? ⟨gb + 1, 2, none⟩ = some (.int .i64 x.dep) ∧ w.cell? ⟨gb + 2, 0, none⟩ = some (.int .i64 R) ∧ w.cell? ⟨gb + 2, 1, none⟩ = some (.int .i64 S) :=
  ⟨h.g.cell 0 rfl, h.g.cell 1 rfl, h.x.cell 0 rfl, h.x.cell 1 rfl, h.x.cell 2 rfl, h.s.cell 0 rfl, h.s.cell 1 rfl⟩
theorem Ag.mk0 (W : World) (p : Int) (a : Option Addr) (n c : Nat) (L : List Prs) (x : Prs) (R S : Int) (hR : Rd W a (rowsC prC L)) :
    Ag W (((W.alloc (.cells #[.int .i64 p, .slice a n c] 30)).alloc (.cells #[.int .i64 x.id, .int .i64 x.key, .int .i64 x.dep] 43)).alloc (.cells #[.int .i64 R, .int .i64 S] 34)) W.heap.size p a n c L x R S := by
  have b1 := (Below.refl W.heap.size W).alloc (Nat.le_refl _) (.cells #[.int .i64 p, .slice a n c] 30)
  have e1 := Bx.new W 30 [.int .i64 p, .slice a n c]
  change Bx (W.alloc (.cells #[.int .i64 p, .slice a n c] 30)) _ _ _ at e1
  have z1 : (W.alloc (.cells #[.int .i64 p, .slice a n c] 30)).heap.size = W.heap.size + 1 := by simp
  generalize W.alloc (.cells #[.int .i64 p, .slice a n c] 30) = w1 at *
  have b2 := b1.alloc b1.size (.cells #[.int .i64 x.id, .int .i64 x.key, .int .i64 x.dep] 43)
  have e2 := Bx.new w1 43 (prC x)
  change Bx (w1.alloc (.cells #[.int .i64 x.id, .int .i64 x.key, .int .i64 x.dep] 43)) _ _ _ at e2
  have z2 : (w1.alloc (.cells #[.int .i64 x.id, .int .i64 x.key, .int .i64 x.dep] 43)).heap.size = w1.heap.size + 1 := by simp
  replace e1 := e1.alloc (.cells #[.int .i64 x.id, .int .i64 x.key, .int .i64 x.dep] 43)
  generalize w1.alloc (.cells #[.int .i64 x.id, .int .i64 x.key, .int .i64 x.dep] 43) = w2 at *
  have b3 := b2.alloc b2.size (.cells #[.int .i64 R, .int .i64 S] 34)
  have e3 := Bx.new w2 34 [.int .i64 R, .int .i64 S]
  change Bx (w2.alloc (.cells #[.int .i64 R, .int .i64 S] 34)) _ _ _ at e3
  have q1 : w1.heap.size = W.heap.size + 1 := z1
  have q2 : w2.heap.size = W.heap.size + 2 := by omega
  rw [q1] at e2
  rw [q2] at e3
  exact ⟨e1.alloc _, e2.alloc _, e3, hR.keep b3, b3⟩
theorem addP_len {p : Int} {l : List Prs} {x : Prs} {ok : Bool} : (addP (addE p l x ok) x l).length ≤ 64 := by
  unfold addP
  split
  · next h =>
    rw [insP_len]
    unfold addE at h
    split at h
    · cases h
    · split at h
      · cases h
      · split at h
        · cases h
        · split at h
          · cases h
          · split at h
            · cases h
            · split at h
              · cases h
              · omega
  · simp
theorem lvP_len {p z : Int} {l : List Prs} : (lvP (lvE p l z) z l).length ≤ 64 := by
  unfold lvP
  split
  · next h =>
    refine Nat.le_trans (List.length_filter_le _ _) ?_
    unfold lvE at h
    split at h
    · cases h
    · next h1 =>
      rcases chkP_cases p l with ⟨_, _, h2, _⟩ | h2
      · exact h2
      · exact absurd (by rw [h2]; decide) h1
  · simp
set_option maxRecDepth 100000 in
set_option maxHeartbeats 2000000 in
theorem eagree_walk (p : Int) (a : Option Addr) (l : List Prs) (c : Nat) (x : Prs) (R S z : Int) (w : World) (hsp : rsafe p = safeP p) (hBs : Bases w) (hR : Rd w a (rowsC prC l)) (hI : ∀ r ∈ l, I64 r.key) (hx1 : I64 x.id) (hx2 : I64 x.dep) (hn : l.length ≤ 281474976710656) (hlc : l.length ≤ c) :
    Calls Tryz.prog 15 #[.agg #[.int .i64 p, .slice a l.length c], prV x, .agg #[.int .i64 R, .int .i64 S], .int .i64 z] w fun e w' => e = .returned (.bool true) ∧ Below w.heap.size w w' := by
  have hD := Ag.mk0 w p a l.length c l x R S hR
  obtain ⟨w0, hw0⟩ : ∃ w0, w0 = ((w.alloc (.cells #[.int .i64 p, .slice a l.length c] 30)).alloc (.cells #[.int .i64 x.id, .int .i64 x.key, .int .i64 x.dep] 43)).alloc (.cells #[.int .i64 R, .int .i64 S] 34) := ⟨_, rfl⟩
  rw [← hw0] at hD
  obtain ⟨gb, hgb⟩ : ∃ g, g = w.heap.size := ⟨_, rfl⟩
  rw [← hgb] at hD
  have HBS : Hid (∀ V, Below gb w V → Bases V) := Lib.hid (fun V hV => hBs.keep (hgb ▸ hV))
  have HB := Lib.hid hgb
  have KA := Lib.hid (fun V (hV : Rd V a (rowsC prC l)) (hV2 : Bases V) => eadd_walk p a l c x R S V hV2 hV hI hn)
  have KRA := Lib.hid (fun V (hV : Rd V a (rowsC prC l)) => readd_walk p a l c x R S V hsp hV hn hlc)
  have hM := addP_len (p := p) (l := l) (x := x) (ok := verP p x.key (clmF x.id x.dep) R S)
  generalize addQ (addE p l x (verP p x.key (clmF x.id x.dep) R S)) p = Q1 at *
  generalize addP (addE p l x (verP p x.key (clmF x.id x.dep) R S)) x l = M1 at *
  generalize addE p l x (verP p x.key (clmF x.id x.dep) R S) = E1 at *
  have KL := Lib.hid (fun V (hV : Rd V a (rowsC prC l)) (hV2 : Bases V) => eleave_walk p a l c z V hV2 hV hI hn)
  have KRL := Lib.hid (fun V (hV : Rd V a (rowsC prC l)) => rleave_walk p a l c z V hsp hV hn)
  have hM2 := lvP_len (p := p) (l := l) (z := z)
  generalize addQ (lvE p l z) p = Q2 at *
  generalize lvP (lvE p l z) z l = M2 at *
  generalize lvE p l z = E2 at *
  have KC := Lib.hid (fun V (hV : Rd V a (rowsC prC l)) (hV2 : Bases V) => echeck_walk p a l c V hV2 hV hI hn)
  have KRC := Lib.hid (fun V (hV : Rd V a (rowsC prC l)) => recheck_walk p a l c V hsp hV hn)
  have KT := Lib.hid (fun V => eclaim_walk x.id x.dep V hx1 hx2)
  have KRT := Lib.hid (fun V => reclaim_walk x.id x.dep V hx1 hx2)
  have ks1 := fun (b : Option Addr) (m : List Prs) (d : Nat) (b' : Option Addr) (d' : Nat) (q : Int) (hm : m.length ≤ 64) (V : World) (h1 : Rd V b (rowsC prC m)) (h2 : Rd V b' (rowsC prC m)) => rsame_walk q q b m d b' m d' V h1 h2 (by omega)
  simp only [eqR_true] at ks1
  have KS := Lib.hid ks1
  have hbw : w.heap.size = gb := hgb.symm
  clear ks1 hgb hR hsp hx1 hx2 hBs
  go_enter Tryz.func15, Tryz.ntmps15
  go_upto_region 1 with (fail)
  rw [← hw0]
  clear hw0
  obtain ⟨y0, y1, y2, y3, y4, y5, y6⟩ := hD.held
  go_wp2_with (go_at_call 12; (with_reducible refine (KA.out _ hD.r (HBS.out _ hD.b)).mono ?_))
  (first | rintro e w1 ⟨a1, c1, rfl, -, r1, -, hb1⟩ | rintro e w1 a1 c1 rfl - r1 - hb1)
  have hbA := (Below.refl w1.heap.size w1).alloc (Nat.le_refl _) (.cells #[.int .i64 Q1, .slice a1 M1.length c1] 30)
  have g1 := Bx.new w1 30 [.int .i64 Q1, .slice a1 M1.length c1]
  change Bx (w1.alloc (.cells #[.int .i64 Q1, .slice a1 M1.length c1] 30)) _ _ _ at g1
  replace hD := (hD.keep hb1).keep hbA
  replace r1 := r1.keep hbA
  clear y0 y1 y2 y3 y4 y5 y6 hb1 hbA KA
  go_upto_region 2 with (fail)
  generalize w1.alloc (.cells #[.int .i64 Q1, .slice a1 M1.length c1] 30) = w2 at *
  generalize w1.heap.size = o1 at *
  obtain ⟨y0, y1, y2, y3, y4, y5, y6⟩ := hD.held
  go_wp2_with (go_at_call 37; (with_reducible refine (KRA.out _ hD.r).mono ?_))
  (first | rintro e w3 ⟨a2, c2, rfl, -, r2, -, hb1⟩ | rintro e w3 a2 c2 rfl - r2 - hb1)
  have hbA := (Below.refl w3.heap.size w3).alloc (Nat.le_refl _) (.cells #[.int .i64 Q1, .slice a2 M1.length c2] 30)
  have g2 := Bx.new w3 30 [.int .i64 Q1, .slice a2 M1.length c2]
  change Bx (w3.alloc (.cells #[.int .i64 Q1, .slice a2 M1.length c2] 30)) _ _ _ at g2
  replace hD := (hD.keep hb1).keep hbA
  replace r1 := (r1.keep hb1).keep hbA
  replace g1 := (g1.keep hb1).keep hbA
  replace r2 := r2.keep hbA
  clear y0 y1 y2 y3 y4 y5 y6 hb1 hbA KRA
  go_upto_region 3 with (fail)
  generalize w3.alloc (.cells #[.int .i64 Q1, .slice a2 M1.length c2] 30) = w4 at *
  generalize w3.heap.size = o2 at *
  obtain ⟨y0, y1, y2, y3, y4, y5, y6⟩ := hD.held
  go_wp2_with (go_at_call 21; (with_reducible refine (KL.out _ hD.r (HBS.out _ hD.b)).mono ?_))
  (first | rintro e w5 ⟨a3, c3, rfl, -, r3, -, hb1⟩ | rintro e w5 a3 c3 rfl - r3 - hb1)
  have hbA := (Below.refl w5.heap.size w5).alloc (Nat.le_refl _) (.cells #[.int .i64 Q2, .slice a3 M2.length c3] 30)
  have g3 := Bx.new w5 30 [.int .i64 Q2, .slice a3 M2.length c3]
  change Bx (w5.alloc (.cells #[.int .i64 Q2, .slice a3 M2.length c3] 30)) _ _ _ at g3
  replace hD := (hD.keep hb1).keep hbA
  replace r1 := (r1.keep hb1).keep hbA
  replace g1 := (g1.keep hb1).keep hbA
  replace r2 := (r2.keep hb1).keep hbA
  replace g2 := (g2.keep hb1).keep hbA
  replace r3 := r3.keep hbA
  clear y0 y1 y2 y3 y4 y5 y6 hb1 hbA KL
  go_upto_region 4 with (fail)
  generalize w5.alloc (.cells #[.int .i64 Q2, .slice a3 M2.length c3] 30) = w6 at *
  generalize w5.heap.size = o3 at *
  obtain ⟨y0, y1, y2, y3, y4, y5, y6⟩ := hD.held
  go_wp2_with (go_at_call 38; (with_reducible refine (KRL.out _ hD.r).mono ?_))
  (first | rintro e w7 ⟨a4, c4, rfl, -, r4, -, hb1⟩ | rintro e w7 a4 c4 rfl - r4 - hb1)
  have hbA := (Below.refl w7.heap.size w7).alloc (Nat.le_refl _) (.cells #[.int .i64 Q2, .slice a4 M2.length c4] 30)
  have g4 := Bx.new w7 30 [.int .i64 Q2, .slice a4 M2.length c4]
  change Bx (w7.alloc (.cells #[.int .i64 Q2, .slice a4 M2.length c4] 30)) _ _ _ at g4
  replace hD := (hD.keep hb1).keep hbA
  replace r1 := (r1.keep hb1).keep hbA
  replace g1 := (g1.keep hb1).keep hbA
  replace r2 := (r2.keep hb1).keep hbA
  replace g2 := (g2.keep hb1).keep hbA
  replace r3 := (r3.keep hb1).keep hbA
  replace g3 := (g3.keep hb1).keep hbA
  replace r4 := r4.keep hbA
  clear y0 y1 y2 y3 y4 y5 y6 hb1 hbA KRL
  go_upto_region 5 with (fail)
  generalize w7.alloc (.cells #[.int .i64 Q2, .slice a4 M2.length c4] 30) = w8 at *
  generalize w7.heap.size = o4 at *
  have hck := chkP_cases p l
  obtain ⟨ck, hcke⟩ : ∃ ck, ck = chkP p l := ⟨_, rfl⟩
  rw [← hcke] at hck KC KRC
  clear hcke
  have HCK := Lib.hid hck
  clear hck
  obtain ⟨y0, y1, y2, y3, y4, y5, y6⟩ := hD.held
  have d0 := fun d os => cell_regrown y0 d os
  have d1 := fun d os => cell_regrown y1 d os
  have d2 := fun d os => cell_regrown y2 d os
  have d4 := fun d os => cell_regrown y4 d os
  have u0 := fun d os => cell_regrown (g1.cell 0 (v := .int .i64 Q1) rfl) d os
  have u1 := fun d os => cell_regrown (g1.cell 1 (v := .slice a1 M1.length c1) rfl) d os
  have u2 := fun d os => cell_regrown (g2.cell 0 (v := .int .i64 Q1) rfl) d os
  have u3 := fun d os => cell_regrown (g2.cell 1 (v := .slice a2 M1.length c2) rfl) d os
  have u4 := fun d os => cell_regrown (g3.cell 0 (v := .int .i64 Q2) rfl) d os
  have u5 := fun d os => cell_regrown (g3.cell 1 (v := .slice a3 M2.length c3) rfl) d os
  have u6 := fun d os => cell_regrown (g4.cell 0 (v := .int .i64 Q2) rfl) d os
  have u7 := fun d os => cell_regrown (g4.cell 1 (v := .slice a4 M2.length c4) rfl) d os
  have HBW := Lib.hid (HBS.out _ hD.b)
  have HR := Lib.hid hD.r
  have R1 := Lib.hid r1
  have R2 := Lib.hid r2
  have R3 := Lib.hid r3
  have R4 := Lib.hid r4
  have HM1 := Lib.hid hM
  have HM2 := Lib.hid hM2
  have HD := Lib.hid hD
  have n1 : (ck != ck) = false := by simp
  have n2 : (E1 != E1) = false := by simp
  have n3 : (E2 != E2) = false := by simp
  have n4 : (clmF x.id x.dep != clmF x.id x.dep) = false := by simp
  generalize clmF x.id x.dep = txt at *
  clear y0 y1 y2 y3 y4 y5 y6 hD r1 r2 r3 r4 g1 g2 g3 g4 hM hM2
  refine wp_region_quiet_below (by kernel_rfl) (by kernel_rfl) ?_
  repeat (go_big_quiet_step (first
    | (go_at_call 23; with_reducible exact Calls.regrown_of (KC.out _ (HR.out.keep (below_regrown _ _ _)) (HBW.out.keep (below_regrown _ _ _))))
    | (go_at_call 39; with_reducible exact Calls.regrown_of (KRC.out _ (HR.out.keep (below_regrown _ _ _))))
    | (go_at_call 14; with_reducible refine Calls.regrown_of (KS.out _ _ _ _ _ _ ?_ _ ?_ ?_); (first | exact HM1.out | exact HM2.out); (first | exact R1.out.keep (below_regrown _ _ _) | exact R3.out.keep (below_regrown _ _ _)); (first | exact R2.out.keep (below_regrown _ _ _) | exact R4.out.keep (below_regrown _ _ _)))
    | (go_at_call 11; with_reducible exact Calls.regrown_of (KT.out _))
    | (go_at_call 20; with_reducible exact Calls.regrown_of (KRT.out _))))
  refine wpQuiet_nil ?_
  rintro w9 ⟨p2, hw9⟩
  have hD := HD.out.keep (show Below w8.heap.size w8 w9 by first | (rw [hw9]; exact below_regrown w8 p2.d p2.os) | (rw [← hw9]; exact below_regrown w8 p2.d p2.os))
  clear hw9 d0 d1 d2 d4 u0 u1 u2 u3 u4 u5 u6 u7 HBW HR R1 R2 R3 R4 HM1 HM2 HD KC KT KRT KS n1 n2 n3 n4
  go_upto_region 7 with (fail)
  obtain ⟨y0, y1, y2, y3, y4, y5, y6⟩ := hD.held
  rcases HCK.out with ⟨hc, -, hl64, -⟩ | hc
  rotate_left
  · subst hc
    go_wp2_with (go_at_call 39; (with_reducible refine (KRC.out _ hD.r).mono ?_))
    (first | rintro e w10 rfl hb1 | rintro e w10 ⟨rfl, hb1⟩)
    have hb2 := (hD.keep hb1).b
    go_wp2
    go_ret
    exact ⟨rfl, HB.out ▸ hb2⟩
  subst hc
  go_wp2_with (go_at_call 39; (with_reducible refine (KRC.out _ hD.r).mono ?_))
  (first | rintro e w10 rfl hb1 | rintro e w10 ⟨rfl, hb1⟩)
  replace hD := hD.keep hb1
  clear y0 y1 y2 y3 y4 y5 y6 hb1 KRC HCK
  have K1 := Lib.hid (fun V (hV : Rd V a (rowsC prC l)) => efind_walk p a l c z V hV hn)
  have K2 := Lib.hid (fun V (hV : Rd V a (rowsC prC l)) => rfind_walk p a l c z V hV hn)
  have K3 := Lib.hid (fun V (hV : Rd V a (rowsC prC l)) => eby_walk p a l c x.key V hV hn)
  have K4 := Lib.hid (fun V (hV : Rd V a (rowsC prC l)) => rby_walk p a l c x.key V hV hn)
  generalize (fstP Prs.id l z).isSome = b1 at *
  generalize (fstP Prs.key l x.key).isSome = b2 at *
  generalize (fstP Prs.id l z).getD Prs.zero = r1 at *
  generalize (fstP Prs.key l x.key).getD Prs.zero = r2 at *
  go_upto_region 9 with (fail)
  obtain ⟨y0, y1, y2, y3, y4, y5, y6⟩ := hD.held
  go_wp2_with (go_at_call 22; (with_reducible refine (K1.out _ hD.r).mono ?_))
  (first | rintro e v0 rfl hb1 | rintro e v0 ⟨rfl, hb1⟩)
  have hbA := (Below.refl v0.heap.size v0).alloc (Nat.le_refl _) (.cells #[.int .i64 r1.id, .int .i64 r1.key, .int .i64 r1.dep] 43)
  have p0 := Bx.new v0 43 (prC r1)
  change Bx (v0.alloc (.cells #[.int .i64 r1.id, .int .i64 r1.key, .int .i64 r1.dep] 43)) _ _ _ at p0
  replace hD := (hD.keep hb1).keep hbA
  clear y0 y1 y2 y3 y4 y5 y6 hb1 hbA K1
  go_upto_region 10 with (fail)
  generalize v0.alloc (.cells #[.int .i64 r1.id, .int .i64 r1.key, .int .i64 r1.dep] 43) = x0 at *
  generalize v0.heap.size = f1 at *
  obtain ⟨y0, y1, y2, y3, y4, y5, y6⟩ := hD.held
  go_wp2_with (go_at_call 40; (with_reducible refine (K2.out _ hD.r).mono ?_))
  (first | rintro e v1 rfl hb1 | rintro e v1 ⟨rfl, hb1⟩)
  have hbA := (Below.refl v1.heap.size v1).alloc (Nat.le_refl _) (.cells #[.int .i64 r1.id, .int .i64 r1.key, .int .i64 r1.dep] 43)
  have p1 := Bx.new v1 43 (prC r1)
  change Bx (v1.alloc (.cells #[.int .i64 r1.id, .int .i64 r1.key, .int .i64 r1.dep] 43)) _ _ _ at p1
  replace hD := (hD.keep hb1).keep hbA
  replace p0 := (p0.keep hb1).keep hbA
  clear y0 y1 y2 y3 y4 y5 y6 hb1 hbA K2
  go_upto_region 11 with (fail)
  generalize v1.alloc (.cells #[.int .i64 r1.id, .int .i64 r1.key, .int .i64 r1.dep] 43) = x1 at *
  generalize v1.heap.size = f2 at *
  obtain ⟨y0, y1, y2, y3, y4, y5, y6⟩ := hD.held
  go_wp2_with (go_at_call 41; (with_reducible refine (K3.out _ hD.r).mono ?_))
  (first | rintro e v2 rfl hb1 | rintro e v2 ⟨rfl, hb1⟩)
  have hbA := (Below.refl v2.heap.size v2).alloc (Nat.le_refl _) (.cells #[.int .i64 r2.id, .int .i64 r2.key, .int .i64 r2.dep] 43)
  have p2 := Bx.new v2 43 (prC r2)
  change Bx (v2.alloc (.cells #[.int .i64 r2.id, .int .i64 r2.key, .int .i64 r2.dep] 43)) _ _ _ at p2
  replace hD := (hD.keep hb1).keep hbA
  replace p0 := (p0.keep hb1).keep hbA
  replace p1 := (p1.keep hb1).keep hbA
  clear y0 y1 y2 y3 y4 y5 y6 hb1 hbA K3
  go_upto_region 12 with (fail)
  generalize v2.alloc (.cells #[.int .i64 r2.id, .int .i64 r2.key, .int .i64 r2.dep] 43) = x2 at *
  generalize v2.heap.size = f3 at *
  obtain ⟨y0, y1, y2, y3, y4, y5, y6⟩ := hD.held
  go_wp2_with (go_at_call 42; (with_reducible refine (K4.out _ hD.r).mono ?_))
  (first | rintro e v3 rfl hb1 | rintro e v3 ⟨rfl, hb1⟩)
  have hbA := (Below.refl v3.heap.size v3).alloc (Nat.le_refl _) (.cells #[.int .i64 r2.id, .int .i64 r2.key, .int .i64 r2.dep] 43)
  have p3 := Bx.new v3 43 (prC r2)
  change Bx (v3.alloc (.cells #[.int .i64 r2.id, .int .i64 r2.key, .int .i64 r2.dep] 43)) _ _ _ at p3
  replace hD := (hD.keep hb1).keep hbA
  replace p0 := (p0.keep hb1).keep hbA
  replace p1 := (p1.keep hb1).keep hbA
  replace p2 := (p2.keep hb1).keep hbA
  clear y0 y1 y2 y3 y4 y5 y6 hb1 hbA K4
  go_upto_region 13 with (fail)
  generalize v3.alloc (.cells #[.int .i64 r2.id, .int .i64 r2.key, .int .i64 r2.dep] 43) = x3 at *
  generalize v3.heap.size = f4 at *
  have HK1 := Lib.hid (fun V (hV : Rd V a (rowsC prC l)) => ekeys_walk p a l.length c l V hV rfl (by omega))
  have HK2 := Lib.hid (fun V (hV : Rd V a (rowsC prC l)) => rkeys_walk p a l.length c l V hV rfl (by omega))
  have HKS := Lib.hid (fun (b : Option Addr) (d : Nat) (b' : Option Addr) (d' : Nat) (V : World) (h1 : Rd V b (ints (l.map Prs.key))) (h2 : Rd V b' (ints (l.map Prs.key))) => by
    have := lsame_eq b (l.map Prs.key) d b' d' V h1 h2 (by simp; omega)
    rwa [List.length_map] at this)
  have q1 : (b1 == b1) = true := by simp
  have q2 : (b2 == b2) = true := by simp
  replace hD := hD.keep (Below.refl x3.heap.size x3).drew
  replace p0 := p0.drew
  replace p1 := p1.drew
  replace p2 := p2.drew
  replace p3 := p3.drew
  refine wp_region_held_last' (S := fun w' => w'.cell? ⟨f1, 0, none⟩ = some (.int .i64 r1.id) ∧ w'.cell? ⟨f1, 1, none⟩ = some (.int .i64 r1.key) ∧ w'.cell? ⟨f1, 2, none⟩ = some (.int .i64 r1.dep) ∧ w'.cell? ⟨f2, 0, none⟩ = some (.int .i64 r1.id) ∧ w'.cell? ⟨f2, 1, none⟩ = some (.int .i64 r1.key) ∧ w'.cell? ⟨f2, 2, none⟩ = some (.int .i64 r1.dep) ∧ w'.cell? ⟨f3, 0, none⟩ = some (.int .i64 r2.id) ∧ w'.cell? ⟨f3, 1, none⟩ = some (.int .i64 r2.key) ∧ w'.cell? ⟨f3, 2, none⟩ = some (.int .i64 r2.dep) ∧ w'.cell? ⟨f4, 0, none⟩ = some (.int .i64 r2.id) ∧ w'.cell? ⟨f4, 1, none⟩ = some (.int .i64 r2.key) ∧ w'.cell? ⟨f4, 2, none⟩ = some (.int .i64 r2.dep) ∧ w'.cell? ⟨gb, 0, none⟩ = some (.int .i64 p) ∧ w'.cell? ⟨gb, 1, none⟩ = some (.slice a l.length c)) 25 rfl (by kernel_rfl) (by kernel_rfl) (by kernel_rfl) ⟨p0.cell 0 rfl, p0.cell 1 rfl, p0.cell 2 rfl, p1.cell 0 rfl, p1.cell 1 rfl, p1.cell 2 rfl, p2.cell 0 rfl, p2.cell 1 rfl, p2.cell 2 rfl, p3.cell 0 rfl, p3.cell 1 rfl, p3.cell 2 rfl, hD.g.cell 0 rfl, hD.g.cell 1 rfl⟩ (fun hHeld => ?_)
  dsimp only [List.dropLast, List.replicate] at hHeld ⊢
  generalize x3.drew = x4 at *
  refine held_take (0) (v := ?_) rfl (by kernel_rfl) (by kernel_rfl) (by kernel_rfl) (fun _ _ _ h => h) (Or.inl ⟨by rfl, ?_⟩) (by assumption) ?_
  rotate_left
  · intro w hSw
    try dsimp only at hSw
    go_simp
    with_reducible rfl
  try simp only [Act.put, List.setIfInBounds_toArray, List.set_cons_zero, List.set_cons_succ]
  refine held_take (1) (v := ?_) rfl (by kernel_rfl) (by kernel_rfl) (by kernel_rfl) (fun _ _ _ h => h) (Or.inl ⟨by rfl, ?_⟩) (by assumption) ?_
  rotate_left
  · intro w hSw
    try dsimp only at hSw
    go_simp
    with_reducible rfl
  try simp only [Act.put, List.setIfInBounds_toArray, List.set_cons_zero, List.set_cons_succ]
  refine wpAnyH_ready (rs := [2]) (by kernel_rfl) (by simp) ?_
  refine held_cons rfl (fun K hK => ?_) AllReadyH.nil
  go_simp
  refine hK.out _ _ ⟨p0.cell 0 rfl, p0.cell 1 rfl, p0.cell 2 rfl, p1.cell 0 rfl, p1.cell 1 rfl, p1.cell 2 rfl, p2.cell 0 rfl, p2.cell 1 rfl, p2.cell 2 rfl, p3.cell 0 rfl, p3.cell 1 rfl, p3.cell 2 rfl, hD.g.cell 0 rfl, hD.g.cell 1 rfl⟩ (fun hHeld => ?_)
  clear hK K
  try simp only [Act.put, List.setIfInBounds_toArray, List.set_cons_zero, List.set_cons_succ]
  refine held_take (3) (v := ?_) rfl (by kernel_rfl) (by kernel_rfl) (by kernel_rfl) (fun _ _ _ h => h) (Or.inl ⟨by rfl, ?_⟩) (by assumption) ?_
  rotate_left
  · intro w hSw
    try dsimp only at hSw
    go_simp
    with_reducible rfl
  try simp only [Act.put, List.setIfInBounds_toArray, List.set_cons_zero, List.set_cons_succ]
  refine held_take (4) (v := ?_) rfl (by kernel_rfl) (by kernel_rfl) (by kernel_rfl) (fun _ _ _ h => h) (Or.inl ⟨by rfl, ?_⟩) (by assumption) ?_
  rotate_left
  · intro w hSw
    try dsimp only at hSw
    go_simp
    with_reducible rfl
  try simp only [Act.put, List.setIfInBounds_toArray, List.set_cons_zero, List.set_cons_succ]
  refine held_take (5) (v := ?_) rfl (by kernel_rfl) (by kernel_rfl) (by kernel_rfl) (fun _ _ _ h => h) (Or.inl ⟨by rfl, ?_⟩) (by assumption) ?_
  rotate_left
  · intro w hSw
    try dsimp only at hSw
    go_simp
    with_reducible rfl
  try simp only [Act.put, List.setIfInBounds_toArray, List.set_cons_zero, List.set_cons_succ]
  refine held_take (6) (v := ?_) rfl (by kernel_rfl) (by kernel_rfl) (by kernel_rfl) (fun _ _ _ h => h) (Or.inl ⟨by rfl, ?_⟩) (by assumption) ?_
  rotate_left
  · intro w hSw
    try dsimp only at hSw
    go_simp
    with_reducible rfl
  try simp only [Act.put, List.setIfInBounds_toArray, List.set_cons_zero, List.set_cons_succ]
  refine held_take (7) (v := ?_) rfl (by kernel_rfl) (by kernel_rfl) (by kernel_rfl) (fun _ _ _ h => h) (Or.inl ⟨by rfl, ?_⟩) (by assumption) ?_
  rotate_left
  · intro w hSw
    try dsimp only at hSw
    go_simp
    with_reducible rfl
  try simp only [Act.put, List.setIfInBounds_toArray, List.set_cons_zero, List.set_cons_succ]
  refine held_take (8) (v := ?_) rfl (by kernel_rfl) (by kernel_rfl) (by kernel_rfl) (fun _ _ _ h => h) (Or.inl ⟨by rfl, ?_⟩) (by assumption) ?_
  rotate_left
  · intro w hSw
    try dsimp only at hSw
    go_simp
    with_reducible rfl
  try simp only [Act.put, List.setIfInBounds_toArray, List.set_cons_zero, List.set_cons_succ]
  refine held_take (9) (v := ?_) rfl (by kernel_rfl) (by kernel_rfl) (by kernel_rfl) (fun _ _ _ h => h) (Or.inl ⟨by rfl, ?_⟩) (by assumption) ?_
  rotate_left
  · intro w hSw
    try dsimp only at hSw
    go_simp
    with_reducible rfl
  try simp only [Act.put, List.setIfInBounds_toArray, List.set_cons_zero, List.set_cons_succ]
  refine held_take (10) (v := ?_) rfl (by kernel_rfl) (by kernel_rfl) (by kernel_rfl) (fun _ _ _ h => h) (Or.inl ⟨by rfl, ?_⟩) (by assumption) ?_
  rotate_left
  · intro w hSw
    try dsimp only at hSw
    go_simp
    with_reducible rfl
  try simp only [Act.put, List.setIfInBounds_toArray, List.set_cons_zero, List.set_cons_succ]
  refine wpAnyH_ready (rs := [11]) (by kernel_rfl) (by simp) ?_
  refine held_cons rfl (fun K hK => ?_) AllReadyH.nil
  go_simp
  refine hK.out _ _ ⟨p0.cell 0 rfl, p0.cell 1 rfl, p0.cell 2 rfl, p1.cell 0 rfl, p1.cell 1 rfl, p1.cell 2 rfl, p2.cell 0 rfl, p2.cell 1 rfl, p2.cell 2 rfl, p3.cell 0 rfl, p3.cell 1 rfl, p3.cell 2 rfl, hD.g.cell 0 rfl, hD.g.cell 1 rfl⟩ (fun hHeld => ?_)
  clear hK K
  try simp only [Act.put, List.setIfInBounds_toArray, List.set_cons_zero, List.set_cons_succ]
  refine held_take (12) (v := ?_) rfl (by kernel_rfl) (by kernel_rfl) (by kernel_rfl) (fun _ _ _ h => h) (Or.inl ⟨by rfl, ?_⟩) (by assumption) ?_
  rotate_left
  · intro w hSw
    try dsimp only at hSw
    go_simp
    with_reducible rfl
  try simp only [Act.put, List.setIfInBounds_toArray, List.set_cons_zero, List.set_cons_succ]
  refine held_take (13) (v := ?_) rfl (by kernel_rfl) (by kernel_rfl) (by kernel_rfl) (fun _ _ _ h => h) (Or.inl ⟨by rfl, ?_⟩) (by assumption) ?_
  rotate_left
  · intro w hSw
    try dsimp only at hSw
    go_simp
    with_reducible rfl
  try simp only [Act.put, List.setIfInBounds_toArray, List.set_cons_zero, List.set_cons_succ]
  refine held_take (14) (v := ?_) rfl (by kernel_rfl) (by kernel_rfl) (by kernel_rfl) (fun _ _ _ h => h) (Or.inl ⟨by rfl, ?_⟩) (by assumption) ?_
  rotate_left
  · intro w hSw
    try dsimp only at hSw
    go_simp
    with_reducible rfl
  try simp only [Act.put, List.setIfInBounds_toArray, List.set_cons_zero, List.set_cons_succ]
  refine held_take (15) (v := ?_) rfl (by kernel_rfl) (by kernel_rfl) (by kernel_rfl) (fun _ _ _ h => h) (Or.inl ⟨by rfl, ?_⟩) (by assumption) ?_
  rotate_left
  · intro w hSw
    try dsimp only at hSw
    go_simp
    with_reducible rfl
  try simp only [Act.put, List.setIfInBounds_toArray, List.set_cons_zero, List.set_cons_succ]
  refine held_take (16) (v := ?_) rfl (by kernel_rfl) (by kernel_rfl) (by kernel_rfl) (fun _ _ _ h => h) (Or.inl ⟨by rfl, ?_⟩) (by assumption) ?_
  rotate_left
  · intro w hSw
    try dsimp only at hSw
    go_simp
    with_reducible rfl
  try simp only [Act.put, List.setIfInBounds_toArray, List.set_cons_zero, List.set_cons_succ]
  refine held_take (17) (v := ?_) rfl (by kernel_rfl) (by kernel_rfl) (by kernel_rfl) (fun _ _ _ h => h) (Or.inl ⟨by rfl, ?_⟩) (by assumption) ?_
  rotate_left
  · intro w hSw
    try dsimp only at hSw
    go_simp
    with_reducible rfl
  try simp only [Act.put, List.setIfInBounds_toArray, List.set_cons_zero, List.set_cons_succ]
  refine held_take (18) (v := ?_) rfl (by kernel_rfl) (by kernel_rfl) (by kernel_rfl) (fun _ _ _ h => h) (Or.inl ⟨by rfl, ?_⟩) (by assumption) ?_
  rotate_left
  · intro w hSw
    try dsimp only at hSw
    go_simp
    with_reducible rfl
  try simp only [Act.put, List.setIfInBounds_toArray, List.set_cons_zero, List.set_cons_succ]
  refine held_take (19) (v := ?_) rfl (by kernel_rfl) (by kernel_rfl) (by kernel_rfl) (fun _ _ _ h => h) (Or.inl ⟨by rfl, ?_⟩) (by assumption) ?_
  rotate_left
  · intro w hSw
    try dsimp only at hSw
    go_simp
    with_reducible rfl
  try simp only [Act.put, List.setIfInBounds_toArray, List.set_cons_zero, List.set_cons_succ]
  refine held_take (21) (v := ?_) rfl (by kernel_rfl) (by kernel_rfl) (by kernel_rfl) (fun _ _ _ h => h) (Or.inl ⟨by rfl, ?_⟩) (by assumption) ?_
  rotate_left
  · intro w hSw
    try dsimp only at hSw
    go_simp
    with_reducible rfl
  try simp only [Act.put, List.setIfInBounds_toArray, List.set_cons_zero, List.set_cons_succ]
  refine wpAnyH_ready (rs := [20]) (by kernel_rfl) (by simp) ?_
  refine held_cons rfl (fun K hK => ?_) AllReadyH.nil
  go_simp
  go_at_call 44
  (with_reducible refine (HK1.out _ hD.r).mono ?_)
  (first | rintro e y1 ⟨a5, c5, rfl, O5, hb1⟩ | rintro e y1 a5 c5 rfl O5 hb1)
  have p0a := p0.keep hb1
  have p1a := p1.keep hb1
  have p2a := p2.keep hb1
  have p3a := p3.keep hb1
  have hDa := hD.keep hb1
  have R5 := Lib.hid O5.rd
  clear O5
  go_wp2_with fail
  refine hK.out _ _ ⟨p0a.cell 0 rfl, p0a.cell 1 rfl, p0a.cell 2 rfl, p1a.cell 0 rfl, p1a.cell 1 rfl, p1a.cell 2 rfl, p2a.cell 0 rfl, p2a.cell 1 rfl, p2a.cell 2 rfl, p3a.cell 0 rfl, p3a.cell 1 rfl, p3a.cell 2 rfl, hDa.g.cell 0 rfl, hDa.g.cell 1 rfl⟩ (fun hHeld => ?_)
  clear hK K
  try simp only [Act.put, List.setIfInBounds_toArray, List.set_cons_zero, List.set_cons_succ]
  refine wpAnyH_ready (rs := [22]) (by kernel_rfl) (by simp) ?_
  refine held_cons rfl (fun K hK => ?_) AllReadyH.nil
  go_simp
  go_at_call 45
  (with_reducible refine (HK2.out _ hDa.r).mono ?_)
  (first | rintro e y2 ⟨a6, c6, rfl, O6, hb2⟩ | rintro e y2 a6 c6 rfl O6 hb2)
  have p0b := p0a.keep hb2
  have p1b := p1a.keep hb2
  have p2b := p2a.keep hb2
  have p3b := p3a.keep hb2
  have hDb := hDa.keep hb2
  have R6 := Lib.hid (R5.out.keep hb2)
  have R7 := Lib.hid O6.rd
  clear O6
  go_wp2_with fail
  refine hK.out _ _ ⟨p0b.cell 0 rfl, p0b.cell 1 rfl, p0b.cell 2 rfl, p1b.cell 0 rfl, p1b.cell 1 rfl, p1b.cell 2 rfl, p2b.cell 0 rfl, p2b.cell 1 rfl, p2b.cell 2 rfl, p3b.cell 0 rfl, p3b.cell 1 rfl, p3b.cell 2 rfl, hDb.g.cell 0 rfl, hDb.g.cell 1 rfl⟩ (fun hHeld => ?_)
  clear hK K
  try simp only [Act.put, List.setIfInBounds_toArray, List.set_cons_zero, List.set_cons_succ]
  refine wpAnyH_ready (rs := [23]) (by kernel_rfl) (by simp) ?_
  refine held_cons rfl (fun K hK => ?_) AllReadyH.nil
  go_simp
  go_at_call 43
  (with_reducible refine (HKS.out _ _ _ _ _ R6.out R7.out).mono ?_)
  (first | rintro e y3 ⟨rfl, hb3⟩ | rintro e y3 rfl hb3)
  have p0c := p0b.keep hb3
  have p1c := p1b.keep hb3
  have p2c := p2b.keep hb3
  have p3c := p3b.keep hb3
  have hDc := hDb.keep hb3
  go_wp2_with fail
  refine hK.out _ _ ⟨p0c.cell 0 rfl, p0c.cell 1 rfl, p0c.cell 2 rfl, p1c.cell 0 rfl, p1c.cell 1 rfl, p1c.cell 2 rfl, p2c.cell 0 rfl, p2c.cell 1 rfl, p2c.cell 2 rfl, p3c.cell 0 rfl, p3c.cell 1 rfl, p3c.cell 2 rfl, hDc.g.cell 0 rfl, hDc.g.cell 1 rfl⟩ (fun hHeld => ?_)
  clear hK K
  try simp only [Act.put, List.setIfInBounds_toArray, List.set_cons_zero, List.set_cons_succ]
  refine held_take (24) (v := ?_) rfl (by kernel_rfl) (by kernel_rfl) (by kernel_rfl) (fun _ _ _ h => h) (Or.inl ⟨by rfl, ?_⟩) (by assumption) ?_
  rotate_left
  · intro w hSw
    try dsimp only at hSw
    go_simp
    with_reducible rfl
  try simp only [Act.put, List.setIfInBounds_toArray, List.set_cons_zero, List.set_cons_succ]
  refine wpAnyH_done (by kernel_rfl) ?_ _
  dsimp only [Behind]
  have hbe := hDc.b
  go_simp
  go_wp2
  go_ret
  exact ⟨rfl, HB.out ▸ hbe⟩
end Go.Proofs.YtnahkfchcminpaaGreatDoor
