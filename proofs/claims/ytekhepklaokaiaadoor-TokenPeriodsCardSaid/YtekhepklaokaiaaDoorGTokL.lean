/- Tokens: the law's sanity check. -/
import Derived.Test.YtekhepklaokaiaaDoorGTokG
import Derived.Test.YtekhepklaokaiaaDoorGGrp
namespace Go.Proofs.YtekhepklaokaiaaDoor
open Go.RowKit
theorem gpw_eval (p x k : Nat) (h : k % p < 2 ^ 40) : gpw p x (k : Int) = fpow (2 * p + 1) 40 1 x (k % p) := by
  rw [gpw, ← Int.natCast_emod, Int.toNat_natCast, pow_eval _ _ _ h]
theorem invF_eval (p b : Nat) (h : p - 2 < 2 ^ 40) : invF p b = fpow p 40 1 b (p - 2) := by rw [invF, pow_eval _ _ _ h]
theorem memZ_eval (p x : Nat) (hp : p < 2 ^ 40) (h0 : 0 < x) (hx : x < 2 * p + 1) (h : fpow (2 * p + 1) 40 1 x p = 1) : memZ p (x : Int) = true := by
  rw [memZ, memH, Int.toNat_natCast, decide_eq_true (show (0 : Int) < (x : Int) by omega), decide_eq_true h0, decide_eq_true hx, pow_eval _ _ _ hp, h]; rfl
theorem sqr_a : sqrF 500000003 [97] = 147947230 := by decide +kernel
theorem aw_blind : blindF 500000003 [97] 5 = (848624102, 0) := by
  rw [blindF, if_neg (by rw [safeP_big]; decide), if_neg (by decide), if_neg (by decide), show (500000003 : Int).toNat = 500000003 from rfl, sqr_a]
  have : gpw 500000003 147947230 ((5 : Nat) : Int) = 848624102 := by rw [gpw_eval _ _ _ (by decide)]; decide +kernel
  rw [show (5 : Int) = ((5 : Nat) : Int) from rfl, this]; rfl
theorem aw_mem : memZ 500000003 848624102 = true := memZ_eval 500000003 848624102 (by decide) (by decide) (by decide) (by decide +kernel)
theorem aw_mem2 : memZ 500000003 142302737 = true := memZ_eval 500000003 142302737 (by decide) (by decide) (by decide) (by decide +kernel)
theorem aw_off : offOk 500000003 3 1 := ⟨safeP_big, by decide, by decide⟩
theorem aw_good : IGood [⟨1, 0, 1⟩] 1 := fun i r hi hr => by
  obtain rfl : i = 0 := by omega
  cases hr
  exact ⟨by decide, by decide, by decide, fun x h => absurd h (by omega)⟩
theorem aw_chk0 : chkI 500000003 3 1 [] = 0 := chkI_ok aw_off (by decide) (IGood.zero [])
theorem aw_chk1 : chkI 500000003 3 1 [⟨1, 0, 1⟩] = 0 := chkI_ok aw_off (by decide) aw_good
theorem aw_key : ((gpw (500000003 : Int).toNat (848624102 : Int).toNat 3 : Nat) : Int) = 142302737 := by
  have : gpw 500000003 848624102 ((3 : Nat) : Int) = 142302737 := by rw [gpw_eval _ _ _ (by decide)]; decide +kernel
  exact congrArg Int.ofNat this
theorem aw_iss0 : issF 500000003 3 1 [] 1 0 848624102 = ([⟨1, 0, 1⟩], 142302737, 0) := by
  rw [issF_new aw_chk0 (by decide) (by rw [show (500000003 : Int).toNat = 500000003 from rfl, aw_mem]; decide) (by decide) (by decide) (by decide), aw_key]; rfl
theorem aw_iss1 : issF 500000003 3 1 [⟨1, 0, 1⟩] 1 0 848624102 = ([⟨1, 0, 1⟩], 0, 43) :=
  issF_spent aw_chk1 (by decide) (by rw [show (500000003 : Int).toNat = 500000003 from rfl, aw_mem]; decide) (by decide)
theorem aw_fin : finF 500000003 142302737 5 = (271690213, 0) := by
  rw [finF, if_neg (by rw [safeP_big]; decide), show (500000003 : Int).toNat = 500000003 from rfl, if_neg (by rw [aw_mem2]; decide), if_neg (by decide)]
  have h1 : invF 500000003 5 = 300000002 := by rw [invF_eval _ _ (by decide)]; decide +kernel
  have : gpw 500000003 142302737 ((300000002 : Nat) : Int) = 271690213 := by rw [gpw_eval _ _ _ (by decide)]; decide +kernel
  rw [show (5 : Int).toNat = 5 from rfl, h1, show (142302737 : Int).toNat = 142302737 from rfl, this]; rfl
theorem aw_right : rightF 500000003 3 [97] 271690213 = true := by
  rw [rightF, safeP_big, show (500000003 : Int).toNat = 500000003 from rfl, sqr_a]
  have : gpw 500000003 147947230 ((3 : Nat) : Int) = 271690213 := by rw [gpw_eval _ _ _ (by decide)]; decide +kernel
  rw [show (3 : Int) = ((3 : Nat) : Int) from rfl, this]; rfl
theorem aw_left0 : leftI 1 [⟨1, 0, 1⟩] 1 0 = 0 := by decide
theorem aw_left1 : leftI 1 [⟨1, 0, 1⟩] 1 1 = 1 := by decide
set_option maxRecDepth 100000 in
set_option maxHeartbeats 2000000 in
theorem awake24_walk (w : World) (hB : Bases w) :
    Calls Tryd.prog 6 #[] w fun e w' => e = .returned (.bool true) ∧ Below w.heap.size w w' := by
  have K1 := Lib.hid (fun V h => tblind_walk 500000003 [97] 5 848624102 0 V aw_blind h (by decide))
  have K2 := Lib.hid (fun V h => (show Calls Tryd.prog 12 #[.agg #[.int .i64 500000003, .int .i64 3, .int .i64 1, .slice none 0 0], .int .i64 1, .int .i64 0, .int .i64 848624102] V (IssRes V 500000003 3 1 ([⟨1, 0, 1⟩], 142302737, 0)) by
    have := tissue_walk 500000003 3 1 none [] 0 1 0 848624102 V h (Rd.nil _ _) (by decide); rwa [aw_iss0] at this))
  have K3 := Lib.hid (fun V h => tfinish_walk 500000003 142302737 5 271690213 0 V aw_fin h)
  have K4 := Lib.hid (fun V q c h (hR : Rd V q (rowsC isC [⟨1, 0, 1⟩])) => (show Calls Tryd.prog 12 #[.agg #[.int .i64 500000003, .int .i64 3, .int .i64 1, .slice q 1 c], .int .i64 1, .int .i64 0, .int .i64 848624102] V (IssRes V 500000003 3 1 ([⟨1, 0, 1⟩], 0, 43)) by
    have := tissue_walk 500000003 3 1 q [⟨1, 0, 1⟩] c 1 0 848624102 V h hR (by decide); rwa [aw_iss1] at this))
  have K5 := Lib.hid (fun V h => tright_walk 500000003 3 [97] 271690213 true V aw_right h (by decide))
  have K6 := Lib.hid (fun V q c (hR : Rd V q (rowsC isC [⟨1, 0, 1⟩])) => (show Calls Tryd.prog 11 #[.agg #[.int .i64 500000003, .int .i64 3, .int .i64 1, .slice q 1 c], .int .i64 1, .int .i64 0] V fun e w' => e = .returned (.int .i64 0) ∧ Below V.heap.size V w' by
    have := ileft_walk 500000003 3 1 q [⟨1, 0, 1⟩] c 1 0 V hR (by decide) aw_good ⟨by decide, by decide⟩ (by decide); rwa [aw_left0] at this))
  have K7 := Lib.hid (fun V q c (hR : Rd V q (rowsC isC [⟨1, 0, 1⟩])) => (show Calls Tryd.prog 11 #[.agg #[.int .i64 500000003, .int .i64 3, .int .i64 1, .slice q 1 c], .int .i64 1, .int .i64 1] V fun e w' => e = .returned (.int .i64 1) ∧ Below V.heap.size V w' by
    have := ileft_walk 500000003 3 1 q [⟨1, 0, 1⟩] c 1 1 V hR (by decide) aw_good ⟨by decide, by decide⟩ (by decide); rwa [aw_left1] at this))
  have K8 := Lib.hid (fun V q c h (hR : Rd V q (rowsC isC [⟨1, 0, 1⟩])) => (show Calls Tryd.prog 14 #[.agg #[.int .i64 500000003, .int .i64 3, .int .i64 1, .slice q 1 c]] V fun e w' => e = .returned (.int .i64 0) ∧ Below V.heap.size V w' by
    have := icheck_walk 500000003 3 1 q [⟨1, 0, 1⟩] c V h hR (by decide); rwa [aw_chk1] at this))
  go_enter Tryd.func6, Tryd.ntmps6
  obtain ⟨gb, hgb⟩ : ∃ g, g = w.heap.size := ⟨_, rfl⟩
  have hgw : w.heap.size = gb := hgb.symm
  have hbw := (Below.refl w.heap.size w).alloc (Nat.le_refl _) (.cells #[.int .i64 500000003, .int .i64 3, .int .i64 1, .slice none 0 0] 35)
  have hG := Bx.new w 35 (offC 500000003 3 1 (.slice none 0 0))
  change Bx (w.alloc (.cells #[.int .i64 500000003, .int .i64 3, .int .i64 1, .slice none 0 0] 35)) _ _ _ at hG
  rw [← hgb] at hG
  have HGB := Lib.hid hgb
  clear hgb
  go_upto_region 2 with (fail)
  generalize w.alloc (.cells #[.int .i64 500000003, .int .i64 3, .int .i64 1, .slice none 0 0] 35) = w0 at *
  have hB0 := hB.keep hbw
  go_wp2_with (go_at_call 9; (with_reducible refine (K1.out _ hB0).mono ?_))
  rintro e w1 ⟨rfl, hb1⟩
  have hb : Below gb w w1 := hgw ▸ below_tr hbw hb1
  replace hG := hG.keep hb1
  clear hbw hb1 hB0 K1
  have hB1 := hB.keep (HGB.out ▸ hb)
  obtain ⟨g0, g1, g2, g3⟩ : (w1.cell? ⟨gb, 0, none⟩ = some (.int .i64 500000003) ∧ w1.cell? ⟨gb, 1, none⟩ = some (.int .i64 3) ∧ w1.cell? ⟨gb, 2, none⟩ = some (.int .i64 1) ∧ w1.cell? ⟨gb, 3, none⟩ = some (.slice none 0 0)) := ⟨hG.cell 0 rfl, hG.cell 1 rfl, hG.cell 2 rfl, hG.cell 3 rfl⟩
  go_wp2_with (go_at_call 12; (with_reducible refine (K2.out _ hB1).mono ?_))
  (first | rintro e w2 ⟨a1, c1, rfl, hO1, hb2⟩ | rintro e w2 a1 c1 rfl hO1 hb2)
  have hgl := hG.lt
  have hbb : Below gb w w2 := hb.trans (hb2.mono (Nat.le_of_lt hgl))
  replace hG := hG.keep hb2
  clear g0 g1 g2 g3 hB1 hb2
  obtain ⟨g0, g1, g2, g3⟩ : (w2.cell? ⟨gb, 0, none⟩ = some (.int .i64 500000003) ∧ w2.cell? ⟨gb, 1, none⟩ = some (.int .i64 3) ∧ w2.cell? ⟨gb, 2, none⟩ = some (.int .i64 1) ∧ w2.cell? ⟨gb, 3, none⟩ = some (.slice none 0 0)) := ⟨hG.cell 0 rfl, hG.cell 1 rfl, hG.cell 2 rfl, hG.cell 3 rfl⟩
  have f0 := hG.free 0
  have f1 := hG.free 1
  have f2 := hG.free 2
  have f3 := hG.free 3
  have hg4 : w2.grownBy ((((w2.setCell ⟨gb, 0, none⟩ (.int .i64 500000003)).setCell ⟨gb, 1, none⟩ (.int .i64 3)).setCell ⟨gb, 2, none⟩ (.int .i64 1)).setCell ⟨gb, 3, none⟩ (.slice a1 1 c1)) (some gb) := grownBy_setCells w2 gb 0 [.int .i64 500000003, .int .i64 3, .int .i64 1, .slice a1 1 c1]
  have hG4 : Bx ((((w2.setCell ⟨gb, 0, none⟩ (.int .i64 500000003)).setCell ⟨gb, 1, none⟩ (.int .i64 3)).setCell ⟨gb, 2, none⟩ (.int .i64 1)).setCell ⟨gb, 3, none⟩ (.slice a1 1 c1)) gb 35 (offC 500000003 3 1 (.slice a1 1 c1)) := (((hG.set 0 _).set 1 _).set 2 _).set 3 _
  have hR4 : Rd ((((w2.setCell ⟨gb, 0, none⟩ (.int .i64 500000003)).setCell ⟨gb, 1, none⟩ (.int .i64 3)).setCell ⟨gb, 2, none⟩ (.int .i64 1)).setCell ⟨gb, 3, none⟩ (.slice a1 1 c1)) a1 (rowsC isC [⟨1, 0, 1⟩]) := hO1.rd.grown hg4 (fun g off e h => by
    cases e
    have := (hO1.row g rfl).1
    have := Option.some.inj h
    omega)
  have hb4 : Below gb w ((((w2.setCell ⟨gb, 0, none⟩ (.int .i64 500000003)).setCell ⟨gb, 1, none⟩ (.int .i64 3)).setCell ⟨gb, 2, none⟩ (.int .i64 1)).setCell ⟨gb, 3, none⟩ (.slice a1 1 c1)) := (((hbb.setCell (p := ⟨gb, 0, none⟩) (Nat.le_refl _) _).setCell (p := ⟨gb, 1, none⟩) (Nat.le_refl _) _).setCell (p := ⟨gb, 2, none⟩) (Nat.le_refl _) _).setCell (p := ⟨gb, 3, none⟩) (Nat.le_refl _) _
  clear hG hO1 hg4 hbb hb
  go_upto_region 4 with (fail)
  generalize (((w2.setCell ⟨gb, 0, none⟩ (.int .i64 500000003)).setCell ⟨gb, 1, none⟩ (.int .i64 3)).setCell ⟨gb, 2, none⟩ (.int .i64 1)).setCell ⟨gb, 3, none⟩ (.slice a1 1 c1) = w3 at *
  clear g0 g1 g2 g3 f0 f1 f2 f3 hgl K2
  have hB3 := hB.keep (HGB.out ▸ hb4)
  go_wp2_with (go_at_call 15; (with_reducible refine (K3.out _ hB3).mono ?_))
  rintro e w4 ⟨rfl, hb5⟩
  have hlt := hG4.lt
  have hb : Below gb w w4 := hb4.trans (hb5.mono (Nat.le_of_lt hlt))
  have hG := hG4.keep hb5
  have hR := hR4.keep hb5
  clear hb4 hb5 hG4 hR4 hB3 K3 hlt
  have hB4 := hB.keep (HGB.out ▸ hb)
  obtain ⟨g0, g1, g2, g3⟩ : (w4.cell? ⟨gb, 0, none⟩ = some (.int .i64 500000003) ∧ w4.cell? ⟨gb, 1, none⟩ = some (.int .i64 3) ∧ w4.cell? ⟨gb, 2, none⟩ = some (.int .i64 1) ∧ w4.cell? ⟨gb, 3, none⟩ = some (.slice a1 1 c1)) := ⟨hG.cell 0 rfl, hG.cell 1 rfl, hG.cell 2 rfl, hG.cell 3 rfl⟩
  go_wp2_with (go_at_call 12; (with_reducible refine (K4.out _ _ _ hB4 hR).mono ?_))
  (first | rintro e w5 ⟨a2, c2, rfl, -, hb5⟩ | rintro e w5 a2 c2 rfl - hb5)
  have hlt := hG.lt
  replace hb5 := hb5.trans (((Below.refl w5.heap.size w5).alloc (Nat.le_refl _) (.cells #[.int .i64 500000003, .int .i64 3, .int .i64 1, .slice a2 1 c2] 35)).mono hb5.size)
  replace hb := hb.trans (hb5.mono (Nat.le_of_lt hlt))
  replace hG := hG.keep hb5
  replace hR := hR.keep hb5
  clear hb5 hB4 K4 hlt g0 g1 g2 g3
  go_upto_region 6 with (fail)
  generalize w5.alloc (.cells #[.int .i64 500000003, .int .i64 3, .int .i64 1, .slice a2 1 c2] 35) = w6 at *
  have hB6 := hB.keep (HGB.out ▸ hb)
  go_wp2_with (go_at_call 16; (with_reducible refine (K5.out _ hB6).mono ?_))
  rintro e w7 ⟨rfl, hb5⟩
  have hlt := hG.lt
  replace hb := hb.trans (hb5.mono (Nat.le_of_lt hlt))
  replace hG := hG.keep hb5
  replace hR := hR.keep hb5
  clear hb5 hB6 K5 hlt
  obtain ⟨g0, g1, g2, g3⟩ : (w7.cell? ⟨gb, 0, none⟩ = some (.int .i64 500000003) ∧ w7.cell? ⟨gb, 1, none⟩ = some (.int .i64 3) ∧ w7.cell? ⟨gb, 2, none⟩ = some (.int .i64 1) ∧ w7.cell? ⟨gb, 3, none⟩ = some (.slice a1 1 c1)) := ⟨hG.cell 0 rfl, hG.cell 1 rfl, hG.cell 2 rfl, hG.cell 3 rfl⟩
  go_wp2_with (go_at_call 11; (with_reducible refine (K6.out _ _ _ hR).mono ?_))
  rintro e w8 ⟨rfl, hb5⟩
  have hlt := hG.lt
  replace hb := hb.trans (hb5.mono (Nat.le_of_lt hlt))
  replace hG := hG.keep hb5
  replace hR := hR.keep hb5
  clear hb5 K6 hlt g0 g1 g2 g3
  obtain ⟨g0, g1, g2, g3⟩ : (w8.cell? ⟨gb, 0, none⟩ = some (.int .i64 500000003) ∧ w8.cell? ⟨gb, 1, none⟩ = some (.int .i64 3) ∧ w8.cell? ⟨gb, 2, none⟩ = some (.int .i64 1) ∧ w8.cell? ⟨gb, 3, none⟩ = some (.slice a1 1 c1)) := ⟨hG.cell 0 rfl, hG.cell 1 rfl, hG.cell 2 rfl, hG.cell 3 rfl⟩
  go_wp2_with (go_at_call 11; (with_reducible refine (K7.out _ _ _ hR).mono ?_))
  rintro e w9 ⟨rfl, hb5⟩
  have hlt := hG.lt
  replace hb := hb.trans (hb5.mono (Nat.le_of_lt hlt))
  replace hG := hG.keep hb5
  replace hR := hR.keep hb5
  clear hb5 K7 hlt g0 g1 g2 g3
  obtain ⟨g0, g1, g2, g3⟩ : (w9.cell? ⟨gb, 0, none⟩ = some (.int .i64 500000003) ∧ w9.cell? ⟨gb, 1, none⟩ = some (.int .i64 3) ∧ w9.cell? ⟨gb, 2, none⟩ = some (.int .i64 1) ∧ w9.cell? ⟨gb, 3, none⟩ = some (.slice a1 1 c1)) := ⟨hG.cell 0 rfl, hG.cell 1 rfl, hG.cell 2 rfl, hG.cell 3 rfl⟩
  have hB9 := hB.keep (HGB.out ▸ hb)
  go_wp2_with (go_at_call 14; (with_reducible refine (K8.out _ _ _ hB9 hR).mono ?_))
  rintro e w10 ⟨rfl, hb5⟩
  have HBB := Lib.hid (hb.trans (hb5.mono (Nat.le_of_lt hG.lt)))
  clear hb hG hR hb5
  go_wp2
  go_ret
  exact ⟨rfl, hgw ▸ HBB.out⟩
end Go.Proofs.YtekhepklaokaiaaDoor
