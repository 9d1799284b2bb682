/- Rings: the law's sanity check. -/
import Derived.Test.YtbjpmkoiabkcbaaGreatDoorGRPow
import Derived.Test.YtbjpmkoiabkcbaaGreatDoorGRateH
import Derived.Test.YtbjpmkoiabkcbaaGreatDoorGRateF
import Derived.Test.YtbjpmkoiabkcbaaGreatDoorGRateC
import Derived.Test.YtbjpmkoiabkcbaaGreatDoorGSafes
import Derived.Test.YtbjpmkoiabkcbaaGreatDoorGRateAg
import Derived.Test.YtbjpmkoiabkcbaaGreatDoorGRowsC
namespace Go.Proofs.YtbjpmkoiabkcbaaGreatDoor
open Go.RowKit
theorem grp11 : Grp 11 := (good_of 11 1 (by decide) (by decide) (by decide) (by decide +kernel) (by decide) (by decide +kernel) (by decide +kernel)).1
theorem safe11 : safeP 11 = true := (good_of 11 1 (by decide) (by decide) (by decide) (by decide +kernel) (by decide) (by decide +kernel) (by decide +kernel)).2.1
/-- what the sanity check meets -/
structure Awake (keys C Z L : List Int) : Prop where
  p1 : proveF 11 keys 1 3 [116] [4, 5, 6] = ((C, Z), 0)
  v : verF 11 keys [116] C Z = true
  e : expF 11 keys 0 2 [116] C Z = (L, 0)
  p2 : proveF 11 keys 0 2 [116] L = ((C, Z), 0)
  c : C.length = 2
  z : Z.length = 2
  l : L.length = 3
theorem awake_facts : ∃ C Z L, Awake (keyL 11 2) C Z L := by
  have hr : elsF ((11 : Nat) : Int) [4, 5, 6] = true := by decide
  have hl : ([4, 5, 6] : List Int).length + 1 = 2 * 2 := rfl
  have a1 := prove_key grp11 (n := 2) (me := 1) (by decide) (by decide) (by decide) [116] hl hr
  have a2 := made_ver grp11 (n := 2) (me := 1) (by decide) (by decide) [116] hl hr
  obtain ⟨C, hC⟩ : ∃ C, C = (cL [4, 5, 6] 1 2 2).set 1 (cMe 11 (keyL 11 2) [4, 5, 6] 1 [116]) := ⟨_, rfl⟩
  obtain ⟨Z, hZ⟩ : ∃ Z, Z = (zL [4, 5, 6] 1 2 2).set 1 (zMe 11 (keyL 11 2) [4, 5, 6] 1 (((1 : Nat) : Int) + 2) [116]) := ⟨_, rfl⟩
  rw [← hC, ← hZ] at a1 a2
  refine ⟨C, Z, expL 11 2 0 C Z, a1, a2, exp_key grp11 (i := 0) (by decide) (by decide) (by decide) [116] a2, exp_prove grp11 (i := 0) (by decide) (by decide) (by decide) [116] a2, ?_, ?_, ?_⟩
  · rw [hC, List.length_set, cL_length]
  · rw [hZ, List.length_set, zL_length]
  · have := expL_length (P := 11) (n := 2) (i := 0) (C := C) (Z := Z) (by decide)
    omega
theorem onceAba : (onceI ([[97], [98], [97]] : List (List UInt8)) ([[97], [98], [97]] : List (List UInt8)).length).length = 2 := by decide +kernel
set_option maxRecDepth 100000 in
set_option maxHeartbeats 4000000 in
theorem awake25_walk (w : World) (hB : Bases w) :
    Calls Tryz.prog 4 #[] w fun e w' => e = .returned (.bool true) ∧ Below w.heap.size w w' := by
  obtain ⟨C, Z, L, hA⟩ := awake_facts
  have kP : ∀ V (i : Int), Calls Tryz.prog 6 #[.int .i64 11, .int .i64 i] V fun r w' => r = .returned (.int .i64 ((gpw 11 4 i : Nat) : Int)) ∧ V = w' := fun V i => rPublic_walk 11 i V (by decide) (by decide)
  have hk : keyL 11 2 = [((gpw 11 4 2 : Nat) : Int), ((gpw 11 4 3 : Nat) : Int)] := rfl
  have kp2 := fun V => kP V 2
  have kp3 := fun V => kP V 3
  rw [hk] at hA
  clear hk kP
  generalize ((gpw 11 4 2 : Nat) : Int) = k0 at *
  generalize ((gpw 11 4 3 : Nat) : Int) = k1 at *
  have k1' : ∀ V a c ra rc, Bases V → Rd V a (ints [k0, k1]) → Rd V ra (ints [4, 5, 6]) → 3 ≤ rc → Calls Tryz.prog 7 #[.int .i64 11, .slice a 2 c, .int .i64 1, .int .i64 3, .string ⟨#[116]⟩, .slice ra 3 rc] V (RingRes V C Z 0) := fun V a c ra rc hB hR hRR hrc => by
    have := prove_walk 11 a [k0, k1] c 1 3 [116] ra [4, 5, 6] rc V hB safe11 hR (by simp) hRR (by decide) hrc (by decide)
    rwa [hA.p1] at this
  have k2' : ∀ V a c ra rc, Bases V → Rd V a (ints [k0, k1]) → Rd V ra (ints L) → L.length ≤ rc → Calls Tryz.prog 7 #[.int .i64 11, .slice a 2 c, .int .i64 0, .int .i64 2, .string ⟨#[116]⟩, .slice ra L.length rc] V (RingRes V C Z 0) := fun V a c ra rc hB hR hRR hrc => by
    have := prove_walk 11 a [k0, k1] c 0 2 [116] ra L rc V hB safe11 hR (by simp) hRR (by rw [hA.l]; decide) hrc (by decide)
    rwa [hA.p2] at this
  have k3' : ∀ V a c ca cd za zd, Bases V → Rd V a (ints [k0, k1]) → Rd V ca (ints C) → Rd V za (ints Z) → Calls Tryz.prog 8 #[.int .i64 11, .slice a 2 c, .int .i64 0, .int .i64 2, .string ⟨#[116]⟩, .agg #[.slice ca C.length cd, .slice za Z.length zd]] V (ListRes V L 0) := fun V a c ca cd za zd hB hR hC hZ => by
    have := explain_walk 11 a [k0, k1] c 0 2 [116] ca C cd za Z zd V hB safe11 hR (by simp) hC (by rw [hA.c]; decide) hZ (by rw [hA.z]; decide) (by decide)
    rwa [hA.e] at this
  have k4' : ∀ V a c ca cd za zd, Bases V → Rd V a (ints [k0, k1]) → Rd V ca (ints C) → Rd V za (ints Z) → Calls Tryz.prog 9 #[.int .i64 11, .slice a 2 c, .string ⟨#[116]⟩, .agg #[.slice ca C.length cd, .slice za Z.length zd]] V fun e w' => e = .returned (.bool true) ∧ Below V.heap.size V w' := fun V a c ca cd za zd hB hR hC hZ => by
    have := verify_walk 11 a [k0, k1] c [116] ca C cd za Z zd V hB safe11 hR (by simp) hC (by rw [hA.c]; decide) hZ (by rw [hA.z]; decide) (by decide)
    rwa [hA.v] at this
  have k5' : ∀ V ca cd za zd ca' cd' za' zd', Rd V ca (ints C) → Rd V za (ints Z) → Rd V ca' (ints C) → Rd V za' (ints Z) → Calls Tryz.prog 10 #[.agg #[.slice ca C.length cd, .slice za Z.length zd], .agg #[.slice ca' C.length cd', .slice za' Z.length zd']] V fun e w' => e = .returned (.bool true) ∧ Below V.heap.size V w' := fun V ca cd za zd ca' cd' za' zd' h1 h2 h3 h4 => by
    have := rsame_eq ca C cd za Z zd ca' cd' za' zd' V h1 h2 h3 h4 (by rw [hA.c]; decide) (by rw [hA.z]; decide)
    exact this
  have k6' : ∀ V a c, Rd V a (strs [[97], [98], [97]]) → 3 ≤ c → Calls Tryz.prog 11 #[.slice a 3 c] V fun e w' => ∃ b d, e = .returned (.slice b 2 d) ∧ Below V.heap.size V w' := fun V a c hR hc => by
    have := once_walk a [[97], [98], [97]] c V hR (by decide) hc
    rwa [onceAba] at this
  have K1 := Lib.hid k1'
  have K2 := Lib.hid k2'
  have K3 := Lib.hid k3'
  have K4 := Lib.hid k4'
  have K5 := Lib.hid k5'
  have K6 := Lib.hid k6'
  have P2 := Lib.hid kp2
  have P3 := Lib.hid kp3
  clear k1' k2' k3' k4' k5' k6' kp2 kp3
  have tC : ((C.length : Int) == 2) = true := by rw [hA.c]; rfl
  have tL : ((L.length : Int) == 3) = true := by rw [hA.l]; rfl
  clear hA
  go_enter Tryz.func4, Tryz.ntmps4
  go_wp2_with (go_at_call 6; (with_reducible refine (P2.out _).mono ?_))
  rintro e w1 ⟨rfl, rfl⟩
  go_wp2_with (go_at_call 6; (with_reducible refine (P3.out _).mono ?_))
  rintro e w1 ⟨rfl, rfl⟩
  go_upto_region 2 with (fail)
  have hb0 := (Below.refl w.heap.size w).alloc (Nat.le_refl _) (.cells #[.int .i64 k0, .int .i64 k1] 3)
  have hRk : Rd (w.alloc (.cells #[.int .i64 k0, .int .i64 k1] 3)) (some ⟨w.heap.size, 0, none⟩) (ints [k0, k1]) := (Bx.new w 3 [.int .i64 k0, .int .i64 k1]).rdd
  generalize w.alloc (.cells #[.int .i64 k0, .int .i64 k1] 3) = w0 at *
  have hb1 := hb0.alloc hb0.size (.cells #[.int .i64 4, .int .i64 5, .int .i64 6] 3)
  have hRr : Rd (w0.alloc (.cells #[.int .i64 4, .int .i64 5, .int .i64 6] 3)) (some ⟨w0.heap.size, 0, none⟩) (ints [4, 5, 6]) := (Bx.new w0 3 [.int .i64 4, .int .i64 5, .int .i64 6]).rdd
  have hRk1 := hRk.keep ((Below.refl w0.heap.size w0).alloc (Nat.le_refl _) (.cells #[.int .i64 4, .int .i64 5, .int .i64 6] 3))
  have hB1 := hB.keep hb1
  clear hb0 hRk
  go_wp2_with (go_at_call 7; (with_reducible refine (K1.out _ _ _ _ _ hB1 hRk1 hRr (by decide)).mono ?_))
  rintro e w1 ⟨ca, cd, za, zd, rfl, r1, r2, -, -, hb2⟩
  replace hb1 := hb1.trans (hb2.mono hb1.size)
  replace hRk := hRk1.keep hb2
  clear hRk1 hRr hB1 hb2
  go_upto_region 3 with (fail)
  have hb2 := hb1.alloc hb1.size (.cells #[.slice ca C.length cd, .slice za Z.length zd] 24)
  have hbx := (Below.refl w1.heap.size w1).alloc (Nat.le_refl _) (.cells #[.slice ca C.length cd, .slice za Z.length zd] 24)
  have hG : Bx (w1.alloc (.cells #[.slice ca C.length cd, .slice za Z.length zd] 24)) w1.heap.size 24 [.slice ca C.length cd, .slice za Z.length zd] := Bx.new w1 _ _
  replace r1 := r1.keep hbx
  replace r2 := r2.keep hbx
  replace hRk := hRk.keep hbx
  clear hb1 hbx
  generalize w1.alloc (.cells #[.slice ca C.length cd, .slice za Z.length zd] 24) = w2 at *
  generalize w1.heap.size = gr at *
  have g0 := hG.cell 0 (v := .slice ca C.length cd) rfl
  have g1 := hG.cell 1 (v := .slice za Z.length zd) rfl
  have hB1 := hB.keep hb2
  go_wp2_with (go_at_call 8; (with_reducible refine (K3.out _ _ _ _ _ _ _ hB1 hRk r1 r2).mono ?_))
  rintro e w3 ⟨la, ld, rfl, rL, hld, hb3⟩
  replace hb2 := hb2.trans (hb3.mono hb2.size)
  replace hRk := hRk.keep hb3
  replace r1 := r1.keep hb3
  replace r2 := r2.keep hb3
  replace hG := hG.keep hb3
  clear hb3 hB1 g0 g1
  have hB1 := hB.keep hb2
  go_wp2_with (go_at_call 7; (with_reducible refine (K2.out _ _ _ _ _ hB1 hRk rL hld).mono ?_))
  rintro e w4 ⟨ca', cd', za', zd', rfl, s1, s2, -, -, hb3⟩
  replace hb2 := hb2.trans (hb3.mono hb2.size)
  replace hRk := hRk.keep hb3
  replace r1 := r1.keep hb3
  replace r2 := r2.keep hb3
  replace hG := hG.keep hb3
  clear hb3 hB1
  go_upto_region 5 with (fail)
  have hbx := (Below.refl w4.heap.size w4).alloc (Nat.le_refl _) (.cells #[.slice ca' C.length cd', .slice za' Z.length zd'] 24)
  have hH : Bx (w4.alloc (.cells #[.slice ca' C.length cd', .slice za' Z.length zd'] 24)) w4.heap.size 24 [.slice ca' C.length cd', .slice za' Z.length zd'] := Bx.new w4 _ _
  replace r1 := r1.keep hbx
  replace r2 := r2.keep hbx
  replace s1 := s1.keep hbx
  replace s2 := s2.keep hbx
  replace hRk := hRk.keep hbx
  replace hG := hG.keep hbx
  replace hb2 := hb2.trans (hbx.mono hb2.size)
  clear hbx
  generalize w4.alloc (.cells #[.slice ca' C.length cd', .slice za' Z.length zd'] 24) = w5 at *
  generalize w4.heap.size = gh at *
  have g0 := hG.cell 0 (v := .slice ca C.length cd) rfl
  have g1 := hG.cell 1 (v := .slice za Z.length zd) rfl
  have hB1 := hB.keep hb2
  go_wp2_with (go_at_call 9; (with_reducible refine (K4.out _ _ _ _ _ _ _ hB1 hRk r1 r2).mono ?_))
  rintro e w6 ⟨rfl, hb3⟩
  replace hb2 := hb2.trans (hb3.mono hb2.size)
  replace r1 := r1.keep hb3
  replace r2 := r2.keep hb3
  replace s1 := s1.keep hb3
  replace s2 := s2.keep hb3
  replace hG := hG.keep hb3
  replace hH := hH.keep hb3
  clear hb3 hB1 g0 g1 hRk
  have g0 := hG.cell 0 (v := .slice ca C.length cd) rfl
  have g1 := hG.cell 1 (v := .slice za Z.length zd) rfl
  have h0 := hH.cell 0 (v := .slice ca' C.length cd') rfl
  have h1 := hH.cell 1 (v := .slice za' Z.length zd') rfl
  go_wp2_with (go_at_call 10; (with_reducible refine (K5.out _ _ _ _ _ _ _ _ _ s1 s2 r1 r2).mono ?_))
  rintro e w7 ⟨rfl, hb3⟩
  replace hb2 := hb2.trans (hb3.mono hb2.size)
  replace hG := hG.keep hb3
  clear hb3 g0 g1 h0 h1 hH
  have g0 := hG.cell 0 (v := .slice ca C.length cd) rfl
  have g1 := hG.cell 1 (v := .slice za Z.length zd) rfl
  have hX : Rd (w7.alloc (.cells #[.string ⟨#[97]⟩, .string ⟨#[98]⟩, .string ⟨#[97]⟩] 9)) (some ⟨w7.heap.size, 0, none⟩) (strs [[97], [98], [97]]) := (Bx.new w7 9 [.string ⟨#[97]⟩, .string ⟨#[98]⟩, .string ⟨#[97]⟩]).rdd
  have hb4 := hb2.alloc hb2.size (.cells #[.string ⟨#[97]⟩, .string ⟨#[98]⟩, .string ⟨#[97]⟩] 9)
  go_wp2_with (go_at_call 11; (with_reducible refine (K6.out _ _ _ hX (by decide)).mono ?_))
  rintro e w8 ⟨oa, od, rfl, hb5⟩
  have HB := Lib.hid (hb4.trans (hb5.mono hb4.size))
  clear hb2 hb4 hb5 g0 g1 hG hX
  go_wp2
  go_ret
  exact ⟨rfl, HB.out⟩
end Go.Proofs.YtbjpmkoiabkcbaaGreatDoor
/- The walk of the law RateRaw. -/
namespace Go.Proofs.YtbjpmkoiabkcbaaGreatDoor
open Go.RowKit
set_option maxRecDepth 100000 in
set_option maxHeartbeats 2000000 in
theorem rraw_walk (W : World) (hB : Bases W) (p : Option Addr) (l : List Int) (cap : Nat) (hR : Rd W p (ints l)) (hl : l.length ≤ 17592186043904) (ca : Option Addr) (C : List Int) (cc : Nat) (za : Option Addr) (Z : List Int) (zc : Nat)
    (hRC : Rd W ca (ints C)) (hRZ : Rd W za (ints Z)) (hcc : C.length ≤ cc) (hzc : Z.length ≤ zc) (n0 n1 n2 : Int) (_h0 : I64 n0) (_h1 : I64 n1) (_h2 : I64 n2) :
    Calls Tryz.prog 3 #[.slice p l.length cap, .agg #[.slice ca C.length cc, .slice za Z.length zc], .agg #[.int .i64 n0, .int .i64 n1, .int .i64 n2]] W fun e w' => e = .returned (.bool true) ∧ Below W.heap.size W w' := by
  obtain ⟨gb, hgb⟩ : ∃ g, g = W.heap.size := ⟨_, rfl⟩
  obtain ⟨w0, hw0⟩ : ∃ w0, w0 = (W.alloc (.cells #[.slice ca C.length cc, .slice za Z.length zc] 24)).alloc (.cells #[.int .i64 n0, .int .i64 n1, .int .i64 n2] 25) := ⟨_, rfl⟩
  have hb0 : Below W.heap.size W w0 := by rw [hw0]; exact ((Below.refl W.heap.size W).alloc (Nat.le_refl _) _).alloc (by simp) _
  have hG : Bx w0 gb 24 [.slice ca C.length cc, .slice za Z.length zc] := by rw [hw0, hgb]; exact (Bx.new W 24 [.slice ca C.length cc, .slice za Z.length zc]).alloc _
  have hA : Bx w0 (gb + 1) 25 [.int .i64 n0, .int .i64 n1, .int .i64 n2] := by
    rw [hw0, hgb]
    have := Bx.new (W.alloc (.cells #[.slice ca C.length cc, .slice za Z.length zc] 24)) 25 [.int .i64 n0, .int .i64 n1, .int .i64 n2]
    simpa using this
  have hbw : W.heap.size = gb := hgb.symm
  have HGB := Lib.hid hgb
  have KA := Lib.hid (fun V hV => awake25_walk V hV)
  clear hgb
  go_enter Tryz.func3, Tryz.ntmps3
  go_upto_region 1 with (fail)
  rw [← hw0]
  clear hw0
  have c0 := hG.cell 0 (v := .slice ca C.length cc) rfl
  have c1 := hG.cell 1 (v := .slice za Z.length zc) rfl
  have hB0 := hB.keep hb0
  by_cases q1 : l.length ≤ 20 ∧ C.length ≤ 40 ∧ Z.length ≤ 40
  rotate_left
  · by_cases k1 : l.length ≤ 20
    · have d1 : decide ((l.length : Int) > 20) = false := decide_eq_false (by omega)
      have d1' : decide (20 < l.length) = false := decide_eq_false (by omega)
      by_cases k2 : C.length ≤ 40
      · have d2 : decide ((C.length : Int) > 40) = false := decide_eq_false (by omega)
        have d2' : decide (40 < C.length) = false := decide_eq_false (by omega)
        have d3 : decide ((Z.length : Int) > 40) = true := decide_eq_true (by omega)
        have d3' : decide (40 < Z.length) = true := decide_eq_true (by omega)
        clear q1 k1 k2
        go_wp2_with (go_at_call 4; (with_reducible refine (KA.out _ hB0).mono ?_))
        rintro e w1 ⟨rfl, hb1⟩
        go_wp2
        go_ret
        exact ⟨rfl, hbw ▸ below_tr hb0 hb1⟩
      · have d2 : decide ((C.length : Int) > 40) = true := decide_eq_true (by omega)
        have d2' : decide (40 < C.length) = true := decide_eq_true (by omega)
        clear q1 k1 k2
        go_wp2_with (go_at_call 4; (with_reducible refine (KA.out _ hB0).mono ?_))
        rintro e w1 ⟨rfl, hb1⟩
        go_wp2
        go_ret
        exact ⟨rfl, hbw ▸ below_tr hb0 hb1⟩
    · have d1 : decide ((l.length : Int) > 20) = true := decide_eq_true (by omega)
      have d1' : decide (20 < l.length) = true := decide_eq_true (by omega)
      clear q1 k1
      go_wp2_with (go_at_call 4; (with_reducible refine (KA.out _ hB0).mono ?_))
      rintro e w1 ⟨rfl, hb1⟩
      go_wp2
      go_ret
      exact ⟨rfl, hbw ▸ below_tr hb0 hb1⟩
  obtain ⟨k1, k2, k3⟩ := q1
  have d1 : decide ((l.length : Int) > 20) = false := decide_eq_false (by omega)
  have d1' : decide (20 < l.length) = false := decide_eq_false (by omega)
  have d2 : decide ((C.length : Int) > 40) = false := decide_eq_false (by omega)
  have d2' : decide (40 < C.length) = false := decide_eq_false (by omega)
  have d3 : decide ((Z.length : Int) > 40) = false := decide_eq_false (by omega)
  have d3' : decide (40 < Z.length) = false := decide_eq_false (by omega)
  have K1 := Lib.hid (fun V h0 h1 h2 h3 => agree_any n0 p l cap n1 n2 [116] ca C cc ca C cc za Z zc V h0 h1 (by omega) h2 (by omega) hcc h2 (by omega) h3 (by omega) (by decide))
  have K2 := Lib.hid (fun V h0 h1 h2 h3 => agree_any 11 p l cap n1 n2 [] za Z zc ca C cc za Z zc V h0 h1 (by omega) h3 (by omega) hzc h2 (by omega) h3 (by omega) (by decide))
  clear k1 k2 k3 hl hcc hzc
  go_wp2_with (go_at_call 4; (with_reducible refine (KA.out _ hB0).mono ?_))
  rintro e w1 ⟨rfl, hb1⟩
  replace hb0 := below_tr hb0 hb1
  have hG1 := hG.keep hb1
  have hA1 := hA.keep hb1
  clear hb1 hG hA c0 c1 KA
  have c0 := hG1.cell 0 (v := .slice ca C.length cc) rfl
  have c1 := hG1.cell 1 (v := .slice za Z.length zc) rfl
  have a0 := hA1.cell 0 (v := .int .i64 n0) rfl
  have a1 := hA1.cell 1 (v := .int .i64 n1) rfl
  have a2 := hA1.cell 2 (v := .int .i64 n2) rfl
  go_wp2_with (go_at_call 5; (with_reducible refine (K1.out _ (hB.keep hb0) (hR.keep hb0) (hRC.keep hb0) (hRZ.keep hb0)).mono ?_))
  rintro e w2 ⟨rfl, hb2⟩
  replace hb0 := below_tr hb0 hb2
  have hG2 := hG1.keep hb2
  have hA2 := hA1.keep hb2
  clear hb2 hG1 hA1 c0 c1 a0 a1 a2 K1
  have c0 := hG2.cell 0 (v := .slice ca C.length cc) rfl
  have c1 := hG2.cell 1 (v := .slice za Z.length zc) rfl
  have a1 := hA2.cell 1 (v := .int .i64 n1) rfl
  have a2 := hA2.cell 2 (v := .int .i64 n2) rfl
  go_wp2_with (go_at_call 5; (with_reducible refine (K2.out _ (hB.keep hb0) (hR.keep hb0) (hRC.keep hb0) (hRZ.keep hb0)).mono ?_))
  rintro e w3 ⟨rfl, hb3⟩
  replace hb0 := below_tr hb0 hb3
  go_wp2
  go_ret
  exact ⟨rfl, hbw ▸ hb0⟩
end Go.Proofs.YtbjpmkoiabkcbaaGreatDoor
