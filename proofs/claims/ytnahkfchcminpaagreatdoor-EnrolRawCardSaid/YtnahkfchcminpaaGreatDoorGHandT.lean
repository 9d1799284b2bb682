/- The reference's groups: public numbers, challenges, signatures. -/
import Derived.Test.YtnahkfchcminpaaGreatDoorGRPow
import Derived.Test.YtnahkfchcminpaaGreatDoorGNum
import Derived.Test.YtnahkfchcminpaaGreatDoorGCodecP
import Derived.Test.YtnahkfchcminpaaGreatDoorGHandG
namespace Go.Proofs.YtnahkfchcminpaaGreatDoor
open Go.RowKit
set_option maxRecDepth 100000 in
theorem rchal_walk (p : Nat) (r pub : Int) (text : List UInt8) (w : World) (hp : 3 ≤ p) (hp2 : p ≤ 1073741824) (hr : I64 r) (hu : I64 pub) (ht : text.length ≤ 1000000) :
    Calls Tryz.prog 25 #[.int .i64 (p : Int), .int .i64 r, .int .i64 pub, .string ⟨text.toArray⟩] w fun e w' => e = .returned (.int .i64 (chalF p r pub text : Int)) ∧ Below w.heap.size w w' := by
  have l1 := putInt_ten hr
  have l2 := putInt_ten hu
  have k1 : ∀ V, Calls Tryz.prog 46 #[.string ⟨#[]⟩, .int .i64 r] V fun e w' => e = .returned (.string ⟨(putInt r).toArray⟩) ∧ Below V.heap.size V w' := fun V => rputInt_walk [] r V hr (by simp)
  have k2 : ∀ V, Calls Tryz.prog 46 #[.string ⟨(putInt r).toArray⟩, .int .i64 pub] V fun e w' => e = .returned (.string ⟨(putInt r ++ putInt pub).toArray⟩) ∧ Below V.heap.size V w' := fun V => rputInt_walk _ pub V hu (by omega)
  have k3 : ∀ V, Calls Tryz.prog 53 #[.int .i64 (p : Int), .string ⟨(putInt r ++ putInt pub ++ text).toArray⟩] V fun e w' => e = .returned (.int .i64 (chalF p r pub text : Int)) ∧ Below V.heap.size V w' := fun V => by
    rw [← (chalF_eq hp r pub text).1]
    exact relement_walk p _ V (by omega) (by omega) (by rw [List.length_append, List.length_append]; omega)
  have hl : (putInt r ++ putInt pub).length ≤ 20 := by rw [List.length_append]; omega
  generalize chalF p r pub text = c at *
  generalize putInt r ++ putInt pub = s2 at *
  generalize putInt r = s1 at *
  have K1 := Lib.hid k1
  have K2 := Lib.hid k2
  have K3 := Lib.hid k3
  have hlim : ¬ (9223372036854775807 < s2.length + text.length) := by omega
  clear k1 k2 k3 l1 l2 hl ht
  go_enter Tryz.func25, Tryz.ntmps25
  go_wp2_with (first
    | (go_at_call 46; ((with_reducible refine (K1.out _).mono ?_)); rintro e w1 ⟨rfl, hb1⟩)
    | (go_at_call 46; ((with_reducible refine (K2.out _).mono ?_)); rintro e w2 ⟨rfl, hb2⟩)
    | (go_at_call 53; ((with_reducible refine (K3.out _).mono ?_)); rintro e w3 ⟨rfl, hb3⟩))
  go_ret
  exact ⟨rfl, below_tr (below_tr hb1 hb2) hb3⟩
set_option maxRecDepth 100000 in
set_option maxHeartbeats 1000000 in
theorem rsign_yes (p key nonce : Nat) (text : List UInt8) (w : World) (hs : rsafe (p : Int) = true) (hk : 1 ≤ key) (hkp : key < p) (hn : 1 ≤ nonce) (hnp : nonce < p) (ht : text.length ≤ 1000000) :
    Calls Tryz.prog 10 #[.int .i64 (p : Int), .int .i64 (key : Int), .int .i64 (nonce : Int), .string ⟨text.toArray⟩] w fun e w' => e = .returned (.tuple #[.agg #[.int .i64 (signR p nonce : Int), .int .i64 (signS p key nonce text : Int)], .int .i64 0]) ∧ Below w.heap.size w w' := by
  obtain ⟨h3, h30, -⟩ := rsafe_bd hs
  have hp3 : 3 ≤ p := by omega
  have hp30 : p ≤ 1073741824 := by omega
  have km : ∀ V, Calls Tryz.prog 24 #[.int .i64 (p : Int)] V fun e w' => e = .returned (.tuple #[.int .i64 (2 * (p : Int) + 1), .bool true]) ∧ V = w' := fun V => by
    have := rmod_walk (p : Int) V
    rw [hs] at this
    exact this
  have k1 : ∀ V, Calls Tryz.prog 13 #[.int .i64 (p : Int), .int .i64 (nonce : Int)] V fun e w' => e = .returned (.int .i64 (signR p nonce : Int)) ∧ V = w' := fun V => rPublic_walk p nonce V hp3 hp30
  have k2 : ∀ V, Calls Tryz.prog 13 #[.int .i64 (p : Int), .int .i64 (key : Int)] V fun e w' => e = .returned (.int .i64 (gpw p 4 (key : Int) : Int)) ∧ V = w' := fun V => rPublic_walk p key V hp3 hp30
  have b1 : signR p nonce < 2 * p + 1 := gpw_lt _ _ _
  have b2 : gpw p 4 (key : Int) < 2 * p + 1 := gpw_lt _ _ _
  have k3 : ∀ V, Calls Tryz.prog 25 #[.int .i64 (p : Int), .int .i64 (signR p nonce : Int), .int .i64 (gpw p 4 (key : Int) : Int), .string ⟨text.toArray⟩] V fun e w' => e = .returned (.int .i64 (chalF p (signR p nonce : Int) (gpw p 4 (key : Int) : Int) text : Int)) ∧ Below V.heap.size V w' := fun V => rchal_walk p _ _ text V hp3 hp30 ⟨by omega, by omega⟩ ⟨by omega, by omega⟩ ht
  have hc := (chalF_eq hp3 (signR p nonce : Int) (gpw p 4 (key : Int) : Int) text).2
  have hS : (signS p key nonce text : Int) = ((nonce : Int) + (key : Int) * (chalF p (signR p nonce : Int) (gpw p 4 (key : Int) : Int) text : Int)) % (p : Int) := by
    rw [signS, Nat.add_mod_mod, Int.natCast_emod, Int.natCast_add, Int.natCast_mul]
  generalize chalF p (signR p nonce : Int) (gpw p 4 (key : Int) : Int) text = c at *
  generalize gpw p 4 (key : Int) = pub at *
  generalize signR p nonce = R at *
  generalize signS p key nonce text = S at *
  obtain ⟨q1, q2⟩ := prod_bd (p := (p : Int)) (a := (key : Int)) (b := (c : Int)) (by omega) (by omega) (by omega) (by omega) (by omega)
  obtain ⟨C, hC⟩ : ∃ C : Int, C = (c : Int) := ⟨_, rfl⟩
  obtain ⟨N, hN⟩ : ∃ N : Int, N = (nonce : Int) := ⟨_, rfl⟩
  obtain ⟨Ky, hKy⟩ : ∃ Ky : Int, Ky = (key : Int) := ⟨_, rfl⟩
  obtain ⟨Pi, hPi⟩ : ∃ Pi : Int, Pi = (p : Int) := ⟨_, rfl⟩
  rw [← hC] at q1 q2 hS k3
  rw [← hN] at hS k1 ⊢
  rw [← hKy] at hS q1 q2 k2 ⊢
  rw [← hPi] at hS km k1 k2 k3 ⊢
  have z1 : 1 ≤ Ky := by omega
  have z2 : Ky < Pi := by omega
  have z3 : 1 ≤ N := by omega
  have z4 : N < Pi := by omega
  have z5 : Pi ≤ 1073741824 := by omega
  have z6 : 3 ≤ Pi := by omega
  have KM := Lib.hid km
  have K1 := Lib.hid k1
  have K2 := Lib.hid k2
  have K3 := Lib.hid k3
  have HS := Lib.hid hS
  have hb0 := (Below.refl w.heap.size w).alloc (Nat.le_refl _) (.cells #[.int .i64 0, .int .i64 0] 34)
  have hk := Bx.new w 34 [.int .i64 0, .int .i64 0]
  clear km k1 k2 k3 hS b1 b2 hc hs ht hC hN hKy hPi hkp hn hnp h3 h30 hp3 hp30
  go_enter Tryz.func10, Tryz.ntmps10
  go_wp2_with (go_at_call 24; (with_reducible refine (KM.out _).mono ?_))
  rintro e w1 ⟨rfl, rfl⟩
  go_wp2_with (go_at_call 13; (with_reducible refine (K1.out _).mono ?_))
  rintro e w1 ⟨rfl, rfl⟩
  go_wp2_with (go_at_call 13; (with_reducible refine (K2.out _).mono ?_))
  rintro e w2 ⟨rfl, rfl⟩
  go_wp2_with (go_at_call 25; (with_reducible refine (K3.out _).mono ?_))
  rintro e w3 ⟨rfl, hb1⟩
  replace hk := hk.keep hb1
  replace hb0 := hb0.trans (hb1.mono hb0.size)
  clear hb1
  obtain ⟨g, hg⟩ : ∃ g, g = w.heap.size := ⟨_, rfl⟩
  have hwg : w.heap.size ≤ g := by omega
  rw [← hg] at hk ⊢
  clear hg
  have c0 := hk.cell 0 rfl
  have c1 := hk.cell 1 rfl
  have f0 := hk.free 0
  have f1 := hk.free 1
  go_wp2
  exact bodyPost_ret (Bx.sig (t := 8) (u := 9) rfl _ rfl ((hk.set 0 (.int .i64 (R : Int))).set 1 (.int .i64 ((N + Ky * C) % Pi)))) rfl ⟨by rw [HS.out]; rfl, below2 hb0 hwg _ _⟩
set_option maxRecDepth 100000 in
set_option maxHeartbeats 1000000 in
theorem rsign_no (p key nonce : Int) (text : List UInt8) (w : World) (hs : rsafe p = false ∨ key < 1 ∨ p ≤ key ∨ nonce < 1 ∨ p ≤ nonce) :
    Calls Tryz.prog 10 #[.int .i64 p, .int .i64 key, .int .i64 nonce, .string ⟨text.toArray⟩] w fun e w' => e = .returned (.tuple #[.agg #[.int .i64 0, .int .i64 0], .int .i64 2]) ∧ Below w.heap.size w w' := by
  have hb0 := (Below.refl w.heap.size w).alloc (Nat.le_refl _) (.cells #[.int .i64 0, .int .i64 0] 34)
  have hk := Bx.new w 34 [.int .i64 0, .int .i64 0]
  cases hsp : rsafe p with
  | false =>
    have km : ∀ V, Calls Tryz.prog 24 #[.int .i64 p] V fun e w' => e = .returned (.tuple #[.int .i64 0, .bool false]) ∧ V = w' := fun V => by
      have := rmod_walk p V
      rw [hsp] at this
      exact this
    have KM := Lib.hid km
    clear hs hsp km
    go_enter Tryz.func10, Tryz.ntmps10
    go_wp2_with (go_at_call 24; (with_reducible refine (KM.out _).mono ?_))
    rintro e w1 ⟨rfl, rfl⟩
    go_wp2
    exact bodyPost_ret (Bx.sig (t := 8) (u := 9) rfl _ rfl hk) rfl ⟨rfl, hb0⟩
  | true =>
    have km : ∀ V, Calls Tryz.prog 24 #[.int .i64 p] V fun e w' => e = .returned (.tuple #[.int .i64 (2 * p + 1), .bool true]) ∧ V = w' := fun V => by
      have := rmod_walk p V
      rw [hsp] at this
      exact this
    have KM := Lib.hid km
    have hs' : key < 1 ∨ p ≤ key ∨ nonce < 1 ∨ p ≤ nonce := by
      rcases hs with h | h
      · rw [hsp] at h; cases h
      · exact h
    clear hs hsp km
    rcases Int.lt_or_le key 1 with g1 | g1
    rotate_left
    rcases Int.lt_or_le key p with g2 | g2
    rcases Int.lt_or_le nonce 1 with g3 | g3
    rotate_left
    have g4 : p ≤ nonce := by omega
    all_goals
      clear hs'
      go_enter Tryz.func10, Tryz.ntmps10
      go_wp2_with (go_at_call 24; (with_reducible refine (KM.out _).mono ?_))
      rintro e w1 ⟨rfl, rfl⟩
      go_wp2
      exact bodyPost_ret (Bx.sig (t := 8) (u := 9) rfl _ rfl hk) rfl ⟨rfl, hb0⟩
end Go.Proofs.YtnahkfchcminpaaGreatDoor
/- When a signature is right, as the reference finds it. -/
namespace Go.Proofs.YtnahkfchcminpaaGreatDoor
open Go.RowKit
set_option maxRecDepth 100000 in
theorem rMember_no (p x : Int) (w : World) (hs : rsafe p = false) :
    Calls Tryz.prog 66 #[.int .i64 p, .int .i64 x] w fun e w' => e = .returned (.bool false) ∧ w = w' := by
  have KM := Lib.hid (rmod_walk p w)
  rw [hs, if_neg (by decide)] at KM
  clear hs
  go_enter Tryz.func66, Tryz.ntmps66
  go_wp2_with (go_at_call 24; (with_reducible refine KM.out.mono ?_))
  rintro e w1 ⟨rfl, rfl⟩
  go_wp2
  go_ret
  exact ⟨rfl, rfl⟩
set_option maxRecDepth 100000 in
set_option maxHeartbeats 2000000 in
theorem rverify_walk (p pub : Int) (text : List UInt8) (R S : Int) (w : World) (hse : rsafe p = safeP p) (ht : text.length ≤ 1000000) :
    Calls Tryz.prog 67 #[.int .i64 p, .int .i64 pub, .string ⟨text.toArray⟩, .agg #[.int .i64 R, .int .i64 S]] w fun e w' => e = .returned (.bool (verP p pub text R S)) ∧ Below w.heap.size w w' := by
  have hb0 := (Below.refl w.heap.size w).alloc (Nat.le_refl _) (.cells #[.int .i64 R, .int .i64 S] 34)
  have hk := Bx.new w 34 [.int .i64 R, .int .i64 S]
  cases hsp : rsafe p with
  | false =>
    have HV := Lib.hid (show verP p pub text R S = false by rw [verP, ← hse, hsp]; rfl)
    have KM := Lib.hid (fun V => rMember_no p pub V hsp)
    clear hsp ht hse
    go_enter Tryz.func67, Tryz.ntmps67
    go_wp2_with (go_at_call 66; (with_reducible refine (KM.out _).mono ?_))
    rintro e w1 ⟨rfl, rfl⟩
    go_wp2
    go_ret
    exact ⟨ret_bool HV.out.symm, hb0⟩
  | true =>
    obtain ⟨h3, h30, -⟩ := rsafe_bd hsp
    obtain ⟨P, rfl⟩ : ∃ P : Nat, p = (P : Int) := ⟨p.toNat, by omega⟩
    have hv : verP (P : Int) pub text R S = verF P pub text R S := by rw [verP, ← hse, hsp, Int.toNat_natCast]; rfl
    rw [hv]
    have hP3 : 3 ≤ P := by omega
    have hP30 : P ≤ 1073741824 := by omega
    have kh1 := fun V => rMember_walk P pub V hsp
    have kh2 := fun V => rMember_walk P R V hsp
    cases hm1 : memZ P pub with
    | false =>
      have HF := Lib.hid (show verF P pub text R S = false by rw [verF, hm1]; rfl)
      rw [hm1] at kh1
      have K1 := Lib.hid kh1
      clear kh1 kh2 hv hsp hm1 ht hse
      go_enter Tryz.func67, Tryz.ntmps67
      go_wp2_with (go_at_call 66; (with_reducible refine (K1.out _).mono ?_))
      rintro e w1 ⟨rfl, rfl⟩
      go_wp2
      go_ret
      exact ⟨ret_bool HF.out.symm, hb0⟩
    | true =>
    cases hm2 : memZ P R with
    | false =>
      have HF := Lib.hid (show verF P pub text R S = false by rw [verF, hm1, hm2]; rfl)
      rw [hm1] at kh1
      rw [hm2] at kh2
      have K1 := Lib.hid kh1
      have K2 := Lib.hid kh2
      have c0 := hk.cell 0 (v := .int .i64 R) rfl
      clear kh1 kh2 hv hsp hm1 hm2 ht hse
      go_enter Tryz.func67, Tryz.ntmps67
      go_wp2_with (go_at_call 66; (with_reducible refine (K1.out _).mono ?_))
      rintro e w1 ⟨rfl, rfl⟩
      go_wp2_with (go_at_call 66; (with_reducible refine (K2.out _).mono ?_))
      rintro e w2 ⟨rfl, rfl⟩
      go_wp2
      go_ret
      exact ⟨ret_bool HF.out.symm, hb0⟩
    | true =>
    obtain ⟨u1, u2⟩ := memZ_bd hm1
    obtain ⟨r1, r2⟩ := memZ_bd hm2
    obtain ⟨U, rfl⟩ : ∃ U : Nat, pub = (U : Int) := ⟨pub.toNat, by omega⟩
    obtain ⟨Rn, rfl⟩ : ∃ Rn : Nat, R = (Rn : Int) := ⟨R.toNat, by omega⟩
    have hf : verF P (U : Int) text (Rn : Int) S = (decide (0 ≤ S) && (decide (S < (P : Int)) && (gpw P 4 S == Rn * gpw P U (chalF P (Rn : Int) (U : Int) text : Int) % (2 * P + 1)))) := by rw [verF, hm1, hm2, Int.toNat_natCast, Int.toNat_natCast]; rfl
    rw [hm1] at kh1
    rw [hm2] at kh2
    have k4 : ∀ V, Calls Tryz.prog 13 #[.int .i64 (P : Int), .int .i64 S] V fun r w' => r = .returned (.int .i64 ((gpw P 4 S : Nat) : Int)) ∧ V = w' := fun V => rPublic_walk P S V hP3 hP30
    have k5 : ∀ V, Calls Tryz.prog 25 #[.int .i64 (P : Int), .int .i64 (Rn : Int), .int .i64 (U : Int), .string ⟨text.toArray⟩] V fun e w' => e = .returned (.int .i64 (chalF P (Rn : Int) (U : Int) text : Int)) ∧ Below V.heap.size V w' := fun V => rchal_walk P _ _ text V hP3 hP30 ⟨by omega, by omega⟩ ⟨by omega, by omega⟩ ht
    have k6 : ∀ V, Calls Tryz.prog 36 #[.int .i64 (P : Int), .int .i64 (U : Int), .int .i64 (chalF P (Rn : Int) (U : Int) text : Int)] V fun r w' => r = .returned (.int .i64 ((gpw P U (chalF P (Rn : Int) (U : Int) text : Int) : Nat) : Int)) ∧ V = w' := fun V => rPower_walk P U _ V (by omega) hP30 (by omega)
    have k7 : ∀ V, Calls Tryz.prog 85 #[.int .i64 (P : Int), .int .i64 (Rn : Int), .int .i64 ((gpw P U (chalF P (Rn : Int) (U : Int) text : Int) : Nat) : Int)] V fun r w' => r = .returned (.int .i64 ((Rn * gpw P U (chalF P (Rn : Int) (U : Int) text : Int) % (2 * P + 1) : Nat) : Int)) ∧ V = w' := fun V => rTimes_walk P Rn _ V (by omega) hP30 (by omega) (gpw_lt _ _ _)
    generalize chalF P (Rn : Int) (U : Int) text = c at *
    generalize gpw P U (c : Int) = x at *
    generalize gpw P 4 S = y at *
    generalize Rn * x % (2 * P + 1) = z at *
    have hyz : ((y : Int) == (z : Int)) = (y == z) := by rw [Bool.eq_iff_iff, beq_iff_eq, beq_iff_eq]; omega
    rw [← hyz] at hf
    have HF := Lib.hid hf
    have K1 := Lib.hid kh1
    have K2 := Lib.hid kh2
    have K4 := Lib.hid k4
    have K5 := Lib.hid k5
    have K6 := Lib.hid k6
    have K7 := Lib.hid k7
    have c0 := hk.cell 0 (v := .int .i64 (Rn : Int)) rfl
    have c1 := hk.cell 1 (v := .int .i64 S) rfl
    clear kh1 kh2 k4 k5 k6 k7 hf hv hsp hm1 hm2 ht u1 u2 r1 r2 hyz hse
    rcases Int.lt_or_le S 0 with s0 | s0
    rotate_left
    rcases Int.lt_or_le S (P : Int) with s1 | s1
    all_goals
      go_enter Tryz.func67, Tryz.ntmps67
      go_wp2_with (go_at_call 66; (with_reducible refine (K1.out _).mono ?_))
      rintro e w1 ⟨rfl, rfl⟩
      go_wp2_with (go_at_call 66; (with_reducible refine (K2.out _).mono ?_))
      rintro e w2 ⟨rfl, rfl⟩
      go_wp2
    rotate_left
    · go_ret
      exact ⟨ret_bool (by rw [HF.out, decide_eq_false (show ¬ S < (P : Int) by omega), Bool.false_and, Bool.and_false]), hb0⟩
    · go_ret
      exact ⟨ret_bool (by rw [HF.out, decide_eq_false (by omega)]; rfl), hb0⟩
    · have c0' := fun d os => cell_regrown c0 d os
      have c1' := fun d os => cell_regrown c1 d os
      obtain ⟨w1, hw1⟩ : ∃ w1, w1 = w.alloc (.cells #[.int .i64 (Rn : Int), .int .i64 S] 34) := ⟨_, rfl⟩
      refine wp_region_quiet_below (by kernel_rfl) (by kernel_rfl) ?_
      repeat (go_big_quiet_step (first
        | (go_at_call 13; with_reducible exact Calls.regrown_of (Calls.calm (K4.out _)))
        | (go_at_call 36; with_reducible exact Calls.regrown_of (Calls.calm (K6.out _)))
        | (go_at_call 25; with_reducible exact Calls.regrown_of (K5.out _))
        | (go_at_call 85; with_reducible exact Calls.regrown_of (Calls.calm (K7.out _)))))
      refine wpQuiet_nil ?_
      rintro w9 ⟨p1, rfl⟩
      rw [← hw1] at hb0 ⊢
      have hb9 := below_regrown w1 p1.d p1.os
      go_wp2
      go_ret
      exact ⟨ret_bool (by rw [HF.out, decide_eq_true s0, decide_eq_true s1]; rfl), hb0.trans (hb9.mono hb0.size)⟩
end Go.Proofs.YtnahkfchcminpaaGreatDoor
