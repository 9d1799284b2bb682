/- Signatures: when none is made, and when one is right. -/
import Derived.Test.YtnahkfchcminpaaGreatDoorGNum
import Derived.Test.YtnahkfchcminpaaGreatDoorGPutR
import Derived.Test.YtnahkfchcminpaaGreatDoorGRPow
namespace Go.Proofs.YtnahkfchcminpaaGreatDoor
open Go.RowKit
/-- a signature is right -/
def verF (p : Nat) (pub : Int) (text : List UInt8) (R S : Int) : Bool :=
  memZ p pub && (memZ p R && (decide (0 ≤ S) && (decide (S < (p : Int)) && (gpw p 4 S == R.toNat * gpw p pub.toNat (chalF p R pub text : Int) % (2 * p + 1)))))
def verP (p pub : Int) (text : List UInt8) (R S : Int) : Bool := safeP p && verF p.toNat pub text R S
theorem memZ_bd {p : Nat} {x : Int} (h : memZ p x = true) : 1 ≤ x ∧ x < 2 * (p : Int) + 1 := by
  simp only [memZ, memH, Bool.and_eq_true, decide_eq_true_eq] at h
  omega
set_option maxRecDepth 100000 in
set_option maxHeartbeats 2000000 in
theorem hverify_walk (p pub : Int) (text : List UInt8) (R S : Int) (w : World) (hB : Bases w) (ht : text.length ≤ 1000000) :
    Calls Tryz.prog 31 #[.int .i64 p, .int .i64 pub, .string ⟨text.toArray⟩, .agg #[.int .i64 R, .int .i64 S]] w fun e w' => e = .returned (.bool (verP p pub text R S)) ∧ Below w.heap.size w w' := by
  have hb0 := (Below.refl w.heap.size w).alloc (Nat.le_refl _) (.cells #[.int .i64 R, .int .i64 S] 34)
  have hk := Bx.new w 34 [.int .i64 R, .int .i64 S]
  have hB1 := hB.keep hb0
  cases hsp : safeP p with
  | false =>
    have km := hof_no p (w.alloc (.cells #[.int .i64 R, .int .i64 S] 34)) hB1 hsp
    have KM := Lib.hid km
    have hv : verP p pub text R S = false := by rw [verP, hsp]; rfl
    have HV := Lib.hid hv
    clear hsp km hv ht
    go_enter Tryz.func31, Tryz.ntmps31
    go_wp2_with (go_at_call 56; (with_reducible refine KM.out.mono ?_))
    rintro e w1 ⟨rfl, hb1⟩
    replace hb0 := hb0.trans (hb1.mono hb0.size)
    go_wp2
    go_ret
    exact ⟨ret_bool HV.out.symm, hb0.alloc (hb0.size) _⟩
  | true =>
    obtain ⟨h3, h30, -⟩ := safeP_bd hsp
    obtain ⟨P, rfl⟩ : ∃ P : Nat, p = (P : Int) := ⟨p.toNat, by omega⟩
    have km := hof_yes P (w.alloc (.cells #[.int .i64 R, .int .i64 S] 34)) hB1 hsp
    have hv : verP (P : Int) pub text R S = verF P pub text R S := by rw [verP, hsp, Int.toNat_natCast]; rfl
    rw [hv]
    have hP3 : 3 ≤ P := by omega
    have hP30 : P ≤ 1073741824 := by omega
    have kh1 : ∀ V, Calls Tryz.prog 57 #[.agg #[.int .i64 (P : Int), .int .i64 ((2 * P + 1 : Nat) : Int)], .int .i64 pub] V fun e w' => e = .returned (.bool (memZ P pub)) ∧ Below V.heap.size V w' := fun V => hhas_walk P pub V (by omega) hP30
    have kh2 : ∀ V, Calls Tryz.prog 57 #[.agg #[.int .i64 (P : Int), .int .i64 ((2 * P + 1 : Nat) : Int)], .int .i64 R] V fun e w' => e = .returned (.bool (memZ P R)) ∧ Below V.heap.size V w' := fun V => hhas_walk P R V (by omega) hP30
    have KM := Lib.hid km
    cases hm1 : memZ P pub with
    | false =>
      have hf : verF P pub text R S = false := by rw [verF, hm1]; rfl
      have HF := Lib.hid hf
      rw [hm1] at kh1
      obtain ⟨m, hm⟩ : ∃ m : Nat, m = 2 * P + 1 := ⟨_, rfl⟩
      rw [grp] at KM
      rw [← hm] at kh1 KM
      have K1 := Lib.hid kh1
      clear kh1 kh2 hf hv km hsp hm hm1 ht
      go_enter Tryz.func31, Tryz.ntmps31
      go_wp2_with (go_at_call 56; (with_reducible refine KM.out.mono ?_))
      rintro e w1 ⟨rfl, hb1⟩
      replace hb0 := hb0.trans (hb1.mono hb0.size)
      go_wp2_with (go_at_call 57; (with_reducible refine (K1.out _).mono ?_))
      rintro e w2 ⟨rfl, hb2⟩
      replace hb0 := (hb0.alloc hb0.size _).trans (hb2.mono (by simp; have := hb0.size; omega))
      go_wp2
      go_ret
      exact ⟨ret_bool HF.out.symm, hb0⟩
    | true =>
    cases hm2 : memZ P R with
    | false =>
      have hf : verF P pub text R S = false := by rw [verF, hm1, hm2]; rfl
      have HF := Lib.hid hf
      rw [hm1] at kh1
      rw [hm2] at kh2
      obtain ⟨m, hm⟩ : ∃ m : Nat, m = 2 * P + 1 := ⟨_, rfl⟩
      rw [grp] at KM
      rw [← hm] at kh1 kh2 KM
      have K1 := Lib.hid kh1
      have K2 := Lib.hid kh2
      clear kh1 kh2 hf hv km hsp hm hm1 hm2 ht
      go_enter Tryz.func31, Tryz.ntmps31
      go_wp2_with (go_at_call 56; (with_reducible refine KM.out.mono ?_))
      rintro e w1 ⟨rfl, hb1⟩
      replace hb0 := hb0.trans (hb1.mono hb0.size)
      replace hk := (hk.keep hb1).alloc (.cells #[.int .i64 (P : Int), .int .i64 (m : Int)] 82)
      have hG := Bx.new w1 82 [.int .i64 (P : Int), .int .i64 (m : Int)]
      clear hb1
      go_wp2_with (go_at_call 57; (with_reducible refine (K1.out _).mono ?_))
      rintro e w2 ⟨rfl, hb2⟩
      replace hk := hk.keep hb2
      replace hG := hG.keep hb2
      replace hb0 := (hb0.alloc hb0.size _).trans (hb2.mono (by simp; have := hb0.size; omega))
      have d0 := hG.cell 0 rfl
      have d1 := hG.cell 1 rfl
      have c0 := hk.cell 0 rfl
      clear hb2
      go_wp2_with (go_at_call 57; (with_reducible refine (K2.out _).mono ?_))
      rintro e w3 ⟨rfl, hb3⟩
      replace hb0 := hb0.trans (hb3.mono hb0.size)
      go_wp2
      go_ret
      exact ⟨ret_bool HF.out.symm, hb0⟩
    | true =>
    obtain ⟨u1, u2⟩ := memZ_bd hm1
    obtain ⟨r1, r2⟩ := memZ_bd hm2
    obtain ⟨U, rfl⟩ : ∃ U : Nat, pub = (U : Int) := ⟨pub.toNat, by omega⟩
    obtain ⟨Rn, rfl⟩ : ∃ Rn : Nat, R = (Rn : Int) := ⟨R.toNat, by omega⟩
    have hf : verF P (U : Int) text (Rn : Int) S = (decide (0 ≤ S) && (decide (S < (P : Int)) && (gpw P 4 S == Rn * gpw P U (chalF P (Rn : Int) (U : Int) text : Int) % (2 * P + 1)))) := by rw [verF, hm1, hm2, Int.toNat_natCast, Int.toNat_natCast]; rfl
    rw [hm1] at kh1
    rw [hm2] at kh2
    have k4 : ∀ V, Calls Tryz.prog 58 #[.agg #[.int .i64 (P : Int), .int .i64 ((2 * P + 1 : Nat) : Int)], .int .i64 4, .int .i64 S] V fun r w' => r = .returned (.int .i64 ((gpw P 4 S : Nat) : Int)) ∧ Below V.heap.size V w' := fun V => hgpow_walk P 4 S V (by omega) hP30 (by omega)
    have k5 : ∀ V, Calls Tryz.prog 60 #[.int .i64 (P : Int), .int .i64 (Rn : Int), .int .i64 (U : Int), .string ⟨text.toArray⟩] V fun e w' => e = .returned (.int .i64 (chalF P (Rn : Int) (U : Int) text : Int)) ∧ Below V.heap.size V w' := fun V => hchal_walk P _ _ text V hP3 hP30 ⟨by omega, by omega⟩ ⟨by omega, by omega⟩ ht
    have k6 : ∀ V, Calls Tryz.prog 58 #[.agg #[.int .i64 (P : Int), .int .i64 ((2 * P + 1 : Nat) : Int)], .int .i64 (U : Int), .int .i64 (chalF P (Rn : Int) (U : Int) text : Int)] V fun r w' => r = .returned (.int .i64 ((gpw P U (chalF P (Rn : Int) (U : Int) text : Int) : Nat) : Int)) ∧ Below V.heap.size V w' := fun V => hgpow_walk P U _ V (by omega) hP30 (by omega)
    have k7 : ∀ V, Calls Tryz.prog 59 #[.int .i64 ((2 * P + 1 : Nat) : Int), .int .i64 (Rn : Int), .int .i64 ((gpw P U (chalF P (Rn : Int) (U : Int) text : Int) : Nat) : Int)] V fun r w' => r = .returned (.int .i64 ((Rn * gpw P U (chalF P (Rn : Int) (U : Int) text : Int) % (2 * P + 1) : Nat) : Int)) ∧ V = w' := fun V => htimes_walk (2 * P + 1) Rn _ V (by omega) (by omega) (by omega) (gpw_lt _ _ _)
    generalize chalF P (Rn : Int) (U : Int) text = c at *
    generalize gpw P U (c : Int) = x at *
    generalize gpw P 4 S = y at *
    obtain ⟨m, hm⟩ : ∃ m : Nat, m = 2 * P + 1 := ⟨_, rfl⟩
    rw [grp] at KM
    rw [← hm] at kh1 kh2 KM k4 k6 k7 hf
    generalize Rn * x % m = z at *
    have hyz : ((y : Int) == (z : Int)) = (y == z) := by rw [Bool.eq_iff_iff, beq_iff_eq, beq_iff_eq]; omega
    rw [← hyz] at hf
    have HF := Lib.hid hf
    have K1 := Lib.hid kh1
    have K2 := Lib.hid kh2
    have K4 := Lib.hid k4
    have K5 := Lib.hid k5
    have K6 := Lib.hid k6
    have K7 := Lib.hid k7
    clear kh1 kh2 k4 k5 k6 k7 hf hv km hsp hm hm1 hm2 ht u1 u2 r1 r2 hyz
    rcases Int.lt_or_le S 0 with s0 | s0
    rotate_left
    rcases Int.lt_or_le S (P : Int) with s1 | s1
    all_goals
      go_enter Tryz.func31, Tryz.ntmps31
      go_wp2_with (go_at_call 56; (with_reducible refine KM.out.mono ?_))
      rintro e w1 ⟨rfl, hb1⟩
      replace hb0 := hb0.trans (hb1.mono hb0.size)
      replace hk := (hk.keep hb1).alloc (.cells #[.int .i64 (P : Int), .int .i64 (m : Int)] 82)
      have hG := Bx.new w1 82 [.int .i64 (P : Int), .int .i64 (m : Int)]
      clear hb1
      go_wp2_with (go_at_call 57; (with_reducible refine (K1.out _).mono ?_))
      rintro e w2 ⟨rfl, hb2⟩
      replace hk := hk.keep hb2
      replace hG := hG.keep hb2
      replace hb0 := (hb0.alloc hb0.size _).trans (hb2.mono (by simp; have := hb0.size; omega))
      have d0 := hG.cell 0 rfl
      have d1 := hG.cell 1 rfl
      have c0 := hk.cell 0 rfl
      clear hb2
      go_wp2_with (go_at_call 57; (with_reducible refine (K2.out _).mono ?_))
      rintro e w3 ⟨rfl, hb3⟩
      replace hb0 := hb0.trans (hb3.mono hb0.size)
      replace hk := hk.keep hb3
      replace hG := hG.keep hb3
      clear hb3 d0 d1 c0
      have d0 := hG.cell 0 rfl
      have d1 := hG.cell 1 rfl
      have c0 := hk.cell 0 rfl
      have c1 := hk.cell 1 rfl
      go_wp2
    rotate_left
    · go_ret
      exact ⟨ret_bool (by rw [HF.out, decide_eq_false (show ¬ S < (P : Int) by omega), Bool.false_and, Bool.and_false]), hb0⟩
    · go_ret
      exact ⟨ret_bool (by rw [HF.out, decide_eq_false (by omega)]; rfl), hb0⟩
    · have d0' := fun d os => cell_regrown d0 d os
      have d1' := fun d os => cell_regrown d1 d os
      have c0' := fun d os => cell_regrown c0 d os
      have c1' := fun d os => cell_regrown c1 d os
      refine wp_region_quiet_below (by kernel_rfl) (by kernel_rfl) ?_
      repeat (go_big_quiet_step (first
        | (go_at_call 58; with_reducible exact Calls.regrown_of (K4.out _))
        | (go_at_call 58; with_reducible exact Calls.regrown_of (K6.out _))
        | (go_at_call 60; with_reducible exact Calls.regrown_of (K5.out _))
        | (go_at_call 59; with_reducible exact Calls.regrown_of (Calls.calm (K7.out _)))))
      refine wpQuiet_nil ?_
      rintro w9 ⟨p1, rfl⟩
      have hb9 := below_regrown w3 p1.d p1.os
      go_wp2
      go_ret
      exact ⟨ret_bool (by rw [HF.out, decide_eq_true s0, decide_eq_true s1]; rfl), hb0.trans (hb9.mono hb0.size)⟩
end Go.Proofs.YtnahkfchcminpaaGreatDoor
/- When a signature is right, as the reference finds it. -/
namespace Go.Proofs.YtnahkfchcminpaaGreatDoor
open Go.RowKit
set_option maxRecDepth 100000 in
theorem rMember_no (p x : Int) (w : World) (hs : rsafe p = false) :
    Calls Tryz.prog 66 #[.int .i64 p, .int .i64 x] w fun e w' => e = .returned (.bool false) ∧ w = w' := by
  have KM := Lib.hid (rmod_walk p w)
  rw [hs, if_neg (by decide)] at KM
  clear hs
  go_enter Tryz.func66, Tryz.ntmps66
  go_wp2_with (go_at_call 24; (with_reducible refine KM.out.mono ?_))
  rintro e w1 ⟨rfl, rfl⟩
  go_wp2
  go_ret
  exact ⟨rfl, rfl⟩
set_option maxRecDepth 100000 in
set_option maxHeartbeats 2000000 in
theorem rverify_walk (p pub : Int) (text : List UInt8) (R S : Int) (w : World) (hse : rsafe p = safeP p) (ht : text.length ≤ 1000000) :
    Calls Tryz.prog 67 #[.int .i64 p, .int .i64 pub, .string ⟨text.toArray⟩, .agg #[.int .i64 R, .int .i64 S]] w fun e w' => e = .returned (.bool (verP p pub text R S)) ∧ Below w.heap.size w w' := by
  have hb0 := (Below.refl w.heap.size w).alloc (Nat.le_refl _) (.cells #[.int .i64 R, .int .i64 S] 34)
  have hk := Bx.new w 34 [.int .i64 R, .int .i64 S]
  cases hsp : rsafe p with
  | false =>
    have HV := Lib.hid (show verP p pub text R S = false by rw [verP, ← hse, hsp]; rfl)
    have KM := Lib.hid (fun V => rMember_no p pub V hsp)
    clear hsp ht hse
    go_enter Tryz.func67, Tryz.ntmps67
    go_wp2_with (go_at_call 66; (with_reducible refine (KM.out _).mono ?_))
    rintro e w1 ⟨rfl, rfl⟩
    go_wp2
    go_ret
    exact ⟨ret_bool HV.out.symm, hb0⟩
  | true =>
    obtain ⟨h3, h30, -⟩ := rsafe_bd hsp
    obtain ⟨P, rfl⟩ : ∃ P : Nat, p = (P : Int) := ⟨p.toNat, by omega⟩
    have hv : verP (P : Int) pub text R S = verF P pub text R S := by rw [verP, ← hse, hsp, Int.toNat_natCast]; rfl
    rw [hv]
    have hP3 : 3 ≤ P := by omega
    have hP30 : P ≤ 1073741824 := by omega
    have kh1 := fun V => rMember_walk P pub V hsp
    have kh2 := fun V => rMember_walk P R V hsp
    cases hm1 : memZ P pub with
    | false =>
      have HF := Lib.hid (show verF P pub text R S = false by rw [verF, hm1]; rfl)
      rw [hm1] at kh1
      have K1 := Lib.hid kh1
      clear kh1 kh2 hv hsp hm1 ht hse
      go_enter Tryz.func67, Tryz.ntmps67
      go_wp2_with (go_at_call 66; (with_reducible refine (K1.out _).mono ?_))
      rintro e w1 ⟨rfl, rfl⟩
      go_wp2
      go_ret
      exact ⟨ret_bool HF.out.symm, hb0⟩
    | true =>
    cases hm2 : memZ P R with
    | false =>
      have HF := Lib.hid (show verF P pub text R S = false by rw [verF, hm1, hm2]; rfl)
      rw [hm1] at kh1
      rw [hm2] at kh2
      have K1 := Lib.hid kh1
      have K2 := Lib.hid kh2
      have c0 := hk.cell 0 (v := .int .i64 R) rfl
      clear kh1 kh2 hv hsp hm1 hm2 ht hse
      go_enter Tryz.func67, Tryz.ntmps67
      go_wp2_with (go_at_call 66; (with_reducible refine (K1.out _).mono ?_))
      rintro e w1 ⟨rfl, rfl⟩
      go_wp2_with (go_at_call 66; (with_reducible refine (K2.out _).mono ?_))
      rintro e w2 ⟨rfl, rfl⟩
      go_wp2
      go_ret
      exact ⟨ret_bool HF.out.symm, hb0⟩
    | true =>
    obtain ⟨u1, u2⟩ := memZ_bd hm1
    obtain ⟨r1, r2⟩ := memZ_bd hm2
    obtain ⟨U, rfl⟩ : ∃ U : Nat, pub = (U : Int) := ⟨pub.toNat, by omega⟩
    obtain ⟨Rn, rfl⟩ : ∃ Rn : Nat, R = (Rn : Int) := ⟨R.toNat, by omega⟩
    have hf : verF P (U : Int) text (Rn : Int) S = (decide (0 ≤ S) && (decide (S < (P : Int)) && (gpw P 4 S == Rn * gpw P U (chalF P (Rn : Int) (U : Int) text : Int) % (2 * P + 1)))) := by rw [verF, hm1, hm2, Int.toNat_natCast, Int.toNat_natCast]; rfl
    rw [hm1] at kh1
    rw [hm2] at kh2
    have k4 : ∀ V, Calls Tryz.prog 13 #[.int .i64 (P : Int), .int .i64 S] V fun r w' => r = .returned (.int .i64 ((gpw P 4 S : Nat) : Int)) ∧ V = w' := fun V => rPublic_walk P S V hP3 hP30
    have k5 : ∀ V, Calls Tryz.prog 25 #[.int .i64 (P : Int), .int .i64 (Rn : Int), .int .i64 (U : Int), .string ⟨text.toArray⟩] V fun e w' => e = .returned (.int .i64 (chalF P (Rn : Int) (U : Int) text : Int)) ∧ Below V.heap.size V w' := fun V => rchal_walk P _ _ text V hP3 hP30 ⟨by omega, by omega⟩ ⟨by omega, by omega⟩ ht
    have k6 : ∀ V, Calls Tryz.prog 36 #[.int .i64 (P : Int), .int .i64 (U : Int), .int .i64 (chalF P (Rn : Int) (U : Int) text : Int)] V fun r w' => r = .returned (.int .i64 ((gpw P U (chalF P (Rn : Int) (U : Int) text : Int) : Nat) : Int)) ∧ V = w' := fun V => rPower_walk P U _ V (by omega) hP30 (by omega)
    have k7 : ∀ V, Calls Tryz.prog 85 #[.int .i64 (P : Int), .int .i64 (Rn : Int), .int .i64 ((gpw P U (chalF P (Rn : Int) (U : Int) text : Int) : Nat) : Int)] V fun r w' => r = .returned (.int .i64 ((Rn * gpw P U (chalF P (Rn : Int) (U : Int) text : Int) % (2 * P + 1) : Nat) : Int)) ∧ V = w' := fun V => rTimes_walk P Rn _ V (by omega) hP30 (by omega) (gpw_lt _ _ _)
    generalize chalF P (Rn : Int) (U : Int) text = c at *
    generalize gpw P U (c : Int) = x at *
    generalize gpw P 4 S = y at *
    generalize Rn * x % (2 * P + 1) = z at *
    have hyz : ((y : Int) == (z : Int)) = (y == z) := by rw [Bool.eq_iff_iff, beq_iff_eq, beq_iff_eq]; omega
    rw [← hyz] at hf
    have HF := Lib.hid hf
    have K1 := Lib.hid kh1
    have K2 := Lib.hid kh2
    have K4 := Lib.hid k4
    have K5 := Lib.hid k5
    have K6 := Lib.hid k6
    have K7 := Lib.hid k7
    have c0 := hk.cell 0 (v := .int .i64 (Rn : Int)) rfl
    have c1 := hk.cell 1 (v := .int .i64 S) rfl
    clear kh1 kh2 k4 k5 k6 k7 hf hv hsp hm1 hm2 ht u1 u2 r1 r2 hyz hse
    rcases Int.lt_or_le S 0 with s0 | s0
    rotate_left
    rcases Int.lt_or_le S (P : Int) with s1 | s1
    all_goals
      go_enter Tryz.func67, Tryz.ntmps67
      go_wp2_with (go_at_call 66; (with_reducible refine (K1.out _).mono ?_))
      rintro e w1 ⟨rfl, rfl⟩
      go_wp2_with (go_at_call 66; (with_reducible refine (K2.out _).mono ?_))
      rintro e w2 ⟨rfl, rfl⟩
      go_wp2
    rotate_left
    · go_ret
      exact ⟨ret_bool (by rw [HF.out, decide_eq_false (show ¬ S < (P : Int) by omega), Bool.false_and, Bool.and_false]), hb0⟩
    · go_ret
      exact ⟨ret_bool (by rw [HF.out, decide_eq_false (by omega)]; rfl), hb0⟩
    · have c0' := fun d os => cell_regrown c0 d os
      have c1' := fun d os => cell_regrown c1 d os
      obtain ⟨w1, hw1⟩ : ∃ w1, w1 = w.alloc (.cells #[.int .i64 (Rn : Int), .int .i64 S] 34) := ⟨_, rfl⟩
      refine wp_region_quiet_below (by kernel_rfl) (by kernel_rfl) ?_
      repeat (go_big_quiet_step (first
        | (go_at_call 13; with_reducible exact Calls.regrown_of (Calls.calm (K4.out _)))
        | (go_at_call 36; with_reducible exact Calls.regrown_of (Calls.calm (K6.out _)))
        | (go_at_call 25; with_reducible exact Calls.regrown_of (K5.out _))
        | (go_at_call 85; with_reducible exact Calls.regrown_of (Calls.calm (K7.out _)))))
      refine wpQuiet_nil ?_
      rintro w9 ⟨p1, rfl⟩
      rw [← hw1] at hb0 ⊢
      have hb9 := below_regrown w1 p1.d p1.os
      go_wp2
      go_ret
      exact ⟨ret_bool (by rw [HF.out, decide_eq_true s0, decide_eq_true s1]; rfl), hb0.trans (hb9.mono hb0.size)⟩
end Go.Proofs.YtnahkfchcminpaaGreatDoor
