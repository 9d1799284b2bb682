/- A power in the group of a safe prime, the program's, given the prime. -/
import Derived.Test.YtipoljcgfcjlnaaGreatDoorGNoDiv
import Derived.Test.YtipoljcgfcjlnaaGreatDoorGNum
namespace Go.Proofs.YtipoljcgfcjlnaaGreatDoor
open Go.RowKit
set_option maxRecDepth 100000 in
theorem hPower_walk (p x : Nat) (e : Int) (w : World) (hp : 1 ≤ p) (hp2 : p ≤ 1073741824) (hx : x < 2 * p + 1) :
    Calls Tryz.prog 54 #[.int .i64 (p : Int), .int .i64 (x : Int), .int .i64 e] w fun r w' => r = .returned (.int .i64 ((gpw p x e : Nat) : Int)) ∧ Below w.heap.size w w' := by
  have kp : ∀ V, Calls Tryz.prog 60 #[.agg #[.int .i64 (p : Int), .int .i64 (2 * (p : Int) + 1)], .int .i64 (x : Int), .int .i64 e] V fun r w' => r = .returned (.int .i64 ((gpw p x e : Nat) : Int)) ∧ Below V.heap.size V w' := fun V => by
    have := hgpow_walk p x e V hp hp2 hx
    rw [grp, show ((2 * p + 1 : Nat) : Int) = 2 * (p : Int) + 1 by omega] at this
    exact this
  generalize gpw p x e = z at *
  have KP := Lib.hid kp
  clear kp hx
  go_enter Tryz.func54, Tryz.ntmps54
  go_wp2_with (go_at_call 60; (with_reducible refine (KP.out _).mono ?_))
  rintro e' w1 ⟨rfl, hb⟩
  go_wp2
  go_ret
  exact ⟨rfl, hb⟩
end Go.Proofs.YtipoljcgfcjlnaaGreatDoor
/- Public keys of the group of a safe prime. -/
namespace Go.Proofs.YtipoljcgfcjlnaaGreatDoor
open Go.RowKit
set_option maxRecDepth 100000 in
theorem hPublic_walk (p : Nat) (e : Int) (w : World) (hp : 3 ≤ p) (hp2 : p ≤ 1073741824) :
    Calls Tryz.prog 31 #[.int .i64 (p : Int), .int .i64 e] w fun r w' => r = .returned (.int .i64 ((gpw p 4 e : Nat) : Int)) ∧ Below w.heap.size w w' := by
  have kp : ∀ V, Calls Tryz.prog 54 #[.int .i64 (p : Int), .int .i64 4, .int .i64 e] V fun r w' => r = .returned (.int .i64 ((gpw p 4 e : Nat) : Int)) ∧ Below V.heap.size V w' := fun V => hPower_walk p 4 e V (by omega) hp2 (by omega)
  generalize gpw p 4 e = z at *
  have KP := Lib.hid kp
  clear kp
  go_enter Tryz.func31, Tryz.ntmps31
  go_wp2_with (go_at_call 54; (with_reducible refine (KP.out _).mono ?_))
  rintro e' w1 ⟨rfl, hb⟩
  go_wp2
  go_ret
  exact ⟨rfl, hb⟩
end Go.Proofs.YtipoljcgfcjlnaaGreatDoor
/- Signatures: when none is made, and when one is right. -/
namespace Go.Proofs.YtipoljcgfcjlnaaGreatDoor
open Go.RowKit
/-- a signature is right -/
def verF (p : Nat) (pub : Int) (text : List UInt8) (R S : Int) : Bool :=
  memZ p pub && (memZ p R && (decide (0 ≤ S) && (decide (S < (p : Int)) && (gpw p 4 S == R.toNat * gpw p pub.toNat (chalF p R pub text : Int) % (2 * p + 1)))))
def verP (p pub : Int) (text : List UInt8) (R S : Int) : Bool := safeP p && verF p.toNat pub text R S
theorem memZ_bd {p : Nat} {x : Int} (h : memZ p x = true) : 1 ≤ x ∧ x < 2 * (p : Int) + 1 := by
  simp only [memZ, memH, Bool.and_eq_true, decide_eq_true_eq] at h
  omega
set_option maxRecDepth 100000 in
set_option maxHeartbeats 2000000 in
theorem hverify_walk (p pub : Int) (text : List UInt8) (R S : Int) (w : World) (hB : Bases w) (ht : text.length ≤ 1000000) :
    Calls Tryz.prog 34 #[.int .i64 p, .int .i64 pub, .string ⟨text.toArray⟩, .agg #[.int .i64 R, .int .i64 S]] w fun e w' => e = .returned (.bool (verP p pub text R S)) ∧ Below w.heap.size w w' := by
  have hb0 := (Below.refl w.heap.size w).alloc (Nat.le_refl _) (.cells #[.int .i64 R, .int .i64 S] 26)
  have hk := Bx.new w 26 [.int .i64 R, .int .i64 S]
  have hB1 := hB.keep hb0
  cases hsp : safeP p with
  | false =>
    have km := hof_no p (w.alloc (.cells #[.int .i64 R, .int .i64 S] 26)) hB1 hsp
    have KM := Lib.hid km
    have hv : verP p pub text R S = false := by rw [verP, hsp]; rfl
    have HV := Lib.hid hv
    clear hsp km hv ht
    go_enter Tryz.func34, Tryz.ntmps34
    go_wp2_with (go_at_call 58; (with_reducible refine KM.out.mono ?_))
    rintro e w1 ⟨rfl, hb1⟩
    replace hb0 := hb0.trans (hb1.mono hb0.size)
    go_wp2
    go_ret
    exact ⟨ret_bool HV.out.symm, hb0.alloc (hb0.size) _⟩
  | true =>
    obtain ⟨h3, h30, -⟩ := safeP_bd hsp
    obtain ⟨P, rfl⟩ : ∃ P : Nat, p = (P : Int) := ⟨p.toNat, by omega⟩
    have km := hof_yes P (w.alloc (.cells #[.int .i64 R, .int .i64 S] 26)) hB1 hsp
    have hv : verP (P : Int) pub text R S = verF P pub text R S := by rw [verP, hsp, Int.toNat_natCast]; rfl
    rw [hv]
    have hP3 : 3 ≤ P := by omega
    have hP30 : P ≤ 1073741824 := by omega
    have kh1 : ∀ V, Calls Tryz.prog 59 #[.agg #[.int .i64 (P : Int), .int .i64 ((2 * P + 1 : Nat) : Int)], .int .i64 pub] V fun e w' => e = .returned (.bool (memZ P pub)) ∧ Below V.heap.size V w' := fun V => hhas_walk P pub V (by omega) hP30
    have kh2 : ∀ V, Calls Tryz.prog 59 #[.agg #[.int .i64 (P : Int), .int .i64 ((2 * P + 1 : Nat) : Int)], .int .i64 R] V fun e w' => e = .returned (.bool (memZ P R)) ∧ Below V.heap.size V w' := fun V => hhas_walk P R V (by omega) hP30
    have KM := Lib.hid km
    cases hm1 : memZ P pub with
    | false =>
      have hf : verF P pub text R S = false := by rw [verF, hm1]; rfl
      have HF := Lib.hid hf
      rw [hm1] at kh1
      obtain ⟨m, hm⟩ : ∃ m : Nat, m = 2 * P + 1 := ⟨_, rfl⟩
      rw [grp] at KM
      rw [← hm] at kh1 KM
      have K1 := Lib.hid kh1
      clear kh1 kh2 hf hv km hsp hm hm1 ht
      go_enter Tryz.func34, Tryz.ntmps34
      go_wp2_with (go_at_call 58; (with_reducible refine KM.out.mono ?_))
      rintro e w1 ⟨rfl, hb1⟩
      replace hb0 := hb0.trans (hb1.mono hb0.size)
      go_wp2_with (go_at_call 59; (with_reducible refine (K1.out _).mono ?_))
      rintro e w2 ⟨rfl, hb2⟩
      replace hb0 := (hb0.alloc hb0.size _).trans (hb2.mono (by simp; have := hb0.size; omega))
      go_wp2
      go_ret
      exact ⟨ret_bool HF.out.symm, hb0⟩
    | true =>
    cases hm2 : memZ P R with
    | false =>
      have hf : verF P pub text R S = false := by rw [verF, hm1, hm2]; rfl
      have HF := Lib.hid hf
      rw [hm1] at kh1
      rw [hm2] at kh2
      obtain ⟨m, hm⟩ : ∃ m : Nat, m = 2 * P + 1 := ⟨_, rfl⟩
      rw [grp] at KM
      rw [← hm] at kh1 kh2 KM
      have K1 := Lib.hid kh1
      have K2 := Lib.hid kh2
      clear kh1 kh2 hf hv km hsp hm hm1 hm2 ht
      go_enter Tryz.func34, Tryz.ntmps34
      go_wp2_with (go_at_call 58; (with_reducible refine KM.out.mono ?_))
      rintro e w1 ⟨rfl, hb1⟩
      replace hb0 := hb0.trans (hb1.mono hb0.size)
      replace hk := (hk.keep hb1).alloc (.cells #[.int .i64 (P : Int), .int .i64 (m : Int)] 85)
      have hG := Bx.new w1 85 [.int .i64 (P : Int), .int .i64 (m : Int)]
      clear hb1
      go_wp2_with (go_at_call 59; (with_reducible refine (K1.out _).mono ?_))
      rintro e w2 ⟨rfl, hb2⟩
      replace hk := hk.keep hb2
      replace hG := hG.keep hb2
      replace hb0 := (hb0.alloc hb0.size _).trans (hb2.mono (by simp; have := hb0.size; omega))
      have d0 := hG.cell 0 rfl
      have d1 := hG.cell 1 rfl
      have c0 := hk.cell 0 rfl
      clear hb2
      go_wp2_with (go_at_call 59; (with_reducible refine (K2.out _).mono ?_))
      rintro e w3 ⟨rfl, hb3⟩
      replace hb0 := hb0.trans (hb3.mono hb0.size)
      go_wp2
      go_ret
      exact ⟨ret_bool HF.out.symm, hb0⟩
    | true =>
    obtain ⟨u1, u2⟩ := memZ_bd hm1
    obtain ⟨r1, r2⟩ := memZ_bd hm2
    obtain ⟨U, rfl⟩ : ∃ U : Nat, pub = (U : Int) := ⟨pub.toNat, by omega⟩
    obtain ⟨Rn, rfl⟩ : ∃ Rn : Nat, R = (Rn : Int) := ⟨R.toNat, by omega⟩
    have hf : verF P (U : Int) text (Rn : Int) S = (decide (0 ≤ S) && (decide (S < (P : Int)) && (gpw P 4 S == Rn * gpw P U (chalF P (Rn : Int) (U : Int) text : Int) % (2 * P + 1)))) := by rw [verF, hm1, hm2, Int.toNat_natCast, Int.toNat_natCast]; rfl
    rw [hm1] at kh1
    rw [hm2] at kh2
    have k4 : ∀ V, Calls Tryz.prog 60 #[.agg #[.int .i64 (P : Int), .int .i64 ((2 * P + 1 : Nat) : Int)], .int .i64 4, .int .i64 S] V fun r w' => r = .returned (.int .i64 ((gpw P 4 S : Nat) : Int)) ∧ Below V.heap.size V w' := fun V => hgpow_walk P 4 S V (by omega) hP30 (by omega)
    have k5 : ∀ V, Calls Tryz.prog 51 #[.int .i64 (P : Int), .int .i64 (Rn : Int), .int .i64 (U : Int), .string ⟨text.toArray⟩] V fun e w' => e = .returned (.int .i64 (chalF P (Rn : Int) (U : Int) text : Int)) ∧ Below V.heap.size V w' := fun V => hchal_walk P _ _ text V hP3 hP30 ⟨by omega, by omega⟩ ⟨by omega, by omega⟩ ht
    have k6 : ∀ V, Calls Tryz.prog 60 #[.agg #[.int .i64 (P : Int), .int .i64 ((2 * P + 1 : Nat) : Int)], .int .i64 (U : Int), .int .i64 (chalF P (Rn : Int) (U : Int) text : Int)] V fun r w' => r = .returned (.int .i64 ((gpw P U (chalF P (Rn : Int) (U : Int) text : Int) : Nat) : Int)) ∧ Below V.heap.size V w' := fun V => hgpow_walk P U _ V (by omega) hP30 (by omega)
    have k7 : ∀ V, Calls Tryz.prog 61 #[.int .i64 ((2 * P + 1 : Nat) : Int), .int .i64 (Rn : Int), .int .i64 ((gpw P U (chalF P (Rn : Int) (U : Int) text : Int) : Nat) : Int)] V fun r w' => r = .returned (.int .i64 ((Rn * gpw P U (chalF P (Rn : Int) (U : Int) text : Int) % (2 * P + 1) : Nat) : Int)) ∧ V = w' := fun V => htimes_walk (2 * P + 1) Rn _ V (by omega) (by omega) (by omega) (gpw_lt _ _ _)
    generalize chalF P (Rn : Int) (U : Int) text = c at *
    generalize gpw P U (c : Int) = x at *
    generalize gpw P 4 S = y at *
    obtain ⟨m, hm⟩ : ∃ m : Nat, m = 2 * P + 1 := ⟨_, rfl⟩
    rw [grp] at KM
    rw [← hm] at kh1 kh2 KM k4 k6 k7 hf
    generalize Rn * x % m = z at *
    have hyz : ((y : Int) == (z : Int)) = (y == z) := by rw [Bool.eq_iff_iff, beq_iff_eq, beq_iff_eq]; omega
    rw [← hyz] at hf
    have HF := Lib.hid hf
    have K1 := Lib.hid kh1
    have K2 := Lib.hid kh2
    have K4 := Lib.hid k4
    have K5 := Lib.hid k5
    have K6 := Lib.hid k6
    have K7 := Lib.hid k7
    clear kh1 kh2 k4 k5 k6 k7 hf hv km hsp hm hm1 hm2 ht u1 u2 r1 r2 hyz
    rcases Int.lt_or_le S 0 with s0 | s0
    rotate_left
    rcases Int.lt_or_le S (P : Int) with s1 | s1
    all_goals
      go_enter Tryz.func34, Tryz.ntmps34
      go_wp2_with (go_at_call 58; (with_reducible refine KM.out.mono ?_))
      rintro e w1 ⟨rfl, hb1⟩
      replace hb0 := hb0.trans (hb1.mono hb0.size)
      replace hk := (hk.keep hb1).alloc (.cells #[.int .i64 (P : Int), .int .i64 (m : Int)] 85)
      have hG := Bx.new w1 85 [.int .i64 (P : Int), .int .i64 (m : Int)]
      clear hb1
      go_wp2_with (go_at_call 59; (with_reducible refine (K1.out _).mono ?_))
      rintro e w2 ⟨rfl, hb2⟩
      replace hk := hk.keep hb2
      replace hG := hG.keep hb2
      replace hb0 := (hb0.alloc hb0.size _).trans (hb2.mono (by simp; have := hb0.size; omega))
      have d0 := hG.cell 0 rfl
      have d1 := hG.cell 1 rfl
      have c0 := hk.cell 0 rfl
      clear hb2
      go_wp2_with (go_at_call 59; (with_reducible refine (K2.out _).mono ?_))
      rintro e w3 ⟨rfl, hb3⟩
      replace hb0 := hb0.trans (hb3.mono hb0.size)
      replace hk := hk.keep hb3
      replace hG := hG.keep hb3
      clear hb3 d0 d1 c0
      have d0 := hG.cell 0 rfl
      have d1 := hG.cell 1 rfl
      have c0 := hk.cell 0 rfl
      have c1 := hk.cell 1 rfl
      go_wp2
    rotate_left
    · go_ret
      exact ⟨ret_bool (by rw [HF.out, decide_eq_false (show ¬ S < (P : Int) by omega), Bool.false_and, Bool.and_false]), hb0⟩
    · go_ret
      exact ⟨ret_bool (by rw [HF.out, decide_eq_false (by omega)]; rfl), hb0⟩
    · have d0' := fun d os => cell_regrown d0 d os
      have d1' := fun d os => cell_regrown d1 d os
      have c0' := fun d os => cell_regrown c0 d os
      have c1' := fun d os => cell_regrown c1 d os
      refine wp_region_quiet_below (by kernel_rfl) (by kernel_rfl) ?_
      repeat (go_big_quiet_step (first
        | (go_at_call 60; with_reducible exact Calls.regrown_of (K4.out _))
        | (go_at_call 60; with_reducible exact Calls.regrown_of (K6.out _))
        | (go_at_call 51; with_reducible exact Calls.regrown_of (K5.out _))
        | (go_at_call 61; with_reducible exact Calls.regrown_of (Calls.calm (K7.out _)))))
      refine wpQuiet_nil ?_
      rintro w9 ⟨p1, rfl⟩
      have hb9 := below_regrown w3 p1.d p1.os
      go_wp2
      go_ret
      exact ⟨ret_bool (by rw [HF.out, decide_eq_true s0, decide_eq_true s1]; rfl), hb0.trans (hb9.mono hb0.size)⟩
end Go.Proofs.YtipoljcgfcjlnaaGreatDoor
/- Signatures of the program: what is made, and when none is. -/
namespace Go.Proofs.YtipoljcgfcjlnaaGreatDoor
open Go.RowKit
theorem addm_walk (p a b : Int) (w : World) (hp : 1 ≤ p) (hp2 : p ≤ 1073741824) (hn : 0 ≤ a + b) (hn2 : a + b < 9223372036854775808) :
    Calls Tryz.prog 52 #[.int .i64 p, .int .i64 a, .int .i64 b] w fun e w' => e = .returned (.int .i64 ((a + b) % p)) ∧ w = w' := by
  go_enter Tryz.func52, Tryz.ntmps52
  go_wp2_with (go_at_call 76; (with_reducible refine (modulo_walk _ _ _ hp hp2 hn hn2).mono ?_))
  rintro e w1 ⟨rfl, rfl⟩
  go_wp2
  go_ret
  exact ⟨rfl, rfl⟩
set_option maxRecDepth 100000 in
set_option maxHeartbeats 1000000 in
theorem hsign_yes (p key nonce : Nat) (text : List UInt8) (w : World) (hB : Bases w) (hs : safeP (p : Int) = true) (hk : 1 ≤ key) (hkp : key < p) (hn : 1 ≤ nonce) (hnp : nonce < p) (ht : text.length ≤ 1000000) :
    Calls Tryz.prog 30 #[.int .i64 (p : Int), .int .i64 (key : Int), .int .i64 (nonce : Int), .string ⟨text.toArray⟩] w fun e w' => e = .returned (.tuple #[.agg #[.int .i64 (signR p nonce : Int), .int .i64 (signS p key nonce text : Int)], .int .i64 0]) ∧ Below w.heap.size w w' := by
  obtain ⟨h3, h30, -⟩ := safeP_bd hs
  have hp3 : 3 ≤ p := by omega
  have hp30 : p ≤ 1073741824 := by omega
  have km : ∀ V, Bases V → Calls Tryz.prog 50 #[.int .i64 (p : Int)] V fun e w' => e = .returned (.tuple #[.int .i64 (2 * (p : Int) + 1), .bool true]) ∧ V = w' := fun V h => hmod_yes p V h hs
  have k1 : ∀ V, Calls Tryz.prog 31 #[.int .i64 (p : Int), .int .i64 (nonce : Int)] V fun e w' => e = .returned (.int .i64 (signR p nonce : Int)) ∧ Below V.heap.size V w' := fun V => hPublic_walk p nonce V hp3 hp30
  have k2 : ∀ V, Calls Tryz.prog 31 #[.int .i64 (p : Int), .int .i64 (key : Int)] V fun e w' => e = .returned (.int .i64 (gpw p 4 (key : Int) : Int)) ∧ Below V.heap.size V w' := fun V => hPublic_walk p key V hp3 hp30
  have b1 : signR p nonce < 2 * p + 1 := gpw_lt _ _ _
  have b2 : gpw p 4 (key : Int) < 2 * p + 1 := gpw_lt _ _ _
  have k3 : ∀ V, Calls Tryz.prog 51 #[.int .i64 (p : Int), .int .i64 (signR p nonce : Int), .int .i64 (gpw p 4 (key : Int) : Int), .string ⟨text.toArray⟩] V fun e w' => e = .returned (.int .i64 (chalF p (signR p nonce : Int) (gpw p 4 (key : Int) : Int) text : Int)) ∧ Below V.heap.size V w' := fun V => hchal_walk p _ _ text V hp3 hp30 ⟨by omega, by omega⟩ ⟨by omega, by omega⟩ ht
  have hc := (chalF_eq hp3 (signR p nonce : Int) (gpw p 4 (key : Int) : Int) text).2
  have hS : signS p key nonce text = (nonce + key * chalF p (signR p nonce : Int) (gpw p 4 (key : Int) : Int) text % p) % p := rfl
  generalize chalF p (signR p nonce : Int) (gpw p 4 (key : Int) : Int) text = c at *
  generalize gpw p 4 (key : Int) = pub at *
  generalize signR p nonce = R at *
  generalize signS p key nonce text = S at *
  obtain ⟨q1, q2⟩ := prod_bd (p := (p : Int)) (a := (key : Int)) (b := (c : Int)) (by omega) (by omega) (by omega) (by omega) (by omega)
  have k4 : ∀ V, Calls Tryz.prog 53 #[.int .i64 (p : Int), .int .i64 (key : Int), .int .i64 (c : Int)] V fun e w' => e = .returned (.int .i64 ((key * c % p : Nat) : Int)) ∧ V = w' := fun V => by
    have := mul_walk (p : Int) key c V (by omega) (by omega) q1 (by omega)
    rw [← Int.natCast_mul, ← Int.natCast_emod] at this
    exact this
  have hd : key * c % p < p := Nat.mod_lt _ (by omega)
  generalize key * c % p = d at *
  have k5 : ∀ V, Calls Tryz.prog 52 #[.int .i64 (p : Int), .int .i64 (nonce : Int), .int .i64 (d : Int)] V fun e w' => e = .returned (.int .i64 (S : Int)) ∧ V = w' := fun V => by
    have := addm_walk (p : Int) nonce d V (by omega) (by omega) (by omega) (by omega)
    rw [hS, Int.natCast_emod, Int.natCast_add]
    exact this
  have KM := Lib.hid km
  have K1 := Lib.hid k1
  have K2 := Lib.hid k2
  have K3 := Lib.hid k3
  have K4 := Lib.hid k4
  have K5 := Lib.hid k5
  have hkp2 : (key : Int) < (p : Int) := by omega
  have hnp2 : (nonce : Int) < (p : Int) := by omega
  have hk2 : (1 : Int) ≤ (key : Int) := by omega
  have hn2 : (1 : Int) ≤ (nonce : Int) := by omega
  have hb0 := (Below.refl w.heap.size w).alloc (Nat.le_refl _) (.cells #[.int .i64 0, .int .i64 0] 26)
  have hk := Bx.new w 26 [.int .i64 0, .int .i64 0]
  clear km k1 k2 k3 k4 k5 hS hd q1 q2 b1 b2 hc hs ht
  go_enter Tryz.func30, Tryz.ntmps30
  go_wp2_with (go_at_call 50; (with_reducible refine (KM.out _ (hB.keep hb0)).mono ?_))
  rintro e w1 ⟨rfl, rfl⟩
  go_wp2_with (go_at_call 31; (with_reducible refine (K1.out _).mono ?_))
  rintro e w1 ⟨rfl, hb1⟩
  replace hk := hk.keep hb1
  replace hb0 := hb0.trans (hb1.mono hb0.size)
  clear hb1
  go_wp2_with (go_at_call 31; (with_reducible refine (K2.out _).mono ?_))
  rintro e w2 ⟨rfl, hb1⟩
  replace hk := hk.keep hb1
  replace hb0 := hb0.trans (hb1.mono hb0.size)
  clear hb1
  go_wp2_with (go_at_call 51; (with_reducible refine (K3.out _).mono ?_))
  rintro e w3 ⟨rfl, hb1⟩
  replace hk := hk.keep hb1
  replace hb0 := hb0.trans (hb1.mono hb0.size)
  clear hb1
  obtain ⟨g, hg⟩ : ∃ g, g = w.heap.size := ⟨_, rfl⟩
  have hwg : w.heap.size ≤ g := by omega
  rw [← hg] at hk ⊢
  clear hg
  have c0 := hk.cell 0 rfl
  have c1 := hk.cell 1 rfl
  have f0 := hk.free 0
  have f1 := hk.free 1
  go_wp2_with (go_at_call 53; (with_reducible refine (K4.out _).mono ?_))
  rintro e w4 ⟨rfl, rfl⟩
  go_wp2_with (go_at_call 52; (with_reducible refine (K5.out _).mono ?_))
  rintro e w4 ⟨rfl, rfl⟩
  go_wp2
  exact bodyPost_ret (Bx.sig (t := 8) (u := 9) rfl _ rfl ((hk.set 0 (.int .i64 (R : Int))).set 1 (.int .i64 (S : Int)))) rfl ⟨rfl, below2 hb0 hwg _ _⟩
set_option maxRecDepth 100000 in
set_option maxHeartbeats 1000000 in
theorem hsign_no (p key nonce : Int) (text : List UInt8) (w : World) (hB : Bases w) (hs : safeP p = false ∨ key < 1 ∨ p ≤ key ∨ nonce < 1 ∨ p ≤ nonce) :
    Calls Tryz.prog 30 #[.int .i64 p, .int .i64 key, .int .i64 nonce, .string ⟨text.toArray⟩] w fun e w' => e = .returned (.tuple #[.agg #[.int .i64 0, .int .i64 0], .int .i64 2]) ∧ Below w.heap.size w w' := by
  have hb0 := (Below.refl w.heap.size w).alloc (Nat.le_refl _) (.cells #[.int .i64 0, .int .i64 0] 26)
  have hk := Bx.new w 26 [.int .i64 0, .int .i64 0]
  have hB1 := hB.keep hb0
  obtain ⟨w1, hw1⟩ : ∃ w1, w1 = w.alloc (.cells #[.int .i64 0, .int .i64 0] 26) := ⟨_, rfl⟩
  cases hsp : safeP p with
  | false =>
    have km := hmod_no p (w.alloc (.cells #[.int .i64 0, .int .i64 0] 26)) hB1 hsp
    have KM := Lib.hid km
    clear hs hsp km hw1
    go_enter Tryz.func30, Tryz.ntmps30
    go_wp2_with (go_at_call 50; (with_reducible refine KM.out.mono ?_))
    rintro e w1 ⟨rfl, rfl⟩
    go_wp2
    exact bodyPost_ret (Bx.sig (t := 8) (u := 9) rfl _ rfl hk) rfl ⟨rfl, hb0⟩
  | true =>
    have km := hmod_yes p (w.alloc (.cells #[.int .i64 0, .int .i64 0] 26)) hB1 hsp
    have KM := Lib.hid km
    have hs' : key < 1 ∨ p ≤ key ∨ nonce < 1 ∨ p ≤ nonce := by
      rcases hs with h | h
      · rw [hsp] at h; cases h
      · exact h
    clear hs hsp km hw1
    rcases Int.lt_or_le key 1 with g1 | g1
    rotate_left
    rcases Int.lt_or_le key p with g2 | g2
    rcases Int.lt_or_le nonce 1 with g3 | g3
    rotate_left
    have g4 : p ≤ nonce := by omega
    all_goals
      clear hs'
      go_enter Tryz.func30, Tryz.ntmps30
      go_wp2_with (go_at_call 50; (with_reducible refine KM.out.mono ?_))
      rintro e w1 ⟨rfl, rfl⟩
      go_wp2
      exact bodyPost_ret (Bx.sig (t := 8) (u := 9) rfl _ rfl hk) rfl ⟨rfl, hb0⟩
end Go.Proofs.YtipoljcgfcjlnaaGreatDoor
