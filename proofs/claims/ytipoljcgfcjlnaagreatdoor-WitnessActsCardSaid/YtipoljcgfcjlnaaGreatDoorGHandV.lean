/- Stamps of a witness: which are right, which follow others or contradict them. -/
import Derived.Test.YtipoljcgfcjlnaaGreatDoorGRegion
import Derived.Test.YtipoljcgfcjlnaaGreatDoorGHandT
import Derived.Test.YtipoljcgfcjlnaaGreatDoorGHandG
import Derived.Test.YtipoljcgfcjlnaaGreatDoorGRPow
import Derived.Test.YtipoljcgfcjlnaaGreatDoorGWitR
namespace Go.Proofs.YtipoljcgfcjlnaaGreatDoor
open Go.RowKit
/-- numbers of 64 bits, texts that are not long -/
structure Stm.In (x : Stm) : Prop where
  head : x.head.In
  seen : I64 x.seen
def wrightF (p : Int) (x : Stm) : Bool := decide (x.head.time ≤ x.seen) && verP p x.key (wtextF x.head x.seen) x.r x.s
abbrev stmB (x : Stm) : Obj := .cells #[.int .i64 x.head.count, .string ⟨x.head.last.toArray⟩, .string ⟨x.head.root.toArray⟩, .int .i64 x.head.time, .int .i64 x.seen, .int .i64 x.key, .int .i64 x.r, .int .i64 x.s] 28
set_option maxRecDepth 100000 in
set_option maxHeartbeats 2000000 in
theorem wright_walk (p : Int) (x : Stm) (w : World) (hB : Bases w) (hI : x.In) :
    Calls Tryz.prog 13 #[.int .i64 p, x.val] w fun e w' => e = .returned (.bool (wrightF p x)) ∧ Below w.heap.size w w' := by
  have hb0 := (Below.refl w.heap.size w).alloc (Nat.le_refl _) (stmB x)
  have hk := Bx.new w 28 x.cells
  replace hB := hB.keep hb0
  have HB : ∀ d os, Bases (Sort.grow (redrawn (w.alloc (stmB x)) d) os) := fun d os => hB.keep (below_regrown _ d os)
  have HB := Lib.hid HB
  have hl := wtextF_len hI.head hI.seen
  have k1 : ∀ V, Calls Tryz.prog 15 #[x.head.val, .int .i64 x.seen] V fun e w' => e = .returned (.string ⟨(wtextF x.head x.seen).toArray⟩) ∧ Below V.heap.size V w' := fun V => wtext_walk x.head x.seen V hI.head hI.seen
  have k2 : ∀ V, Bases V → Calls Tryz.prog 34 #[.int .i64 p, .int .i64 x.key, .string ⟨(wtextF x.head x.seen).toArray⟩, .agg #[.int .i64 x.r, .int .i64 x.s]] V fun e w' => e = .returned (.bool (verP p x.key (wtextF x.head x.seen) x.r x.s)) ∧ Below V.heap.size V w' := fun V hV => hverify_walk p _ _ _ _ V hV (by omega)
  have hv : wrightF p x = (decide (x.head.time ≤ x.seen) && verP p x.key (wtextF x.head x.seen) x.r x.s) := rfl
  generalize verP p x.key (wtextF x.head x.seen) x.r x.s = v at *
  generalize wtextF x.head x.seen = tx at *
  have HV := Lib.hid hv
  clear hv hB hI hl
  obtain ⟨⟨n, l, r, t⟩, sn, key, sr, ss⟩ := x
  dsimp only [Head.val] at *
  have K1 := Lib.hid k1
  have K2 := Lib.hid k2
  clear k1 k2
  go_enter Tryz.func13, Tryz.ntmps13
  go_wp2
  obtain ⟨W, hW⟩ : ∃ W, W = w.alloc (stmB ⟨⟨n, l, r, t⟩, sn, key, sr, ss⟩) := ⟨_, rfl⟩
  rw [← hW] at hk hb0 HB ⊢
  clear hW
  have c0 := fun d os => cell_regrown (hk.cell 0 rfl) d os
  have c1 := fun d os => cell_regrown (hk.cell 1 rfl) d os
  have c2 := fun d os => cell_regrown (hk.cell 2 rfl) d os
  have c3 := fun d os => cell_regrown (hk.cell 3 rfl) d os
  have c4 := fun d os => cell_regrown (hk.cell 4 rfl) d os
  have c5 := fun d os => cell_regrown (hk.cell 5 rfl) d os
  have c6 := fun d os => cell_regrown (hk.cell 6 rfl) d os
  have c7 := fun d os => cell_regrown (hk.cell 7 rfl) d os
  rcases Int.lt_or_le sn t with h | h
  · have hd : decide (t ≤ sn) = false := decide_eq_false (by omega)
    refine wp_region_quiet_below (by kernel_rfl) (by kernel_rfl) ?_
    repeat (go_big_quiet_step (fail))
    refine wpQuiet_nil ?_
    rintro w9 ⟨p1, rfl⟩
    have hb9 := below_regrown W p1.d p1.os
    go_wp2
    go_ret
    exact ⟨ret_bool (by rw [HV.out, decide_eq_false (by omega)]; rfl), hb0.trans (hb9.mono hb0.size)⟩
  · have hd : decide (t ≤ sn) = true := decide_eq_true h
    refine wp_region_quiet_below (by kernel_rfl) (by kernel_rfl) ?_
    repeat (go_big_quiet_step (first
      | (go_at_call 15; with_reducible exact Calls.regrown_of (K1.out _))
      | (go_at_call 34; with_reducible exact Calls.regrown_of (K2.out _ (HB.out _ _)))))
    refine wpQuiet_nil ?_
    rintro w9 ⟨p1, rfl⟩
    have hb9 := below_regrown W p1.d p1.os
    go_wp2
    go_ret
    exact ⟨ret_bool (by rw [HV.out, decide_eq_true h]; rfl), hb0.trans (hb9.mono hb0.size)⟩
end Go.Proofs.YtipoljcgfcjlnaaGreatDoor
/- When a signature is right, as the reference finds it. -/
namespace Go.Proofs.YtipoljcgfcjlnaaGreatDoor
open Go.RowKit
set_option maxRecDepth 100000 in
theorem rMember_no (p x : Int) (w : World) (hs : rsafe p = false) :
    Calls Tryz.prog 62 #[.int .i64 p, .int .i64 x] w fun e w' => e = .returned (.bool false) ∧ w = w' := by
  have KM := Lib.hid (rmod_walk p w)
  rw [hs, if_neg (by decide)] at KM
  clear hs
  go_enter Tryz.func62, Tryz.ntmps62
  go_wp2_with (go_at_call 55; (with_reducible refine KM.out.mono ?_))
  rintro e w1 ⟨rfl, rfl⟩
  go_wp2
  go_ret
  exact ⟨rfl, rfl⟩
set_option maxRecDepth 100000 in
set_option maxHeartbeats 2000000 in
theorem rverify_walk (p pub : Int) (text : List UInt8) (R S : Int) (w : World) (hse : rsafe p = safeP p) (ht : text.length ≤ 1000000) :
    Calls Tryz.prog 35 #[.int .i64 p, .int .i64 pub, .string ⟨text.toArray⟩, .agg #[.int .i64 R, .int .i64 S]] w fun e w' => e = .returned (.bool (verP p pub text R S)) ∧ Below w.heap.size w w' := by
  have hb0 := (Below.refl w.heap.size w).alloc (Nat.le_refl _) (.cells #[.int .i64 R, .int .i64 S] 26)
  have hk := Bx.new w 26 [.int .i64 R, .int .i64 S]
  cases hsp : rsafe p with
  | false =>
    have HV := Lib.hid (show verP p pub text R S = false by rw [verP, ← hse, hsp]; rfl)
    have KM := Lib.hid (fun V => rMember_no p pub V hsp)
    clear hsp ht hse
    go_enter Tryz.func35, Tryz.ntmps35
    go_wp2_with (go_at_call 62; (with_reducible refine (KM.out _).mono ?_))
    rintro e w1 ⟨rfl, rfl⟩
    go_wp2
    go_ret
    exact ⟨ret_bool HV.out.symm, hb0⟩
  | true =>
    obtain ⟨h3, h30, -⟩ := rsafe_bd hsp
    obtain ⟨P, rfl⟩ : ∃ P : Nat, p = (P : Int) := ⟨p.toNat, by omega⟩
    have hv : verP (P : Int) pub text R S = verF P pub text R S := by rw [verP, ← hse, hsp, Int.toNat_natCast]; rfl
    rw [hv]
    have hP3 : 3 ≤ P := by omega
    have hP30 : P ≤ 1073741824 := by omega
    have kh1 := fun V => rMember_walk P pub V hsp
    have kh2 := fun V => rMember_walk P R V hsp
    cases hm1 : memZ P pub with
    | false =>
      have HF := Lib.hid (show verF P pub text R S = false by rw [verF, hm1]; rfl)
      rw [hm1] at kh1
      have K1 := Lib.hid kh1
      clear kh1 kh2 hv hsp hm1 ht hse
      go_enter Tryz.func35, Tryz.ntmps35
      go_wp2_with (go_at_call 62; (with_reducible refine (K1.out _).mono ?_))
      rintro e w1 ⟨rfl, rfl⟩
      go_wp2
      go_ret
      exact ⟨ret_bool HF.out.symm, hb0⟩
    | true =>
    cases hm2 : memZ P R with
    | false =>
      have HF := Lib.hid (show verF P pub text R S = false by rw [verF, hm1, hm2]; rfl)
      rw [hm1] at kh1
      rw [hm2] at kh2
      have K1 := Lib.hid kh1
      have K2 := Lib.hid kh2
      have c0 := hk.cell 0 (v := .int .i64 R) rfl
      clear kh1 kh2 hv hsp hm1 hm2 ht hse
      go_enter Tryz.func35, Tryz.ntmps35
      go_wp2_with (go_at_call 62; (with_reducible refine (K1.out _).mono ?_))
      rintro e w1 ⟨rfl, rfl⟩
      go_wp2_with (go_at_call 62; (with_reducible refine (K2.out _).mono ?_))
      rintro e w2 ⟨rfl, rfl⟩
      go_wp2
      go_ret
      exact ⟨ret_bool HF.out.symm, hb0⟩
    | true =>
    obtain ⟨u1, u2⟩ := memZ_bd hm1
    obtain ⟨r1, r2⟩ := memZ_bd hm2
    obtain ⟨U, rfl⟩ : ∃ U : Nat, pub = (U : Int) := ⟨pub.toNat, by omega⟩
    obtain ⟨Rn, rfl⟩ : ∃ Rn : Nat, R = (Rn : Int) := ⟨R.toNat, by omega⟩
    have hf : verF P (U : Int) text (Rn : Int) S = (decide (0 ≤ S) && (decide (S < (P : Int)) && (gpw P 4 S == Rn * gpw P U (chalF P (Rn : Int) (U : Int) text : Int) % (2 * P + 1)))) := by rw [verF, hm1, hm2, Int.toNat_natCast, Int.toNat_natCast]; rfl
    rw [hm1] at kh1
    rw [hm2] at kh2
    have k4 : ∀ V, Calls Tryz.prog 33 #[.int .i64 (P : Int), .int .i64 S] V fun r w' => r = .returned (.int .i64 ((gpw P 4 S : Nat) : Int)) ∧ V = w' := fun V => rPublic_walk P S V hP3 hP30
    have k5 : ∀ V, Calls Tryz.prog 56 #[.int .i64 (P : Int), .int .i64 (Rn : Int), .int .i64 (U : Int), .string ⟨text.toArray⟩] V fun e w' => e = .returned (.int .i64 (chalF P (Rn : Int) (U : Int) text : Int)) ∧ Below V.heap.size V w' := fun V => rchal_walk P _ _ text V hP3 hP30 ⟨by omega, by omega⟩ ⟨by omega, by omega⟩ ht
    have k6 : ∀ V, Calls Tryz.prog 57 #[.int .i64 (P : Int), .int .i64 (U : Int), .int .i64 (chalF P (Rn : Int) (U : Int) text : Int)] V fun r w' => r = .returned (.int .i64 ((gpw P U (chalF P (Rn : Int) (U : Int) text : Int) : Nat) : Int)) ∧ V = w' := fun V => rPower_walk P U _ V (by omega) hP30 (by omega)
    have k7 : ∀ V, Calls Tryz.prog 63 #[.int .i64 (P : Int), .int .i64 (Rn : Int), .int .i64 ((gpw P U (chalF P (Rn : Int) (U : Int) text : Int) : Nat) : Int)] V fun r w' => r = .returned (.int .i64 ((Rn * gpw P U (chalF P (Rn : Int) (U : Int) text : Int) % (2 * P + 1) : Nat) : Int)) ∧ V = w' := fun V => rTimes_walk P Rn _ V (by omega) hP30 (by omega) (gpw_lt _ _ _)
    generalize chalF P (Rn : Int) (U : Int) text = c at *
    generalize gpw P U (c : Int) = x at *
    generalize gpw P 4 S = y at *
    generalize Rn * x % (2 * P + 1) = z at *
    have hyz : ((y : Int) == (z : Int)) = (y == z) := by rw [Bool.eq_iff_iff, beq_iff_eq, beq_iff_eq]; omega
    rw [← hyz] at hf
    have HF := Lib.hid hf
    have K1 := Lib.hid kh1
    have K2 := Lib.hid kh2
    have K4 := Lib.hid k4
    have K5 := Lib.hid k5
    have K6 := Lib.hid k6
    have K7 := Lib.hid k7
    have c0 := hk.cell 0 (v := .int .i64 (Rn : Int)) rfl
    have c1 := hk.cell 1 (v := .int .i64 S) rfl
    clear kh1 kh2 k4 k5 k6 k7 hf hv hsp hm1 hm2 ht u1 u2 r1 r2 hyz hse
    rcases Int.lt_or_le S 0 with s0 | s0
    rotate_left
    rcases Int.lt_or_le S (P : Int) with s1 | s1
    all_goals
      go_enter Tryz.func35, Tryz.ntmps35
      go_wp2_with (go_at_call 62; (with_reducible refine (K1.out _).mono ?_))
      rintro e w1 ⟨rfl, rfl⟩
      go_wp2_with (go_at_call 62; (with_reducible refine (K2.out _).mono ?_))
      rintro e w2 ⟨rfl, rfl⟩
      go_wp2
    rotate_left
    · go_ret
      exact ⟨ret_bool (by rw [HF.out, decide_eq_false (show ¬ S < (P : Int) by omega), Bool.false_and, Bool.and_false]), hb0⟩
    · go_ret
      exact ⟨ret_bool (by rw [HF.out, decide_eq_false (by omega)]; rfl), hb0⟩
    · have c0' := fun d os => cell_regrown c0 d os
      have c1' := fun d os => cell_regrown c1 d os
      obtain ⟨w1, hw1⟩ : ∃ w1, w1 = w.alloc (.cells #[.int .i64 (Rn : Int), .int .i64 S] 26) := ⟨_, rfl⟩
      refine wp_region_quiet_below (by kernel_rfl) (by kernel_rfl) ?_
      repeat (go_big_quiet_step (first
        | (go_at_call 33; with_reducible exact Calls.regrown_of (Calls.calm (K4.out _)))
        | (go_at_call 57; with_reducible exact Calls.regrown_of (Calls.calm (K6.out _)))
        | (go_at_call 56; with_reducible exact Calls.regrown_of (K5.out _))
        | (go_at_call 63; with_reducible exact Calls.regrown_of (Calls.calm (K7.out _)))))
      refine wpQuiet_nil ?_
      rintro w9 ⟨p1, rfl⟩
      rw [← hw1] at hb0 ⊢
      have hb9 := below_regrown w1 p1.d p1.os
      go_wp2
      go_ret
      exact ⟨ret_bool (by rw [HF.out, decide_eq_true s0, decide_eq_true s1]; rfl), hb0.trans (hb9.mono hb0.size)⟩
end Go.Proofs.YtipoljcgfcjlnaaGreatDoor
/- When a stamp is right, as the reference finds it. -/
namespace Go.Proofs.YtipoljcgfcjlnaaGreatDoor
open Go.RowKit
set_option maxRecDepth 100000 in
set_option maxHeartbeats 2000000 in
theorem rwright_walk (p : Int) (x : Stm) (w : World) (hse : rsafe p = safeP p) (hI : x.In) :
    Calls Tryz.prog 14 #[.int .i64 p, x.val] w fun e w' => e = .returned (.bool (wrightF p x)) ∧ Below w.heap.size w w' := by
  have hb0 := (Below.refl w.heap.size w).alloc (Nat.le_refl _) (stmB x)
  have hk := Bx.new w 28 x.cells
  have hl := wtextF_len hI.head hI.seen
  have k1 : ∀ V, Calls Tryz.prog 16 #[x.head.val, .int .i64 x.seen] V fun e w' => e = .returned (.string ⟨(wtextF x.head x.seen).toArray⟩) ∧ Below V.heap.size V w' := fun V => rwtext_walk x.head x.seen V hI.head hI.seen
  have k2 : ∀ V, Calls Tryz.prog 35 #[.int .i64 p, .int .i64 x.key, .string ⟨(wtextF x.head x.seen).toArray⟩, .agg #[.int .i64 x.r, .int .i64 x.s]] V fun e w' => e = .returned (.bool (verP p x.key (wtextF x.head x.seen) x.r x.s)) ∧ Below V.heap.size V w' := fun V => rverify_walk p x.key _ x.r x.s V hse (by omega)
  have hv : wrightF p x = (decide (x.head.time ≤ x.seen) && verP p x.key (wtextF x.head x.seen) x.r x.s) := rfl
  generalize verP p x.key (wtextF x.head x.seen) x.r x.s = v at *
  generalize wtextF x.head x.seen = tx at *
  have HV := Lib.hid hv
  clear hv hI hl hse
  obtain ⟨⟨n, l, r, t⟩, sn, key, sr, ss⟩ := x
  dsimp only [Head.val] at *
  have K1 := Lib.hid k1
  have K2 := Lib.hid k2
  clear k1 k2
  go_enter Tryz.func14, Tryz.ntmps14
  go_wp2
  obtain ⟨W, hW⟩ : ∃ W, W = w.alloc (stmB ⟨⟨n, l, r, t⟩, sn, key, sr, ss⟩) := ⟨_, rfl⟩
  rw [← hW] at hk hb0 ⊢
  clear hW
  have c0 := fun d os => cell_regrown (hk.cell 0 rfl) d os
  have c1 := fun d os => cell_regrown (hk.cell 1 rfl) d os
  have c2 := fun d os => cell_regrown (hk.cell 2 rfl) d os
  have c3 := fun d os => cell_regrown (hk.cell 3 rfl) d os
  have c4 := fun d os => cell_regrown (hk.cell 4 rfl) d os
  have c5 := fun d os => cell_regrown (hk.cell 5 rfl) d os
  have c6 := fun d os => cell_regrown (hk.cell 6 rfl) d os
  have c7 := fun d os => cell_regrown (hk.cell 7 rfl) d os
  rcases Int.lt_or_le sn t with h | h
  · have hd : decide (t ≤ sn) = false := decide_eq_false (by omega)
    refine wp_region_quiet_below (by kernel_rfl) (by kernel_rfl) ?_
    repeat (go_big_quiet_step (fail))
    refine wpQuiet_nil ?_
    rintro w9 ⟨p1, rfl⟩
    have hb9 := below_regrown W p1.d p1.os
    go_wp2
    go_ret
    exact ⟨ret_bool (by rw [HV.out, decide_eq_false (by omega)]; rfl), hb0.trans (hb9.mono hb0.size)⟩
  · have hd : decide (t ≤ sn) = true := decide_eq_true h
    refine wp_region_quiet_below (by kernel_rfl) (by kernel_rfl) ?_
    repeat (go_big_quiet_step (first
      | (go_at_call 16; with_reducible exact Calls.regrown_of (K1.out _))
      | (go_at_call 35; with_reducible exact Calls.regrown_of (K2.out _))))
    refine wpQuiet_nil ?_
    rintro w9 ⟨p1, rfl⟩
    have hb9 := below_regrown W p1.d p1.os
    go_wp2
    go_ret
    exact ⟨ret_bool (by rw [HV.out, decide_eq_true h]; rfl), hb0.trans (hb9.mono hb0.size)⟩
end Go.Proofs.YtipoljcgfcjlnaaGreatDoor
