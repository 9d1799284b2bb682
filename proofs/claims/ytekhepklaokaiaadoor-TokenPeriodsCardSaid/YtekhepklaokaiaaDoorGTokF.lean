/- Tokens: blinding, finishing, which are right: the program's. -/
import Derived.Test.YtekhepklaokaiaaDoorGTokE
import Derived.Test.YtekhepklaokaiaaDoorGHandM
import Derived.Lib.QuietBelow
namespace Go.Proofs.YtekhepklaokaiaaDoor
open Go.RowKit
/-- the inverse of an element -/
def invF (p b : Nat) : Nat := b ^ (p - 2) % p
set_option maxRecDepth 100000 in
theorem finv_walk (p b : Nat) (w : World) (hp : 3 ≤ p) (hp2 : p ≤ 1073741824) (hb : 1 ≤ b) (hb2 : b < p) :
    Calls Tryd.prog 32 #[.int .i64 (p : Int), .int .i64 (b : Int)] w fun e w' => e = .returned (.tuple #[.int .i64 ((invF p b : Nat) : Int), .int .i64 0]) ∧ w = w' := by
  have hz : powF (p : Int) (b : Int) (p - 2) = ((invF p b : Nat) : Int) := by
    rw [powF, show (1 : Int) % (p : Int) = ((1 : Nat) : Int) from Int.emod_eq_of_lt (by decide) (by omega), pwF_eq p 64 1 b (p - 2) (by omega) (by omega), Nat.one_mul, invF]
  have kp := fun V => power_walk (p : Int) (b : Int) (p - 2) V (by omega) (by omega) (by omega) (by omega) (by omega)
  rw [hz] at kp
  have e1 : ((p - 2 : Nat) : Int) = (p : Int) - 2 := by omega
  rw [e1] at kp
  generalize invF p b = z at *
  have KP := Lib.hid kp
  have b0 : ((b : Int) == 0) = false := by rw [beq_eq_false_iff_ne]; omega
  have d1 : decide ((p : Int) < 2) = false := decide_eq_false (by omega)
  have d2 : decide (p < 2) = false := decide_eq_false (by omega)
  have w1 : IntKind.i64.wrap ((p : Int) - 2) = (p : Int) - 2 := by rw [IntKind.wrap_i64]; omega
  have w2 : IntKind.u64.wrap ((p : Int) - 2) = (p : Int) - 2 := by rw [IntKind.wrap_u64]; omega
  clear kp hz e1
  go_enter Tryd.func32, Tryd.ntmps32
  go_wp2_with (go_at_call 45; (with_reducible refine (KP.out _).mono ?_))
  rintro e w3 ⟨rfl, rfl⟩
  go_wp2
  go_ret2
  exact ⟨rfl, rfl⟩
set_option maxRecDepth 100000 in
theorem tserial_walk (s : List UInt8) (w : World) (hs : s.length ≤ 140737488351232) :
    Calls Tryd.prog 19 #[.string ⟨s.toArray⟩] w fun e w' => e = .returned (.bool (decide (1 ≤ s.length ∧ s.length ≤ 32))) ∧ w = w' := by
  by_cases h : 1 ≤ s.length ∧ s.length ≤ 32
  · have K := Lib.hid (in_yes (n := (s.length : Int)) (lo := 1) (hi := 32) w (by omega))
    rw [decide_eq_true h]
    clear h
    go_enter Tryd.func19, Tryd.ntmps19
    go_wp2_with (go_at_call 27; (with_reducible refine K.out.mono ?_))
    rintro e w1 ⟨rfl, rfl⟩
    go_wp2
    go_ret
    exact ⟨rfl, rfl⟩
  · have K := Lib.hid (in_no (n := (s.length : Int)) (lo := 1) (hi := 32) w (by omega))
    rw [decide_eq_false h]
    clear h
    go_enter Tryd.func19, Tryd.ntmps19
    go_wp2_with (go_at_call 27; (with_reducible refine K.out.mono ?_))
    rintro e w1 ⟨rfl, rfl⟩
    go_wp2
    go_ret
    exact ⟨rfl, rfl⟩
/-- a blinded square: the number, the error -/
def blindF (p : Int) (s : List UInt8) (b : Int) : Int × Int :=
  if safeP p = false then (0, 2) else if ¬ (1 ≤ s.length ∧ s.length ≤ 32) then (0, 4) else if ¬ (1 ≤ b ∧ b ≤ p - 1) then (0, 7)
  else (((gpw p.toNat (sqrF p.toNat s) b : Nat) : Int), 0)
/-- what is left when the blinding is taken off -/
def finF (p y b : Int) : Int × Int :=
  if safeP p = false then (0, 2) else if memZ p.toNat y = false then (0, 1) else if ¬ (1 ≤ b ∧ b ≤ p - 1) then (0, 7)
  else (((gpw p.toNat y.toNat (invF p.toNat b.toNat : Nat) : Nat) : Int), 0)
/-- is a token right -/
def rightF (p key : Int) (s : List UInt8) (tag : Int) : Bool :=
  safeP p && (decide (1 ≤ key ∧ key ≤ p - 1) && (decide (1 ≤ s.length ∧ s.length ≤ 32) && tag == ((gpw p.toNat (sqrF p.toNat s) key : Nat) : Int)))
set_option maxRecDepth 100000 in
set_option maxHeartbeats 1000000 in
theorem tblind_walk (p : Int) (s : List UInt8) (b : Int) (x e : Int) (w : World) (hF : blindF p s b = (x, e)) (hB : Bases w) (hs : s.length ≤ 140737488000000) :
    Calls Tryd.prog 9 #[.int .i64 p, .string ⟨s.toArray⟩, .int .i64 b] w fun r w' => r = .returned (.tuple #[.int .i64 x, .int .i64 e]) ∧ Below w.heap.size w w' := by
  have KS := Lib.hid (fun V h => tsafe_walk p V h)
  cases h1 : safeP p with
  | false =>
    rw [h1] at KS
    rw [blindF, if_pos h1] at hF
    cases hF
    clear h1
    go_enter Tryd.func9, Tryd.ntmps9
    go_wp2_with (go_at_call 18; (with_reducible refine (KS.out _ hB).mono ?_))
    rintro e w1 ⟨rfl, rfl⟩
    go_wp2
    go_ret2
    exact ⟨rfl, Below.refl _ _⟩
  | true =>
    obtain ⟨h3, h30, -⟩ := safeP_bd h1
    rw [h1] at KS
    rw [blindF, if_neg (by rw [h1]; decide)] at hF
    have KL := Lib.hid (fun V => tserial_walk s V (by omega))
    by_cases h2 : 1 ≤ s.length ∧ s.length ≤ 32
    rotate_left
    · rw [if_pos h2] at hF
      cases hF
      rw [decide_eq_false h2] at KL
      clear h1 h2
      go_enter Tryd.func9, Tryd.ntmps9
      go_wp2_with (go_at_call 18; (with_reducible refine (KS.out _ hB).mono ?_))
      rintro e w1 ⟨rfl, rfl⟩
      go_wp2_with (go_at_call 19; (with_reducible refine (KL.out _).mono ?_))
      rintro e w1 ⟨rfl, rfl⟩
      go_wp2
      go_ret2
      exact ⟨rfl, Below.refl _ _⟩
    rw [if_neg (fun h => h h2)] at hF
    rw [decide_eq_true h2] at KL
    have KE := Lib.hid (fun V => texp_walk p b V (by omega))
    by_cases h4 : 1 ≤ b ∧ b ≤ p - 1
    rotate_left
    · rw [if_pos h4] at hF
      cases hF
      rw [decide_eq_false h4] at KE
      clear h1 h2 h4
      go_enter Tryd.func9, Tryd.ntmps9
      go_wp2_with (go_at_call 18; (with_reducible refine (KS.out _ hB).mono ?_))
      rintro e w1 ⟨rfl, rfl⟩
      go_wp2_with (go_at_call 19; (with_reducible refine (KL.out _).mono ?_))
      rintro e w1 ⟨rfl, rfl⟩
      go_wp2_with (go_at_call 20; (with_reducible refine (KE.out _).mono ?_))
      rintro e w1 ⟨rfl, rfl⟩
      go_wp2
      go_ret2
      exact ⟨rfl, Below.refl _ _⟩
    rw [if_neg (fun h => h h4)] at hF
    rw [decide_eq_true h4] at KE
    obtain ⟨P, rfl⟩ : ∃ P : Nat, p = (P : Int) := ⟨p.toNat, by omega⟩
    rw [Int.toNat_natCast] at hF
    have hlt := sqrF_lt P s
    obtain ⟨q, hq⟩ : ∃ q, sqrF P s = q := ⟨_, rfl⟩
    have KQ := Lib.hid (fun V => hsquare_walk P q s V hq (by omega) (by omega) hs)
    rw [hq] at hF hlt
    have KP := Lib.hid (fun V => hPower_walk P q b V (by omega) (by omega) hlt)
    simp only [Prod.mk.injEq] at hF
    obtain ⟨hx, rfl⟩ := hF
    rw [hx] at KP
    clear h1 h2 h4 hq hx hlt
    go_enter Tryd.func9, Tryd.ntmps9
    go_wp2_with (go_at_call 18; (with_reducible refine (KS.out _ hB).mono ?_))
    rintro e w1 ⟨rfl, rfl⟩
    go_wp2_with (go_at_call 19; (with_reducible refine (KL.out _).mono ?_))
    rintro e w1 ⟨rfl, rfl⟩
    go_wp2_with (go_at_call 20; (with_reducible refine (KE.out _).mono ?_))
    rintro e w1 ⟨rfl, rfl⟩
    go_wp2_with (go_at_call 22; (with_reducible refine (KQ.out _).mono ?_))
    rintro e w2 ⟨rfl, hb2⟩
    go_wp2_with (go_at_call 21; (with_reducible refine (KP.out _).mono ?_))
    rintro e w3 ⟨rfl, hb3⟩
    go_wp2
    go_ret2
    exact ⟨rfl, below_tr hb2 hb3⟩
set_option maxRecDepth 100000 in
theorem hMember_any (p x : Int) (w : World) (hB : Bases w) (hs : safeP p = true) :
    Calls Tryd.prog 28 #[.int .i64 p, .int .i64 x] w fun e w' => e = .returned (.bool (memZ p.toNat x)) ∧ Below w.heap.size w w' := by
  obtain ⟨h3, -⟩ := safeP_bd hs
  obtain ⟨P, rfl⟩ : ∃ P : Nat, p = (P : Int) := ⟨p.toNat, by omega⟩
  rw [Int.toNat_natCast]
  exact hMember_walk P x w hB hs
theorem memZ_bd {p : Nat} {x : Int} (h : memZ p x = true) : 0 < x ∧ x < 2 * (p : Int) + 1 := by
  rw [memZ, Bool.and_eq_true, memH, Bool.and_eq_true, Bool.and_eq_true, decide_eq_true_eq, decide_eq_true_eq, decide_eq_true_eq] at h
  omega
set_option maxRecDepth 100000 in
set_option maxHeartbeats 1000000 in
theorem tfinish_walk (p y b : Int) (x e : Int) (w : World) (hF : finF p y b = (x, e)) (hB : Bases w) :
    Calls Tryd.prog 15 #[.int .i64 p, .int .i64 y, .int .i64 b] w fun r w' => r = .returned (.tuple #[.int .i64 x, .int .i64 e]) ∧ Below w.heap.size w w' := by
  have KS := Lib.hid (fun V h => tsafe_walk p V h)
  cases h1 : safeP p with
  | false =>
    rw [h1] at KS
    rw [finF, if_pos h1] at hF
    cases hF
    clear h1
    go_enter Tryd.func15, Tryd.ntmps15
    go_wp2_with (go_at_call 18; (with_reducible refine (KS.out _ hB).mono ?_))
    rintro e w1 ⟨rfl, rfl⟩
    go_wp2
    go_ret2
    exact ⟨rfl, Below.refl _ _⟩
  | true =>
    obtain ⟨h3, h30, -⟩ := safeP_bd h1
    rw [h1] at KS
    rw [finF, if_neg (by rw [h1]; decide)] at hF
    have KM := Lib.hid (fun V h => hMember_any p y V h h1)
    cases h2 : memZ p.toNat y with
    | false =>
      rw [if_pos h2] at hF
      cases hF
      rw [h2] at KM
      clear h1 h2
      go_enter Tryd.func15, Tryd.ntmps15
      go_wp2_with (go_at_call 18; (with_reducible refine (KS.out _ hB).mono ?_))
      rintro e w1 ⟨rfl, rfl⟩
      go_wp2_with (go_at_call 28; (with_reducible refine (KM.out _ hB).mono ?_))
      rintro e w1 ⟨rfl, hb1⟩
      go_wp2
      go_ret2
      exact ⟨rfl, hb1⟩
    | true =>
      rw [if_neg (by rw [h2]; decide)] at hF
      rw [h2] at KM
      have KE := Lib.hid (fun V => texp_walk p b V (by omega))
      by_cases h4 : 1 ≤ b ∧ b ≤ p - 1
      rotate_left
      · rw [if_pos h4] at hF
        cases hF
        rw [decide_eq_false h4] at KE
        clear h1 h2 h4
        go_enter Tryd.func15, Tryd.ntmps15
        go_wp2_with (go_at_call 18; (with_reducible refine (KS.out _ hB).mono ?_))
        rintro e w1 ⟨rfl, rfl⟩
        go_wp2_with (go_at_call 28; (with_reducible refine (KM.out _ hB).mono ?_))
        rintro e w1 ⟨rfl, hb1⟩
        go_wp2_with (go_at_call 20; (with_reducible refine (KE.out _).mono ?_))
        rintro e w1 ⟨rfl, rfl⟩
        go_wp2
        go_ret2
        exact ⟨rfl, hb1⟩
      rw [if_neg (fun h => h h4)] at hF
      rw [decide_eq_true h4] at KE
      obtain ⟨P, rfl⟩ : ∃ P : Nat, p = (P : Int) := ⟨p.toNat, by omega⟩
      obtain ⟨B, rfl⟩ : ∃ B : Nat, b = (B : Int) := ⟨b.toNat, by omega⟩
      rw [Int.toNat_natCast] at h2
      have hy := memZ_bd h2
      obtain ⟨Y, rfl⟩ : ∃ Y : Nat, y = (Y : Int) := ⟨y.toNat, by omega⟩
      rw [Int.toNat_natCast, Int.toNat_natCast, Int.toNat_natCast] at hF
      have KI := Lib.hid (fun V => finv_walk P B V (by omega) (by omega) (by omega) (by omega))
      generalize invF P B = I at *
      have KP := Lib.hid (fun V => hPower_walk P Y (I : Int) V (by omega) (by omega) (by omega))
      simp only [Prod.mk.injEq] at hF
      obtain ⟨hx, rfl⟩ := hF
      rw [hx] at KP
      clear h1 h2 h4 hx hy
      go_enter Tryd.func15, Tryd.ntmps15
      go_wp2_with (go_at_call 18; (with_reducible refine (KS.out _ hB).mono ?_))
      rintro e w1 ⟨rfl, rfl⟩
      go_wp2_with (go_at_call 28; (with_reducible refine (KM.out _ hB).mono ?_))
      rintro e w1 ⟨rfl, hb1⟩
      go_wp2_with (go_at_call 20; (with_reducible refine (KE.out _).mono ?_))
      rintro e w1 ⟨rfl, rfl⟩
      go_wp2_with (go_at_call 32; (with_reducible refine (KI.out _).mono ?_))
      rintro e w2 ⟨rfl, rfl⟩
      go_wp2_with (go_at_call 21; (with_reducible refine (KP.out _).mono ?_))
      rintro e w3 ⟨rfl, hb3⟩
      go_wp2
      go_ret2
      exact ⟨rfl, below_tr hb1 hb3⟩
set_option maxRecDepth 100000 in
set_option maxHeartbeats 2000000 in
theorem tright_walk (p key : Int) (s : List UInt8) (tag : Int) (r : Bool) (w : World) (hF : rightF p key s tag = r) (hB : Bases w) (hs : s.length ≤ 140737488000000) :
    Calls Tryd.prog 16 #[.int .i64 p, .int .i64 key, .agg #[.string ⟨s.toArray⟩, .int .i64 tag]] w fun e w' => e = .returned (.bool r) ∧ Below w.heap.size w w' := by
  have hb0 := (Below.refl w.heap.size w).alloc (Nat.le_refl _) (.cells #[.string ⟨s.toArray⟩, .int .i64 tag] 46)
  have hG := Bx.new w 46 [.string ⟨s.toArray⟩, .int .i64 tag]
  have hB1 := hB.keep hb0
  change Bx (w.alloc (.cells #[.string ⟨s.toArray⟩, .int .i64 tag] 46)) _ _ _ at hG
  have KS := Lib.hid (fun V h => tsafe_walk p V h)
  cases h1 : safeP p with
  | false =>
    rw [h1] at KS
    rw [rightF, h1, Bool.false_and] at hF
    subst hF
    clear h1
    go_enter Tryd.func16, Tryd.ntmps16
    go_upto_region 1 with (fail)
    generalize w.alloc (.cells #[.string ⟨s.toArray⟩, .int .i64 tag] 46) = w0 at *
    generalize w.heap.size = gb at hG
    have d0 := fun d os => cell_regrown (hG.cell 0 (v := .string ⟨s.toArray⟩) rfl) d os
    have d1 := fun d os => cell_regrown (hG.cell 1 (v := .int .i64 tag) rfl) d os
    have HB := Lib.hid (fun d os => hB1.keep (below_regrown w0 d os))
    clear hG hB1 hB
    refine wp_region_quiet_below (by kernel_rfl) (by kernel_rfl) ?_
    repeat (go_big_quiet_step (first | (go_at_call 18; with_reducible exact Calls.regrown_of (Calls.calm (KS.out _ (HB.out _ _))))))
    refine wpQuiet_nil ?_
    rintro w3 ⟨p2, rfl⟩
    have hb3 := hb0.trans ((below_regrown w0 p2.d p2.os).mono hb0.size)
    clear d0 d1 hb0
    go_wp2
    go_ret
    exact ⟨rfl, hb3⟩
  | true =>
    obtain ⟨h3, h30, -⟩ := safeP_bd h1
    rw [h1] at KS
    rw [rightF, h1, Bool.true_and] at hF
    have KE := Lib.hid (fun V => texp_walk p key V (by omega))
    have KL := Lib.hid (fun V => tserial_walk s V (by omega))
    by_cases h2 : 1 ≤ key ∧ key ≤ p - 1
    rotate_left
    · rw [decide_eq_false h2, Bool.false_and] at hF
      rw [decide_eq_false h2] at KE
      subst hF
      clear h1 h2
      go_enter Tryd.func16, Tryd.ntmps16
      go_upto_region 1 with (fail)
      generalize w.alloc (.cells #[.string ⟨s.toArray⟩, .int .i64 tag] 46) = w0 at *
      generalize w.heap.size = gb at hG
      have d0 := fun d os => cell_regrown (hG.cell 0 (v := .string ⟨s.toArray⟩) rfl) d os
      have d1 := fun d os => cell_regrown (hG.cell 1 (v := .int .i64 tag) rfl) d os
      have HB := Lib.hid (fun d os => hB1.keep (below_regrown w0 d os))
      clear hG hB1 hB
      refine wp_region_quiet_below (by kernel_rfl) (by kernel_rfl) ?_
      repeat (go_big_quiet_step (first | (go_at_call 18; with_reducible exact Calls.regrown_of (Calls.calm (KS.out _ (HB.out _ _)))) | (go_at_call 20; with_reducible exact Calls.regrown_of (Calls.calm (KE.out _)))))
      refine wpQuiet_nil ?_
      rintro w3 ⟨p2, rfl⟩
      have hb3 := hb0.trans ((below_regrown w0 p2.d p2.os).mono hb0.size)
      clear d0 d1 hb0
      go_wp2
      go_ret
      exact ⟨rfl, hb3⟩
    rw [decide_eq_true h2, Bool.true_and] at hF
    rw [decide_eq_true h2] at KE
    by_cases h4 : 1 ≤ s.length ∧ s.length ≤ 32
    rotate_left
    · rw [decide_eq_false h4, Bool.false_and] at hF
      rw [decide_eq_false h4] at KL
      subst hF
      clear h1 h2 h4
      go_enter Tryd.func16, Tryd.ntmps16
      go_upto_region 1 with (fail)
      generalize w.alloc (.cells #[.string ⟨s.toArray⟩, .int .i64 tag] 46) = w0 at *
      generalize w.heap.size = gb at hG
      have d0 := fun d os => cell_regrown (hG.cell 0 (v := .string ⟨s.toArray⟩) rfl) d os
      have d1 := fun d os => cell_regrown (hG.cell 1 (v := .int .i64 tag) rfl) d os
      have HB := Lib.hid (fun d os => hB1.keep (below_regrown w0 d os))
      clear hG hB1 hB
      refine wp_region_quiet_below (by kernel_rfl) (by kernel_rfl) ?_
      repeat (go_big_quiet_step (first | (go_at_call 18; with_reducible exact Calls.regrown_of (Calls.calm (KS.out _ (HB.out _ _)))) | (go_at_call 20; with_reducible exact Calls.regrown_of (Calls.calm (KE.out _))) | (go_at_call 19; with_reducible exact Calls.regrown_of (Calls.calm (KL.out _)))))
      refine wpQuiet_nil ?_
      rintro w3 ⟨p2, rfl⟩
      have hb3 := hb0.trans ((below_regrown w0 p2.d p2.os).mono hb0.size)
      clear d0 d1 hb0
      go_wp2
      go_ret
      exact ⟨rfl, hb3⟩
    rw [decide_eq_true h4, Bool.true_and] at hF
    rw [decide_eq_true h4] at KL
    obtain ⟨P, rfl⟩ : ∃ P : Nat, p = (P : Int) := ⟨p.toNat, by omega⟩
    rw [Int.toNat_natCast] at hF
    have hlt := sqrF_lt P s
    obtain ⟨q, hq⟩ : ∃ q, sqrF P s = q := ⟨_, rfl⟩
    have KQ := Lib.hid (fun V => hsquare_walk P q s V hq (by omega) (by omega) hs)
    rw [hq] at hF hlt
    have KP := Lib.hid (fun V => hPower_walk P q key V (by omega) (by omega) hlt)
    generalize ((gpw P q key : Nat) : Int) = z at *
    clear h1 h2 h4 hq hlt
    go_enter Tryd.func16, Tryd.ntmps16
    go_upto_region 1 with (fail)
    generalize w.alloc (.cells #[.string ⟨s.toArray⟩, .int .i64 tag] 46) = w0 at *
    generalize w.heap.size = gb at hG
    have d0 := fun d os => cell_regrown (hG.cell 0 (v := .string ⟨s.toArray⟩) rfl) d os
    have d1 := fun d os => cell_regrown (hG.cell 1 (v := .int .i64 tag) rfl) d os
    have HB := Lib.hid (fun d os => hB1.keep (below_regrown w0 d os))
    clear hG hB1 hB
    refine wp_region_quiet_below (by kernel_rfl) (by kernel_rfl) ?_
    repeat (go_big_quiet_step (first | (go_at_call 18; with_reducible exact Calls.regrown_of (Calls.calm (KS.out _ (HB.out _ _)))) | (go_at_call 20; with_reducible exact Calls.regrown_of (Calls.calm (KE.out _))) | (go_at_call 19; with_reducible exact Calls.regrown_of (Calls.calm (KL.out _))) | (go_at_call 22; with_reducible exact Calls.regrown_of (KQ.out _)) | (go_at_call 21; with_reducible exact Calls.regrown_of (KP.out _))))
    refine wpQuiet_nil ?_
    rintro w3 ⟨p2, rfl⟩
    have hb3 := hb0.trans ((below_regrown w0 p2.d p2.os).mono hb0.size)
    clear d0 d1 hb0
    go_wp2
    go_ret
    exact ⟨rfl, hb3⟩
end Go.Proofs.YtekhepklaokaiaaDoor
