/- The law ConditionLeast walked. -/
import Derived.Test.YtejdaeonknpgeaaGCndOW
import Derived.Test.YtejdaeonknpgeaaGCndSP
namespace Go.Proofs.Ytejdaeonknpgeaa
open Go.RowKit
section
variable {W w : World} {g : Nat} {ta : Option Addr} {tc : Nat} {T : List Trm} {a : Option Addr} {M : List Mem}
theorem Co.valid (h : Co W w g ta tc T a M) (hT : T.length ≤ 1000) :
    Calls Try.prog 15 #[.agg #[.slice ta T.length tc]] w fun e w' => e = .returned (.bool (rightC T)) ∧ Below w.heap.size w w' := cvalid_walk T ta tc w h.t (by omega)
theorem Co.least (h : Co W w g ta tc T a M) (hT : T.length ≤ 1000) :
    Calls Try.prog 16 #[.agg #[.slice ta T.length tc]] w fun e w' => e = .returned (.int .i64 (leastF T)) ∧ Below w.heap.size w w' := cleast_walk T ta tc w h.t (by omega)
theorem Co.persons (h : Co W w g ta tc T a M) (c : Nat) (i : Int) (hM : M.length ≤ 1000) :
    Calls Try.prog 14 #[.slice a M.length c, .int .i64 i] w fun e w' => e = .returned (.int .i64 (persF M i)) ∧ Below w.heap.size w w' := cpersons_walk M a c i w h.m (by omega)
theorem Co.cell (h : Co W w g ta tc T a M) : w.cell? ⟨g, 0, none⟩ = some (.slice ta T.length tc) := h.c.cell 0 rfl
end
set_option maxRecDepth 100000 in
set_option maxHeartbeats 8000000 in
theorem least17_walk (W : World) (p : Option Addr) (l : List Int) (cap : Nat) (hR : Rd W p (ints l)) (hl : l.length ≤ 17592186043904) :
    Calls Try.prog 5 #[.slice p l.length cap] W fun e w' => e = .returned (.bool true) ∧ Below W.heap.size W w' := by
  have KA := Lib.hid (fun V => awake17 V)
  go_enter Try.func5, Try.ntmps5
  go_wp2_with (go_at_call 7; (with_reducible refine (light_walk _ _ _ _ (by omega)).mono ?_))
  (first | rintro e w1 rfl rfl | rintro e w1 ⟨rfl, rfl⟩)
  by_cases hq : l.length ≤ 500
  rotate_left
  · have hd5 : decide (l.length ≤ 500) = false := decide_eq_false hq
    clear hq
    go_wp2_with (go_at_call 8; (with_reducible refine (KA.out _).mono ?_))
    (first | rintro e w1 rfl hb1 | rintro e w1 ⟨rfl, hb1⟩)
    go_wp2
    go_ret
    exact ⟨rfl, hb1⟩
  have hd5 : decide (l.length ≤ 500) = true := decide_eq_true hq
  have HR := Lib.hid hR
  have hl48 : l.length ≤ 281474976710656 := by omega
  obtain ⟨db, hdb⟩ : ∃ db, db = W.heap.size := ⟨_, rfl⟩
  have HDB := Lib.hid hdb
  go_wp2_with (go_at_call 9; (with_reducible refine (roll_walk _ _ _ _).mono ?_))
  (first | rintro e w1 rfl hD hb1 | rintro e w1 ⟨rfl, hD, hb1⟩)
  rw [← HDB.out] at hD ⊢
  have hE : Env W w1 db p l cap 0 := ⟨hD, hR.keep hb1, hb1⟩
  clear hdb hR hD hb1 hq hl hd5
  have KC : Hid (Calls Try.prog 10 #[.pointer (some ⟨db, 0, none⟩), .int .i64 4] w1 _) := Lib.hid (kcond_walk W db p l cap 0 4 w1 hl48 (by omega) (by omega) hE (by rw [HDB.out]; exact Nat.le_refl _) HR.out)
  go_upto_region 5 with (go_at_call 10; (with_reducible refine KC.out.mono ?_); (first | rintro e w2 ⟨T, ta, tc, q2, rfl, -, hTl, hE2, hC2, -⟩ | rintro e w2 T ta tc q2 rfl - hTl hE2 hC2 -))
  have hTn : T.length ≤ 1000 := Nat.le_trans hTl.2 szK4
  have bA := (Below.refl w2.heap.size w2).alloc (Nat.le_refl _) (.cells #[.slice ta T.length tc] 29)
  have hB3 := Bx.new w2 29 [.slice ta T.length tc]
  change Bx (w2.alloc (.cells #[.slice ta T.length tc] 29)) _ _ _ at hB3
  have hE3 := hE2.keep bA
  have hC3 := hC2.keep bA
  have hdl := hE2.dice.lt
  clear bA hE2 hC2 hTl hE KC
  generalize w2.alloc (.cells #[.slice ta T.length tc] 29) = w3 at *
  generalize w2.heap.size = g4 at *
  have KM : Hid (Calls Try.prog 11 #[.pointer (some ⟨db, 0, none⟩), .int .i64 7] w3 (MemRes W w3 db p l cap 7)) := Lib.hid (kmems_walk W db p l cap q2 7 w3 hl48 (by omega) hE3 (by rw [HDB.out]; exact Nat.le_refl _) HR.out)
  go_upto_region 6 with (go_at_call 11; (with_reducible refine KM.out.mono ?_); (first | rintro e w4 ⟨M, a, c, q4, rfl, hMl, hE4, hM4, hk4⟩ | rintro e w4 M a c q4 rfl hMl hE4 hM4 hk4))
  have hCo : Co W w4 g4 ta tc T a M := ⟨hE4.below, hB3.kp hk4 (by omega), (hC3.kp hk4).r, hM4.r⟩
  have hsm := Lib.hid hM4.s
  have HMl := Lib.hid hMl
  clear KM hE3 hB3 hC3 hE4 hM4 hk4 hdl
  have y4 := hCo.c.cell 0 rfl
  have HTN := Lib.hid hTn
  have HCo := Lib.hid hCo
  have KV := Lib.hid (hCo.valid hTn)
  have hAL : ∀ V, Co W V g4 ta tc T a M → Calls Try.prog 16 #[.agg #[.slice ta T.length tc]] V fun e w' => e = .returned (.int .i64 (leastF T)) ∧ Below V.heap.size V w' := fun V hV => hV.least HTN.out
  have KL := Lib.hid hAL
  clear hAL hCo
  obtain ⟨v, hv⟩ : ∃ v, v = rightC T := ⟨_, rfl⟩
  have HV := Lib.hid hv
  rw [← hv] at KV
  clear hv
  have hz : v = false → leastF T = 0 := fun h => by rw [leastF, if_neg (by rw [← HV.out, h]; decide)]
  have hp1 : v = true → 1 ≤ leastF T := fun h => leastF_pos (by rw [← HV.out, h])
  have HTL : Hid (∀ i : Int, termF wiF T 0 M i = true → leastF T ≤ persF M i) := Lib.hid fun i h => term_least h
  generalize leastF T = L at *
  go_upto_region 6 with (fail)
  go_wp2_with (go_at_call 15; (with_reducible refine KV.out.mono ?_); (first | rintro e w5 rfl hb5 | rintro e w5 ⟨rfl, hb5⟩); have hCo := HCo.out.keep hb5; have HB5 := Lib.hid hb5; clear hb5 y4 KV; have y4 := hCo.cell; have HC5 := Lib.hid hCo; clear hCo; cases v)
  · obtain rfl : L = 0 := by first | exact hz rfl | exact hz trivial
    clear hz hp1
    go_wp2_with (first
      | (go_at_call 16; (with_reducible refine (KL.out _ HC5.out).mono ?_); (first | rintro e w6 rfl hb6 | rintro e w6 ⟨rfl, hb6⟩))
      | (go_at_call 8; (with_reducible refine (KA.out _).mono ?_); (first | rintro e w7 rfl hb7 | rintro e w7 ⟨rfl, hb7⟩)))
    go_ret
    exact ⟨rfl, (HC5.out.keep (hb6.trans (hb7.mono hb6.size))).b⟩
  have hL1 : 1 ≤ L := by first | exact hp1 rfl | exact hp1 trivial
  clear hz hp1 y4
  go_upto_region 9 with (fail)
  have hCo := HC5.out
  clear HC5 HCo HB5
  go_loopw [34] (fun iv wr => ∃ i : Nat, i ≤ M.length ∧ iv = .int .i64 (i : Int) ∧ Co W wr g4 ta tc T a M) (fun iv _ => M.length - (intOf iv).toNat)
  case atStart => exact ⟨0, Nat.zero_le _, rfl, hCo⟩
  case round =>
    clear hCo
    obtain ⟨i, hi, rfl, hP⟩ := hrel
    by_cases hit : i < M.length
    rotate_left
    · have hil : ¬ (i : Int) < (M.length : Int) := by omega
      have y5 := hP.cell
      have hd1 : decide (L ≥ 1) = true := decide_eq_true (by omega)
      have HP := Lib.hid hP
      clear hP
      go_wp2_with (first
        | (go_at_call 16; (with_reducible refine (KL.out _ HP.out).mono ?_); (first | rintro e w6 rfl hb6 | rintro e w6 ⟨rfl, hb6⟩))
        | (go_at_call 8; (with_reducible refine (KA.out _).mono ?_); (first | rintro e w7 rfl hb7 | rintro e w7 ⟨rfl, hb7⟩)))
      go_ret
      exact ⟨rfl, (HP.out.keep (hb6.trans (hb7.mono hb6.size))).b⟩
    · have hil : (i : Int) < (M.length : Int) := by omega
      obtain ⟨g', o', m, rfl, hm, ⟨x0, x1, x2, x3, x4⟩, -, -⟩ := hP.m.mem (k := i) hit
      have bL := (Below.refl wr.heap.size wr).alloc (Nat.le_refl _) (.cells #[.string ⟨m.person.toArray⟩, .int .i64 m.number, .int .i64 m.dept, .int .i64 m.day, .slice m.aa m.ans.length m.ac] 36)
      have hX := Bx.new wr 36 [.string ⟨m.person.toArray⟩, .int .i64 m.number, .int .i64 m.dept, .int .i64 m.day, .slice m.aa m.ans.length m.ac]
      change Bx (wr.alloc (.cells #[.string ⟨m.person.toArray⟩, .int .i64 m.number, .int .i64 m.dept, .int .i64 m.day, .slice m.aa m.ans.length m.ac] 36)) _ _ _ at hX
      have HP := Lib.hid (hP.keep bL)
      clear hP
      go_upto_region 11 with (fail)
      generalize wr.alloc (.cells #[.string ⟨m.person.toArray⟩, .int .i64 m.number, .int .i64 m.dept, .int .i64 m.day, .slice m.aa m.ans.length m.ac] 36) = w6 at *
      generalize wr.heap.size = g7 at *
      clear x0 x1 x2 x3 x4 bL
      have y5 := HP.out.cell
      have KH := Lib.hid (HP.out.holds c (i : Int) HTN.out (by have := HMl.out; omega))
      obtain ⟨R, hR⟩ : ∃ R, R = termF wiF T 0 M (i : Int) := ⟨_, rfl⟩
      have HRT := Lib.hid hR
      rw [← hR] at KH
      clear hR
      go_upto_region 12 with (go_at_call 12; (with_reducible refine KH.out.mono ?_); (first | rintro e w7 rfl hb7 | rintro e w7 ⟨rfl, hb7⟩))
      have hP := HP.out.keep hb7
      have hX7 := hX.keep hb7
      clear hb7 HP KH y5 hX
      go_cut [51] (fun v wx => v = .bool false ∧ Co W wx g4 ta tc T (some ⟨g', o', none⟩) M ∧ Bx wx g7 36 [.string ⟨m.person.toArray⟩, .int .i64 m.number, .int .i64 m.dept, .int .i64 m.day, .slice m.aa m.ans.length m.ac])
      case first =>
        cases R with
        | false =>
          refine wp_region_quiet_below (by kernel_rfl) (by kernel_rfl) ?_
          repeat (go_big_quiet_step (fail))
          refine wpQuiet_nil ?_
          rintro w8 ⟨p2, hw8⟩
          have hb := Lib.hid (show Below w7.heap.size w7 w8 by first | (rw [hw8]; exact below_regrown w7 p2.d p2.os) | (rw [← hw8]; exact below_regrown w7 p2.d p2.os))
          clear hw8
          go_wp2_with fail
          go_meet
          exact ⟨rfl, hP.keep hb.out, hX7.keep hb.out⟩
        | true =>
          have hpl := HTL.out (i : Int) HRT.out.symm
          have KP := Lib.hid (fun V (hV : Co W V g4 ta tc T (some ⟨g', o', none⟩) M) => hV.persons c (i : Int) (by have := HMl.out; omega))
          generalize persF M (i : Int) = Q at *
          have hlt : decide (Q < L) = false := decide_eq_false (by omega)
          have hlt2 : ¬ Q < L := by omega
          refine wp_region_held_drew (S := fun w' => w'.cell? ⟨g4, 0, none⟩ = some (.slice ta T.length tc)) (by kernel_rfl) (hP.keep (Below.refl _ _).drew).cell (fun hHeld => ?_)
          simp only [List.size_toArray, List.length_cons, List.length_nil]
          replace hP := hP.keep (Below.refl _ _).drew
          replace hX7 := hX7.keep (Below.refl _ _).drew
          generalize w7.drew = v1 at *
          refine held_take (0) (v := ?_) rfl (by kernel_rfl) (by kernel_rfl) (by kernel_rfl) (fun _ _ _ h => h) (Or.inl ⟨by rfl, ?_⟩) (by assumption) ?_
          rotate_left
          · intro w hSw
            try dsimp only at hSw
            go_simp
            with_reducible rfl
          try simp only [Act.put, List.setIfInBounds_toArray, List.set_cons_zero, List.set_cons_succ]
          refine held_take (1) (v := ?_) rfl (by kernel_rfl) (by kernel_rfl) (by kernel_rfl) (fun _ _ _ h => h) (Or.inl ⟨by rfl, ?_⟩) (by assumption) ?_
          rotate_left
          · intro w hSw
            try dsimp only at hSw
            go_simp
            with_reducible rfl
          try simp only [Act.put, List.setIfInBounds_toArray, List.set_cons_zero, List.set_cons_succ]
          refine held_take (2) (v := ?_) rfl (by kernel_rfl) (by kernel_rfl) (by kernel_rfl) (fun _ _ _ h => h) (Or.inl ⟨by rfl, ?_⟩) (by assumption) ?_
          rotate_left
          · intro w hSw
            try dsimp only at hSw
            go_simp
            with_reducible rfl
          try simp only [Act.put, List.setIfInBounds_toArray, List.set_cons_zero, List.set_cons_succ]
          refine held_take (3) (v := ?_) rfl (by kernel_rfl) (by kernel_rfl) (by kernel_rfl) (fun _ _ _ h => h) (Or.inl ⟨by rfl, ?_⟩) (by assumption) ?_
          rotate_left
          · intro w hSw
            try dsimp only at hSw
            go_simp
            with_reducible rfl
          try simp only [Act.put, List.setIfInBounds_toArray, List.set_cons_zero, List.set_cons_succ]
          refine held_take (5) (v := ?_) rfl (by kernel_rfl) (by kernel_rfl) (by kernel_rfl) (fun _ _ _ h => h) (Or.inl ⟨by rfl, ?_⟩) (by assumption) ?_
          rotate_left
          · intro w hSw
            try dsimp only at hSw
            go_simp
            with_reducible rfl
          try simp only [Act.put, List.setIfInBounds_toArray, List.set_cons_zero, List.set_cons_succ]
          refine wpAnyH_ready (rs := [4]) (by kernel_rfl) (by simp) ?_
          refine held_cons rfl (fun K hK => ?_) AllReadyH.nil
          go_simp
          go_at_call 14
          (with_reducible refine (KP.out _ hP).mono ?_)
          (first | rintro e v2 rfl hb | rintro e v2 ⟨rfl, hb⟩)
          replace hP := hP.keep hb
          replace hX7 := hX7.keep hb
          clear hb
          go_wp2_with fail
          refine hK.out _ _ hP.cell (fun hHeld => ?_)
          clear hK K
          try simp only [Act.put, List.setIfInBounds_toArray, List.set_cons_zero, List.set_cons_succ]
          refine wpAnyH_ready (rs := [6]) (by kernel_rfl) (by simp) ?_
          refine held_cons rfl (fun K hK => ?_) AllReadyH.nil
          go_simp
          go_at_call 16
          (with_reducible refine (KL.out _ hP).mono ?_)
          (first | rintro e v3 rfl hb | rintro e v3 ⟨rfl, hb⟩)
          replace hP := hP.keep hb
          replace hX7 := hX7.keep hb
          clear hb
          go_wp2_with fail
          refine hK.out _ _ hP.cell (fun hHeld => ?_)
          clear hK K
          try simp only [Act.put, List.setIfInBounds_toArray, List.set_cons_zero, List.set_cons_succ]
          refine held_take (7) (v := ?_) rfl (by kernel_rfl) (by kernel_rfl) (by kernel_rfl) (fun _ _ _ h => h) (Or.inl ⟨by rfl, ?_⟩) (by assumption) ?_
          rotate_left
          · intro w hSw
            try dsimp only at hSw
            go_simp
            with_reducible rfl
          try simp only [Act.put, List.setIfInBounds_toArray, List.set_cons_zero, List.set_cons_succ]
          refine held_take (8) (v := ?_) rfl (by kernel_rfl) (by kernel_rfl) (by kernel_rfl) (fun _ _ _ h => h) (Or.inl ⟨by rfl, ?_⟩) (by assumption) ?_
          rotate_left
          · intro w hSw
            try dsimp only at hSw
            go_simp
            with_reducible rfl
          try simp only [Act.put, List.setIfInBounds_toArray, List.set_cons_zero, List.set_cons_succ]
          refine wpAnyH_done (by kernel_rfl) ?_ _
          go_simp
          go_wp2_with fail
          go_meet
          exact ⟨rfl, hP, hX7⟩
      case rest =>
        obtain ⟨rfl, hP, hX⟩ := hcut
        go_upto_region 17 with (fail)
        obtain ⟨wI, hwI⟩ : ∃ wI, wI = wc := ⟨_, rfl⟩
        have hS0 : Below wI.heap.size wI wc := by rw [hwI]; exact Below.refl _ _
        rw [← hwI] at hP hX
        have HP := Lib.hid hP
        have HX := Lib.hid hX
        clear hwI hP hX hX7
        go_loopw [9, 10, 54] (fun sv av iv wr => ∃ (k n at' : Nat) (X : List Mem) (a2 : Option Addr) (c2 : Nat), k ≤ M.length ∧ iv = .int .i64 (k : Int) ∧ av = .int .i64 (at' : Int) ∧ sv = .slice a2 n c2 ∧ Hid (X.length = n) ∧ Hid (Wo M i m k X at') ∧ Hid (∀ x ∈ X, x ∈ M) ∧ Ow wr wI.heap.size 5 a2 n c2 (rowsC mmC X) ∧ Below wI.heap.size wI wr) (fun _ _ iv _ => M.length - (intOf iv).toNat)
        case atStart => exact ⟨0, 0, 0, [], none, 0, Nat.zero_le _, rfl, rfl, rfl, Lib.hid rfl, Lib.hid (Wo.nil _ _ _), Lib.hid (by simp), Ow.nil _ _ _, hS0⟩
        case round =>
          clear hS0
          obtain ⟨k, n, at', X, a2, c2, hk, rfl, rfl, rfl, HN, HW, HS, hO, hb⟩ := hrel
          by_cases hkt : k < M.length
          rotate_left
          · have hkl : ¬ (k : Int) < (M.length : Int) := by omega
            obtain rfl : k = M.length := by omega
            have et := HW.out.term (wi := wiF) (T := T) hm.out
            have hnl : X.length ≤ 1000 := by have := HW.out.n; have := HMl.out; omega
            have KH2 := cholds_walk T ta tc X a2 c2 (at' : Int) wr ⟨(HP.out.keep hb).t, ⟨hO.rd, fun x hx => ((HP.out.keep hb).m.ans x (HS.out x hx)), fun x hx => (HP.out.keep hb).m.ok x (HS.out x hx)⟩⟩ (by have := HTN.out; omega) (by omega)
            rw [HN.out, et, ← HRT.out] at KH2
            have KH := Lib.hid KH2
            have y7 := (HP.out.keep hb).cell
            have HP9 := Lib.hid (HP.out.keep hb)
            clear KH2 et hO hb hk
            have hRR2 : (R != R) = false := by cases R <;> rfl
            have hRR3 : (R == R) = true := by cases R <;> rfl
            have hwi : IntKind.i64.wrap ((i : Int) + 1) = (i : Int) + 1 := by rw [IntKind.wrap_i64]; have := HMl.out; omega
            go_wp2_with (go_at_call 12; (with_reducible refine KH.out.mono ?_); (first | rintro e w9 rfl hb9 | rintro e w9 ⟨rfl, hb9⟩))
            go_roundw
            case rel => exact ⟨i + 1, by omega, by go_num, HP9.out.keep hb9⟩
            case measure => simp [intOf]; omega
          · have hkl : (k : Int) < (M.length : Int) := by omega
            obtain ⟨ga, oa, y, hga, hy, ⟨z0, z1, z2, z3, z4⟩, -, -⟩ := (HP.out.keep hb).m.mem (k := k) hkt
            obtain ⟨rfl, rfl⟩ : g' = ga ∧ o' = oa := by simpa using hga
            have hnl : n ≤ 7 := by have := HW.out.n; have := HN.out; omega
            have hyM := Lib.hid (mem_at hy)
            have hwk : IntKind.i64.wrap ((k : Int) + 1) = (k : Int) + 1 := by rw [IntKind.wrap_i64]; omega
            have bK := (Below.refl wr.heap.size wr).alloc (Nat.le_refl _) (.cells #[.string ⟨y.person.toArray⟩, .int .i64 y.number, .int .i64 y.dept, .int .i64 y.day, .slice y.aa y.ans.length y.ac] 36)
            have hY := Bx.new wr 36 [.string ⟨y.person.toArray⟩, .int .i64 y.number, .int .i64 y.dept, .int .i64 y.day, .slice y.aa y.ans.length y.ac]
            change Bx (wr.alloc (.cells #[.string ⟨y.person.toArray⟩, .int .i64 y.number, .int .i64 y.dept, .int .i64 y.day, .slice y.aa y.ans.length y.ac] 36)) _ _ _ at hY
            have hb1 := hb.trans (bK.mono hb.size)
            have hO1 := hO.keep bK
            have hX1 := HX.out.keep hb1
            clear hga hb hO
            go_upto_region 19 with (fail)
            generalize wr.alloc (.cells #[.string ⟨y.person.toArray⟩, .int .i64 y.number, .int .i64 y.dept, .int .i64 y.day, .slice y.aa y.ans.length y.ac] 36) = w8 at *
            generalize wr.heap.size = g8 at *
            clear z0 z1 z2 z3 z4 bK
            have z0 := hY.cell 0 rfl
            have z1 := hY.cell 1 rfl
            have z2 := hY.cell 2 rfl
            have z3 := hY.cell 3 rfl
            have z4 := hY.cell 4 rfl
            have x0 := hX1.cell 0 rfl
            by_cases hki : k = i
            · subst hki
              obtain rfl : y = m := by have h1 := hy.out; rw [hm.out] at h1; exact (Option.some.inj h1).symm
              have HW2 : Hid (Wo M k y (k + 1) (X ++ [y]) n) := Lib.hid (by have := HW.out.here hm.out; rw [HN.out] at this; exact this)
              go_wp2_with (at_builtin; refine wpList_app1_at (w0 := wI) (B := wI.heap.size) (base := wI.heap.size) rfl _ _ _ rfl elMem rfl hO1 hb1 (Nat.le_refl _) hb1.size (cs := [.string ⟨y.person.toArray⟩, .int .i64 y.number, .int .i64 y.dept, .int .i64 y.day, .slice y.aa y.ans.length y.ac]) rfl rfl (by intro u hu; simp at hu; rcases hu with rfl | rfl | rfl | rfl | rfl <;> rfl) (by omega) ?_; intro a3 c3 wA hO8 hb8 hg8 hat8; clear hg8 hat8)
              have hO9 : Ow wA wI.heap.size 5 a3 (n + 1) c3 (rowsC mmC (X ++ [y])) := by rw [rowsC_append, rowsC_single]; exact hO8
              clear hO8 hO1 hb1 z0 z1 z2 z3 z4 x0 hX1 hY
              go_wp2_with fail
              go_roundw
              case rel => exact ⟨k + 1, n + 1, n, X ++ [y], a3, c3, by omega, by go_num, rfl, rfl, Lib.hid (by simp [HN.out]), HW2, Lib.hid (fun x hx => (List.mem_append.1 hx).elim (HS.out x) (fun h => by rw [List.mem_singleton.1 h]; exact hyM.out)), hO9, hb8⟩
              case measure => (simp [intOf]; try omega)
            · have hki1 : ¬ (k : Int) = (i : Int) := by omega
              have hki2 : ((k : Int) == (i : Int)) = false := by rw [beq_eq_false_iff_ne]; exact hki1
              have hki3 : decide ((k : Int) = (i : Int)) = false := decide_eq_false hki1
              by_cases hp : y.person = m.person
              · have e1 : (y.person == m.person) = true := by rw [beq_iff_eq]; exact hp
                have e2 : (y.person != m.person) = false := by rw [bne_eq_false_iff_eq]; exact hp
                have HW2 : Hid (Wo M i m (k + 1) X at') := Lib.hid (HW.out.own hy.out hki hp)
                clear hp hX1 hY
                go_wp2_with fail
                go_roundw
                case rel => exact ⟨k + 1, n, at', X, a2, c2, by omega, by go_num, rfl, rfl, HN, HW2, HS, hO1, hb1⟩
                case measure => (simp [intOf]; try omega)
              · have e1 : (y.person == m.person) = false := by rw [beq_eq_false_iff_ne]; exact hp
                have e2 : (y.person != m.person) = true := by rw [bne_iff_ne]; exact hp
                have HW2 : Hid (Wo M i m (k + 1) (X ++ [y]) at') := Lib.hid (HW.out.other hy.out hki hp)
                go_wp2_with (at_builtin; refine wpList_app1_at (w0 := wI) (B := wI.heap.size) (base := wI.heap.size) rfl _ _ _ rfl elMem rfl hO1 hb1 (Nat.le_refl _) hb1.size (cs := [.string ⟨y.person.toArray⟩, .int .i64 y.number, .int .i64 y.dept, .int .i64 y.day, .slice y.aa y.ans.length y.ac]) rfl rfl (by intro u hu; simp at hu; rcases hu with rfl | rfl | rfl | rfl | rfl <;> rfl) (by omega) ?_; intro a3 c3 wA hO8 hb8 hg8 hat8; clear hg8 hat8)
                have hO9 : Ow wA wI.heap.size 5 a3 (n + 1) c3 (rowsC mmC (X ++ [y])) := by rw [rowsC_append, rowsC_single]; exact hO8
                clear hO8 hO1 hb1 z0 z1 z2 z3 z4 x0 hX1 hY
                go_wp2_with fail
                go_roundw
                case rel => exact ⟨k + 1, n + 1, at', X ++ [y], a3, c3, by omega, by go_num, rfl, rfl, Lib.hid (by simp [HN.out]), HW2, Lib.hid (fun x hx => (List.mem_append.1 hx).elim (HS.out x) (fun h => by rw [List.mem_singleton.1 h]; exact hyM.out)), hO9, hb8⟩
                case measure => (simp [intOf]; try omega)
end Go.Proofs.Ytejdaeonknpgeaa
