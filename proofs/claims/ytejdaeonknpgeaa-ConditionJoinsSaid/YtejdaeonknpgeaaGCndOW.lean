/- The law ConditionOrder walked. -/
import Derived.Test.YtejdaeonknpgeaaGCndW
import Derived.Test.YtejdaeonknpgeaaCndOP
import Derived.Test.YtejdaeonknpgeaaStrApp
namespace Go.Proofs.Ytejdaeonknpgeaa
open Go.RowKit
/-- what stands behind the dice: the condition and the members -/
structure Co (W w : World) (g : Nat) (ta : Option Addr) (tc : Nat) (T : List Trm) (a : Option Addr) (M : List Mem) : Prop where
  b : Below W.heap.size W w
  c : Bx w g 29 [.slice ta T.length tc]
  t : RdT w ta T
  m : RdM w a M
theorem Co.keep {W w w' : World} {g : Nat} {ta : Option Addr} {tc : Nat} {T : List Trm} {a : Option Addr} {M : List Mem} (h : Co W w g ta tc T a M) (hb : Below w.heap.size w w') : Co W w' g ta tc T a M :=
  ⟨h.b.trans (hb.mono h.b.size), h.c.keep hb, h.t.keep hb, h.m.keep hb⟩
theorem Co.holds {W w : World} {g : Nat} {ta : Option Addr} {tc : Nat} {T : List Trm} {a : Option Addr} {M : List Mem} (h : Co W w g ta tc T a M) (c : Nat) (i : Int) (hT : T.length ≤ 1000) (hM : M.length ≤ 1000) :
    Calls Try.prog 12 #[.agg #[.slice ta T.length tc], .slice a M.length c, .int .i64 i] w fun e w' => e = .returned (.bool (termF wiF T 0 M i)) ∧ Below w.heap.size w w' :=
  cholds_walk T ta tc M a c i w ⟨h.t, h.m⟩ (by omega) (by omega)
/-- with the members turned round -/
structure Cp (W w : World) (g : Nat) (ta : Option Addr) (tc : Nat) (T : List Trm) (a : Option Addr) (M : List Mem) (a2 : Option Addr) : Prop where
  o : Co W w g ta tc T a M
  m : RdM w a2 (turnL M)
theorem Cp.keep {W w w' : World} {g : Nat} {ta : Option Addr} {tc : Nat} {T : List Trm} {a : Option Addr} {M : List Mem} {a2 : Option Addr} (h : Cp W w g ta tc T a M a2) (hb : Below w.heap.size w w') : Cp W w' g ta tc T a M a2 := ⟨h.o.keep hb, h.m.keep hb⟩
theorem Cp.cell {W w : World} {g : Nat} {ta : Option Addr} {tc : Nat} {T : List Trm} {a : Option Addr} {M : List Mem} {a2 : Option Addr} (h : Cp W w g ta tc T a M a2) : w.cell? ⟨g, 0, none⟩ = some (.slice ta T.length tc) := h.o.c.cell 0 rfl
theorem Cp.turned {W w : World} {g : Nat} {ta : Option Addr} {tc : Nat} {T : List Trm} {a : Option Addr} {M : List Mem} {a2 : Option Addr} (h : Cp W w g ta tc T a M a2) (c2 : Nat) (i : Int) (hT : T.length ≤ 1000) (hM : M.length ≤ 1000) :
    Calls Try.prog 12 #[.agg #[.slice ta T.length tc], .slice a2 M.length c2, .int .i64 i] w fun e w' => e = .returned (.bool (termF wiF T 0 (turnL M) i)) ∧ Below w.heap.size w w' := by
  have := cholds_walk T ta tc (turnL M) a2 c2 i w ⟨h.o.t, h.m⟩ (by omega) (by rw [turnL_len]; omega)
  rwa [turnL_len] at this
theorem szK4 : szK 4 ≤ 1000 := by decide
theorem renM_in {m : Mem} (h : m.In) (hs : m.person.length ≤ 1) : (renM m).In := by
  refine ⟨?_, h.2⟩
  simp only [renM, List.length_append]
  have : othB.length = 6 := rfl
  omega
set_option maxRecDepth 100000 in
set_option maxHeartbeats 8000000 in
theorem order17_walk (W : World) (p : Option Addr) (l : List Int) (cap : Nat) (hR : Rd W p (ints l)) (hl : l.length ≤ 17592186043904) :
    Calls Try.prog 3 #[.slice p l.length cap] W fun e w' => e = .returned (.bool true) ∧ Below W.heap.size W w' := by
  have KA := Lib.hid (fun V => awake17 V)
  go_enter Try.func3, Try.ntmps3
  go_wp2_with (go_at_call 7; (with_reducible refine (light_walk _ _ _ _ (by omega)).mono ?_))
  (first | rintro e w1 rfl rfl | rintro e w1 ⟨rfl, rfl⟩)
  by_cases hq : l.length ≤ 500
  rotate_left
  · have hd5 : decide (l.length ≤ 500) = false := decide_eq_false hq
    clear hq
    go_wp2_with (go_at_call 8; (with_reducible refine (KA.out _).mono ?_))
    (first | rintro e w1 rfl hb1 | rintro e w1 ⟨rfl, hb1⟩)
    go_wp2
    go_ret
    exact ⟨rfl, hb1⟩
  have hd5 : decide (l.length ≤ 500) = true := decide_eq_true hq
  have HR := Lib.hid hR
  have hl48 : l.length ≤ 281474976710656 := by omega
  obtain ⟨db, hdb⟩ : ∃ db, db = W.heap.size := ⟨_, rfl⟩
  have HDB := Lib.hid hdb
  go_wp2_with (go_at_call 9; (with_reducible refine (roll_walk _ _ _ _).mono ?_))
  (first | rintro e w1 rfl hD hb1 | rintro e w1 ⟨rfl, hD, hb1⟩)
  rw [← HDB.out] at hD ⊢
  have hE : Env W w1 db p l cap 0 := ⟨hD, hR.keep hb1, hb1⟩
  clear hdb hR hD hb1 hq hl hd5
  have KC : Hid (Calls Try.prog 10 #[.pointer (some ⟨db, 0, none⟩), .int .i64 4] w1 _) := Lib.hid (kcond_walk W db p l cap 0 4 w1 hl48 (by omega) (by omega) hE (by rw [HDB.out]; exact Nat.le_refl _) HR.out)
  go_upto_region 5 with (go_at_call 10; (with_reducible refine KC.out.mono ?_); (first | rintro e w2 ⟨T, ta, tc, q2, rfl, -, hTl, hE2, hC2, -⟩ | rintro e w2 T ta tc q2 rfl - hTl hE2 hC2 -))
  have hTn : T.length ≤ 1000 := Nat.le_trans hTl.2 szK4
  have bA := (Below.refl w2.heap.size w2).alloc (Nat.le_refl _) (.cells #[.slice ta T.length tc] 29)
  have hB3 := Bx.new w2 29 [.slice ta T.length tc]
  change Bx (w2.alloc (.cells #[.slice ta T.length tc] 29)) _ _ _ at hB3
  have hE3 := hE2.keep bA
  have hC3 := hC2.keep bA
  have hdl := hE2.dice.lt
  clear bA hE2 hC2 hTl hE KC
  generalize w2.alloc (.cells #[.slice ta T.length tc] 29) = w3 at *
  generalize w2.heap.size = g4 at *
  have KM : Hid (Calls Try.prog 11 #[.pointer (some ⟨db, 0, none⟩), .int .i64 7] w3 (MemRes W w3 db p l cap 7)) := Lib.hid (kmems_walk W db p l cap q2 7 w3 hl48 (by omega) hE3 (by rw [HDB.out]; exact Nat.le_refl _) HR.out)
  go_upto_region 6 with (go_at_call 11; (with_reducible refine KM.out.mono ?_); (first | rintro e w4 ⟨M, a, c, q4, rfl, hMl, hE4, hM4, hk4⟩ | rintro e w4 M a c q4 rfl hMl hE4 hM4 hk4))
  have hCo : Co W w4 g4 ta tc T a M := ⟨hE4.below, hB3.kp hk4 (by omega), (hC3.kp hk4).r, hM4.r⟩
  have hsm := Lib.hid hM4.s
  have HMl := Lib.hid hMl
  clear KM hE3 hB3 hC3 hE4 hM4 hk4 hdl
  have y4 := hCo.c.cell 0 rfl
  have HTN := Lib.hid hTn
  by_cases h0 : M.length = 0
  · obtain rfl : M = [] := List.length_eq_zero_iff.1 h0
    have KH := Lib.hid (hCo.holds c 0 hTn (by simp))
    have e0 : termF wiF T 0 [] 0 = false := by simp [termF]
    rw [e0] at KH
    have HCo := Lib.hid hCo
    clear hCo e0 hTn hMl h0
    change Hid (Calls Try.prog _ #[.agg #[.slice ta T.length tc], .slice a 0 c, .int .i64 0] _ _) at KH
    simp only [List.length_nil] at *
    go_wp2_with (first
      | (go_at_call 12; (with_reducible refine KH.out.mono ?_); (first | rintro e w5 rfl hb5 | rintro e w5 ⟨rfl, hb5⟩))
      | (go_at_call 8; (with_reducible refine (KA.out _).mono ?_); (first | rintro e w6 rfl hb6 | rintro e w6 ⟨rfl, hb6⟩)))
    go_ret
    exact ⟨rfl, (HCo.out.keep (hb5.trans (hb6.mono hb5.size))).b⟩
  have hn0 : decide ((M.length : Int) = 0) = false := decide_eq_false (by omega)
  have hn1 : ((M.length : Int) == 0) = false := by rw [beq_eq_false_iff_ne]; omega
  have hw1 : IntKind.i64.wrap ((M.length : Int) - 1) = (M.length : Int) - 1 := by rw [IntKind.wrap_i64]; omega
  have HCo := Lib.hid hCo
  clear hCo y4
  go_upto_region 10 with (fail)
  obtain ⟨wL, hwL⟩ : ∃ wL, wL = w4 := ⟨_, rfl⟩
  have hS0 : Below wL.heap.size wL w4 := by rw [hwL]; exact Below.refl _ _
  rw [← hwL] at HCo
  clear hwL
  go_loopw [6, 7] (fun sv iv wr => ∃ (k : Nat) (a2 : Option Addr) (c2 : Nat) (j : Int), k ≤ M.length ∧ iv = .int .i64 j ∧ Hid (j = (M.length : Int) - 1 - (k : Int)) ∧ sv = .slice a2 k c2 ∧ Ow wr wL.heap.size 5 a2 k c2 (rowsC mmC ((turnL M).take k)) ∧ Below wL.heap.size wL wr) (fun _ iv _ => (intOf iv + 1).toNat)
  case atStart => exact ⟨0, none, 0, _, Nat.zero_le _, rfl, Lib.hid (by omega), rfl, Ow.nil _ _ _, hS0⟩
  case round =>
    clear hS0
    obtain ⟨k, a2, c2, j0, hk, rfl, hj, rfl, hO, hb⟩ := hrel
    by_cases hkt : k < M.length
    · obtain ⟨j, hjn⟩ : ∃ j : Nat, j = M.length - 1 - k := ⟨_, rfl⟩
      have hjt : j < M.length := by omega
      obtain rfl : j0 = (j : Int) := by have := hj.out; omega
      have hjl : (j : Int) < (M.length : Int) := by omega
      obtain ⟨g', o', y, rfl, hy, ⟨x0, x1, x2, x3, x4⟩, -, hIn⟩ := (HCo.out.keep hb).m.mem (k := j) hjt
      have hyl : y.person.length ≤ 1 := hsm.out y (mem_at hy.out)
      have HN : Hid ((turnL M).take (k + 1) = (turnL M).take k ++ [renM y]) := Lib.hid (turn_next M k y hkt (by rw [← hjn]; exact hy.out))
      have hge : decide ((j : Int) ≥ 0) = true := decide_eq_true (by omega)
      have hwj : IntKind.i64.wrap ((j : Int) - 1) = (j : Int) - 1 := by rw [IntKind.wrap_i64]; omega
      clear hIn hy hjn
      go_upto_region 14 with (fail)
      have bL := (Below.refl wr.heap.size wr).alloc (Nat.le_refl _) (.cells #[.string ⟨(111 :: 116 :: 104 :: 101 :: 114 :: 32 :: y.person).toArray⟩, .int .i64 y.number, .int .i64 y.dept, .int .i64 y.day, .slice y.aa y.ans.length y.ac] 36)
      have hX := Bx.new wr 36 [.string ⟨(111 :: 116 :: 104 :: 101 :: 114 :: 32 :: y.person).toArray⟩, .int .i64 y.number, .int .i64 y.dept, .int .i64 y.day, .slice y.aa y.ans.length y.ac]
      change Bx (wr.alloc (.cells #[.string ⟨(111 :: 116 :: 104 :: 101 :: 114 :: 32 :: y.person).toArray⟩, .int .i64 y.number, .int .i64 y.dept, .int .i64 y.day, .slice y.aa y.ans.length y.ac] 36)) _ _ _ at hX
      have hb1 := hb.trans (bL.mono hb.size)
      have hO1 := hO.keep bL
      have hsL := hb.size
      clear hO hb x0 x1 x2 x3 x4
      generalize wr.alloc (.cells #[.string ⟨(111 :: 116 :: 104 :: 101 :: 114 :: 32 :: y.person).toArray⟩, .int .i64 y.number, .int .i64 y.dept, .int .i64 y.day, .slice y.aa y.ans.length y.ac] 36) = w7 at *
      generalize wr.heap.size = g7 at *
      have x0 := hX.cell 0 rfl
      have x1 := hX.cell 1 rfl
      have x2 := hX.cell 2 rfl
      have x3 := hX.cell 3 rfl
      have x4 := hX.cell 4 rfl
      go_wp2_with (at_builtin; refine wpList_app1_at (w0 := wL) (B := wL.heap.size) (base := wL.heap.size) rfl _ _ _ rfl elMem rfl hO1 hb1 (Nat.le_refl _) hb1.size (cs := [.string ⟨(111 :: 116 :: 104 :: 101 :: 114 :: 32 :: y.person).toArray⟩, .int .i64 y.number, .int .i64 y.dept, .int .i64 y.day, .slice y.aa y.ans.length y.ac]) rfl rfl (by intro u hu; simp at hu; rcases hu with rfl | rfl | rfl | rfl | rfl <;> rfl) (by omega) ?_; intro a3 c3 wA hO8 hb8 hg8 hat8; clear hg8 hat8)
      have hO9 : Ow wA wL.heap.size 5 a3 (k + 1) c3 (rowsC mmC ((turnL M).take (k + 1))) := by
        rw [HN.out, rowsC_append, rowsC_single]; exact hO8
      clear hO8 hO1 hb1 x0 x1 x2 x3 x4 hX
      go_roundw
      case rel => exact ⟨k + 1, a3, c3, _, by omega, rfl, Lib.hid (by have := hj.out; omega), rfl, hO9, hb8⟩
      case measure => (simp [intOf]; try omega)
    · obtain rfl : k = M.length := by omega
      obtain rfl : j0 = -1 := by have := hj.out; omega
      have htk : (turnL M).take M.length = turnL M := by rw [← turnL_len M, List.take_length]
      rw [htk] at hO
      have hCp : Cp W wr g4 ta tc T a M a2 :=
        ⟨HCo.out.keep hb, ⟨hO.rd, fun m hm => by
          obtain ⟨x, hx, rfl⟩ := List.mem_map.1 (List.mem_reverse.1 hm)
          exact (HCo.out.m.ans x hx).keep hb, fun m hm => by
          obtain ⟨x, hx, rfl⟩ := List.mem_map.1 (List.mem_reverse.1 hm)
          exact renM_in (HCo.out.m.ok x hx) (hsm.out x hx)⟩⟩
      clear hO hb htk hj hk hkt
      go_upto_region 16 with (fail)
      go_loopw [51] (fun iv wr => ∃ i : Nat, i ≤ M.length ∧ iv = .int .i64 (i : Int) ∧ Cp W wr g4 ta tc T a M a2) (fun iv _ => M.length - (intOf iv).toNat)
      case atStart => exact ⟨0, Nat.zero_le _, rfl, hCp⟩
      case round =>
        clear hCp
        obtain ⟨i, hi, rfl, hP⟩ := hrel
        by_cases hit : i < M.length
        rotate_left
        · have hil : ¬ (i : Int) < (M.length : Int) := by omega
          have HB := Lib.hid hP.o.b
          have HP := Lib.hid hP
          clear hP
          go_wp2_with (go_at_call 8; (with_reducible refine (KA.out _).mono ?_); (first | rintro e w9 rfl hb9 | rintro e w9 ⟨rfl, hb9⟩))
          go_ret
          exact ⟨rfl, HB.out.trans (hb9.mono HB.out.size)⟩
        · have hil : (i : Int) < (M.length : Int) := by omega
          have et := term_turn wiF T M i hit
          have K1 := Lib.hid (fun V (hV : Cp W V g4 ta tc T a M a2) => hV.o.holds c (i : Int) HTN.out (by have := HMl.out; omega))
          have K2 := Lib.hid (fun V (hV : Cp W V g4 ta tc T a M a2) => hV.turned c2 ((M.length : Int) - 1 - (i : Int)) HTN.out (by have := HMl.out; omega))
          rw [et] at K2
          clear et
          generalize termF wiF T 0 M (i : Int) = R at *
          have hRR2 : (R != R) = false := by cases R <;> rfl
          have hRR3 : (R == R) = true := by cases R <;> rfl
          have hw2 : IntKind.i64.wrap ((M.length : Int) - 1 - (i : Int)) = (M.length : Int) - 1 - (i : Int) := by rw [IntKind.wrap_i64]; omega
          have hwi : IntKind.i64.wrap ((i : Int) + 1) = (i : Int) + 1 := by rw [IntKind.wrap_i64]; omega
          go_upto_region 18 with (fail)
          refine wp_region_held_drew (S := fun w' => w'.cell? ⟨g4, 0, none⟩ = some (.slice ta T.length tc)) (by kernel_rfl) (hP.keep (Below.refl _ _).drew).cell (fun hHeld => ?_)
          simp only [List.size_toArray, List.length_cons, List.length_nil]
          replace hP := hP.keep (Below.refl _ _).drew
          generalize wr.drew = v1 at *
          refine held_take (0) (v := ?_) rfl (by kernel_rfl) (by kernel_rfl) (by kernel_rfl) (fun _ _ _ h => h) (Or.inl ⟨by rfl, ?_⟩) (by assumption) ?_
          rotate_left
          · intro w hSw
            try dsimp only at hSw
            go_simp
            with_reducible rfl
          try simp only [Act.put, List.setIfInBounds_toArray, List.set_cons_zero, List.set_cons_succ]
          refine held_take (1) (v := ?_) rfl (by kernel_rfl) (by kernel_rfl) (by kernel_rfl) (fun _ _ _ h => h) (Or.inl ⟨by rfl, ?_⟩) (by assumption) ?_
          rotate_left
          · intro w hSw
            try dsimp only at hSw
            go_simp
            with_reducible rfl
          try simp only [Act.put, List.setIfInBounds_toArray, List.set_cons_zero, List.set_cons_succ]
          refine held_take (2) (v := ?_) rfl (by kernel_rfl) (by kernel_rfl) (by kernel_rfl) (fun _ _ _ h => h) (Or.inl ⟨by rfl, ?_⟩) (by assumption) ?_
          rotate_left
          · intro w hSw
            try dsimp only at hSw
            go_simp
            with_reducible rfl
          try simp only [Act.put, List.setIfInBounds_toArray, List.set_cons_zero, List.set_cons_succ]
          refine held_take (4) (v := ?_) rfl (by kernel_rfl) (by kernel_rfl) (by kernel_rfl) (fun _ _ _ h => h) (Or.inl ⟨by rfl, ?_⟩) (by assumption) ?_
          rotate_left
          · intro w hSw
            try dsimp only at hSw
            go_simp
            with_reducible rfl
          try simp only [Act.put, List.setIfInBounds_toArray, List.set_cons_zero, List.set_cons_succ]
          refine held_take (5) (v := ?_) rfl (by kernel_rfl) (by kernel_rfl) (by kernel_rfl) (fun _ _ _ h => h) (Or.inl ⟨by rfl, ?_⟩) (by assumption) ?_
          rotate_left
          · intro w hSw
            try dsimp only at hSw
            go_simp
            with_reducible rfl
          try simp only [Act.put, List.setIfInBounds_toArray, List.set_cons_zero, List.set_cons_succ]
          refine held_take (6) (v := ?_) rfl (by kernel_rfl) (by kernel_rfl) (by kernel_rfl) (fun _ _ _ h => h) (Or.inl ⟨by rfl, ?_⟩) (by assumption) ?_
          rotate_left
          · intro w hSw
            try dsimp only at hSw
            go_simp
            with_reducible rfl
          try simp only [Act.put, List.setIfInBounds_toArray, List.set_cons_zero, List.set_cons_succ]
          refine held_take (7) (v := ?_) rfl (by kernel_rfl) (by kernel_rfl) (by kernel_rfl) (fun _ _ _ h => h) (Or.inl ⟨by rfl, ?_⟩) (by assumption) ?_
          rotate_left
          · intro w hSw
            try dsimp only at hSw
            go_simp
            with_reducible rfl
          try simp only [Act.put, List.setIfInBounds_toArray, List.set_cons_zero, List.set_cons_succ]
          refine held_take (8) (v := ?_) rfl (by kernel_rfl) (by kernel_rfl) (by kernel_rfl) (fun _ _ _ h => h) (Or.inl ⟨by rfl, ?_⟩) (by assumption) ?_
          rotate_left
          · intro w hSw
            try dsimp only at hSw
            go_simp
            with_reducible rfl
          try simp only [Act.put, List.setIfInBounds_toArray, List.set_cons_zero, List.set_cons_succ]
          refine held_take (9) (v := ?_) rfl (by kernel_rfl) (by kernel_rfl) (by kernel_rfl) (fun _ _ _ h => h) (Or.inl ⟨by rfl, ?_⟩) (by assumption) ?_
          rotate_left
          · intro w hSw
            try dsimp only at hSw
            go_simp
            with_reducible rfl
          try simp only [Act.put, List.setIfInBounds_toArray, List.set_cons_zero, List.set_cons_succ]
          refine held_take (10) (v := ?_) rfl (by kernel_rfl) (by kernel_rfl) (by kernel_rfl) (fun _ _ _ h => h) (Or.inl ⟨by rfl, ?_⟩) (by assumption) ?_
          rotate_left
          · intro w hSw
            try dsimp only at hSw
            go_simp
            with_reducible rfl
          try simp only [Act.put, List.setIfInBounds_toArray, List.set_cons_zero, List.set_cons_succ]
          refine wpAnyH_ready (rs := [3]) (by kernel_rfl) (by simp) ?_
          refine held_cons rfl (fun K hK => ?_) AllReadyH.nil
          go_simp
          go_at_call 12
          (with_reducible refine (K1.out _ hP).mono ?_)
          (first | rintro e v2 rfl hb | rintro e v2 ⟨rfl, hb⟩)
          replace hP := hP.keep hb
          clear hb
          go_wp2_with fail
          refine hK.out _ _ hP.cell (fun hHeld => ?_)
          clear hK K
          try simp only [Act.put, List.setIfInBounds_toArray, List.set_cons_zero, List.set_cons_succ]
          refine wpAnyH_ready (rs := [11]) (by kernel_rfl) (by simp) ?_
          refine held_cons rfl (fun K hK => ?_) AllReadyH.nil
          go_simp
          go_at_call 12
          (with_reducible refine (K2.out _ hP).mono ?_)
          (first | rintro e v3 rfl hb | rintro e v3 ⟨rfl, hb⟩)
          replace hP := hP.keep hb
          clear hb
          go_wp2_with fail
          refine hK.out _ _ hP.cell (fun hHeld => ?_)
          clear hK K
          try simp only [Act.put, List.setIfInBounds_toArray, List.set_cons_zero, List.set_cons_succ]
          refine held_take (12) (v := ?_) rfl (by kernel_rfl) (by kernel_rfl) (by kernel_rfl) (fun _ _ _ h => h) (Or.inl ⟨by rfl, ?_⟩) (by assumption) ?_
          rotate_left
          · intro w hSw
            try dsimp only at hSw
            go_simp
            with_reducible rfl
          try simp only [Act.put, List.setIfInBounds_toArray, List.set_cons_zero, List.set_cons_succ]
          refine wpAnyH_done (by kernel_rfl) ?_ _
          have HP := Lib.hid hP
          clear hP
          go_simp
          go_wp2_with fail
          go_roundw
          case rel => exact ⟨i + 1, by omega, by go_num, HP.out⟩
          case measure => simp [intOf]; omega
end Go.Proofs.Ytejdaeonknpgeaa
