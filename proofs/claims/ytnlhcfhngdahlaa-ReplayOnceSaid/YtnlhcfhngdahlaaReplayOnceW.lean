/- The law ReplayOnce walked. -/
import Derived.Test.YtnlhcfhngdahlaaReplayS
namespace Go.Proofs.Ytnlhcfhngdahlaa
open Go.RowKit
theorem elI4 : ElemOf Try.prog 29 3 (.int .i64 0) 1 8 := ⟨Try.underlying29, by kernel_rfl, rfl, by decide, by decide⟩
theorem elS4 : ElemOf Try.prog 41 9 (.string ⟨#[]⟩) 1 16 := ⟨Try.underlying41, by kernel_rfl, rfl, by decide, by decide⟩
theorem mkI4 (V : World) : (Instr.makeSlice 29 (.int .i64 4) (.int .i64 4)).run Try.prog V = .ok (.slice (some ⟨V.heap.size, 0, none⟩) 4 4) (V.alloc (.cells #[.int .i64 0, .int .i64 0, .int .i64 0, .int .i64 0] 3)) :=
  by
    have h := mk_run V elI4 rfl .i64 4 (by omega)
    have e : madeCells #[Value.int .i64 0] 4 = #[.int .i64 0, .int .i64 0, .int .i64 0, .int .i64 0] := by kernel_rfl
    rw [e] at h
    exact h
theorem mkS4 (V : World) : (Instr.makeSlice 41 (.int .i64 4) (.int .i64 4)).run Try.prog V = .ok (.slice (some ⟨V.heap.size, 0, none⟩) 4 4) (V.alloc (.cells #[.string ⟨#[]⟩, .string ⟨#[]⟩, .string ⟨#[]⟩, .string ⟨#[]⟩] 9)) :=
  by
    have h := mk_run V elS4 rfl .i64 4 (by omega)
    have e : madeCells #[Value.string ⟨#[]⟩] 4 = #[.string ⟨#[]⟩, .string ⟨#[]⟩, .string ⟨#[]⟩, .string ⟨#[]⟩] := by kernel_rfl
    rw [e] at h
    exact h
set_option maxRecDepth 100000 in
set_option maxHeartbeats 8000000 in
theorem once_walk (W : World) (p : Option Addr) (l : List Int) (cap : Nat) (hR : Rd W p (ints l)) (hl : l.length ≤ 17592186043904) :
    Calls Try.prog 5 #[.slice p l.length cap] W fun e w' => e = .returned (.bool true) ∧ Below W.heap.size W w' := by
  go_enter Try.func5, Try.ntmps5
  have KA := Lib.hid (fun V => awake_walk V)
  go_wp2_with (go_at_call 8; (with_reducible refine (light_walk _ _ _ _ (by omega)).mono ?_))
  rintro e w1 ⟨rfl, rfl⟩
  by_cases hq : l.length ≤ 500
  rotate_left
  · have hd5 : decide (l.length ≤ 500) = false := decide_eq_false hq
    clear hq
    go_wp2_with (go_at_call 6; (with_reducible refine (KA.out _).mono ?_))
    rintro e w1 ⟨rfl, hb1⟩
    go_wp2
    go_ret
    exact ⟨rfl, hb1⟩
  have hd5 : decide (l.length ≤ 500) = true := decide_eq_true hq
  have HR := Lib.hid hR
  have hl48 : l.length ≤ 281474976710656 := by omega
  obtain ⟨db, hdb⟩ : ∃ db, db = W.heap.size := ⟨_, rfl⟩
  have HDB := Lib.hid hdb
  go_wp2_with (go_at_call 9; (with_reducible refine (roll_walk _ _ _ _).mono ?_))
  rintro e w1 ⟨rfl, hD, hb1⟩
  rw [← HDB.out] at hD ⊢
  have hE : Env W w1 db p l cap 0 := ⟨hD, hR.keep hb1, hb1⟩
  clear hdb hR hD hb1 hq hl
  have hdl := hE.dice.lt
  have hA := (((Below.refl w1.heap.size w1).alloc (Nat.le_refl _) (.cells #[.slice none 0 0] 24)).alloc (by simp) (.cells #[.int .i64 0, .int .i64 0, .int .i64 0, .int .i64 0] 3)).alloc (by simp; omega) (.cells #[.string ⟨#[]⟩, .string ⟨#[]⟩, .string ⟨#[]⟩, .string ⟨#[]⟩] 9)
  have hM : On W (((w1.alloc (.cells #[.slice none 0 0] 24)).alloc (.cells #[.int .i64 0, .int .i64 0, .int .i64 0, .int .i64 0] 3)).alloc (.cells #[.string ⟨#[]⟩, .string ⟨#[]⟩, .string ⟨#[]⟩, .string ⟨#[]⟩] 9)) db p l cap 0 w1.heap.size (w1.heap.size + 1) (w1.heap.size + 1 + 1) none [] 0 [0, 0, 0, 0] [[], [], [], []] := by
    have h1 := Bx.new w1 24 [.slice none 0 0]
    have h2 := Bx.new (w1.alloc (.cells #[.slice none 0 0] 24)) 3 (ints [0, 0, 0, 0])
    have h3 := Bx.new ((w1.alloc (.cells #[.slice none 0 0] 24)).alloc (.cells #[.int .i64 0, .int .i64 0, .int .i64 0, .int .i64 0] 3)) 9 (strs [[], [], [], []])
    refine ⟨hE.keep hA, (h1.alloc _).alloc _, ?_, ?_, Ow.nil _ _ _, ⟨by omega, by omega, by omega⟩, by rw [HDB.out]; exact Nat.le_refl _⟩
    · have := h2.alloc (.cells #[.string ⟨#[]⟩, .string ⟨#[]⟩, .string ⟨#[]⟩, .string ⟨#[]⟩] 9)
      rw [show (w1.alloc (.cells #[.slice none 0 0] 24)).heap.size = w1.heap.size + 1 by simp] at this
      exact this
    · rw [show ((w1.alloc (.cells #[.slice none 0 0] 24)).alloc (.cells #[.int .i64 0, .int .i64 0, .int .i64 0, .int .i64 0] 3)).heap.size = w1.heap.size + 1 + 1 by simp] at h3
      exact h3
  obtain ⟨gg, hgg⟩ : ∃ gg, gg = w1.heap.size := ⟨_, rfl⟩
  rw [← hgg] at hM
  have hgw : w1.heap.size = gg := hgg.symm
  have m1 := mkI4
  have m2 := mkS4
  clear hgg hA hE hdl
  go_upto_region 7 with (fail)
  change On W (((w1.alloc (.cells #[.slice none 0 0] 24)).alloc (.cells #[.int .i64 0, .int .i64 0, .int .i64 0, .int .i64 0] 3)).alloc (.cells #[.string ⟨#[]⟩, .string ⟨#[]⟩, .string ⟨#[]⟩, .string ⟨#[]⟩] 9)) db p l cap 0 gg (gg + 1) (gg + 1 + 1) none [] 0 [0, 0, 0, 0] [[], [], [], []] at hM
  generalize ((w1.alloc (.cells #[.slice none 0 0] 24)).alloc (.cells #[.int .i64 0, .int .i64 0, .int .i64 0, .int .i64 0] 3)).alloc (.cells #[.string ⟨#[]⟩, .string ⟨#[]⟩, .string ⟨#[]⟩, .string ⟨#[]⟩] 9) = w2 at *
  generalize gg + 1 + 1 = ga at *
  generalize gg + 1 = gl at *
  clear hgw m1 m2
  have K1 := Lib.hid (hM.dice HR.out hl48 40 (by omega) (by omega))
  have hd1 := dnum_lo l 0 (n := 40) (by omega)
  have hd2 := dnum_hi l 0 (n := 40) (by omega)
  clear hM
  go_wp2_with (go_at_call 10; (with_reducible refine K1.out.mono ?_))
  rintro e w3 ⟨rfl, hM, -⟩
  clear K1
  obtain ⟨n0, hn0, hn1⟩ : ∃ n : Nat, dnum l 0 40 = (n : Int) ∧ n ≤ 39 := ⟨(dnum l 0 40).toNat, by omega, by omega⟩
  rw [hn0]
  clear hn0 hd1 hd2
  generalize dnxt l 0 = q0 at *
  go_wp2_with fail
  go_loopw [7] (fun i wr => ∃ (n q : Nat) (a : Option Addr) (L : List Kpt) (c : Nat) (LA : List Int) (AN : List (List UInt8)), n ≤ 39 ∧ i = .int .i64 (n : Int) ∧ Know L LA AN (39 - n) ∧ On W wr db p l cap q gg gl ga a L c LA AN) (fun i _ => (intOf i).toNat)
  case atStart => exact ⟨n0, q0, none, [], 0, _, _, hn1, rfl, Know.start.mono (by omega), hM⟩
  case round =>
    clear hM hn1
    obtain ⟨n, q, a, L, c, LA, AN, hn, rfl, hK, hM⟩ := hrel
    by_cases hn0 : 0 < n
    · have hi0 : (0 : Int) < (n : Int) := by omega
      have HK := Lib.hid hK
      have K1 := Lib.hid (hM.dice HR.out hl48 3 (by omega) (by omega))
      have hd1 := dnum_lo l q (n := 3) (by omega)
      have hd2 := dnum_hi l q (n := 3) (by omega)
      clear hM hK
      go_wp2_with (go_at_call 10; (with_reducible refine K1.out.mono ?_))
      rintro e w4 ⟨rfl, hM, -⟩
      clear K1
      obtain ⟨s, hs0, hs1, hs3⟩ : ∃ s : Nat, 1 + dnum l q 3 = (s : Int) ∧ 1 ≤ s ∧ s ≤ 3 := ⟨(1 + dnum l q 3).toNat, by omega, by omega, by omega⟩
      have ws : IntKind.i64.wrap (1 + dnum l q 3) = (s : Int) := by rw [IntKind.wrap_i64]; omega
      generalize dnxt l q = q1 at *
      go_upto_region 11 with (fail)
      obtain ⟨cs, an, hcs, han, hc1, hAt⟩ := HK.out.at' s hs1 hs3
      have hc0 := hAt.lo
      have HCS := Lib.hid hcs
      have HAN := Lib.hid han
      have HAT := Lib.hid hAt
      have hLl := HK.out.la
      have hw1 : IntKind.i64.wrap (cs - 1) = cs - 1 := by rw [IntKind.wrap_i64]; omega
      have hcell : w4.cell? ⟨gl, s, none⟩ = some (.int .i64 cs) := hM.la.cell s (by simp [ints, hcs])
      have hs4 : (s : Int) < 4 := by omega
      clear hcs han hAt hd1 hd2 ws hs0
      go_cut [9] (fun v wx => ∃ (gr q : Nat) (r : Rq), v = .pointer (some ⟨gr, 0, none⟩) ∧ r.sen = (s : Int) ∧ r.body = [98, 111, 100, 121] ∧ (1 ≤ r.cnt ∧ r.cnt ≤ 200) ∧ On W wx db p l cap q gg gl ga a L c LA AN ∧ Bx wx gr 26 [.int .i64 r.sen, .int .i64 r.cnt, .string ⟨r.body.toArray⟩] ∧ ga < gr ∧ rowOf a ≠ some gr)
      case first =>
        have K4 : Hid (∀ V, On W V db p l cap q1 gg gl ga a L c LA AN → _) := Lib.hid (fun V h => On.dice (w := V) h HR.out hl48 4 (by omega) (by omega))
        have hd1 := dnum_lo l q1 (n := 4) (by omega)
        have hd2 := dnum_hi l q1 (n := 4) (by omega)
        generalize dnum l q1 4 = d4 at *
        generalize dnxt l q1 = q2 at *
        have hw2 : IntKind.i64.wrap (cs - 1 + d4) = cs - 1 + d4 := by rw [IntKind.wrap_i64]; omega
        --R11
        refine wp_region_held_last' (S := fun w' => w'.cell? ⟨gl, s, none⟩ = some (.int .i64 cs)) 12 rfl (by kernel_rfl) (by kernel_rfl) (by kernel_rfl) hcell (fun hHeld => ?_)
        dsimp only [List.dropLast, List.replicate] at hHeld ⊢
        refine held_take (0) (v := ?_) rfl (by kernel_rfl) (by kernel_rfl) (by kernel_rfl) (fun _ _ _ h => h) (Or.inl ⟨by rfl, ?_⟩) (by assumption) ?_
        rotate_left
        · intro w hSw
          try dsimp only at hSw
          go_simp
          with_reducible rfl
        try simp only [Act.put, List.setIfInBounds_toArray, List.set_cons_zero, List.set_cons_succ]
        refine held_take (1) (v := ?_) rfl (by kernel_rfl) (by kernel_rfl) (by kernel_rfl) (fun _ _ _ h => h) (Or.inl ⟨by rfl, ?_⟩) (by assumption) ?_
        rotate_left
        · intro w hSw
          try dsimp only at hSw
          go_simp
          with_reducible rfl
        try simp only [Act.put, List.setIfInBounds_toArray, List.set_cons_zero, List.set_cons_succ]
        refine held_take (2) (v := ?_) rfl (by kernel_rfl) (by kernel_rfl) (by kernel_rfl) (fun _ _ _ h => h) (Or.inl ⟨by rfl, ?_⟩) (by assumption) ?_
        rotate_left
        · intro w hSw
          try dsimp only at hSw
          go_simp
          with_reducible rfl
        try simp only [Act.put, List.setIfInBounds_toArray, List.set_cons_zero, List.set_cons_succ]
        refine held_take (3) (v := ?_) rfl (by kernel_rfl) (by kernel_rfl) (by kernel_rfl) (fun _ _ _ h => h) (Or.inl ⟨by rfl, ?_⟩) (by assumption) ?_
        rotate_left
        · intro w hSw
          try dsimp only at hSw
          go_simp
          with_reducible rfl
        try simp only [Act.put, List.setIfInBounds_toArray, List.set_cons_zero, List.set_cons_succ]
        refine held_take (4) (v := ?_) rfl (by kernel_rfl) (by kernel_rfl) (by kernel_rfl) (fun _ _ _ h => h) (Or.inl ⟨by rfl, ?_⟩) (by assumption) ?_
        rotate_left
        · intro w hSw
          try dsimp only at hSw
          go_simp
          with_reducible rfl
        try simp only [Act.put, List.setIfInBounds_toArray, List.set_cons_zero, List.set_cons_succ]
        refine held_take (5) (v := ?_) rfl (by kernel_rfl) (by kernel_rfl) (by kernel_rfl) (fun _ _ _ h => h) (Or.inl ⟨by rfl, ?_⟩) (by assumption) ?_
        rotate_left
        · intro w hSw
          try dsimp only at hSw
          go_simp
          with_reducible rfl
        try simp only [Act.put, List.setIfInBounds_toArray, List.set_cons_zero, List.set_cons_succ]
        refine held_take (6) (v := ?_) rfl (by kernel_rfl) (by kernel_rfl) (by kernel_rfl) (fun _ _ _ h => h) (Or.inl ⟨by rfl, ?_⟩) (by assumption) ?_
        rotate_left
        · intro w hSw
          try dsimp only at hSw
          go_simp
          with_reducible rfl
        try simp only [Act.put, List.setIfInBounds_toArray, List.set_cons_zero, List.set_cons_succ]
        refine wpAnyH_ready (rs := [7, 11]) (by kernel_rfl) (by simp) ?_
        refine held_cons rfl (fun K hK => ?_) ?_
        · skip
          go_simp
          go_at_call 10
          replace hM := hM.keep (Below.refl _ _).drew
          (with_reducible refine (K4.out _ hM).mono ?_)
          rintro e wN ⟨rfl, hM, hgN⟩
          go_wp2_with fail
          have hcN : wN.cell? ⟨gl, s, none⟩ = some (.int .i64 cs) := hM.la.cell s (by simp [ints, HCS.out])
          refine hK.out _ _ hcN (fun hHeld => ?_)
          clear hK K
          try simp only [Act.put, List.setIfInBounds_toArray, List.set_cons_zero, List.set_cons_succ]
          refine held_take (8) (v := ?_) rfl (by kernel_rfl) (by kernel_rfl) (by kernel_rfl) (fun _ _ _ h => h) (Or.inl ⟨by rfl, ?_⟩) (by assumption) ?_
          rotate_left
          · intro w hSw
            try dsimp only at hSw
            go_simp
            with_reducible rfl
          try simp only [Act.put, List.setIfInBounds_toArray, List.set_cons_zero, List.set_cons_succ]
          refine held_take (9) (v := ?_) rfl (by kernel_rfl) (by kernel_rfl) (by kernel_rfl) (fun _ _ _ h => h) (Or.inl ⟨by rfl, ?_⟩) (by assumption) ?_
          rotate_left
          · intro w hSw
            try dsimp only at hSw
            go_simp
            with_reducible rfl
          try simp only [Act.put, List.setIfInBounds_toArray, List.set_cons_zero, List.set_cons_succ]
          refine held_take (10) (v := ?_) rfl (by kernel_rfl) (by kernel_rfl) (by kernel_rfl) (fun _ _ _ h => h) (Or.inl ⟨by rfl, ?_⟩) (by assumption) ?_
          rotate_left
          · intro w hSw
            try dsimp only at hSw
            go_simp
            with_reducible rfl
          try simp only [Act.put, List.setIfInBounds_toArray, List.set_cons_zero, List.set_cons_succ]
          refine wpAnyH_ready (rs := [11]) (by kernel_rfl) (by simp) ?_
          refine held_cons rfl (fun K hK => ?_) AllReadyH.nil
          go_simp
          have hM2 := hM.keep ((Below.refl _ _).alloc (Nat.le_refl _) (.cells #[.int .i64 0, .int .i64 0, .string ⟨#[]⟩] 26))
          have hcN2 : (wN.alloc (.cells #[.int .i64 0, .int .i64 0, .string ⟨#[]⟩] 26)).cell? ⟨gl, s, none⟩ = some (.int .i64 cs) := hM2.la.cell s (by simp [ints, HCS.out])
          refine hK.out _ _ hcN2 (fun hHeld => ?_)
          clear hK K
          try simp only [Act.put, List.setIfInBounds_toArray, List.set_cons_zero, List.set_cons_succ]
          refine wpAnyH_done (by kernel_rfl) ?_ _
          dsimp only [Behind]
          go_simp
          go_wp2_with fail
          go_meet
          case rel => exact ⟨wN.heap.size, q2, ⟨(s : Int), max 1 (cs - 1 + d4), [98, 111, 100, 121]⟩, rfl, rfl, rfl, ⟨by simp only; omega, by simp only; omega⟩, hM.keep ((Below.refl _ _).alloc (Nat.le_refl _) _), Bx.new wN _ _, hM.an.lt, fun e => by have := (hM.o.row _ e).2; omega⟩
        · refine held_cons rfl (fun K hK => ?_) AllReadyH.nil
          go_simp
          have hbZ : Below w4.heap.size w4 ((w4.alloc (.cells #[.int .i64 0, .int .i64 0, .string ⟨#[]⟩] 26)).drew) := ((Below.refl _ _).alloc (Nat.le_refl _) (.cells #[.int .i64 0, .int .i64 0, .string ⟨#[]⟩] 26)).drew
          have hZ : Bx ((w4.alloc (.cells #[.int .i64 0, .int .i64 0, .string ⟨#[]⟩] 26)).drew) w4.heap.size 26 [.int .i64 0, .int .i64 0, .string ⟨#[]⟩] := (Bx.new w4 26 [.int .i64 0, .int .i64 0, .string ⟨#[]⟩]).drew
          have hgr : ga < w4.heap.size := hM.an.lt
          have hnr : rowOf a ≠ some w4.heap.size := fun e => by have := (hM.o.row _ e).2; omega
          have hlts := hM.lt
          replace hM := hM.keep hbZ
          clear hbZ
          generalize w4.heap.size = gr at *
          generalize (w4.alloc (.cells #[.int .i64 0, .int .i64 0, .string ⟨#[]⟩] 26)).drew = wZ at *
          have hcZ : wZ.cell? ⟨gl, s, none⟩ = some (.int .i64 cs) := hM.la.cell s (by simp [ints, HCS.out])
          refine hK.out _ _ hcZ (fun hHeld => ?_)
          clear hK K
          try simp only [Act.put, List.setIfInBounds_toArray, List.set_cons_zero, List.set_cons_succ]
          refine wpAnyH_ready (rs := [7]) (by kernel_rfl) (by simp) ?_
          refine held_cons rfl (fun K hK => ?_) AllReadyH.nil
          go_simp
          go_at_call 10
          (with_reducible refine (K4.out _ hM).mono ?_)
          rintro e wN ⟨rfl, hM, hgN⟩
          go_wp2_with fail
          replace hZ := hZ.grown hgN (by simp; omega)
          have hcN : wN.cell? ⟨gl, s, none⟩ = some (.int .i64 cs) := hM.la.cell s (by simp [ints, HCS.out])
          refine hK.out _ _ hcN (fun hHeld => ?_)
          clear hK K
          try simp only [Act.put, List.setIfInBounds_toArray, List.set_cons_zero, List.set_cons_succ]
          refine held_take (8) (v := ?_) rfl (by kernel_rfl) (by kernel_rfl) (by kernel_rfl) (fun _ _ _ h => h) (Or.inl ⟨by rfl, ?_⟩) (by assumption) ?_
          rotate_left
          · intro w hSw
            try dsimp only at hSw
            go_simp
            with_reducible rfl
          try simp only [Act.put, List.setIfInBounds_toArray, List.set_cons_zero, List.set_cons_succ]
          refine held_take (9) (v := ?_) rfl (by kernel_rfl) (by kernel_rfl) (by kernel_rfl) (fun _ _ _ h => h) (Or.inl ⟨by rfl, ?_⟩) (by assumption) ?_
          rotate_left
          · intro w hSw
            try dsimp only at hSw
            go_simp
            with_reducible rfl
          try simp only [Act.put, List.setIfInBounds_toArray, List.set_cons_zero, List.set_cons_succ]
          refine held_take (10) (v := ?_) rfl (by kernel_rfl) (by kernel_rfl) (by kernel_rfl) (fun _ _ _ h => h) (Or.inl ⟨by rfl, ?_⟩) (by assumption) ?_
          rotate_left
          · intro w hSw
            try dsimp only at hSw
            go_simp
            with_reducible rfl
          try simp only [Act.put, List.setIfInBounds_toArray, List.set_cons_zero, List.set_cons_succ]
          refine wpAnyH_done (by kernel_rfl) ?_ _
          dsimp only [Behind]
          have z0 := hZ.free 0
          have z1 := hZ.free 1
          have z2 := hZ.free 2
          have y0 := hZ.cell 0 (v := .int .i64 0) rfl
          have y1 := hZ.cell 1 (v := .int .i64 0) rfl
          have y2 := hZ.cell 2 (v := .string ⟨#[]⟩) rfl
          go_simp
          go_wp2_with fail
          go_meet
          case rel => exact ⟨gr, q2, ⟨(s : Int), max 1 (cs - 1 + d4), [98, 111, 100, 121]⟩, rfl, rfl, rfl, ⟨by simp only; omega, by simp only; omega⟩, ((hM.other HR.out hgr hnr 0 _).other HR.out hgr hnr 1 _).other HR.out hgr hnr 2 _, ((hZ.set 0 _).set 1 _).set 2 _, hgr, hnr⟩
        --/R11
      case rest =>
        clear hM hcell hw1
        obtain ⟨gr, q, r, rfl, e1, e2, ⟨hr1, hr2⟩, hM, hQ, hgr, hnr⟩ := hcut
        have hre : r = ⟨(s : Int), r.cnt, [98, 111, 100, 121]⟩ := by rw [← e1, ← e2]
        have hok : okRq ⟨(s : Int), r.cnt, [98, 111, 100, 121]⟩ := ⟨⟨by simp only; omega, by simp only; omega⟩, ⟨hr1, by simp only; omega⟩, by simp⟩
        have i1 : I64 r.sen := ⟨by omega, by omega⟩
        have i2 : I64 r.cnt := ⟨by omega, by omega⟩
        have hLn := HK.out.len
        obtain ⟨le, hle⟩ : ∃ x, x = (lookF L r).2.2 := ⟨_, rfl⟩
        obtain ⟨lf, hlf⟩ : ∃ x, x = (lookF L r).2.1 := ⟨_, rfl⟩
        obtain ⟨la, hla⟩ : ∃ x, x = (lookF L r).1 := ⟨_, rfl⟩
        have KL : Hid (∀ V, Rd V a (rowsC kpC L) → Calls Try.prog 14 #[.agg #[.slice a L.length c], .agg #[.int .i64 r.sen, .int .i64 r.cnt, .string ⟨r.body.toArray⟩]] V fun e w' => e = .returned (.tuple #[.string ⟨la.toArray⟩, .bool lf, .int .i64 le]) ∧ Below V.heap.size V w') := Lib.hid fun V hV => by rw [hle, hlf, hla]; exact klook_walk a L c r V hV (by omega) i1 i2
        have HLE := Lib.hid hle
        have HLF := Lib.hid hlf
        have HLA := Lib.hid hla
        clear hle hlf hla
        have g0 := hM.g.cell 0 (v := .slice a L.length c) rfl
        have q0 := hQ.cell 0 (v := .int .i64 r.sen) rfl
        have q1 := hQ.cell 1 (v := .int .i64 r.cnt) rfl
        have q2 := hQ.cell 2 (v := .string ⟨r.body.toArray⟩) rfl
        have HE1 := Lib.hid e1
        have HRE := Lib.hid hre
        have HOK := Lib.hid hok
        clear e1 e2 hre hok
        go_upto_region 12 with (fail)
        go_wp2_with (go_at_call 14; (with_reducible refine (KL.out _ hM.o.rd).mono ?_))
        rintro e w6 ⟨rfl, hb6⟩
        replace hM := hM.keep hb6
        replace hQ := hQ.keep hb6
        clear hb6 KL g0 q0 q1 q2
        have q1 := hQ.cell 1 (v := .int .i64 r.cnt) rfl
        have l1 : w6.cell? ⟨gl, s, none⟩ = some (.int .i64 cs) := hM.la.cell s (by simp [ints, HCS.out])
        have hw3 : IntKind.i64.wrap (cs + 1) = cs + 1 := by rw [IntKind.wrap_i64]; omega
        have hwn : IntKind.i64.wrap ((n : Int) - 1) = ((n - 1 : Nat) : Int) := by rw [IntKind.wrap_i64]; omega
        by_cases hA : r.cnt = cs + 1
        · have tA : (r.cnt == cs + 1) = true := beq_iff_eq.2 hA
          have hre2 : r = ⟨(s : Int), cs + 1, [98, 111, 100, 121]⟩ := by rw [← hA]; exact HRE.out
          have hok2 : okRq ⟨(s : Int), cs + 1, [98, 111, 100, 121]⟩ := by rw [← hA]; exact HOK.out
          have hlk := HAT.out.fresh HK.out.ok HK.out.good hok2
          rw [← hre2] at hlk
          have el := HLE.out
          have ef := HLF.out
          rw [hlk] at el ef
          subst el ef
          obtain ⟨x, hx⟩ := byte_of (x := (n : Int)) (by omega) (by omega)
          obtain ⟨y, hy⟩ := byte_of (x := (s : Int)) (by omega) (by omega)
          have wn : IntKind.u8.wrap (n : Int) = (x.toNat : Int) := by rw [IntKind.wrap_u8]; omega
          have wsb : IntKind.u8.wrap (s : Int) = (y.toNat : Int) := by rw [IntKind.wrap_u8]; omega
          have mC : ∀ V : World, (convert 39 9 (.slice (some ⟨V.heap.size, 0, none⟩) 2 2)).run Try.prog (V.alloc (.cells #[.int .u8 (x.toNat : Int), .int .u8 (y.toNat : Int)] 5)).drew = .ok (.string ⟨#[x, y]⟩) (V.alloc (.cells #[.int .u8 (x.toNat : Int), .int .u8 (y.toNat : Int)] 5)).drew := fun V =>
            run_bytes_str _ _ _ _ Try.underlying39 Try.underlying5 Try.underlying9 (l := [x, y]) rfl ((rd_new V 5 (u8s [x, y])).keep (Below.refl _ _).drew)
          obtain ⟨L', hdo, hK'⟩ := HK.out.done (by omega) hs1 hs3 HCS.out HAN.out (a' := [x, y]) (by simp)
          rw [← hre2] at hdo
          have HK' := Lib.hid hK'
          have KD : Hid (∀ V, Rd V a (rowsC kpC L) → Calls Try.prog 15 #[.agg #[.slice a L.length c], .agg #[.int .i64 r.sen, .int .i64 r.cnt, .string ⟨r.body.toArray⟩], .string ⟨#[x, y]⟩] V fun e w' => ∃ a' c', e = .returned (.tuple #[.agg #[.slice a' L'.length c'], .int .i64 0]) ∧ Ow w' V.heap.size 4 a' L'.length c' (rowsC kpC L') ∧ Below V.heap.size V w') := Lib.hid fun V hV => by
            have := kdone_walk a L c r [x, y] V hV (by omega) i1 i2 (by simp)
            rw [hdo] at this
            exact this
          clear hx hy hdo hK' hre2 hok2 hlk i1 i2
          have HA := Lib.hid hA
          have HN := Lib.hid (show n ≤ 39 ∧ 0 < n from ⟨hn, hn0⟩)
          clear hA hr1 hr2 hc1 hn
          go_wp2_with fail
          go_region
          go_upto_region 19 with (fail)
          have hbz := ((Below.refl w6.heap.size w6).alloc (Nat.le_refl _) (.cells #[.int .u8 (x.toNat : Int), .int .u8 (y.toNat : Int)] 5)).drew
          replace hM := hM.keep hbz
          replace hQ := hQ.keep hbz
          generalize (w6.alloc (.cells #[.int .u8 (x.toNat : Int), .int .u8 (y.toNat : Int)] 5)).drew = w7 at *
          generalize w6.heap.size = gu at *
          clear hbz q1 l1 mC
          have g0 := hM.g.cell 0 (v := .slice a L.length c) rfl
          have q0 := hQ.cell 0 (v := .int .i64 r.sen) rfl
          have q1 := hQ.cell 1 (v := .int .i64 r.cnt) rfl
          have q2 := hQ.cell 2 (v := .string ⟨r.body.toArray⟩) rfl
          go_wp2_with (go_at_call 15; (with_reducible refine (KD.out _ hM.o.rd).mono ?_))
          rintro e w8 ⟨a', c', rfl, hO, hb8⟩
          have hga := hM.an.lt
          replace hM := hM.keep hb8
          replace hQ := hQ.keep hb8
          replace hO := hO.lower (show ga + 1 ≤ w7.heap.size by omega)
          clear hb8 KD g0 q0 q1 q2 hga
          have hbz := (Below.refl w8.heap.size w8).alloc (Nat.le_refl _) (.cells #[.slice a' L'.length c'] 24)
          have hH := Bx.new w8 24 [.slice a' L'.length c']
          have hgh := hM.an.lt
          replace hM := hM.keep hbz
          replace hQ := hQ.keep hbz
          replace hO := hO.keep hbz
          clear hbz
          go_upto_region 22 with (fail)
          change Bx (w8.alloc (.cells #[.slice a' L'.length c'] 24)) _ _ _ at hH
          generalize w8.alloc (.cells #[.slice a' L'.length c'] 24) = w9 at *
          generalize w8.heap.size = gh at *
          obtain ⟨o1, o2, o3⟩ := hM.lt
          have hLA := HK.out.la
          have hAN := HK.out.an
          --R22
          have hS := Lib.hid ((hM.step HR.out hO s r.cnt [x, y]).keep (Below.refl _ _).drew)
          have v1 := hM.g.cell 0 (v := .slice a L.length c) rfl
          have v2 := hM.g.free 0
          have v3 := hM.la.cell s (v := .int .i64 cs) (by simp [ints, HCS.out])
          have v4 := hM.la.free s
          have v5 := hM.an.cell s (v := .string ⟨an.toArray⟩) (by simp [strs, HAN.out])
          have v6 := hM.an.free s
          have hH1 := hH.other (b := gg) (by omega) 0 (.slice a' L'.length c')
          have hQ1 := hQ.other (b := gg) (by omega) 0 (.slice a' L'.length c')
          have hH2 := hH1.other (b := gl) (by omega) s (.int .i64 r.cnt)
          have hQ2 := hQ1.other (b := gl) (by omega) s (.int .i64 r.cnt)
          clear hM hO
          refine wp_region_held_last' (S := fun w' => w'.cell? ⟨gh, 0, none⟩ = some (.slice a' L'.length c') ∧ w'.cell? ⟨gr, 1, none⟩ = some (.int .i64 r.cnt)) 12 rfl (by kernel_rfl) (by kernel_rfl) (by kernel_rfl) ⟨hH.drew.cell 0 rfl, hQ.drew.cell 1 rfl⟩ (fun hHeld => ?_)
          dsimp only [List.dropLast, List.replicate] at hHeld ⊢
          refine held_take (0) (v := ?_) rfl (by kernel_rfl) (by kernel_rfl) (by kernel_rfl) (fun _ _ _ h => h) (Or.inl ⟨by rfl, ?_⟩) (by assumption) ?_
          rotate_left
          · intro w hSw
            try dsimp only at hSw
            go_simp
            with_reducible rfl
          try simp only [Act.put, List.setIfInBounds_toArray, List.set_cons_zero, List.set_cons_succ]
          refine held_take (1) (v := ?_) rfl (by kernel_rfl) (by kernel_rfl) (by kernel_rfl) (fun _ _ _ h => h) (Or.inl ⟨by rfl, ?_⟩) (by assumption) ?_
          rotate_left
          · intro w hSw
            try dsimp only at hSw
            go_simp
            with_reducible rfl
          try simp only [Act.put, List.setIfInBounds_toArray, List.set_cons_zero, List.set_cons_succ]
          refine held_take (2) (v := ?_) rfl (by kernel_rfl) (by kernel_rfl) (by kernel_rfl) (fun _ _ _ h => h) (Or.inl ⟨by rfl, ?_⟩) (by assumption) ?_
          rotate_left
          · intro w hSw
            try dsimp only at hSw
            go_simp
            with_reducible rfl
          try simp only [Act.put, List.setIfInBounds_toArray, List.set_cons_zero, List.set_cons_succ]
          refine held_take (3) (v := ?_) rfl (by kernel_rfl) (by kernel_rfl) (by kernel_rfl) (fun _ _ _ h => h) (Or.inl ⟨by rfl, ?_⟩) (by assumption) ?_
          rotate_left
          · intro w hSw
            try dsimp only at hSw
            go_simp
            with_reducible rfl
          try simp only [Act.put, List.setIfInBounds_toArray, List.set_cons_zero, List.set_cons_succ]
          refine held_take (4) (v := ?_) rfl (by kernel_rfl) (by kernel_rfl) (by kernel_rfl) (fun _ _ _ h => h) (Or.inl ⟨by rfl, ?_⟩) (by assumption) ?_
          rotate_left
          · intro w hSw
            try dsimp only at hSw
            go_simp
            with_reducible rfl
          try simp only [Act.put, List.setIfInBounds_toArray, List.set_cons_zero, List.set_cons_succ]
          refine held_take (5) (v := ?_) rfl (by kernel_rfl) (by kernel_rfl) (by kernel_rfl) (fun _ _ _ h => h) (Or.inl ⟨by rfl, ?_⟩) (by assumption) ?_
          rotate_left
          · intro w hSw
            try dsimp only at hSw
            go_simp
            with_reducible rfl
          try simp only [Act.put, List.setIfInBounds_toArray, List.set_cons_zero, List.set_cons_succ]
          refine held_take (6) (v := ?_) rfl (by kernel_rfl) (by kernel_rfl) (by kernel_rfl) (fun _ _ _ h => h) (Or.inl ⟨by rfl, ?_⟩) (by assumption) ?_
          rotate_left
          · intro w hSw
            try dsimp only at hSw
            go_simp
            with_reducible rfl
          try simp only [Act.put, List.setIfInBounds_toArray, List.set_cons_zero, List.set_cons_succ]
          refine held_take (7) (v := ?_) rfl (by kernel_rfl) (by kernel_rfl) (by kernel_rfl) (fun _ _ _ h => h) (Or.inl ⟨by rfl, ?_⟩) (by assumption) ?_
          rotate_left
          · intro w hSw
            try dsimp only at hSw
            go_simp
            with_reducible rfl
          try simp only [Act.put, List.setIfInBounds_toArray, List.set_cons_zero, List.set_cons_succ]
          refine wpAnyH_ready (rs := [8]) (by kernel_rfl) (by simp) ?_
          refine held_cons rfl (fun K hK => ?_) AllReadyH.nil
          go_simp
          refine hK.out _ _ ⟨hH1.drew.cell 0 rfl, hQ1.drew.cell 1 rfl⟩ (fun hHeld => ?_)
          clear hK K
          try simp only [Act.put, List.setIfInBounds_toArray, List.set_cons_zero, List.set_cons_succ]
          refine held_take (9) (v := ?_) rfl (by kernel_rfl) (by kernel_rfl) (by kernel_rfl) (fun _ _ _ h => h) (Or.inl ⟨by rfl, ?_⟩) (by assumption) ?_
          rotate_left
          · intro w hSw
            try dsimp only at hSw
            go_simp
            with_reducible rfl
          try simp only [Act.put, List.setIfInBounds_toArray, List.set_cons_zero, List.set_cons_succ]
          refine wpAnyH_ready (rs := [10]) (by kernel_rfl) (by simp) ?_
          refine held_cons rfl (fun K hK => ?_) AllReadyH.nil
          go_simp
          refine hK.out _ _ ⟨hH2.drew.cell 0 rfl, hQ2.drew.cell 1 rfl⟩ (fun hHeld => ?_)
          clear hK K
          try simp only [Act.put, List.setIfInBounds_toArray, List.set_cons_zero, List.set_cons_succ]
          refine held_take (11) (v := ?_) rfl (by kernel_rfl) (by kernel_rfl) (by kernel_rfl) (fun _ _ _ h => h) (Or.inl ⟨by rfl, ?_⟩) (by assumption) ?_
          rotate_left
          · intro w hSw
            try dsimp only at hSw
            go_simp
            with_reducible rfl
          try simp only [Act.put, List.setIfInBounds_toArray, List.set_cons_zero, List.set_cons_succ]
          refine wpAnyH_done (by kernel_rfl) ?_ _
          dsimp only [Behind]
          go_simp
          generalize (((w9.setCell ⟨gg, 0, none⟩ (.slice a' L'.length c')).setCell ⟨gl, s, none⟩ (.int .i64 r.cnt)).setCell ⟨ga, s, none⟩ (.string ⟨#[x, y]⟩)).drew = w10 at *
          go_wp2_with fail
          go_roundw
          case rel => exact ⟨n - 1, q, a', L', c', _, _, by have := HN.out; omega, rfl, by have := HK'.out; rw [show 39 - (n - 1) = 39 - n + 1 by have := HN.out; omega]; exact this, by have := hS.out; rw [HA.out] at this; exact this⟩
          case measure => have := HN.out; simp [intOf]; omega
          --/R22
        have tA : (r.cnt == cs + 1) = false := beq_eq_false_iff_ne.2 hA
        have HN := Lib.hid (show n ≤ 39 ∧ 0 < n from ⟨hn, hn0⟩)
        have hMd := Lib.hid (hM.keep (Below.refl _ _).drew)
        have hMdd := Lib.hid (hM.keep (Below.refl _ _).drew.drew)
        have HKm := Lib.hid (HK.out.mono (show 39 - n ≤ 39 - (n - 1) by omega))
        by_cases hB : r.cnt = cs
        · have tB : (r.cnt == cs) = true := beq_iff_eq.2 hB
          have hre2 : r = ⟨(s : Int), cs, [98, 111, 100, 121]⟩ := by rw [← hB]; exact HRE.out
          have hok2 : okRq ⟨(s : Int), cs, [98, 111, 100, 121]⟩ := by rw [← hB]; exact HOK.out
          have hlk := HAT.out.again HK.out.ok HK.out.good hok2
          rw [← hre2] at hlk
          have el := HLE.out
          have ef := HLF.out
          have ea := HLA.out
          rw [hlk] at el ef ea
          subst el ef ea
          have l2 : w6.cell? ⟨ga, s, none⟩ = some (.string ⟨la.toArray⟩) := hM.an.cell s (by simp [strs, HAN.out])
          clear hre2 hok2 hlk i1 i2 hA hB hr1 hr2 hc1 hn hM hQ
          go_wp2_with fail
          go_region
          go_wp2_with fail
          go_region
          go_wp2_with fail
          go_roundw
          case rel => exact ⟨n - 1, q, a, L, c, _, _, by have := HN.out; omega, rfl, HKm.out, hMdd.out⟩
          case measure => have := HN.out; simp [intOf]; omega
        · have tB : (r.cnt == cs) = false := beq_eq_false_iff_ne.2 hB
          have hlk := HAT.out.old HK.out.ok HK.out.good HOK.out hA hB
          rw [← HRE.out] at hlk
          have el := HLE.out
          have ef := HLF.out
          rw [hlk] at el ef
          subst el ef
          clear hlk i1 i2 hA hB hr1 hr2 hc1 hn hM hQ
          go_wp2_with fail
          go_region
          go_wp2_with fail
          go_region
          go_wp2_with fail
          go_roundw
          case rel => exact ⟨n - 1, q, a, L, c, _, _, by have := HN.out; omega, rfl, HKm.out, hMdd.out⟩
          case measure => have := HN.out; simp [intOf]; omega
    · have hi0 : ¬ (0 : Int) < (n : Int) := by omega
      have HB := Lib.hid hM.env.below
      clear hK hM hn
      go_wp2_with (go_at_call 6; (with_reducible refine (KA.out _).mono ?_))
      rintro e w4 rfl hb4
      have HB2 := Lib.hid (HB.out.trans (hb4.mono HB.out.size))
      clear hb4 HB
      go_wp2
      go_ret
      exact ⟨rfl, HB2.out⟩
end Go.Proofs.Ytnlhcfhngdahlaa
