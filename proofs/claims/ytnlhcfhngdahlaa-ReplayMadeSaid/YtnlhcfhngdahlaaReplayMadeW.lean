/- The law ReplayMade walked. -/
import Derived.Test.YtnlhcfhngdahlaaReplayR
import Derived.Test.YtnlhcfhngdahlaaMake
namespace Go.Proofs.Ytnlhcfhngdahlaa
open Go.RowKit
theorem elB8 : ElemOf Try.prog 39 5 (.int .u8 0) 1 1 := ⟨Try.underlying39, by kernel_rfl, rfl, by decide, by decide⟩
set_option maxRecDepth 100000 in
set_option maxHeartbeats 8000000 in
theorem made_walk (W : World) (p : Option Addr) (l : List Int) (cap : Nat) (hR : Rd W p (ints l)) (hl : l.length ≤ 17592186043904) (n : Int) (hn : I64 n) :
    Calls Try.prog 4 #[.slice p l.length cap, .int .i64 n] W fun e w' => e = .returned (.bool true) ∧ Below W.heap.size W w' := by
  go_enter Try.func4, Try.ntmps4
  have KA := Lib.hid (fun V => awake_walk V)
  go_wp2_with (go_at_call 8; (with_reducible refine (light_walk _ _ _ _ (by omega)).mono ?_))
  rintro e w1 ⟨rfl, rfl⟩
  by_cases hq : l.length ≤ 500
  rotate_left
  · have hd5 : decide (l.length ≤ 500) = false := decide_eq_false hq
    clear hq
    go_wp2_with (go_at_call 6; (with_reducible refine (KA.out _).mono ?_))
    rintro e w1 ⟨rfl, hb1⟩
    go_wp2
    go_ret
    exact ⟨rfl, hb1⟩
  have hd5 : decide (l.length ≤ 500) = true := decide_eq_true hq
  have HR := Lib.hid hR
  have hl48 : l.length ≤ 281474976710656 := by omega
  obtain ⟨db, hdb⟩ : ∃ db, db = W.heap.size := ⟨_, rfl⟩
  have HDB := Lib.hid hdb
  go_wp2_with (go_at_call 9; (with_reducible refine (roll_walk _ _ _ _).mono ?_))
  rintro e w1 ⟨rfl, hD, hb1⟩
  rw [← HDB.out] at hD ⊢
  have hE : Env W w1 db p l cap 0 := ⟨hD, hR.keep hb1, hb1⟩
  clear hdb hR hD hb1 hq hl
  obtain ⟨gg, hgg⟩ : ∃ gg, gg = w1.heap.size := ⟨_, rfl⟩
  have hdl := hE.dice.lt
  have hA := (Below.refl w1.heap.size w1).alloc (Nat.le_refl _) (.cells #[.slice none 0 0] 24)
  have hM : Mg W (w1.alloc (.cells #[.slice none 0 0] 24)) db p l cap 0 gg none [] 0 := by
    rw [hgg]
    exact ⟨hE.keep hA, Bx.new w1 _ _, Ow.nil _ _ _, fun _ => rfl, by omega, by rw [HDB.out]; exact Nat.le_refl _⟩
  have hgw : w1.heap.size = gg := hgg.symm
  clear hgg hA hE hdl
  go_wp2_with fail
  change Mg W (w1.alloc (.cells #[.slice none 0 0] 24)) db p l cap 0 gg none [] 0 at hM
  generalize w1.alloc (.cells #[.slice none 0 0] 24) = w2 at *
  clear hgw
  go_loopw [7] (fun i wr => ∃ (k q : Nat) (a : Option Addr) (L : List Kpt) (c : Nat), k ≤ 6 ∧ i = .int .i64 ((k : Int) + 1) ∧ L.length ≤ k ∧ Mg W wr db p l cap q gg a L c) (fun i _ => 7 - (intOf i).toNat)
  case atStart => exact ⟨0, 0, none, [], 0, by omega, rfl, by simp, hM⟩
  case round =>
    clear hM
    obtain ⟨k, q, a, L, c, hk, rfl, hL, hM⟩ := hrel
    have K1 := Lib.hid (mg_next hM HR.out hl48 6 (by omega) (by omega))
    have hd1 := dnum_lo l q (n := 6) (by omega)
    have hd2 := dnum_hi l q (n := 6) (by omega)
    clear hM
    go_wp2_with (go_at_call 10; (with_reducible refine K1.out.mono ?_))
    rintro e w3 ⟨rfl, hM⟩
    clear K1
    generalize dnxt l q = q3 at *
    generalize dnum l q 6 = y at *
    by_cases hky : (k : Int) + 1 ≤ y
    · have hk4 : k ≤ 4 := by omega
      have K2 := Lib.hid (mg_next hM HR.out hl48 4 (by omega) (by omega))
      have he1 := dnum_lo l q3 (n := 4) (by omega)
      have he2 := dnum_hi l q3 (n := 4) (by omega)
      clear hM hd1 hd2
      go_wp2_with (go_at_call 10; (with_reducible refine K2.out.mono ?_))
      rintro e w4 ⟨rfl, hM⟩
      clear K2
      generalize dnum l q3 4 = d4 at *
      generalize dnxt l q3 = q4 at *
      have hM5 := hM.keep ((Below.refl _ _).alloc (Nat.le_refl _) (.cells #[.string ⟨#[97]⟩, .string ⟨#[98]⟩] 9))
      have hX5 : Rd (w4.alloc (.cells #[.string ⟨#[97]⟩, .string ⟨#[98]⟩] 9)) (some ⟨w4.heap.size, 0, none⟩) (strs [[97], [98]]) := rd_new w4 9 (strs [[97], [98]])
      have K3 := Lib.hid (mg_word hM5 HR.out hl48 w4.heap.size [[97], [98]] 2 2 rfl hX5 (by have := hM.g.lt; have := hM.lt; omega) (by omega) (by omega))
      clear hM hM5 hX5
      go_wp2_with (go_at_call 11; (with_reducible refine K3.out.mono ?_))
      rintro e w5 ⟨rfl, hM⟩
      clear K3
      have hwd : (wordF l q4 [[97], [98]]).length ≤ 1 := by
        have := wordF_mem l q4 [[97], [98]] (by simp)
        simp only [List.mem_cons, List.not_mem_nil, or_false] at this
        rcases this with h | h <;> rw [h] <;> simp
      generalize wordF l q4 [[97], [98]] = wd at *
      generalize dnxt l q4 = q5 at *
      go_upto_region 9 with (fail)
      obtain ⟨r, e1, e2, e3⟩ : ∃ r : Rq, r.sen = ((k : Int) + 1) * 2 ∧ r.cnt = 1 + d4 ∧ r.body = wd := ⟨⟨_, _, _⟩, rfl, rfl, rfl⟩
      have i1 : I64 r.sen := ⟨by omega, by omega⟩
      have i2 : I64 r.cnt := ⟨by omega, by omega⟩
      rw [← e1, ← e2, ← e3]
      rw [← e3] at hwd
      clear e1 e2 e3
      have KM := Lib.hid (fun V => rkmark_walk r V i1 i2 (by omega))
      have hM0 := hM.box r
      change Mr W (w5.alloc (.cells #[.int .i64 r.sen, .int .i64 r.cnt, .string ⟨r.body.toArray⟩] 26)) db p l cap q5 gg a L c w5.heap.size r at hM0
      generalize w5.alloc (.cells #[.int .i64 r.sen, .int .i64 r.cnt, .string ⟨r.body.toArray⟩] 26) = w6 at *
      clear hM i1 i2 he1 he2
      have hM := hM0
      clear hM0
      generalize w5.heap.size = gr at *
      --R9
      -- region 9
      refine wp_region_held_last' (S := fun w' => w'.cell? ⟨gg, 0, none⟩ = some (.slice a L.length c) ∧ w'.cell? ⟨gr, 0, none⟩ = some (.int .i64 r.sen) ∧ w'.cell? ⟨gr, 1, none⟩ = some (.int .i64 r.cnt) ∧ w'.cell? ⟨gr, 2, none⟩ = some (.string ⟨r.body.toArray⟩)) 15 rfl (by kernel_rfl) (by kernel_rfl) (by kernel_rfl) (hM.keep (Below.refl _ _).drew).held (fun hHeld => ?_)
      dsimp only [List.dropLast, List.replicate] at hHeld ⊢
      refine held_take (0) (v := ?_) rfl (by kernel_rfl) (by kernel_rfl) (by kernel_rfl) (fun _ _ _ h => h) (Or.inl ⟨by rfl, ?_⟩) (by assumption) ?_
      rotate_left
      · intro w hSw
        try dsimp only at hSw
        go_simp
        with_reducible rfl
      try simp only [Act.put, List.setIfInBounds_toArray, List.set_cons_zero, List.set_cons_succ]
      refine held_take (1) (v := ?_) rfl (by kernel_rfl) (by kernel_rfl) (by kernel_rfl) (fun _ _ _ h => h) (Or.inl ⟨by rfl, ?_⟩) (by assumption) ?_
      rotate_left
      · intro w hSw
        try dsimp only at hSw
        go_simp
        with_reducible rfl
      try simp only [Act.put, List.setIfInBounds_toArray, List.set_cons_zero, List.set_cons_succ]
      refine held_take (2) (v := ?_) rfl (by kernel_rfl) (by kernel_rfl) (by kernel_rfl) (fun _ _ _ h => h) (Or.inl ⟨by rfl, ?_⟩) (by assumption) ?_
      rotate_left
      · intro w hSw
        try dsimp only at hSw
        go_simp
        with_reducible rfl
      try simp only [Act.put, List.setIfInBounds_toArray, List.set_cons_zero, List.set_cons_succ]
      refine held_take (3) (v := ?_) rfl (by kernel_rfl) (by kernel_rfl) (by kernel_rfl) (fun _ _ _ h => h) (Or.inl ⟨by rfl, ?_⟩) (by assumption) ?_
      rotate_left
      · intro w hSw
        try dsimp only at hSw
        go_simp
        with_reducible rfl
      try simp only [Act.put, List.setIfInBounds_toArray, List.set_cons_zero, List.set_cons_succ]
      refine held_take (4) (v := ?_) rfl (by kernel_rfl) (by kernel_rfl) (by kernel_rfl) (fun _ _ _ h => h) (Or.inl ⟨by rfl, ?_⟩) (by assumption) ?_
      rotate_left
      · intro w hSw
        try dsimp only at hSw
        go_simp
        with_reducible rfl
      try simp only [Act.put, List.setIfInBounds_toArray, List.set_cons_zero, List.set_cons_succ]
      refine held_take (5) (v := ?_) rfl (by kernel_rfl) (by kernel_rfl) (by kernel_rfl) (fun _ _ _ h => h) (Or.inl ⟨by rfl, ?_⟩) (by assumption) ?_
      rotate_left
      · intro w hSw
        try dsimp only at hSw
        go_simp
        with_reducible rfl
      try simp only [Act.put, List.setIfInBounds_toArray, List.set_cons_zero, List.set_cons_succ]
      refine held_take (6) (v := ?_) rfl (by kernel_rfl) (by kernel_rfl) (by kernel_rfl) (fun _ _ _ h => h) (Or.inl ⟨by rfl, ?_⟩) (by assumption) ?_
      rotate_left
      · intro w hSw
        try dsimp only at hSw
        go_simp
        with_reducible rfl
      try simp only [Act.put, List.setIfInBounds_toArray, List.set_cons_zero, List.set_cons_succ]
      refine held_take (8) (v := ?_) rfl (by kernel_rfl) (by kernel_rfl) (by kernel_rfl) (fun _ _ _ h => h) (Or.inl ⟨by rfl, ?_⟩) (by assumption) ?_
      rotate_left
      · intro w hSw
        try dsimp only at hSw
        go_simp
        with_reducible rfl
      try simp only [Act.put, List.setIfInBounds_toArray, List.set_cons_zero, List.set_cons_succ]
      refine wpAnyH_ready (rs := [7, 9]) (by kernel_rfl) (by simp) ?_
      refine held_cons rfl (fun K hK => ?_) ?_
      · skip
        replace hM := hM.keep (Below.refl _ _).drew
        go_simp
        go_at_call 12
        (with_reducible refine (KM.out _).mono ?_)
        rintro e wN ⟨rfl, hbM⟩
        go_wp2_with fail
        replace hM := hM.keep hbM
        clear hbM
        refine hK.out _ _ hM.held (fun hHeld => ?_)
        clear hK K
        try simp only [Act.put, List.setIfInBounds_toArray, List.set_cons_zero, List.set_cons_succ]
        refine wpAnyH_ready (rs := [9]) (by kernel_rfl) (by simp) ?_
        refine held_cons rfl (fun K hK => ?_) AllReadyH.nil
        go_simp
        have hbL : Below wN.heap.size wN (wN.alloc (.cells #[.string ⟨#[]⟩, .string ⟨#[121, 101, 115]⟩] 9)) := ((Below.refl _ _).alloc (Nat.le_refl _) (.cells #[.string ⟨#[]⟩, .string ⟨#[121, 101, 115]⟩] 9))
        have hX : Rd (wN.alloc (.cells #[.string ⟨#[]⟩, .string ⟨#[121, 101, 115]⟩] 9)) (some ⟨wN.heap.size, 0, none⟩) (strs [[], [121, 101, 115]]) := rd_new wN 9 (strs [[], [121, 101, 115]])
        have lhX : db < wN.heap.size := by have := hM.m.g.lt; have := hM.m.lt; omega
        replace hM := hM.keep hbL
        clear hbL
        generalize wN.heap.size = ghX at *
        generalize wN.alloc (.cells #[.string ⟨#[]⟩, .string ⟨#[121, 101, 115]⟩] 9) = wL at *
        refine hK.out _ _ hM.held (fun hHeld => ?_)
        clear hK K
        try simp only [Act.put, List.setIfInBounds_toArray, List.set_cons_zero, List.set_cons_succ]
        refine wpAnyH_ready (rs := [10]) (by kernel_rfl) (by simp) ?_
        refine held_cons rfl (fun K hK => ?_) AllReadyH.nil
        go_simp
        go_at_call 11
        (with_reducible refine (mr_word hM HR.out hl48 ghX [[], [121, 101, 115]] 2 2 rfl hX lhX (by omega) (by omega)).mono ?_)
        rintro e wN ⟨rfl, hM, -⟩
        go_wp2_with fail
        clear hX
        generalize wordF l _ [[], [121, 101, 115]] = wd2 at *
        refine hK.out _ _ hM.held (fun hHeld => ?_)
        clear hK K
        try simp only [Act.put, List.setIfInBounds_toArray, List.set_cons_zero, List.set_cons_succ]
        refine held_take (11) (v := ?_) rfl (by kernel_rfl) (by kernel_rfl) (by kernel_rfl) (fun _ _ _ h => h) (Or.inl ⟨by rfl, ?_⟩) (by assumption) ?_
        rotate_left
        · intro w hSw
          try dsimp only at hSw
          go_simp
          with_reducible rfl
        try simp only [Act.put, List.setIfInBounds_toArray, List.set_cons_zero, List.set_cons_succ]
        refine wpAnyH_ready (rs := [12]) (by kernel_rfl) (by simp) ?_
        refine held_cons rfl (fun K hK => ?_) AllReadyH.nil
        go_simp
        have hM2 := hM.keep ((Below.refl _ _).alloc (Nat.le_refl _) (.cells #[.int .i64 r.sen, .int .i64 r.cnt, .string ⟨(markF r).toArray⟩, .string ⟨wd2.toArray⟩] 37))
        refine hK.out _ _ hM2.held (fun hHeld => ?_)
        clear hK K
        try simp only [Act.put, List.setIfInBounds_toArray, List.set_cons_zero, List.set_cons_succ]
        refine wpAnyH_ready (rs := [13]) (by kernel_rfl) (by simp) ?_
        refine held_cons rfl (fun K hK => ?_) AllReadyH.nil
        refine step_appn (w0 := W) (B := W.heap.size) rfl _ _ _ rfl el_kp rfl hM.m.o hM.m.env.below (by have := hM.m.le; have := hM.m.lt; omega) (by have := hM.m.g.lt; omega) (m := 1) (cs := [_, _, _, _]) rfl rfl (kpC_one ⟨r.sen, r.cnt, markF r, wd2⟩) (by omega) ?_
        intro a2 c2 w8 hO8 hb8 hg8
        obtain ⟨hM3, hg3, hr3⟩ := hM.push (x := ⟨r.sen, r.cnt, markF r, wd2⟩) HR.out hO8 hg8
        have f3 := hg3.free 0
        refine hK.out _ _ ⟨hg3.cell 0 rfl, hr3.cell 0 rfl, hr3.cell 1 rfl, hr3.cell 2 rfl⟩ (fun hHeld => ?_)
        clear hK K
        try simp only [Act.put, List.setIfInBounds_toArray, List.set_cons_zero, List.set_cons_succ]
        refine held_take (14) (v := ?_) rfl (by kernel_rfl) (by kernel_rfl) (by kernel_rfl) (fun _ _ _ h => h) (Or.inl ⟨by rfl, ?_⟩) (by assumption) ?_
        rotate_left
        · intro w hSw
          try dsimp only at hSw
          go_simp
          with_reducible rfl
        try simp only [Act.put, List.setIfInBounds_toArray, List.set_cons_zero, List.set_cons_succ]
        refine wpAnyH_done (by kernel_rfl) ?_ _
        dsimp only [Behind]
        go_simp
        replace hM3 := hM3.m
        generalize w8.setCell ⟨gg, 0, none⟩ (.slice a2 (L.length + 1) c2) = w9 at *
        go_wp2_with fail
        go_roundw
        case rel => exact ⟨k + 1, _, a2, L ++ [_], c2, by omega, by go_num, by simp; omega, hM3⟩
        case measure => simp [intOf]; omega
      · refine held_cons rfl (fun K hK => ?_) AllReadyH.nil
        go_simp
        have hbL : Below w6.heap.size w6 ((w6.alloc (.cells #[.string ⟨#[]⟩, .string ⟨#[121, 101, 115]⟩] 9)).drew) := ((Below.refl _ _).alloc (Nat.le_refl _) (.cells #[.string ⟨#[]⟩, .string ⟨#[121, 101, 115]⟩] 9)).drew
        have hX : Rd ((w6.alloc (.cells #[.string ⟨#[]⟩, .string ⟨#[121, 101, 115]⟩] 9)).drew) (some ⟨w6.heap.size, 0, none⟩) (strs [[], [121, 101, 115]]) := rd_new w6 9 (strs [[], [121, 101, 115]])
        have lhX : db < w6.heap.size := by have := hM.m.g.lt; have := hM.m.lt; omega
        replace hM := hM.keep hbL
        clear hbL
        generalize w6.heap.size = ghX at *
        generalize (w6.alloc (.cells #[.string ⟨#[]⟩, .string ⟨#[121, 101, 115]⟩] 9)).drew = wL at *
        refine hK.out _ _ hM.held (fun hHeld => ?_)
        clear hK K
        try simp only [Act.put, List.setIfInBounds_toArray, List.set_cons_zero, List.set_cons_succ]
        refine wpAnyH_ready (rs := [7]) (by kernel_rfl) (by simp) ?_
        refine held_cons rfl (fun K hK => ?_) AllReadyH.nil
        go_simp
        go_at_call 12
        (with_reducible refine (KM.out _).mono ?_)
        rintro e wN ⟨rfl, hbM⟩
        go_wp2_with fail
        replace hM := hM.keep hbM
        replace hX := hX.keep hbM
        clear hbM
        refine hK.out _ _ hM.held (fun hHeld => ?_)
        clear hK K
        try simp only [Act.put, List.setIfInBounds_toArray, List.set_cons_zero, List.set_cons_succ]
        refine wpAnyH_ready (rs := [10]) (by kernel_rfl) (by simp) ?_
        refine held_cons rfl (fun K hK => ?_) AllReadyH.nil
        go_simp
        go_at_call 11
        (with_reducible refine (mr_word hM HR.out hl48 ghX [[], [121, 101, 115]] 2 2 rfl hX lhX (by omega) (by omega)).mono ?_)
        rintro e wN ⟨rfl, hM, -⟩
        go_wp2_with fail
        clear hX
        generalize wordF l _ [[], [121, 101, 115]] = wd2 at *
        refine hK.out _ _ hM.held (fun hHeld => ?_)
        clear hK K
        try simp only [Act.put, List.setIfInBounds_toArray, List.set_cons_zero, List.set_cons_succ]
        refine held_take (11) (v := ?_) rfl (by kernel_rfl) (by kernel_rfl) (by kernel_rfl) (fun _ _ _ h => h) (Or.inl ⟨by rfl, ?_⟩) (by assumption) ?_
        rotate_left
        · intro w hSw
          try dsimp only at hSw
          go_simp
          with_reducible rfl
        try simp only [Act.put, List.setIfInBounds_toArray, List.set_cons_zero, List.set_cons_succ]
        refine wpAnyH_ready (rs := [12]) (by kernel_rfl) (by simp) ?_
        refine held_cons rfl (fun K hK => ?_) AllReadyH.nil
        go_simp
        have hM2 := hM.keep ((Below.refl _ _).alloc (Nat.le_refl _) (.cells #[.int .i64 r.sen, .int .i64 r.cnt, .string ⟨(markF r).toArray⟩, .string ⟨wd2.toArray⟩] 37))
        refine hK.out _ _ hM2.held (fun hHeld => ?_)
        clear hK K
        try simp only [Act.put, List.setIfInBounds_toArray, List.set_cons_zero, List.set_cons_succ]
        refine wpAnyH_ready (rs := [13]) (by kernel_rfl) (by simp) ?_
        refine held_cons rfl (fun K hK => ?_) AllReadyH.nil
        refine step_appn (w0 := W) (B := W.heap.size) rfl _ _ _ rfl el_kp rfl hM.m.o hM.m.env.below (by have := hM.m.le; have := hM.m.lt; omega) (by have := hM.m.g.lt; omega) (m := 1) (cs := [_, _, _, _]) rfl rfl (kpC_one ⟨r.sen, r.cnt, markF r, wd2⟩) (by omega) ?_
        intro a2 c2 w8 hO8 hb8 hg8
        obtain ⟨hM3, hg3, hr3⟩ := hM.push (x := ⟨r.sen, r.cnt, markF r, wd2⟩) HR.out hO8 hg8
        have f3 := hg3.free 0
        refine hK.out _ _ ⟨hg3.cell 0 rfl, hr3.cell 0 rfl, hr3.cell 1 rfl, hr3.cell 2 rfl⟩ (fun hHeld => ?_)
        clear hK K
        try simp only [Act.put, List.setIfInBounds_toArray, List.set_cons_zero, List.set_cons_succ]
        refine held_take (14) (v := ?_) rfl (by kernel_rfl) (by kernel_rfl) (by kernel_rfl) (fun _ _ _ h => h) (Or.inl ⟨by rfl, ?_⟩) (by assumption) ?_
        rotate_left
        · intro w hSw
          try dsimp only at hSw
          go_simp
          with_reducible rfl
        try simp only [Act.put, List.setIfInBounds_toArray, List.set_cons_zero, List.set_cons_succ]
        refine wpAnyH_done (by kernel_rfl) ?_ _
        dsimp only [Behind]
        go_simp
        replace hM3 := hM3.m
        generalize w8.setCell ⟨gg, 0, none⟩ (.slice a2 (L.length + 1) c2) = w9 at *
        go_wp2_with fail
        go_roundw
        case rel => exact ⟨k + 1, _, a2, L ++ [_], c2, by omega, by go_num, by simp; omega, hM3⟩
        case measure => simp [intOf]; omega
      --/R9
    · have hL6 : L.length ≤ 6 := by omega
      clear hd1 hd2 hk hL
      generalize ho : (.cells #[.int .i64 2, .int .i64 4, .int .i64 6, .int .i64 1, .int .i64 0, .int .i64 1048576, .int .i64 1048577] 3 : Obj) = o1
      have hA := (Below.refl w3.heap.size w3).alloc (Nat.le_refl _) o1
      have hX : Rd (w3.alloc o1) (some ⟨w3.heap.size, 0, none⟩) (ints [2, 4, 6, 1, 0, 1048576, 1048577]) := by rw [← ho]; exact rd_new w3 3 (ints [2, 4, 6, 1, 0, 1048576, 1048577])
      have hdl : db < w3.heap.size := by have := hM.g.lt; have := hM.lt; omega
      have K3 := Lib.hid (mg_of (hM.keep hA) HR.out hl48 w3.heap.size _ 7 7 rfl hX hdl (by omega) (by omega))
      subst ho
      clear hM hA hX hdl
      go_wp2_with (go_at_call 13; (with_reducible refine K3.out.mono ?_))
      rintro e w4 ⟨rfl, hM⟩
      clear K3
      clear hky
      have hs1 := ofF_mem l q3 [2, 4, 6, 1, 0, 1048576, 1048577] (by simp)
      generalize ofF l q3 [2, 4, 6, 1, 0, 1048576, 1048577] = sn at *
      generalize dnxt l q3 = q4 at *
      have i1 : I64 sn := by
        simp only [List.mem_cons, List.not_mem_nil, or_false] at hs1
        exact ⟨by omega, by omega⟩
      clear hs1
      generalize ho : (.cells #[.int .i64 1, .int .i64 2, .int .i64 3, .int .i64 4, .int .i64 5, .int .i64 0, .int .i64 1099511627776, .int .i64 n] 3 : Obj) = o1
      have hA := (Below.refl w4.heap.size w4).alloc (Nat.le_refl _) o1
      have hX : Rd (w4.alloc o1) (some ⟨w4.heap.size, 0, none⟩) (ints [1, 2, 3, 4, 5, 0, 1099511627776, n]) := by rw [← ho]; exact rd_new w4 3 (ints [1, 2, 3, 4, 5, 0, 1099511627776, n])
      have hdl : db < w4.heap.size := by have := hM.g.lt; have := hM.lt; omega
      have K3 := Lib.hid (mg_of (hM.keep hA) HR.out hl48 w4.heap.size _ 8 8 rfl hX hdl (by omega) (by omega))
      subst ho
      clear hM hA hX hdl
      go_wp2_with (go_at_call 13; (with_reducible refine K3.out.mono ?_))
      rintro e w5 ⟨rfl, hM⟩
      clear K3
      have hs1 := ofF_mem l q4 [1, 2, 3, 4, 5, 0, 1099511627776, n] (by simp)
      generalize ofF l q4 [1, 2, 3, 4, 5, 0, 1099511627776, n] = cn at *
      generalize dnxt l q4 = q5 at *
      have i2 : I64 cn := by
        have hn1 := hn.1
        have hn2 := hn.2
        simp only [List.mem_cons, List.not_mem_nil, or_false] at hs1
        exact ⟨by omega, by omega⟩
      clear hs1
      have hM5 := hM.keep ((Below.refl _ _).alloc (Nat.le_refl _) (.cells #[.string ⟨#[97]⟩, .string ⟨#[98]⟩] 9))
      have hX5 : Rd (w5.alloc (.cells #[.string ⟨#[97]⟩, .string ⟨#[98]⟩] 9)) (some ⟨w5.heap.size, 0, none⟩) (strs [[97], [98]]) := rd_new w5 9 (strs [[97], [98]])
      have K3 := Lib.hid (mg_word hM5 HR.out hl48 w5.heap.size [[97], [98]] 2 2 rfl hX5 (by have := hM.g.lt; have := hM.lt; omega) (by omega) (by omega))
      clear hM hM5 hX5
      go_wp2_with (go_at_call 11; (with_reducible refine K3.out.mono ?_))
      rintro e w6 ⟨rfl, hM⟩
      clear K3
      have hwd : (wordF l q5 [[97], [98]]).length ≤ 1 := by
        have := wordF_mem l q5 [[97], [98]] (by simp)
        simp only [List.mem_cons, List.not_mem_nil, or_false] at this
        rcases this with h | h <;> rw [h] <;> simp
      generalize wordF l q5 [[97], [98]] = wd at *
      generalize dnxt l q5 = q6 at *
      go_upto_region 11 with (fail)
      obtain ⟨r, e1, e2, e3⟩ : ∃ r : Rq, r.sen = sn ∧ r.cnt = cn ∧ r.body = wd := ⟨⟨_, _, _⟩, rfl, rfl, rfl⟩
      subst e1 e2 e3
      have hM0 := hM.box r
      change Mr W (w6.alloc (.cells #[.int .i64 r.sen, .int .i64 r.cnt, .string ⟨r.body.toArray⟩] 26)) db p l cap q6 gg a L c w6.heap.size r at hM0
      generalize w6.alloc (.cells #[.int .i64 r.sen, .int .i64 r.cnt, .string ⟨r.body.toArray⟩] 26) = w7 at *
      clear hM
      have hM := hM0
      clear hM0
      generalize w6.heap.size = gr at *
      have K7 := Lib.hid (mr_next hM HR.out hl48 7 (by omega) (by omega))
      have hd1 := dnum_lo l q6 (n := 7) (by omega)
      have hd2 := dnum_hi l q6 (n := 7) (by omega)
      clear hM
      go_upto_block 2 with (go_at_call 10; (with_reducible refine K7.out.mono ?_); rintro e w8 ⟨rfl, hM, -⟩)
      clear K7
      generalize dnum l q6 7 = y7 at *
      generalize dnxt l q6 = q7 at *
      have KM := Lib.hid (fun V => rkmark_walk r V i1 i2 (by omega))
      go_cut [10] (fun v wx => ∃ (q : Nat) (a : Option Addr) (L : List Kpt) (c : Nat) (r : Rq) (ans : List UInt8), v = .string ⟨ans.toArray⟩ ∧ ans.length ≤ 20000 ∧ L.length ≤ 70 ∧ r.body.length ≤ 20000 ∧ I64 r.sen ∧ I64 r.cnt ∧ Mr W wx db p l cap q gg a L c gr r)
      case first =>
        by_cases z0 : y7 = 0
        · have t0 : (y7 == 0) = true := beq_iff_eq.2 z0
          clear z0 hd1 hd2
          go_upto_region 14 with (fail)
          --R14
          refine wp_region_held_last' (S := fun w' => w'.cell? ⟨gg, 0, none⟩ = some (.slice a L.length c) ∧ w'.cell? ⟨gr, 0, none⟩ = some (.int .i64 r.sen) ∧ w'.cell? ⟨gr, 1, none⟩ = some (.int .i64 r.cnt) ∧ w'.cell? ⟨gr, 2, none⟩ = some (.string ⟨r.body.toArray⟩)) 17 rfl (by kernel_rfl) (by kernel_rfl) (by kernel_rfl) (hM.keep (Below.refl _ _).drew).held (fun hHeld => ?_)
          dsimp only [List.dropLast, List.replicate] at hHeld ⊢
          refine held_take (0) (v := ?_) rfl (by kernel_rfl) (by kernel_rfl) (by kernel_rfl) (fun _ _ _ h => h) (Or.inl ⟨by rfl, ?_⟩) (by assumption) ?_
          rotate_left
          · intro w hSw
            try dsimp only at hSw
            go_simp
            with_reducible rfl
          try simp only [Act.put, List.setIfInBounds_toArray, List.set_cons_zero, List.set_cons_succ]
          refine held_take (1) (v := ?_) rfl (by kernel_rfl) (by kernel_rfl) (by kernel_rfl) (fun _ _ _ h => h) (Or.inl ⟨by rfl, ?_⟩) (by assumption) ?_
          rotate_left
          · intro w hSw
            try dsimp only at hSw
            go_simp
            with_reducible rfl
          try simp only [Act.put, List.setIfInBounds_toArray, List.set_cons_zero, List.set_cons_succ]
          refine held_take (2) (v := ?_) rfl (by kernel_rfl) (by kernel_rfl) (by kernel_rfl) (fun _ _ _ h => h) (Or.inl ⟨by rfl, ?_⟩) (by assumption) ?_
          rotate_left
          · intro w hSw
            try dsimp only at hSw
            go_simp
            with_reducible rfl
          try simp only [Act.put, List.setIfInBounds_toArray, List.set_cons_zero, List.set_cons_succ]
          refine held_take (5) (v := ?_) rfl (by kernel_rfl) (by kernel_rfl) (by kernel_rfl) (fun _ _ _ h => h) (Or.inl ⟨by rfl, ?_⟩) (by assumption) ?_
          rotate_left
          · intro w hSw
            try dsimp only at hSw
            go_simp
            with_reducible rfl
          try simp only [Act.put, List.setIfInBounds_toArray, List.set_cons_zero, List.set_cons_succ]
          refine held_take (8) (v := ?_) rfl (by kernel_rfl) (by kernel_rfl) (by kernel_rfl) (fun _ _ _ h => h) (Or.inl ⟨by rfl, ?_⟩) (by assumption) ?_
          rotate_left
          · intro w hSw
            try dsimp only at hSw
            go_simp
            with_reducible rfl
          try simp only [Act.put, List.setIfInBounds_toArray, List.set_cons_zero, List.set_cons_succ]
          refine held_take (10) (v := ?_) rfl (by kernel_rfl) (by kernel_rfl) (by kernel_rfl) (fun _ _ _ h => h) (Or.inl ⟨by rfl, ?_⟩) (by assumption) ?_
          rotate_left
          · intro w hSw
            try dsimp only at hSw
            go_simp
            with_reducible rfl
          try simp only [Act.put, List.setIfInBounds_toArray, List.set_cons_zero, List.set_cons_succ]
          refine wpAnyH_ready (rs := [3, 6]) (by kernel_rfl) (by simp) ?_
          refine held_cons rfl (fun K hK => ?_) ?_
          · skip
            go_simp
            have hbL : Below w8.heap.size w8 ((w8.alloc (.cells #[.int .i64 1, .int .i64 12, .int .i64 99] 3)).drew) := ((Below.refl _ _).alloc (Nat.le_refl _) (.cells #[.int .i64 1, .int .i64 12, .int .i64 99] 3)).drew
            have hX : Rd ((w8.alloc (.cells #[.int .i64 1, .int .i64 12, .int .i64 99] 3)).drew) (some ⟨w8.heap.size, 0, none⟩) (ints [1, 12, 99]) := rd_new w8 3 (ints [1, 12, 99])
            have lhX : db < w8.heap.size := by have := hM.m.g.lt; have := hM.m.lt; omega
            replace hM := hM.keep hbL
            clear hbL
            generalize w8.heap.size = ghX at *
            generalize (w8.alloc (.cells #[.int .i64 1, .int .i64 12, .int .i64 99] 3)).drew = wL at *
            refine hK.out _ _ hM.held (fun hHeld => ?_)
            clear hK K
            try simp only [Act.put, List.setIfInBounds_toArray, List.set_cons_zero, List.set_cons_succ]
            refine wpAnyH_ready (rs := [4, 6]) (by kernel_rfl) (by simp) ?_
            refine held_cons rfl (fun K hK => ?_) ?_
            · skip
              go_simp
              go_at_call 13
              (with_reducible refine (mr_of hM HR.out hl48 ghX [1, 12, 99] 3 3 rfl hX lhX (by omega) (by omega)).mono ?_)
              rintro e wN ⟨rfl, hM, hgN⟩
              go_wp2_with fail
              clear hX hgN
              have o1 := ofF_mem l q7 [1, 12, 99] (by simp)
              generalize ofF l q7 [1, 12, 99] = x1 at *
              generalize dnxt l q7 = q8 at *
              refine hK.out _ _ hM.held (fun hHeld => ?_)
              clear hK K
              try simp only [Act.put, List.setIfInBounds_toArray, List.set_cons_zero, List.set_cons_succ]
              refine wpAnyH_ready (rs := [6]) (by kernel_rfl) (by simp) ?_
              refine held_cons rfl (fun K hK => ?_) AllReadyH.nil
              go_simp
              have hbL : Below wN.heap.size wN (wN.alloc (.cells #[.int .i64 0, .int .i64 1, .int .i64 1099511627776] 3)) := ((Below.refl _ _).alloc (Nat.le_refl _) (.cells #[.int .i64 0, .int .i64 1, .int .i64 1099511627776] 3))
              have hY : Rd (wN.alloc (.cells #[.int .i64 0, .int .i64 1, .int .i64 1099511627776] 3)) (some ⟨wN.heap.size, 0, none⟩) (ints [0, 1, 1099511627776]) := rd_new wN 3 (ints [0, 1, 1099511627776])
              have lhY : db < wN.heap.size := by have := hM.m.g.lt; have := hM.m.lt; omega
              replace hM := hM.keep hbL
              clear hbL
              generalize wN.heap.size = ghY at *
              generalize wN.alloc (.cells #[.int .i64 0, .int .i64 1, .int .i64 1099511627776] 3) = wL at *
              refine hK.out _ _ hM.held (fun hHeld => ?_)
              clear hK K
              try simp only [Act.put, List.setIfInBounds_toArray, List.set_cons_zero, List.set_cons_succ]
              refine wpAnyH_ready (rs := [7]) (by kernel_rfl) (by simp) ?_
              refine held_cons rfl (fun K hK => ?_) AllReadyH.nil
              go_simp
              go_at_call 13
              (with_reducible refine (mr_of hM HR.out hl48 ghY [0, 1, 1099511627776] 3 3 rfl hY lhY (by omega) (by omega)).mono ?_)
              rintro e wN ⟨rfl, hM, -⟩
              go_wp2_with fail
              clear hY
              generalize ofF l q8 [0, 1, 1099511627776] = x2 at *
              generalize dnxt l q8 = q9 at *
              refine hK.out _ _ hM.held (fun hHeld => ?_)
              clear hK K
              try simp only [Act.put, List.setIfInBounds_toArray, List.set_cons_zero, List.set_cons_succ]
              refine wpAnyH_ready (rs := [9]) (by kernel_rfl) (by simp) ?_
              refine held_cons rfl (fun K hK => ?_) AllReadyH.nil
              go_simp
              go_at_call 12
              (with_reducible refine (KM.out _).mono ?_)
              rintro e wN ⟨rfl, hbM⟩
              go_wp2_with fail
              replace hM := hM.keep hbM
              clear hbM
              have hml : (markF r).length = 32 := mark_len r
              generalize markF r = m at *
              refine hK.out _ _ hM.held (fun hHeld => ?_)
              clear hK K
              try simp only [Act.put, List.setIfInBounds_toArray, List.set_cons_zero, List.set_cons_succ]
              refine wpAnyH_ready (rs := [11]) (by kernel_rfl) (by simp) ?_
              refine held_cons rfl (fun K hK => ?_) AllReadyH.nil
              have hj1 := dnum_lo l q9 (n := 2) (by omega)
              have hj2 := dnum_hi l q9 (n := 2) (by omega)
              go_simp
              go_at_call 10
              (with_reducible refine (mr_next hM HR.out hl48 2 (by omega) (by omega)).mono ?_)
              rintro e wN ⟨rfl, hM, -⟩
              go_wp2_with fail
              obtain ⟨j, hj⟩ : ∃ j : Nat, dnum l q9 2 = (j : Int) := ⟨(dnum l q9 2).toNat, by omega⟩
              rw [hj] at hj1 hj2 ⊢
              clear hj
              have hsl : ∀ V, (Instr.slice 9 (.string ⟨m.toArray⟩) (some (.int .i64 (j : Int))) none none).run Try.prog V = .ok (.string ⟨(m.drop j).toArray⟩) V := fun V => slice_str Try.underlying9 m j (by omega) V
              generalize m.drop j = m2 at hsl
              refine hK.out _ _ hM.held (fun hHeld => ?_)
              clear hK K
              try simp only [Act.put, List.setIfInBounds_toArray, List.set_cons_zero, List.set_cons_succ]
              refine held_take (12) (v := ?_) rfl (by kernel_rfl) (by kernel_rfl) (by kernel_rfl) (fun _ _ _ h => h) (Or.inl ⟨by rfl, ?_⟩) (by assumption) ?_
              rotate_left
              · intro w hSw
                try dsimp only at hSw
                go_simp
                with_reducible rfl
              try simp only [Act.put, List.setIfInBounds_toArray, List.set_cons_zero, List.set_cons_succ]
              refine held_take (13) (v := ?_) rfl (by kernel_rfl) (by kernel_rfl) (by kernel_rfl) (fun _ _ _ h => h) (Or.inl ⟨by rfl, ?_⟩) (by assumption) ?_
              rotate_left
              · intro w hSw
                try dsimp only at hSw
                go_simp
                with_reducible rfl
              try simp only [Act.put, List.setIfInBounds_toArray, List.set_cons_zero, List.set_cons_succ]
              refine wpAnyH_ready (rs := [14]) (by kernel_rfl) (by simp) ?_
              refine held_cons rfl (fun K hK => ?_) AllReadyH.nil
              go_simp
              have hM2 := hM.keep ((Below.refl _ _).alloc (Nat.le_refl _) (.cells #[.int .i64 x1, .int .i64 x2, .string ⟨m2.toArray⟩, .string ⟨#[]⟩] 37))
              refine hK.out _ _ hM2.held (fun hHeld => ?_)
              clear hK K
              try simp only [Act.put, List.setIfInBounds_toArray, List.set_cons_zero, List.set_cons_succ]
              refine wpAnyH_ready (rs := [15]) (by kernel_rfl) (by simp) ?_
              refine held_cons rfl (fun K hK => ?_) AllReadyH.nil
              refine step_appn (w0 := W) (B := W.heap.size) rfl _ _ _ rfl el_kp rfl hM.m.o hM.m.env.below (by have := hM.m.le; have := hM.m.lt; omega) (by have := hM.m.g.lt; omega) (m := 1) (cs := [_, _, _, _]) rfl rfl (kpC_one ⟨x1, x2, m2, []⟩) (by omega) ?_
              intro a2 c2 wA hO8 hb8 hg8
              obtain ⟨hM3, hg3, hr3⟩ := hM.push (x := ⟨x1, x2, m2, []⟩) HR.out hO8 hg8
              have f3 := hg3.free 0
              refine hK.out _ _ ⟨hg3.cell 0 rfl, hr3.cell 0 rfl, hr3.cell 1 rfl, hr3.cell 2 rfl⟩ (fun hHeld => ?_)
              clear hK K
              try simp only [Act.put, List.setIfInBounds_toArray, List.set_cons_zero, List.set_cons_succ]
              refine held_take (16) (v := ?_) rfl (by kernel_rfl) (by kernel_rfl) (by kernel_rfl) (fun _ _ _ h => h) (Or.inl ⟨by rfl, ?_⟩) (by assumption) ?_
              rotate_left
              · intro w hSw
                try dsimp only at hSw
                go_simp
                with_reducible rfl
              try simp only [Act.put, List.setIfInBounds_toArray, List.set_cons_zero, List.set_cons_succ]
              refine wpAnyH_done (by kernel_rfl) ?_ _
              dsimp only [Behind]
              go_simp
              generalize wA.setCell ⟨gg, 0, none⟩ (.slice a2 (L.length + 1) c2) = wB at *
              go_wp2_with fail
              go_meet
              case rel => exact ⟨_, a2, L ++ [_], c2, r, [111, 107], rfl, by decide, by simp; omega, by omega, i1, i2, hM3⟩
            · refine held_cons rfl (fun K hK => ?_) AllReadyH.nil
              go_simp
              have hbL : Below wL.heap.size wL (wL.alloc (.cells #[.int .i64 0, .int .i64 1, .int .i64 1099511627776] 3)) := ((Below.refl _ _).alloc (Nat.le_refl _) (.cells #[.int .i64 0, .int .i64 1, .int .i64 1099511627776] 3))
              have hY : Rd (wL.alloc (.cells #[.int .i64 0, .int .i64 1, .int .i64 1099511627776] 3)) (some ⟨wL.heap.size, 0, none⟩) (ints [0, 1, 1099511627776]) := rd_new wL 3 (ints [0, 1, 1099511627776])
              have lhY : db < wL.heap.size := by have := hM.m.g.lt; have := hM.m.lt; omega
              replace hM := hM.keep hbL
              replace hX := hX.keep hbL
              clear hbL
              generalize wL.heap.size = ghY at *
              generalize wL.alloc (.cells #[.int .i64 0, .int .i64 1, .int .i64 1099511627776] 3) = wL at *
              refine hK.out _ _ hM.held (fun hHeld => ?_)
              clear hK K
              try simp only [Act.put, List.setIfInBounds_toArray, List.set_cons_zero, List.set_cons_succ]
              refine wpAnyH_ready (rs := [4]) (by kernel_rfl) (by simp) ?_
              refine held_cons rfl (fun K hK => ?_) AllReadyH.nil
              go_simp
              go_at_call 13
              (with_reducible refine (mr_of hM HR.out hl48 ghX [1, 12, 99] 3 3 rfl hX lhX (by omega) (by omega)).mono ?_)
              rintro e wN ⟨rfl, hM, hgN⟩
              go_wp2_with fail
              replace hY := hY.grown hgN (fun g off e => by cases e; simp; omega)
              clear hX hgN
              have o1 := ofF_mem l q7 [1, 12, 99] (by simp)
              generalize ofF l q7 [1, 12, 99] = x1 at *
              generalize dnxt l q7 = q8 at *
              refine hK.out _ _ hM.held (fun hHeld => ?_)
              clear hK K
              try simp only [Act.put, List.setIfInBounds_toArray, List.set_cons_zero, List.set_cons_succ]
              refine wpAnyH_ready (rs := [7]) (by kernel_rfl) (by simp) ?_
              refine held_cons rfl (fun K hK => ?_) AllReadyH.nil
              go_simp
              go_at_call 13
              (with_reducible refine (mr_of hM HR.out hl48 ghY [0, 1, 1099511627776] 3 3 rfl hY lhY (by omega) (by omega)).mono ?_)
              rintro e wN ⟨rfl, hM, -⟩
              go_wp2_with fail
              clear hY
              generalize ofF l q8 [0, 1, 1099511627776] = x2 at *
              generalize dnxt l q8 = q9 at *
              refine hK.out _ _ hM.held (fun hHeld => ?_)
              clear hK K
              try simp only [Act.put, List.setIfInBounds_toArray, List.set_cons_zero, List.set_cons_succ]
              refine wpAnyH_ready (rs := [9]) (by kernel_rfl) (by simp) ?_
              refine held_cons rfl (fun K hK => ?_) AllReadyH.nil
              go_simp
              go_at_call 12
              (with_reducible refine (KM.out _).mono ?_)
              rintro e wN ⟨rfl, hbM⟩
              go_wp2_with fail
              replace hM := hM.keep hbM
              clear hbM
              have hml : (markF r).length = 32 := mark_len r
              generalize markF r = m at *
              refine hK.out _ _ hM.held (fun hHeld => ?_)
              clear hK K
              try simp only [Act.put, List.setIfInBounds_toArray, List.set_cons_zero, List.set_cons_succ]
              refine wpAnyH_ready (rs := [11]) (by kernel_rfl) (by simp) ?_
              refine held_cons rfl (fun K hK => ?_) AllReadyH.nil
              have hj1 := dnum_lo l q9 (n := 2) (by omega)
              have hj2 := dnum_hi l q9 (n := 2) (by omega)
              go_simp
              go_at_call 10
              (with_reducible refine (mr_next hM HR.out hl48 2 (by omega) (by omega)).mono ?_)
              rintro e wN ⟨rfl, hM, -⟩
              go_wp2_with fail
              obtain ⟨j, hj⟩ : ∃ j : Nat, dnum l q9 2 = (j : Int) := ⟨(dnum l q9 2).toNat, by omega⟩
              rw [hj] at hj1 hj2 ⊢
              clear hj
              have hsl : ∀ V, (Instr.slice 9 (.string ⟨m.toArray⟩) (some (.int .i64 (j : Int))) none none).run Try.prog V = .ok (.string ⟨(m.drop j).toArray⟩) V := fun V => slice_str Try.underlying9 m j (by omega) V
              generalize m.drop j = m2 at hsl
              refine hK.out _ _ hM.held (fun hHeld => ?_)
              clear hK K
              try simp only [Act.put, List.setIfInBounds_toArray, List.set_cons_zero, List.set_cons_succ]
              refine held_take (12) (v := ?_) rfl (by kernel_rfl) (by kernel_rfl) (by kernel_rfl) (fun _ _ _ h => h) (Or.inl ⟨by rfl, ?_⟩) (by assumption) ?_
              rotate_left
              · intro w hSw
                try dsimp only at hSw
                go_simp
                with_reducible rfl
              try simp only [Act.put, List.setIfInBounds_toArray, List.set_cons_zero, List.set_cons_succ]
              refine held_take (13) (v := ?_) rfl (by kernel_rfl) (by kernel_rfl) (by kernel_rfl) (fun _ _ _ h => h) (Or.inl ⟨by rfl, ?_⟩) (by assumption) ?_
              rotate_left
              · intro w hSw
                try dsimp only at hSw
                go_simp
                with_reducible rfl
              try simp only [Act.put, List.setIfInBounds_toArray, List.set_cons_zero, List.set_cons_succ]
              refine wpAnyH_ready (rs := [14]) (by kernel_rfl) (by simp) ?_
              refine held_cons rfl (fun K hK => ?_) AllReadyH.nil
              go_simp
              have hM2 := hM.keep ((Below.refl _ _).alloc (Nat.le_refl _) (.cells #[.int .i64 x1, .int .i64 x2, .string ⟨m2.toArray⟩, .string ⟨#[]⟩] 37))
              refine hK.out _ _ hM2.held (fun hHeld => ?_)
              clear hK K
              try simp only [Act.put, List.setIfInBounds_toArray, List.set_cons_zero, List.set_cons_succ]
              refine wpAnyH_ready (rs := [15]) (by kernel_rfl) (by simp) ?_
              refine held_cons rfl (fun K hK => ?_) AllReadyH.nil
              refine step_appn (w0 := W) (B := W.heap.size) rfl _ _ _ rfl el_kp rfl hM.m.o hM.m.env.below (by have := hM.m.le; have := hM.m.lt; omega) (by have := hM.m.g.lt; omega) (m := 1) (cs := [_, _, _, _]) rfl rfl (kpC_one ⟨x1, x2, m2, []⟩) (by omega) ?_
              intro a2 c2 wA hO8 hb8 hg8
              obtain ⟨hM3, hg3, hr3⟩ := hM.push (x := ⟨x1, x2, m2, []⟩) HR.out hO8 hg8
              have f3 := hg3.free 0
              refine hK.out _ _ ⟨hg3.cell 0 rfl, hr3.cell 0 rfl, hr3.cell 1 rfl, hr3.cell 2 rfl⟩ (fun hHeld => ?_)
              clear hK K
              try simp only [Act.put, List.setIfInBounds_toArray, List.set_cons_zero, List.set_cons_succ]
              refine held_take (16) (v := ?_) rfl (by kernel_rfl) (by kernel_rfl) (by kernel_rfl) (fun _ _ _ h => h) (Or.inl ⟨by rfl, ?_⟩) (by assumption) ?_
              rotate_left
              · intro w hSw
                try dsimp only at hSw
                go_simp
                with_reducible rfl
              try simp only [Act.put, List.setIfInBounds_toArray, List.set_cons_zero, List.set_cons_succ]
              refine wpAnyH_done (by kernel_rfl) ?_ _
              dsimp only [Behind]
              go_simp
              generalize wA.setCell ⟨gg, 0, none⟩ (.slice a2 (L.length + 1) c2) = wB at *
              go_wp2_with fail
              go_meet
              case rel => exact ⟨_, a2, L ++ [_], c2, r, [111, 107], rfl, by decide, by simp; omega, by omega, i1, i2, hM3⟩
          · refine held_cons rfl (fun K hK => ?_) AllReadyH.nil
            go_simp
            have hbL : Below w8.heap.size w8 ((w8.alloc (.cells #[.int .i64 0, .int .i64 1, .int .i64 1099511627776] 3)).drew) := ((Below.refl _ _).alloc (Nat.le_refl _) (.cells #[.int .i64 0, .int .i64 1, .int .i64 1099511627776] 3)).drew
            have hY : Rd ((w8.alloc (.cells #[.int .i64 0, .int .i64 1, .int .i64 1099511627776] 3)).drew) (some ⟨w8.heap.size, 0, none⟩) (ints [0, 1, 1099511627776]) := rd_new w8 3 (ints [0, 1, 1099511627776])
            have lhY : db < w8.heap.size := by have := hM.m.g.lt; have := hM.m.lt; omega
            replace hM := hM.keep hbL
            clear hbL
            generalize w8.heap.size = ghY at *
            generalize (w8.alloc (.cells #[.int .i64 0, .int .i64 1, .int .i64 1099511627776] 3)).drew = wL at *
            refine hK.out _ _ hM.held (fun hHeld => ?_)
            clear hK K
            try simp only [Act.put, List.setIfInBounds_toArray, List.set_cons_zero, List.set_cons_succ]
            refine wpAnyH_ready (rs := [3]) (by kernel_rfl) (by simp) ?_
            refine held_cons rfl (fun K hK => ?_) AllReadyH.nil
            go_simp
            have hbL : Below wL.heap.size wL (wL.alloc (.cells #[.int .i64 1, .int .i64 12, .int .i64 99] 3)) := ((Below.refl _ _).alloc (Nat.le_refl _) (.cells #[.int .i64 1, .int .i64 12, .int .i64 99] 3))
            have hX : Rd (wL.alloc (.cells #[.int .i64 1, .int .i64 12, .int .i64 99] 3)) (some ⟨wL.heap.size, 0, none⟩) (ints [1, 12, 99]) := rd_new wL 3 (ints [1, 12, 99])
            have lhX : db < wL.heap.size := by have := hM.m.g.lt; have := hM.m.lt; omega
            replace hM := hM.keep hbL
            replace hY := hY.keep hbL
            clear hbL
            generalize wL.heap.size = ghX at *
            generalize wL.alloc (.cells #[.int .i64 1, .int .i64 12, .int .i64 99] 3) = wL at *
            refine hK.out _ _ hM.held (fun hHeld => ?_)
            clear hK K
            try simp only [Act.put, List.setIfInBounds_toArray, List.set_cons_zero, List.set_cons_succ]
            refine wpAnyH_ready (rs := [4]) (by kernel_rfl) (by simp) ?_
            refine held_cons rfl (fun K hK => ?_) AllReadyH.nil
            go_simp
            go_at_call 13
            (with_reducible refine (mr_of hM HR.out hl48 ghX [1, 12, 99] 3 3 rfl hX lhX (by omega) (by omega)).mono ?_)
            rintro e wN ⟨rfl, hM, hgN⟩
            go_wp2_with fail
            replace hY := hY.grown hgN (fun g off e => by cases e; simp; omega)
            clear hX hgN
            have o1 := ofF_mem l q7 [1, 12, 99] (by simp)
            generalize ofF l q7 [1, 12, 99] = x1 at *
            generalize dnxt l q7 = q8 at *
            refine hK.out _ _ hM.held (fun hHeld => ?_)
            clear hK K
            try simp only [Act.put, List.setIfInBounds_toArray, List.set_cons_zero, List.set_cons_succ]
            refine wpAnyH_ready (rs := [7]) (by kernel_rfl) (by simp) ?_
            refine held_cons rfl (fun K hK => ?_) AllReadyH.nil
            go_simp
            go_at_call 13
            (with_reducible refine (mr_of hM HR.out hl48 ghY [0, 1, 1099511627776] 3 3 rfl hY lhY (by omega) (by omega)).mono ?_)
            rintro e wN ⟨rfl, hM, -⟩
            go_wp2_with fail
            clear hY
            generalize ofF l q8 [0, 1, 1099511627776] = x2 at *
            generalize dnxt l q8 = q9 at *
            refine hK.out _ _ hM.held (fun hHeld => ?_)
            clear hK K
            try simp only [Act.put, List.setIfInBounds_toArray, List.set_cons_zero, List.set_cons_succ]
            refine wpAnyH_ready (rs := [9]) (by kernel_rfl) (by simp) ?_
            refine held_cons rfl (fun K hK => ?_) AllReadyH.nil
            go_simp
            go_at_call 12
            (with_reducible refine (KM.out _).mono ?_)
            rintro e wN ⟨rfl, hbM⟩
            go_wp2_with fail
            replace hM := hM.keep hbM
            clear hbM
            have hml : (markF r).length = 32 := mark_len r
            generalize markF r = m at *
            refine hK.out _ _ hM.held (fun hHeld => ?_)
            clear hK K
            try simp only [Act.put, List.setIfInBounds_toArray, List.set_cons_zero, List.set_cons_succ]
            refine wpAnyH_ready (rs := [11]) (by kernel_rfl) (by simp) ?_
            refine held_cons rfl (fun K hK => ?_) AllReadyH.nil
            have hj1 := dnum_lo l q9 (n := 2) (by omega)
            have hj2 := dnum_hi l q9 (n := 2) (by omega)
            go_simp
            go_at_call 10
            (with_reducible refine (mr_next hM HR.out hl48 2 (by omega) (by omega)).mono ?_)
            rintro e wN ⟨rfl, hM, -⟩
            go_wp2_with fail
            obtain ⟨j, hj⟩ : ∃ j : Nat, dnum l q9 2 = (j : Int) := ⟨(dnum l q9 2).toNat, by omega⟩
            rw [hj] at hj1 hj2 ⊢
            clear hj
            have hsl : ∀ V, (Instr.slice 9 (.string ⟨m.toArray⟩) (some (.int .i64 (j : Int))) none none).run Try.prog V = .ok (.string ⟨(m.drop j).toArray⟩) V := fun V => slice_str Try.underlying9 m j (by omega) V
            generalize m.drop j = m2 at hsl
            refine hK.out _ _ hM.held (fun hHeld => ?_)
            clear hK K
            try simp only [Act.put, List.setIfInBounds_toArray, List.set_cons_zero, List.set_cons_succ]
            refine held_take (12) (v := ?_) rfl (by kernel_rfl) (by kernel_rfl) (by kernel_rfl) (fun _ _ _ h => h) (Or.inl ⟨by rfl, ?_⟩) (by assumption) ?_
            rotate_left
            · intro w hSw
              try dsimp only at hSw
              go_simp
              with_reducible rfl
            try simp only [Act.put, List.setIfInBounds_toArray, List.set_cons_zero, List.set_cons_succ]
            refine held_take (13) (v := ?_) rfl (by kernel_rfl) (by kernel_rfl) (by kernel_rfl) (fun _ _ _ h => h) (Or.inl ⟨by rfl, ?_⟩) (by assumption) ?_
            rotate_left
            · intro w hSw
              try dsimp only at hSw
              go_simp
              with_reducible rfl
            try simp only [Act.put, List.setIfInBounds_toArray, List.set_cons_zero, List.set_cons_succ]
            refine wpAnyH_ready (rs := [14]) (by kernel_rfl) (by simp) ?_
            refine held_cons rfl (fun K hK => ?_) AllReadyH.nil
            go_simp
            have hM2 := hM.keep ((Below.refl _ _).alloc (Nat.le_refl _) (.cells #[.int .i64 x1, .int .i64 x2, .string ⟨m2.toArray⟩, .string ⟨#[]⟩] 37))
            refine hK.out _ _ hM2.held (fun hHeld => ?_)
            clear hK K
            try simp only [Act.put, List.setIfInBounds_toArray, List.set_cons_zero, List.set_cons_succ]
            refine wpAnyH_ready (rs := [15]) (by kernel_rfl) (by simp) ?_
            refine held_cons rfl (fun K hK => ?_) AllReadyH.nil
            refine step_appn (w0 := W) (B := W.heap.size) rfl _ _ _ rfl el_kp rfl hM.m.o hM.m.env.below (by have := hM.m.le; have := hM.m.lt; omega) (by have := hM.m.g.lt; omega) (m := 1) (cs := [_, _, _, _]) rfl rfl (kpC_one ⟨x1, x2, m2, []⟩) (by omega) ?_
            intro a2 c2 wA hO8 hb8 hg8
            obtain ⟨hM3, hg3, hr3⟩ := hM.push (x := ⟨x1, x2, m2, []⟩) HR.out hO8 hg8
            have f3 := hg3.free 0
            refine hK.out _ _ ⟨hg3.cell 0 rfl, hr3.cell 0 rfl, hr3.cell 1 rfl, hr3.cell 2 rfl⟩ (fun hHeld => ?_)
            clear hK K
            try simp only [Act.put, List.setIfInBounds_toArray, List.set_cons_zero, List.set_cons_succ]
            refine held_take (16) (v := ?_) rfl (by kernel_rfl) (by kernel_rfl) (by kernel_rfl) (fun _ _ _ h => h) (Or.inl ⟨by rfl, ?_⟩) (by assumption) ?_
            rotate_left
            · intro w hSw
              try dsimp only at hSw
              go_simp
              with_reducible rfl
            try simp only [Act.put, List.setIfInBounds_toArray, List.set_cons_zero, List.set_cons_succ]
            refine wpAnyH_done (by kernel_rfl) ?_ _
            dsimp only [Behind]
            go_simp
            generalize wA.setCell ⟨gg, 0, none⟩ (.slice a2 (L.length + 1) c2) = wB at *
            go_wp2_with fail
            go_meet
            case rel => exact ⟨_, a2, L ++ [_], c2, r, [111, 107], rfl, by decide, by simp; omega, by omega, i1, i2, hM3⟩
          --/R14
        have t0 : (y7 == 0) = false := beq_eq_false_iff_ne.2 z0
        by_cases z1 : y7 = 1
        · have t1 : (y7 == 1) = true := beq_iff_eq.2 z1
          clear z0 z1 hd1 hd2
          obtain ⟨g0, q0, q1, q2⟩ := hM.held
          go_wp2_with fail
          clear g0 q0 q1 q2
          go_loopw [11] (fun i wr => ∃ (q : Nat) (a : Option Addr) (L : List Kpt) (c : Nat), L.length ≤ 66 ∧ i = .int .i64 (L.length : Int) ∧ Mr W wr db p l cap q gg a L c gr r) (fun i _ => 66 - (intOf i).toNat)
          case atStart => exact ⟨q7, a, L, c, by omega, rfl, hM⟩
          case round =>
            clear hM hL6
            obtain ⟨q, a, L, c, hL, rfl, hM⟩ := hrel
            have K1 := Lib.hid (mr_next hM HR.out hl48 2 (by omega) (by omega))
            have hd1 := dnum_lo l q (n := 2) (by omega)
            have hd2 := dnum_hi l q (n := 2) (by omega)
            clear hM
            go_wp2_with (go_at_call 10; (with_reducible refine K1.out.mono ?_))
            rintro e w9 ⟨rfl, hM, -⟩
            clear K1
            generalize dnxt l q = q8 at *
            generalize dnum l q 2 = y at *
            by_cases hky : (L.length : Int) < 64 + y
            · have hL65 : L.length ≤ 65 := by omega
              go_upto_region 19 with (fail)
              clear hd1 hd2 hky
              have s100 : IntKind.i64.wrap (100 + (L.length : Int)) = 100 + (L.length : Int) := by rw [IntKind.wrap_i64]; omega
              --R19
              refine wp_region_held_last' (S := fun w' => w'.cell? ⟨gg, 0, none⟩ = some (.slice a L.length c) ∧ w'.cell? ⟨gr, 0, none⟩ = some (.int .i64 r.sen) ∧ w'.cell? ⟨gr, 1, none⟩ = some (.int .i64 r.cnt) ∧ w'.cell? ⟨gr, 2, none⟩ = some (.string ⟨r.body.toArray⟩)) 10 rfl (by kernel_rfl) (by kernel_rfl) (by kernel_rfl) (hM.keep (Below.refl _ _).drew).held (fun hHeld => ?_)
              dsimp only [List.dropLast, List.replicate] at hHeld ⊢
              refine held_take (0) (v := ?_) rfl (by kernel_rfl) (by kernel_rfl) (by kernel_rfl) (fun _ _ _ h => h) (Or.inl ⟨by rfl, ?_⟩) (by assumption) ?_
              rotate_left
              · intro w hSw
                try dsimp only at hSw
                go_simp
                with_reducible rfl
              try simp only [Act.put, List.setIfInBounds_toArray, List.set_cons_zero, List.set_cons_succ]
              refine held_take (1) (v := ?_) rfl (by kernel_rfl) (by kernel_rfl) (by kernel_rfl) (fun _ _ _ h => h) (Or.inl ⟨by rfl, ?_⟩) (by assumption) ?_
              rotate_left
              · intro w hSw
                try dsimp only at hSw
                go_simp
                with_reducible rfl
              try simp only [Act.put, List.setIfInBounds_toArray, List.set_cons_zero, List.set_cons_succ]
              refine held_take (2) (v := ?_) rfl (by kernel_rfl) (by kernel_rfl) (by kernel_rfl) (fun _ _ _ h => h) (Or.inl ⟨by rfl, ?_⟩) (by assumption) ?_
              rotate_left
              · intro w hSw
                try dsimp only at hSw
                go_simp
                with_reducible rfl
              try simp only [Act.put, List.setIfInBounds_toArray, List.set_cons_zero, List.set_cons_succ]
              refine held_take (3) (v := ?_) rfl (by kernel_rfl) (by kernel_rfl) (by kernel_rfl) (fun _ _ _ h => h) (Or.inl ⟨by rfl, ?_⟩) (by assumption) ?_
              rotate_left
              · intro w hSw
                try dsimp only at hSw
                go_simp
                with_reducible rfl
              try simp only [Act.put, List.setIfInBounds_toArray, List.set_cons_zero, List.set_cons_succ]
              refine held_take (4) (v := ?_) rfl (by kernel_rfl) (by kernel_rfl) (by kernel_rfl) (fun _ _ _ h => h) (Or.inl ⟨by rfl, ?_⟩) (by assumption) ?_
              rotate_left
              · intro w hSw
                try dsimp only at hSw
                go_simp
                with_reducible rfl
              try simp only [Act.put, List.setIfInBounds_toArray, List.set_cons_zero, List.set_cons_succ]
              refine wpAnyH_ready (rs := [5]) (by kernel_rfl) (by simp) ?_
              refine held_cons rfl (fun K hK => ?_) AllReadyH.nil
              replace hM := hM.keep (Below.refl _ _).drew
              go_simp
              go_at_call 12
              (with_reducible refine (KM.out _).mono ?_)
              rintro e wN ⟨rfl, hbM⟩
              go_wp2_with fail
              replace hM := hM.keep hbM
              clear hbM
              refine hK.out _ _ hM.held (fun hHeld => ?_)
              clear hK K
              try simp only [Act.put, List.setIfInBounds_toArray, List.set_cons_zero, List.set_cons_succ]
              refine held_take (6) (v := ?_) rfl (by kernel_rfl) (by kernel_rfl) (by kernel_rfl) (fun _ _ _ h => h) (Or.inl ⟨by rfl, ?_⟩) (by assumption) ?_
              rotate_left
              · intro w hSw
                try dsimp only at hSw
                go_simp
                with_reducible rfl
              try simp only [Act.put, List.setIfInBounds_toArray, List.set_cons_zero, List.set_cons_succ]
              refine wpAnyH_ready (rs := [7]) (by kernel_rfl) (by simp) ?_
              refine held_cons rfl (fun K hK => ?_) AllReadyH.nil
              go_simp
              have hM2 := hM.keep ((Below.refl _ _).alloc (Nat.le_refl _) (.cells #[.int .i64 (100 + (L.length : Int)), .int .i64 1, .string ⟨(markF r).toArray⟩, .string ⟨#[]⟩] 37))
              refine hK.out _ _ hM2.held (fun hHeld => ?_)
              clear hK K
              try simp only [Act.put, List.setIfInBounds_toArray, List.set_cons_zero, List.set_cons_succ]
              refine wpAnyH_ready (rs := [8]) (by kernel_rfl) (by simp) ?_
              refine held_cons rfl (fun K hK => ?_) AllReadyH.nil
              refine step_appn (w0 := W) (B := W.heap.size) rfl _ _ _ rfl el_kp rfl hM.m.o hM.m.env.below (by have := hM.m.le; have := hM.m.lt; omega) (by have := hM.m.g.lt; omega) (m := 1) (cs := [_, _, _, _]) rfl rfl (kpC_one ⟨100 + (L.length : Int), 1, markF r, []⟩) (by omega) ?_
              intro a2 c2 wA hO8 hb8 hg8
              obtain ⟨hM3, hg3, hr3⟩ := hM.push (x := ⟨100 + (L.length : Int), 1, markF r, []⟩) HR.out hO8 hg8
              have f3 := hg3.free 0
              refine hK.out _ _ ⟨hg3.cell 0 rfl, hr3.cell 0 rfl, hr3.cell 1 rfl, hr3.cell 2 rfl⟩ (fun hHeld => ?_)
              clear hK K
              try simp only [Act.put, List.setIfInBounds_toArray, List.set_cons_zero, List.set_cons_succ]
              refine held_take (9) (v := ?_) rfl (by kernel_rfl) (by kernel_rfl) (by kernel_rfl) (fun _ _ _ h => h) (Or.inl ⟨by rfl, ?_⟩) (by assumption) ?_
              rotate_left
              · intro w hSw
                try dsimp only at hSw
                go_simp
                with_reducible rfl
              try simp only [Act.put, List.setIfInBounds_toArray, List.set_cons_zero, List.set_cons_succ]
              refine wpAnyH_done (by kernel_rfl) ?_ _
              dsimp only [Behind]
              go_simp
              generalize wA.setCell ⟨gg, 0, none⟩ (.slice a2 (L.length + 1) c2) = wB at *
              go_wp2_with fail
              go_roundw
              case rel => exact ⟨_, a2, L ++ [_], c2, by simp; omega, by simp, hM3⟩
              case measure => simp [intOf]; omega
              --/R19
            · go_wp2_with fail
              go_meet
              case rel => exact ⟨q8, a, L, c, r, [111, 107], rfl, by decide, by omega, by omega, i1, i2, hM⟩
        have t1 : (y7 == 1) = false := beq_eq_false_iff_ne.2 z1
        by_cases z2 : y7 = 2
        · have t2 : (y7 == 2) = true := beq_iff_eq.2 z2
          clear z0 z1 z2 hd1 hd2
          have K1 := Lib.hid (mr_next hM HR.out hl48 2 (by omega) (by omega))
          have hd1 := dnum_lo l q7 (n := 2) (by omega)
          have hd2 := dnum_hi l q7 (n := 2) (by omega)
          clear hM
          go_wp2_with (go_at_call 10; (with_reducible refine K1.out.mono ?_))
          rintro e w9 ⟨rfl, hM, -⟩
          clear K1
          generalize dnxt l q7 = q8 at *
          generalize dnum l q7 2 = y at *
          obtain ⟨z, hz, hz2⟩ : ∃ z : Nat, 16384 + y = (z : Int) ∧ z ≤ 16385 := ⟨(16384 + y).toNat, by omega, by omega⟩
          have sz : IntKind.i64.wrap (16384 + y) = (z : Int) := by rw [IntKind.wrap_i64]; omega
          have mA : ∀ V, (Instr.makeSlice 39 (.int .i64 (z : Int)) (.int .i64 (z : Int))).run Try.prog V = _ := fun V => mk_run V elB8 rfl .i64 z (by omega)
          have mC : ∀ V : World, (convert 39 9 (.slice (some ⟨V.heap.size, 0, none⟩) z z)).run Try.prog (V.alloc (.cells (madeCells #[.int .u8 0] z) 5)) = .ok (.string ⟨(List.replicate z (0 : UInt8)).toArray⟩) (V.alloc (.cells (madeCells #[.int .u8 0] z) 5)) := fun V => mk_str1 V _ _ _ Try.underlying39 Try.underlying5 Try.underlying9 z
          have hM9 := Lib.hid (hM.keep ((Below.refl _ _).alloc (Nat.le_refl _) (.cells (madeCells #[.int .u8 0] z) 5)))
          clear hM hd1 hd2
          go_wp2_with fail
          go_meet
          case rel => exact ⟨q8, a, L, c, r, List.replicate z 0, rfl, by simp; omega, by omega, by omega, i1, i2, hM9.out⟩
        have t2 : (y7 == 2) = false := beq_eq_false_iff_ne.2 z2
        by_cases z3 : y7 = 3
        · have t3 : (y7 == 3) = true := beq_iff_eq.2 z3
          clear z0 z1 z2 z3 hd1 hd2
          have K1 := Lib.hid (mr_next hM HR.out hl48 2 (by omega) (by omega))
          have hd1 := dnum_lo l q7 (n := 2) (by omega)
          have hd2 := dnum_hi l q7 (n := 2) (by omega)
          clear hM
          go_wp2_with (go_at_call 10; (with_reducible refine K1.out.mono ?_))
          rintro e w9 ⟨rfl, hM, -⟩
          clear K1
          generalize dnxt l q7 = q8 at *
          generalize dnum l q7 2 = y at *
          obtain ⟨z, hz, hz2⟩ : ∃ z : Nat, 16384 + y = (z : Int) ∧ z ≤ 16385 := ⟨(16384 + y).toNat, by omega, by omega⟩
          have sz : IntKind.i64.wrap (16384 + y) = (z : Int) := by rw [IntKind.wrap_i64]; omega
          have mA : ∀ V, (Instr.makeSlice 39 (.int .i64 (z : Int)) (.int .i64 (z : Int))).run Try.prog V = _ := fun V => mk_run V elB8 rfl .i64 z (by omega)
          have mC : ∀ V : World, (convert 39 9 (.slice (some ⟨V.heap.size, 0, none⟩) z z)).run Try.prog (V.alloc (.cells (madeCells #[.int .u8 0] z) 5)) = .ok (.string ⟨(List.replicate z (0 : UInt8)).toArray⟩) (V.alloc (.cells (madeCells #[.int .u8 0] z) 5)) := fun V => mk_str1 V _ _ _ Try.underlying39 Try.underlying5 Try.underlying9 z
          have hM8 := hM.keep ((Below.refl _ _).alloc (Nat.le_refl _) (.cells (madeCells #[.int .u8 0] z) 5))
          obtain ⟨g0, q0, q1, q2⟩ := hM8.held
          have f2 := hM8.r.free 2
          have hM9 := Lib.hid (hM8.body HR.out (List.replicate z 0))
          clear hM hM8 hd1 hd2
          go_wp2_with fail
          go_meet
          case rel => exact ⟨q8, a, L, c, ⟨r.sen, r.cnt, List.replicate z 0⟩, [111, 107], rfl, by decide, by omega, by simp; omega, i1, i2, hM9.out⟩
        have t3 : (y7 == 3) = false := beq_eq_false_iff_ne.2 z3
        clear z0 z1 z2 z3 hd1 hd2
        go_wp2_with fail
        go_meet
        case rel => exact ⟨q7, a, L, c, r, [111, 107], rfl, by decide, by omega, by omega, i1, i2, hM⟩
      case rest =>
        clear hM KM i1 i2 hwd hL6
        obtain ⟨q, a, L, c, r, ans, rfl, h1, h2, h3, h4, h5, hM⟩ := hcut
        have KG : Hid (∀ V, Rd V a (rowsC kpC L) → Calls Try.prog 7 #[.agg #[.slice a L.length c], .agg #[.int .i64 r.sen, .int .i64 r.cnt, .string ⟨r.body.toArray⟩], .string ⟨ans.toArray⟩] V fun e w' => e = .returned (.bool true) ∧ Below V.heap.size V w') := Lib.hid fun V hV => agree_walk a L c r ans V hV (by omega) h4 h5 (by omega) (by omega)
        clear h1 h2 h3 h4 h5 hd1 hd2
        go_wp2_with (go_at_call 6; (with_reducible refine (KA.out _).mono ?_))
        rintro e w9 ⟨rfl, hb9⟩
        replace hM := hM.keep hb9
        obtain ⟨g0, q0, q1, q2⟩ := hM.held
        go_wp2_with (go_at_call 7; (with_reducible refine (KG.out _ hM.m.o.rd).mono ?_))
        rintro e w10 ⟨rfl, hb10⟩
        have HB := Lib.hid (hM.m.env.below.trans (hb10.mono hM.m.env.below.size))
        clear hM hb9 hb10 g0 q0 q1 q2
        go_wp2
        go_ret
        exact ⟨rfl, HB.out⟩
end Go.Proofs.Ytnlhcfhngdahlaa
