/- Plays with rolls: people with their keys, and the reference's list of keys. -/
import Derived.Test.YtnahkfchcminpaaGreatDoorGPrsKeys
import Derived.Test.YtnahkfchcminpaaGreatDoorGDice
import Derived.Test.YtnahkfchcminpaaGreatDoorGEnrG
import Derived.Test.YtnahkfchcminpaaGreatDoorGRPow
import Derived.Test.YtnahkfchcminpaaGreatDoorRegionL
import Derived.Test.YtnahkfchcminpaaGreatDoorGAppAt
import Derived.Test.YtnahkfchcminpaaGreatDoorGRowsC
namespace Go.Proofs.YtnahkfchcminpaaGreatDoor
open Go.RowKit
/-- the keys of the people of a play -/
def keyR (P n : Nat) : List Int := (List.range n).map fun i : Nat => ((gpw P 4 ((i : Int) + 2) : Nat) : Int)
theorem keyR_succ (P n : Nat) : keyR P (n + 1) = keyR P n ++ [((gpw P 4 ((n : Int) + 2) : Nat) : Int)] := by
  rw [keyR, List.range_succ, List.map_append]; rfl
theorem Ow.other {w : World} {base size : Nat} {a : Option Addr} {n cap : Nat} {xs : List Value} (h : Ow w base size a n cap xs) {b : Nat} (hne : ∀ g, rowOf a = some g → g ≠ b) (o : Nat) (v : Value) : Ow (w.setCell ⟨b, o, none⟩ v) base size a n cap xs :=
  h.kept (set_grown w b o v) (by
    cases hr : rowOf a with
    | none => exact .inl rfl
    | some g => exact .inr (fun e => hne g hr (Option.some.inj e)))
/-- the people k of a roll -/
def Ppl (P k : Nat) (L : List Prs) : Prop := L.length = k ∧ L.map Prs.key = keyR P k
theorem Ppl.snoc {P k : Nat} {L : List Prs} (h : Ppl P k L) (dep : Int) : Ppl P (k + 1) (L ++ [⟨(k : Int) + 1, ((gpw P 4 ((k : Int) + 2) : Nat) : Int), dep⟩]) := by
  refine ⟨by rw [List.length_append, h.1]; rfl, ?_⟩
  rw [List.map_append, h.2, keyR_succ]; rfl
/-- a roll that is returned -/
def PRollRes (W _w : World) (db : Nat) (p : Option Addr) (l : List Int) (cap : Nat) (P most : Nat) : Ending → World → Prop := fun e w' =>
  ∃ (n : Nat) (a : Option Addr) (c : Nat) (L : List Prs) (q : Nat), e = .returned (.agg #[.int .i64 (P : Int), .slice a n c]) ∧ n ≤ most ∧ Ppl P n L ∧ Ow w' (db + 1) 3 a n c (rowsC prC L) ∧ Env W w' db p l cap q
set_option maxRecDepth 100000 in
set_option maxHeartbeats 4000000 in
theorem proll_walk (W : World) (db : Nat) (p : Option Addr) (l : List Int) (cap q0 P most : Nat) (w : World) (hE : Env W w db p l cap q0) (hR : Rd W p (ints l)) (hWdb : W.heap.size ≤ db) (hl : l.length ≤ 281474976710656) (hP : 3 ≤ P) (hP2 : P ≤ 1073741824) (hm : most ≤ 1000) :
    Calls Tryz.prog 17 #[.pointer (some ⟨db, 0, none⟩), .int .i64 (P : Int), .int .i64 (most : Int)] w (PRollRes W w db p l cap P most) := by
  have HRW := Lib.hid hR
  have HNE := Lib.hid (rd_ne hR hWdb)
  have hdbw := hE.dice.lt
  obtain ⟨g6, hg6⟩ : ∃ g, g = w.heap.size := ⟨_, rfl⟩
  have hG6 := Bx.new w 30 [.int .i64 0, .slice none 0 0]
  have hE0 := hE.keep ((Below.refl w.heap.size w).alloc (Nat.le_refl _) (.cells #[.int .i64 0, .slice none 0 0] 30))
  change Bx (w.alloc (.cells #[.int .i64 0, .slice none 0 0] 30)) _ _ _ at hG6
  go_enter Tryz.func17, Tryz.ntmps17
  go_upto_region 1 with (fail)
  generalize w.alloc (.cells #[.int .i64 0, .slice none 0 0] 30) = w0 at *
  rw [← hg6] at hG6 hdbw ⊢
  clear hE hg6
  go_upto_region 2 with (fail)
  have hG := Bx.new w0 30 [.int .i64 (P : Int), .slice none 0 0]
  have hE1 := hE0.keep ((Below.refl w0.heap.size w0).alloc (Nat.le_refl _) (.cells #[.int .i64 (P : Int), .slice none 0 0] 30))
  have hG61 := hG6.keep ((Below.refl w0.heap.size w0).alloc (Nat.le_refl _) (.cells #[.int .i64 (P : Int), .slice none 0 0] 30))
  have h6b := hG6.lt
  change Bx (w0.alloc (.cells #[.int .i64 (P : Int), .slice none 0 0] 30)) _ _ _ at hG
  generalize w0.alloc (.cells #[.int .i64 (P : Int), .slice none 0 0] 30) = w1 at *
  generalize w0.heap.size = gb at *
  clear hG6 hE0
  go_wp2_with (go_at_call 9; (with_reducible refine (next_walk _ p l cap q0 ((most : Int) + 1) _ hE1.dice hE1.rd HNE.out (by omega) (by omega) (by omega)).mono ?_))
  (first | rintro e w2 rfl hD hg | rintro e w2 ⟨rfl, hD, hg⟩)
  have hE2 := hE1.grown HNE.out hWdb hD hg
  replace hG := hG.grown hg (fun e => by have := Option.some.inj e; omega)
  replace hG61 := hG61.grown hg (fun e => by have := Option.some.inj e; omega)
  have b1 := dnum_lo l q0 (n := (most : Int) + 1) (by omega)
  have b2 := dnum_hi l q0 (n := (most : Int) + 1) (by omega)
  obtain ⟨n, hn⟩ : ∃ n : Nat, dnum l q0 ((most : Int) + 1) = (n : Int) := ⟨(dnum l q0 ((most : Int) + 1)).toNat, by omega⟩
  rw [hn] at b1 b2 ⊢
  have hnm : n ≤ most := by omega
  generalize dnxt l q0 = q1 at *
  clear hD hg hE1 hn b1 b2
  have KP := Lib.hid (fun (k : Nat) V => rPublic_walk P ((k : Int) + 2) V hP hP2)
  go_wp2_with fail
  go_loopw [9] (fun i wr => ∃ (k : Nat) (a : Option Addr) (c : Nat) (L : List Prs) (q : Nat), k ≤ n ∧ i = .int .i64 ((k : Int) + 1) ∧ Hid (Ppl P k L) ∧ Bx wr gb 30 [.int .i64 (P : Int), .slice a k c] ∧ Bx wr g6 30 [.int .i64 0, .slice none 0 0] ∧ Ow wr (gb + 1) 3 a k c (rowsC prC L) ∧ Env W wr db p l cap q) (fun i _ => n + 1 - (intOf i).toNat)
  case atStart => exact ⟨0, none, 0, [], q1, by omega, rfl, Lib.hid ⟨rfl, rfl⟩, hG, hG61, Ow.nil _ _ _, hE2⟩
  case round =>
    clear hG hG61 hE2
    obtain ⟨k, a, c, L, q, hk, rfl, hL, hG, hG6, hO, hE⟩ := hrel
    by_cases hkn : k < n
    · have hkl : (k : Int) + 1 ≤ (n : Int) := by omega
      have HNG := Lib.hid (rd_ne hR (show W.heap.size ≤ gb by omega))
      have HPR := Lib.hid (fun dep : Int => (show rowsC prC L ++ [.int .i64 ((k : Int) + 1), .int .i64 ((gpw P 4 ((k : Int) + 2) : Nat) : Int), .int .i64 dep] = rowsC prC (L ++ [⟨(k : Int) + 1, ((gpw P 4 ((k : Int) + 2) : Nat) : Int), dep⟩]) by rw [rowsC_append, rowsC_single]; rfl))
      have HL2 := Lib.hid (fun dep : Int => Lib.hid (hL.out.snoc dep))
      have KPk := Lib.hid (fun V => KP.out k V)
      have hkw : IntKind.i64.wrap ((k : Int) + 1 + 1) = (k : Int) + 2 := by rw [IntKind.wrap_i64]; omega
      have hgb := hG.lt
      have hdb2 := hE.dice.lt
      generalize ((gpw P 4 ((k : Int) + 2) : Nat) : Int) = y at *
      clear hL KP
      go_upto_region 6 with (fail)
      refine wp_region_held_last' (S := fun w' => w'.cell? ⟨gb, 1, none⟩ = some (.slice a k c)) 13 rfl (by kernel_rfl) (by kernel_rfl) (by kernel_rfl) (hG.cell 1 rfl) (fun hHeld => ?_)
      dsimp only [List.dropLast, List.replicate] at hHeld ⊢
      replace hG := hG.drew
      replace hG6 := hG6.drew
      replace hO := hO.keep (Below.refl _ _).drew
      replace hE := hE.keep (Below.refl _ _).drew
      generalize wr.drew = wR at *
      refine held_take (0) (v := ?_) rfl (by kernel_rfl) (by kernel_rfl) (by kernel_rfl) (fun _ _ _ h => h) (Or.inl ⟨by rfl, ?_⟩) (by assumption) ?_
      rotate_left
      · intro w hSw
        try dsimp only at hSw
        go_simp
        with_reducible rfl
      try simp only [Act.put, List.setIfInBounds_toArray, List.set_cons_zero, List.set_cons_succ]
      refine held_take (1) (v := ?_) rfl (by kernel_rfl) (by kernel_rfl) (by kernel_rfl) (fun _ _ _ h => h) (Or.inl ⟨by rfl, ?_⟩) (by assumption) ?_
      rotate_left
      · intro w hSw
        try dsimp only at hSw
        go_simp
        with_reducible rfl
      try simp only [Act.put, List.setIfInBounds_toArray, List.set_cons_zero, List.set_cons_succ]
      refine held_take (2) (v := ?_) rfl (by kernel_rfl) (by kernel_rfl) (by kernel_rfl) (fun _ _ _ h => h) (Or.inl ⟨by rfl, ?_⟩) (by assumption) ?_
      rotate_left
      · intro w hSw
        try dsimp only at hSw
        go_simp
        with_reducible rfl
      try simp only [Act.put, List.setIfInBounds_toArray, List.set_cons_zero, List.set_cons_succ]
      refine held_take (3) (v := ?_) rfl (by kernel_rfl) (by kernel_rfl) (by kernel_rfl) (fun _ _ _ h => h) (Or.inl ⟨by rfl, ?_⟩) (by assumption) ?_
      rotate_left
      · intro w hSw
        try dsimp only at hSw
        go_simp
        with_reducible rfl
      try simp only [Act.put, List.setIfInBounds_toArray, List.set_cons_zero, List.set_cons_succ]
      refine held_take (4) (v := ?_) rfl (by kernel_rfl) (by kernel_rfl) (by kernel_rfl) (fun _ _ _ h => h) (Or.inl ⟨by rfl, ?_⟩) (by assumption) ?_
      rotate_left
      · intro w hSw
        try dsimp only at hSw
        go_simp
        with_reducible rfl
      try simp only [Act.put, List.setIfInBounds_toArray, List.set_cons_zero, List.set_cons_succ]
      refine held_take (5) (v := ?_) rfl (by kernel_rfl) (by kernel_rfl) (by kernel_rfl) (fun _ _ _ h => h) (Or.inl ⟨by rfl, ?_⟩) (by assumption) ?_
      rotate_left
      · intro w hSw
        try dsimp only at hSw
        go_simp
        with_reducible rfl
      try simp only [Act.put, List.setIfInBounds_toArray, List.set_cons_zero, List.set_cons_succ]
      refine held_take (7) (v := ?_) rfl (by kernel_rfl) (by kernel_rfl) (by kernel_rfl) (fun _ _ _ h => h) (Or.inl ⟨by rfl, ?_⟩) (by assumption) ?_
      rotate_left
      · intro w hSw
        try dsimp only at hSw
        go_simp
        with_reducible rfl
      try simp only [Act.put, List.setIfInBounds_toArray, List.set_cons_zero, List.set_cons_succ]
      refine wpAnyH_ready (rs := [6]) (by kernel_rfl) (by simp) ?_
      refine held_cons rfl (fun K hK => ?_) AllReadyH.nil
      go_simp
      go_at_call 13
      (with_reducible refine (KPk.out _).mono ?_)
      first | rintro e wM rfl rfl | rintro e wM ⟨rfl, rfl⟩
      go_wp2_with fail
      refine hK.out _ _ (hG.cell 1 rfl) (fun hHeld => ?_)
      clear hK K
      try simp only [Act.put, List.setIfInBounds_toArray, List.set_cons_zero, List.set_cons_succ]
      refine wpAnyH_ready (rs := [8]) (by kernel_rfl) (by simp) ?_
      refine held_cons rfl (fun K hK => ?_) AllReadyH.nil
      go_simp
      go_at_call 9
      (with_reducible refine (next_walk _ p l cap q 3 _ hE.dice hE.rd HNE.out (by omega) (by omega) (by omega)).mono ?_)
      first | rintro e wN rfl hD hg | rintro e wN ⟨rfl, hD, hg⟩
      go_wp2_with fail
      have hEn := hE.grown HNE.out hWdb hD hg
      have hGn := hG.grown hg (fun e => by have := Option.some.inj e; omega)
      replace hG6 := hG6.grown hg (fun e => by have := Option.some.inj e; omega)
      have hOn := hO.kept hg (by cases hr : rowOf a with | none => exact .inl rfl | some x => exact .inr (fun e => by have := (hO.row x hr).1; have := Option.some.inj e; omega))
      have hEn3 := hEn.dice.lt
      have hGn3 := hGn.lt
      generalize dnum l q 3 = dep at *
      generalize dnxt l q = qn at *
      clear hD hg hE hG hO
      refine hK.out _ _ (hGn.cell 1 rfl) (fun hHeld => ?_)
      clear hK K
      try simp only [Act.put, List.setIfInBounds_toArray, List.set_cons_zero, List.set_cons_succ]
      refine held_take (9) (v := ?_) rfl (by kernel_rfl) (by kernel_rfl) (by kernel_rfl) (fun _ _ _ h => h) (Or.inl ⟨by rfl, ?_⟩) (by assumption) ?_
      rotate_left
      · intro w hSw
        try dsimp only at hSw
        go_simp
        with_reducible rfl
      try simp only [Act.put, List.setIfInBounds_toArray, List.set_cons_zero, List.set_cons_succ]
      refine wpAnyH_ready (rs := [10]) (by kernel_rfl) (by simp) ?_
      refine held_cons rfl (fun K hK => ?_) AllReadyH.nil
      go_simp
      have hbL := (Below.refl wN.heap.size wN).alloc (Nat.le_refl _) (.cells #[.int .i64 ((k : Int) + 1), .int .i64 y, .int .i64 dep] 43)
      refine hK.out _ _ ((hGn.keep hbL).cell 1 rfl) (fun hHeld => ?_)
      clear hK K
      try simp only [Act.put, List.setIfInBounds_toArray, List.set_cons_zero, List.set_cons_succ]
      refine wpAnyH_ready (rs := [11]) (by kernel_rfl) (by simp) ?_
      refine held_cons rfl (fun K hK => ?_) AllReadyH.nil
      refine step_appn (w0 := W) (B := W.heap.size) (base := gb + 1) rfl _ _ _ rfl elPr rfl hOn hEn.below (by omega) (by omega) (m := 1) (cs := [.int .i64 ((k : Int) + 1), .int .i64 y, .int .i64 dep]) rfl rfl (by intro u hu; simp at hu; rcases hu with rfl | rfl | rfl <;> rfl) (by omega) ?_
      intro a2 c2 wA hO8 hb8 hg8
      have hG8 := hGn.grown hg8 (fun e => by have := (hOn.row gb e.symm).1; omega)
      have hG68 := hG6.grown hg8 (fun e => by have := (hOn.row g6 e.symm).1; omega)
      have hE8 := hEn.row hg8 (fun x h => by have := (hOn.row x h).1; omega) hWdb HRW.out
      clear hb8 hg8
      refine hK.out _ _ (hG8.cell 1 rfl) (fun hHeld => ?_)
      clear hK K
      try simp only [Act.put, List.setIfInBounds_toArray, List.set_cons_zero, List.set_cons_succ]
      refine held_take (12) (v := ?_) rfl (by kernel_rfl) (by kernel_rfl) (by kernel_rfl) (fun _ _ _ h => h) (Or.inl ⟨by rfl, ?_⟩) (by assumption) ?_
      rotate_left
      · intro w hSw
        try dsimp only at hSw
        go_simp
        with_reducible rfl
      try simp only [Act.put, List.setIfInBounds_toArray, List.set_cons_zero, List.set_cons_succ]
      refine wpAnyH_done (by kernel_rfl) ?_ _
      dsimp only [Behind]
      have v1 := hG8.cell 1 (v := .slice a k c) rfl
      have v2 := hG8.free 1
      have hG9 := hG8.set 1 (.slice a2 (k + 1) c2)
      have hO9 := hO8.other (b := gb) (fun x h e => by have := (hO8.row x h).1; omega) 1 (.slice a2 (k + 1) c2)
      have hG69 := hG68.other (b := gb) (by omega) 1 (.slice a2 (k + 1) c2)
      have hlo : W.heap.size ≤ gb := by omega
      have hE9 := hE8.set gb 1 (.slice a2 (k + 1) c2) (by omega) hlo (HNG.out)
      rw [HPR.out dep] at hO9
      clear hG8 hO8 hE8 hGn hOn hEn hbL hG68 hG6
      go_simp
      go_wp2_with fail
      go_roundw
      case rel => exact ⟨k + 1, a2, c2, _, _, by omega, by go_num, HL2.out dep, hG9, hG69, hO9, hE9⟩
      case measure => simp [intOf]; omega
    · have hkl : ¬ (k : Int) + 1 ≤ (n : Int) := by omega
      obtain rfl : k = n := by omega
      have c0 := hG.cell 0 (v := .int .i64 (P : Int)) rfl
      have c1 := hG.cell 1 (v := .slice a k c) rfl
      have y0 := hG6.cell 0 (v := .int .i64 0) rfl
      have y1 := hG6.cell 1 (v := .slice none 0 0) rfl
      have f0 := hG6.free 0
      have f1 := hG6.free 1
      have hF : Bx ((wr.setCell ⟨g6, 0, none⟩ (.int .i64 (P : Int))).setCell ⟨g6, 1, none⟩ (.slice a k c)) g6 30 [.int .i64 (P : Int), .slice a k c] := (hG6.set 0 _).set 1 _
      have hO6 := ((hO.other (b := g6) (fun x h e => by have := (hO.row x h).1; omega) 0 (.int .i64 (P : Int))).other (b := g6) (fun x h e => by have := (hO.row x h).1; omega) 1 (.slice a k c)).lower (show db + 1 ≤ gb + 1 by omega)
      have hlo : W.heap.size ≤ g6 := by omega
      have hne6 := rd_ne hR hlo
      have hE6 := (hE.set g6 0 (.int .i64 (P : Int)) (by omega) hlo hne6).set g6 1 (.slice a k c) (by omega) hlo hne6
      have HR6 := Lib.hid (show PRollRes W ((wr.setCell ⟨g6, 0, none⟩ (.int .i64 (P : Int))).setCell ⟨g6, 1, none⟩ (.slice a k c)) db p l cap P most (.returned (.agg #[.int .i64 (P : Int), .slice a k c])) ((wr.setCell ⟨g6, 0, none⟩ (.int .i64 (P : Int))).setCell ⟨g6, 1, none⟩ (.slice a k c)) from ⟨k, a, c, L, q, rfl, hnm, hL.out, hO6, hE6⟩)
      clear hG hG6 hO hE hL hO6 hE6 hne6
      go_wp2_with fail
      exact bodyPost_ret (Roll.ret (t := 6) rfl _ rfl hF) rfl HR6.out
end Go.Proofs.YtnahkfchcminpaaGreatDoor
