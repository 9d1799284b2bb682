/- Rolls: who leaves: the reference's Leave. -/
import Derived.Test.YtnahkfchcminpaaGreatDoorGEnrG
import Derived.Test.YtnahkfchcminpaaGreatDoorGEnrT
import Derived.Test.YtnahkfchcminpaaGreatDoorGEnrR
import Derived.Test.YtnahkfchcminpaaGreatDoorGAppAt
import Derived.Test.YtnahkfchcminpaaGreatDoorRegionL
namespace Go.Proofs.YtnahkfchcminpaaGreatDoor
open Go.RowKit
/-- the boxes of Leave -/
structure Rl (W w : World) (gb gz : Nat) (p : Int) (a : Option Addr) (n c : Nat) (L : List Prs) : Prop where
  g : Bx w gb 30 [.int .i64 p, .slice a n c]
  z : Bx w gz 30 [.int .i64 0, .slice none 0 0]
  r : Rd w a (rowsC prC L)
  b : Below gb W w
  lt : gb < gz
section
variable {W w w' : World} {gb gz : Nat} {p : Int} {a : Option Addr} {n c : Nat} {L : List Prs}
theorem Rl.keep (h : Rl W w gb gz p a n c L) (hb : Below w.heap.size w w') : Rl W w' gb gz p a n c L :=
  ⟨h.g.keep hb, h.z.keep hb, h.r.keep hb, h.b.trans (hb.mono (Nat.le_of_lt h.g.lt)), h.lt⟩
theorem Rl.far {N : Nat} {row : Option Nat} (h : Rl W w gb gz p a n c L) (hg : w.grownBy w' row) (h1 : gz < N) (h2 : ∀ j, rowOf a = some j → j < N) (hr : ∀ j, row = some j → N ≤ j) : Rl W w' gb gz p a n c L := by
  have hx : ∀ j, j < N → some j ≠ row := fun j hj e => by have := hr j e.symm; omega
  have := h.lt
  exact ⟨h.g.grown hg (hx _ (by omega)), h.z.grown hg (hx _ (by omega)), h.r.grown hg (fun g off e => hx _ (h2 _ (by rw [e]; rfl))), h.b.grown hg (Nat.le_of_lt h.g.lt) (fun k hk => by have := hr k hk; omega), h.lt⟩
theorem Rl.res (h : Rl W w gb gz p a n c L) :
    (w.cell? ⟨gz, 0, none⟩ = some (.int .i64 0) ∧ w.cell? ⟨gz, 1, none⟩ = some (.slice none 0 0)) ∧ (w.frozen? ⟨gz, 0, none⟩ = false ∧ w.frozen? ⟨gz, 1, none⟩ = false) :=
  ⟨⟨h.z.cell 0 rfl, h.z.cell 1 rfl⟩, h.z.free 0, h.z.free 1⟩
theorem Rl.fin (h : Rl W w gb gz p a n c L) (v0 v1 : Value) :
    Bx ((w.setCell ⟨gz, 0, none⟩ v0).setCell ⟨gz, 1, none⟩ v1) gz 30 [v0, v1] ∧ Below gb W ((w.setCell ⟨gz, 0, none⟩ v0).setCell ⟨gz, 1, none⟩ v1) := by
  have := h.lt
  exact ⟨(h.z.set 0 v0).set 1 v1, (h.b.setCell (p := ⟨gz, 0, none⟩) (by show _ ≤ gz; omega) v0).setCell (p := ⟨gz, 1, none⟩) (by show _ ≤ gz; omega) v1⟩
end
theorem RollRes.left {W w' : World} {e p z : Int} {l : List Prs} (he : lvE p l z = e) (h0 : e ≠ 0) (h : Below W.heap.size W w') :
    RollRes W (addQ (lvE p l z) p) (lvE p l z) (lvP (lvE p l z) z l) (.returned (.tuple #[.agg #[.int .i64 0, .slice none 0 0], .int .i64 e])) w' := by
  rw [he, addQ, lvP, if_neg h0, if_neg h0]
  exact RollRes.no h
theorem lvE_roll {p z : Int} {l : List Prs} (h : chkP p l = 40) : lvE p l z = 40 := by rw [lvE, if_pos (by rw [h]; decide)]
theorem lvE_none {p z : Int} {l : List Prs} (h : chkP p l = 0) (h1 : (fstP Prs.id l z).isSome = false) : lvE p l z = 41 := by rw [lvE, if_neg (by rw [h]; simp), if_pos h1]
theorem lvE_ok {p z : Int} {l : List Prs} (h : chkP p l = 0) (h1 : (fstP Prs.id l z).isSome = true) : lvE p l z = 0 := by rw [lvE, if_neg (by rw [h]; simp), if_neg (by rw [h1]; simp)]
theorem filter_at {l : List Prs} {k : Nat} {r : Prs} {z : Int} (h : Hid (l[k]? = some r)) : (l.take (k + 1)).filter (fun r => r.id != z) = (l.take k).filter (fun r => r.id != z) ++ (if r.id = z then [] else [r]) := by
  rw [take_at h, List.filter_append]
  by_cases e : r.id = z
  · rw [if_pos e, List.filter_cons_of_neg (by simpa using e)]; rfl
  · rw [if_neg e, List.filter_cons_of_pos (by simpa using e)]; rfl
set_option maxRecDepth 100000 in
set_option maxHeartbeats 4000000 in
theorem rleave_walk (p : Int) (a : Option Addr) (l : List Prs) (c : Nat) (z : Int) (w : World) (hsp : rsafe p = safeP p) (hR : Rd w a (rowsC prC l)) (hn : l.length ≤ 281474976710656) :
    Calls Tryz.prog 38 #[.agg #[.int .i64 p, .slice a l.length c], .int .i64 z] w (RollRes w (addQ (lvE p l z) p) (lvE p l z) (lvP (lvE p l z) z l)) := by
  obtain ⟨gb, hgb⟩ : ∃ g, g = w.heap.size := ⟨_, rfl⟩
  obtain ⟨w0, hw0⟩ : ∃ w0, w0 = (w.alloc (.cells #[.int .i64 p, .slice a l.length c] 30)).alloc (.cells #[.int .i64 0, .slice none 0 0] 30) := ⟨_, rfl⟩
  have hD : Rl w w0 gb (gb + 1) p a l.length c l := by
    have hb0 : Below w.heap.size w w0 := by rw [hw0]; exact ((Below.refl w.heap.size w).alloc (Nat.le_refl _) _).alloc (by simp) _
    refine ⟨?_, ?_, hR.keep hb0, hgb ▸ hb0, by omega⟩
    · rw [hw0, hgb]; exact (Bx.new w 30 [.int .i64 p, .slice a l.length c]).alloc _
    · rw [hw0, hgb]
      have := Bx.new (w.alloc (.cells #[.int .i64 p, .slice a l.length c] 30)) 30 [.int .i64 0, .slice none 0 0]
      simpa using this
  have HB := Lib.hid hgb
  have hbw : w.heap.size = gb := hgb.symm
  have K1 := Lib.hid (recheck_walk p a l c w0 hsp hD.r hn)
  clear hgb hR hsp
  go_enter Tryz.func38, Tryz.ntmps38
  go_upto_region 1 with (fail)
  rw [← hw0]
  clear hw0
  have y0 := hD.g.cell 0 (v := .int .i64 p) rfl
  have y1 := hD.g.cell 1 (v := .slice a l.length c) rfl
  rcases chkP_cases p l with ⟨hc, -, hl64, -⟩ | hc
  rotate_left
  · rw [hc] at K1
    have HL := Lib.hid (lvE_roll (z := z) hc)
    clear hc
    go_wp2_with (go_at_call 39; (with_reducible refine K1.out.mono ?_))
    rintro e w1 ⟨rfl, hb1⟩
    replace hD := hD.keep hb1
    clear y0 y1 hb1 K1
    obtain ⟨⟨z0, z1⟩, ⟨f0, f1⟩⟩ := hD.res
    have hF := hD.fin (.int .i64 0) (.slice none 0 0)
    go_wp2_with fail
    exact bodyPost_ret (RollB.ret (t := 4) (u := 5) rfl _ rfl hF.1) rfl (RollRes.left HL.out (by decide) (HB.out ▸ hF.2))
  rw [hc] at K1
  have HC := Lib.hid hc
  clear hc
  go_wp2_with (go_at_call 39; (with_reducible refine K1.out.mono ?_))
  rintro e w1 ⟨rfl, hb1⟩
  replace hD := hD.keep hb1
  clear y0 y1 hb1 K1
  have y0 := hD.g.cell 0 (v := .int .i64 p) rfl
  have y1 := hD.g.cell 1 (v := .slice a l.length c) rfl
  have K2 := Lib.hid (rfind_walk p a l c z w1 hD.r hn)
  obtain ⟨bb, hbb⟩ : ∃ b, b = (fstP Prs.id l z).isSome := ⟨_, rfl⟩
  rw [← hbb] at K2
  have HBB := Lib.hid hbb
  clear hbb
  generalize (fstP Prs.id l z).getD Prs.zero = rr at *
  go_wp2_with (go_at_call 40; (with_reducible refine K2.out.mono ?_))
  rintro e w2 ⟨rfl, hb2⟩
  replace hD := (hD.keep hb2).keep ((Below.refl w2.heap.size w2).alloc (Nat.le_refl _) (.cells #[.int .i64 rr.id, .int .i64 rr.key, .int .i64 rr.dep] 43))
  clear y0 y1 hb2 K2
  go_upto_region 4 with (fail)
  generalize w2.alloc (.cells #[.int .i64 rr.id, .int .i64 rr.key, .int .i64 rr.dep] 43) = w3 at *
  cases bb with
  | false =>
    have HL := Lib.hid (lvE_none HC.out HBB.out.symm)
    obtain ⟨⟨z0, z1⟩, ⟨f0, f1⟩⟩ := hD.res
    have hF := hD.fin (.int .i64 0) (.slice none 0 0)
    go_wp2_with fail
    exact bodyPost_ret (RollB.ret (t := 4) (u := 5) rfl _ rfl hF.1) rfl (RollRes.left HL.out (by decide) (HB.out ▸ hF.2))
  | true =>
  have HL := Lib.hid (lvE_ok HC.out HBB.out.symm)
  clear HC HBB
  have y0 := hD.g.cell 0 (v := .int .i64 p) rfl
  go_upto_region 7 with (fail)
  have hX := Bx.new w3 30 [.int .i64 p, .slice none 0 0]
  change Bx (w3.alloc (.cells #[.int .i64 p, .slice none 0 0] 30)) _ _ _ at hX
  have hgo : gb + 1 < w3.heap.size := hD.z.lt
  have hra : ∀ j, rowOf a = some j → l.length ≠ 0 → j < w3.heap.size := fun j hj h0 => by
    obtain ⟨g, off, r, ha, _, d0, _⟩ := hD.r.prs (k := 0) (by omega)
    rw [ha] at hj
    cases hj
    simpa using World.block_lt_of_cell? w3 _ d0
  replace hD := hD.keep ((Below.refl w3.heap.size w3).alloc (Nat.le_refl _) (.cells #[.int .i64 p, .slice none 0 0] 30))
  clear y0
  generalize w3.alloc (.cells #[.int .i64 p, .slice none 0 0] 30) = w4 at *
  generalize w3.heap.size = go at *
  have HRA := Lib.hid hra
  clear hra
  go_wp2_with fail
  go_loopw [9] (fun i wr => ∃ (k : Nat) (M : List Prs) (b : Option Addr) (n d : Nat), k ≤ l.length ∧ i = .int .i64 (k : Int) ∧ n ≤ k ∧ Hid (M.length = n) ∧ Hid (M = (l.take k).filter (fun r => r.id != z)) ∧ Rl w wr gb (gb + 1) p a l.length c l ∧ Bx wr go 30 [.int .i64 p, .slice b n d] ∧ Ow wr (go + 1) 3 b n d (rowsC prC M)) (fun i _ => l.length - (intOf i).toNat)
  case atStart => exact ⟨0, [], none, 0, 0, Nat.zero_le _, rfl, Nat.le_refl _, Lib.hid rfl, Lib.hid rfl, hD, hX, Ow.nil _ _ _⟩
  case round =>
    clear hD hX
    obtain ⟨k, M, b, n, d, hk, rfl, hnk, hMl, hM, hD, hX, hO⟩ := hrel
    have c1 := hD.g.cell 1 (v := .slice a l.length c) rfl
    by_cases hkt : k < l.length
    rotate_left
    · have hkl : ¬ ((k : Int) < (l.length : Int)) := by omega
      obtain rfl : k = l.length := by omega
      obtain ⟨⟨z0, z1⟩, ⟨f0, f1⟩⟩ := hD.res
      have x0 := hX.cell 0 (v := .int .i64 p) rfl
      have x1 := hX.cell 1 (v := .slice b n d) rfl
      have hF := hD.fin (.int .i64 p) (.slice b n d)
      have hO2 : Ow (((wr.setCell ⟨gb + 1, 0, none⟩ (.int .i64 p)).setCell ⟨gb + 1, 1, none⟩ (.slice b n d))) (go + 1) 3 b n d (rowsC prC M) := by
        refine (hO.kept (set_grown wr (gb + 1) 0 (.int .i64 p)) ?_).kept (set_grown _ (gb + 1) 1 (.slice b n d)) ?_
        · exact .inr (fun e => by have := (hO.row _ e).1; omega)
        · exact .inr (fun e => by have := (hO.row _ e).1; omega)
      rw [List.take_length] at hM
      have hlv : lvP 0 z l = M := by rw [lvP, if_pos rfl]; exact hM.out.symm
      have HLV := Lib.hid hlv
      clear hD hX hO hM hlv
      go_wp2_with fail
      refine bodyPost_ret (RollB.ret (t := 4) (u := 5) rfl _ rfl hF.1) rfl ?_
      rw [HL.out, HLV.out]
      have hml := hMl.out
      subst hml
      exact ⟨b, d, rfl, hO2.2.1, hO2.rd, fun j hj => by have := (hO2.row j hj).1; omega, hbw ▸ hF.2⟩
    obtain ⟨g, off, r, rfl, hr, d0, d1, d2⟩ := hD.r.prs hkt
    have hkl : (k : Int) < (l.length : Int) := by omega
    have hfa := filter_at (z := z) hr
    by_cases he : r.id = z
    · have t1 : (r.id != z) = false := by simpa using he
      rw [if_pos he, List.append_nil] at hfa
      have hM2 : Hid (M = (l.take (k + 1)).filter (fun r => r.id != z)) := Lib.hid (hM.out.trans hfa.symm)
      clear hM hr hfa he
      go_wp2_with fail
      go_roundw
      case rel => exact ⟨k + 1, M, b, n, d, by omega, by go_num, by omega, hMl, hM2, hD, hX, hO⟩
      case measure => simp [intOf]; omega
    have t1 : (r.id != z) = true := by simpa using he
    rw [if_neg he] at hfa
    have hM2 : Hid (M ++ [r] = (l.take (k + 1)).filter (fun r => r.id != z)) := Lib.hid (by rw [hM.out]; exact hfa.symm)
    have hMl2 : Hid ((M ++ [r]).length = n + 1) := Lib.hid (by rw [List.length_append, hMl.out]; rfl)
    clear hM hfa he hMl
    go_upto_region 11 with (fail)
    have hgw : gb + 1 < go := hgo
    have hN1 : gb + 1 < wr.heap.size := hD.z.lt
    have hga : g < go := HRA.out g rfl (by omega)
    have hgx : go < wr.heap.size := hX.lt
    have hby : (n + 1) * 24 ≤ 140737488355328 := by omega
    have hDd := hD.keep (Below.refl wr.heap.size wr).drew
    have hXd := hX.drew
    have hOd := hO.keep (Below.refl wr.heap.size wr).drew
    obtain ⟨g', off', r', hg', hr', e0, e1, e2⟩ := hDd.r.prs hkt
    cases hg'
    obtain rfl := same_at hr hr'
    have e3 := hDd.g.cell 1 (v := .slice (some ⟨g, off, none⟩) l.length c) rfl
    have e4 := hXd.cell 1 (v := .slice b n d) rfl
    have hDa := hDd.keep ((Below.refl wr.drew.heap.size wr.drew).alloc (Nat.le_refl _) (.cells #[.int .i64 r'.id, .int .i64 r'.key, .int .i64 r'.dep] 43))
    have hXa := hXd.alloc (.cells #[.int .i64 r'.id, .int .i64 r'.key, .int .i64 r'.dep] 43)
    have hOa := hOd.keep ((Below.refl wr.drew.heap.size wr.drew).alloc (Nat.le_refl _) (.cells #[.int .i64 r'.id, .int .i64 r'.key, .int .i64 r'.dep] 43))
    have hYa := Bx.rd (Bx.new wr.drew 43 (prC r'))
    obtain ⟨g', off', r2, hg', hr2, q0, q1, q2⟩ := hDa.r.prs hkt
    cases hg'
    obtain rfl := same_at hr hr2
    have q3 := hDa.g.cell 1 (v := .slice (some ⟨g, off, none⟩) l.length c) rfl
    have q4 := hXa.cell 1 (v := .slice b n d) rfl
    clear c1 d0 d1 d2 hr' hr2 hD hX hO
    refine wp_region_held_last' (S := fun w' => w'.cell? ⟨go, 1, none⟩ = some (.slice b n d) ∧ w'.cell? ⟨gb, 1, none⟩ = some (.slice (some ⟨g, off, none⟩) l.length c) ∧ w'.cell? ⟨g, off + k * 3, none⟩ = some (.int .i64 r2.id) ∧ w'.cell? ⟨g, off + k * 3 + 1, none⟩ = some (.int .i64 r2.key) ∧ w'.cell? ⟨g, off + k * 3 + 2, none⟩ = some (.int .i64 r2.dep)) 10 rfl (by kernel_rfl) (by kernel_rfl) (by kernel_rfl) ⟨e4, e3, e0, e1, e2⟩ (fun hHeld => ?_)
    dsimp only [List.dropLast, List.replicate] at hHeld ⊢
    refine held_take (0) (v := ?_) rfl (by kernel_rfl) (by kernel_rfl) (by kernel_rfl) (fun _ _ _ h => h) (Or.inl ⟨by rfl, ?_⟩) (by assumption) ?_
    rotate_left
    · intro w hSw
      try dsimp only at hSw
      go_simp
      with_reducible rfl
    try simp only [Act.put, List.setIfInBounds_toArray, List.set_cons_zero, List.set_cons_succ]
    refine held_take (1) (v := ?_) rfl (by kernel_rfl) (by kernel_rfl) (by kernel_rfl) (fun _ _ _ h => h) (Or.inl ⟨by rfl, ?_⟩) (by assumption) ?_
    rotate_left
    · intro w hSw
      try dsimp only at hSw
      go_simp
      with_reducible rfl
    try simp only [Act.put, List.setIfInBounds_toArray, List.set_cons_zero, List.set_cons_succ]
    refine held_take (2) (v := ?_) rfl (by kernel_rfl) (by kernel_rfl) (by kernel_rfl) (fun _ _ _ h => h) (Or.inl ⟨by rfl, ?_⟩) (by assumption) ?_
    rotate_left
    · intro w hSw
      try dsimp only at hSw
      go_simp
      with_reducible rfl
    try simp only [Act.put, List.setIfInBounds_toArray, List.set_cons_zero, List.set_cons_succ]
    refine held_take (3) (v := ?_) rfl (by kernel_rfl) (by kernel_rfl) (by kernel_rfl) (fun _ _ _ h => h) (Or.inl ⟨by rfl, ?_⟩) (by assumption) ?_
    rotate_left
    · intro w hSw
      try dsimp only at hSw
      go_simp
      with_reducible rfl
    try simp only [Act.put, List.setIfInBounds_toArray, List.set_cons_zero, List.set_cons_succ]
    refine held_take (4) (v := ?_) rfl (by kernel_rfl) (by kernel_rfl) (by kernel_rfl) (fun _ _ _ h => h) (Or.inl ⟨by rfl, ?_⟩) (by assumption) ?_
    rotate_left
    · intro w hSw
      try dsimp only at hSw
      go_simp
      with_reducible rfl
    try simp only [Act.put, List.setIfInBounds_toArray, List.set_cons_zero, List.set_cons_succ]
    refine held_take (5) (v := ?_) rfl (by kernel_rfl) (by kernel_rfl) (by kernel_rfl) (fun _ _ _ h => h) (Or.inl ⟨by rfl, ?_⟩) (by assumption) ?_
    rotate_left
    · intro w hSw
      try dsimp only at hSw
      go_simp
      with_reducible rfl
    try simp only [Act.put, List.setIfInBounds_toArray, List.set_cons_zero, List.set_cons_succ]
    refine held_take (6) (v := ?_) rfl (by kernel_rfl) (by kernel_rfl) (by kernel_rfl) (fun _ _ _ h => h) (Or.inl ⟨by rfl, ?_⟩) (by assumption) ?_
    rotate_left
    · intro w hSw
      try dsimp only at hSw
      go_simp
      with_reducible rfl
    try simp only [Act.put, List.setIfInBounds_toArray, List.set_cons_zero, List.set_cons_succ]
    refine wpAnyH_ready (rs := [7]) (by kernel_rfl) (by simp) ?_
    refine held_cons rfl (fun K hK => ?_) AllReadyH.nil
    go_simp
    refine hK.out _ _ ⟨q4, q3, q0, q1, q2⟩ (fun hHeld => ?_)
    clear hK K
    try simp only [Act.put, List.setIfInBounds_toArray, List.set_cons_zero, List.set_cons_succ]
    refine wpAnyH_ready (rs := [8]) (by kernel_rfl) (by simp) ?_
    refine held_cons rfl (fun K hK => ?_) AllReadyH.nil
    refine step_apps (w0 := w) (B := gb) rfl _ _ _ _ rfl elPr rfl hOa hDa.b (by omega) (by simp; omega) rfl (Src.slice (m := 1) Tryz.underlying28 (by rfl) hYa (prC_one _)) hby ?_
    intro b5 d5 w5 hO5 hB5 hg5
    have h5 := hDa.far (N := go) hg5 hgw (fun j hj => by cases hj; exact hga) (fun j hj => by have := (hOa.row j hj).1; omega)
    have x5 := hXa.grown hg5 (fun e => by have := (hOa.row go e.symm).1; omega)
    obtain ⟨g', off', r5, hg', hr5, p0, p1, p2⟩ := h5.r.prs hkt
    cases hg'
    obtain rfl := same_at hr hr5
    have p3 := h5.g.cell 1 (v := .slice (some ⟨g, off, none⟩) l.length c) rfl
    have p4 := x5.cell 1 (v := .slice b n d) rfl
    have f5 := x5.free 1
    refine hK.out _ _ ⟨p4, p3, p0, p1, p2⟩ (fun hHeld => ?_)
    clear hK K
    try simp only [Act.put, List.setIfInBounds_toArray, List.set_cons_zero, List.set_cons_succ]
    refine held_take (9) (v := ?_) rfl (by kernel_rfl) (by kernel_rfl) (by kernel_rfl) (fun _ _ _ h => h) (Or.inl ⟨by rfl, ?_⟩) (by assumption) ?_
    rotate_left
    · intro w hSw
      try dsimp only at hSw
      go_simp
      with_reducible rfl
    try simp only [Act.put, List.setIfInBounds_toArray, List.set_cons_zero, List.set_cons_succ]
    refine wpAnyH_done (by kernel_rfl) ?_ _
    dsimp only [Behind]
    go_simp
    have hO6 : Ow w5 (go + 1) 3 b5 (n + 1) d5 (rowsC prC (M ++ [r5])) := by rw [rowsC_append, rowsC_single]; exact hO5
    have hg6 := set_grown w5 (go) 1 (.slice b5 (n + 1) d5)
    have hO7 := hO6.kept hg6 (.inr (fun e => by have := (hO6.row _ e).1; omega))
    have hX7 := x5.set 1 (.slice b5 (n + 1) d5)
    have hD7 := h5.far (N := go) hg6 hgw (fun j hj => by cases hj; exact hga) (fun j hj => by cases hj; exact Nat.le_refl _)
    change Bx _ _ _ [.int .i64 p, .slice b5 (n + 1) d5] at hX7
    generalize w5.setCell ⟨go, 1, none⟩ (.slice b5 (n + 1) d5) = w7 at *
    clear p0 p1 p2 p3 p4 f5 q0 q1 q2 q3 q4 e0 e1 e2 e3 e4 hg5 hg6 hDa hXa hOa hYa hOd hXd hDd
    generalize M ++ [r5] = M2 at *
    go_wp2_with fail
    go_roundw
    case rel => exact ⟨k + 1, M2, b5, n + 1, d5, by omega, by go_num, by omega, hMl2, hM2, hD7, hX7, hO7⟩
    case measure => simp [intOf]; omega
end Go.Proofs.YtnahkfchcminpaaGreatDoor
