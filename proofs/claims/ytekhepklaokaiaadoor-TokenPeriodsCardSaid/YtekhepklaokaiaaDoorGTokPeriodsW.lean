/- The walk of the law TokenPeriods. -/
import Derived.Test.YtekhepklaokaiaaDoorGTokL
import Derived.Test.YtekhepklaokaiaaDoorGTokQ
import Derived.Test.YtekhepklaokaiaaDoorGRPow
import Derived.Test.YtekhepklaokaiaaDoorEnv
namespace Go.Proofs.YtekhepklaokaiaaDoor
open Go.RowKit
/-- the office and the counts: three people, three periods -/
structure Per (q : Int) (L : List Iss) (C : List Int) (t : Nat) : Prop where
  good : IGood L L.length
  len : C.length = 9
  eq : ∀ i k : Nat, i < 3 → k < 3 → C[i * 3 + k]? = some (cntI L ((i : Int) + 1) k)
  le : ∀ i k : Nat, i < 3 → k < 3 → cntI L ((i : Int) + 1) k ≤ q
  few : L.length ≤ t
theorem Per.zero {q : Int} (hq : 0 ≤ q) : Per q [] [0, 0, 0, 0, 0, 0, 0, 0, 0] 0 := by
  have h0 : ∀ a b, cntI [] a b = 0 := fun a b => cntI_none (by simp)
  refine ⟨IGood.zero [], rfl, fun i k hi hk => ?_, fun i k _ _ => by rw [h0]; exact hq, Nat.le_refl _⟩
  rw [h0]
  have : i * 3 + k < 9 := by omega
  generalize i * 3 + k = n at *
  have : n = 0 ∨ n = 1 ∨ n = 2 ∨ n = 3 ∨ n = 4 ∨ n = 5 ∨ n = 6 ∨ n = 7 ∨ n = 8 := by omega
  rcases this with rfl | rfl | rfl | rfl | rfl | rfl | rfl | rfl | rfl <;> rfl
theorem Per.step {q : Int} {L L' : List Iss} {C : List Int} {t i k : Nat} (h : Per q L C t) (hi : i < 3) (hk : k < 3) (hG : IGood L' L'.length) (hl : L'.length ≤ L.length + 1) (hc : cntI L ((i : Int) + 1) k < q) (h1 : cntI L' ((i : Int) + 1) k = cntI L ((i : Int) + 1) k + 1)
    (h2 : ∀ a' b' : Int, ¬ (a' = (i : Int) + 1 ∧ b' = (k : Int)) → cntI L' a' b' = cntI L a' b') : Per q L' (C.set (i * 3 + k) (cntI L ((i : Int) + 1) k + 1)) (t + 1) := by
  refine ⟨hG, by rw [List.length_set]; exact h.len, fun i' k' hi' hk' => ?_, fun i' k' hi' hk' => ?_, by have := h.few; omega⟩
  · by_cases e : i' = i ∧ k' = k
    · obtain ⟨rfl, rfl⟩ := e
      rw [List.getElem?_set_self (by rw [h.len]; omega), h1]
    · rw [List.getElem?_set_ne (by omega), h.eq i' k' hi' hk', h2 _ _ (by omega)]
  · by_cases e : i' = i ∧ k' = k
    · obtain ⟨rfl, rfl⟩ := e
      rw [h1]; omega
    · rw [h2 _ _ (by omega)]; exact h.le i' k' hi' hk'
theorem Per.next {q : Int} {L : List Iss} {C : List Int} {t : Nat} (h : Per q L C t) : Per q L C (t + 1) := ⟨h.good, h.len, h.eq, h.le, by have := h.few; omega⟩
theorem mem_four : ¬ ((4 : Int) = 1 ∨ memZ (500000003 : Int).toNat 4 = false) := by
  have : memZ 500000003 ((4 : Nat) : Int) = true := memZ_eval 500000003 4 (by decide) (by decide) (by decide) (by decide +kernel)
  rintro (h | h)
  · cases h
  · have h' : memZ 500000003 ((4 : Nat) : Int) = false := h
    rw [this] at h'; cases h'
/-- the boxes of the law: the dice, the office, the counts; the rows -/
structure Ps (W w : World) (db : Nat) (p : Option Addr) (l : List Int) (cap k go gn : Nat) (q : Int) (a : Option Addr) (c : Nat) (L : List Iss) (C : List Int) : Prop where
  env : Env W w db p l cap k
  o : Bx w go 35 (offC 500000003 3 q (.slice a L.length c))
  n : Bx w gn 37 (ints C)
  r : Rd w a (rowsC isC L)
  far : ∀ j, rowOf a = some j → gn < j
  lt : W.heap.size ≤ db ∧ db < go ∧ go < gn
section
variable {W w w' : World} {db : Nat} {p : Option Addr} {l : List Int} {cap k k' go gn : Nat} {q : Int} {a : Option Addr} {c : Nat} {L : List Iss} {C : List Int}
theorem Ps.keep (h : Ps W w db p l cap k go gn q a c L C) (hb : Below w.heap.size w w') : Ps W w' db p l cap k go gn q a c L C :=
  ⟨h.env.keep hb, h.o.keep hb, h.n.keep hb, h.r.keep hb, h.far, h.lt⟩
theorem Ps.dice (h : Ps W w db p l cap k go gn q a c L C) (hne : 0 < l.length → ∀ g off, p = some ⟨g, off, none⟩ → g ≠ db) (hD : Dice w' db p l cap k') (hg : w.grownBy w' (some db)) : Ps W w' db p l cap k' go gn q a c L C := by
  obtain ⟨l0, l1, l2⟩ := h.lt
  refine ⟨h.env.grown hne l0 hD hg, h.o.grown hg (by simp; omega), h.n.grown hg (by simp; omega), h.r.grown hg (fun g off e => ?_), h.far, h.lt⟩
  subst e
  have := h.far g rfl
  simp; omega
theorem Ps.held (h : Ps W w db p l cap k go gn q a c L C) : w.cell? ⟨go, 0, none⟩ = some (.int .i64 500000003) ∧ w.cell? ⟨go, 1, none⟩ = some (.int .i64 3) ∧ w.cell? ⟨go, 2, none⟩ = some (.int .i64 q) ∧ w.cell? ⟨go, 3, none⟩ = some (.slice a L.length c) :=
  ⟨h.o.cell 0 rfl, h.o.cell 1 rfl, h.o.cell 2 rfl, h.o.cell 3 rfl⟩
theorem Ps.cnt (h : Ps W w db p l cap k go gn q a c L C) {j : Nat} {x : Int} (hx : C[j]? = some x) : w.cell? ⟨gn, j, none⟩ = some (.int .i64 x) :=
  h.n.cell j (by simp only [ints, List.getElem?_map, hx]; rfl)
theorem Ps.rdne (hR : Rd W p (ints l)) {g : Nat} (hg : W.heap.size ≤ g) : 0 < l.length → ∀ g' off, p = some ⟨g', off, none⟩ → g' ≠ g := fun h0 g' off e => rd_ne hR hg h0 g' off e
theorem Ps.setN (h : Ps W w db p l cap k go gn q a c L C) (hR : Rd W p (ints l)) (j : Nat) (x : Int) : Ps W (w.setCell ⟨gn, j, none⟩ (.int .i64 x)) db p l cap k go gn q a c L (C.set j x) := by
  obtain ⟨l0, l1, l2⟩ := h.lt
  have hg : w.grownBy (w.setCell ⟨gn, j, none⟩ (.int .i64 x)) (some gn) := grownBy_setCells w gn j [.int .i64 x]
  refine ⟨h.env.set gn j _ (by omega) (by omega) (Ps.rdne hR (by omega)), h.o.other (by omega) j _, ?_, h.r.grown hg (fun g off e => ?_), h.far, h.lt⟩
  · have := h.n.set j (.int .i64 x)
    rwa [show (ints C).set j (.int .i64 x) = ints (C.set j x) by simp [ints, List.map_set]] at this
  · subst e
    have := h.far g rfl
    simp; omega
theorem Ps.setO (h : Ps W w db p l cap k go gn q a c L C) (hR : Rd W p (ints l)) {a' : Option Addr} {c' : Nat} {L' : List Iss} (hr : Rd w a' (rowsC isC L')) (hf : ∀ j, rowOf a' = some j → gn < j) :
    Ps W ((((w.setCell ⟨go, 0, none⟩ (.int .i64 500000003)).setCell ⟨go, 1, none⟩ (.int .i64 3)).setCell ⟨go, 2, none⟩ (.int .i64 q)).setCell ⟨go, 3, none⟩ (.slice a' L'.length c')) db p l cap k go gn q a' c' L' C := by
  obtain ⟨l0, l1, l2⟩ := h.lt
  have hn := Ps.rdne hR (show W.heap.size ≤ go by omega)
  have hg : w.grownBy ((((w.setCell ⟨go, 0, none⟩ (.int .i64 500000003)).setCell ⟨go, 1, none⟩ (.int .i64 3)).setCell ⟨go, 2, none⟩ (.int .i64 q)).setCell ⟨go, 3, none⟩ (.slice a' L'.length c')) (some go) := grownBy_setCells w go 0 [.int .i64 500000003, .int .i64 3, .int .i64 q, .slice a' L'.length c']
  refine ⟨(((h.env.set go 0 _ (by omega) (by omega) hn).set go 1 _ (by omega) (by omega) hn).set go 2 _ (by omega) (by omega) hn).set go 3 _ (by omega) (by omega) hn, (((h.o.set 0 _).set 1 _).set 2 _).set 3 _, (((h.n.other (by omega) 0 _).other (by omega) 1 _).other (by omega) 2 _).other (by omega) 3 _, hr.grown hg (fun g off e => ?_), hf, h.lt⟩
  subst e
  have := hf g rfl
  simp; omega
end
set_option maxRecDepth 100000 in
set_option maxHeartbeats 8000000 in
theorem tperiods_walk (W : World) (hB : Bases W) (p : Option Addr) (l : List Int) (cap : Nat) (hR : Rd W p (ints l)) (hl : l.length ≤ 17592186043904) :
    Calls Tryd.prog 4 #[.slice p l.length cap] W fun e w' => e = .returned (.bool true) ∧ Below W.heap.size W w' := by
  have KA := Lib.hid (fun V hV => awake24_walk V hV)
  go_enter Tryd.func4, Tryd.ntmps4
  go_wp2_with (go_at_call 5; (with_reducible refine (light_walk _ _ _ _ (by omega)).mono ?_))
  rintro e w1 ⟨rfl, rfl⟩
  rcases Nat.lt_or_ge 500 l.length with h5 | h5
  · have hd5 : decide (l.length ≤ 500) = false := by simp; omega
    go_wp2_with (go_at_call 6; (with_reducible refine (KA.out _ hB).mono ?_))
    rintro e w1 ⟨rfl, hb1⟩
    go_wp2
    go_ret
    exact ⟨rfl, hb1⟩
  have hd5 : decide (l.length ≤ 500) = true := by simp; omega
  go_wp2_with (go_at_call 7; (with_reducible refine (roll_walk _ _ _ _).mono ?_))
  rintro e w1 ⟨rfl, hD, hb1⟩
  have hE : Env W w1 W.heap.size p l cap 0 := ⟨hD, hR.keep hb1, hb1⟩
  have HNE := Lib.hid (rd_ne hR (Nat.le_refl _))
  clear hD hb1
  obtain ⟨db, hdb⟩ : ∃ db, db = W.heap.size := ⟨_, rfl⟩
  rw [← hdb] at hE HNE ⊢
  have HDB := Lib.hid (Nat.le_of_eq hdb.symm)
  have HDE := Lib.hid hdb
  clear hdb
  go_wp2_with (go_at_call 8; (with_reducible refine (next_walk _ p l cap 0 4 _ hE.dice hE.rd HNE.out (by omega) (by omega) (by omega)).mono ?_))
  rintro e w2 ⟨rfl, hD, hg⟩
  have hE2 := hE.grown HNE.out HDB.out hD hg
  have a1 := dnum_lo l 0 (n := 4) (by omega)
  have a2 := dnum_hi l 0 (n := 4) (by omega)
  generalize dnum l 0 4 = q at *
  generalize dnxt l 0 = k1 at *
  clear hD hg hE
  obtain ⟨go, hgo⟩ : ∃ g, g = w2.heap.size := ⟨_, rfl⟩
  have hlt1 : db < go := by rw [hgo]; exact hE2.dice.lt
  have hPs : Ps W ((w2.alloc (.cells #[.int .i64 500000003, .int .i64 3, .int .i64 q, .slice none 0 0] 35)).alloc (.cells #[.int .i64 0, .int .i64 0, .int .i64 0, .int .i64 0, .int .i64 0, .int .i64 0, .int .i64 0, .int .i64 0, .int .i64 0] 37)) db p l cap k1 go (go + 1) q none 0 [] [0, 0, 0, 0, 0, 0, 0, 0, 0] := by
    refine ⟨(hE2.alloc _).alloc _, ?_, ?_, Rd.nil _ _, fun j h => (by cases h), HDB.out, hlt1, by omega⟩
    · rw [hgo]; exact (Bx.new w2 35 (offC 500000003 3 q (.slice none 0 0))).alloc _
    · have := Bx.new (w2.alloc (.cells #[.int .i64 500000003, .int .i64 3, .int .i64 q, .slice none 0 0] 35)) 37 (ints [0, 0, 0, 0, 0, 0, 0, 0, 0])
      rw [show (w2.alloc (.cells #[.int .i64 500000003, .int .i64 3, .int .i64 q, .slice none 0 0] 35)).heap.size = go + 1 by rw [hgo]; simp] at this
      exact this
  have hgo' : w2.heap.size = go := hgo.symm
  clear hgo hE2
  go_upto_region 6 with (fail)
  generalize (w2.alloc (.cells #[.int .i64 500000003, .int .i64 3, .int .i64 q, .slice none 0 0] 35)).alloc (.cells #[.int .i64 0, .int .i64 0, .int .i64 0, .int .i64 0, .int .i64 0, .int .i64 0, .int .i64 0, .int .i64 0, .int .i64 0] 37) = w3 at *
  clear hgo'
  go_wp2_with (go_at_call 8; (with_reducible refine (next_walk _ p l cap k1 25 _ hPs.env.dice hPs.env.rd HNE.out (by omega) (by omega) (by omega)).mono ?_))
  rintro e w4 ⟨rfl, hD, hg⟩
  replace hPs := hPs.dice HNE.out hD hg
  have b1 := dnum_lo l k1 (n := 25) (by omega)
  have b2 := dnum_hi l k1 (n := 25) (by omega)
  obtain ⟨N, hN⟩ : ∃ N : Nat, dnum l k1 25 = (N : Int) := ⟨(dnum l k1 25).toNat, by omega⟩
  rw [hN] at b1 b2 ⊢
  have hN24 : N ≤ 24 := by omega
  generalize dnxt l k1 = k2 at *
  clear hD hg hN b1 b2
  have HRW := Lib.hid hR
  have HBW := Lib.hid hB
  have HP0 := Lib.hid (Per.zero a1)
  clear hR hB hlt1 hd5
  go_wp2_with fail
  go_loopw [6] (fun v6 wr => ∃ (n t k : Nat) (a : Option Addr) (c : Nat) (L : List Iss) (C : List Int), n + t = N ∧ v6 = .int .i64 (n : Int) ∧ Ps W wr db p l cap k go (go + 1) q a c L C ∧ Per q L C t) (fun v6 _ => (intOf v6).toNat)
  case atStart => exact ⟨N, 0, k2, none, 0, [], _, by omega, rfl, hPs, HP0.out⟩
  case round =>
    clear hPs HP0
    obtain ⟨n, t, k, a, c, L, C, hnt, rfl, hPs, hPer⟩ := hrel
    have HPE := Lib.hid hPer
    clear hPer
    by_cases h0 : n = 0
    · subst h0
      have hb := hPs.env.below
      obtain ⟨g0, g1, g2, g3⟩ := hPs.held
      go_wp2_with (go_at_call 6; (with_reducible refine (KA.out _ (HBW.out.keep hb)).mono ?_))
      rintro e w5 ⟨rfl, hb5⟩
      replace hPs := hPs.keep hb5
      clear g0 g1 g2 g3 hb5 hb
      have hb := hPs.env.below
      obtain ⟨g0, g1, g2, g3⟩ := hPs.held
      have hfew := HPE.out.few
      have KC : Hid (Calls Tryd.prog 14 #[.agg #[.int .i64 500000003, .int .i64 3, .int .i64 q, .slice a L.length c]] w5 fun e w' => e = .returned (.int .i64 0) ∧ Below w5.heap.size w5 w') := Lib.hid (by
        have := icheck_walk 500000003 3 q a L c w5 (HBW.out.keep hb) hPs.r (by omega)
        rwa [chkI_ok ⟨safeP_big, by decide, by omega, by omega⟩ (by omega) HPE.out.good] at this)
      go_wp2_with (go_at_call 14; (with_reducible refine KC.out.mono ?_))
      rintro e w6 ⟨rfl, hb6⟩
      have HBB := Lib.hid (hb.trans (hb6.mono hb.size))
      clear hb hb6 hPs KC g0 g1 g2 g3
      go_wp2
      go_ret
      exact ⟨rfl, HDE.out ▸ HBB.out⟩
    have hpos : (0 : Int) < (n : Int) := by omega
    go_wp2_with (go_at_call 8; (with_reducible refine (next_walk _ p l cap k 3 _ hPs.env.dice hPs.env.rd HNE.out (by omega) (by omega) (by omega)).mono ?_))
    rintro e w5 ⟨rfl, hD, hg⟩
    replace hPs := hPs.dice HNE.out hD hg
    have i1 := dnum_lo l k (n := 3) (by omega)
    have i2 := dnum_hi l k (n := 3) (by omega)
    obtain ⟨i, hi⟩ : ∃ i : Nat, dnum l k 3 = (i : Int) := ⟨(dnum l k 3).toNat, by omega⟩
    rw [hi] at i1 i2 ⊢
    have hi3 : i < 3 := by omega
    generalize dnxt l k = ka at *
    clear hD hg hi i1 i2
    go_wp2_with (go_at_call 8; (with_reducible refine (next_walk _ p l cap ka 3 _ hPs.env.dice hPs.env.rd HNE.out (by omega) (by omega) (by omega)).mono ?_))
    rintro e w6 ⟨rfl, hD, hg⟩
    replace hPs := hPs.dice HNE.out hD hg
    have i1 := dnum_lo l ka (n := 3) (by omega)
    have i2 := dnum_hi l ka (n := 3) (by omega)
    obtain ⟨j, hj⟩ : ∃ j : Nat, dnum l ka 3 = (j : Int) := ⟨(dnum l ka 3).toNat, by omega⟩
    rw [hj] at i1 i2 ⊢
    have hj3 : j < 3 := by omega
    generalize dnxt l ka = kb at *
    clear hD hg hj i1 i2
    have hij : (i : Int) < 3 := by omega
    have hjj : (j : Int) < 3 := by omega
    obtain ⟨x, hx⟩ : ∃ x, cntI L ((i : Int) + 1) j = x := ⟨_, rfl⟩
    have hcx := HPE.out.eq i j hi3 hj3
    have hxq := HPE.out.le i j hi3 hj3
    rw [hx] at hcx hxq
    have hfew := HPE.out.few
    have hx0 : 0 ≤ x := by
      rw [← hx]
      cases hh : hasI L ((i : Int) + 1) j with
      | true => have := (hasI_cnt HPE.out.good).1 hh; omega
      | false => rw [(hasI_cnt HPE.out.good).2 hh]; exact Int.le_refl _
    have HX := Lib.hid hx
    have KL := Lib.hid (fun V (hV : Rd V a (rowsC isC L)) => (show Calls Tryd.prog 11 #[.agg #[.int .i64 500000003, .int .i64 3, .int .i64 q, .slice a L.length c], .int .i64 ((i : Int) + 1), .int .i64 (j : Int)] V fun e w' => e = .returned (.int .i64 (q - x)) ∧ Below V.heap.size V w' by
      have := ileft_walk 500000003 3 q a L c ((i : Int) + 1) j V hV (by omega) HPE.out.good ⟨by omega, by omega⟩ ⟨a1, by omega⟩
      rwa [leftI_cnt a1, hx, show max 0 (q - x) = q - x by omega] at this))
    have hw1 : IntKind.i64.wrap ((i : Int) + 1) = (i : Int) + 1 := by rw [IntKind.wrap_i64]; omega
    have hw2 : IntKind.i64.wrap (q - x) = q - x := by rw [IntKind.wrap_i64]; omega
    have n0 : (q - x != q - x) = false := by simp
    clear hx
    go_upto_region 10 with (fail)
    have HPs := Lib.hid hPs
    have d0 := fun d os => cell_regrown hPs.held.1 d os
    have d1 := fun d os => cell_regrown hPs.held.2.1 d os
    have d2 := fun d os => cell_regrown hPs.held.2.2.1 d os
    have d3 := fun d os => cell_regrown hPs.held.2.2.2 d os
    have d4 := fun d os => cell_regrown (hPs.cnt hcx) d os
    clear hPs
    refine wp_region_quiet_below (by kernel_rfl) (by kernel_rfl) ?_
    repeat (go_big_quiet_step (first | (go_at_call 11; with_reducible exact Calls.regrown_of (KL.out _ ((HPs.out.keep (below_regrown _ _ _)).r)))))
    refine wpQuiet_nil ?_
    rintro w7 ⟨p2, hw7⟩
    have hPs := HPs.out.keep (show Below w6.heap.size w6 w7 by first | (rw [hw7]; exact below_regrown w6 p2.d p2.os) | (rw [← hw7]; exact below_regrown w6 p2.d p2.os))
    clear hw7 d0 d1 d2 d3 d4 KL HPs
    obtain ⟨g0, g1, g2, g3⟩ := hPs.held
    have hlt := hPs.lt
    have hgnl := hPs.n.lt
    -- the issue
    obtain ⟨y, hy⟩ : ∃ y : Int, y = ((gpw (500000003 : Int).toNat (4 : Int).toNat 3 : Nat) : Int) := ⟨_, rfl⟩
    have KPW : Hid (∀ V, Calls Tryd.prog 13 #[.int .i64 500000003, .int .i64 4, .int .i64 3] V fun r w' => r = .returned (.int .i64 y) ∧ V = w') := Lib.hid fun V => by
      rw [hy]; exact rPower_walk 500000003 4 3 V (by decide) (by decide) (by decide)
    have hoff : offOk 500000003 3 q := ⟨safeP_big, by decide, by omega, by omega⟩
    have hab : (1 ≤ (i : Int) + 1 ∧ (i : Int) + 1 ≤ 1048576) ∧ (0 ≤ (j : Int) ∧ (j : Int) ≤ 1099511627776) := ⟨by omega, by omega⟩
    have KI := Lib.hid (fun V hV (hr : Rd V a (rowsC isC L)) => tissue_walk 500000003 3 q a L c ((i : Int) + 1) j 4 V hV hr (by omega))
    by_cases hxq2 : x < q
    · obtain ⟨L', hiss, hG', hl', hc1, hc2⟩ := iss_step hoff HPE.out.good (by omega) hab mem_four (by rw [HX.out]; exact hxq2)
      have hPer' : Hid (Per q L' (C.set (i * 3 + j) (x + 1)) (t + 1)) := Lib.hid (by
        have := HPE.out.step hi3 hj3 hG' hl' (by rw [HX.out]; exact hxq2) hc1 hc2
        rwa [HX.out] at this)
      rw [← hy] at hiss
      rw [hiss] at KI
      have hlL := hPer'.out.few
      have t1 : decide (x < q) = true := decide_eq_true hxq2
      have t2 : (y != y) = false := by simp
      clear hG' hl' hc1 hc2 hiss hy hoff hab hxq2
      go_wp2_with (go_at_call 12; (with_reducible refine (KI.out _ (HBW.out.keep hPs.env.below) hPs.r).mono ?_))
      (first | rintro e w8 ⟨a', c', rfl, hO, hb8⟩ | rintro e w8 a' c' rfl hO hb8)
      dsimp only at hO
      have hPs8 := (hPs.keep hb8).keep ((Below.refl w8.heap.size w8).alloc (Nat.le_refl _) (.cells #[.int .i64 500000003, .int .i64 3, .int .i64 q, .slice a' L'.length c'] 35))
      have hr8 := hO.rd.keep ((Below.refl w8.heap.size w8).alloc (Nat.le_refl _) (.cells #[.int .i64 500000003, .int .i64 3, .int .i64 q, .slice a' L'.length c'] 35))
      have hfar : ∀ j, rowOf a' = some j → (go + 1) < j := fun j hj => by have := (hO.row j hj).1; omega
      have hX8 := Bx.new w8 35 (offC 500000003 3 q (.slice a' L'.length c'))
      change Bx (w8.alloc (.cells #[.int .i64 500000003, .int .i64 3, .int .i64 q, .slice a' L'.length c'] 35)) _ _ _ at hX8
      have hgx : (go + 1) < w8.heap.size := by have := hb8.size; omega
      clear hO hPs hb8 g0 g1 g2 g3 KI
      go_upto_region 13 with (fail)
      generalize w8.alloc (.cells #[.int .i64 500000003, .int .i64 3, .int .i64 q, .slice a' L'.length c'] 35) = w9 at *
      generalize w8.heap.size = gx at *
      have HPs := Lib.hid hPs8
      have HX8 := Lib.hid hX8
      have HR8 := Lib.hid hr8
      have d2 := fun d os => cell_regrown hPs8.held.2.2.1 d os
      have d4 := fun d os => cell_regrown (hPs8.cnt hcx) d os
      clear hPs8 hX8 hr8
      refine wp_region_quiet_below (by kernel_rfl) (by kernel_rfl) ?_
      repeat (go_big_quiet_step (first | (go_at_call 13; with_reducible exact Calls.regrown_of (Calls.calm (KPW.out _)))))
      refine wpQuiet_nil ?_
      rintro w10 ⟨p3, hw10⟩
      have hbx : Below w9.heap.size w9 w10 := by first | (rw [hw10]; exact below_regrown w9 p3.d p3.os) | (rw [← hw10]; exact below_regrown w9 p3.d p3.os)
      have hPs := HPs.out.keep hbx
      have hX := HX8.out.keep hbx
      have hr := HR8.out.keep hbx
      clear hw10 d2 d4 HPs HX8 HR8 hbx KPW
      have c4 := hPs.cnt hcx
      have f4 := hPs.n.free (i * 3 + j)
      have hwx : IntKind.i64.wrap (x + 1) = x + 1 := by rw [IntKind.wrap_i64]; omega
      go_upto_region 16 with (fail)
      have hPs2 := hPs.setN HRW.out (i * 3 + j) (x + 1)
      have hX2 := hX.other (show gx ≠ go + 1 by omega) (i * 3 + j) (.int .i64 (x + 1))
      have hr2 := hr.grown (grownBy_setCells w10 (go + 1) (i * 3 + j) [.int .i64 (x + 1)]) (fun g off e => by
        subst e
        have := hfar g rfl
        simp; omega)
      change Rd (w10.setCell ⟨go + 1, i * 3 + j, none⟩ (.int .i64 (x + 1))) _ _ at hr2
      go_region
      generalize w10.setCell ⟨go + 1, i * 3 + j, none⟩ (.int .i64 (x + 1)) = w11 at *
      replace hPs2 := hPs2.keep ((Below.refl w11.heap.size w11).drew)
      replace hX2 := hX2.drew
      replace hr2 := hr2.keep ((Below.refl w11.heap.size w11).drew)
      clear hPs hX hr c4 f4
      generalize w11.drew = w12 at *
      have e0 := hX2.cell 0 (v := .int .i64 500000003) rfl
      have e1 := hX2.cell 1 (v := .int .i64 3) rfl
      have e2 := hX2.cell 2 (v := .int .i64 q) rfl
      have e3 := hX2.cell 3 (v := .slice a' L'.length c') rfl
      obtain ⟨g0, g1, g2, g3⟩ := hPs2.held
      have f0 := hPs2.o.free 0
      have f1 := hPs2.o.free 1
      have f2 := hPs2.o.free 2
      have f3 := hPs2.o.free 3
      have hw3 : IntKind.i64.wrap ((n : Int) - 1) = ((n - 1 : Nat) : Int) := by rw [IntKind.wrap_i64]; omega
      go_wp2
      go_roundw
      case rel => exact ⟨n - 1, t + 1, kb, a', c', L', _, by omega, rfl, hPs2.setO HRW.out hr2 hfar, hPer'.out⟩
      case measure => simp [intOf]; omega
    · have hxe : x = q := by omega
      have hiss := iss_spent hoff HPE.out.good (by omega) hab mem_four (show q ≤ cntI L ((i : Int) + 1) j by rw [HX.out]; omega)
      rw [hiss] at KI
      have t1 : decide (x < q) = false := decide_eq_false hxq2
      have hw3 : IntKind.i64.wrap ((n : Int) - 1) = ((n - 1 : Nat) : Int) := by rw [IntKind.wrap_i64]; omega
      clear hiss hy hoff hab hxq2 hxe KPW
      go_wp2_with (go_at_call 12; (with_reducible refine (KI.out _ (HBW.out.keep hPs.env.below) hPs.r).mono ?_))
      (first | rintro e w8 ⟨a', c', rfl, hO, hb8⟩ | rintro e w8 a' c' rfl hO hb8)
      have hPs8 := (hPs.keep hb8).keep ((Below.refl w8.heap.size w8).alloc (Nat.le_refl _) (.cells #[.int .i64 500000003, .int .i64 3, .int .i64 q, .slice a' L.length c'] 35))
      clear hO hPs hb8 g0 g1 g2 g3 KI
      go_upto_region 13 with (fail)
      generalize w8.alloc (.cells #[.int .i64 500000003, .int .i64 3, .int .i64 q, .slice a' L.length c'] 35) = w9 at *
      generalize w8.heap.size = gx at *
      have HPs := Lib.hid hPs8
      have d2 := fun d os => cell_regrown hPs8.held.2.2.1 d os
      have d4 := fun d os => cell_regrown (hPs8.cnt hcx) d os
      clear hPs8
      refine wp_region_quiet_below (by kernel_rfl) (by kernel_rfl) ?_
      repeat (go_big_quiet_step (fail))
      refine wpQuiet_nil ?_
      rintro w10 ⟨p3, hw10⟩
      have hPs := HPs.out.keep (show Below w9.heap.size w9 w10 by first | (rw [hw10]; exact below_regrown w9 p3.d p3.os) | (rw [← hw10]; exact below_regrown w9 p3.d p3.os))
      clear hw10 d2 d4 HPs
      go_wp2
      go_roundw
      case rel => exact ⟨n - 1, t + 1, kb, a, c, L, _, by omega, rfl, hPs, HPE.out.next⟩
      case measure => simp [intOf]; omega
end Go.Proofs.YtekhepklaokaiaaDoor
