/- The law ConditionJoins walked. -/
import Derived.Test.YtejdaeonknpgeaaGCndSW
import Derived.Test.YtejdaeonknpgeaaGCndVW
namespace Go.Proofs.Ytejdaeonknpgeaa
open Go.RowKit
/-- what stands behind the dice: two conditions -/
structure Cj (W w : World) (db : Nat) (p : Option Addr) (l : List Int) (cap q ga : Nat) (ta : Option Addr) (tc : Nat) (A : List Trm) (gb : Nat) (tb : Option Addr) (td : Nat) (B : List Trm) : Prop where
  e : Env W w db p l cap q
  a : Bx w ga 29 [.slice ta A.length tc]
  b : Bx w gb 29 [.slice tb B.length td]
  ca : Cd w db ta A
  cb : Cd w db tb B
  ga0 : db < ga
  gb0 : db < gb
  wd : W.heap.size ≤ db
  rp : Rd W p (ints l)
/-- with the two that are joined of them -/
structure Ck (W w : World) (db : Nat) (p : Option Addr) (l : List Int) (cap q ga : Nat) (ta : Option Addr) (tc : Nat) (A : List Trm) (gb : Nat) (tb : Option Addr) (td : Nat) (B : List Trm) (gc : Nat) (ja : Option Addr) (jc : Nat) (J : List Trm) (gd : Nat) (jb : Option Addr) (jd : Nat) (H : List Trm) : Prop where
  o : Cj W w db p l cap q ga ta tc A gb tb td B
  c : Bx w gc 29 [.slice ja J.length jc]
  d : Bx w gd 29 [.slice jb H.length jd]
  cc : Cd w db ja J
  cd : Cd w db jb H
  gc0 : db < gc
  gd0 : db < gd
section
variable {W w w' : World} {db : Nat} {p : Option Addr} {l : List Int} {cap q q' ga : Nat} {ta : Option Addr} {tc : Nat} {A : List Trm} {gb : Nat} {tb : Option Addr} {td : Nat} {B : List Trm} {gc : Nat} {ja : Option Addr} {jc : Nat} {J : List Trm} {gd : Nat} {jb : Option Addr} {jd : Nat} {H : List Trm}
theorem Cj.keep (h : Cj W w db p l cap q ga ta tc A gb tb td B) (hb : Below w.heap.size w w') : Cj W w' db p l cap q ga ta tc A gb tb td B :=
  ⟨h.e.keep hb, h.a.keep hb, h.b.keep hb, h.ca.keep hb, h.cb.keep hb, h.ga0, h.gb0, h.wd, h.rp⟩
theorem Cj.held (h : Cj W w db p l cap q ga ta tc A gb tb td B) : w.cell? ⟨ga, 0, none⟩ = some (.slice ta A.length tc) ∧ w.cell? ⟨gb, 0, none⟩ = some (.slice tb B.length td) := ⟨h.a.cell 0 rfl, h.b.cell 0 rfl⟩
theorem Ck.keep (h : Ck W w db p l cap q ga ta tc A gb tb td B gc ja jc J gd jb jd H) (hb : Below w.heap.size w w') : Ck W w' db p l cap q ga ta tc A gb tb td B gc ja jc J gd jb jd H :=
  ⟨h.o.keep hb, h.c.keep hb, h.d.keep hb, h.cc.keep hb, h.cd.keep hb, h.gc0, h.gd0⟩
theorem Ck.kp (h : Ck W w db p l cap q ga ta tc A gb tb td B gc ja jc J gd jb jd H) (hk : Kp (fun j => j = db) w w') (hE : Env W w' db p l cap q') : Ck W w' db p l cap q' ga ta tc A gb tb td B gc ja jc J gd jb jd H := by
  have h1 := h.o.ga0
  have h2 := h.o.gb0
  have h3 := h.gc0
  have h4 := h.gd0
  exact ⟨⟨hE, h.o.a.kp hk (by omega), h.o.b.kp hk (by omega), h.o.ca.kp hk, h.o.cb.kp hk, h1, h2, h.o.wd, h.o.rp⟩, h.c.kp hk (by omega), h.d.kp hk (by omega), h.cc.kp hk, h.cd.kp hk, h3, h4⟩
end
/-- with the members -/
structure Ckm (W w : World) (db : Nat) (p : Option Addr) (l : List Int) (cap q ga : Nat) (ta : Option Addr) (tc : Nat) (A : List Trm) (gb : Nat) (tb : Option Addr) (td : Nat) (B : List Trm) (gc : Nat) (ja : Option Addr) (jc : Nat) (J : List Trm) (gd : Nat) (jb : Option Addr) (jd : Nat) (H : List Trm) (a : Option Addr) (M : List Mem) : Prop where
  k : Ck W w db p l cap q ga ta tc A gb tb td B gc ja jc J gd jb jd H
  m : RdM w a M
theorem Ckm.keep {W w w' : World} {db : Nat} {p : Option Addr} {l : List Int} {cap q ga : Nat} {ta : Option Addr} {tc : Nat} {A : List Trm} {gb : Nat} {tb : Option Addr} {td : Nat} {B : List Trm} {gc : Nat} {ja : Option Addr} {jc : Nat} {J : List Trm} {gd : Nat} {jb : Option Addr} {jd : Nat} {H : List Trm} {a : Option Addr} {M : List Mem} (h : Ckm W w db p l cap q ga ta tc A gb tb td B gc ja jc J gd jb jd H a M) (hb : Below w.heap.size w w') : Ckm W w' db p l cap q ga ta tc A gb tb td B gc ja jc J gd jb jd H a M := ⟨h.k.keep hb, h.m.keep hb⟩
theorem Ckm.held4 {W w : World} {db : Nat} {p : Option Addr} {l : List Int} {cap q ga : Nat} {ta : Option Addr} {tc : Nat} {A : List Trm} {gb : Nat} {tb : Option Addr} {td : Nat} {B : List Trm} {gc : Nat} {ja : Option Addr} {jc : Nat} {J : List Trm} {gd : Nat} {jb : Option Addr} {jd : Nat} {H : List Trm} {a : Option Addr} {M : List Mem} (h : Ckm W w db p l cap q ga ta tc A gb tb td B gc ja jc J gd jb jd H a M) : w.cell? ⟨ga, 0, none⟩ = some (.slice ta A.length tc) ∧ w.cell? ⟨gb, 0, none⟩ = some (.slice tb B.length td) ∧ w.cell? ⟨gc, 0, none⟩ = some (.slice ja J.length jc) ∧ w.cell? ⟨gd, 0, none⟩ = some (.slice jb H.length jd) := ⟨h.k.o.a.cell 0 rfl, h.k.o.b.cell 0 rfl, h.k.c.cell 0 rfl, h.k.d.cell 0 rfl⟩
/-- a list of terms whose rows lie below the world's end -/
structure Jr (w : World) (ja : Option Addr) (J : List Trm) : Prop where
  r : RdT w ja J
  h1 : ∀ j, rowOf ja = some j → j < w.heap.size
  h2 : ∀ t ∈ J, ∀ j, rowOf t.aa = some j → j < w.heap.size
theorem Jr.keep {w w' : World} {ja : Option Addr} {J : List Trm} (h : Jr w ja J) (hb : Below w.heap.size w w') : Jr w' ja J :=
  ⟨h.r.keep hb, fun j hj => Nat.lt_of_lt_of_le (h.h1 j hj) hb.size, fun t ht j hj => Nat.lt_of_lt_of_le (h.h2 t ht j hj) hb.size⟩
/-- a block apart from them, and all at or behind a number -/
def Ap (n : Nat) (ja : Option Addr) (J : List Trm) : Prop := (∀ j, rowOf ja = some j → n ≤ j) ∧ ∀ t ∈ J, ∀ j, rowOf t.aa = some j → n ≤ j
def Ne (g : Nat) (ja : Option Addr) (J : List Trm) : Prop := (∀ j, rowOf ja = some j → j ≠ g) ∧ ∀ t ∈ J, ∀ j, rowOf t.aa = some j → j ≠ g
theorem Ne.of_lt {g n : Nat} {ja : Option Addr} {J : List Trm} (h : Ap n ja J) (hg : g < n) : Ne g ja J := ⟨fun j hj => by have := h.1 j hj; omega, fun t ht j hj => by have := h.2 t ht j hj; omega⟩
theorem Ne.of_new {w : World} {g : Nat} {ja : Option Addr} {J : List Trm} (h : Jr w ja J) (hg : w.heap.size ≤ g) : Ne g ja J := ⟨fun j hj => by have := h.h1 j hj; omega, fun t ht j hj => by have := h.h2 t ht j hj; omega⟩
theorem alloc2 (w : World) (c1 c2 : List Value) (t1 t2 : TypeId) : Bx ((w.alloc (.cells c1.toArray t1)).alloc (.cells c2.toArray t2)) w.heap.size t1 c1 ∧ Bx ((w.alloc (.cells c1.toArray t1)).alloc (.cells c2.toArray t2)) (w.heap.size + 1) t2 c2 ∧ Below w.heap.size w ((w.alloc (.cells c1.toArray t1)).alloc (.cells c2.toArray t2)) := by
  have h2 := Bx.new (w.alloc (.cells c1.toArray t1)) t2 c2
  have hz : (w.alloc (.cells c1.toArray t1)).heap.size = w.heap.size + 1 := by simp
  rw [hz] at h2
  have b1 := (Below.refl w.heap.size w).alloc (Nat.le_refl _) (.cells c1.toArray t1)
  exact ⟨(Bx.new w t1 c1).alloc _, h2, b1.alloc b1.size _⟩
theorem right_small {A : List Trm} (h : rightC A = true) : Small A := by
  obtain ⟨h24, -, hs⟩ := right_all h
  refine ⟨h24, fun t ht => ?_⟩
  obtain ⟨j, hj⟩ := List.mem_iff_getElem?.1 ht
  refine ⟨Nat.le_trans (right_len h j t hj) h24, fun a ha => ?_⟩
  obtain ⟨t', ht', -, hb⟩ := hs j (Nat.zero_le _) (List.getElem?_eq_some_iff.1 hj).1
  rw [hj] at ht'
  obtain rfl := Option.some.inj ht'
  have := hb a ha
  omega
theorem ct_one : (Try.prog.info? 29).map (·.size) = some 1 := by kernel_rfl
theorem join_fin {W v0 v4 : World} {db : Nat} {p : Option Addr} {l : List Int} {cap q ga : Nat} {ta : Option Addr} {tc : Nat} {A : List Trm} {gb : Nat} {tb : Option Addr} {td : Nat} {B : List Trm} {g6 : Nat} {ja : Option Addr} {jc : Nat} {J : List Trm} {g7 : Nat} {jb : Option Addr} {jd : Nat} {H : List Trm}
    (hC : Cj W v0 db p l cap q ga ta tc A gb tb td B) (hB : Below v0.heap.size v0 v4) (h1 : Jr v4 ja J) (h2 : Jr v4 jb H) (z6 : Bx v4 g6 29 [.slice none 0 0]) (z7 : Bx v4 g7 29 [.slice none 0 0]) (l6 : v0.heap.size ≤ g6) (l7 : v0.heap.size ≤ g7) (n67 : g6 ≠ g7)
    (n16 : Ne g6 ja J) (n17 : Ne g7 ja J) (n26 : Ne g6 jb H) (n27 : Ne g7 jb H) (a1 : Ap v0.heap.size ja J) (a2 : Ap v0.heap.size jb H) :
    Cj W (v4.setCells g6 0 [.slice ja J.length jc]) db p l cap q ga ta tc A gb tb td B ∧ (v4.setCells g6 0 [.slice ja J.length jc]).there g7 0 1 ∧ Ck W ((v4.setCells g6 0 [.slice ja J.length jc]).setCells g7 0 [.slice jb H.length jd]) db p l cap q ga ta tc A gb tb td B g6 ja jc J g7 jb jd H := by
  have hd := hC.e.dice.lt
  have b5 := below_setCells hB (g := g6) l6 hB.size 0 [.slice ja J.length jc]
  have b6 := below_setCells b5 (g := g7) l7 b5.size 0 [.slice jb H.length jd]
  have k5 : Kp (fun j => j = g6) v4 (v4.setCells g6 0 [.slice ja J.length jc]) := Kp.of_grown (grownBy_setCells _ _ _ _) (fun j e => (Option.some.inj e).symm)
  have k6 : Kp (fun j => j = g7) (v4.setCells g6 0 [.slice ja J.length jc]) ((v4.setCells g6 0 [.slice ja J.length jc]).setCells g7 0 [.slice jb H.length jd]) := Kp.of_grown (grownBy_setCells _ _ _ _) (fun j e => (Option.some.inj e).symm)
  have y7 := z7.otherAll (fun e => n67 e.symm) 0 [.slice ja J.length jc]
  have y6 := z6.setAll [.slice ja J.length jc] rfl
  refine ⟨hC.keep b5, y7.there rfl, hC.keep b6, y6.otherAll n67 _ _, y7.setAll _ rfl, ⟨(h1.r.kp k5 n16.1 n16.2).kp k6 n17.1 n17.2, fun j hj => by have := a1.1 j hj; omega, fun t ht j hj => by have := a1.2 t ht j hj; omega⟩, ⟨(h2.r.kp k5 n26.1 n26.2).kp k6 n27.1 n27.2, fun j hj => by have := a2.1 j hj; omega, fun t ht j hj => by have := a2.2 t ht j hj; omega⟩, by omega, by omega⟩
set_option maxRecDepth 100000 in
set_option maxHeartbeats 8000000 in
theorem joins17_walk (W : World) (p : Option Addr) (l : List Int) (cap : Nat) (hR : Rd W p (ints l)) (hl : l.length ≤ 17592186043904) :
    Calls Try.prog 6 #[.slice p l.length cap] W fun e w' => e = .returned (.bool true) ∧ Below W.heap.size W w' := by
  have KA := Lib.hid (fun V => awake17 V)
  go_enter Try.func6, Try.ntmps6
  go_wp2_with (go_at_call 7; (with_reducible refine (light_walk _ _ _ _ (by omega)).mono ?_))
  (first | rintro e w1 rfl rfl | rintro e w1 ⟨rfl, rfl⟩)
  by_cases hq : l.length ≤ 500
  rotate_left
  · have hd5 : decide (l.length ≤ 500) = false := decide_eq_false hq
    clear hq
    go_wp2_with (go_at_call 8; (with_reducible refine (KA.out _).mono ?_))
    (first | rintro e w1 rfl hb1 | rintro e w1 ⟨rfl, hb1⟩)
    go_wp2
    go_ret
    exact ⟨rfl, hb1⟩
  have hd5 : decide (l.length ≤ 500) = true := decide_eq_true hq
  have HR := Lib.hid hR
  have hl48 : l.length ≤ 281474976710656 := by omega
  obtain ⟨db, hdb⟩ : ∃ db, db = W.heap.size := ⟨_, rfl⟩
  have HDB := Lib.hid hdb
  go_wp2_with (go_at_call 9; (with_reducible refine (roll_walk _ _ _ _).mono ?_))
  (first | rintro e w1 rfl hD hb1 | rintro e w1 ⟨rfl, hD, hb1⟩)
  rw [← HDB.out] at hD ⊢
  have hE : Env W w1 db p l cap 0 := ⟨hD, hR.keep hb1, hb1⟩
  clear hdb hR hD hb1 hq hl hd5
  have hWd : W.heap.size ≤ db := by rw [HDB.out]; exact Nat.le_refl _
  have KC : Hid (Calls Try.prog 10 #[.pointer (some ⟨db, 0, none⟩), .int .i64 2] w1 _) := Lib.hid (kcond_walk W db p l cap 0 2 w1 hl48 (by omega) (by omega) hE hWd HR.out)
  go_upto_region 5 with (first
    | (go_at_call 10; (with_reducible refine KC.out.mono ?_); (first | rintro e w2 ⟨A, ta, tc, q2, rfl, hGA, hAl, hE2, hCA, -⟩ | rintro e w2 A ta tc q2 rfl hGA hAl hE2 hCA -); clear KC; have KD : Hid (Calls Try.prog 10 #[.pointer (some ⟨db, 0, none⟩), .int .i64 2] w2 _) := Lib.hid (kcond_walk W db p l cap q2 2 w2 hl48 (by omega) (by omega) hE2 hWd HR.out))
    | (go_at_call 10; (with_reducible refine KD.out.mono ?_); (first | rintro e w3 ⟨B, tb, td, q3, rfl, hGB, hBl, hE3, hCB, hk3⟩ | rintro e w3 B tb td q3 rfl hGB hBl hE3 hCB hk3)))
  obtain ⟨z1, z2, zb⟩ := alloc2 w3 [.slice ta A.length tc] [.slice tb B.length td] 29 29
  have hd3 := hE3.dice.lt
  have hCj : Cj W ((w3.alloc (.cells [.slice ta A.length tc].toArray 29)).alloc (.cells [.slice tb B.length td].toArray 29)) db p l cap q3 w3.heap.size ta tc A (w3.heap.size + 1) tb td B :=
    ⟨hE3.keep zb, z1, z2, (hCA.kp hk3).keep zb, hCB.keep zb, by omega, by omega, hWd, HR.out⟩
  change Cj W ((w3.alloc (.cells #[.slice ta A.length tc] 29)).alloc (.cells #[.slice tb B.length td] 29)) _ _ _ _ _ _ _ _ _ _ _ _ _ at hCj
  generalize (w3.alloc (.cells #[.slice ta A.length tc] 29)).alloc (.cells #[.slice tb B.length td] 29) = w4 at *
  generalize w3.heap.size + 1 = gb at *
  generalize w3.heap.size = ga at *
  have hz4 : szK 2 ≤ 8 := by decide
  have hRA := grows_right (hGA.mono (show 2 ≤ 6 by omega)) (by omega)
  have hRB := grows_right (hGB.mono (show 2 ≤ 6 by omega)) (by omega)
  have HSA := Lib.hid (right_small hRA)
  have HSB := Lib.hid (right_small hRB)
  have HRA := Lib.hid hRA
  have HRB := Lib.hid hRB
  have HGA := Lib.hid hGA
  have HGB := Lib.hid hGB
  have HAl := Lib.hid (show A.length ≤ 8 by omega)
  have HBl := Lib.hid (show B.length ≤ 8 by omega)
  have KJ : Hid (∀ (kind : Int), 0 ≤ kind ∧ kind ≤ 1000 → ∀ V, Cj W V db p l cap q3 ga ta tc A gb tb td B → Calls Try.prog 17 #[.int .i64 kind, .agg #[.slice ta A.length tc], .agg #[.slice tb B.length td]] V (JoinRes kind A B V)) :=
    Lib.hid (fun kind hk V hV => joined_walk kind A B ta tb tc td V hk HSA.out HSB.out hV.ca.r hV.cb.r)
  clear z1 z2 zb hd3 hE2 hCA hE3 hCB hk3 KD hGA hGB hAl hBl hRA hRB hz4
  go_cut [6, 7] (fun v6 v7 wx => ∃ (gc gd : Nat) (J : List Trm) (ja : Option Addr) (jc : Nat) (H : List Trm) (jb : Option Addr) (jd : Nat), v6 = .pointer (some ⟨gc, 0, none⟩) ∧ v7 = .pointer (some ⟨gd, 0, none⟩) ∧ Ck W wx db p l cap q3 ga ta tc A gb tb td B gc ja jc J gd jb jd H ∧ Hid (Joined 1 A B J) ∧ Hid (Joined 2 A B H))
  case first =>
    refine wp_region_held_drew (S := fun w' => w'.cell? ⟨ga, 0, none⟩ = some (.slice ta A.length tc) ∧ w'.cell? ⟨gb, 0, none⟩ = some (.slice tb B.length td)) (by kernel_rfl) (hCj.keep (Below.refl _ _).drew).held (fun hHeld => ?_)
    simp only [List.size_toArray, List.length_cons, List.length_nil]
    replace hCj := hCj.keep (Below.refl _ _).drew
    generalize w4.drew = v0 at *
    obtain ⟨u0, hu⟩ : ∃ u, u = v0 := ⟨_, rfl⟩
    have hB : Below v0.heap.size v0 u0 := by rw [hu]; exact Below.refl _ _
    rw [← hu] at hHeld ⊢
    clear hu
    replace hHeld := id hHeld
    refine held_take (0) (v := ?_) rfl (by kernel_rfl) (by kernel_rfl) (by kernel_rfl) (fun _ _ _ h => h) (Or.inl ⟨by rfl, ?_⟩) (by assumption) ?_
    rotate_left
    · intro w hSw
      try dsimp only at hSw
      go_simp
      with_reducible rfl
    try simp only [Act.put, List.setIfInBounds_toArray, List.set_cons_zero, List.set_cons_succ]
    refine held_take (1) (v := ?_) rfl (by kernel_rfl) (by kernel_rfl) (by kernel_rfl) (fun _ _ _ h => h) (Or.inl ⟨by rfl, ?_⟩) (by assumption) ?_
    rotate_left
    · intro w hSw
      try dsimp only at hSw
      go_simp
      with_reducible rfl
    try simp only [Act.put, List.setIfInBounds_toArray, List.set_cons_zero, List.set_cons_succ]
    refine held_take (3) (v := ?_) rfl (by kernel_rfl) (by kernel_rfl) (by kernel_rfl) (fun _ _ _ h => h) (Or.inl ⟨by rfl, ?_⟩) (by assumption) ?_
    rotate_left
    · intro w hSw
      try dsimp only at hSw
      go_simp
      with_reducible rfl
    try simp only [Act.put, List.setIfInBounds_toArray, List.set_cons_zero, List.set_cons_succ]
    refine held_take (4) (v := ?_) rfl (by kernel_rfl) (by kernel_rfl) (by kernel_rfl) (fun _ _ _ h => h) (Or.inl ⟨by rfl, ?_⟩) (by assumption) ?_
    rotate_left
    · intro w hSw
      try dsimp only at hSw
      go_simp
      with_reducible rfl
    try simp only [Act.put, List.setIfInBounds_toArray, List.set_cons_zero, List.set_cons_succ]
    refine wpAnyH_ready (rs := [2, 6, 7]) (by kernel_rfl) (by simp) ?_
    refine held_cons rfl (fun K hK => ?_) ?_
    · skip
      go_simp
      go_at_call 17
      (with_reducible refine (KJ.out 1 ⟨by decide, by decide⟩ _ (hCj.keep hB)).mono ?_)
      (first | rintro e v1 ⟨J, ja, jc, rfl, hj1, r1, s1, s2, hb⟩ | rintro e v1 J ja jc rfl hj1 r1 s1 s2 hb)
      have h1 : Jr v1 ja J := ⟨r1, fun j hj => (s1 j hj).2, fun t ht j hj => (s2 t ht j hj).2⟩
      have a1 : Ap v0.heap.size ja J := ⟨fun j hj => Nat.le_trans hB.size (s1 j hj).1, fun t ht j hj => Nat.le_trans hB.size (s2 t ht j hj).1⟩
      replace hB := hB.trans (hb.mono hB.size)
      clear hb s1 s2 r1
      have hj1 := Lib.hid hj1
      go_wp2_with fail
      refine hK.out _ _ (hCj.keep hB).held (fun hHeld => ?_)
      clear hK K
      try simp only [Act.put, List.setIfInBounds_toArray, List.set_cons_zero, List.set_cons_succ]
      refine wpAnyH_ready (rs := [5, 6, 7]) (by kernel_rfl) (by simp) ?_
      refine held_cons rfl (fun K hK => ?_) ?_
      · skip
        go_simp
        go_at_call 17
        (with_reducible refine (KJ.out 2 ⟨by decide, by decide⟩ _ (hCj.keep hB)).mono ?_)
        (first | rintro e v2 ⟨H, jb, jd, rfl, hj2, r2, s1, s2, hb⟩ | rintro e v2 H jb jd rfl hj2 r2 s1 s2 hb)
        have h2 : Jr v2 jb H := ⟨r2, fun j hj => (s1 j hj).2, fun t ht j hj => (s2 t ht j hj).2⟩
        have a2 : Ap v0.heap.size jb H := ⟨fun j hj => Nat.le_trans hB.size (s1 j hj).1, fun t ht j hj => Nat.le_trans hB.size (s2 t ht j hj).1⟩
        replace h1 := h1.keep hb
        replace hB := hB.trans (hb.mono hB.size)
        clear hb s1 s2 r2
        have hj2 := Lib.hid hj2
        go_wp2_with fail
        refine hK.out _ _ (hCj.keep hB).held (fun hHeld => ?_)
        clear hK K
        try simp only [Act.put, List.setIfInBounds_toArray, List.set_cons_zero, List.set_cons_succ]
        refine wpAnyH_ready (rs := [6, 7]) (by kernel_rfl) (by simp) ?_
        refine held_cons rfl (fun K hK => ?_) ?_
        · skip
          go_simp
          have hb := (Below.refl v2.heap.size v2).alloc (Nat.le_refl _) (.cells #[.slice none 0 0] 29)
          have z6 := Bx.new v2 29 [.slice none 0 0]
          change Bx (v2.alloc (.cells #[.slice none 0 0] 29)) _ _ _ at z6
          have l6 := hB.size
          have n16 : Ne v2.heap.size ja J := Ne.of_new h1 (Nat.le_refl _)
          have n26 : Ne v2.heap.size jb H := Ne.of_new h2 (Nat.le_refl _)
          replace h1 := h1.keep hb
          replace h2 := h2.keep hb
          replace hB := hB.trans (hb.mono hB.size)
          clear hb
          generalize v2.alloc (.cells #[.slice none 0 0] 29) = v3 at *
          generalize v2.heap.size = g6 at *
          refine hK.out _ _ (hCj.keep hB).held (fun hHeld => ?_)
          clear hK K
          try simp only [Act.put, List.setIfInBounds_toArray, List.set_cons_zero, List.set_cons_succ]
          refine wpAnyH_ready (rs := [7]) (by kernel_rfl) (by simp) ?_
          refine held_cons rfl (fun K hK => ?_) AllReadyH.nil
          go_simp
          have hb := (Below.refl v3.heap.size v3).alloc (Nat.le_refl _) (.cells #[.slice none 0 0] 29)
          have z7 := Bx.new v3 29 [.slice none 0 0]
          change Bx (v3.alloc (.cells #[.slice none 0 0] 29)) _ _ _ at z7
          have l7 := hB.size
          have n17 : Ne v3.heap.size ja J := Ne.of_new h1 (Nat.le_refl _)
          have n27 : Ne v3.heap.size jb H := Ne.of_new h2 (Nat.le_refl _)
          have n67 : g6 ≠ v3.heap.size := by have := z6.lt; omega
          replace h1 := h1.keep hb
          replace h2 := h2.keep hb
          replace z6 := z6.keep hb
          replace hB := hB.trans (hb.mono hB.size)
          clear hb
          generalize v3.alloc (.cells #[.slice none 0 0] 29) = v4 at *
          generalize v3.heap.size = g7 at *
          refine hK.out _ _ (hCj.keep hB).held (fun hHeld => ?_)
          clear hK K
          try simp only [Act.put, List.setIfInBounds_toArray, List.set_cons_zero, List.set_cons_succ]
          refine wpAnyH_ready (rs := [8]) (by kernel_rfl) (by simp) ?_
          refine held_cons rfl (fun K hK => ?_) AllReadyH.nil
          obtain ⟨m1, m2, m3⟩ := join_fin (jc := jc) (jd := jd) hCj hB h1 h2 z6 z7 l6 l7 n67 n16 n17 n26 n27 a1 a2
          have ht6 := z6.there (n := 1) rfl
          refine step_store_row rfl 29 (.tmp 6) (.tmp 24) rfl g6 0 1 [.slice ja J.length jc] rfl rfl rfl ht6 ct_one (by intro v hv; rw [List.mem_singleton.1 hv]; rfl) ?_
          refine hK.out _ _ m1.held (fun hHeld => ?_)
          clear hK K
          try simp only [Act.put]
          refine wpAnyH_ready (rs := [9]) (by kernel_rfl) (by simp) ?_
          refine held_cons rfl (fun K hK => ?_) AllReadyH.nil
          clear hHeld
          generalize v4.setCells g6 0 [.slice ja J.length jc] = v5 at *
          refine step_store_row rfl 29 (.tmp 7) (.tmp 27) rfl g7 0 1 [.slice jb H.length jd] rfl rfl rfl m2 ct_one (by intro v hv; rw [List.mem_singleton.1 hv]; rfl) ?_
          refine hK.out _ _ m3.o.held (fun hHeld => ?_)
          clear hK K
          try simp only [Act.put]
          refine wpAnyH_done (by kernel_rfl) ?_ _
          generalize v5.setCells g7 0 [.slice jb H.length jd] = v6 at *
          clear hHeld m1 m2
          go_simp
          go_wp2_with fail
          go_meet
          exact ⟨_, _, _, _, _, _, _, _, rfl, rfl, m3, hj1, hj2⟩
        · refine held_cons rfl (fun K hK => ?_) AllReadyH.nil
          go_simp
          have hb := (Below.refl v2.heap.size v2).alloc (Nat.le_refl _) (.cells #[.slice none 0 0] 29)
          have z7 := Bx.new v2 29 [.slice none 0 0]
          change Bx (v2.alloc (.cells #[.slice none 0 0] 29)) _ _ _ at z7
          have l7 := hB.size
          have n17 : Ne v2.heap.size ja J := Ne.of_new h1 (Nat.le_refl _)
          have n27 : Ne v2.heap.size jb H := Ne.of_new h2 (Nat.le_refl _)
          replace h1 := h1.keep hb
          replace h2 := h2.keep hb
          replace hB := hB.trans (hb.mono hB.size)
          clear hb
          generalize v2.alloc (.cells #[.slice none 0 0] 29) = v3 at *
          generalize v2.heap.size = g7 at *
          refine hK.out _ _ (hCj.keep hB).held (fun hHeld => ?_)
          clear hK K
          try simp only [Act.put, List.setIfInBounds_toArray, List.set_cons_zero, List.set_cons_succ]
          refine wpAnyH_ready (rs := [6]) (by kernel_rfl) (by simp) ?_
          refine held_cons rfl (fun K hK => ?_) AllReadyH.nil
          go_simp
          have hb := (Below.refl v3.heap.size v3).alloc (Nat.le_refl _) (.cells #[.slice none 0 0] 29)
          have z6 := Bx.new v3 29 [.slice none 0 0]
          change Bx (v3.alloc (.cells #[.slice none 0 0] 29)) _ _ _ at z6
          have l6 := hB.size
          have n16 : Ne v3.heap.size ja J := Ne.of_new h1 (Nat.le_refl _)
          have n26 : Ne v3.heap.size jb H := Ne.of_new h2 (Nat.le_refl _)
          have n67 : v3.heap.size ≠ g7 := by have := z7.lt; omega
          replace h1 := h1.keep hb
          replace h2 := h2.keep hb
          replace z7 := z7.keep hb
          replace hB := hB.trans (hb.mono hB.size)
          clear hb
          generalize v3.alloc (.cells #[.slice none 0 0] 29) = v4 at *
          generalize v3.heap.size = g6 at *
          refine hK.out _ _ (hCj.keep hB).held (fun hHeld => ?_)
          clear hK K
          try simp only [Act.put, List.setIfInBounds_toArray, List.set_cons_zero, List.set_cons_succ]
          refine wpAnyH_ready (rs := [8]) (by kernel_rfl) (by simp) ?_
          refine held_cons rfl (fun K hK => ?_) AllReadyH.nil
          obtain ⟨m1, m2, m3⟩ := join_fin (jc := jc) (jd := jd) hCj hB h1 h2 z6 z7 l6 l7 n67 n16 n17 n26 n27 a1 a2
          have ht6 := z6.there (n := 1) rfl
          refine step_store_row rfl 29 (.tmp 6) (.tmp 24) rfl g6 0 1 [.slice ja J.length jc] rfl rfl rfl ht6 ct_one (by intro v hv; rw [List.mem_singleton.1 hv]; rfl) ?_
          refine hK.out _ _ m1.held (fun hHeld => ?_)
          clear hK K
          try simp only [Act.put]
          refine wpAnyH_ready (rs := [9]) (by kernel_rfl) (by simp) ?_
          refine held_cons rfl (fun K hK => ?_) AllReadyH.nil
          clear hHeld
          generalize v4.setCells g6 0 [.slice ja J.length jc] = v5 at *
          refine step_store_row rfl 29 (.tmp 7) (.tmp 27) rfl g7 0 1 [.slice jb H.length jd] rfl rfl rfl m2 ct_one (by intro v hv; rw [List.mem_singleton.1 hv]; rfl) ?_
          refine hK.out _ _ m3.o.held (fun hHeld => ?_)
          clear hK K
          try simp only [Act.put]
          refine wpAnyH_done (by kernel_rfl) ?_ _
          generalize v5.setCells g7 0 [.slice jb H.length jd] = v6 at *
          clear hHeld m1 m2
          go_simp
          go_wp2_with fail
          go_meet
          exact ⟨_, _, _, _, _, _, _, _, rfl, rfl, m3, hj1, hj2⟩
      refine held_cons rfl (fun K hK => ?_) ?_
      · skip
        go_simp
        have hb := (Below.refl v1.heap.size v1).alloc (Nat.le_refl _) (.cells #[.slice none 0 0] 29)
        have z6 := Bx.new v1 29 [.slice none 0 0]
        change Bx (v1.alloc (.cells #[.slice none 0 0] 29)) _ _ _ at z6
        have l6 := hB.size
        have n16 : Ne v1.heap.size ja J := Ne.of_new h1 (Nat.le_refl _)
        replace h1 := h1.keep hb
        replace hB := hB.trans (hb.mono hB.size)
        clear hb
        generalize v1.alloc (.cells #[.slice none 0 0] 29) = v2 at *
        generalize v1.heap.size = g6 at *
        refine hK.out _ _ (hCj.keep hB).held (fun hHeld => ?_)
        clear hK K
        try simp only [Act.put, List.setIfInBounds_toArray, List.set_cons_zero, List.set_cons_succ]
        refine wpAnyH_ready (rs := [5, 7]) (by kernel_rfl) (by simp) ?_
        refine held_cons rfl (fun K hK => ?_) ?_
        · skip
          go_simp
          go_at_call 17
          (with_reducible refine (KJ.out 2 ⟨by decide, by decide⟩ _ (hCj.keep hB)).mono ?_)
          (first | rintro e v3 ⟨H, jb, jd, rfl, hj2, r2, s1, s2, hb⟩ | rintro e v3 H jb jd rfl hj2 r2 s1 s2 hb)
          have h2 : Jr v3 jb H := ⟨r2, fun j hj => (s1 j hj).2, fun t ht j hj => (s2 t ht j hj).2⟩
          have a2 : Ap v0.heap.size jb H := ⟨fun j hj => Nat.le_trans hB.size (s1 j hj).1, fun t ht j hj => Nat.le_trans hB.size (s2 t ht j hj).1⟩
          have n26 : Ne g6 jb H := Ne.of_lt (n := v2.heap.size) ⟨fun j hj => (s1 j hj).1, fun t ht j hj => (s2 t ht j hj).1⟩ z6.lt
          replace h1 := h1.keep hb
          replace z6 := z6.keep hb
          replace hB := hB.trans (hb.mono hB.size)
          clear hb s1 s2 r2
          have hj2 := Lib.hid hj2
          go_wp2_with fail
          refine hK.out _ _ (hCj.keep hB).held (fun hHeld => ?_)
          clear hK K
          try simp only [Act.put, List.setIfInBounds_toArray, List.set_cons_zero, List.set_cons_succ]
          refine wpAnyH_ready (rs := [7]) (by kernel_rfl) (by simp) ?_
          refine held_cons rfl (fun K hK => ?_) AllReadyH.nil
          go_simp
          have hb := (Below.refl v3.heap.size v3).alloc (Nat.le_refl _) (.cells #[.slice none 0 0] 29)
          have z7 := Bx.new v3 29 [.slice none 0 0]
          change Bx (v3.alloc (.cells #[.slice none 0 0] 29)) _ _ _ at z7
          have l7 := hB.size
          have n17 : Ne v3.heap.size ja J := Ne.of_new h1 (Nat.le_refl _)
          have n27 : Ne v3.heap.size jb H := Ne.of_new h2 (Nat.le_refl _)
          have n67 : g6 ≠ v3.heap.size := by have := z6.lt; omega
          replace h1 := h1.keep hb
          replace z6 := z6.keep hb
          replace h2 := h2.keep hb
          replace hB := hB.trans (hb.mono hB.size)
          clear hb
          generalize v3.alloc (.cells #[.slice none 0 0] 29) = v4 at *
          generalize v3.heap.size = g7 at *
          refine hK.out _ _ (hCj.keep hB).held (fun hHeld => ?_)
          clear hK K
          try simp only [Act.put, List.setIfInBounds_toArray, List.set_cons_zero, List.set_cons_succ]
          refine wpAnyH_ready (rs := [8]) (by kernel_rfl) (by simp) ?_
          refine held_cons rfl (fun K hK => ?_) AllReadyH.nil
          obtain ⟨m1, m2, m3⟩ := join_fin (jc := jc) (jd := jd) hCj hB h1 h2 z6 z7 l6 l7 n67 n16 n17 n26 n27 a1 a2
          have ht6 := z6.there (n := 1) rfl
          refine step_store_row rfl 29 (.tmp 6) (.tmp 24) rfl g6 0 1 [.slice ja J.length jc] rfl rfl rfl ht6 ct_one (by intro v hv; rw [List.mem_singleton.1 hv]; rfl) ?_
          refine hK.out _ _ m1.held (fun hHeld => ?_)
          clear hK K
          try simp only [Act.put]
          refine wpAnyH_ready (rs := [9]) (by kernel_rfl) (by simp) ?_
          refine held_cons rfl (fun K hK => ?_) AllReadyH.nil
          clear hHeld
          generalize v4.setCells g6 0 [.slice ja J.length jc] = v5 at *
          refine step_store_row rfl 29 (.tmp 7) (.tmp 27) rfl g7 0 1 [.slice jb H.length jd] rfl rfl rfl m2 ct_one (by intro v hv; rw [List.mem_singleton.1 hv]; rfl) ?_
          refine hK.out _ _ m3.o.held (fun hHeld => ?_)
          clear hK K
          try simp only [Act.put]
          refine wpAnyH_done (by kernel_rfl) ?_ _
          generalize v5.setCells g7 0 [.slice jb H.length jd] = v6 at *
          clear hHeld m1 m2
          go_simp
          go_wp2_with fail
          go_meet
          exact ⟨_, _, _, _, _, _, _, _, rfl, rfl, m3, hj1, hj2⟩
        · refine held_cons rfl (fun K hK => ?_) AllReadyH.nil
          go_simp
          have hb := (Below.refl v2.heap.size v2).alloc (Nat.le_refl _) (.cells #[.slice none 0 0] 29)
          have z7 := Bx.new v2 29 [.slice none 0 0]
          change Bx (v2.alloc (.cells #[.slice none 0 0] 29)) _ _ _ at z7
          have l7 := hB.size
          have n17 : Ne v2.heap.size ja J := Ne.of_new h1 (Nat.le_refl _)
          have n67 : g6 ≠ v2.heap.size := by have := z6.lt; omega
          replace h1 := h1.keep hb
          replace z6 := z6.keep hb
          replace hB := hB.trans (hb.mono hB.size)
          clear hb
          generalize v2.alloc (.cells #[.slice none 0 0] 29) = v3 at *
          generalize v2.heap.size = g7 at *
          refine hK.out _ _ (hCj.keep hB).held (fun hHeld => ?_)
          clear hK K
          try simp only [Act.put, List.setIfInBounds_toArray, List.set_cons_zero, List.set_cons_succ]
          refine wpAnyH_ready (rs := [5]) (by kernel_rfl) (by simp) ?_
          refine held_cons rfl (fun K hK => ?_) AllReadyH.nil
          go_simp
          go_at_call 17
          (with_reducible refine (KJ.out 2 ⟨by decide, by decide⟩ _ (hCj.keep hB)).mono ?_)
          (first | rintro e v4 ⟨H, jb, jd, rfl, hj2, r2, s1, s2, hb⟩ | rintro e v4 H jb jd rfl hj2 r2 s1 s2 hb)
          have h2 : Jr v4 jb H := ⟨r2, fun j hj => (s1 j hj).2, fun t ht j hj => (s2 t ht j hj).2⟩
          have a2 : Ap v0.heap.size jb H := ⟨fun j hj => Nat.le_trans hB.size (s1 j hj).1, fun t ht j hj => Nat.le_trans hB.size (s2 t ht j hj).1⟩
          have n26 : Ne g6 jb H := Ne.of_lt (n := v3.heap.size) ⟨fun j hj => (s1 j hj).1, fun t ht j hj => (s2 t ht j hj).1⟩ z6.lt
          have n27 : Ne g7 jb H := Ne.of_lt (n := v3.heap.size) ⟨fun j hj => (s1 j hj).1, fun t ht j hj => (s2 t ht j hj).1⟩ z7.lt
          replace h1 := h1.keep hb
          replace z6 := z6.keep hb
          replace z7 := z7.keep hb
          replace hB := hB.trans (hb.mono hB.size)
          clear hb s1 s2 r2
          have hj2 := Lib.hid hj2
          go_wp2_with fail
          refine hK.out _ _ (hCj.keep hB).held (fun hHeld => ?_)
          clear hK K
          try simp only [Act.put, List.setIfInBounds_toArray, List.set_cons_zero, List.set_cons_succ]
          refine wpAnyH_ready (rs := [8]) (by kernel_rfl) (by simp) ?_
          refine held_cons rfl (fun K hK => ?_) AllReadyH.nil
          obtain ⟨m1, m2, m3⟩ := join_fin (jc := jc) (jd := jd) hCj hB h1 h2 z6 z7 l6 l7 n67 n16 n17 n26 n27 a1 a2
          have ht6 := z6.there (n := 1) rfl
          refine step_store_row rfl 29 (.tmp 6) (.tmp 24) rfl g6 0 1 [.slice ja J.length jc] rfl rfl rfl ht6 ct_one (by intro v hv; rw [List.mem_singleton.1 hv]; rfl) ?_
          refine hK.out _ _ m1.held (fun hHeld => ?_)
          clear hK K
          try simp only [Act.put]
          refine wpAnyH_ready (rs := [9]) (by kernel_rfl) (by simp) ?_
          refine held_cons rfl (fun K hK => ?_) AllReadyH.nil
          clear hHeld
          generalize v4.setCells g6 0 [.slice ja J.length jc] = v5 at *
          refine step_store_row rfl 29 (.tmp 7) (.tmp 27) rfl g7 0 1 [.slice jb H.length jd] rfl rfl rfl m2 ct_one (by intro v hv; rw [List.mem_singleton.1 hv]; rfl) ?_
          refine hK.out _ _ m3.o.held (fun hHeld => ?_)
          clear hK K
          try simp only [Act.put]
          refine wpAnyH_done (by kernel_rfl) ?_ _
          generalize v5.setCells g7 0 [.slice jb H.length jd] = v6 at *
          clear hHeld m1 m2
          go_simp
          go_wp2_with fail
          go_meet
          exact ⟨_, _, _, _, _, _, _, _, rfl, rfl, m3, hj1, hj2⟩
      · refine held_cons rfl (fun K hK => ?_) AllReadyH.nil
        go_simp
        have hb := (Below.refl v1.heap.size v1).alloc (Nat.le_refl _) (.cells #[.slice none 0 0] 29)
        have z7 := Bx.new v1 29 [.slice none 0 0]
        change Bx (v1.alloc (.cells #[.slice none 0 0] 29)) _ _ _ at z7
        have l7 := hB.size
        have n17 : Ne v1.heap.size ja J := Ne.of_new h1 (Nat.le_refl _)
        replace h1 := h1.keep hb
        replace hB := hB.trans (hb.mono hB.size)
        clear hb
        generalize v1.alloc (.cells #[.slice none 0 0] 29) = v2 at *
        generalize v1.heap.size = g7 at *
        refine hK.out _ _ (hCj.keep hB).held (fun hHeld => ?_)
        clear hK K
        try simp only [Act.put, List.setIfInBounds_toArray, List.set_cons_zero, List.set_cons_succ]
        refine wpAnyH_ready (rs := [5, 6]) (by kernel_rfl) (by simp) ?_
        refine held_cons rfl (fun K hK => ?_) ?_
        · skip
          go_simp
          go_at_call 17
          (with_reducible refine (KJ.out 2 ⟨by decide, by decide⟩ _ (hCj.keep hB)).mono ?_)
          (first | rintro e v3 ⟨H, jb, jd, rfl, hj2, r2, s1, s2, hb⟩ | rintro e v3 H jb jd rfl hj2 r2 s1 s2 hb)
          have h2 : Jr v3 jb H := ⟨r2, fun j hj => (s1 j hj).2, fun t ht j hj => (s2 t ht j hj).2⟩
          have a2 : Ap v0.heap.size jb H := ⟨fun j hj => Nat.le_trans hB.size (s1 j hj).1, fun t ht j hj => Nat.le_trans hB.size (s2 t ht j hj).1⟩
          have n27 : Ne g7 jb H := Ne.of_lt (n := v2.heap.size) ⟨fun j hj => (s1 j hj).1, fun t ht j hj => (s2 t ht j hj).1⟩ z7.lt
          replace h1 := h1.keep hb
          replace z7 := z7.keep hb
          replace hB := hB.trans (hb.mono hB.size)
          clear hb s1 s2 r2
          have hj2 := Lib.hid hj2
          go_wp2_with fail
          refine hK.out _ _ (hCj.keep hB).held (fun hHeld => ?_)
          clear hK K
          try simp only [Act.put, List.setIfInBounds_toArray, List.set_cons_zero, List.set_cons_succ]
          refine wpAnyH_ready (rs := [6]) (by kernel_rfl) (by simp) ?_
          refine held_cons rfl (fun K hK => ?_) AllReadyH.nil
          go_simp
          have hb := (Below.refl v3.heap.size v3).alloc (Nat.le_refl _) (.cells #[.slice none 0 0] 29)
          have z6 := Bx.new v3 29 [.slice none 0 0]
          change Bx (v3.alloc (.cells #[.slice none 0 0] 29)) _ _ _ at z6
          have l6 := hB.size
          have n16 : Ne v3.heap.size ja J := Ne.of_new h1 (Nat.le_refl _)
          have n26 : Ne v3.heap.size jb H := Ne.of_new h2 (Nat.le_refl _)
          have n67 : v3.heap.size ≠ g7 := by have := z7.lt; omega
          replace h1 := h1.keep hb
          replace z7 := z7.keep hb
          replace h2 := h2.keep hb
          replace hB := hB.trans (hb.mono hB.size)
          clear hb
          generalize v3.alloc (.cells #[.slice none 0 0] 29) = v4 at *
          generalize v3.heap.size = g6 at *
          refine hK.out _ _ (hCj.keep hB).held (fun hHeld => ?_)
          clear hK K
          try simp only [Act.put, List.setIfInBounds_toArray, List.set_cons_zero, List.set_cons_succ]
          refine wpAnyH_ready (rs := [8]) (by kernel_rfl) (by simp) ?_
          refine held_cons rfl (fun K hK => ?_) AllReadyH.nil
          obtain ⟨m1, m2, m3⟩ := join_fin (jc := jc) (jd := jd) hCj hB h1 h2 z6 z7 l6 l7 n67 n16 n17 n26 n27 a1 a2
          have ht6 := z6.there (n := 1) rfl
          refine step_store_row rfl 29 (.tmp 6) (.tmp 24) rfl g6 0 1 [.slice ja J.length jc] rfl rfl rfl ht6 ct_one (by intro v hv; rw [List.mem_singleton.1 hv]; rfl) ?_
          refine hK.out _ _ m1.held (fun hHeld => ?_)
          clear hK K
          try simp only [Act.put]
          refine wpAnyH_ready (rs := [9]) (by kernel_rfl) (by simp) ?_
          refine held_cons rfl (fun K hK => ?_) AllReadyH.nil
          clear hHeld
          generalize v4.setCells g6 0 [.slice ja J.length jc] = v5 at *
          refine step_store_row rfl 29 (.tmp 7) (.tmp 27) rfl g7 0 1 [.slice jb H.length jd] rfl rfl rfl m2 ct_one (by intro v hv; rw [List.mem_singleton.1 hv]; rfl) ?_
          refine hK.out _ _ m3.o.held (fun hHeld => ?_)
          clear hK K
          try simp only [Act.put]
          refine wpAnyH_done (by kernel_rfl) ?_ _
          generalize v5.setCells g7 0 [.slice jb H.length jd] = v6 at *
          clear hHeld m1 m2
          go_simp
          go_wp2_with fail
          go_meet
          exact ⟨_, _, _, _, _, _, _, _, rfl, rfl, m3, hj1, hj2⟩
        · refine held_cons rfl (fun K hK => ?_) AllReadyH.nil
          go_simp
          have hb := (Below.refl v2.heap.size v2).alloc (Nat.le_refl _) (.cells #[.slice none 0 0] 29)
          have z6 := Bx.new v2 29 [.slice none 0 0]
          change Bx (v2.alloc (.cells #[.slice none 0 0] 29)) _ _ _ at z6
          have l6 := hB.size
          have n16 : Ne v2.heap.size ja J := Ne.of_new h1 (Nat.le_refl _)
          have n67 : v2.heap.size ≠ g7 := by have := z7.lt; omega
          replace h1 := h1.keep hb
          replace z7 := z7.keep hb
          replace hB := hB.trans (hb.mono hB.size)
          clear hb
          generalize v2.alloc (.cells #[.slice none 0 0] 29) = v3 at *
          generalize v2.heap.size = g6 at *
          refine hK.out _ _ (hCj.keep hB).held (fun hHeld => ?_)
          clear hK K
          try simp only [Act.put, List.setIfInBounds_toArray, List.set_cons_zero, List.set_cons_succ]
          refine wpAnyH_ready (rs := [5]) (by kernel_rfl) (by simp) ?_
          refine held_cons rfl (fun K hK => ?_) AllReadyH.nil
          go_simp
          go_at_call 17
          (with_reducible refine (KJ.out 2 ⟨by decide, by decide⟩ _ (hCj.keep hB)).mono ?_)
          (first | rintro e v4 ⟨H, jb, jd, rfl, hj2, r2, s1, s2, hb⟩ | rintro e v4 H jb jd rfl hj2 r2 s1 s2 hb)
          have h2 : Jr v4 jb H := ⟨r2, fun j hj => (s1 j hj).2, fun t ht j hj => (s2 t ht j hj).2⟩
          have a2 : Ap v0.heap.size jb H := ⟨fun j hj => Nat.le_trans hB.size (s1 j hj).1, fun t ht j hj => Nat.le_trans hB.size (s2 t ht j hj).1⟩
          have n26 : Ne g6 jb H := Ne.of_lt (n := v3.heap.size) ⟨fun j hj => (s1 j hj).1, fun t ht j hj => (s2 t ht j hj).1⟩ z6.lt
          have n27 : Ne g7 jb H := Ne.of_lt (n := v3.heap.size) ⟨fun j hj => (s1 j hj).1, fun t ht j hj => (s2 t ht j hj).1⟩ z7.lt
          replace h1 := h1.keep hb
          replace z7 := z7.keep hb
          replace z6 := z6.keep hb
          replace hB := hB.trans (hb.mono hB.size)
          clear hb s1 s2 r2
          have hj2 := Lib.hid hj2
          go_wp2_with fail
          refine hK.out _ _ (hCj.keep hB).held (fun hHeld => ?_)
          clear hK K
          try simp only [Act.put, List.setIfInBounds_toArray, List.set_cons_zero, List.set_cons_succ]
          refine wpAnyH_ready (rs := [8]) (by kernel_rfl) (by simp) ?_
          refine held_cons rfl (fun K hK => ?_) AllReadyH.nil
          obtain ⟨m1, m2, m3⟩ := join_fin (jc := jc) (jd := jd) hCj hB h1 h2 z6 z7 l6 l7 n67 n16 n17 n26 n27 a1 a2
          have ht6 := z6.there (n := 1) rfl
          refine step_store_row rfl 29 (.tmp 6) (.tmp 24) rfl g6 0 1 [.slice ja J.length jc] rfl rfl rfl ht6 ct_one (by intro v hv; rw [List.mem_singleton.1 hv]; rfl) ?_
          refine hK.out _ _ m1.held (fun hHeld => ?_)
          clear hK K
          try simp only [Act.put]
          refine wpAnyH_ready (rs := [9]) (by kernel_rfl) (by simp) ?_
          refine held_cons rfl (fun K hK => ?_) AllReadyH.nil
          clear hHeld
          generalize v4.setCells g6 0 [.slice ja J.length jc] = v5 at *
          refine step_store_row rfl 29 (.tmp 7) (.tmp 27) rfl g7 0 1 [.slice jb H.length jd] rfl rfl rfl m2 ct_one (by intro v hv; rw [List.mem_singleton.1 hv]; rfl) ?_
          refine hK.out _ _ m3.o.held (fun hHeld => ?_)
          clear hK K
          try simp only [Act.put]
          refine wpAnyH_done (by kernel_rfl) ?_ _
          generalize v5.setCells g7 0 [.slice jb H.length jd] = v6 at *
          clear hHeld m1 m2
          go_simp
          go_wp2_with fail
          go_meet
          exact ⟨_, _, _, _, _, _, _, _, rfl, rfl, m3, hj1, hj2⟩
    refine held_cons rfl (fun K hK => ?_) ?_
    · skip
      go_simp
      have hb := (Below.refl u0.heap.size u0).alloc (Nat.le_refl _) (.cells #[.slice none 0 0] 29)
      have z6 := Bx.new u0 29 [.slice none 0 0]
      change Bx (u0.alloc (.cells #[.slice none 0 0] 29)) _ _ _ at z6
      have l6 := hB.size
      replace hB := hB.trans (hb.mono hB.size)
      clear hb
      generalize u0.alloc (.cells #[.slice none 0 0] 29) = v1 at *
      generalize u0.heap.size = g6 at *
      refine hK.out _ _ (hCj.keep hB).held (fun hHeld => ?_)
      clear hK K
      try simp only [Act.put, List.setIfInBounds_toArray, List.set_cons_zero, List.set_cons_succ]
      refine wpAnyH_ready (rs := [2, 7]) (by kernel_rfl) (by simp) ?_
      refine held_cons rfl (fun K hK => ?_) ?_
      · skip
        go_simp
        go_at_call 17
        (with_reducible refine (KJ.out 1 ⟨by decide, by decide⟩ _ (hCj.keep hB)).mono ?_)
        (first | rintro e v2 ⟨J, ja, jc, rfl, hj1, r1, s1, s2, hb⟩ | rintro e v2 J ja jc rfl hj1 r1 s1 s2 hb)
        have h1 : Jr v2 ja J := ⟨r1, fun j hj => (s1 j hj).2, fun t ht j hj => (s2 t ht j hj).2⟩
        have a1 : Ap v0.heap.size ja J := ⟨fun j hj => Nat.le_trans hB.size (s1 j hj).1, fun t ht j hj => Nat.le_trans hB.size (s2 t ht j hj).1⟩
        have n16 : Ne g6 ja J := Ne.of_lt (n := v1.heap.size) ⟨fun j hj => (s1 j hj).1, fun t ht j hj => (s2 t ht j hj).1⟩ z6.lt
        replace z6 := z6.keep hb
        replace hB := hB.trans (hb.mono hB.size)
        clear hb s1 s2 r1
        have hj1 := Lib.hid hj1
        go_wp2_with fail
        refine hK.out _ _ (hCj.keep hB).held (fun hHeld => ?_)
        clear hK K
        try simp only [Act.put, List.setIfInBounds_toArray, List.set_cons_zero, List.set_cons_succ]
        refine wpAnyH_ready (rs := [5, 7]) (by kernel_rfl) (by simp) ?_
        refine held_cons rfl (fun K hK => ?_) ?_
        · skip
          go_simp
          go_at_call 17
          (with_reducible refine (KJ.out 2 ⟨by decide, by decide⟩ _ (hCj.keep hB)).mono ?_)
          (first | rintro e v3 ⟨H, jb, jd, rfl, hj2, r2, s1, s2, hb⟩ | rintro e v3 H jb jd rfl hj2 r2 s1 s2 hb)
          have h2 : Jr v3 jb H := ⟨r2, fun j hj => (s1 j hj).2, fun t ht j hj => (s2 t ht j hj).2⟩
          have a2 : Ap v0.heap.size jb H := ⟨fun j hj => Nat.le_trans hB.size (s1 j hj).1, fun t ht j hj => Nat.le_trans hB.size (s2 t ht j hj).1⟩
          have n26 : Ne g6 jb H := Ne.of_lt (n := v2.heap.size) ⟨fun j hj => (s1 j hj).1, fun t ht j hj => (s2 t ht j hj).1⟩ z6.lt
          replace z6 := z6.keep hb
          replace h1 := h1.keep hb
          replace hB := hB.trans (hb.mono hB.size)
          clear hb s1 s2 r2
          have hj2 := Lib.hid hj2
          go_wp2_with fail
          refine hK.out _ _ (hCj.keep hB).held (fun hHeld => ?_)
          clear hK K
          try simp only [Act.put, List.setIfInBounds_toArray, List.set_cons_zero, List.set_cons_succ]
          refine wpAnyH_ready (rs := [7]) (by kernel_rfl) (by simp) ?_
          refine held_cons rfl (fun K hK => ?_) AllReadyH.nil
          go_simp
          have hb := (Below.refl v3.heap.size v3).alloc (Nat.le_refl _) (.cells #[.slice none 0 0] 29)
          have z7 := Bx.new v3 29 [.slice none 0 0]
          change Bx (v3.alloc (.cells #[.slice none 0 0] 29)) _ _ _ at z7
          have l7 := hB.size
          have n17 : Ne v3.heap.size ja J := Ne.of_new h1 (Nat.le_refl _)
          have n27 : Ne v3.heap.size jb H := Ne.of_new h2 (Nat.le_refl _)
          have n67 : g6 ≠ v3.heap.size := by have := z6.lt; omega
          replace z6 := z6.keep hb
          replace h1 := h1.keep hb
          replace h2 := h2.keep hb
          replace hB := hB.trans (hb.mono hB.size)
          clear hb
          generalize v3.alloc (.cells #[.slice none 0 0] 29) = v4 at *
          generalize v3.heap.size = g7 at *
          refine hK.out _ _ (hCj.keep hB).held (fun hHeld => ?_)
          clear hK K
          try simp only [Act.put, List.setIfInBounds_toArray, List.set_cons_zero, List.set_cons_succ]
          refine wpAnyH_ready (rs := [8]) (by kernel_rfl) (by simp) ?_
          refine held_cons rfl (fun K hK => ?_) AllReadyH.nil
          obtain ⟨m1, m2, m3⟩ := join_fin (jc := jc) (jd := jd) hCj hB h1 h2 z6 z7 l6 l7 n67 n16 n17 n26 n27 a1 a2
          have ht6 := z6.there (n := 1) rfl
          refine step_store_row rfl 29 (.tmp 6) (.tmp 24) rfl g6 0 1 [.slice ja J.length jc] rfl rfl rfl ht6 ct_one (by intro v hv; rw [List.mem_singleton.1 hv]; rfl) ?_
          refine hK.out _ _ m1.held (fun hHeld => ?_)
          clear hK K
          try simp only [Act.put]
          refine wpAnyH_ready (rs := [9]) (by kernel_rfl) (by simp) ?_
          refine held_cons rfl (fun K hK => ?_) AllReadyH.nil
          clear hHeld
          generalize v4.setCells g6 0 [.slice ja J.length jc] = v5 at *
          refine step_store_row rfl 29 (.tmp 7) (.tmp 27) rfl g7 0 1 [.slice jb H.length jd] rfl rfl rfl m2 ct_one (by intro v hv; rw [List.mem_singleton.1 hv]; rfl) ?_
          refine hK.out _ _ m3.o.held (fun hHeld => ?_)
          clear hK K
          try simp only [Act.put]
          refine wpAnyH_done (by kernel_rfl) ?_ _
          generalize v5.setCells g7 0 [.slice jb H.length jd] = v6 at *
          clear hHeld m1 m2
          go_simp
          go_wp2_with fail
          go_meet
          exact ⟨_, _, _, _, _, _, _, _, rfl, rfl, m3, hj1, hj2⟩
        · refine held_cons rfl (fun K hK => ?_) AllReadyH.nil
          go_simp
          have hb := (Below.refl v2.heap.size v2).alloc (Nat.le_refl _) (.cells #[.slice none 0 0] 29)
          have z7 := Bx.new v2 29 [.slice none 0 0]
          change Bx (v2.alloc (.cells #[.slice none 0 0] 29)) _ _ _ at z7
          have l7 := hB.size
          have n17 : Ne v2.heap.size ja J := Ne.of_new h1 (Nat.le_refl _)
          have n67 : g6 ≠ v2.heap.size := by have := z6.lt; omega
          replace z6 := z6.keep hb
          replace h1 := h1.keep hb
          replace hB := hB.trans (hb.mono hB.size)
          clear hb
          generalize v2.alloc (.cells #[.slice none 0 0] 29) = v3 at *
          generalize v2.heap.size = g7 at *
          refine hK.out _ _ (hCj.keep hB).held (fun hHeld => ?_)
          clear hK K
          try simp only [Act.put, List.setIfInBounds_toArray, List.set_cons_zero, List.set_cons_succ]
          refine wpAnyH_ready (rs := [5]) (by kernel_rfl) (by simp) ?_
          refine held_cons rfl (fun K hK => ?_) AllReadyH.nil
          go_simp
          go_at_call 17
          (with_reducible refine (KJ.out 2 ⟨by decide, by decide⟩ _ (hCj.keep hB)).mono ?_)
          (first | rintro e v4 ⟨H, jb, jd, rfl, hj2, r2, s1, s2, hb⟩ | rintro e v4 H jb jd rfl hj2 r2 s1 s2 hb)
          have h2 : Jr v4 jb H := ⟨r2, fun j hj => (s1 j hj).2, fun t ht j hj => (s2 t ht j hj).2⟩
          have a2 : Ap v0.heap.size jb H := ⟨fun j hj => Nat.le_trans hB.size (s1 j hj).1, fun t ht j hj => Nat.le_trans hB.size (s2 t ht j hj).1⟩
          have n26 : Ne g6 jb H := Ne.of_lt (n := v3.heap.size) ⟨fun j hj => (s1 j hj).1, fun t ht j hj => (s2 t ht j hj).1⟩ z6.lt
          have n27 : Ne g7 jb H := Ne.of_lt (n := v3.heap.size) ⟨fun j hj => (s1 j hj).1, fun t ht j hj => (s2 t ht j hj).1⟩ z7.lt
          replace z6 := z6.keep hb
          replace h1 := h1.keep hb
          replace z7 := z7.keep hb
          replace hB := hB.trans (hb.mono hB.size)
          clear hb s1 s2 r2
          have hj2 := Lib.hid hj2
          go_wp2_with fail
          refine hK.out _ _ (hCj.keep hB).held (fun hHeld => ?_)
          clear hK K
          try simp only [Act.put, List.setIfInBounds_toArray, List.set_cons_zero, List.set_cons_succ]
          refine wpAnyH_ready (rs := [8]) (by kernel_rfl) (by simp) ?_
          refine held_cons rfl (fun K hK => ?_) AllReadyH.nil
          obtain ⟨m1, m2, m3⟩ := join_fin (jc := jc) (jd := jd) hCj hB h1 h2 z6 z7 l6 l7 n67 n16 n17 n26 n27 a1 a2
          have ht6 := z6.there (n := 1) rfl
          refine step_store_row rfl 29 (.tmp 6) (.tmp 24) rfl g6 0 1 [.slice ja J.length jc] rfl rfl rfl ht6 ct_one (by intro v hv; rw [List.mem_singleton.1 hv]; rfl) ?_
          refine hK.out _ _ m1.held (fun hHeld => ?_)
          clear hK K
          try simp only [Act.put]
          refine wpAnyH_ready (rs := [9]) (by kernel_rfl) (by simp) ?_
          refine held_cons rfl (fun K hK => ?_) AllReadyH.nil
          clear hHeld
          generalize v4.setCells g6 0 [.slice ja J.length jc] = v5 at *
          refine step_store_row rfl 29 (.tmp 7) (.tmp 27) rfl g7 0 1 [.slice jb H.length jd] rfl rfl rfl m2 ct_one (by intro v hv; rw [List.mem_singleton.1 hv]; rfl) ?_
          refine hK.out _ _ m3.o.held (fun hHeld => ?_)
          clear hK K
          try simp only [Act.put]
          refine wpAnyH_done (by kernel_rfl) ?_ _
          generalize v5.setCells g7 0 [.slice jb H.length jd] = v6 at *
          clear hHeld m1 m2
          go_simp
          go_wp2_with fail
          go_meet
          exact ⟨_, _, _, _, _, _, _, _, rfl, rfl, m3, hj1, hj2⟩
      · refine held_cons rfl (fun K hK => ?_) AllReadyH.nil
        go_simp
        have hb := (Below.refl v1.heap.size v1).alloc (Nat.le_refl _) (.cells #[.slice none 0 0] 29)
        have z7 := Bx.new v1 29 [.slice none 0 0]
        change Bx (v1.alloc (.cells #[.slice none 0 0] 29)) _ _ _ at z7
        have l7 := hB.size
        have n67 : g6 ≠ v1.heap.size := by have := z6.lt; omega
        replace z6 := z6.keep hb
        replace hB := hB.trans (hb.mono hB.size)
        clear hb
        generalize v1.alloc (.cells #[.slice none 0 0] 29) = v2 at *
        generalize v1.heap.size = g7 at *
        refine hK.out _ _ (hCj.keep hB).held (fun hHeld => ?_)
        clear hK K
        try simp only [Act.put, List.setIfInBounds_toArray, List.set_cons_zero, List.set_cons_succ]
        refine wpAnyH_ready (rs := [2]) (by kernel_rfl) (by simp) ?_
        refine held_cons rfl (fun K hK => ?_) AllReadyH.nil
        go_simp
        go_at_call 17
        (with_reducible refine (KJ.out 1 ⟨by decide, by decide⟩ _ (hCj.keep hB)).mono ?_)
        (first | rintro e v3 ⟨J, ja, jc, rfl, hj1, r1, s1, s2, hb⟩ | rintro e v3 J ja jc rfl hj1 r1 s1 s2 hb)
        have h1 : Jr v3 ja J := ⟨r1, fun j hj => (s1 j hj).2, fun t ht j hj => (s2 t ht j hj).2⟩
        have a1 : Ap v0.heap.size ja J := ⟨fun j hj => Nat.le_trans hB.size (s1 j hj).1, fun t ht j hj => Nat.le_trans hB.size (s2 t ht j hj).1⟩
        have n16 : Ne g6 ja J := Ne.of_lt (n := v2.heap.size) ⟨fun j hj => (s1 j hj).1, fun t ht j hj => (s2 t ht j hj).1⟩ z6.lt
        have n17 : Ne g7 ja J := Ne.of_lt (n := v2.heap.size) ⟨fun j hj => (s1 j hj).1, fun t ht j hj => (s2 t ht j hj).1⟩ z7.lt
        replace z6 := z6.keep hb
        replace z7 := z7.keep hb
        replace hB := hB.trans (hb.mono hB.size)
        clear hb s1 s2 r1
        have hj1 := Lib.hid hj1
        go_wp2_with fail
        refine hK.out _ _ (hCj.keep hB).held (fun hHeld => ?_)
        clear hK K
        try simp only [Act.put, List.setIfInBounds_toArray, List.set_cons_zero, List.set_cons_succ]
        refine wpAnyH_ready (rs := [5]) (by kernel_rfl) (by simp) ?_
        refine held_cons rfl (fun K hK => ?_) AllReadyH.nil
        go_simp
        go_at_call 17
        (with_reducible refine (KJ.out 2 ⟨by decide, by decide⟩ _ (hCj.keep hB)).mono ?_)
        (first | rintro e v4 ⟨H, jb, jd, rfl, hj2, r2, s1, s2, hb⟩ | rintro e v4 H jb jd rfl hj2 r2 s1 s2 hb)
        have h2 : Jr v4 jb H := ⟨r2, fun j hj => (s1 j hj).2, fun t ht j hj => (s2 t ht j hj).2⟩
        have a2 : Ap v0.heap.size jb H := ⟨fun j hj => Nat.le_trans hB.size (s1 j hj).1, fun t ht j hj => Nat.le_trans hB.size (s2 t ht j hj).1⟩
        have n26 : Ne g6 jb H := Ne.of_lt (n := v3.heap.size) ⟨fun j hj => (s1 j hj).1, fun t ht j hj => (s2 t ht j hj).1⟩ z6.lt
        have n27 : Ne g7 jb H := Ne.of_lt (n := v3.heap.size) ⟨fun j hj => (s1 j hj).1, fun t ht j hj => (s2 t ht j hj).1⟩ z7.lt
        replace z6 := z6.keep hb
        replace z7 := z7.keep hb
        replace h1 := h1.keep hb
        replace hB := hB.trans (hb.mono hB.size)
        clear hb s1 s2 r2
        have hj2 := Lib.hid hj2
        go_wp2_with fail
        refine hK.out _ _ (hCj.keep hB).held (fun hHeld => ?_)
        clear hK K
        try simp only [Act.put, List.setIfInBounds_toArray, List.set_cons_zero, List.set_cons_succ]
        refine wpAnyH_ready (rs := [8]) (by kernel_rfl) (by simp) ?_
        refine held_cons rfl (fun K hK => ?_) AllReadyH.nil
        obtain ⟨m1, m2, m3⟩ := join_fin (jc := jc) (jd := jd) hCj hB h1 h2 z6 z7 l6 l7 n67 n16 n17 n26 n27 a1 a2
        have ht6 := z6.there (n := 1) rfl
        refine step_store_row rfl 29 (.tmp 6) (.tmp 24) rfl g6 0 1 [.slice ja J.length jc] rfl rfl rfl ht6 ct_one (by intro v hv; rw [List.mem_singleton.1 hv]; rfl) ?_
        refine hK.out _ _ m1.held (fun hHeld => ?_)
        clear hK K
        try simp only [Act.put]
        refine wpAnyH_ready (rs := [9]) (by kernel_rfl) (by simp) ?_
        refine held_cons rfl (fun K hK => ?_) AllReadyH.nil
        clear hHeld
        generalize v4.setCells g6 0 [.slice ja J.length jc] = v5 at *
        refine step_store_row rfl 29 (.tmp 7) (.tmp 27) rfl g7 0 1 [.slice jb H.length jd] rfl rfl rfl m2 ct_one (by intro v hv; rw [List.mem_singleton.1 hv]; rfl) ?_
        refine hK.out _ _ m3.o.held (fun hHeld => ?_)
        clear hK K
        try simp only [Act.put]
        refine wpAnyH_done (by kernel_rfl) ?_ _
        generalize v5.setCells g7 0 [.slice jb H.length jd] = v6 at *
        clear hHeld m1 m2
        go_simp
        go_wp2_with fail
        go_meet
        exact ⟨_, _, _, _, _, _, _, _, rfl, rfl, m3, hj1, hj2⟩
    · refine held_cons rfl (fun K hK => ?_) AllReadyH.nil
      go_simp
      have hb := (Below.refl u0.heap.size u0).alloc (Nat.le_refl _) (.cells #[.slice none 0 0] 29)
      have z7 := Bx.new u0 29 [.slice none 0 0]
      change Bx (u0.alloc (.cells #[.slice none 0 0] 29)) _ _ _ at z7
      have l7 := hB.size
      replace hB := hB.trans (hb.mono hB.size)
      clear hb
      generalize u0.alloc (.cells #[.slice none 0 0] 29) = v1 at *
      generalize u0.heap.size = g7 at *
      refine hK.out _ _ (hCj.keep hB).held (fun hHeld => ?_)
      clear hK K
      try simp only [Act.put, List.setIfInBounds_toArray, List.set_cons_zero, List.set_cons_succ]
      refine wpAnyH_ready (rs := [2, 6]) (by kernel_rfl) (by simp) ?_
      refine held_cons rfl (fun K hK => ?_) ?_
      · skip
        go_simp
        go_at_call 17
        (with_reducible refine (KJ.out 1 ⟨by decide, by decide⟩ _ (hCj.keep hB)).mono ?_)
        (first | rintro e v2 ⟨J, ja, jc, rfl, hj1, r1, s1, s2, hb⟩ | rintro e v2 J ja jc rfl hj1 r1 s1 s2 hb)
        have h1 : Jr v2 ja J := ⟨r1, fun j hj => (s1 j hj).2, fun t ht j hj => (s2 t ht j hj).2⟩
        have a1 : Ap v0.heap.size ja J := ⟨fun j hj => Nat.le_trans hB.size (s1 j hj).1, fun t ht j hj => Nat.le_trans hB.size (s2 t ht j hj).1⟩
        have n17 : Ne g7 ja J := Ne.of_lt (n := v1.heap.size) ⟨fun j hj => (s1 j hj).1, fun t ht j hj => (s2 t ht j hj).1⟩ z7.lt
        replace z7 := z7.keep hb
        replace hB := hB.trans (hb.mono hB.size)
        clear hb s1 s2 r1
        have hj1 := Lib.hid hj1
        go_wp2_with fail
        refine hK.out _ _ (hCj.keep hB).held (fun hHeld => ?_)
        clear hK K
        try simp only [Act.put, List.setIfInBounds_toArray, List.set_cons_zero, List.set_cons_succ]
        refine wpAnyH_ready (rs := [5, 6]) (by kernel_rfl) (by simp) ?_
        refine held_cons rfl (fun K hK => ?_) ?_
        · skip
          go_simp
          go_at_call 17
          (with_reducible refine (KJ.out 2 ⟨by decide, by decide⟩ _ (hCj.keep hB)).mono ?_)
          (first | rintro e v3 ⟨H, jb, jd, rfl, hj2, r2, s1, s2, hb⟩ | rintro e v3 H jb jd rfl hj2 r2 s1 s2 hb)
          have h2 : Jr v3 jb H := ⟨r2, fun j hj => (s1 j hj).2, fun t ht j hj => (s2 t ht j hj).2⟩
          have a2 : Ap v0.heap.size jb H := ⟨fun j hj => Nat.le_trans hB.size (s1 j hj).1, fun t ht j hj => Nat.le_trans hB.size (s2 t ht j hj).1⟩
          have n27 : Ne g7 jb H := Ne.of_lt (n := v2.heap.size) ⟨fun j hj => (s1 j hj).1, fun t ht j hj => (s2 t ht j hj).1⟩ z7.lt
          replace z7 := z7.keep hb
          replace h1 := h1.keep hb
          replace hB := hB.trans (hb.mono hB.size)
          clear hb s1 s2 r2
          have hj2 := Lib.hid hj2
          go_wp2_with fail
          refine hK.out _ _ (hCj.keep hB).held (fun hHeld => ?_)
          clear hK K
          try simp only [Act.put, List.setIfInBounds_toArray, List.set_cons_zero, List.set_cons_succ]
          refine wpAnyH_ready (rs := [6]) (by kernel_rfl) (by simp) ?_
          refine held_cons rfl (fun K hK => ?_) AllReadyH.nil
          go_simp
          have hb := (Below.refl v3.heap.size v3).alloc (Nat.le_refl _) (.cells #[.slice none 0 0] 29)
          have z6 := Bx.new v3 29 [.slice none 0 0]
          change Bx (v3.alloc (.cells #[.slice none 0 0] 29)) _ _ _ at z6
          have l6 := hB.size
          have n16 : Ne v3.heap.size ja J := Ne.of_new h1 (Nat.le_refl _)
          have n26 : Ne v3.heap.size jb H := Ne.of_new h2 (Nat.le_refl _)
          have n67 : v3.heap.size ≠ g7 := by have := z7.lt; omega
          replace z7 := z7.keep hb
          replace h1 := h1.keep hb
          replace h2 := h2.keep hb
          replace hB := hB.trans (hb.mono hB.size)
          clear hb
          generalize v3.alloc (.cells #[.slice none 0 0] 29) = v4 at *
          generalize v3.heap.size = g6 at *
          refine hK.out _ _ (hCj.keep hB).held (fun hHeld => ?_)
          clear hK K
          try simp only [Act.put, List.setIfInBounds_toArray, List.set_cons_zero, List.set_cons_succ]
          refine wpAnyH_ready (rs := [8]) (by kernel_rfl) (by simp) ?_
          refine held_cons rfl (fun K hK => ?_) AllReadyH.nil
          obtain ⟨m1, m2, m3⟩ := join_fin (jc := jc) (jd := jd) hCj hB h1 h2 z6 z7 l6 l7 n67 n16 n17 n26 n27 a1 a2
          have ht6 := z6.there (n := 1) rfl
          refine step_store_row rfl 29 (.tmp 6) (.tmp 24) rfl g6 0 1 [.slice ja J.length jc] rfl rfl rfl ht6 ct_one (by intro v hv; rw [List.mem_singleton.1 hv]; rfl) ?_
          refine hK.out _ _ m1.held (fun hHeld => ?_)
          clear hK K
          try simp only [Act.put]
          refine wpAnyH_ready (rs := [9]) (by kernel_rfl) (by simp) ?_
          refine held_cons rfl (fun K hK => ?_) AllReadyH.nil
          clear hHeld
          generalize v4.setCells g6 0 [.slice ja J.length jc] = v5 at *
          refine step_store_row rfl 29 (.tmp 7) (.tmp 27) rfl g7 0 1 [.slice jb H.length jd] rfl rfl rfl m2 ct_one (by intro v hv; rw [List.mem_singleton.1 hv]; rfl) ?_
          refine hK.out _ _ m3.o.held (fun hHeld => ?_)
          clear hK K
          try simp only [Act.put]
          refine wpAnyH_done (by kernel_rfl) ?_ _
          generalize v5.setCells g7 0 [.slice jb H.length jd] = v6 at *
          clear hHeld m1 m2
          go_simp
          go_wp2_with fail
          go_meet
          exact ⟨_, _, _, _, _, _, _, _, rfl, rfl, m3, hj1, hj2⟩
        · refine held_cons rfl (fun K hK => ?_) AllReadyH.nil
          go_simp
          have hb := (Below.refl v2.heap.size v2).alloc (Nat.le_refl _) (.cells #[.slice none 0 0] 29)
          have z6 := Bx.new v2 29 [.slice none 0 0]
          change Bx (v2.alloc (.cells #[.slice none 0 0] 29)) _ _ _ at z6
          have l6 := hB.size
          have n16 : Ne v2.heap.size ja J := Ne.of_new h1 (Nat.le_refl _)
          have n67 : v2.heap.size ≠ g7 := by have := z7.lt; omega
          replace z7 := z7.keep hb
          replace h1 := h1.keep hb
          replace hB := hB.trans (hb.mono hB.size)
          clear hb
          generalize v2.alloc (.cells #[.slice none 0 0] 29) = v3 at *
          generalize v2.heap.size = g6 at *
          refine hK.out _ _ (hCj.keep hB).held (fun hHeld => ?_)
          clear hK K
          try simp only [Act.put, List.setIfInBounds_toArray, List.set_cons_zero, List.set_cons_succ]
          refine wpAnyH_ready (rs := [5]) (by kernel_rfl) (by simp) ?_
          refine held_cons rfl (fun K hK => ?_) AllReadyH.nil
          go_simp
          go_at_call 17
          (with_reducible refine (KJ.out 2 ⟨by decide, by decide⟩ _ (hCj.keep hB)).mono ?_)
          (first | rintro e v4 ⟨H, jb, jd, rfl, hj2, r2, s1, s2, hb⟩ | rintro e v4 H jb jd rfl hj2 r2 s1 s2 hb)
          have h2 : Jr v4 jb H := ⟨r2, fun j hj => (s1 j hj).2, fun t ht j hj => (s2 t ht j hj).2⟩
          have a2 : Ap v0.heap.size jb H := ⟨fun j hj => Nat.le_trans hB.size (s1 j hj).1, fun t ht j hj => Nat.le_trans hB.size (s2 t ht j hj).1⟩
          have n26 : Ne g6 jb H := Ne.of_lt (n := v3.heap.size) ⟨fun j hj => (s1 j hj).1, fun t ht j hj => (s2 t ht j hj).1⟩ z6.lt
          have n27 : Ne g7 jb H := Ne.of_lt (n := v3.heap.size) ⟨fun j hj => (s1 j hj).1, fun t ht j hj => (s2 t ht j hj).1⟩ z7.lt
          replace z7 := z7.keep hb
          replace h1 := h1.keep hb
          replace z6 := z6.keep hb
          replace hB := hB.trans (hb.mono hB.size)
          clear hb s1 s2 r2
          have hj2 := Lib.hid hj2
          go_wp2_with fail
          refine hK.out _ _ (hCj.keep hB).held (fun hHeld => ?_)
          clear hK K
          try simp only [Act.put, List.setIfInBounds_toArray, List.set_cons_zero, List.set_cons_succ]
          refine wpAnyH_ready (rs := [8]) (by kernel_rfl) (by simp) ?_
          refine held_cons rfl (fun K hK => ?_) AllReadyH.nil
          obtain ⟨m1, m2, m3⟩ := join_fin (jc := jc) (jd := jd) hCj hB h1 h2 z6 z7 l6 l7 n67 n16 n17 n26 n27 a1 a2
          have ht6 := z6.there (n := 1) rfl
          refine step_store_row rfl 29 (.tmp 6) (.tmp 24) rfl g6 0 1 [.slice ja J.length jc] rfl rfl rfl ht6 ct_one (by intro v hv; rw [List.mem_singleton.1 hv]; rfl) ?_
          refine hK.out _ _ m1.held (fun hHeld => ?_)
          clear hK K
          try simp only [Act.put]
          refine wpAnyH_ready (rs := [9]) (by kernel_rfl) (by simp) ?_
          refine held_cons rfl (fun K hK => ?_) AllReadyH.nil
          clear hHeld
          generalize v4.setCells g6 0 [.slice ja J.length jc] = v5 at *
          refine step_store_row rfl 29 (.tmp 7) (.tmp 27) rfl g7 0 1 [.slice jb H.length jd] rfl rfl rfl m2 ct_one (by intro v hv; rw [List.mem_singleton.1 hv]; rfl) ?_
          refine hK.out _ _ m3.o.held (fun hHeld => ?_)
          clear hK K
          try simp only [Act.put]
          refine wpAnyH_done (by kernel_rfl) ?_ _
          generalize v5.setCells g7 0 [.slice jb H.length jd] = v6 at *
          clear hHeld m1 m2
          go_simp
          go_wp2_with fail
          go_meet
          exact ⟨_, _, _, _, _, _, _, _, rfl, rfl, m3, hj1, hj2⟩
      · refine held_cons rfl (fun K hK => ?_) AllReadyH.nil
        go_simp
        have hb := (Below.refl v1.heap.size v1).alloc (Nat.le_refl _) (.cells #[.slice none 0 0] 29)
        have z6 := Bx.new v1 29 [.slice none 0 0]
        change Bx (v1.alloc (.cells #[.slice none 0 0] 29)) _ _ _ at z6
        have l6 := hB.size
        have n67 : v1.heap.size ≠ g7 := by have := z7.lt; omega
        replace z7 := z7.keep hb
        replace hB := hB.trans (hb.mono hB.size)
        clear hb
        generalize v1.alloc (.cells #[.slice none 0 0] 29) = v2 at *
        generalize v1.heap.size = g6 at *
        refine hK.out _ _ (hCj.keep hB).held (fun hHeld => ?_)
        clear hK K
        try simp only [Act.put, List.setIfInBounds_toArray, List.set_cons_zero, List.set_cons_succ]
        refine wpAnyH_ready (rs := [2]) (by kernel_rfl) (by simp) ?_
        refine held_cons rfl (fun K hK => ?_) AllReadyH.nil
        go_simp
        go_at_call 17
        (with_reducible refine (KJ.out 1 ⟨by decide, by decide⟩ _ (hCj.keep hB)).mono ?_)
        (first | rintro e v3 ⟨J, ja, jc, rfl, hj1, r1, s1, s2, hb⟩ | rintro e v3 J ja jc rfl hj1 r1 s1 s2 hb)
        have h1 : Jr v3 ja J := ⟨r1, fun j hj => (s1 j hj).2, fun t ht j hj => (s2 t ht j hj).2⟩
        have a1 : Ap v0.heap.size ja J := ⟨fun j hj => Nat.le_trans hB.size (s1 j hj).1, fun t ht j hj => Nat.le_trans hB.size (s2 t ht j hj).1⟩
        have n16 : Ne g6 ja J := Ne.of_lt (n := v2.heap.size) ⟨fun j hj => (s1 j hj).1, fun t ht j hj => (s2 t ht j hj).1⟩ z6.lt
        have n17 : Ne g7 ja J := Ne.of_lt (n := v2.heap.size) ⟨fun j hj => (s1 j hj).1, fun t ht j hj => (s2 t ht j hj).1⟩ z7.lt
        replace z7 := z7.keep hb
        replace z6 := z6.keep hb
        replace hB := hB.trans (hb.mono hB.size)
        clear hb s1 s2 r1
        have hj1 := Lib.hid hj1
        go_wp2_with fail
        refine hK.out _ _ (hCj.keep hB).held (fun hHeld => ?_)
        clear hK K
        try simp only [Act.put, List.setIfInBounds_toArray, List.set_cons_zero, List.set_cons_succ]
        refine wpAnyH_ready (rs := [5]) (by kernel_rfl) (by simp) ?_
        refine held_cons rfl (fun K hK => ?_) AllReadyH.nil
        go_simp
        go_at_call 17
        (with_reducible refine (KJ.out 2 ⟨by decide, by decide⟩ _ (hCj.keep hB)).mono ?_)
        (first | rintro e v4 ⟨H, jb, jd, rfl, hj2, r2, s1, s2, hb⟩ | rintro e v4 H jb jd rfl hj2 r2 s1 s2 hb)
        have h2 : Jr v4 jb H := ⟨r2, fun j hj => (s1 j hj).2, fun t ht j hj => (s2 t ht j hj).2⟩
        have a2 : Ap v0.heap.size jb H := ⟨fun j hj => Nat.le_trans hB.size (s1 j hj).1, fun t ht j hj => Nat.le_trans hB.size (s2 t ht j hj).1⟩
        have n26 : Ne g6 jb H := Ne.of_lt (n := v3.heap.size) ⟨fun j hj => (s1 j hj).1, fun t ht j hj => (s2 t ht j hj).1⟩ z6.lt
        have n27 : Ne g7 jb H := Ne.of_lt (n := v3.heap.size) ⟨fun j hj => (s1 j hj).1, fun t ht j hj => (s2 t ht j hj).1⟩ z7.lt
        replace z7 := z7.keep hb
        replace z6 := z6.keep hb
        replace h1 := h1.keep hb
        replace hB := hB.trans (hb.mono hB.size)
        clear hb s1 s2 r2
        have hj2 := Lib.hid hj2
        go_wp2_with fail
        refine hK.out _ _ (hCj.keep hB).held (fun hHeld => ?_)
        clear hK K
        try simp only [Act.put, List.setIfInBounds_toArray, List.set_cons_zero, List.set_cons_succ]
        refine wpAnyH_ready (rs := [8]) (by kernel_rfl) (by simp) ?_
        refine held_cons rfl (fun K hK => ?_) AllReadyH.nil
        obtain ⟨m1, m2, m3⟩ := join_fin (jc := jc) (jd := jd) hCj hB h1 h2 z6 z7 l6 l7 n67 n16 n17 n26 n27 a1 a2
        have ht6 := z6.there (n := 1) rfl
        refine step_store_row rfl 29 (.tmp 6) (.tmp 24) rfl g6 0 1 [.slice ja J.length jc] rfl rfl rfl ht6 ct_one (by intro v hv; rw [List.mem_singleton.1 hv]; rfl) ?_
        refine hK.out _ _ m1.held (fun hHeld => ?_)
        clear hK K
        try simp only [Act.put]
        refine wpAnyH_ready (rs := [9]) (by kernel_rfl) (by simp) ?_
        refine held_cons rfl (fun K hK => ?_) AllReadyH.nil
        clear hHeld
        generalize v4.setCells g6 0 [.slice ja J.length jc] = v5 at *
        refine step_store_row rfl 29 (.tmp 7) (.tmp 27) rfl g7 0 1 [.slice jb H.length jd] rfl rfl rfl m2 ct_one (by intro v hv; rw [List.mem_singleton.1 hv]; rfl) ?_
        refine hK.out _ _ m3.o.held (fun hHeld => ?_)
        clear hK K
        try simp only [Act.put]
        refine wpAnyH_done (by kernel_rfl) ?_ _
        generalize v5.setCells g7 0 [.slice jb H.length jd] = v6 at *
        clear hHeld m1 m2
        go_simp
        go_wp2_with fail
        go_meet
        exact ⟨_, _, _, _, _, _, _, _, rfl, rfl, m3, hj1, hj2⟩
  case rest =>
    obtain ⟨gc, gd, J, ja, jc, H, jb, jd, rfl, rfl, hK, hJ1, hJ2⟩ := hcut
    clear hCj KJ
    have hJl := hJ1.out.len
    have hHl := hJ2.out.len
    have hA8 := HAl.out
    have hB8 := HBl.out
    have HRJ := Lib.hid (hJ1.out.right (.inl rfl) HGA.out HGB.out (by omega))
    have HRH := Lib.hid (hJ2.out.right (.inr rfl) HGA.out HGB.out (by omega))
    have HL24 := Lib.hid (show J.length ≤ 24 ∧ H.length ≤ 24 by omega)
    have W1 := hJ2.out.weak1 HRA.out HRH.out
    have W2 := hJ1.out.weak2 HRB.out HRJ.out
    have W3 := weak_refl HRA.out
    have KM : Hid (Calls Try.prog 11 #[.pointer (some ⟨db, 0, none⟩), .int .i64 6] wc (MemRes W wc db p l cap 6)) := Lib.hid (kmems_walk W db p l cap q3 6 wc hl48 (by omega) hK.o.e hWd HR.out)
    have HK := Lib.hid hK
    have HJL := Lib.hid hJl
    have HHL := Lib.hid hHl
    clear hK hJl hHl hA8 hB8
    go_upto_region 7 with (go_at_call 11; (with_reducible refine KM.out.mono ?_); (first | rintro e w7 ⟨M, a, c, q4, rfl, hMl, hE4, hM4, hk4⟩ | rintro e w7 M a c q4 rfl hMl hE4 hM4 hk4))
    have HKm := Lib.hid (show Ckm W w7 db p l cap q4 ga ta tc A gb tb td B gc ja jc J gd jb jd H a M from ⟨HK.out.kp hk4 hE4, hM4.r⟩)
    have HMl := Lib.hid hMl
    clear KM HK hE4 hM4 hk4
    have K1 : Hid (∀ V, Ckm W V db p l cap q4 ga ta tc A gb tb td B gc ja jc J gd jb jd H a M → Calls Try.prog 15 #[.agg #[.slice ja J.length jc]] V fun e w' => e = .returned (.bool true) ∧ Below V.heap.size V w') := Lib.hid (fun V hV => by have := cvalid_walk J ja jc V hV.k.cc.r (by have := HL24.out; omega); rwa [HRJ.out] at this)
    have K2 : Hid (∀ V, Ckm W V db p l cap q4 ga ta tc A gb tb td B gc ja jc J gd jb jd H a M → Calls Try.prog 18 #[.agg #[.slice ta A.length tc], .agg #[.slice jb H.length jd]] V fun e w' => e = .returned (.bool true) ∧ Below V.heap.size V w') := Lib.hid (fun V hV => by have := weaker_walk A H ta jb tc jd V hV.k.o.ca.r hV.k.cd.r (by have := HAl.out; omega) (by have := HL24.out; omega); rwa [W1] at this)
    have K3 : Hid (∀ V, Ckm W V db p l cap q4 ga ta tc A gb tb td B gc ja jc J gd jb jd H a M → Calls Try.prog 18 #[.agg #[.slice ja J.length jc], .agg #[.slice tb B.length td]] V fun e w' => e = .returned (.bool true) ∧ Below V.heap.size V w') := Lib.hid (fun V hV => by have := weaker_walk J B ja tb jc td V hV.k.cc.r hV.k.o.cb.r (by have := HL24.out; omega) (by have := HBl.out; omega); rwa [W2] at this)
    have K4 : Hid (∀ V, Ckm W V db p l cap q4 ga ta tc A gb tb td B gc ja jc J gd jb jd H a M → Calls Try.prog 18 #[.agg #[.slice ta A.length tc], .agg #[.slice ta A.length tc]] V fun e w' => e = .returned (.bool true) ∧ Below V.heap.size V w') := Lib.hid (fun V hV => by have := weaker_walk A A ta ta tc tc V hV.k.o.ca.r hV.k.o.ca.r (by have := HAl.out; omega) (by have := HAl.out; omega); rwa [W3] at this)
    clear W1 W2 W3
    have y1 := HKm.out.k.c.cell 0 rfl
    go_upto_region 9 with (first
      | (go_at_call 15; (with_reducible refine (K1.out _ HKm.out).mono ?_); (first | rintro e v1 rfl hb1 | rintro e v1 ⟨rfl, hb1⟩); have H1 := Lib.hid (HKm.out.keep hb1); have y2 := H1.out.k.o.a.cell 0 rfl; have y3 := H1.out.k.d.cell 0 rfl; clear hb1)
      | (go_at_call 18; (with_reducible refine (K2.out _ H1.out).mono ?_); (first | rintro e v2 rfl hb2 | rintro e v2 ⟨rfl, hb2⟩); have H2 := Lib.hid (H1.out.keep hb2); have y4 := H2.out.k.c.cell 0 rfl; have y5 := H2.out.k.o.b.cell 0 rfl; clear hb2)
      | (go_at_call 18; (with_reducible refine (K3.out _ H2.out).mono ?_); (first | rintro e v3 rfl hb3 | rintro e v3 ⟨rfl, hb3⟩); have H3 := Lib.hid (H2.out.keep hb3); have y6 := H3.out.k.o.a.cell 0 rfl; clear hb3)
      | (go_at_call 18; (with_reducible refine (K4.out _ H3.out).mono ?_); (first | rintro e v4 rfl hb4 | rintro e v4 ⟨rfl, hb4⟩); have H4 := Lib.hid (H3.out.keep hb4); clear hb4))
    have hP0 := H4.out
    clear H4 H3 H2 H1 HKm K1 K2 K3 K4 y1 y2 y3 y4 y5 y6
    go_upto_region 10 with (fail)
    go_loopw [53] (fun iv wr => ∃ i : Nat, i ≤ M.length ∧ iv = .int .i64 (i : Int) ∧ Ckm W wr db p l cap q4 ga ta tc A gb tb td B gc ja jc J gd jb jd H a M) (fun iv _ => M.length - (intOf iv).toNat)
    case atStart => exact ⟨0, Nat.zero_le _, rfl, hP0⟩
    case round =>
      clear hP0
      obtain ⟨i, hi, rfl, hP⟩ := hrel
      by_cases hit : i < M.length
      rotate_left
      · have hil : ¬ (i : Int) < (M.length : Int) := by omega
        have t1 := hJ1.out.least (.inl rfl) HRA.out HRB.out HRJ.out
        have t2 := hJ2.out.least (.inr rfl) HRA.out HRB.out HRH.out
        rw [if_pos rfl] at t1
        rw [if_neg (by decide)] at t2
        have La : Hid (∀ V, Ckm W V db p l cap q4 ga ta tc A gb tb td B gc ja jc J gd jb jd H a M → Calls Try.prog 16 #[.agg #[.slice ta A.length tc]] V fun e w' => e = .returned (.int .i64 (leastF A)) ∧ Below V.heap.size V w') := Lib.hid (fun V hV => cleast_walk A ta tc V hV.k.o.ca.r (by have := HAl.out; omega))
        have Lb : Hid (∀ V, Ckm W V db p l cap q4 ga ta tc A gb tb td B gc ja jc J gd jb jd H a M → Calls Try.prog 16 #[.agg #[.slice tb B.length td]] V fun e w' => e = .returned (.int .i64 (leastF B)) ∧ Below V.heap.size V w') := Lib.hid (fun V hV => cleast_walk B tb td V hV.k.o.cb.r (by have := HBl.out; omega))
        have Lj : Hid (∀ V, Ckm W V db p l cap q4 ga ta tc A gb tb td B gc ja jc J gd jb jd H a M → Calls Try.prog 16 #[.agg #[.slice ja J.length jc]] V fun e w' => e = .returned (.int .i64 (leastF J)) ∧ Below V.heap.size V w') := Lib.hid (fun V hV => cleast_walk J ja jc V hV.k.cc.r (by have := HL24.out; omega))
        have Lh : Hid (∀ V, Ckm W V db p l cap q4 ga ta tc A gb tb td B gc ja jc J gd jb jd H a M → Calls Try.prog 16 #[.agg #[.slice jb H.length jd]] V fun e w' => e = .returned (.int .i64 (leastF H)) ∧ Below V.heap.size V w') := Lib.hid (fun V hV => cleast_walk H jb jd V hV.k.cd.r (by have := HL24.out; omega))
        generalize leastF A = xA at *
        generalize leastF B = xB at *
        generalize leastF J = xJ at *
        generalize leastF H = xH at *
        have m1 : (xJ == max xA xB) = true := beq_iff_eq.2 t1
        have m2 : (xH == min xA xB) = true := beq_iff_eq.2 t2
        have HP := Lib.hid hP
        clear hP t1 t2
        go_upto_region 16 with (fail)
        have hP := HP.out
        clear HP
        refine wp_region_held_drew (S := fun w' => w'.cell? ⟨ga, 0, none⟩ = some (.slice ta A.length tc) ∧ w'.cell? ⟨gb, 0, none⟩ = some (.slice tb B.length td) ∧ w'.cell? ⟨gc, 0, none⟩ = some (.slice ja J.length jc) ∧ w'.cell? ⟨gd, 0, none⟩ = some (.slice jb H.length jd)) (by kernel_rfl) (hP.keep (Below.refl _ _).drew).held4 (fun hHeld => ?_)
        simp only [List.size_toArray, List.length_cons, List.length_nil]
        replace hP := hP.keep (Below.refl _ _).drew
        generalize wr.drew = v0 at *
        replace hHeld := id hHeld
        refine held_take (0) (v := ?_) rfl (by kernel_rfl) (by kernel_rfl) (by kernel_rfl) (fun _ _ _ h => h) (Or.inl ⟨by rfl, ?_⟩) (by assumption) ?_
        rotate_left
        · intro w hSw
          try dsimp only at hSw
          go_simp
          with_reducible rfl
        try simp only [Act.put, List.setIfInBounds_toArray, List.set_cons_zero, List.set_cons_succ]
        refine held_take (2) (v := ?_) rfl (by kernel_rfl) (by kernel_rfl) (by kernel_rfl) (fun _ _ _ h => h) (Or.inl ⟨by rfl, ?_⟩) (by assumption) ?_
        rotate_left
        · intro w hSw
          try dsimp only at hSw
          go_simp
          with_reducible rfl
        try simp only [Act.put, List.setIfInBounds_toArray, List.set_cons_zero, List.set_cons_succ]
        refine held_take (4) (v := ?_) rfl (by kernel_rfl) (by kernel_rfl) (by kernel_rfl) (fun _ _ _ h => h) (Or.inl ⟨by rfl, ?_⟩) (by assumption) ?_
        rotate_left
        · intro w hSw
          try dsimp only at hSw
          go_simp
          with_reducible rfl
        try simp only [Act.put, List.setIfInBounds_toArray, List.set_cons_zero, List.set_cons_succ]
        refine wpAnyH_ready (rs := [1]) (by kernel_rfl) (by simp) ?_
        refine held_cons rfl (fun K hK => ?_) AllReadyH.nil
        go_simp
        go_at_call 16
        (with_reducible refine (Lj.out _ hP).mono ?_)
        (first | rintro e v1 rfl hb | rintro e v1 ⟨rfl, hb⟩)
        replace hP := hP.keep hb
        clear hb
        go_wp2_with fail
        refine hK.out _ _ hP.held4 (fun hHeld => ?_)
        clear hK K
        try simp only [Act.put, List.setIfInBounds_toArray, List.set_cons_zero, List.set_cons_succ]
        refine wpAnyH_ready (rs := [3]) (by kernel_rfl) (by simp) ?_
        refine held_cons rfl (fun K hK => ?_) AllReadyH.nil
        go_simp
        go_at_call 16
        (with_reducible refine (La.out _ hP).mono ?_)
        (first | rintro e v3 rfl hb | rintro e v3 ⟨rfl, hb⟩)
        replace hP := hP.keep hb
        clear hb
        go_wp2_with fail
        refine hK.out _ _ hP.held4 (fun hHeld => ?_)
        clear hK K
        try simp only [Act.put, List.setIfInBounds_toArray, List.set_cons_zero, List.set_cons_succ]
        refine wpAnyH_ready (rs := [5]) (by kernel_rfl) (by simp) ?_
        refine held_cons rfl (fun K hK => ?_) AllReadyH.nil
        go_simp
        go_at_call 16
        (with_reducible refine (Lb.out _ hP).mono ?_)
        (first | rintro e v5 rfl hb | rintro e v5 ⟨rfl, hb⟩)
        replace hP := hP.keep hb
        clear hb
        go_wp2_with fail
        refine hK.out _ _ hP.held4 (fun hHeld => ?_)
        clear hK K
        try simp only [Act.put, List.setIfInBounds_toArray, List.set_cons_zero, List.set_cons_succ]
        refine held_take (6) (v := ?_) rfl (by kernel_rfl) (by kernel_rfl) (by kernel_rfl) (fun _ _ _ h => h) (Or.inl ⟨by rfl, ?_⟩) (by assumption) ?_
        rotate_left
        · intro w hSw
          try dsimp only at hSw
          go_simp
          with_reducible rfl
        try simp only [Act.put, List.setIfInBounds_toArray, List.set_cons_zero, List.set_cons_succ]
        refine held_take (7) (v := ?_) rfl (by kernel_rfl) (by kernel_rfl) (by kernel_rfl) (fun _ _ _ h => h) (Or.inl ⟨by rfl, ?_⟩) (by assumption) ?_
        rotate_left
        · intro w hSw
          try dsimp only at hSw
          go_simp
          with_reducible rfl
        try simp only [Act.put, List.setIfInBounds_toArray, List.set_cons_zero, List.set_cons_succ]
        refine held_take (8) (v := ?_) rfl (by kernel_rfl) (by kernel_rfl) (by kernel_rfl) (fun _ _ _ h => h) (Or.inl ⟨by rfl, ?_⟩) (by assumption) ?_
        rotate_left
        · intro w hSw
          try dsimp only at hSw
          go_simp
          with_reducible rfl
        try simp only [Act.put, List.setIfInBounds_toArray, List.set_cons_zero, List.set_cons_succ]
        refine held_take (9) (v := ?_) rfl (by kernel_rfl) (by kernel_rfl) (by kernel_rfl) (fun _ _ _ h => h) (Or.inl ⟨by rfl, ?_⟩) (by assumption) ?_
        rotate_left
        · intro w hSw
          try dsimp only at hSw
          go_simp
          with_reducible rfl
        try simp only [Act.put, List.setIfInBounds_toArray, List.set_cons_zero, List.set_cons_succ]
        refine held_take (11) (v := ?_) rfl (by kernel_rfl) (by kernel_rfl) (by kernel_rfl) (fun _ _ _ h => h) (Or.inl ⟨by rfl, ?_⟩) (by assumption) ?_
        rotate_left
        · intro w hSw
          try dsimp only at hSw
          go_simp
          with_reducible rfl
        try simp only [Act.put, List.setIfInBounds_toArray, List.set_cons_zero, List.set_cons_succ]
        refine held_take (13) (v := ?_) rfl (by kernel_rfl) (by kernel_rfl) (by kernel_rfl) (fun _ _ _ h => h) (Or.inl ⟨by rfl, ?_⟩) (by assumption) ?_
        rotate_left
        · intro w hSw
          try dsimp only at hSw
          go_simp
          with_reducible rfl
        try simp only [Act.put, List.setIfInBounds_toArray, List.set_cons_zero, List.set_cons_succ]
        refine wpAnyH_ready (rs := [10]) (by kernel_rfl) (by simp) ?_
        refine held_cons rfl (fun K hK => ?_) AllReadyH.nil
        go_simp
        go_at_call 16
        (with_reducible refine (Lh.out _ hP).mono ?_)
        (first | rintro e v10 rfl hb | rintro e v10 ⟨rfl, hb⟩)
        replace hP := hP.keep hb
        clear hb
        go_wp2_with fail
        refine hK.out _ _ hP.held4 (fun hHeld => ?_)
        clear hK K
        try simp only [Act.put, List.setIfInBounds_toArray, List.set_cons_zero, List.set_cons_succ]
        refine wpAnyH_ready (rs := [12]) (by kernel_rfl) (by simp) ?_
        refine held_cons rfl (fun K hK => ?_) AllReadyH.nil
        go_simp
        go_at_call 16
        (with_reducible refine (La.out _ hP).mono ?_)
        (first | rintro e v12 rfl hb | rintro e v12 ⟨rfl, hb⟩)
        replace hP := hP.keep hb
        clear hb
        go_wp2_with fail
        refine hK.out _ _ hP.held4 (fun hHeld => ?_)
        clear hK K
        try simp only [Act.put, List.setIfInBounds_toArray, List.set_cons_zero, List.set_cons_succ]
        refine wpAnyH_ready (rs := [14]) (by kernel_rfl) (by simp) ?_
        refine held_cons rfl (fun K hK => ?_) AllReadyH.nil
        go_simp
        go_at_call 16
        (with_reducible refine (Lb.out _ hP).mono ?_)
        (first | rintro e v14 rfl hb | rintro e v14 ⟨rfl, hb⟩)
        replace hP := hP.keep hb
        clear hb
        go_wp2_with fail
        refine hK.out _ _ hP.held4 (fun hHeld => ?_)
        clear hK K
        try simp only [Act.put, List.setIfInBounds_toArray, List.set_cons_zero, List.set_cons_succ]
        refine held_take (15) (v := ?_) rfl (by kernel_rfl) (by kernel_rfl) (by kernel_rfl) (fun _ _ _ h => h) (Or.inl ⟨by rfl, ?_⟩) (by assumption) ?_
        rotate_left
        · intro w hSw
          try dsimp only at hSw
          go_simp
          with_reducible rfl
        try simp only [Act.put, List.setIfInBounds_toArray, List.set_cons_zero, List.set_cons_succ]
        refine held_take (16) (v := ?_) rfl (by kernel_rfl) (by kernel_rfl) (by kernel_rfl) (fun _ _ _ h => h) (Or.inl ⟨by rfl, ?_⟩) (by assumption) ?_
        rotate_left
        · intro w hSw
          try dsimp only at hSw
          go_simp
          with_reducible rfl
        try simp only [Act.put, List.setIfInBounds_toArray, List.set_cons_zero, List.set_cons_succ]
        refine held_take (17) (v := ?_) rfl (by kernel_rfl) (by kernel_rfl) (by kernel_rfl) (fun _ _ _ h => h) (Or.inl ⟨by rfl, ?_⟩) (by assumption) ?_
        rotate_left
        · intro w hSw
          try dsimp only at hSw
          go_simp
          with_reducible rfl
        try simp only [Act.put, List.setIfInBounds_toArray, List.set_cons_zero, List.set_cons_succ]
        refine held_take (18) (v := ?_) rfl (by kernel_rfl) (by kernel_rfl) (by kernel_rfl) (fun _ _ _ h => h) (Or.inl ⟨by rfl, ?_⟩) (by assumption) ?_
        rotate_left
        · intro w hSw
          try dsimp only at hSw
          go_simp
          with_reducible rfl
        try simp only [Act.put, List.setIfInBounds_toArray, List.set_cons_zero, List.set_cons_succ]
        refine wpAnyH_ready (rs := [19]) (by kernel_rfl) (by simp) ?_
        refine held_cons rfl (fun K hK => ?_) AllReadyH.nil
        go_simp
        go_at_call 8
        (with_reducible refine (KA.out _).mono ?_)
        (first | rintro e vz rfl hb | rintro e vz ⟨rfl, hb⟩)
        replace hP := hP.keep hb
        clear hb
        go_wp2_with fail
        refine hK.out _ _ hP.held4 (fun hHeld => ?_)
        clear hK K
        try simp only [Act.put, List.setIfInBounds_toArray, List.set_cons_zero, List.set_cons_succ]
        refine held_take (20) (v := ?_) rfl (by kernel_rfl) (by kernel_rfl) (by kernel_rfl) (fun _ _ _ h => h) (Or.inl ⟨by rfl, ?_⟩) (by assumption) ?_
        rotate_left
        · intro w hSw
          try dsimp only at hSw
          go_simp
          with_reducible rfl
        try simp only [Act.put, List.setIfInBounds_toArray, List.set_cons_zero, List.set_cons_succ]
        refine held_take (21) (v := ?_) rfl (by kernel_rfl) (by kernel_rfl) (by kernel_rfl) (fun _ _ _ h => h) (Or.inl ⟨by rfl, ?_⟩) (by assumption) ?_
        rotate_left
        · intro w hSw
          try dsimp only at hSw
          go_simp
          with_reducible rfl
        try simp only [Act.put, List.setIfInBounds_toArray, List.set_cons_zero, List.set_cons_succ]
        refine wpAnyH_done (by kernel_rfl) ?_ _
        clear hHeld
        have HP := Lib.hid hP.k.o.e.below
        clear hP
        go_simp
        go_wp2_with fail
        go_ret
        exact ⟨rfl, HP.out⟩
      · have hil : (i : Int) < (M.length : Int) := by omega
        have hwi : IntKind.i64.wrap ((i : Int) + 1) = (i : Int) + 1 := by rw [IntKind.wrap_i64]; omega
        have t1 := hJ1.out.holds (.inl rfl) HRA.out HRB.out HRJ.out (wi := wiF) hit
        have t2 := hJ2.out.holds (.inr rfl) HRA.out HRB.out HRH.out (wi := wiF) hit
        rw [if_pos rfl] at t1
        rw [if_neg (by decide)] at t2
        have Kx : Hid (∀ V, Ckm W V db p l cap q4 ga ta tc A gb tb td B gc ja jc J gd jb jd H a M → Calls Try.prog 12 #[.agg #[.slice ta A.length tc], .slice a M.length c, .int .i64 (i : Int)] V fun e w' => e = .returned (.bool (termF wiF A 0 M (i : Int))) ∧ Below V.heap.size V w') := Lib.hid (fun V hV => cholds_walk A ta tc M a c (i : Int) V ⟨hV.k.o.ca.r, hV.m⟩ (by have := HAl.out; omega) (by have := HMl.out; omega))
        have Ky : Hid (∀ V, Ckm W V db p l cap q4 ga ta tc A gb tb td B gc ja jc J gd jb jd H a M → Calls Try.prog 12 #[.agg #[.slice tb B.length td], .slice a M.length c, .int .i64 (i : Int)] V fun e w' => e = .returned (.bool (termF wiF B 0 M (i : Int))) ∧ Below V.heap.size V w') := Lib.hid (fun V hV => cholds_walk B tb td M a c (i : Int) V ⟨hV.k.o.cb.r, hV.m⟩ (by have := HBl.out; omega) (by have := HMl.out; omega))
        have Kz : Hid (∀ V, Ckm W V db p l cap q4 ga ta tc A gb tb td B gc ja jc J gd jb jd H a M → Calls Try.prog 12 #[.agg #[.slice ja J.length jc], .slice a M.length c, .int .i64 (i : Int)] V fun e w' => e = .returned (.bool (termF wiF J 0 M (i : Int))) ∧ Below V.heap.size V w') := Lib.hid (fun V hV => cholds_walk J ja jc M a c (i : Int) V ⟨hV.k.cc.r, hV.m⟩ (by have := HL24.out; omega) (by have := HMl.out; omega))
        have Ku : Hid (∀ V, Ckm W V db p l cap q4 ga ta tc A gb tb td B gc ja jc J gd jb jd H a M → Calls Try.prog 12 #[.agg #[.slice jb H.length jd], .slice a M.length c, .int .i64 (i : Int)] V fun e w' => e = .returned (.bool (termF wiF H 0 M (i : Int))) ∧ Below V.heap.size V w') := Lib.hid (fun V hV => cholds_walk H jb jd M a c (i : Int) V ⟨hV.k.cd.r, hV.m⟩ (by have := HL24.out; omega) (by have := HMl.out; omega))
        rw [t1] at Kz
        rw [t2] at Ku
        clear t1 t2
        generalize termF wiF A 0 M (i : Int) = X at *
        generalize termF wiF B 0 M (i : Int) = Y at *
        go_upto_region 12 with (fail)
        refine wp_region_held_drew (S := fun w' => w'.cell? ⟨ga, 0, none⟩ = some (.slice ta A.length tc) ∧ w'.cell? ⟨gb, 0, none⟩ = some (.slice tb B.length td)) (by kernel_rfl) (hP.keep (Below.refl _ _).drew).k.o.held (fun hHeld => ?_)
        simp only [List.size_toArray, List.length_cons, List.length_nil]
        replace hP := hP.keep (Below.refl _ _).drew
        generalize wr.drew = v1 at *
        replace hHeld := id hHeld
        refine held_take (0) (v := ?_) rfl (by kernel_rfl) (by kernel_rfl) (by kernel_rfl) (fun _ _ _ h => h) (Or.inl ⟨by rfl, ?_⟩) (by assumption) ?_
        rotate_left
        · intro w hSw
          try dsimp only at hSw
          go_simp
          with_reducible rfl
        try simp only [Act.put, List.setIfInBounds_toArray, List.set_cons_zero, List.set_cons_succ]
        refine held_take (1) (v := ?_) rfl (by kernel_rfl) (by kernel_rfl) (by kernel_rfl) (fun _ _ _ h => h) (Or.inl ⟨by rfl, ?_⟩) (by assumption) ?_
        rotate_left
        · intro w hSw
          try dsimp only at hSw
          go_simp
          with_reducible rfl
        try simp only [Act.put, List.setIfInBounds_toArray, List.set_cons_zero, List.set_cons_succ]
        refine held_take (2) (v := ?_) rfl (by kernel_rfl) (by kernel_rfl) (by kernel_rfl) (fun _ _ _ h => h) (Or.inl ⟨by rfl, ?_⟩) (by assumption) ?_
        rotate_left
        · intro w hSw
          try dsimp only at hSw
          go_simp
          with_reducible rfl
        try simp only [Act.put, List.setIfInBounds_toArray, List.set_cons_zero, List.set_cons_succ]
        refine held_take (4) (v := ?_) rfl (by kernel_rfl) (by kernel_rfl) (by kernel_rfl) (fun _ _ _ h => h) (Or.inl ⟨by rfl, ?_⟩) (by assumption) ?_
        rotate_left
        · intro w hSw
          try dsimp only at hSw
          go_simp
          with_reducible rfl
        try simp only [Act.put, List.setIfInBounds_toArray, List.set_cons_zero, List.set_cons_succ]
        refine held_take (5) (v := ?_) rfl (by kernel_rfl) (by kernel_rfl) (by kernel_rfl) (fun _ _ _ h => h) (Or.inl ⟨by rfl, ?_⟩) (by assumption) ?_
        rotate_left
        · intro w hSw
          try dsimp only at hSw
          go_simp
          with_reducible rfl
        try simp only [Act.put, List.setIfInBounds_toArray, List.set_cons_zero, List.set_cons_succ]
        refine held_take (6) (v := ?_) rfl (by kernel_rfl) (by kernel_rfl) (by kernel_rfl) (fun _ _ _ h => h) (Or.inl ⟨by rfl, ?_⟩) (by assumption) ?_
        rotate_left
        · intro w hSw
          try dsimp only at hSw
          go_simp
          with_reducible rfl
        try simp only [Act.put, List.setIfInBounds_toArray, List.set_cons_zero, List.set_cons_succ]
        refine wpAnyH_ready (rs := [3]) (by kernel_rfl) (by simp) ?_
        refine held_cons rfl (fun K hK => ?_) AllReadyH.nil
        go_simp
        go_at_call 12
        (with_reducible refine (Kx.out _ hP).mono ?_)
        (first | rintro e v3 rfl hb | rintro e v3 ⟨rfl, hb⟩)
        replace hP := hP.keep hb
        clear hb
        go_wp2_with fail
        refine hK.out _ _ hP.k.o.held (fun hHeld => ?_)
        clear hK K
        try simp only [Act.put, List.setIfInBounds_toArray, List.set_cons_zero, List.set_cons_succ]
        refine wpAnyH_ready (rs := [7]) (by kernel_rfl) (by simp) ?_
        refine held_cons rfl (fun K hK => ?_) AllReadyH.nil
        go_simp
        go_at_call 12
        (with_reducible refine (Ky.out _ hP).mono ?_)
        (first | rintro e v7 rfl hb | rintro e v7 ⟨rfl, hb⟩)
        replace hP := hP.keep hb
        clear hb
        go_wp2_with fail
        refine hK.out _ _ hP.k.o.held (fun hHeld => ?_)
        clear hK K
        try simp only [Act.put, List.setIfInBounds_toArray, List.set_cons_zero, List.set_cons_succ]
        refine held_take (8) (v := ?_) rfl (by kernel_rfl) (by kernel_rfl) (by kernel_rfl) (fun _ _ _ h => h) (Or.inl ⟨by rfl, ?_⟩) (by assumption) ?_
        rotate_left
        · intro w hSw
          try dsimp only at hSw
          go_simp
          with_reducible rfl
        try simp only [Act.put, List.setIfInBounds_toArray, List.set_cons_zero, List.set_cons_succ]
        refine held_take (9) (v := ?_) rfl (by kernel_rfl) (by kernel_rfl) (by kernel_rfl) (fun _ _ _ h => h) (Or.inl ⟨by rfl, ?_⟩) (by assumption) ?_
        rotate_left
        · intro w hSw
          try dsimp only at hSw
          go_simp
          with_reducible rfl
        try simp only [Act.put, List.setIfInBounds_toArray, List.set_cons_zero, List.set_cons_succ]
        refine wpAnyH_done (by kernel_rfl) ?_ _
        clear hHeld
        have HP := Lib.hid hP
        have y1 := hP.k.c.cell 0 rfl
        clear hP Kx Ky
        go_simp
        cases X <;> cases Y
        all_goals
          go_wp2_with (first
            | (go_at_call 12; (with_reducible refine (Kz.out _ HP.out).mono ?_); (first | rintro e w8 rfl hb8 | rintro e w8 ⟨rfl, hb8⟩); have H8 := Lib.hid (HP.out.keep hb8); have y2 := H8.out.k.d.cell 0 rfl; clear hb8)
            | (go_at_call 12; (with_reducible refine (Ku.out _ H8.out).mono ?_); (first | rintro e w9 rfl hb9 | rintro e w9 ⟨rfl, hb9⟩); have H9 := Lib.hid (H8.out.keep hb9); clear hb9))
          go_roundw
          case rel => exact ⟨i + 1, by omega, by go_num, H9.out⟩
          case measure => simp [intOf]; omega
end Go.Proofs.Ytejdaeonknpgeaa
