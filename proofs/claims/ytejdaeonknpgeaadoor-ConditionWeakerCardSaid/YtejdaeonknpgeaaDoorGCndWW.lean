/- The law ConditionWeaker walked. -/
import Derived.Test.YtejdaeonknpgeaaDoorGCndW
import Derived.Test.YtejdaeonknpgeaaDoorGCndOe
import Derived.Test.YtejdaeonknpgeaaDoorGCndRH
import Derived.Test.YtejdaeonknpgeaaDoorGCndU
import Derived.Test.YtejdaeonknpgeaaDoorGCndVW
namespace Go.Proofs.YtejdaeonknpgeaaDoor
open Go.RowKit
/-- what stands behind the dice: two conditions -/
structure Cw (W w : World) (db : Nat) (p : Option Addr) (l : List Int) (cap q ga : Nat) (ta : Option Addr) (tc : Nat) (A : List Trm) (gb : Nat) (tb : Option Addr) (td : Nat) (B : List Trm) : Prop where
  e : Env W w db p l cap q
  a : Bx w ga 29 [.slice ta A.length tc]
  b : Bx w gb 29 [.slice tb B.length td]
  ca : Ce w db ta tc A
  cb : Ce w db tb td B
  ga0 : db < ga
  gb0 : db < gb
  wd : W.heap.size ≤ db
  rp : Rd W p (ints l)
theorem Cw.keep {W w w' : World} {db : Nat} {p : Option Addr} {l : List Int} {cap q ga : Nat} {ta : Option Addr} {tc : Nat} {A : List Trm} {gb : Nat} {tb : Option Addr} {td : Nat} {B : List Trm} (h : Cw W w db p l cap q ga ta tc A gb tb td B) (hb : Below w.heap.size w w') : Cw W w' db p l cap q ga ta tc A gb tb td B :=
  ⟨h.e.keep hb, h.a.keep hb, h.b.keep hb, h.ca.keep hb, h.cb.keep hb, h.ga0, h.gb0, h.wd, h.rp⟩
theorem Cw.held {W w : World} {db : Nat} {p : Option Addr} {l : List Int} {cap q ga : Nat} {ta : Option Addr} {tc : Nat} {A : List Trm} {gb : Nat} {tb : Option Addr} {td : Nat} {B : List Trm} (h : Cw W w db p l cap q ga ta tc A gb tb td B) : w.cell? ⟨ga, 0, none⟩ = some (.slice ta A.length tc) ∧ w.cell? ⟨gb, 0, none⟩ = some (.slice tb B.length td) := ⟨h.a.cell 0 rfl, h.b.cell 0 rfl⟩
/-- a condition whose rows lie behind the dice -/
structure Je (w : World) (db : Nat) (ja : Option Addr) (jc : Nat) (J : List Trm) : Prop where
  n : Cn w ja jc J
  r : ∀ j, rowOf ja = some j → db < j
  t : ∀ t ∈ J, ∀ j, rowOf t.aa = some j → db < j
theorem Je.keep {w w' : World} {db : Nat} {ja : Option Addr} {jc : Nat} {J : List Trm} (h : Je w db ja jc J) (hb : Below w.heap.size w w') : Je w' db ja jc J := ⟨h.n.keep hb, h.r, h.t⟩
theorem Je.kp {w w' : World} {db : Nat} {ja : Option Addr} {jc : Nat} {J : List Trm} (h : Je w db ja jc J) (hk : Kp (fun j => j = db) w w') : Cn w' ja jc J :=
  ⟨h.n.r.kp hk (fun j hj e => by have := h.r j hj; have e' : j = db := e; omega) (fun t ht j hj e => by have := h.t t ht j hj; have e' : j = db := e; omega), h.n.c, h.n.l⟩
theorem Ce.je {w : World} {db : Nat} {ta : Option Addr} {tc : Nat} {X : List Trm} (h : Ce w db ta tc X) (hl : X.length ≤ 1000) : Je w db ta tc X := ⟨⟨h.d.r, h.c, hl⟩, h.d.a, h.d.t⟩
theorem Joined.je {kind : Int} {A B J : List Trm} {w w' : World} {db : Nat} {ja : Option Addr} {jc : Nat} (hj : Joined kind A B J) (hl : A.length ≤ 400 ∧ B.length ≤ 400) (hd : db < w.heap.size) (r : RdT w' ja J) (s1 : ∀ j, rowOf ja = some j → w.heap.size ≤ j ∧ j < w'.heap.size) (s2 : ∀ t ∈ J, ∀ j, rowOf t.aa = some j → w.heap.size ≤ j ∧ j < w'.heap.size) (hc : J.length ≤ jc) : Je w' db ja jc J :=
  ⟨⟨r, hc, by have := hj.len; omega⟩, fun j h => by have := s1 j h; omega, fun t ht j h => by have := s2 t ht j h; omega⟩
abbrev Cnd := Option Addr × Nat × List Trm
def slV (e : Cnd) : Value := .slice e.1 e.2.2.length e.2.1
/-- behind the last throw of the dice -/
structure Sw (W w : World) (ga : Nat) (ta : Option Addr) (tc : Nat) (A : List Trm) (gb : Nat) (tb : Option Addr) (td : Nat) (B : List Trm) (gx : Nat) (xs : List Cnd) : Prop where
  w0 : Below W.heap.size W w
  a : Bx w ga 29 [.slice ta A.length tc]
  b : Bx w gb 29 [.slice tb B.length td]
  ca : Cn w ta tc A
  cb : Cn w tb td B
  x : Bx w gx 29 (xs.map slV)
  cx : ∀ e ∈ xs, Cn w e.1 e.2.1 e.2.2
theorem Sw.keep {W w w' : World} {ga : Nat} {ta : Option Addr} {tc : Nat} {A : List Trm} {gb : Nat} {tb : Option Addr} {td : Nat} {B : List Trm} {gx : Nat} {xs : List Cnd} (h : Sw W w ga ta tc A gb tb td B gx xs) (hb : Below w.heap.size w w') : Sw W w' ga ta tc A gb tb td B gx xs :=
  ⟨h.w0.trans (hb.mono h.w0.size), h.a.keep hb, h.b.keep hb, h.ca.keep hb, h.cb.keep hb, h.x.keep hb, fun e he => (h.cx e he).keep hb⟩
theorem Sw.held {W w : World} {ga : Nat} {ta : Option Addr} {tc : Nat} {A : List Trm} {gb : Nat} {tb : Option Addr} {td : Nat} {B : List Trm} {gx : Nat} {xs : List Cnd} (h : Sw W w ga ta tc A gb tb td B gx xs) : w.cell? ⟨ga, 0, none⟩ = some (.slice ta A.length tc) ∧ w.cell? ⟨gb, 0, none⟩ = some (.slice tb B.length td) := ⟨h.a.cell 0 rfl, h.b.cell 0 rfl⟩
theorem Sw.at' {W w : World} {ga : Nat} {ta : Option Addr} {tc : Nat} {A : List Trm} {gb : Nat} {tb : Option Addr} {td : Nat} {B : List Trm} {gx : Nat} {xs : List Cnd} (h : Sw W w ga ta tc A gb tb td B gx xs) {i : Nat} {xa : Option Addr} {xc : Nat} {X : List Trm} (hx : xs[i]? = some (xa, xc, X)) : w.cell? ⟨gx, i, none⟩ = some (.slice xa X.length xc) ∧ Cn w xa xc X :=
  ⟨h.x.cell i (by rw [List.getElem?_map, hx]; rfl), h.cx _ (List.mem_of_getElem? hx)⟩
/-- with the second list, and the first one's element -/
structure Tw (W w : World) (ga : Nat) (ta : Option Addr) (tc : Nat) (A : List Trm) (gb : Nat) (tb : Option Addr) (td : Nat) (B : List Trm) (gx : Nat) (xs : List Cnd) (g7 : Nat) (xa : Option Addr) (xc : Nat) (X : List Trm) (gy : Nat) (ys : List Cnd) : Prop where
  s : Sw W w ga ta tc A gb tb td B gx xs
  c : Bx w g7 29 [.slice xa X.length xc]
  n : Cn w xa xc X
  y : Bx w gy 29 (ys.map slV)
  cy : ∀ e ∈ ys, Cn w e.1 e.2.1 e.2.2
section
variable {W w w' : World} {ga : Nat} {ta : Option Addr} {tc : Nat} {A : List Trm} {gb : Nat} {tb : Option Addr} {td : Nat} {B : List Trm} {gx : Nat} {xs : List Cnd} {g7 : Nat} {xa : Option Addr} {xc : Nat} {X : List Trm} {gy : Nat} {ys : List Cnd}
theorem Tw.keep (h : Tw W w ga ta tc A gb tb td B gx xs g7 xa xc X gy ys) (hb : Below w.heap.size w w') : Tw W w' ga ta tc A gb tb td B gx xs g7 xa xc X gy ys :=
  ⟨h.s.keep hb, h.c.keep hb, h.n.keep hb, h.y.keep hb, fun e he => (h.cy e he).keep hb⟩
theorem Tw.at' (h : Tw W w ga ta tc A gb tb td B gx xs g7 xa xc X gy ys) {i : Nat} {ya : Option Addr} {yc : Nat} {Y : List Trm} (hy : ys[i]? = some (ya, yc, Y)) : w.cell? ⟨gy, i, none⟩ = some (.slice ya Y.length yc) ∧ Cn w ya yc Y :=
  ⟨h.y.cell i (by rw [List.getElem?_map, hy]; rfl), h.cy _ (List.mem_of_getElem? hy)⟩
end
theorem alloc2w (w : World) (c1 c2 : List Value) (t1 t2 : TypeId) : Bx ((w.alloc (.cells c1.toArray t1)).alloc (.cells c2.toArray t2)) w.heap.size t1 c1 ∧ Bx ((w.alloc (.cells c1.toArray t1)).alloc (.cells c2.toArray t2)) (w.heap.size + 1) t2 c2 ∧ Below w.heap.size w ((w.alloc (.cells c1.toArray t1)).alloc (.cells c2.toArray t2)) := by
  have h2 := Bx.new (w.alloc (.cells c1.toArray t1)) t2 c2
  have hz : (w.alloc (.cells c1.toArray t1)).heap.size = w.heap.size + 1 := by simp
  rw [hz] at h2
  have b1 := (Below.refl w.heap.size w).alloc (Nat.le_refl _) (.cells c1.toArray t1)
  exact ⟨(Bx.new w t1 c1).alloc _, h2, b1.alloc b1.size _⟩
theorem right_small' {A : List Trm} (h : rightC A = true) : Small A := by
  obtain ⟨h24, -, hs⟩ := right_all h
  refine ⟨h24, fun t ht => ?_⟩
  obtain ⟨j, hj⟩ := List.mem_iff_getElem?.1 ht
  refine ⟨Nat.le_trans (right_len h j t hj) h24, fun a ha => ?_⟩
  obtain ⟨t', ht', -, hb⟩ := hs j (Nat.zero_le _) (List.getElem?_eq_some_iff.1 hj).1
  rw [hj] at ht'
  obtain rfl := Option.some.inj ht'
  have := hb a ha
  omega
set_option maxRecDepth 100000 in
set_option maxHeartbeats 8000000 in
theorem weaker17_walk (W : World) (p : Option Addr) (l : List Int) (cap : Nat) (hR : Rd W p (ints l)) (hS : Spc W) (hl : l.length ≤ 17592186043904) :
    Calls Tryd.prog 3 #[.slice p l.length cap] W fun e w' => e = .returned (.bool true) ∧ Below W.heap.size W w' := by
  have HS := Lib.hid hS
  clear hS
  have KA := Lib.hid (fun V => awake17 V)
  go_enter Tryd.func3, Tryd.ntmps3
  go_wp2_with (go_at_call 4; (with_reducible refine (light_walk _ _ _ _ (by omega)).mono ?_))
  (first | rintro e w1 rfl rfl | rintro e w1 ⟨rfl, rfl⟩)
  by_cases hq : l.length ≤ 500
  rotate_left
  · have hd5 : decide (l.length ≤ 500) = false := decide_eq_false hq
    clear hq
    go_wp2_with (go_at_call 5; (with_reducible refine (KA.out _).mono ?_))
    (first | rintro e w1 rfl hb1 | rintro e w1 ⟨rfl, hb1⟩)
    go_wp2
    go_ret
    exact ⟨rfl, hb1⟩
  have hd5 : decide (l.length ≤ 500) = true := decide_eq_true hq
  have HR := Lib.hid hR
  have hl48 : l.length ≤ 281474976710656 := by omega
  obtain ⟨db, hdb⟩ : ∃ db, db = W.heap.size := ⟨_, rfl⟩
  have HDB := Lib.hid hdb
  go_wp2_with (go_at_call 6; (with_reducible refine (roll_walk _ _ _ _).mono ?_))
  (first | rintro e w1 rfl hD hb1 | rintro e w1 ⟨rfl, hD, hb1⟩)
  rw [← HDB.out] at hD ⊢
  have hE : Env W w1 db p l cap 0 := ⟨hD, hR.keep hb1, hb1⟩
  clear hdb hR hD hb1 hq hl hd5
  have hWd : W.heap.size ≤ db := by rw [HDB.out]; exact Nat.le_refl _
  have KC : Hid (Calls Tryd.prog 7 #[.pointer (some ⟨db, 0, none⟩), .int .i64 3] w1 _) := Lib.hid (kcond_walk2 W db p l cap 0 3 w1 hl48 (by omega) (by omega) hE hWd HR.out)
  go_upto_region 5 with (first
    | (go_at_call 7; (with_reducible refine KC.out.mono ?_); (first | rintro e w2 ⟨A, ta, tc, q2, rfl, hGA, hAl, hE2, hCA, -⟩ | rintro e w2 A ta tc q2 rfl hGA hAl hE2 hCA -); clear KC; have KD : Hid (Calls Tryd.prog 7 #[.pointer (some ⟨db, 0, none⟩), .int .i64 2] w2 _) := Lib.hid (kcond_walk2 W db p l cap q2 2 w2 hl48 (by omega) (by omega) hE2 hWd HR.out))
    | (go_at_call 7; (with_reducible refine KD.out.mono ?_); (first | rintro e w3 ⟨B, tb, td, q3, rfl, hGB, hBl, hE3, hCB, hk3⟩ | rintro e w3 B tb td q3 rfl hGB hBl hE3 hCB hk3)))
  obtain ⟨z1, z2, zb⟩ := alloc2w w3 [.slice ta A.length tc] [.slice tb B.length td] 29 29
  have hd3 := hE3.dice.lt
  have hCw : Cw W ((w3.alloc (.cells [.slice ta A.length tc].toArray 29)).alloc (.cells [.slice tb B.length td].toArray 29)) db p l cap q3 w3.heap.size ta tc A (w3.heap.size + 1) tb td B :=
    ⟨hE3.keep zb, z1, z2, (⟨⟨hCA.d.r.kp hk3 (fun j hj e => by have := hCA.d.a j hj; have e' : j = db := e; omega) (fun t ht j hj e => by have := hCA.d.t t ht j hj; have e' : j = db := e; omega), hCA.d.a, hCA.d.t⟩, fun t ht j hj => Nat.lt_of_lt_of_le (hCA.lt t ht j hj) hk3.size, hCA.c⟩ : Ce w3 db ta tc A).keep zb, hCB.keep zb, by omega, by omega, hWd, HR.out⟩
  change Cw W ((w3.alloc (.cells #[.slice ta A.length tc] 29)).alloc (.cells #[.slice tb B.length td] 29)) _ _ _ _ _ _ _ _ _ _ _ _ _ at hCw
  generalize (w3.alloc (.cells #[.slice ta A.length tc] 29)).alloc (.cells #[.slice tb B.length td] 29) = w4 at *
  generalize w3.heap.size + 1 = gb at *
  generalize w3.heap.size = ga at *
  have hz3 : szK 3 ≤ 13 := by decide
  have hz2 : szK 2 ≤ 4 := by decide
  have hRA := grows_right (hGA.mono (show 3 ≤ 6 by omega)) (by omega)
  have hRB := grows_right (hGB.mono (show 2 ≤ 6 by omega)) (by omega)
  have HSA := Lib.hid (right_small' hRA)
  have HSB := Lib.hid (right_small' hRB)
  have HAl := Lib.hid (show 1 ≤ A.length ∧ A.length ≤ 13 by omega)
  have HBl := Lib.hid (show B.length ≤ 4 by omega)
  have KJ1 : Hid (∀ (kind : Int), 0 ≤ kind ∧ kind ≤ 1000 → ∀ V, RdT V ta A → RdT V tb B → Calls Tryd.prog 8 #[.int .i64 kind, .agg #[.slice ta A.length tc], .agg #[.slice tb B.length td]] V (JoinRes2 kind A B V)) :=
    Lib.hid (fun kind hk V h1 h2 => joined_walk2 kind A B ta tb tc td V hk HSA.out HSB.out h1 h2)
  have KJ2 : Hid (∀ (kind : Int), 0 ≤ kind ∧ kind ≤ 1000 → ∀ V, RdT V tb B → RdT V ta A → Calls Tryd.prog 8 #[.int .i64 kind, .agg #[.slice tb B.length td], .agg #[.slice ta A.length tc]] V (JoinRes2 kind B A V)) :=
    Lib.hid (fun kind hk V h1 h2 => joined_walk2 kind B A tb ta td tc V hk HSB.out HSA.out h1 h2)
  clear z1 z2 zb hd3 hE2 hCA hE3 hCB hk3 KD hGA hGB hAl hBl hRA hRB hz3 hz2
  refine wp_region_held_drew (S := fun w' => w'.cell? ⟨ga, 0, none⟩ = some (.slice ta A.length tc) ∧ w'.cell? ⟨gb, 0, none⟩ = some (.slice tb B.length td)) (by kernel_rfl) (hCw.keep (Below.refl _ _).drew).held (fun hHeld => ?_)
  simp only [List.size_toArray, List.length_cons, List.length_nil]
  have hC := hCw.keep (Below.refl _ _).drew
  clear hCw
  generalize w4.drew = v0 at *
  replace hHeld := id hHeld
  refine held_take (0) (v := ?_) rfl (by kernel_rfl) (by kernel_rfl) (by kernel_rfl) (fun _ _ _ h => h) (Or.inl ⟨by rfl, ?_⟩) (by assumption) ?_
  rotate_left
  · intro w hSw
    try dsimp only at hSw
    go_simp
    with_reducible rfl
  try simp only [Act.put, List.setIfInBounds_toArray, List.set_cons_zero, List.set_cons_succ]
  refine held_take (1) (v := ?_) rfl (by kernel_rfl) (by kernel_rfl) (by kernel_rfl) (fun _ _ _ h => h) (Or.inl ⟨by rfl, ?_⟩) (by assumption) ?_
  rotate_left
  · intro w hSw
    try dsimp only at hSw
    go_simp
    with_reducible rfl
  try simp only [Act.put, List.setIfInBounds_toArray, List.set_cons_zero, List.set_cons_succ]
  refine held_take (2) (v := ?_) rfl (by kernel_rfl) (by kernel_rfl) (by kernel_rfl) (fun _ _ _ h => h) (Or.inl ⟨by rfl, ?_⟩) (by assumption) ?_
  rotate_left
  · intro w hSw
    try dsimp only at hSw
    go_simp
    with_reducible rfl
  try simp only [Act.put, List.setIfInBounds_toArray, List.set_cons_zero, List.set_cons_succ]
  refine held_take (3) (v := ?_) rfl (by kernel_rfl) (by kernel_rfl) (by kernel_rfl) (fun _ _ _ h => h) (Or.inl ⟨by rfl, ?_⟩) (by assumption) ?_
  rotate_left
  · intro w hSw
    try dsimp only at hSw
    go_simp
    with_reducible rfl
  try simp only [Act.put, List.setIfInBounds_toArray, List.set_cons_zero, List.set_cons_succ]
  refine held_take (5) (v := ?_) rfl (by kernel_rfl) (by kernel_rfl) (by kernel_rfl) (fun _ _ _ h => h) (Or.inl ⟨by rfl, ?_⟩) (by assumption) ?_
  rotate_left
  · intro w hSw
    try dsimp only at hSw
    go_simp
    with_reducible rfl
  try simp only [Act.put, List.setIfInBounds_toArray, List.set_cons_zero, List.set_cons_succ]
  refine held_take (6) (v := ?_) rfl (by kernel_rfl) (by kernel_rfl) (by kernel_rfl) (fun _ _ _ h => h) (Or.inl ⟨by rfl, ?_⟩) (by assumption) ?_
  rotate_left
  · intro w hSw
    try dsimp only at hSw
    go_simp
    with_reducible rfl
  try simp only [Act.put, List.setIfInBounds_toArray, List.set_cons_zero, List.set_cons_succ]
  refine held_take (8) (v := ?_) rfl (by kernel_rfl) (by kernel_rfl) (by kernel_rfl) (fun _ _ _ h => h) (Or.inl ⟨by rfl, ?_⟩) (by assumption) ?_
  rotate_left
  · intro w hSw
    try dsimp only at hSw
    go_simp
    with_reducible rfl
  try simp only [Act.put, List.setIfInBounds_toArray, List.set_cons_zero, List.set_cons_succ]
  refine held_take (9) (v := ?_) rfl (by kernel_rfl) (by kernel_rfl) (by kernel_rfl) (fun _ _ _ h => h) (Or.inl ⟨by rfl, ?_⟩) (by assumption) ?_
  rotate_left
  · intro w hSw
    try dsimp only at hSw
    go_simp
    with_reducible rfl
  try simp only [Act.put, List.setIfInBounds_toArray, List.set_cons_zero, List.set_cons_succ]
  refine held_take (13) (v := ?_) rfl (by kernel_rfl) (by kernel_rfl) (by kernel_rfl) (fun _ _ _ h => h) (Or.inl ⟨by rfl, ?_⟩) (by assumption) ?_
  rotate_left
  · intro w hSw
    try dsimp only at hSw
    go_simp
    with_reducible rfl
  try simp only [Act.put, List.setIfInBounds_toArray, List.set_cons_zero, List.set_cons_succ]
  refine wpAnyH_ready (rs := [4]) (by kernel_rfl) (by simp) ?_
  refine held_cons rfl (fun K hK => ?_) AllReadyH.nil
  go_simp
  go_at_call 8
  (with_reducible refine (KJ1.out 2 ⟨by decide, by decide⟩ _ hC.ca.d.r hC.cb.d.r).mono ?_)
  (first | rintro e v1 ⟨J1, ja1, jc1, rfl, hj, r, s1, s2, hb, hjc⟩ | rintro e v1 J1 ja1 jc1 rfl hj r s1 s2 hb hjc)
  have h1 : Je v1 db ja1 jc1 J1 := hj.je (by have := HAl.out; have := HBl.out; omega) hC.e.dice.lt r s1 s2 hjc
  replace hC := hC.keep hb
  clear hj r s1 s2 hjc hb
  go_wp2_with fail
  refine hK.out _ _ hC.held (fun hHeld => ?_)
  clear hK K
  try simp only [Act.put, List.setIfInBounds_toArray, List.set_cons_zero, List.set_cons_succ]
  refine wpAnyH_ready (rs := [7]) (by kernel_rfl) (by simp) ?_
  refine held_cons rfl (fun K hK => ?_) AllReadyH.nil
  go_simp
  go_at_call 8
  (with_reducible refine (KJ2.out 1 ⟨by decide, by decide⟩ _ hC.cb.d.r hC.ca.d.r).mono ?_)
  (first | rintro e v2 ⟨J2, ja2, jc2, rfl, hj, r, s1, s2, hb, hjc⟩ | rintro e v2 J2 ja2 jc2 rfl hj r s1 s2 hb hjc)
  have h2 : Je v2 db ja2 jc2 J2 := hj.je (by have := HAl.out; have := HBl.out; omega) hC.e.dice.lt r s1 s2 hjc
  replace hC := hC.keep hb
  replace h1 := h1.keep hb
  have KO := Lib.hid (odd_walk W db p l cap q3 A ta tc v2 hl48 hC.e hWd HR.out hC.ca (by have := HAl.out; omega) (by have := HAl.out; omega) (fun t ht => by have := (HSA.out.2 t ht).1; omega))
  clear hj r s1 s2 hjc hb
  go_wp2_with fail
  refine hK.out _ _ hC.held (fun hHeld => ?_)
  clear hK K
  try simp only [Act.put, List.setIfInBounds_toArray, List.set_cons_zero, List.set_cons_succ]
  refine wpAnyH_ready (rs := [10]) (by kernel_rfl) (by simp) ?_
  refine held_cons rfl (fun K hK => ?_) AllReadyH.nil
  go_simp
  go_at_call 9
  (with_reducible refine KO.out.mono ?_)
  (first | rintro e v3 ⟨Od, oa, oc, q4, rfl, hO, -, hE4, hk⟩ | rintro e v3 Od oa oc q4 rfl hO - hE4 hk)
  have hga := hC.ga0
  have hgb := hC.gb0
  have n1 := h1.kp hk
  have n2 := h2.kp hk
  have na := (hC.ca.je (by have := HAl.out; omega)).kp hk
  have nb := (hC.cb.je (by have := HBl.out; omega)).kp hk
  have xa := hC.a.kp hk (fun e => by have e' : ga = db := e; omega)
  have xb := hC.b.kp hk (fun e => by have e' : gb = db := e; omega)
  have hw0 := hE4.below
  clear h1 h2 hC hE4 hk KO hga hgb
  go_wp2_with fail
  refine hK.out _ _ ⟨xa.cell 0 rfl, xb.cell 0 rfl⟩ (fun hHeld => ?_)
  clear hK K
  try simp only [Act.put, List.setIfInBounds_toArray, List.set_cons_zero, List.set_cons_succ]
  refine wpAnyH_ready (rs := [11]) (by kernel_rfl) (by simp) ?_
  refine held_cons rfl (fun K hK => ?_) AllReadyH.nil
  go_simp
  have hba := (Below.refl v3.heap.size v3).alloc (Nat.le_refl _) (.cells #[.slice ta A.length tc, .slice tb B.length td, .slice ja1 J1.length jc1, .slice ja2 J2.length jc2, .slice oa Od.length oc] 29)
  have zx := Bx.new v3 29 [.slice ta A.length tc, .slice tb B.length td, .slice ja1 J1.length jc1, .slice ja2 J2.length jc2, .slice oa Od.length oc]
  change Bx (v3.alloc (.cells #[.slice ta A.length tc, .slice tb B.length td, .slice ja1 J1.length jc1, .slice ja2 J2.length jc2, .slice oa Od.length oc] 29)) _ _ _ at zx
  obtain ⟨xs, hxs⟩ : ∃ xs : List Cnd, xs = [(ta, tc, A), (tb, td, B), (ja1, jc1, J1), (ja2, jc2, J2), (oa, oc, Od)] := ⟨_, rfl⟩
  have hS : Sw W (v3.alloc (.cells #[.slice ta A.length tc, .slice tb B.length td, .slice ja1 J1.length jc1, .slice ja2 J2.length jc2, .slice oa Od.length oc] 29)) ga ta tc A gb tb td B v3.heap.size xs := by
    refine ⟨hw0.trans (hba.mono hw0.size), xa.keep hba, xb.keep hba, na.keep hba, nb.keep hba, by rw [hxs]; exact zx, fun e he => ?_⟩
    rw [hxs] at he
    simp only [List.mem_cons, List.not_mem_nil, or_false] at he
    rcases he with rfl | rfl | rfl | rfl | rfl
    · exact na.keep hba
    · exact nb.keep hba
    · exact n1.keep hba
    · exact n2.keep hba
    · exact hO.keep hba
  have hx5 : xs.length = 5 := by rw [hxs]; rfl
  clear hba zx xa xb na nb n1 n2 hO hxs
  generalize v3.alloc (.cells #[.slice ta A.length tc, .slice tb B.length td, .slice ja1 J1.length jc1, .slice ja2 J2.length jc2, .slice oa Od.length oc] 29) = v4 at *
  generalize v3.heap.size = gx at *
  refine hK.out _ _ hS.held (fun hHeld => ?_)
  clear hK K
  try simp only [Act.put, List.setIfInBounds_toArray, List.set_cons_zero, List.set_cons_succ]
  refine held_take (12) (v := ?_) rfl (by kernel_rfl) (by kernel_rfl) (by kernel_rfl) (fun _ _ _ h => h) (Or.inl ⟨by rfl, ?_⟩) (by assumption) ?_
  rotate_left
  · intro w hSw
    try dsimp only at hSw
    go_simp
    with_reducible rfl
  try simp only [Act.put, List.setIfInBounds_toArray, List.set_cons_zero, List.set_cons_succ]
  refine wpAnyH_done (by kernel_rfl) ?_ _
  clear hHeld hw0
  go_simp
  go_wp2_with fail
  have HX5 := Lib.hid hx5
  clear hx5
  go_loopw [33] (fun iv wr => ∃ i : Nat, i ≤ 5 ∧ iv = .int .i64 (i : Int) ∧ Sw W wr ga ta tc A gb tb td B gx xs) (fun iv _ => 5 - (intOf iv).toNat)
  case atStart => exact ⟨0, Nat.zero_le _, rfl, hS⟩
  case round =>
    clear hS
    obtain ⟨i, hi, rfl, hS⟩ := hrel
    by_cases hit : i < 5
    rotate_left
    · have hil : ¬ (i : Int) < 5 := by omega
      have HSw := Lib.hid hS.w0
      clear hS
      go_wp2_with (go_at_call 5; (with_reducible refine (KA.out _).mono ?_); (first | rintro e w8 rfl hb8 | rintro e w8 ⟨rfl, hb8⟩))
      go_ret
      exact ⟨rfl, below_tr HSw.out hb8⟩
    have hil : (i : Int) < 5 := by omega
    obtain ⟨⟨xa, xc, X⟩, hx⟩ : ∃ e, xs[i]? = some e := ⟨_, List.getElem?_eq_getElem (by have := HX5.out; omega)⟩
    obtain ⟨cx, hX⟩ := hS.at' hx
    have hb7 := (Below.refl wr.heap.size wr).alloc (Nat.le_refl _) (.cells #[.slice xa X.length xc] 29)
    have z7 := Bx.new wr 29 [.slice xa X.length xc]
    change Bx (wr.alloc (.cells #[.slice xa X.length xc] 29)) _ _ _ at z7
    have hS7 := hS.keep hb7
    have hX7 := hX.keep hb7
    clear hS hX hb7 hx
    go_upto_region 8 with (fail)
    clear cx
    generalize wr.alloc (.cells #[.slice xa X.length xc] 29) = w5 at *
    generalize wr.heap.size = g7 at *
    refine wp_region_held_drew (S := fun w' => w'.cell? ⟨ga, 0, none⟩ = some (.slice ta A.length tc) ∧ w'.cell? ⟨gb, 0, none⟩ = some (.slice tb B.length td)) (by kernel_rfl) (hS7.keep (Below.refl _ _).drew).held (fun hHeld => ?_)
    simp only [List.size_toArray, List.length_cons, List.length_nil]
    have hS := hS7.keep (Below.refl _ _).drew
    have hX := hX7.keep (Below.refl _ _).drew
    replace z7 := z7.keep (Below.refl _ _).drew
    clear hS7 hX7
    generalize w5.drew = u0 at *
    replace hHeld := id hHeld
    refine held_take (0) (v := ?_) rfl (by kernel_rfl) (by kernel_rfl) (by kernel_rfl) (fun _ _ _ h => h) (Or.inl ⟨by rfl, ?_⟩) (by assumption) ?_
    rotate_left
    · intro w hSw
      try dsimp only at hSw
      go_simp
      with_reducible rfl
    try simp only [Act.put, List.setIfInBounds_toArray, List.set_cons_zero, List.set_cons_succ]
    refine held_take (1) (v := ?_) rfl (by kernel_rfl) (by kernel_rfl) (by kernel_rfl) (fun _ _ _ h => h) (Or.inl ⟨by rfl, ?_⟩) (by assumption) ?_
    rotate_left
    · intro w hSw
      try dsimp only at hSw
      go_simp
      with_reducible rfl
    try simp only [Act.put, List.setIfInBounds_toArray, List.set_cons_zero, List.set_cons_succ]
    refine held_take (2) (v := ?_) rfl (by kernel_rfl) (by kernel_rfl) (by kernel_rfl) (fun _ _ _ h => h) (Or.inl ⟨by rfl, ?_⟩) (by assumption) ?_
    rotate_left
    · intro w hSw
      try dsimp only at hSw
      go_simp
      with_reducible rfl
    try simp only [Act.put, List.setIfInBounds_toArray, List.set_cons_zero, List.set_cons_succ]
    refine held_take (3) (v := ?_) rfl (by kernel_rfl) (by kernel_rfl) (by kernel_rfl) (fun _ _ _ h => h) (Or.inl ⟨by rfl, ?_⟩) (by assumption) ?_
    rotate_left
    · intro w hSw
      try dsimp only at hSw
      go_simp
      with_reducible rfl
    try simp only [Act.put, List.setIfInBounds_toArray, List.set_cons_zero, List.set_cons_succ]
    refine held_take (5) (v := ?_) rfl (by kernel_rfl) (by kernel_rfl) (by kernel_rfl) (fun _ _ _ h => h) (Or.inl ⟨by rfl, ?_⟩) (by assumption) ?_
    rotate_left
    · intro w hSw
      try dsimp only at hSw
      go_simp
      with_reducible rfl
    try simp only [Act.put, List.setIfInBounds_toArray, List.set_cons_zero, List.set_cons_succ]
    refine held_take (6) (v := ?_) rfl (by kernel_rfl) (by kernel_rfl) (by kernel_rfl) (fun _ _ _ h => h) (Or.inl ⟨by rfl, ?_⟩) (by assumption) ?_
    rotate_left
    · intro w hSw
      try dsimp only at hSw
      go_simp
      with_reducible rfl
    try simp only [Act.put, List.setIfInBounds_toArray, List.set_cons_zero, List.set_cons_succ]
    refine held_take (10) (v := ?_) rfl (by kernel_rfl) (by kernel_rfl) (by kernel_rfl) (fun _ _ _ h => h) (Or.inl ⟨by rfl, ?_⟩) (by assumption) ?_
    rotate_left
    · intro w hSw
      try dsimp only at hSw
      go_simp
      with_reducible rfl
    try simp only [Act.put, List.setIfInBounds_toArray, List.set_cons_zero, List.set_cons_succ]
    refine wpAnyH_ready (rs := [4]) (by kernel_rfl) (by simp) ?_
    refine held_cons rfl (fun K hK => ?_) AllReadyH.nil
    go_simp
    go_at_call 8
    (with_reducible refine (KJ2.out 2 ⟨by decide, by decide⟩ _ hS.cb.r hS.ca.r).mono ?_)
    (first | rintro e u1 ⟨J1, ja1, jc1, rfl, hj, r, s1, s2, hb, hjc⟩ | rintro e u1 J1 ja1 jc1 rfl hj r s1 s2 hb hjc)
    have h1 : Cn u1 ja1 jc1 J1 := ⟨r, hjc, by have := hj.len; have := HAl.out; have := HBl.out; omega⟩
    replace hS := hS.keep hb
    replace z7 := z7.keep hb
    replace hX := hX.keep hb
    clear hj r s1 s2 hjc hb
    go_wp2_with fail
    refine hK.out _ _ hS.held (fun hHeld => ?_)
    clear hK K
    try simp only [Act.put, List.setIfInBounds_toArray, List.set_cons_zero, List.set_cons_succ]
    refine wpAnyH_ready (rs := [7]) (by kernel_rfl) (by simp) ?_
    refine held_cons rfl (fun K hK => ?_) AllReadyH.nil
    go_simp
    go_at_call 8
    (with_reducible refine (KJ1.out 1 ⟨by decide, by decide⟩ _ hS.ca.r hS.cb.r).mono ?_)
    (first | rintro e u2 ⟨J2, ja2, jc2, rfl, hj, r, s1, s2, hb, hjc⟩ | rintro e u2 J2 ja2 jc2 rfl hj r s1 s2 hb hjc)
    have h2 : Cn u2 ja2 jc2 J2 := ⟨r, hjc, by have := hj.len; have := HAl.out; have := HBl.out; omega⟩
    replace h1 := h1.keep hb
    replace hS := hS.keep hb
    replace z7 := z7.keep hb
    replace hX := hX.keep hb
    clear hj r s1 s2 hjc hb
    go_wp2_with fail
    refine hK.out _ _ hS.held (fun hHeld => ?_)
    clear hK K
    try simp only [Act.put, List.setIfInBounds_toArray, List.set_cons_zero, List.set_cons_succ]
    refine wpAnyH_ready (rs := [8]) (by kernel_rfl) (by simp) ?_
    refine held_cons rfl (fun K hK => ?_) AllReadyH.nil
    go_simp
    have hba := (Below.refl u2.heap.size u2).alloc (Nat.le_refl _) (.cells #[.slice ta A.length tc, .slice tb B.length td, .slice ja1 J1.length jc1, .slice ja2 J2.length jc2] 29)
    have zx := Bx.new u2 29 [.slice ta A.length tc, .slice tb B.length td, .slice ja1 J1.length jc1, .slice ja2 J2.length jc2]
    change Bx (u2.alloc (.cells #[.slice ta A.length tc, .slice tb B.length td, .slice ja1 J1.length jc1, .slice ja2 J2.length jc2] 29)) _ _ _ at zx
    obtain ⟨ys, hys⟩ : ∃ ys : List Cnd, ys = [(ta, tc, A), (tb, td, B), (ja1, jc1, J1), (ja2, jc2, J2)] := ⟨_, rfl⟩
    have hT : Tw W (u2.alloc (.cells #[.slice ta A.length tc, .slice tb B.length td, .slice ja1 J1.length jc1, .slice ja2 J2.length jc2] 29)) ga ta tc A gb tb td B gx xs g7 xa xc X u2.heap.size ys := by
      refine ⟨hS.keep hba, z7.keep hba, hX.keep hba, by rw [hys]; exact zx, fun e he => ?_⟩
      rw [hys] at he
      simp only [List.mem_cons, List.not_mem_nil, or_false] at he
      rcases he with rfl | rfl | rfl | rfl
      · exact hS.ca.keep hba
      · exact hS.cb.keep hba
      · exact h1.keep hba
      · exact h2.keep hba
    have hy4 : ys.length = 4 := by rw [hys]; rfl
    clear hba zx z7 hX h1 h2 hS hys
    generalize u2.alloc (.cells #[.slice ta A.length tc, .slice tb B.length td, .slice ja1 J1.length jc1, .slice ja2 J2.length jc2] 29) = u3 at *
    generalize u2.heap.size = gy at *
    refine hK.out _ _ hT.s.held (fun hHeld => ?_)
    clear hK K
    try simp only [Act.put, List.setIfInBounds_toArray, List.set_cons_zero, List.set_cons_succ]
    refine held_take (9) (v := ?_) rfl (by kernel_rfl) (by kernel_rfl) (by kernel_rfl) (fun _ _ _ h => h) (Or.inl ⟨by rfl, ?_⟩) (by assumption) ?_
    rotate_left
    · intro w hSw
      try dsimp only at hSw
      go_simp
      with_reducible rfl
    try simp only [Act.put, List.setIfInBounds_toArray, List.set_cons_zero, List.set_cons_succ]
    refine wpAnyH_done (by kernel_rfl) ?_ _
    clear hHeld
    go_simp
    go_wp2_with fail
    have HY4 := Lib.hid hy4
    clear hy4
    go_loopw [47] (fun kv wx => ∃ k : Nat, k ≤ 4 ∧ kv = .int .i64 (k : Int) ∧ Tw W wx ga ta tc A gb tb td B gx xs g7 xa xc X gy ys) (fun kv _ => 4 - (intOf kv).toNat)
    case atStart => exact ⟨0, Nat.zero_le _, rfl, hT⟩
    case round =>
      clear hT
      obtain ⟨k, hk, rfl, hT⟩ := hrel
      by_cases hkt : k < 4
      rotate_left
      · have hkl : ¬ (k : Int) < 4 := by omega
        have HT := Lib.hid hT.s
        clear hT
        go_wp2_with fail
        go_roundw
        case rel => exact ⟨i + 1, by omega, by go_num, HT.out⟩
        case measure => simp [intOf]; omega
      have hkl : (k : Int) < 4 := by omega
      obtain ⟨⟨ya, yc, Y⟩, hy⟩ : ∃ e, ys[k]? = some e := ⟨_, List.getElem?_eq_getElem (by have := HY4.out; omega)⟩
      obtain ⟨cy, hY⟩ := hT.at' hy
      have hb9 := (Below.refl wr.heap.size wr).alloc (Nat.le_refl _) (.cells #[.slice ya Y.length yc] 29)
      have z9 := Bx.new wr 29 [.slice ya Y.length yc]
      change Bx (wr.alloc (.cells #[.slice ya Y.length yc] 29)) _ _ _ at z9
      have hT9 := hT.keep hb9
      have hY9 := hY.keep hb9
      clear hT hY hb9 hy
      go_upto_region 11 with (fail)
      clear cy
      generalize wr.alloc (.cells #[.slice ya Y.length yc] 29) = w6 at *
      generalize wr.heap.size = g9 at *
      have K1 : Hid (∀ V, Cn V xa xc X → Cn V ya yc Y → Calls Tryd.prog 10 #[.agg #[.slice xa X.length xc], .agg #[.slice ya Y.length yc]] V fun e w' => e = .returned (.bool (weakF X Y)) ∧ Below V.heap.size V w') := Lib.hid (fun V h1 h2 => weaker_walk X Y xa ya xc yc V h1.r h2.r (by have := h1.l; omega) (by have := h2.l; omega))
      have K2 : Hid (∀ V, Cn V xa xc X → Cn V ya yc Y → Spc V → Calls Tryd.prog 11 #[.agg #[.slice xa X.length xc], .agg #[.slice ya Y.length yc]] V fun e w' => e = .returned (.bool (weakF X Y)) ∧ Below V.heap.size V w') := Lib.hid (fun V h1 h2 h3 => rweaker_walk X Y xa ya xc yc V h1 h2 h3)
      have K3 : Hid (∀ V, Cn V xa xc X → Cn V ya yc Y → Calls Tryd.prog 10 #[.agg #[.slice ya Y.length yc], .agg #[.slice xa X.length xc]] V fun e w' => e = .returned (.bool (weakF Y X)) ∧ Below V.heap.size V w') := Lib.hid (fun V h1 h2 => weaker_walk Y X ya xa yc xc V h2.r h1.r (by have := h2.l; omega) (by have := h1.l; omega))
      have K4 : Hid (∀ V, Cn V xa xc X → Cn V ya yc Y → Spc V → Calls Tryd.prog 11 #[.agg #[.slice ya Y.length yc], .agg #[.slice xa X.length xc]] V fun e w' => e = .returned (.bool (weakF Y X)) ∧ Below V.heap.size V w') := Lib.hid (fun V h1 h2 h3 => rweaker_walk Y X ya xa yc xc V h2 h1 h3)
      generalize weakF X Y = f1 at *
      generalize weakF Y X = f2 at *
      refine wp_region_held_drew (S := fun w' => w'.cell? ⟨g7, 0, none⟩ = some (.slice xa X.length xc) ∧ w'.cell? ⟨g9, 0, none⟩ = some (.slice ya Y.length yc)) (by kernel_rfl) ⟨(hT9.keep (Below.refl _ _).drew).c.cell 0 rfl, (z9.keep (Below.refl _ _).drew).cell 0 rfl⟩ (fun hHeld => ?_)
      simp only [List.size_toArray, List.length_cons, List.length_nil]
      have hT := hT9.keep (Below.refl _ _).drew
      have hY := hY9.keep (Below.refl _ _).drew
      replace z9 := z9.keep (Below.refl _ _).drew
      clear hT9 hY9
      generalize w6.drew = u9 at *
      replace hHeld := id hHeld
      refine held_take (0) (v := ?_) rfl (by kernel_rfl) (by kernel_rfl) (by kernel_rfl) (fun _ _ _ h => h) (Or.inl ⟨by rfl, ?_⟩) (by assumption) ?_
      rotate_left
      · intro w hSw
        try dsimp only at hSw
        go_simp
        with_reducible rfl
      try simp only [Act.put, List.setIfInBounds_toArray, List.set_cons_zero, List.set_cons_succ]
      refine held_take (1) (v := ?_) rfl (by kernel_rfl) (by kernel_rfl) (by kernel_rfl) (fun _ _ _ h => h) (Or.inl ⟨by rfl, ?_⟩) (by assumption) ?_
      rotate_left
      · intro w hSw
        try dsimp only at hSw
        go_simp
        with_reducible rfl
      try simp only [Act.put, List.setIfInBounds_toArray, List.set_cons_zero, List.set_cons_succ]
      refine held_take (3) (v := ?_) rfl (by kernel_rfl) (by kernel_rfl) (by kernel_rfl) (fun _ _ _ h => h) (Or.inl ⟨by rfl, ?_⟩) (by assumption) ?_
      rotate_left
      · intro w hSw
        try dsimp only at hSw
        go_simp
        with_reducible rfl
      try simp only [Act.put, List.setIfInBounds_toArray, List.set_cons_zero, List.set_cons_succ]
      refine held_take (4) (v := ?_) rfl (by kernel_rfl) (by kernel_rfl) (by kernel_rfl) (fun _ _ _ h => h) (Or.inl ⟨by rfl, ?_⟩) (by assumption) ?_
      rotate_left
      · intro w hSw
        try dsimp only at hSw
        go_simp
        with_reducible rfl
      try simp only [Act.put, List.setIfInBounds_toArray, List.set_cons_zero, List.set_cons_succ]
      refine wpAnyH_ready (rs := [2]) (by kernel_rfl) (by simp) ?_
      refine held_cons rfl (fun K hK => ?_) AllReadyH.nil
      go_simp
      go_at_call 10
      (with_reducible refine (K1.out _ hT.n hY).mono ?_)
      (first | rintro e y2 rfl hb | rintro e y2 ⟨rfl, hb⟩)
      replace hT := hT.keep hb
      replace hY := hY.keep hb
      replace z9 := z9.keep hb
      clear hb K1
      go_wp2_with fail
      refine hK.out _ _ ⟨hT.c.cell 0 rfl, z9.cell 0 rfl⟩ (fun hHeld => ?_)
      clear hK K
      try simp only [Act.put, List.setIfInBounds_toArray, List.set_cons_zero, List.set_cons_succ]
      refine wpAnyH_ready (rs := [5]) (by kernel_rfl) (by simp) ?_
      refine held_cons rfl (fun K hK => ?_) AllReadyH.nil
      go_simp
      go_at_call 11
      (with_reducible refine (K2.out _ hT.n hY (HS.out.keep hT.s.w0)).mono ?_)
      (first | rintro e y5 rfl hb | rintro e y5 ⟨rfl, hb⟩)
      replace hT := hT.keep hb
      replace hY := hY.keep hb
      replace z9 := z9.keep hb
      clear hb K2
      go_wp2_with fail
      refine hK.out _ _ ⟨hT.c.cell 0 rfl, z9.cell 0 rfl⟩ (fun hHeld => ?_)
      clear hK K
      try simp only [Act.put, List.setIfInBounds_toArray, List.set_cons_zero, List.set_cons_succ]
      refine held_take (6) (v := ?_) rfl (by kernel_rfl) (by kernel_rfl) (by kernel_rfl) (fun _ _ _ h => h) (Or.inl ⟨by rfl, ?_⟩) (by assumption) ?_
      rotate_left
      · intro w hSw
        try dsimp only at hSw
        go_simp
        with_reducible rfl
      try simp only [Act.put, List.setIfInBounds_toArray, List.set_cons_zero, List.set_cons_succ]
      refine held_take (7) (v := ?_) rfl (by kernel_rfl) (by kernel_rfl) (by kernel_rfl) (fun _ _ _ h => h) (Or.inl ⟨by rfl, ?_⟩) (by assumption) ?_
      rotate_left
      · intro w hSw
        try dsimp only at hSw
        go_simp
        with_reducible rfl
      try simp only [Act.put, List.setIfInBounds_toArray, List.set_cons_zero, List.set_cons_succ]
      refine held_take (8) (v := ?_) rfl (by kernel_rfl) (by kernel_rfl) (by kernel_rfl) (fun _ _ _ h => h) (Or.inl ⟨by rfl, ?_⟩) (by assumption) ?_
      rotate_left
      · intro w hSw
        try dsimp only at hSw
        go_simp
        with_reducible rfl
      try simp only [Act.put, List.setIfInBounds_toArray, List.set_cons_zero, List.set_cons_succ]
      refine held_take (9) (v := ?_) rfl (by kernel_rfl) (by kernel_rfl) (by kernel_rfl) (fun _ _ _ h => h) (Or.inl ⟨by rfl, ?_⟩) (by assumption) ?_
      rotate_left
      · intro w hSw
        try dsimp only at hSw
        go_simp
        with_reducible rfl
      try simp only [Act.put, List.setIfInBounds_toArray, List.set_cons_zero, List.set_cons_succ]
      refine held_take (11) (v := ?_) rfl (by kernel_rfl) (by kernel_rfl) (by kernel_rfl) (fun _ _ _ h => h) (Or.inl ⟨by rfl, ?_⟩) (by assumption) ?_
      rotate_left
      · intro w hSw
        try dsimp only at hSw
        go_simp
        with_reducible rfl
      try simp only [Act.put, List.setIfInBounds_toArray, List.set_cons_zero, List.set_cons_succ]
      refine held_take (12) (v := ?_) rfl (by kernel_rfl) (by kernel_rfl) (by kernel_rfl) (fun _ _ _ h => h) (Or.inl ⟨by rfl, ?_⟩) (by assumption) ?_
      rotate_left
      · intro w hSw
        try dsimp only at hSw
        go_simp
        with_reducible rfl
      try simp only [Act.put, List.setIfInBounds_toArray, List.set_cons_zero, List.set_cons_succ]
      refine wpAnyH_ready (rs := [10]) (by kernel_rfl) (by simp) ?_
      refine held_cons rfl (fun K hK => ?_) AllReadyH.nil
      go_simp
      go_at_call 10
      (with_reducible refine (K3.out _ hT.n hY).mono ?_)
      (first | rintro e y10 rfl hb | rintro e y10 ⟨rfl, hb⟩)
      replace hT := hT.keep hb
      replace hY := hY.keep hb
      replace z9 := z9.keep hb
      clear hb K3
      go_wp2_with fail
      refine hK.out _ _ ⟨hT.c.cell 0 rfl, z9.cell 0 rfl⟩ (fun hHeld => ?_)
      clear hK K
      try simp only [Act.put, List.setIfInBounds_toArray, List.set_cons_zero, List.set_cons_succ]
      refine wpAnyH_ready (rs := [13]) (by kernel_rfl) (by simp) ?_
      refine held_cons rfl (fun K hK => ?_) AllReadyH.nil
      go_simp
      go_at_call 11
      (with_reducible refine (K4.out _ hT.n hY (HS.out.keep hT.s.w0)).mono ?_)
      (first | rintro e y13 rfl hb | rintro e y13 ⟨rfl, hb⟩)
      replace hT := hT.keep hb
      replace hY := hY.keep hb
      replace z9 := z9.keep hb
      clear hb K4
      go_wp2_with fail
      refine hK.out _ _ ⟨hT.c.cell 0 rfl, z9.cell 0 rfl⟩ (fun hHeld => ?_)
      clear hK K
      try simp only [Act.put, List.setIfInBounds_toArray, List.set_cons_zero, List.set_cons_succ]
      refine held_take (14) (v := ?_) rfl (by kernel_rfl) (by kernel_rfl) (by kernel_rfl) (fun _ _ _ h => h) (Or.inl ⟨by rfl, ?_⟩) (by assumption) ?_
      rotate_left
      · intro w hSw
        try dsimp only at hSw
        go_simp
        with_reducible rfl
      try simp only [Act.put, List.setIfInBounds_toArray, List.set_cons_zero, List.set_cons_succ]
      refine held_take (15) (v := ?_) rfl (by kernel_rfl) (by kernel_rfl) (by kernel_rfl) (fun _ _ _ h => h) (Or.inl ⟨by rfl, ?_⟩) (by assumption) ?_
      rotate_left
      · intro w hSw
        try dsimp only at hSw
        go_simp
        with_reducible rfl
      try simp only [Act.put, List.setIfInBounds_toArray, List.set_cons_zero, List.set_cons_succ]
      refine wpAnyH_done (by kernel_rfl) ?_ _
      clear hHeld hY z9
      go_simp
      have HT := Lib.hid hT
      clear hT
      go_wp2_with fail
      go_roundw
      case rel => exact ⟨k + 1, by omega, by go_num, HT.out⟩
      case measure => simp [intOf]; omega
end Go.Proofs.YtejdaeonknpgeaaDoor
