/- The kit's odd conditions, walked. -/
import Derived.Test.YtejdaeonknpgeaaGreatDoorGCndOd
namespace Go.Proofs.YtejdaeonknpgeaaGreatDoor
open Go.RowKit
theorem trm_len (T : List Trm) : (rowsC trC T).length = T.length * 6 := rowsC_length trC_len T
theorem trm_one {T : List Trm} : ∀ u ∈ rowsC trC T, u.oneCell' = true := rowsC_one (fun t u hu => by
  simp only [trC, List.mem_cons, List.not_mem_nil, or_false] at hu
  rcases hu with rfl | rfl | rfl | rfl | rfl | rfl <;> rfl) T
set_option maxRecDepth 100000 in
set_option maxHeartbeats 16000000 in
theorem odd_walk (W : World) (db : Nat) (p : Option Addr) (l : List Int) (cap q : Nat) (T : List Trm) (ta : Option Addr) (tc : Nat) (w : World) (hl : l.length ≤ 281474976710656) (hE : Env W w db p l cap q) (hW : W.heap.size ≤ db) (hR : Rd W p (ints l)) (hC : Ce w db ta tc T) (h1 : 1 ≤ T.length) (h2 : T.length ≤ 900) (h3 : ∀ t ∈ T, t.args.length ≤ 900) :
    Calls Tryz.prog 9 #[.pointer (some ⟨db, 0, none⟩), .agg #[.slice ta T.length tc]] w (OddRes W w db p l cap T.length) := by
  have hdl := hE.dice.lt
  have b1 := (Below.refl w.heap.size w).alloc (Nat.le_refl _) (.cells #[.slice ta T.length tc] 34)
  have x3 := Bx.new w 34 [.slice ta T.length tc]
  change Bx (w.alloc (.cells #[.slice ta T.length tc] 34)) _ _ _ at x3
  have b2 := b1.alloc b1.size (.cells #[.slice none 0 0] 34)
  have x4 := Bx.new (w.alloc (.cells #[.slice ta T.length tc] 34)) 34 [.slice none 0 0]
  change Bx ((w.alloc (.cells #[.slice ta T.length tc] 34)).alloc (.cells #[.slice none 0 0] 34)) _ _ _ at x4
  have hz : (w.alloc (.cells #[.slice ta T.length tc] 34)).heap.size = w.heap.size + 1 := by simp
  have hz2 : ((w.alloc (.cells #[.slice ta T.length tc] 34)).alloc (.cells #[.slice none 0 0] 34)).heap.size = w.heap.size + 2 := by simp
  rw [hz] at x4
  have x3' := x3.alloc (.cells #[.slice none 0 0] 34)
  have y3 := x3'.cell 0 rfl
  have HC := Lib.hid hC
  have HE := Lib.hid hE
  clear x3 x3' b1 hz hC hE
  go_enter Tryz.func9, Tryz.ntmps9
  go_upto_region 1 with (fail)
  generalize (w.alloc (.cells #[.slice ta T.length tc] 34)).alloc (.cells #[.slice none 0 0] 34) = w1 at *
  obtain ⟨w0, hw0⟩ : ∃ x, x = w := ⟨_, rfl⟩
  have HW0 := Lib.hid hw0
  generalize hg4 : w.heap.size + 1 = g4 at *
  have HG4 := Lib.hid hg4
  have HZ2 := Lib.hid hz2
  have HB2 := Lib.hid b2
  have HX4 := Lib.hid x4
  have hTb : T.length * 80 ≤ 140737488355328 := by omega
  have e0 : ((T.length : Int) == 0) = false := by rw [beq_eq_false_iff_ne]; omega
  have e0' : (T.length == 0) = false := by rw [beq_eq_false_iff_ne]; omega
  clear hg4 hz2 b2 x4 hdl hw0
  go_upto_region 2 with (first
    | (at_builtin; refine wpList_apps_at (w0 := w1) (B := w1.heap.size) (base := w1.heap.size) rfl _ _ _ _ rfl elTrm rfl (Ow.nil _ _ _) (Below.refl _ _) (Nat.le_refl _) (Nat.le_refl _) rfl (Src.slice elTrm.u (trm_len T) (HC.out.keep HB2.out).d.r.rows trm_one) (by omega) ?_; intro a1 c1 w2 hO2 hb2 hg2 hat2; clear hg2 hat2; rw [Nat.zero_add] at hO2 ⊢; rw [List.nil_append] at hO2))
  have hb3 := (Below.refl w2.heap.size w2).alloc (Nat.le_refl _) (.cells #[.slice a1 T.length c1] 34)
  have x5 := Bx.new w2 34 [.slice a1 T.length c1]
  change Bx (w2.alloc (.cells #[.slice a1 T.length c1] 34)) _ _ _ at x5
  have hOc : Oc W w (w2.alloc (.cells #[.slice a1 T.length c1] 34)) db p l cap q g4 w2.heap.size a1 c1 T := by
    have hB2 := HB2.out
    have hz2 := HZ2.out
    have hg4 := HG4.out
    have hdl := HE.out.dice.lt
    have hb23 := hb2.trans (hb3.mono hb2.size)
    have hb13 := hB2.trans (hb23.mono hB2.size)
    have hs2 := hb2.size
    have hs3 := hb3.size
    refine ⟨⟨HE.out.keep hb13, x5, (hO2.keep hb3).lower (by omega), fun t ht => ⟨(HC.out.d.r.args t ht).keep hb13, fun j hj => ?_⟩, HC.out.d.r.ok, fun j hj => ?_, by omega, hW, hR⟩, HX4.out.keep hb23, Kp.of_below hb13 _, by omega, by omega, by omega, by omega, fun j hj => ?_, fun t ht j hj => ?_⟩
    · have k1 := HC.out.lt t ht j hj
      have k2 := HC.out.d.t t ht j hj
      refine ⟨by omega, k2, by omega, fun e => ?_⟩
      have := (hO2.row j e).1; omega
    · have := hO2.row j hj
      omega
    · have := hO2.row j hj
      omega
    · have k1 := HC.out.lt t ht j hj
      omega
  have HC3 := Lib.hid h3
  clear hb2 hb3 x5 y3 h3
  generalize w2.alloc (.cells #[.slice a1 T.length c1] 34) = w3 at *
  generalize w2.heap.size = gC at *
  have y5 := hOc.k.c.cell 0 rfl
  obtain ⟨go, oo, rfl⟩ : ∃ go oo, a1 = some ⟨go, oo, none⟩ := by
    obtain ⟨-, k1, -, ⟨-, k2⟩ | ⟨g, o, k3, -⟩⟩ := hO2
    · omega
    · exact ⟨g, o, k3⟩
  clear hO2
  go_upto_region 4 with (fail)
  obtain ⟨i, hi, hit⟩ : ∃ i : Nat, dnum l q (T.length : Int) = (i : Int) ∧ i < T.length := by
    have k1 := dnum_lo l q (n := (T.length : Int)) (by omega)
    have k2 := dnum_hi l q (n := (T.length : Int)) (by omega)
    exact ⟨(dnum l q (T.length : Int)).toNat, by omega, by omega⟩
  have hil : (i : Int) < (T.length : Int) := by omega
  obtain ⟨t, ht⟩ : ∃ t, T[i]? = some t := ⟨_, List.getElem?_eq_getElem hit⟩
  have HT := Lib.hid ht
  have HI := Lib.hid hi
  clear ht hi y5 HE HC HZ2 HB2 HX4 HG4
  refine wp_region_held_drew (S := fun w' => w'.cell? ⟨gC, 0, none⟩ = some (.slice (some ⟨go, oo, none⟩) T.length c1)) (by kernel_rfl) ((hOc.keep (Below.refl _ _).drew).k.c.cell 0 rfl) (fun hHeld => ?_)
  simp only [List.size_toArray, List.length_cons, List.length_nil]
  replace hOc := hOc.keep (Below.refl _ _).drew
  generalize w3.drew = v0 at *
  replace hHeld := id hHeld
  refine held_take (0) (v := ?_) rfl (by kernel_rfl) (by kernel_rfl) (by kernel_rfl) (fun _ _ _ h => h) (Or.inl ⟨by rfl, ?_⟩) (by assumption) ?_
  rotate_left
  · intro w hSw
    try dsimp only at hSw
    go_simp
    with_reducible rfl
  try simp only [Act.put, List.setIfInBounds_toArray, List.set_cons_zero, List.set_cons_succ]
  refine held_take (1) (v := ?_) rfl (by kernel_rfl) (by kernel_rfl) (by kernel_rfl) (fun _ _ _ h => h) (Or.inl ⟨by rfl, ?_⟩) (by assumption) ?_
  rotate_left
  · intro w hSw
    try dsimp only at hSw
    go_simp
    with_reducible rfl
  try simp only [Act.put, List.setIfInBounds_toArray, List.set_cons_zero, List.set_cons_succ]
  refine held_take (2) (v := ?_) rfl (by kernel_rfl) (by kernel_rfl) (by kernel_rfl) (fun _ _ _ h => h) (Or.inl ⟨by rfl, ?_⟩) (by assumption) ?_
  rotate_left
  · intro w hSw
    try dsimp only at hSw
    go_simp
    with_reducible rfl
  try simp only [Act.put, List.setIfInBounds_toArray, List.set_cons_zero, List.set_cons_succ]
  refine held_take (3) (v := ?_) rfl (by kernel_rfl) (by kernel_rfl) (by kernel_rfl) (fun _ _ _ h => h) (Or.inl ⟨by rfl, ?_⟩) (by assumption) ?_
  rotate_left
  · intro w hSw
    try dsimp only at hSw
    go_simp
    with_reducible rfl
  try simp only [Act.put, List.setIfInBounds_toArray, List.set_cons_zero, List.set_cons_succ]
  refine held_take (4) (v := ?_) rfl (by kernel_rfl) (by kernel_rfl) (by kernel_rfl) (fun _ _ _ h => h) (Or.inl ⟨by rfl, ?_⟩) (by assumption) ?_
  rotate_left
  · intro w hSw
    try dsimp only at hSw
    go_simp
    with_reducible rfl
  try simp only [Act.put, List.setIfInBounds_toArray, List.set_cons_zero, List.set_cons_succ]
  refine held_take (5) (v := ?_) rfl (by kernel_rfl) (by kernel_rfl) (by kernel_rfl) (fun _ _ _ h => h) (Or.inl ⟨by rfl, ?_⟩) (by assumption) ?_
  rotate_left
  · intro w hSw
    try dsimp only at hSw
    go_simp
    with_reducible rfl
  try simp only [Act.put, List.setIfInBounds_toArray, List.set_cons_zero, List.set_cons_succ]
  refine wpAnyH_ready (rs := [6]) (by kernel_rfl) (by simp) ?_
  refine held_cons rfl (fun K hK => ?_) AllReadyH.nil
  go_simp
  have KN : Hid (Calls Tryz.prog 22 #[.pointer (some ⟨db, 0, none⟩), .int .i64 (T.length : Int)] v0 _) := Lib.hid (hOc.k.dicec hl (T.length : Int) (by omega) (by omega))
  go_at_call 22
  (with_reducible refine KN.out.mono ?_)
  (first | rintro e v1 rfl hEN hgN | rintro e v1 rfl ⟨hEN, hgN⟩ | rintro e v1 ⟨rfl, hEN, hgN⟩)
  rw [HI.out]
  replace hOc := hOc.next hEN hgN
  clear hEN hgN KN HI
  go_wp2_with fail
  refine hK.out _ _ (hOc.k.c.cell 0 rfl) (fun hHeld => ?_)
  clear hK K
  try simp only [Act.put, List.setIfInBounds_toArray, List.set_cons_zero, List.set_cons_succ]
  refine held_take (7) (v := ?_) rfl (by kernel_rfl) (by kernel_rfl) (by kernel_rfl) (fun _ _ _ h => h) (Or.inl ⟨by rfl, ?_⟩) (by assumption) ?_
  rotate_left
  · intro w hSw
    try dsimp only at hSw
    go_simp
    with_reducible rfl
  try simp only [Act.put, List.setIfInBounds_toArray, List.set_cons_zero, List.set_cons_succ]
  refine held_take (8) (v := ?_) rfl (by kernel_rfl) (by kernel_rfl) (by kernel_rfl) (fun _ _ _ h => h) (Or.inl ⟨by rfl, ?_⟩) (by assumption) ?_
  rotate_left
  · intro w hSw
    try dsimp only at hSw
    go_simp
    with_reducible rfl
  try simp only [Act.put, List.setIfInBounds_toArray, List.set_cons_zero, List.set_cons_succ]
  refine wpAnyH_done (by kernel_rfl) ?_ _
  clear hHeld
  go_simp
  have HOc := Lib.hid hOc
  have K8 := Lib.hid (hOc.k.dicec hl 8 (by omega) (by omega))
  clear hOc
  go_upto_region 6 with (go_at_call 22; (with_reducible refine K8.out.mono ?_); (first | rintro e v2 rfl hEN hgN | rintro e v2 rfl ⟨hEN, hgN⟩ | rintro e v2 ⟨rfl, hEN, hgN⟩); have hOc := HOc.out.next hEN hgN; clear hEN hgN K8 HOc)
  obtain ⟨k8, hk8⟩ : ∃ k, dnum l (dnxt l q) 8 = k := ⟨_, rfl⟩
  have k1 := dnum_lo l (dnxt l q) (n := 8) (by omega)
  have k2 := dnum_hi l (dnxt l q) (n := 8) (by omega)
  rw [hk8] at k1 k2 ⊢
  clear hk8
  generalize dnxt l (dnxt l q) = q2 at *
  rcases (show k8 = 0 ∨ k8 = 1 ∨ k8 = 2 ∨ k8 = 3 ∨ k8 = 4 ∨ k8 = 5 ∨ k8 = 6 ∨ k8 = 7 by omega) with rfl | rfl | rfl | rfl | rfl | rfl | rfl | rfl
  · have hOx := hOc
    have KN := Lib.hid (hOx.k.dicec hl 10 (by omega) (by omega))
    clear hOc
    go_upto_region 20 with (go_at_call 22; (with_reducible refine KN.out.mono ?_); (first | rintro e v3 rfl hEN hgN | rintro e v3 rfl ⟨hEN, hgN⟩ | rintro e v3 ⟨rfl, hEN, hgN⟩); have hO3 := hOx.next hEN hgN; clear hEN hgN KN hOx; have m1 := dnum_lo l q2 (n := 10) (by omega); have m2 := dnum_hi l q2 (n := 10) (by omega); generalize dnum l q2 10 = v at *; obtain ⟨s1, s2⟩ := hO3.k.cellF HT.out 0 _ rfl; rw [Nat.add_zero] at s1 s2)
    have hI := hO3.k.inn t (List.mem_of_getElem? HT.out)
    have hO9 := hO3.putF (f := 0) (t' := ⟨v, t.number, t.years, t.field, t.text, t.args, t.aa, t.ac⟩) (v := .int .i64 v) HT.out (by decide) rfl ⟨⟨(⟨by omega, by omega⟩ : I64 v), hI.1.2⟩, hI.2⟩ rfl rfl
    rw [Nat.add_zero] at hO9
    clear hO3 hI s1 s2
    generalize v3.setCell ⟨go, oo + i * 6, none⟩ (.int .i64 v) = w9 at *
    have hF := hO9.fin (n := T.length) (by first | (rw [List.length_set]; omega) | omega) (by omega)
    have HF := Lib.hid hF
    have y5 := hO9.k.c.cell 0 rfl
    have z4 := hO9.r.cell 0 rfl
    have z5 := hO9.r.free 0
    try rw [List.length_set] at y5 HF
    clear hF hO9
    go_wp2
    exact bodyPost_ret (Cond.ret (t := 4) rfl _ rfl HF.out.1) rfl HF.out.2
  · have KN : Hid (Calls Tryz.prog 22 #[.pointer (some ⟨db, 0, none⟩), .int .i64 4] (v2.alloc (.cells #[.int .i64 0, .int .i64 (-1), .int .i64 64, .int .i64 65] 3)) fun e w' => ∃ (v : Nat) (x : Int), e = .returned (.int .i64 (v : Int)) ∧ ((v : Int) < 4 ∧ x ∈ ([0, -1, 64, 65] : List Int)) ∧ w'.cell? ⟨v2.heap.size, v, none⟩ = some (.int .i64 x) ∧ Oc W w w' db p l cap (dnxt l q2) g4 gC (some ⟨go, oo, none⟩) c1 T ∧ w'.cell? ⟨go, oo + i * 6 + 1, none⟩ = some (.int .i64 t.number) ∧ w'.frozen? ⟨go, oo + i * 6 + 1, none⟩ = false) := Lib.hid (hOc.pick hl [0, -1, 64, 65] 4 rfl (by decide) (by decide) HT.out (f := 1) rfl)
    clear hOc
    go_upto_region 20 with (go_at_call 22; (with_reducible refine KN.out.mono ?_); (first | rintro e v3 ⟨v, x, rfl, ⟨hvn, hx⟩, hcz, hO3, s1, s2⟩ | rintro e v3 v x rfl hvn hx hcz hO3 s1 s2))
    have hxb := (by decide : ∀ z ∈ ([0, -1, 64, 65] : List Int), -1 ≤ z ∧ z ≤ 101) x hx
    have hI := hO3.k.inn t (List.mem_of_getElem? HT.out)
    have hO9 := hO3.putF (f := 1) (t' := ⟨t.kind, x, t.years, t.field, t.text, t.args, t.aa, t.ac⟩) (v := .int .i64 x) HT.out (by decide) rfl ⟨⟨hI.1.1, (⟨by omega, by omega⟩ : I64 x), hI.1.2.2⟩, hI.2⟩ rfl rfl
    clear hO3 hI s1 s2 hcz hx
    generalize v3.setCell ⟨go, oo + i * 6 + 1, none⟩ (.int .i64 x) = w9 at *
    have hF := hO9.fin (n := T.length) (by first | (rw [List.length_set]; omega) | omega) (by omega)
    have HF := Lib.hid hF
    have y5 := hO9.k.c.cell 0 rfl
    have z4 := hO9.r.cell 0 rfl
    have z5 := hO9.r.free 0
    try rw [List.length_set] at y5 HF
    clear hF hO9
    go_wp2
    exact bodyPost_ret (Cond.ret (t := 4) rfl _ rfl HF.out.1) rfl HF.out.2
  · have HOx := Lib.hid hOc
    have r1 := (hOc.k.cellF HT.out 5 _ rfl).1
    have hal : t.args.length ≤ 900 := HC3.out t (List.mem_of_getElem? HT.out)
    clear hOc
    go_upto_region 20 with (first
      | (go_at_call 22; (with_reducible refine KN.out.mono ?_); (first | rintro e v4 ⟨v, rfl, hv, hO4, hE4, hk4⟩ | rintro e v4 v rfl hv hO4 hE4 hk4); have hz4 := hk4.size; clear KN)
      | (at_builtin; refine wpList_apps_at (w0 := v2) (B := v2.heap.size) (base := v2.heap.size) rfl _ _ _ _ rfl elIntK rfl (Ow.nil _ _ _) (Below.refl _ _) (Nat.le_refl _) (Nat.le_refl _) rfl (Src.slice elIntK.u (by simp [ints]) (HOx.out.k.rows t (List.mem_of_getElem? HT.out)).1 (by intro u hu; obtain ⟨z, -, rfl⟩ := List.mem_map.1 hu; rfl)) (by omega) ?_; intro a3 c3 v3 hO2 hb2 hg2 hat2; clear hg2 hat2; rw [Nat.zero_add] at hO2 ⊢; rw [List.nil_append] at hO2; have KN := Lib.hid (HOx.out.num hb2 hO2 hl 4 (by decide) (by decide)); clear hb2 hO2 r1)
      | (at_builtin; refine wpList_app1_at (w0 := v4) (B := v2.heap.size) (base := v2.heap.size) rfl _ _ _ rfl elIntK rfl hO4 (Below.refl _ _) (Nat.le_refl _) hz4 (cs := [.int .i64 v]) rfl rfl (one1 rfl) (by omega) ?_; intro a5 c5 v5 hO5 hb5 hg5 hat5; clear hg5 hat5; obtain ⟨hO9, s1, s2⟩ := HOx.out.more HT.out rfl hal hv hk4 hE4 hb5 hO5; clear hO5 hb5 hk4 hE4 hO4))
    generalize v5.setCell ⟨go, oo + i * 6 + 5, none⟩ (.slice a5 (t.args.length + 1) c5) = w9 at *
    clear s1 s2
    have hF := hO9.fin (n := T.length) (by first | (rw [List.length_set]; omega) | omega) (by omega)
    have HF := Lib.hid hF
    have y5 := hO9.k.c.cell 0 rfl
    have z4 := hO9.r.cell 0 rfl
    have z5 := hO9.r.free 0
    try rw [List.length_set] at y5 HF
    clear hF hO9
    go_wp2
    exact bodyPost_ret (Cond.ret (t := 4) rfl _ rfl HF.out.1) rfl HF.out.2
  · have KN : Hid (Calls Tryz.prog 22 #[.pointer (some ⟨db, 0, none⟩), .int .i64 3] (v2.alloc (.cells #[.int .i64 (-1), .int .i64 100, .int .i64 101] 3)) fun e w' => ∃ (v : Nat) (x : Int), e = .returned (.int .i64 (v : Int)) ∧ ((v : Int) < 3 ∧ x ∈ ([-1, 100, 101] : List Int)) ∧ w'.cell? ⟨v2.heap.size, v, none⟩ = some (.int .i64 x) ∧ Oc W w w' db p l cap (dnxt l q2) g4 gC (some ⟨go, oo, none⟩) c1 T ∧ w'.cell? ⟨go, oo + i * 6 + 2, none⟩ = some (.int .i64 t.years) ∧ w'.frozen? ⟨go, oo + i * 6 + 2, none⟩ = false) := Lib.hid (hOc.pick hl [-1, 100, 101] 3 rfl (by decide) (by decide) HT.out (f := 2) rfl)
    clear hOc
    go_upto_region 20 with (go_at_call 22; (with_reducible refine KN.out.mono ?_); (first | rintro e v3 ⟨v, x, rfl, ⟨hvn, hx⟩, hcz, hO3, s1, s2⟩ | rintro e v3 v x rfl hvn hx hcz hO3 s1 s2))
    have hxb := (by decide : ∀ z ∈ ([-1, 100, 101] : List Int), -1 ≤ z ∧ z ≤ 101) x hx
    have hI := hO3.k.inn t (List.mem_of_getElem? HT.out)
    have hO9 := hO3.putF (f := 2) (t' := ⟨t.kind, t.number, x, t.field, t.text, t.args, t.aa, t.ac⟩) (v := .int .i64 x) HT.out (by decide) rfl ⟨⟨hI.1.1, hI.1.2.1, (⟨by omega, by omega⟩ : I64 x)⟩, hI.2⟩ rfl rfl
    clear hO3 hI s1 s2 hcz hx
    generalize v3.setCell ⟨go, oo + i * 6 + 2, none⟩ (.int .i64 x) = w9 at *
    have hF := hO9.fin (n := T.length) (by first | (rw [List.length_set]; omega) | omega) (by omega)
    have HF := Lib.hid hF
    have y5 := hO9.k.c.cell 0 rfl
    have z4 := hO9.r.cell 0 rfl
    have z5 := hO9.r.free 0
    try rw [List.length_set] at y5 HF
    clear hF hO9
    go_wp2
    exact bodyPost_ret (Cond.ret (t := 4) rfl _ rfl HF.out.1) rfl HF.out.2
  · have KN : Hid (Calls Tryz.prog 23 #[.pointer (some ⟨db, 0, none⟩), .slice (some ⟨v2.heap.size, 0, none⟩) 3 3] (v2.alloc (.cells #[.string ⟨#[]⟩, .string ⟨#[97, 34, 98]⟩, .string ⟨#[120]⟩] 9)) fun e w' => e = .returned (.string ⟨(wordF l q2 [[], [97, 34, 98], [120]]).toArray⟩) ∧ (Env W w' db p l cap (dnxt l q2) ∧ (v2.alloc (.cells #[.string ⟨#[]⟩, .string ⟨#[97, 34, 98]⟩, .string ⟨#[120]⟩] 9)).grownBy w' (some db))) := Lib.hid (hOc.k.wordc hl [[], [97, 34, 98], [120]] (by decide) (by decide))
    have hwt := (by decide : ∀ x ∈ ([[], [97, 34, 98], [120]] : List (List UInt8)), x.length ≤ 256) _ (wordF_mem l q2 [[], [97, 34, 98], [120]] (by decide))
    generalize wordF l q2 [[], [97, 34, 98], [120]] = wt at *
    have hOx := hOc.keep ((Below.refl v2.heap.size v2).alloc (Nat.le_refl _) (.cells #[.string ⟨#[]⟩, .string ⟨#[97, 34, 98]⟩, .string ⟨#[120]⟩] 9))
    clear hOc
    go_upto_region 20 with (go_at_call 23; (with_reducible refine KN.out.mono ?_); (first | rintro e v3 rfl hEN hgN | rintro e v3 rfl ⟨hEN, hgN⟩ | rintro e v3 ⟨rfl, hEN, hgN⟩); have hO3 := hOx.next hEN hgN; clear hEN hgN KN hOx; obtain ⟨s1, s2⟩ := hO3.k.cellF HT.out 4 _ rfl)
    have hI := hO3.k.inn t (List.mem_of_getElem? HT.out)
    have hO9 := hO3.putF (f := 4) (t' := ⟨t.kind, t.number, t.years, t.field, wt, t.args, t.aa, t.ac⟩) (v := .string ⟨wt.toArray⟩) HT.out (by decide) rfl ⟨hI.1, hI.2.1, (by omega : wt.length ≤ 140737488351232), hI.2.2.2⟩ rfl rfl
    clear hO3 hI s1 s2
    generalize v3.setCell ⟨go, oo + i * 6 + 4, none⟩ (.string ⟨wt.toArray⟩) = w9 at *
    have hF := hO9.fin (n := T.length) (by first | (rw [List.length_set]; omega) | omega) (by omega)
    have HF := Lib.hid hF
    have y5 := hO9.k.c.cell 0 rfl
    have z4 := hO9.r.cell 0 rfl
    have z5 := hO9.r.free 0
    try rw [List.length_set] at y5 HF
    clear hF hO9
    go_wp2
    exact bodyPost_ret (Cond.ret (t := 4) rfl _ rfl HF.out.1) rfl HF.out.2
  · have y5 := hOc.k.c.cell 0 rfl
    have HOx := Lib.hid hOc
    have hcl := hOc.k.env.dice.lt
    have HL : Hid ([.int .i64 8, .int .i64 0, .int .i64 0, .string ⟨#[]⟩, .string ⟨#[]⟩, .slice none 0 0] = trC leafT8) := Lib.hid rfl
    clear hOc
    go_upto_region 20 with (at_builtin; refine wpList_app1_at (w0 := v2) (B := db + 1) (base := db + 1) rfl _ _ _ rfl elTrm rfl HOx.out.k.o (Below.refl _ _) (Nat.le_refl _) (by omega) (cs := [.int .i64 8, .int .i64 0, .int .i64 0, .string ⟨#[]⟩, .string ⟨#[]⟩, .slice none 0 0]) rfl rfl (by intro u hu; simp at hu; rcases hu with rfl | rfl | rfl | rfl | rfl | rfl <;> rfl) (by omega) ?_; intro a5 c5 v5 hO5 hb5 hg5 hat5; obtain ⟨hO9, s1, s2⟩ := HOx.out.push8 (by rw [← HL.out]; exact hO5) hg5 hat5; clear hO5 hb5 hg5 hat5)
    generalize v5.setCell ⟨gC, 0, none⟩ (.slice a5 (T.length + 1) c5) = w9 at *
    have e9 : T.length + 1 = (T ++ [leafT8]).length := by simp
    clear s1 s2
    have hF := hO9.fin (n := T.length) (by rw [← e9]; omega) (by omega)
    have HF := Lib.hid hF
    have y5 := hO9.k.c.cell 0 rfl
    have z4 := hO9.r.cell 0 rfl
    have z5 := hO9.r.free 0
    rw [← e9] at y5 HF
    clear e9
    clear hF hO9
    go_wp2
    exact bodyPost_ret (Cond.ret (t := 4) rfl _ rfl HF.out.1) rfl HF.out.2
  · have y5 := hOc.k.c.cell 0 rfl
    have y6 := hOc.k.c.free 0
    have hcc := hOc.k.o.2.1
    have s1 : (1 : Int) ≤ (T.length : Int) := by omega
    have s2 : (1 : Int) ≤ (c1 : Int) := by omega
    obtain ⟨xa, hxa⟩ : ∃ xa : Option Addr, xa = if c1 = 1 then some ⟨go, oo, none⟩ else some ⟨go, oo + 6, none⟩ := ⟨_, rfl⟩
    have HF := Lib.hid (hOc.rest (n := T.length) h1 (by omega) (by omega) hxa (n1 := T.length - 1) rfl)
    clear hOc
    go_upto_region 20 with (fail)
    rw [← hxa]
    clear hxa y5 y6
    have z5 := HF.out.1.cell 0 rfl
    have z4 := HF.out.2.1.cell 0 rfl
    have z6 := HF.out.2.1.free 0
    go_wp2
    exact bodyPost_ret (Cond.ret (t := 4) rfl _ rfl HF.out.2.2.1) rfl HF.out.2.2.2
  · have hO9 := hOc
    clear hOc
    have hF := hO9.fin (n := T.length) (by first | (rw [List.length_set]; omega) | omega) (by omega)
    have HF := Lib.hid hF
    have y5 := hO9.k.c.cell 0 rfl
    have z4 := hO9.r.cell 0 rfl
    have z5 := hO9.r.free 0
    try rw [List.length_set] at y5 HF
    clear hF hO9
    go_wp2
    exact bodyPost_ret (Cond.ret (t := 4) rfl _ rfl HF.out.1) rfl HF.out.2
end Go.Proofs.YtejdaeonknpgeaaGreatDoor
