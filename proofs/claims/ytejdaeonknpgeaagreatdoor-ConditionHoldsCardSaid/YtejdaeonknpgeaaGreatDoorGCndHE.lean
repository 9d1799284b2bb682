/- Conditions: how many persons are needed at least: the reference's. -/
import Derived.Test.YtejdaeonknpgeaaGreatDoorGCndHB
import Derived.Test.YtejdaeonknpgeaaGreatDoorGCndRD
namespace Go.Proofs.YtejdaeonknpgeaaGreatDoor
open Go.RowKit
/-- the boxes of a turn of least -/
structure Rl (W w : World) (g3 g7 : Nat) (ta : Option Addr) (T : List Trm) (tc : Nat) (t : Trm) : Prop where
  x : Bx w g3 34 [.slice ta T.length tc]
  tt : Bx w g7 57 (trC t)
  r : RdT w ta T
  a : Rd w t.aa (ints t.args)
  b : Below W.heap.size W w
theorem Rl.keep {W w w' : World} {g3 g7 : Nat} {ta : Option Addr} {T : List Trm} {tc : Nat} {t : Trm} (h : Rl W w g3 g7 ta T tc t) (hb : Below w.heap.size w w') : Rl W w' g3 g7 ta T tc t :=
  ⟨h.x.keep hb, h.tt.keep hb, h.r.keep hb, h.a.keep hb, h.b.trans (hb.mono h.b.size)⟩
theorem tail_at {l : List Int} {k : Nat} {r : Int} (h : Hid (l[k + 1]? = some r)) (f : Int → Int → Int) (g : Int → Int) (z : Int) : ((l.tail.take (k + 1)).map g).foldl f z = f (((l.tail.take k).map g).foldl f z) (g r) := by
  have e : l.tail[k]? = some r := by rw [List.getElem?_tail]; exact h.out
  rw [List.take_add_one, e, List.map_append, List.foldl_append]
  rfl
theorem okT_two {t : Trm} (h : okT t = true) (hk : t.kind = 1 ∨ t.kind = 2) : 2 ≤ t.args.length := by
  simp only [okT, Bool.and_eq_true, decide_eq_true_eq, beq_iff_eq] at h
  have h1 : sevB t.kind = true := decide_eq_true hk
  have h2 := h.1.2
  rw [h1] at h2
  have h3 : 0 < t.args.length := of_decide_eq_true h2.symm
  have h4 := h.2
  omega
set_option maxRecDepth 100000 in
set_option maxHeartbeats 16000000 in
theorem rleast_walk (T : List Trm) (ta : Option Addr) (tc : Nat) (hS : Seg T 0 T.length) : ∀ (f n : Nat) (w : World), n < T.length → T.length - n ≤ f → RdT w ta T →
    Calls Tryz.prog 35 #[.agg #[.slice ta T.length tc], .int .i64 (n : Int)] w fun e w' => e = .returned (.int .i64 (leastT T f n)) ∧ Below w.heap.size w w' := by
  intro f
  induction f with
  | zero => intro n w hn hf; omega
  | succ f ih =>
    intro n w hn hf hRT
    have hnl : (n : Int) < (T.length : Int) := by omega
    obtain ⟨t0, ht0, hok, hargs⟩ := hS n (Nat.zero_le _) hn
    have hkind := okT_kind hok
    have htwo := okT_two hok
    have he : leastT T (f + 1) n = if t0.kind = 1 then maxL (t0.args.map fun a => leastT T f a.toNat) else if t0.kind = 2 then minL (t0.args.map fun a => leastT T f a.toNat) else if t0.kind = 3 ∨ t0.kind = 5 ∨ t0.kind = 7 then t0.number else if t0.kind = 4 then min t0.number 2 else if t0.kind = 6 then 2 else 1 := by
      simp only [leastT, ht0]
    have IH : Hid (∀ V, RdT V ta T → ∀ r ∈ t0.args, Calls Tryz.prog 35 #[.agg #[.slice ta T.length tc], .int .i64 r] V fun e w1 => e = .returned (.int .i64 (leastT T f r.toNat)) ∧ Below V.heap.size V w1) := Lib.hid (fun V h3 r hr => by
      have h1 := hargs r hr
      have h2 := ih r.toNat V (by omega) (by omega) h3
      rwa [show ((r.toNat : Nat) : Int) = r by omega] at h2)
    generalize leastT T (f + 1) n = R at *
    generalize leastT T f = HT at *
    have HE := Lib.hid he
    have b1 := (Below.refl w.heap.size w).alloc (Nat.le_refl _) (.cells #[.slice ta T.length tc] 34)
    have h1 := Bx.new w 34 [.slice ta T.length tc]
    change Bx (w.alloc (.cells #[.slice ta T.length tc] 34)) _ _ _ at h1
    have hRT1 := hRT.keep b1
    clear ih hargs he hRT hok
    go_enter Tryz.func35, Tryz.ntmps35
    go_upto_region 1 with (fail)
    generalize w.alloc (.cells #[.slice ta T.length tc] 34) = w1 at *
    obtain ⟨g1, o1, t, rfl, ht, ⟨x0, x1, x2, x3, x4, x5⟩, hA, hIn⟩ := hRT1.trm (k := n) hn
    obtain rfl := Option.some.inj (ht.out.symm.trans ht0)
    have c3 := h1.cell 0 rfl
    have b2 := b1.alloc b1.size (.cells #[.int .i64 t.kind, .int .i64 t.number, .int .i64 t.years, .string ⟨t.field.toArray⟩, .string ⟨t.text.toArray⟩, .slice t.aa t.args.length t.ac] 57)
    have h2 := Bx.new w1 57 (trC t)
    change Bx (w1.alloc (.cells #[.int .i64 t.kind, .int .i64 t.number, .int .i64 t.years, .string ⟨t.field.toArray⟩, .string ⟨t.text.toArray⟩, .slice t.aa t.args.length t.ac] 57)) _ _ _ at h2
    have bq := (Below.refl w1.heap.size w1).alloc (Nat.le_refl _) (.cells #[.int .i64 t.kind, .int .i64 t.number, .int .i64 t.years, .string ⟨t.field.toArray⟩, .string ⟨t.text.toArray⟩, .slice t.aa t.args.length t.ac] 57)
    generalize hg3 : w.heap.size = g3 at *
    have hW : Rl w (w1.alloc (.cells #[.int .i64 t.kind, .int .i64 t.number, .int .i64 t.years, .string ⟨t.field.toArray⟩, .string ⟨t.text.toArray⟩, .slice t.aa t.args.length t.ac] 57)) g3 w1.heap.size (some ⟨g1, o1, none⟩) T tc t := ⟨h1.keep bq, h2, hRT1.keep bq, hA.keep bq, by rw [hg3]; exact b2⟩
    have hal : t.args.length ≤ 9223372036854775807 := Nat.le_trans hIn.2.2.2.2.2 (by decide)
    have hac : t.args.length ≤ t.ac := hIn.2.2.2.2.1
    clear h1 h2 hRT1 hA b1 b2 bq hg3 ht ht0 hIn
    go_upto_region 2 with (fail)
    generalize w1.alloc (.cells #[.int .i64 t.kind, .int .i64 t.number, .int .i64 t.years, .string ⟨t.field.toArray⟩, .string ⟨t.text.toArray⟩, .slice t.aa t.args.length t.ac] 57) = w2 at *
    generalize w1.heap.size = g7 at *
    clear c3 x0 x1 x2 x3 x4 x5
    have z0 := hW.tt.cell 0 rfl
    have z1 := hW.tt.cell 1 rfl
    have HW := Lib.hid hW
    have HB := Lib.hid hW.b
    clear hW
    go_upto_region 3 with (fail)
    obtain ⟨kd, hkd⟩ : ∃ kd, t.kind = kd := ⟨_, rfl⟩
    rw [hkd] at hkind z0 HE htwo ⊢
    have HK := Lib.hid hkd
    clear hkd
    rcases hkind with rfl | rfl | rfl | rfl | rfl | rfl | rfl | rfl
    · replace HE : Hid (R = maxL (t.args.map fun a => HT a.toNat)) := Lib.hid (by rw [HE.out, if_pos rfl])
      have h2 : 2 ≤ t.args.length := htwo (.inl rfl)
      obtain ⟨gx, ox, r0, hga, d0, hr0⟩ := HW.out.a.int (k := 0) (by omega)
      rw [Nat.add_zero] at d0
      have z5 := HW.out.tt.cell 5 rfl
      rw [hga] at z5
      have H2 := Lib.hid h2
      have hal0 : (0 : Int) < (t.args.length : Int) := by omega
      have hal00 : 0 < t.args.length := by omega
      have HGA := Lib.hid hga
      have HD0 := Lib.hid d0
      have HH : Hid (∀ V, Below w2.heap.size w2 V → V.cell? ⟨g3, 0, none⟩ = some (.slice (some ⟨g1, o1, none⟩) T.length tc) ∧ V.cell? ⟨g7, 5, none⟩ = some (.slice (some ⟨gx, ox, none⟩) t.args.length t.ac) ∧ V.cell? ⟨gx, ox, none⟩ = some (.int .i64 r0)) := Lib.hid (fun V hV => by
        have h := HW.out.keep hV
        have h5 := h.tt.cell 5 rfl
        rw [hga] at h5
        exact ⟨h.x.cell 0 rfl, h5, cell_alloc hV HD0.out⟩)
      have K0 : Hid (∀ V, Below w2.heap.size w2 V → Calls Tryz.prog 35 #[.agg #[.slice (some ⟨g1, o1, none⟩) T.length tc], .int .i64 r0] V fun e w1 => e = .returned (.int .i64 (HT r0.toNat)) ∧ Below V.heap.size V w1) := Lib.hid (fun V hV => IH.out V (HW.out.keep hV).r r0 (mem_at hr0))
      obtain ⟨tl, htl⟩ : ∃ tl, t.args.tail = tl := ⟨_, rfl⟩
      have HTL : Hid (tl.length = t.args.length - 1) := Lib.hid (by rw [← htl, List.length_tail])
      have HEF : Hid (R = ((tl.take (t.args.length - 1)).map fun a => HT a.toNat).foldl max (HT r0.toNat)) := Lib.hid (by
        rw [HE.out, ← HTL.out, List.take_length, ← htl]
        have e : t.args = r0 :: t.args.tail := by
          have := hr0.out
          cases hq : t.args with
          | nil => rw [hq] at h2; simp at h2
          | cons a l => rw [hq] at this; simp at this; rw [this]; rfl
        rw [e]; rfl)
      have HST := Lib.hid (fun (k : Nat) (r : Int) (h : Hid (t.args[k + 1]? = some r)) => htl ▸ tail_at h max (fun a => HT a.toNat) (HT r0.toNat))
      clear z0 z1 htl hr0 HE htwo h2 hga d0 z5
      go_upto_region 11 with (fail)
      refine wp_region_held_drew (S := fun w' => w'.cell? ⟨g3, 0, none⟩ = some (.slice (some ⟨g1, o1, none⟩) T.length tc) ∧ w'.cell? ⟨g7, 5, none⟩ = some (.slice (some ⟨gx, ox, none⟩) t.args.length t.ac) ∧ w'.cell? ⟨gx, ox, none⟩ = some (.int .i64 r0)) (by kernel_rfl) (HH.out _ (Below.refl _ _).drew) (fun hHeld => ?_)
      simp only [List.size_toArray, List.length_cons, List.length_nil]
      have hb0 : Below w2.heap.size w2 w2.drew := (Below.refl _ _).drew
      generalize w2.drew = v0 at *
      replace hHeld := id hHeld
      refine held_take (0) (v := ?_) rfl (by kernel_rfl) (by kernel_rfl) (by kernel_rfl) (fun _ _ _ h => h) (Or.inl ⟨by rfl, ?_⟩) (by assumption) ?_
      rotate_left
      · intro w hSw
        try dsimp only at hSw
        go_simp
        with_reducible rfl
      try simp only [Act.put, List.setIfInBounds_toArray, List.set_cons_zero, List.set_cons_succ]
      refine held_take (1) (v := ?_) rfl (by kernel_rfl) (by kernel_rfl) (by kernel_rfl) (fun _ _ _ h => h) (Or.inl ⟨by rfl, ?_⟩) (by assumption) ?_
      rotate_left
      · intro w hSw
        try dsimp only at hSw
        go_simp
        with_reducible rfl
      try simp only [Act.put, List.setIfInBounds_toArray, List.set_cons_zero, List.set_cons_succ]
      refine held_take (2) (v := ?_) rfl (by kernel_rfl) (by kernel_rfl) (by kernel_rfl) (fun _ _ _ h => h) (Or.inl ⟨by rfl, ?_⟩) (by assumption) ?_
      rotate_left
      · intro w hSw
        try dsimp only at hSw
        go_simp
        with_reducible rfl
      try simp only [Act.put, List.setIfInBounds_toArray, List.set_cons_zero, List.set_cons_succ]
      refine held_take (3) (v := ?_) rfl (by kernel_rfl) (by kernel_rfl) (by kernel_rfl) (fun _ _ _ h => h) (Or.inl ⟨by rfl, ?_⟩) (by assumption) ?_
      rotate_left
      · intro w hSw
        try dsimp only at hSw
        go_simp
        with_reducible rfl
      try simp only [Act.put, List.setIfInBounds_toArray, List.set_cons_zero, List.set_cons_succ]
      refine held_take (4) (v := ?_) rfl (by kernel_rfl) (by kernel_rfl) (by kernel_rfl) (fun _ _ _ h => h) (Or.inl ⟨by rfl, ?_⟩) (by assumption) ?_
      rotate_left
      · intro w hSw
        try dsimp only at hSw
        go_simp
        with_reducible rfl
      try simp only [Act.put, List.setIfInBounds_toArray, List.set_cons_zero, List.set_cons_succ]
      refine wpAnyH_ready (rs := [5]) (by kernel_rfl) (by simp) ?_
      refine held_cons rfl (fun K hK => ?_) AllReadyH.nil
      go_simp
      go_at_call 35
      (with_reducible refine (K0.out _ hb0).mono ?_)
      (first | rintro e v1 rfl hb | rintro e v1 ⟨rfl, hb⟩)
      replace hb0 := hb0.trans (hb.mono hb0.size)
      clear hb
      go_wp2_with fail
      refine hK.out _ _ (HH.out _ hb0) (fun hHeld => ?_)
      clear hK K
      try simp only [Act.put, List.setIfInBounds_toArray, List.set_cons_zero, List.set_cons_succ]
      refine held_take (6) (v := ?_) rfl (by kernel_rfl) (by kernel_rfl) (by kernel_rfl) (fun _ _ _ h => h) (Or.inl ⟨by rfl, ?_⟩) (by assumption) ?_
      rotate_left
      · intro w hSw
        try dsimp only at hSw
        go_simp
        with_reducible rfl
      try simp only [Act.put, List.setIfInBounds_toArray, List.set_cons_zero, List.set_cons_succ]
      refine wpAnyH_done (by kernel_rfl) ?_ _
      clear hHeld
      have h2 := H2.out
      have hac1 : ¬ t.ac = 1 := by omega
      have s1 : (1 : Int) ≤ (t.args.length : Int) := by omega
      have s2 : (1 : Int) ≤ (t.ac : Int) := by omega
      have s3 : 1 ≤ t.args.length := by omega
      have s4 : 1 ≤ t.ac := by omega
      have q5 := (HH.out _ hb0).2.1
      clear h2
      have HB0 := Lib.hid hb0
      clear hb0
      go_simp
      go_upto_region 13 with (fail)
      clear q5 s1 s2 s3 s4 hac1
      go_loopw [6, 39] (fun ov iv wr => ∃ k : Nat, k ≤ t.args.length - 1 ∧ iv = .int .i64 (k : Int) ∧ ov = .int .i64 (((tl.take k).map fun a => HT a.toNat).foldl max (HT r0.toNat)) ∧ Below w2.heap.size w2 wr) (fun _ iv _ => t.args.length - (intOf iv).toNat)
      case atStart => exact ⟨0, Nat.zero_le _, rfl, rfl, HB0.out⟩
      case round =>
        obtain ⟨k, hk, rfl, rfl, hB⟩ := hrel
        by_cases hkt : k < t.args.length - 1
        rotate_left
        · have hkl2 : ¬ (k : Int) < ((t.args.length - 1 : Nat) : Int) := by omega
          obtain rfl : k = t.args.length - 1 := by omega
          have HB9 := Lib.hid (HW.out.b.trans (hB.mono HW.out.b.size))
          generalize ((tl.take (t.args.length - 1)).map fun a => HT a.toNat).foldl max (HT r0.toNat) = fo at *
          clear hB IH HST
          go_wp2
          go_ret
          exact ⟨ret_int HEF.out.symm, HB9.out⟩
        have hkl2 : (k : Int) < ((t.args.length - 1 : Nat) : Int) := by omega
        obtain ⟨gy, oy, r, hgb, e0, hr⟩ := (HW.out.a.keep hB).int (k := k + 1) (by omega)
        rw [HGA.out] at hgb
        cases hgb
        have e0' := e0
        rw [show ox + (k + 1) = ox + 1 + k by omega] at e0'
        have K1 := Lib.hid (IH.out wr ((HW.out.keep hB).r) r (mem_at hr))
        have q3 := (HW.out.keep hB).x.cell 0 rfl
        have HQ0 : Hid (∀ V, Below wr.heap.size wr V → V.cell? ⟨g7, 0, none⟩ = some (.int .i64 1)) := Lib.hid (fun V hV => by
          have := ((HW.out.keep hB).keep hV).tt.cell 0 rfl
          rwa [HK.out] at this)
        have HF := Lib.hid (HST.out k r hr)
        generalize ((tl.take k).map fun a => HT a.toNat).foldl max (HT r0.toNat) = fo at *
        generalize HT r.toNat = xr at *
        clear hr
        go_wp2_with (go_at_call 35; (with_reducible refine K1.out.mono ?_); (first | rintro e w5 rfl hb5 | rintro e w5 ⟨rfl, hb5⟩); have q0 := HQ0.out _ hb5)
        go_roundw
        case rel => exact ⟨k + 1, by omega, by go_num, by rw [HF.out], below_tr hB hb5⟩
        case measure => simp [intOf]; omega
    · replace HE : Hid (R = minL (t.args.map fun a => HT a.toNat)) := Lib.hid (by rw [HE.out, if_neg (by decide), if_pos rfl])
      have h2 : 2 ≤ t.args.length := htwo (.inr rfl)
      obtain ⟨gx, ox, r0, hga, d0, hr0⟩ := HW.out.a.int (k := 0) (by omega)
      rw [Nat.add_zero] at d0
      have z5 := HW.out.tt.cell 5 rfl
      rw [hga] at z5
      have H2 := Lib.hid h2
      have hal0 : (0 : Int) < (t.args.length : Int) := by omega
      have hal00 : 0 < t.args.length := by omega
      have HGA := Lib.hid hga
      have HD0 := Lib.hid d0
      have HH : Hid (∀ V, Below w2.heap.size w2 V → V.cell? ⟨g3, 0, none⟩ = some (.slice (some ⟨g1, o1, none⟩) T.length tc) ∧ V.cell? ⟨g7, 5, none⟩ = some (.slice (some ⟨gx, ox, none⟩) t.args.length t.ac) ∧ V.cell? ⟨gx, ox, none⟩ = some (.int .i64 r0)) := Lib.hid (fun V hV => by
        have h := HW.out.keep hV
        have h5 := h.tt.cell 5 rfl
        rw [hga] at h5
        exact ⟨h.x.cell 0 rfl, h5, cell_alloc hV HD0.out⟩)
      have K0 : Hid (∀ V, Below w2.heap.size w2 V → Calls Tryz.prog 35 #[.agg #[.slice (some ⟨g1, o1, none⟩) T.length tc], .int .i64 r0] V fun e w1 => e = .returned (.int .i64 (HT r0.toNat)) ∧ Below V.heap.size V w1) := Lib.hid (fun V hV => IH.out V (HW.out.keep hV).r r0 (mem_at hr0))
      obtain ⟨tl, htl⟩ : ∃ tl, t.args.tail = tl := ⟨_, rfl⟩
      have HTL : Hid (tl.length = t.args.length - 1) := Lib.hid (by rw [← htl, List.length_tail])
      have HEF : Hid (R = ((tl.take (t.args.length - 1)).map fun a => HT a.toNat).foldl min (HT r0.toNat)) := Lib.hid (by
        rw [HE.out, ← HTL.out, List.take_length, ← htl]
        have e : t.args = r0 :: t.args.tail := by
          have := hr0.out
          cases hq : t.args with
          | nil => rw [hq] at h2; simp at h2
          | cons a l => rw [hq] at this; simp at this; rw [this]; rfl
        rw [e]; rfl)
      have HST := Lib.hid (fun (k : Nat) (r : Int) (h : Hid (t.args[k + 1]? = some r)) => htl ▸ tail_at h min (fun a => HT a.toNat) (HT r0.toNat))
      clear z0 z1 htl hr0 HE htwo h2 hga d0 z5
      go_upto_region 11 with (fail)
      refine wp_region_held_drew (S := fun w' => w'.cell? ⟨g3, 0, none⟩ = some (.slice (some ⟨g1, o1, none⟩) T.length tc) ∧ w'.cell? ⟨g7, 5, none⟩ = some (.slice (some ⟨gx, ox, none⟩) t.args.length t.ac) ∧ w'.cell? ⟨gx, ox, none⟩ = some (.int .i64 r0)) (by kernel_rfl) (HH.out _ (Below.refl _ _).drew) (fun hHeld => ?_)
      simp only [List.size_toArray, List.length_cons, List.length_nil]
      have hb0 : Below w2.heap.size w2 w2.drew := (Below.refl _ _).drew
      generalize w2.drew = v0 at *
      replace hHeld := id hHeld
      refine held_take (0) (v := ?_) rfl (by kernel_rfl) (by kernel_rfl) (by kernel_rfl) (fun _ _ _ h => h) (Or.inl ⟨by rfl, ?_⟩) (by assumption) ?_
      rotate_left
      · intro w hSw
        try dsimp only at hSw
        go_simp
        with_reducible rfl
      try simp only [Act.put, List.setIfInBounds_toArray, List.set_cons_zero, List.set_cons_succ]
      refine held_take (1) (v := ?_) rfl (by kernel_rfl) (by kernel_rfl) (by kernel_rfl) (fun _ _ _ h => h) (Or.inl ⟨by rfl, ?_⟩) (by assumption) ?_
      rotate_left
      · intro w hSw
        try dsimp only at hSw
        go_simp
        with_reducible rfl
      try simp only [Act.put, List.setIfInBounds_toArray, List.set_cons_zero, List.set_cons_succ]
      refine held_take (2) (v := ?_) rfl (by kernel_rfl) (by kernel_rfl) (by kernel_rfl) (fun _ _ _ h => h) (Or.inl ⟨by rfl, ?_⟩) (by assumption) ?_
      rotate_left
      · intro w hSw
        try dsimp only at hSw
        go_simp
        with_reducible rfl
      try simp only [Act.put, List.setIfInBounds_toArray, List.set_cons_zero, List.set_cons_succ]
      refine held_take (3) (v := ?_) rfl (by kernel_rfl) (by kernel_rfl) (by kernel_rfl) (fun _ _ _ h => h) (Or.inl ⟨by rfl, ?_⟩) (by assumption) ?_
      rotate_left
      · intro w hSw
        try dsimp only at hSw
        go_simp
        with_reducible rfl
      try simp only [Act.put, List.setIfInBounds_toArray, List.set_cons_zero, List.set_cons_succ]
      refine held_take (4) (v := ?_) rfl (by kernel_rfl) (by kernel_rfl) (by kernel_rfl) (fun _ _ _ h => h) (Or.inl ⟨by rfl, ?_⟩) (by assumption) ?_
      rotate_left
      · intro w hSw
        try dsimp only at hSw
        go_simp
        with_reducible rfl
      try simp only [Act.put, List.setIfInBounds_toArray, List.set_cons_zero, List.set_cons_succ]
      refine wpAnyH_ready (rs := [5]) (by kernel_rfl) (by simp) ?_
      refine held_cons rfl (fun K hK => ?_) AllReadyH.nil
      go_simp
      go_at_call 35
      (with_reducible refine (K0.out _ hb0).mono ?_)
      (first | rintro e v1 rfl hb | rintro e v1 ⟨rfl, hb⟩)
      replace hb0 := hb0.trans (hb.mono hb0.size)
      clear hb
      go_wp2_with fail
      refine hK.out _ _ (HH.out _ hb0) (fun hHeld => ?_)
      clear hK K
      try simp only [Act.put, List.setIfInBounds_toArray, List.set_cons_zero, List.set_cons_succ]
      refine held_take (6) (v := ?_) rfl (by kernel_rfl) (by kernel_rfl) (by kernel_rfl) (fun _ _ _ h => h) (Or.inl ⟨by rfl, ?_⟩) (by assumption) ?_
      rotate_left
      · intro w hSw
        try dsimp only at hSw
        go_simp
        with_reducible rfl
      try simp only [Act.put, List.setIfInBounds_toArray, List.set_cons_zero, List.set_cons_succ]
      refine wpAnyH_done (by kernel_rfl) ?_ _
      clear hHeld
      have h2 := H2.out
      have hac1 : ¬ t.ac = 1 := by omega
      have s1 : (1 : Int) ≤ (t.args.length : Int) := by omega
      have s2 : (1 : Int) ≤ (t.ac : Int) := by omega
      have s3 : 1 ≤ t.args.length := by omega
      have s4 : 1 ≤ t.ac := by omega
      have q5 := (HH.out _ hb0).2.1
      clear h2
      have HB0 := Lib.hid hb0
      clear hb0
      go_simp
      go_upto_region 13 with (fail)
      clear q5 s1 s2 s3 s4 hac1
      go_loopw [6, 39] (fun ov iv wr => ∃ k : Nat, k ≤ t.args.length - 1 ∧ iv = .int .i64 (k : Int) ∧ ov = .int .i64 (((tl.take k).map fun a => HT a.toNat).foldl min (HT r0.toNat)) ∧ Below w2.heap.size w2 wr) (fun _ iv _ => t.args.length - (intOf iv).toNat)
      case atStart => exact ⟨0, Nat.zero_le _, rfl, rfl, HB0.out⟩
      case round =>
        obtain ⟨k, hk, rfl, rfl, hB⟩ := hrel
        by_cases hkt : k < t.args.length - 1
        rotate_left
        · have hkl2 : ¬ (k : Int) < ((t.args.length - 1 : Nat) : Int) := by omega
          obtain rfl : k = t.args.length - 1 := by omega
          have HB9 := Lib.hid (HW.out.b.trans (hB.mono HW.out.b.size))
          generalize ((tl.take (t.args.length - 1)).map fun a => HT a.toNat).foldl min (HT r0.toNat) = fo at *
          clear hB IH HST
          go_wp2
          go_ret
          exact ⟨ret_int HEF.out.symm, HB9.out⟩
        have hkl2 : (k : Int) < ((t.args.length - 1 : Nat) : Int) := by omega
        obtain ⟨gy, oy, r, hgb, e0, hr⟩ := (HW.out.a.keep hB).int (k := k + 1) (by omega)
        rw [HGA.out] at hgb
        cases hgb
        have e0' := e0
        rw [show ox + (k + 1) = ox + 1 + k by omega] at e0'
        have K1 := Lib.hid (IH.out wr ((HW.out.keep hB).r) r (mem_at hr))
        have q3 := (HW.out.keep hB).x.cell 0 rfl
        have HQ0 : Hid (∀ V, Below wr.heap.size wr V → V.cell? ⟨g7, 0, none⟩ = some (.int .i64 2)) := Lib.hid (fun V hV => by
          have := ((HW.out.keep hB).keep hV).tt.cell 0 rfl
          rwa [HK.out] at this)
        have HF := Lib.hid (HST.out k r hr)
        generalize ((tl.take k).map fun a => HT a.toNat).foldl min (HT r0.toNat) = fo at *
        generalize HT r.toNat = xr at *
        clear hr
        go_wp2_with (go_at_call 35; (with_reducible refine K1.out.mono ?_); (first | rintro e w5 rfl hb5 | rintro e w5 ⟨rfl, hb5⟩); have q0 := HQ0.out _ hb5)
        go_roundw
        case rel => exact ⟨k + 1, by omega, by go_num, by rw [HF.out], below_tr hB hb5⟩
        case measure => simp [intOf]; omega
    · replace HE : Hid (R = t.number) := Lib.hid (by rw [HE.out, if_neg (by decide), if_neg (by decide), if_pos (.inl rfl)])
      clear IH htwo
      go_wp2
      go_ret
      exact ⟨ret_int HE.out.symm, HB.out⟩
    · replace HE : Hid (R = min t.number 2) := Lib.hid (by rw [HE.out, if_neg (by decide), if_neg (by decide), if_neg (by decide), if_pos rfl])
      have hmin : (if (2 : Int) < t.number then 2 else t.number) = min t.number 2 := by split <;> omega
      clear IH htwo
      go_wp2
      go_ret
      exact ⟨ret_int HE.out.symm, HB.out⟩
    · replace HE : Hid (R = t.number) := Lib.hid (by rw [HE.out, if_neg (by decide), if_neg (by decide), if_pos (.inr (.inl rfl))])
      clear IH htwo
      go_wp2
      go_ret
      exact ⟨ret_int HE.out.symm, HB.out⟩
    · replace HE : Hid (R = 2) := Lib.hid (by rw [HE.out, if_neg (by decide), if_neg (by decide), if_neg (by decide), if_neg (by decide), if_pos rfl])
      clear IH htwo
      go_wp2
      go_ret
      exact ⟨ret_int HE.out.symm, HB.out⟩
    · replace HE : Hid (R = t.number) := Lib.hid (by rw [HE.out, if_neg (by decide), if_neg (by decide), if_pos (.inr (.inr rfl))])
      clear IH htwo
      go_wp2
      go_ret
      exact ⟨ret_int HE.out.symm, HB.out⟩
    · replace HE : Hid (R = 1) := Lib.hid (by rw [HE.out, if_neg (by decide), if_neg (by decide), if_neg (by decide), if_neg (by decide), if_neg (by decide)])
      clear IH htwo
      go_wp2
      go_ret
      exact ⟨ret_int HE.out.symm, HB.out⟩
set_option maxRecDepth 100000 in
theorem rcleast_walk (T : List Trm) (ta : Option Addr) (tc : Nat) (w : World) (hRT : RdT w ta T) (hT : T.length ≤ 1000) (hS : Spc w) :
    Calls Tryz.prog 20 #[.agg #[.slice ta T.length tc]] w fun e w' => e = .returned (.int .i64 (leastF T)) ∧ Below w.heap.size w w' := by
  have HE : Hid (leastF T = if rightC T = true then leastT T T.length 0 else 0) := Lib.hid rfl
  have b1 := (Below.refl w.heap.size w).alloc (Nat.le_refl _) (.cells #[.slice ta T.length tc] 34)
  have h1 := Bx.new w 34 [.slice ta T.length tc]
  change Bx (w.alloc (.cells #[.slice ta T.length tc] 34)) _ _ _ at h1
  have KV := Lib.hid (rvalid_walk T ta tc _ hT (hRT.keep b1) (hS.keep b1))
  have HR1 := Lib.hid (hRT.keep b1)
  have HRA := Lib.hid (fun (h : rightC T = true) => right_all h)
  obtain ⟨g1, hg1⟩ : ∃ g, g = w.heap.size := ⟨_, rfl⟩
  have hbw : w.heap.size = g1 := hg1.symm
  rw [← hg1] at h1
  have HB := Lib.hid b1
  generalize leastF T = Q at *
  clear hg1 b1 hRT hS hT
  go_enter Tryz.func20, Tryz.ntmps20
  go_upto_region 1 with (fail)
  generalize w.alloc (.cells #[.slice ta T.length tc] 34) = w1 at *
  have c0 := h1.cell 0 rfl
  have H1 := Lib.hid h1
  clear hbw h1
  cases hr : rightC T with
  | false =>
    rw [hr] at KV
    have HR : Hid (Q = 0) := Lib.hid (by rw [HE.out, hr]; rfl)
    clear HE hr HRA
    go_wp2_with (go_at_call 18; (with_reducible refine KV.out.mono ?_); (first | rintro e w2 rfl hb2 | rintro e w2 ⟨rfl, hb2⟩))
    go_ret
    exact ⟨ret_int HR.out.symm, below_tr HB.out hb2⟩
  | true =>
    rw [hr] at KV
    have KV2 : Hid (Calls Tryz.prog 18 #[.agg #[.slice ta T.length tc]] w1 fun e w' => e = .returned (.bool true) ∧ Below w1.heap.size w1 w') := KV
    obtain ⟨-, h0, hseg⟩ := HRA.out hr
    have HR : Hid (Q = leastT T T.length 0) := Lib.hid (by rw [HE.out, if_pos hr])
    have KL : Hid (∀ V, Below w1.heap.size w1 V → Calls Tryz.prog 35 #[.agg #[.slice ta T.length tc], .int .i64 0] V fun e w' => e = .returned (.int .i64 (leastT T T.length 0)) ∧ Below V.heap.size V w') := Lib.hid (fun V hV => rleast_walk T ta tc hseg T.length 0 V h0 (by omega) (HR1.out.keep hV))
    generalize leastT T T.length 0 = L at *
    clear HE hr HRA KV h0 hseg
    go_wp2_with (first
      | (go_at_call 18; (with_reducible refine KV2.out.mono ?_); (first | rintro e w2 rfl hb2 | rintro e w2 ⟨rfl, hb2⟩); have c2 := (H1.out.keep hb2).cell 0 rfl)
      | (go_at_call 35; (with_reducible refine (KL.out _ hb2).mono ?_); (first | rintro e w3 rfl hb3 | rintro e w3 ⟨rfl, hb3⟩)))
    go_ret
    exact ⟨ret_int HR.out.symm, below_tr HB.out (below_tr hb2 hb3)⟩
end Go.Proofs.YtejdaeonknpgeaaGreatDoor
