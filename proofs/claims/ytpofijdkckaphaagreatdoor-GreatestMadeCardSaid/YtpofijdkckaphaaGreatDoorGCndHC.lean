/- Conditions: whether a term holds: the reference's, walked. -/
import Derived.Test.YtpofijdkckaphaaGreatDoorGCndHA
namespace Go.Proofs.YtpofijdkckaphaaGreatDoor
open Go.RowKit
theorem all_take {p : Int → Bool} {l : List Int} {k : Nat} {r : Int} (h : Hid (l[k]? = some r)) : (l.take (k + 1)).all p = ((l.take k).all p && p r) ∧ (l.take (k + 1)).any p = ((l.take k).any p || p r) := by
  rw [take_at h, List.all_append, List.any_append]
  simp
set_option maxRecDepth 100000 in
set_option maxHeartbeats 16000000 in
theorem rterm17_walk (T : List Trm) (ta : Option Addr) (tc : Nat) (hS : Seg T 0 T.length) (m : Mem) (O L : List Mem) (hL : L = m :: O) (hp : ∀ y ∈ O, y.person ≠ m.person) (hl : L.length ≤ 1000000) (oa : Option Addr) (oc : Nat) : ∀ (f n : Nat) (w : World), n < T.length → T.length - n ≤ f → RdT w ta T → RdM w oa L →
    Calls Tryz.prog 74 #[.agg #[.slice ta T.length tc], .int .i64 (n : Int), .slice oa L.length oc] w fun e w' => e = .returned (.bool (holdsT wiF T m O f n)) ∧ Below w.heap.size w w' := by
  intro f
  induction f with
  | zero => intro n w hn hf; omega
  | succ f ih =>
    intro n w hn hf hRT hRM
    have hnl : (n : Int) < (T.length : Int) := by omega
    obtain ⟨t0, ht0, hok, hargs⟩ := hS n (Nat.zero_le _) hn
    have hkind := okT_kind hok
    have he : holdsT wiF T m O (f + 1) n = if t0.kind = 1 then t0.args.all (fun a => holdsT wiF T m O f a.toNat) else if t0.kind = 2 then t0.args.any (fun a => holdsT wiF T m O f a.toNat) else leafT wiF t0 m O := by
      simp only [holdsT, ht0]
    have IH : Hid (∀ V, RdT V ta T → RdM V oa L → ∀ r ∈ t0.args, Calls Tryz.prog 74 #[.agg #[.slice ta T.length tc], .int .i64 r, .slice oa L.length oc] V fun e w1 => e = .returned (.bool (holdsT wiF T m O f r.toNat)) ∧ Below V.heap.size V w1) := Lib.hid (fun V h3 h4 r hr => by
      have h1 := hargs r hr
      have h2 := ih r.toNat V (by omega) (by omega) h3 h4
      rwa [show ((r.toNat : Nat) : Int) = r by omega] at h2)
    generalize holdsT wiF T m O (f + 1) n = R at *
    generalize holdsT wiF T m O f = HT at *
    have HE := Lib.hid he
    have b1 := (Below.refl w.heap.size w).alloc (Nat.le_refl _) (.cells #[.slice ta T.length tc] 42)
    have h1 := Bx.new w 42 [.slice ta T.length tc]
    change Bx (w.alloc (.cells #[.slice ta T.length tc] 42)) _ _ _ at h1
    have hRT1 := hRT.keep b1
    have hRM1 := hRM.keep b1
    clear ih hargs he hRT hRM
    go_enter Tryz.func74, Tryz.ntmps74
    go_upto_region 1 with (fail)
    generalize w.alloc (.cells #[.slice ta T.length tc] 42) = w1 at *
    obtain ⟨g1, o1, t, rfl, ht, ⟨x0, x1, x2, x3, x4, x5⟩, hA, hIn⟩ := hRT1.trm (k := n) hn
    obtain rfl := Option.some.inj (ht.out.symm.trans ht0)
    have c3 := h1.cell 0 rfl
    have b2 := b1.alloc b1.size (.cells #[.int .i64 t.kind, .int .i64 t.number, .int .i64 t.years, .string ⟨t.field.toArray⟩, .string ⟨t.text.toArray⟩, .slice t.aa t.args.length t.ac] 50)
    have h2 := Bx.new w1 50 (trC t)
    change Bx (w1.alloc (.cells #[.int .i64 t.kind, .int .i64 t.number, .int .i64 t.years, .string ⟨t.field.toArray⟩, .string ⟨t.text.toArray⟩, .slice t.aa t.args.length t.ac] 50)) _ _ _ at h2
    have bq := (Below.refl w1.heap.size w1).alloc (Nat.le_refl _) (.cells #[.int .i64 t.kind, .int .i64 t.number, .int .i64 t.years, .string ⟨t.field.toArray⟩, .string ⟨t.text.toArray⟩, .slice t.aa t.args.length t.ac] 50)
    generalize hg3 : w.heap.size = g3 at *
    have hW : Rw w (w1.alloc (.cells #[.int .i64 t.kind, .int .i64 t.number, .int .i64 t.years, .string ⟨t.field.toArray⟩, .string ⟨t.text.toArray⟩, .slice t.aa t.args.length t.ac] 50)) g3 w1.heap.size (some ⟨g1, o1, none⟩) T tc oa L t := ⟨h1.keep bq, h2, hRT1.keep bq, hRM1.keep bq, hA.keep bq, by rw [hg3]; exact b2⟩
    have hal : t.args.length ≤ 9223372036854775807 := Nat.le_trans hIn.2.2.2.2.2 (by decide)
    have HIn := Lib.hid hIn
    clear h1 h2 hRT1 hRM1 hA b1 b2 bq hg3 ht ht0 hIn
    go_upto_region 2 with (fail)
    generalize w1.alloc (.cells #[.int .i64 t.kind, .int .i64 t.number, .int .i64 t.years, .string ⟨t.field.toArray⟩, .string ⟨t.text.toArray⟩, .slice t.aa t.args.length t.ac] 50) = w2 at *
    generalize w1.heap.size = g7 at *
    clear c3 x0 x1 x2 x3 x4 x5
    have z0 := hW.tt.cell 0 rfl
    have z1 := hW.tt.cell 1 rfl
    have HW := Lib.hid hW
    have HOK := Lib.hid hok
    have HL := Lib.hid hL
    have HPn := Lib.hid hp
    have HL0 : Hid (L[0]? = some m) := Lib.hid (by rw [hL]; rfl)
    have hL1 : 0 < L.length := by rw [hL]; exact Nat.succ_pos _
    have hL1i : (0 : Int) < (L.length : Int) := by omega
    clear hW hok hL hp
    go_upto_region 4 with (fail)
    obtain ⟨kd, hkd⟩ : ∃ kd, t.kind = kd := ⟨_, rfl⟩
    rw [hkd] at hkind z0 HE ⊢
    have HK := Lib.hid hkd
    clear hkd
    rcases hkind with rfl | rfl | rfl | rfl | rfl | rfl | rfl | rfl
    · replace HE : Hid (R = t.args.all fun a => HT a.toNat) := Lib.hid (by rw [HE.out, if_pos rfl])
      have z5 := HW.out.tt.cell 5 rfl
      go_upto_region 8 with (fail)
      clear z0 z1 z5
      go_loopw [9, 10, 36] (fun av ov iv wr => ∃ k : Nat, k ≤ t.args.length ∧ iv = .int .i64 (k : Int) ∧ av = .bool ((t.args.take k).all fun a => HT a.toNat) ∧ ov = .bool ((t.args.take k).any fun a => HT a.toNat) ∧ Below w2.heap.size w2 wr) (fun _ _ iv _ => t.args.length - (intOf iv).toNat)
      case atStart => exact ⟨0, Nat.zero_le _, rfl, rfl, rfl, Below.refl _ _⟩
      case round =>
        obtain ⟨k, hk, rfl, rfl, rfl, hB⟩ := hrel
        by_cases hkt : k < t.args.length
        rotate_left
        · have hkl : ¬ (k : Int) < (t.args.length : Int) := by omega
          obtain rfl : k = t.args.length := by omega
          rw [List.take_length]
          have q0 := (HW.out.tt.keep hB).cell 0 rfl
          rw [HK.out] at q0
          have HB := Lib.hid (HW.out.b.trans (hB.mono HW.out.b.size))
          generalize (t.args.all fun a => HT a.toNat) = bA at *
          generalize (t.args.any fun a => HT a.toNat) = bO at *
          clear hB IH
          cases bA
          all_goals
            cases bO
            all_goals
              go_wp2
              go_ret
              exact ⟨ret_bool HE.out.symm, HB.out⟩
        have hkl : (k : Int) < (t.args.length : Int) := by omega
        obtain ⟨gx, ox, r, hga, d0, hr⟩ := (HW.out.a.keep hB).int (k := k) hkt
        rw [hga]
        have K1 := Lib.hid (IH.out wr ((HW.out.keep hB).r) ((HW.out.keep hB).m) r (mem_at hr))
        have q3 := (HW.out.keep hB).x.cell 0 rfl
        obtain ⟨hAA, hOO⟩ := all_take (p := fun a => HT a.toNat) hr
        generalize ((t.args.take k).all fun a => HT a.toNat) = bA at *
        generalize ((t.args.take k).any fun a => HT a.toNat) = bO at *
        generalize HT r.toNat = xr at *
        have HAA : Hid (((t.args.take (k + 1)).all fun a => HT a.toNat) = (bA && xr)) := Lib.hid hAA
        have HOO : Hid (((t.args.take (k + 1)).any fun a => HT a.toNat) = (bO || xr)) := Lib.hid hOO
        clear hAA hOO hr
        cases bA
        all_goals
          cases bO
          all_goals
            go_wp2_with (go_at_call 74; (with_reducible refine K1.out.mono ?_); (first | rintro e w5 rfl hb5 | rintro e w5 ⟨rfl, hb5⟩))
            go_roundw
            case rel => exact ⟨k + 1, by omega, by go_num, by rw [HAA.out]; rfl, by rw [HOO.out]; rfl, below_tr hB hb5⟩
            case measure => simp [intOf]; omega
    · replace HE : Hid (R = t.args.any fun a => HT a.toNat) := Lib.hid (by rw [HE.out, if_neg (by decide), if_pos rfl])
      have z5 := HW.out.tt.cell 5 rfl
      go_upto_region 8 with (fail)
      clear z0 z1 z5
      go_loopw [9, 10, 36] (fun av ov iv wr => ∃ k : Nat, k ≤ t.args.length ∧ iv = .int .i64 (k : Int) ∧ av = .bool ((t.args.take k).all fun a => HT a.toNat) ∧ ov = .bool ((t.args.take k).any fun a => HT a.toNat) ∧ Below w2.heap.size w2 wr) (fun _ _ iv _ => t.args.length - (intOf iv).toNat)
      case atStart => exact ⟨0, Nat.zero_le _, rfl, rfl, rfl, Below.refl _ _⟩
      case round =>
        obtain ⟨k, hk, rfl, rfl, rfl, hB⟩ := hrel
        by_cases hkt : k < t.args.length
        rotate_left
        · have hkl : ¬ (k : Int) < (t.args.length : Int) := by omega
          obtain rfl : k = t.args.length := by omega
          rw [List.take_length]
          have q0 := (HW.out.tt.keep hB).cell 0 rfl
          rw [HK.out] at q0
          have HB := Lib.hid (HW.out.b.trans (hB.mono HW.out.b.size))
          generalize (t.args.all fun a => HT a.toNat) = bA at *
          generalize (t.args.any fun a => HT a.toNat) = bO at *
          clear hB IH
          cases bA
          all_goals
            cases bO
            all_goals
              go_wp2
              go_ret
              exact ⟨ret_bool HE.out.symm, HB.out⟩
        have hkl : (k : Int) < (t.args.length : Int) := by omega
        obtain ⟨gx, ox, r, hga, d0, hr⟩ := (HW.out.a.keep hB).int (k := k) hkt
        rw [hga]
        have K1 := Lib.hid (IH.out wr ((HW.out.keep hB).r) ((HW.out.keep hB).m) r (mem_at hr))
        have q3 := (HW.out.keep hB).x.cell 0 rfl
        obtain ⟨hAA, hOO⟩ := all_take (p := fun a => HT a.toNat) hr
        generalize ((t.args.take k).all fun a => HT a.toNat) = bA at *
        generalize ((t.args.take k).any fun a => HT a.toNat) = bO at *
        generalize HT r.toNat = xr at *
        have HAA : Hid (((t.args.take (k + 1)).all fun a => HT a.toNat) = (bA && xr)) := Lib.hid hAA
        have HOO : Hid (((t.args.take (k + 1)).any fun a => HT a.toNat) = (bO || xr)) := Lib.hid hOO
        clear hAA hOO hr
        cases bA
        all_goals
          cases bO
          all_goals
            go_wp2_with (go_at_call 74; (with_reducible refine K1.out.mono ?_); (first | rintro e w5 rfl hb5 | rintro e w5 ⟨rfl, hb5⟩))
            go_roundw
            case rel => exact ⟨k + 1, by omega, by go_num, by rw [HAA.out]; rfl, by rw [HOO.out]; rfl, below_tr hB hb5⟩
            case measure => simp [intOf]; omega
    · replace HE : Hid (R = decide ((dst (L.map Mem.person) : Int) ≥ t.number)) := Lib.hid (by rw [HE.out, if_neg (by decide), if_neg (by decide), leaf3 HPn.out HK.out, ← HL.out])
      have KP : Hid (∀ V, Below w2.heap.size w2 V → Calls Tryz.prog 82 #[.slice oa L.length oc] V fun e w' => e = .returned (.int .i64 (dst (L.map Mem.person) : Int)) ∧ Below V.heap.size V w') := Lib.hid (fun V hV => rpers_walk L oa oc V (HW.out.m.keep hV) (by omega))
      generalize (dst (L.map Mem.person) : Int) = dn at *
      clear z0 z1
      go_upto_region 17 with (fail)
      have hT7 := HW.out.tt
      have hbw := HW.out.b
      refine wp_region_held_drew (S := fun w' => w'.cell? ⟨g7, 1, none⟩ = some (.int .i64 t.number)) (by kernel_rfl) ((hT7.keep (Below.refl _ _).drew).cell 1 rfl) (fun hHeld => ?_)
      simp only [List.size_toArray, List.length_cons, List.length_nil]
      have hb0 : Below w2.heap.size w2 w2.drew := (Below.refl _ _).drew
      generalize w2.drew = v0 at *
      replace hHeld := id hHeld
      refine held_take (0) (v := ?_) rfl (by kernel_rfl) (by kernel_rfl) (by kernel_rfl) (fun _ _ _ h => h) (Or.inl ⟨by rfl, ?_⟩) (by assumption) ?_
      rotate_left
      · intro w hSw
        try dsimp only at hSw
        go_simp
        with_reducible rfl
      try simp only [Act.put, List.setIfInBounds_toArray, List.set_cons_zero, List.set_cons_succ]
      refine held_take (2) (v := ?_) rfl (by kernel_rfl) (by kernel_rfl) (by kernel_rfl) (fun _ _ _ h => h) (Or.inl ⟨by rfl, ?_⟩) (by assumption) ?_
      rotate_left
      · intro w hSw
        try dsimp only at hSw
        go_simp
        with_reducible rfl
      try simp only [Act.put, List.setIfInBounds_toArray, List.set_cons_zero, List.set_cons_succ]
      refine held_take (3) (v := ?_) rfl (by kernel_rfl) (by kernel_rfl) (by kernel_rfl) (fun _ _ _ h => h) (Or.inl ⟨by rfl, ?_⟩) (by assumption) ?_
      rotate_left
      · intro w hSw
        try dsimp only at hSw
        go_simp
        with_reducible rfl
      try simp only [Act.put, List.setIfInBounds_toArray, List.set_cons_zero, List.set_cons_succ]
      refine wpAnyH_ready (rs := [1]) (by kernel_rfl) (by simp) ?_
      refine held_cons rfl (fun K hK => ?_) AllReadyH.nil
      go_simp
      go_at_call 82
      (with_reducible refine (KP.out _ hb0).mono ?_)
      (first | rintro e v1 rfl hb | rintro e v1 ⟨rfl, hb⟩)
      replace hb0 := hb0.trans (hb.mono hb0.size)
      clear hb
      go_wp2_with fail
      refine hK.out _ _ ((hT7.keep hb0).cell 1 rfl) (fun hHeld => ?_)
      clear hK K
      try simp only [Act.put, List.setIfInBounds_toArray, List.set_cons_zero, List.set_cons_succ]
      refine held_take (4) (v := ?_) rfl (by kernel_rfl) (by kernel_rfl) (by kernel_rfl) (fun _ _ _ h => h) (Or.inl ⟨by rfl, ?_⟩) (by assumption) ?_
      rotate_left
      · intro w hSw
        try dsimp only at hSw
        go_simp
        with_reducible rfl
      try simp only [Act.put, List.setIfInBounds_toArray, List.set_cons_zero, List.set_cons_succ]
      refine held_take (5) (v := ?_) rfl (by kernel_rfl) (by kernel_rfl) (by kernel_rfl) (fun _ _ _ h => h) (Or.inl ⟨by rfl, ?_⟩) (by assumption) ?_
      rotate_left
      · intro w hSw
        try dsimp only at hSw
        go_simp
        with_reducible rfl
      try simp only [Act.put, List.setIfInBounds_toArray, List.set_cons_zero, List.set_cons_succ]
      refine wpAnyH_done (by kernel_rfl) ?_ _
      clear hHeld hT7
      have hB9 := Lib.hid (hbw.trans (hb0.mono hbw.size))
      clear hb0
      go_simp
      go_wp2_with fail
      go_ret
      exact ⟨ret_bool HE.out.symm, hB9.out⟩
    · replace HE : Hid (R = decide ((dst (L.map Mem.dept) : Int) ≥ t.number)) := Lib.hid (by rw [HE.out, if_neg (by decide), if_neg (by decide), leaf4 HK.out, ← HL.out])
      have hm0 := MpI.new w2
      have hbm := (Below.refl w2.heap.size w2).alloc (Nat.le_refl _) (.map #[] 0)
      have hmk : ∀ V, (Instr.makeMap 106 none).run Tryz.prog V = .ok (.map (some V.heap.size)) (V.alloc (.map #[] 0)) := fun V => rfl
      clear z0 z1 IH
      go_upto_region 20 with (fail)
      generalize w2.alloc (.map #[] 0) = w3 at *
      obtain ⟨gm, hgm⟩ : ∃ g, g = w2.heap.size := ⟨_, rfl⟩
      rw [← hgm] at hm0 ⊢
      have HG := Lib.hid hgm
      clear hgm hmk
      go_wp2_with fail
      go_loopw [81] (fun i wr => ∃ j : Nat, j ≤ L.length ∧ i = .int .i64 (j : Int) ∧ Below w2.heap.size w2 wr ∧ MpI wr gm j ((L.take j).map Mem.dept)) (fun i _ => L.length - (intOf i).toNat)
      case atStart => exact ⟨0, Nat.zero_le _, rfl, hbm, hm0⟩
      case round =>
        clear hbm hm0
        obtain ⟨j, hj, rfl, hb, hM⟩ := hrel
        by_cases hjt : j < L.length
        rotate_left
        · have hjl : ¬ (j : Int) < (L.length : Int) := by omega
          obtain rfl : j = L.length := by omega
          rw [List.take_length] at hM
          have hown : World.ownsMap wr Tryz.prog 3 bElem gm L.length _ := hM
          have hS := MpI.size (L := L.map Mem.dept)
          have q1 := (HW.out.keep hb).tt.cell 1 rfl
          have HB := Lib.hid (HW.out.b.trans (hb.mono HW.out.b.size))
          rw [← hS] at HE
          clear hb hM hS
          go_wp2_with (at_len; refine wpList_len_own _ rfl _ 106 rfl 3 4 Tryz.underlying106 _ gm _ _ rfl hown ?_)
          go_ret
          exact ⟨ret_bool HE.out.symm, HB.out⟩
        have hjl : (j : Int) < (L.length : Int) := by omega
        obtain ⟨g', o', y, hoa, hy, ⟨x0, x1, x2, x3, x4⟩, -, hIy⟩ := (HW.out.m.keep hb).mem (k := j) hjt
        subst hoa
        have hbL := (Below.refl wr.heap.size wr).alloc (Nat.le_refl _) (.cells #[.string ⟨y.person.toArray⟩, .int .i64 y.number, .int .i64 y.dept, .int .i64 y.day, .slice y.aa y.ans.length y.ac] 39)
        have hY := Bx.new wr 39 [.string ⟨y.person.toArray⟩, .int .i64 y.number, .int .i64 y.dept, .int .i64 y.day, .slice y.aa y.ans.length y.ac]
        change Bx (wr.alloc (.cells #[.string ⟨y.person.toArray⟩, .int .i64 y.number, .int .i64 y.dept, .int .i64 y.day, .slice y.aa y.ans.length y.ac] 39)) _ _ _ at hY
        have hM1 := hM.keep hbL
        have hb1 := hb.trans (hbL.mono hb.size)
        have HTK : Hid ((L.take (j + 1)).map Mem.dept = (L.take j).map Mem.dept ++ [y.dept]) := Lib.hid (by rw [take_at hy, List.map_append]; rfl)
        clear hM hb hbL hy
        go_upto_region 23 with (fail)
        generalize wr.alloc (.cells #[.string ⟨y.person.toArray⟩, .int .i64 y.number, .int .i64 y.dept, .int .i64 y.day, .slice y.aa y.ans.length y.ac] 39) = w4 at *
        generalize wr.heap.size = gy at *
        clear x0 x1 x2 x3 x4
        have q2 := hY.cell 2 rfl
        have hkey := key_i hIy.2.1.2.1
        have hown : World.ownsMap w4 Tryz.prog 3 bElem gm j _ := hM1
        have HB1 := Lib.hid hb1
        clear hM1 hIy hY hb1
        go_wp2_with (first
            | (at_mapUpdate; refine wpList_mapUpdate_own _ rfl _ _ _ 106 rfl 3 4 keyed_i Tryz.underlying106 bElem gm j _ rfl hown (by unfold maxLen; omega) _ _ _ rfl rfl hkey _ [] (plainElem_bool Tryz.underlying4 true) ?_; intro w5 hown1 hgrow1))
        have hM3 : MpI w5 gm (j + 1) ((L.take (j + 1)).map Mem.dept) := by
          rw [HTK.out]
          show World.ownsMap _ _ _ _ _ _ _
          rw [gset_snoc]; exact hown1
        have HB3 := Lib.hid (HB1.out.grown hgrow1 HB1.out.size (fun j hj => by cases hj; rw [HG.out]; exact Nat.le_refl _))
        have HM3 := Lib.hid hM3
        clear hM3 hown hown1 hgrow1
        go_roundw
        case rel => exact ⟨j + 1, by omega, by go_num, HB3.out, HM3.out⟩
        case measure => simp [intOf]; omega
    · replace HE : Hid (R = decide ((dst ((selN (fun i (y : Mem) => decide (i = 0) || wiF m.day y.day t.years) L L.length).map Mem.person) : Int) ≥ t.number)) := Lib.hid (by
        have e : selN (fun i (y : Mem) => decide (i = 0) || wiF m.day y.day t.years) L L.length = m :: O.filter fun y => wiF m.day y.day t.years := by
          rw [HL.out, List.length_cons]
          refine (selN_first (q := fun y => wiF m.day y.day t.years) (by simp) (fun i y => by simp) (Nat.le_refl _)).trans ?_
          rw [List.take_length]
        rw [HE.out, if_neg (by decide), if_neg (by decide), leaf5 HPn.out HK.out, e])
      obtain ⟨gl, ol, ml, rfl, hml, ⟨-, -, -, l3, -⟩, -, -⟩ := HW.out.m.mem (k := 0) hL1
      obtain rfl := Option.some.inj (hml.out.symm.trans HL0.out)
      rw [Nat.zero_mul, Nat.add_zero] at l3
      have HL3 := Lib.hid l3
      have z2 := HW.out.tt.cell 2 rfl
      have HZ2 := Lib.hid z2
      clear z0 z1 l3 hml IH z2
      have HSB := Lib.hid (fun j (y : Mem) (hy : y ∈ selN (fun i (y : Mem) => decide (i = 0) || wiF ml.day y.day t.years) L j) => selN_sub (p := (fun i (y : Mem) => decide (i = 0) || wiF ml.day y.day t.years)) hy)
      have HSN := Lib.hid (fun (j : Nat) (y : Mem) (hy : Hid (L[j]? = some y)) (h : (decide (j = 0) || wiF ml.day y.day t.years) = false) => selN_no (p := (fun i (y : Mem) => decide (i = 0) || wiF ml.day y.day t.years)) hy h)
      have HSY := Lib.hid (fun (j : Nat) (y : Mem) (hy : Hid (L[j]? = some y)) (h : (decide (j = 0) || wiF ml.day y.day t.years) = true) => selN_yes (p := (fun i (y : Mem) => decide (i = 0) || wiF ml.day y.day t.years)) hy h)
      have HSL := Lib.hid (fun j => selN_len (p := (fun i (y : Mem) => decide (i = 0) || wiF ml.day y.day t.years)) (L := L) j)
      have hS0 : selN (fun i (y : Mem) => decide (i = 0) || wiF ml.day y.day t.years) L 0 = [] := rfl
      generalize hsel : selN (fun i (y : Mem) => decide (i = 0) || wiF ml.day y.day t.years) L = SL at *
      have hO0 : Ow w2 w2.heap.size 5 none 0 0 (rowsC mmC (SL 0)) := by rw [hS0]; exact Ow.nil _ _ _
      clear hsel
      go_upto_region 36 with (fail)
      go_loopw [8, 114] (fun sv iv wr => ∃ (j n : Nat) (a : Option Addr) (c : Nat), j ≤ L.length ∧ iv = .int .i64 (j : Int) ∧ sv = .slice a n c ∧ Ow wr w2.heap.size 5 a n c (rowsC mmC (SL j)) ∧ Hid ((SL j).length = n) ∧ Below w2.heap.size w2 wr) (fun _ iv _ => L.length - (intOf iv).toNat)
      case atStart => exact ⟨0, 0, none, 0, Nat.zero_le _, rfl, rfl, hO0, Lib.hid (by rw [hS0]; rfl), Below.refl _ _⟩
      case round =>
        clear hO0 hS0
        obtain ⟨j, n, a, c, hj, rfl, rfl, hO, hn, hb⟩ := hrel
        by_cases hjt : j < L.length
        rotate_left
        · have hjl : ¬ (j : Int) < (L.length : Int) := by omega
          obtain rfl : j = L.length := by omega
          have hRS := (HW.out.m.keep hb).sel (HSB.out L.length) hO.rd
          have hnL : n ≤ L.length := by rw [← hn.out]; exact HSL.out _
          have KP : Hid (∀ V, Below wr.heap.size wr V → Calls Tryz.prog 82 #[.slice a n c] V fun e w' => e = .returned (.int .i64 (dst ((SL L.length).map Mem.person) : Int)) ∧ Below V.heap.size V w') := Lib.hid (fun V hV => by
            have := rpers_walk (SL L.length) a c V (hRS.keep hV) (by rw [hn.out]; omega)
            rwa [hn.out] at this)
          have hT7 := (HW.out.keep hb).tt
          have hbw := HW.out.b.trans (hb.mono HW.out.b.size)
          generalize (dst ((SL L.length).map Mem.person) : Int) = dn at *
          clear hO hRS hb
          go_upto_region 48 with (fail)
          refine wp_region_held_drew (S := fun w' => w'.cell? ⟨g7, 1, none⟩ = some (.int .i64 t.number)) (by kernel_rfl) ((hT7.keep (Below.refl _ _).drew).cell 1 rfl) (fun hHeld => ?_)
          simp only [List.size_toArray, List.length_cons, List.length_nil]
          have hb0 : Below wr.heap.size wr wr.drew := (Below.refl _ _).drew
          generalize wr.drew = v0 at *
          replace hHeld := id hHeld
          refine held_take (0) (v := ?_) rfl (by kernel_rfl) (by kernel_rfl) (by kernel_rfl) (fun _ _ _ h => h) (Or.inl ⟨by rfl, ?_⟩) (by assumption) ?_
          rotate_left
          · intro w hSw
            try dsimp only at hSw
            go_simp
            with_reducible rfl
          try simp only [Act.put, List.setIfInBounds_toArray, List.set_cons_zero, List.set_cons_succ]
          refine held_take (2) (v := ?_) rfl (by kernel_rfl) (by kernel_rfl) (by kernel_rfl) (fun _ _ _ h => h) (Or.inl ⟨by rfl, ?_⟩) (by assumption) ?_
          rotate_left
          · intro w hSw
            try dsimp only at hSw
            go_simp
            with_reducible rfl
          try simp only [Act.put, List.setIfInBounds_toArray, List.set_cons_zero, List.set_cons_succ]
          refine held_take (3) (v := ?_) rfl (by kernel_rfl) (by kernel_rfl) (by kernel_rfl) (fun _ _ _ h => h) (Or.inl ⟨by rfl, ?_⟩) (by assumption) ?_
          rotate_left
          · intro w hSw
            try dsimp only at hSw
            go_simp
            with_reducible rfl
          try simp only [Act.put, List.setIfInBounds_toArray, List.set_cons_zero, List.set_cons_succ]
          refine wpAnyH_ready (rs := [1]) (by kernel_rfl) (by simp) ?_
          refine held_cons rfl (fun K hK => ?_) AllReadyH.nil
          go_simp
          go_at_call 82
          (with_reducible refine (KP.out _ hb0).mono ?_)
          (first | rintro e v1 rfl hb | rintro e v1 ⟨rfl, hb⟩)
          replace hb0 := hb0.trans (hb.mono hb0.size)
          clear hb
          go_wp2_with fail
          refine hK.out _ _ ((hT7.keep hb0).cell 1 rfl) (fun hHeld => ?_)
          clear hK K
          try simp only [Act.put, List.setIfInBounds_toArray, List.set_cons_zero, List.set_cons_succ]
          refine held_take (4) (v := ?_) rfl (by kernel_rfl) (by kernel_rfl) (by kernel_rfl) (fun _ _ _ h => h) (Or.inl ⟨by rfl, ?_⟩) (by assumption) ?_
          rotate_left
          · intro w hSw
            try dsimp only at hSw
            go_simp
            with_reducible rfl
          try simp only [Act.put, List.setIfInBounds_toArray, List.set_cons_zero, List.set_cons_succ]
          refine held_take (5) (v := ?_) rfl (by kernel_rfl) (by kernel_rfl) (by kernel_rfl) (fun _ _ _ h => h) (Or.inl ⟨by rfl, ?_⟩) (by assumption) ?_
          rotate_left
          · intro w hSw
            try dsimp only at hSw
            go_simp
            with_reducible rfl
          try simp only [Act.put, List.setIfInBounds_toArray, List.set_cons_zero, List.set_cons_succ]
          refine wpAnyH_done (by kernel_rfl) ?_ _
          clear hHeld hT7
          have hB9 := Lib.hid (hbw.trans (hb0.mono hbw.size))
          clear hb0
          go_simp
          go_wp2_with fail
          go_ret
          exact ⟨ret_bool HE.out.symm, hB9.out⟩
        have hjl : (j : Int) < (L.length : Int) := by omega
        obtain ⟨g', o', y, hoa, hy, ⟨x0, x1, x2, x3, x4⟩, hAy, hIy⟩ := (HW.out.m.keep hb).mem (k := j) hjt
        cases hoa
        have hbL := (Below.refl wr.heap.size wr).alloc (Nat.le_refl _) (.cells #[.string ⟨y.person.toArray⟩, .int .i64 y.number, .int .i64 y.dept, .int .i64 y.day, .slice y.aa y.ans.length y.ac] 39)
        have hY := Bx.new wr 39 [.string ⟨y.person.toArray⟩, .int .i64 y.number, .int .i64 y.dept, .int .i64 y.day, .slice y.aa y.ans.length y.ac]
        change Bx (wr.alloc (.cells #[.string ⟨y.person.toArray⟩, .int .i64 y.number, .int .i64 y.dept, .int .i64 y.day, .slice y.aa y.ans.length y.ac] 39)) _ _ _ at hY
        have hb1 := hb.trans (hbL.mono hb.size)
        have hO1 := hO.keep hbL
        have hAy1 := hAy.keep hbL
        have HNO := Lib.hid (HSN.out j y hy)
        have HYE := Lib.hid (HSY.out j y hy)
        have hnj : n ≤ j := by rw [← hn.out]; exact HSL.out _
        clear hO hb hbL hy hAy
        go_upto_region 38 with (fail)
        generalize wr.alloc (.cells #[.string ⟨y.person.toArray⟩, .int .i64 y.number, .int .i64 y.dept, .int .i64 y.day, .slice y.aa y.ans.length y.ac] 39) = w4 at *
        generalize wr.heap.size = gy at *
        clear x0 x1 x2 x3 x4
        have q3 := hY.cell 3 rfl
        have l3 := cell_alloc hb1 HL3.out
        have z2 := cell_alloc hb1 HZ2.out
        have u1 := fun d os => cell_regrown q3 d os
        have u2 := fun d os => cell_regrown l3 d os
        have u3 := fun d os => cell_regrown z2 d os
        have KW := Lib.hid (fun V => rwithin_walk y.day ml.day t.years V)
        rw [wiF_comm y.day ml.day] at KW
        generalize wiF ml.day y.day t.years = wb at *
        by_cases hj0 : j = 0
        · have HY2 := Lib.hid (HYE.out (by rw [decide_eq_true hj0]; rfl))
          have j1 : ((j : Int) == 0) = true := by rw [beq_iff_eq]; omega
          have j2 : (j == 0) = true := by rw [beq_iff_eq]; exact hj0
          clear HNO HYE
          refine wp_region_quiet_below (by kernel_rfl) (by kernel_rfl) ?_
          repeat (go_big_quiet_step (fail))
          refine wpQuiet_nil ?_
          rintro w7 ⟨p2, hw7⟩
          have hq := show Below w4.heap.size w4 w7 by first | (rw [hw7]; exact below_regrown w4 p2.d p2.os) | (rw [← hw7]; exact below_regrown w4 p2.d p2.os)
          clear hw7 u1 u2 u3 q3 l3 z2 KW
          have hO7 := hO1.keep hq
          have hb7 := hb1.trans (hq.mono hb1.size)
          have hY7 := hY.keep hq
          have e0 := hY7.cell 0 rfl
          have e1 := hY7.cell 1 rfl
          have e2 := hY7.cell 2 rfl
          have e3 := hY7.cell 3 rfl
          have e4 := hY7.cell 4 rfl
          have HN3 : Hid ((SL (j + 1)).length = n + 1) := Lib.hid (by rw [HY2.out, List.length_append, hn.out]; rfl)
          have HR3 : Hid (rowsC mmC (SL (j + 1)) = rowsC mmC (SL j) ++ [.string ⟨y.person.toArray⟩, .int .i64 y.number, .int .i64 y.dept, .int .i64 y.day, .slice y.aa y.ans.length y.ac]) := Lib.hid (by rw [HY2.out, rowsC_append, rowsC_single]; rfl)
          clear hO1 hb1 hq hY hY7 HY2
          go_wp2_with (at_builtin; refine wpList_app1_at (w0 := w2) (B := w2.heap.size) (base := w2.heap.size) rfl _ _ _ rfl elMem rfl hO7 hb7 (Nat.le_refl _) hb7.size (cs := [.string ⟨y.person.toArray⟩, .int .i64 y.number, .int .i64 y.dept, .int .i64 y.day, .slice y.aa y.ans.length y.ac]) rfl rfl (by intro u hu; simp at hu; rcases hu with rfl | rfl | rfl | rfl | rfl <;> rfl) (by omega) ?_; intro a5 c5 w8 hO5 hb5 hg5 hat5; clear hg5 hat5)
          rw [← HR3.out] at hO5
          clear e0 e1 e2 e3 e4 hO7 hb7
          have HO5 := Lib.hid hO5
          have HB5 := Lib.hid hb5
          clear hO5 hb5
          go_roundw
          case rel => exact ⟨j + 1, n + 1, a5, c5, by omega, by go_num, rfl, HO5.out, HN3, HB5.out⟩
          case measure => simp [intOf]; omega
        · have j1 : ((j : Int) == 0) = false := by rw [beq_eq_false_iff_ne]; omega
          have j2 : (j == 0) = false := by rw [beq_eq_false_iff_ne]; exact hj0
          replace HNO := Lib.hid (fun (h : wb = false) => HNO.out (by rw [decide_eq_false hj0, h]; rfl))
          replace HYE := Lib.hid (fun (h : wb = true) => HYE.out (by rw [decide_eq_false hj0, h]; rfl))
          refine wp_region_quiet_below (by kernel_rfl) (by kernel_rfl) ?_
          repeat (go_big_quiet_step (first | (go_at_call 83; with_reducible exact Calls.regrown_of (Calls.calm (KW.out _)))))
          refine wpQuiet_nil ?_
          rintro w7 ⟨p2, hw7⟩
          have hq := show Below w4.heap.size w4 w7 by first | (rw [hw7]; exact below_regrown w4 p2.d p2.os) | (rw [← hw7]; exact below_regrown w4 p2.d p2.os)
          clear hw7 u1 u2 u3 q3 l3 z2 KW
          cases wb with
          | true =>
            have HY2 := Lib.hid (HYE.out rfl)
            clear HNO HYE
            have hO7 := hO1.keep hq
            have hb7 := hb1.trans (hq.mono hb1.size)
            have hY7 := hY.keep hq
            have e0 := hY7.cell 0 rfl
            have e1 := hY7.cell 1 rfl
            have e2 := hY7.cell 2 rfl
            have e3 := hY7.cell 3 rfl
            have e4 := hY7.cell 4 rfl
            have HN3 : Hid ((SL (j + 1)).length = n + 1) := Lib.hid (by rw [HY2.out, List.length_append, hn.out]; rfl)
            have HR3 : Hid (rowsC mmC (SL (j + 1)) = rowsC mmC (SL j) ++ [.string ⟨y.person.toArray⟩, .int .i64 y.number, .int .i64 y.dept, .int .i64 y.day, .slice y.aa y.ans.length y.ac]) := Lib.hid (by rw [HY2.out, rowsC_append, rowsC_single]; rfl)
            clear hO1 hb1 hq hY hY7 HY2
            go_wp2_with (at_builtin; refine wpList_app1_at (w0 := w2) (B := w2.heap.size) (base := w2.heap.size) rfl _ _ _ rfl elMem rfl hO7 hb7 (Nat.le_refl _) hb7.size (cs := [.string ⟨y.person.toArray⟩, .int .i64 y.number, .int .i64 y.dept, .int .i64 y.day, .slice y.aa y.ans.length y.ac]) rfl rfl (by intro u hu; simp at hu; rcases hu with rfl | rfl | rfl | rfl | rfl <;> rfl) (by omega) ?_; intro a5 c5 w8 hO5 hb5 hg5 hat5; clear hg5 hat5)
            rw [← HR3.out] at hO5
            clear e0 e1 e2 e3 e4 hO7 hb7
            have HO5 := Lib.hid hO5
            have HB5 := Lib.hid hb5
            clear hO5 hb5
            go_roundw
            case rel => exact ⟨j + 1, n + 1, a5, c5, by omega, by go_num, rfl, HO5.out, HN3, HB5.out⟩
            case measure => simp [intOf]; omega
          | false =>
            have HY2 := Lib.hid (HNO.out rfl)
            clear HNO HYE
            have HO7 : Hid (Ow w7 w2.heap.size 5 a n c (rowsC mmC (SL (j + 1)))) := Lib.hid (by rw [HY2.out]; exact hO1.keep hq)
            have HB7 := Lib.hid (hb1.trans (hq.mono hb1.size))
            have HN3 : Hid ((SL (j + 1)).length = n) := Lib.hid (by rw [HY2.out]; exact hn.out)
            clear hO1 hb1 hq hY
            go_wp2_with fail
            go_roundw
            case rel => exact ⟨j + 1, n, a, c, by omega, by go_num, rfl, HO7.out, HN3, HB7.out⟩
            case measure => simp [intOf]; omega
    · replace HE : Hid (R = L.any fun y => decide (y.number < m.number)) := Lib.hid (by rw [HE.out, if_neg (by decide), if_neg (by decide), leaf6 HK.out, ← HL.out])
      obtain ⟨gl, ol, ml, rfl, hml, ⟨-, l1, -, -, -⟩, -, -⟩ := HW.out.m.mem (k := 0) hL1
      obtain rfl := Option.some.inj (hml.out.symm.trans HL0.out)
      rw [Nat.zero_mul, Nat.add_zero] at l1
      have HL1 := Lib.hid l1
      clear z0 z1 l1 hml IH
      go_upto_region 28 with (fail)
      go_loopw [98] (fun i wr => ∃ j : Nat, j ≤ L.length ∧ i = .int .i64 (j : Int) ∧ Below w2.heap.size w2 wr ∧ Hid (∀ (q : Nat) (y : Mem), q < j → L[q]? = some y → decide (y.number < ml.number) = false)) (fun i _ => L.length - (intOf i).toNat)
      case atStart => exact ⟨0, Nat.zero_le _, rfl, Below.refl _ _, Lib.hid (fun q y h => by omega)⟩
      case round =>
        obtain ⟨j, hj, rfl, hb, hN⟩ := hrel
        by_cases hjt : j < L.length
        rotate_left
        · have hjl : ¬ (j : Int) < (L.length : Int) := by omega
          obtain rfl : j = L.length := by omega
          have HR : Hid (R = false) := Lib.hid (by
            rw [HE.out, Bool.eq_false_iff]
            intro h
            obtain ⟨y, hy, hq⟩ := List.any_eq_true.1 h
            obtain ⟨q, hq2⟩ := List.mem_iff_getElem?.1 hy
            rw [hN.out q y (List.getElem?_eq_some_iff.1 hq2).1 hq2] at hq
            cases hq)
          have HB := Lib.hid (HW.out.b.trans (hb.mono HW.out.b.size))
          clear hN hb HE
          go_wp2
          go_ret
          exact ⟨ret_bool HR.out.symm, HB.out⟩
        have hjl : (j : Int) < (L.length : Int) := by omega
        obtain ⟨g', o', y, hoa, hy, ⟨x0, x1, x2, x3, x4⟩, -, -⟩ := (HW.out.m.keep hb).mem (k := j) hjt
        cases hoa
        have hbL := (Below.refl wr.heap.size wr).alloc (Nat.le_refl _) (.cells #[.string ⟨y.person.toArray⟩, .int .i64 y.number, .int .i64 y.dept, .int .i64 y.day, .slice y.aa y.ans.length y.ac] 39)
        have hY := Bx.new wr 39 [.string ⟨y.person.toArray⟩, .int .i64 y.number, .int .i64 y.dept, .int .i64 y.day, .slice y.aa y.ans.length y.ac]
        change Bx (wr.alloc (.cells #[.string ⟨y.person.toArray⟩, .int .i64 y.number, .int .i64 y.dept, .int .i64 y.day, .slice y.aa y.ans.length y.ac] 39)) _ _ _ at hY
        have hb1 := hb.trans (hbL.mono hb.size)
        have HYE : Hid (decide (y.number < ml.number) = true → R = true) := Lib.hid (fun h => by rw [HE.out]; exact List.any_eq_true.2 ⟨y, mem_at hy, h⟩)
        have HNO : Hid (decide (y.number < ml.number) = false → ∀ (q : Nat) (z : Mem), q < j + 1 → L[q]? = some z → decide (z.number < ml.number) = false) := Lib.hid (fun h q z hq hz => by
          by_cases e : q = j
          · subst e
            rw [hy.out] at hz
            obtain rfl := Option.some.inj hz
            exact h
          · exact hN.out q z (by omega) hz)
        have l1 := cell_alloc hb1 HL1.out
        clear hN hb hbL hy
        go_upto_region 30 with (fail)
        generalize wr.alloc (.cells #[.string ⟨y.person.toArray⟩, .int .i64 y.number, .int .i64 y.dept, .int .i64 y.day, .slice y.aa y.ans.length y.ac] 39) = w4 at *
        generalize wr.heap.size = gy at *
        clear x0 x1 x2 x3 x4
        have q1 := hY.cell 1 rfl
        have u1 := fun d os => cell_regrown q1 d os
        have u2 := fun d os => cell_regrown l1 d os
        generalize hbn : decide (y.number < ml.number) = bn at *
        refine wp_region_quiet_below (by kernel_rfl) (by kernel_rfl) ?_
        repeat (go_big_quiet_step (fail))
        refine wpQuiet_nil ?_
        rintro w7 ⟨p2, hw7⟩
        have hq := show Below w4.heap.size w4 w7 by first | (rw [hw7]; exact below_regrown w4 p2.d p2.os) | (rw [← hw7]; exact below_regrown w4 p2.d p2.os)
        clear hw7
        have HB7 := Lib.hid (hb1.trans (hq.mono hb1.size))
        clear u1 u2 q1 l1 hY hq hb1
        cases bn with
        | true =>
          have HR : Hid (R = true) := Lib.hid (HYE.out rfl)
          have HB8 := Lib.hid (HW.out.b.trans (HB7.out.mono HW.out.b.size))
          clear HYE HNO HE
          go_wp2
          go_ret
          exact ⟨ret_bool HR.out.symm, HB8.out⟩
        | false =>
          have HN := Lib.hid (HNO.out rfl)
          clear HYE HNO
          go_wp2_with fail
          go_roundw
          case rel => exact ⟨j + 1, by omega, by go_num, HB7.out, HN.out⟩
          case measure => simp [intOf]; omega
    · replace HE : Hid (R = decide ((dst ((selN (fun _ (y : Mem) => saysB t.field t.text y) L L.length).map Mem.person) : Int) ≥ t.number)) := Lib.hid (by
        have e : selN (fun _ (y : Mem) => saysB t.field t.text y) L L.length = (m :: O).filter fun y => saysB t.field t.text y := by
          rw [selN_all (Nat.le_refl _), List.take_length, HL.out]
        rw [HE.out, if_neg (by decide), if_neg (by decide), leaf7 HPn.out HK.out, e])
      clear z0 z1 IH
      have HSB := Lib.hid (fun j (y : Mem) (hy : y ∈ selN (fun _ (y : Mem) => saysB t.field t.text y) L j) => selN_sub (p := (fun _ (y : Mem) => saysB t.field t.text y)) hy)
      have HSN := Lib.hid (fun (j : Nat) (y : Mem) (hy : Hid (L[j]? = some y)) (h : (saysB t.field t.text y) = false) => selN_no (p := (fun _ (y : Mem) => saysB t.field t.text y)) hy h)
      have HSY := Lib.hid (fun (j : Nat) (y : Mem) (hy : Hid (L[j]? = some y)) (h : (saysB t.field t.text y) = true) => selN_yes (p := (fun _ (y : Mem) => saysB t.field t.text y)) hy h)
      have HSL := Lib.hid (fun j => selN_len (p := (fun _ (y : Mem) => saysB t.field t.text y)) (L := L) j)
      have hS0 : selN (fun _ (y : Mem) => saysB t.field t.text y) L 0 = [] := rfl
      generalize hsel : selN (fun _ (y : Mem) => saysB t.field t.text y) L = SL at *
      have hO0 : Ow w2 w2.heap.size 5 none 0 0 (rowsC mmC (SL 0)) := by rw [hS0]; exact Ow.nil _ _ _
      clear hsel
      go_upto_region 43 with (fail)
      go_loopw [8, 141] (fun sv iv wr => ∃ (j n : Nat) (a : Option Addr) (c : Nat), j ≤ L.length ∧ iv = .int .i64 (j : Int) ∧ sv = .slice a n c ∧ Ow wr w2.heap.size 5 a n c (rowsC mmC (SL j)) ∧ Hid ((SL j).length = n) ∧ Below w2.heap.size w2 wr) (fun _ iv _ => L.length - (intOf iv).toNat)
      case atStart => exact ⟨0, 0, none, 0, Nat.zero_le _, rfl, rfl, hO0, Lib.hid (by rw [hS0]; rfl), Below.refl _ _⟩
      case round =>
        clear hO0 hS0
        obtain ⟨j, n, a, c, hj, rfl, rfl, hO, hn, hb⟩ := hrel
        by_cases hjt : j < L.length
        rotate_left
        · have hjl : ¬ (j : Int) < (L.length : Int) := by omega
          obtain rfl : j = L.length := by omega
          have hRS := (HW.out.m.keep hb).sel (HSB.out L.length) hO.rd
          have hnL : n ≤ L.length := by rw [← hn.out]; exact HSL.out _
          have KP : Hid (∀ V, Below wr.heap.size wr V → Calls Tryz.prog 82 #[.slice a n c] V fun e w' => e = .returned (.int .i64 (dst ((SL L.length).map Mem.person) : Int)) ∧ Below V.heap.size V w') := Lib.hid (fun V hV => by
            have := rpers_walk (SL L.length) a c V (hRS.keep hV) (by rw [hn.out]; omega)
            rwa [hn.out] at this)
          have hT7 := (HW.out.keep hb).tt
          have hbw := HW.out.b.trans (hb.mono HW.out.b.size)
          generalize (dst ((SL L.length).map Mem.person) : Int) = dn at *
          clear hO hRS hb
          go_upto_region 48 with (fail)
          refine wp_region_held_drew (S := fun w' => w'.cell? ⟨g7, 1, none⟩ = some (.int .i64 t.number)) (by kernel_rfl) ((hT7.keep (Below.refl _ _).drew).cell 1 rfl) (fun hHeld => ?_)
          simp only [List.size_toArray, List.length_cons, List.length_nil]
          have hb0 : Below wr.heap.size wr wr.drew := (Below.refl _ _).drew
          generalize wr.drew = v0 at *
          replace hHeld := id hHeld
          refine held_take (0) (v := ?_) rfl (by kernel_rfl) (by kernel_rfl) (by kernel_rfl) (fun _ _ _ h => h) (Or.inl ⟨by rfl, ?_⟩) (by assumption) ?_
          rotate_left
          · intro w hSw
            try dsimp only at hSw
            go_simp
            with_reducible rfl
          try simp only [Act.put, List.setIfInBounds_toArray, List.set_cons_zero, List.set_cons_succ]
          refine held_take (2) (v := ?_) rfl (by kernel_rfl) (by kernel_rfl) (by kernel_rfl) (fun _ _ _ h => h) (Or.inl ⟨by rfl, ?_⟩) (by assumption) ?_
          rotate_left
          · intro w hSw
            try dsimp only at hSw
            go_simp
            with_reducible rfl
          try simp only [Act.put, List.setIfInBounds_toArray, List.set_cons_zero, List.set_cons_succ]
          refine held_take (3) (v := ?_) rfl (by kernel_rfl) (by kernel_rfl) (by kernel_rfl) (fun _ _ _ h => h) (Or.inl ⟨by rfl, ?_⟩) (by assumption) ?_
          rotate_left
          · intro w hSw
            try dsimp only at hSw
            go_simp
            with_reducible rfl
          try simp only [Act.put, List.setIfInBounds_toArray, List.set_cons_zero, List.set_cons_succ]
          refine wpAnyH_ready (rs := [1]) (by kernel_rfl) (by simp) ?_
          refine held_cons rfl (fun K hK => ?_) AllReadyH.nil
          go_simp
          go_at_call 82
          (with_reducible refine (KP.out _ hb0).mono ?_)
          (first | rintro e v1 rfl hb | rintro e v1 ⟨rfl, hb⟩)
          replace hb0 := hb0.trans (hb.mono hb0.size)
          clear hb
          go_wp2_with fail
          refine hK.out _ _ ((hT7.keep hb0).cell 1 rfl) (fun hHeld => ?_)
          clear hK K
          try simp only [Act.put, List.setIfInBounds_toArray, List.set_cons_zero, List.set_cons_succ]
          refine held_take (4) (v := ?_) rfl (by kernel_rfl) (by kernel_rfl) (by kernel_rfl) (fun _ _ _ h => h) (Or.inl ⟨by rfl, ?_⟩) (by assumption) ?_
          rotate_left
          · intro w hSw
            try dsimp only at hSw
            go_simp
            with_reducible rfl
          try simp only [Act.put, List.setIfInBounds_toArray, List.set_cons_zero, List.set_cons_succ]
          refine held_take (5) (v := ?_) rfl (by kernel_rfl) (by kernel_rfl) (by kernel_rfl) (fun _ _ _ h => h) (Or.inl ⟨by rfl, ?_⟩) (by assumption) ?_
          rotate_left
          · intro w hSw
            try dsimp only at hSw
            go_simp
            with_reducible rfl
          try simp only [Act.put, List.setIfInBounds_toArray, List.set_cons_zero, List.set_cons_succ]
          refine wpAnyH_done (by kernel_rfl) ?_ _
          clear hHeld hT7
          have hB9 := Lib.hid (hbw.trans (hb0.mono hbw.size))
          clear hb0
          go_simp
          go_wp2_with fail
          go_ret
          exact ⟨ret_bool HE.out.symm, hB9.out⟩
        have hjl : (j : Int) < (L.length : Int) := by omega
        obtain ⟨g', o', y, hoa, hy, ⟨x0, x1, x2, x3, x4⟩, hAy, hIy⟩ := (HW.out.m.keep hb).mem (k := j) hjt
        subst hoa
        have hbL := (Below.refl wr.heap.size wr).alloc (Nat.le_refl _) (.cells #[.string ⟨y.person.toArray⟩, .int .i64 y.number, .int .i64 y.dept, .int .i64 y.day, .slice y.aa y.ans.length y.ac] 39)
        have hY := Bx.new wr 39 [.string ⟨y.person.toArray⟩, .int .i64 y.number, .int .i64 y.dept, .int .i64 y.day, .slice y.aa y.ans.length y.ac]
        change Bx (wr.alloc (.cells #[.string ⟨y.person.toArray⟩, .int .i64 y.number, .int .i64 y.dept, .int .i64 y.day, .slice y.aa y.ans.length y.ac] 39)) _ _ _ at hY
        have hb1 := hb.trans (hbL.mono hb.size)
        have hO1 := hO.keep hbL
        have hAy1 := hAy.keep hbL
        have HNO := Lib.hid (HSN.out j y hy)
        have HYE := Lib.hid (HSY.out j y hy)
        have hnj : n ≤ j := by rw [← hn.out]; exact HSL.out _
        clear hO hb hbL hy hAy
        go_upto_region 45 with (fail)
        generalize wr.alloc (.cells #[.string ⟨y.person.toArray⟩, .int .i64 y.number, .int .i64 y.dept, .int .i64 y.day, .slice y.aa y.ans.length y.ac] 39) = w4 at *
        generalize wr.heap.size = gy at *
        clear x0 x1 x2 x3 x4
        have q0 := hY.cell 0 rfl
        have q1 := hY.cell 1 rfl
        have q2 := hY.cell 2 rfl
        have q3 := hY.cell 3 rfl
        have q4 := hY.cell 4 rfl
        have r3 := (HW.out.tt.keep hb1).cell 3 rfl
        have r4 := (HW.out.tt.keep hb1).cell 4 rfl
        have KW := Lib.hid (rsays_walk y t.field t.text w4 hAy1 hIy)
        generalize saysB t.field t.text y = wb at *
        have HY1 := Lib.hid hY
        have HO1 := Lib.hid hO1
        have HB1 := Lib.hid hb1
        clear hY hO1 hb1 hAy1
        cases wb with
        | true =>
          have HY2 := Lib.hid (HYE.out rfl)
          clear HNO HYE
          go_upto_region 46 with (go_at_call 84; (with_reducible refine KW.out.mono ?_); (first | rintro e w7 rfl hq | rintro e w7 ⟨rfl, hq⟩))
          have hb1 := HB1.out
          have hO1 := HO1.out
          have hY := HY1.out
          clear q0 q1 q2 q3 q4 r3 r4 KW
          have hO7 := hO1.keep hq
          have hb7 := hb1.trans (hq.mono hb1.size)
          have hY7 := hY.keep hq
          have e0 := hY7.cell 0 rfl
          have e1 := hY7.cell 1 rfl
          have e2 := hY7.cell 2 rfl
          have e3 := hY7.cell 3 rfl
          have e4 := hY7.cell 4 rfl
          have HN3 : Hid ((SL (j + 1)).length = n + 1) := Lib.hid (by rw [HY2.out, List.length_append, hn.out]; rfl)
          have HR3 : Hid (rowsC mmC (SL (j + 1)) = rowsC mmC (SL j) ++ [.string ⟨y.person.toArray⟩, .int .i64 y.number, .int .i64 y.dept, .int .i64 y.day, .slice y.aa y.ans.length y.ac]) := Lib.hid (by rw [HY2.out, rowsC_append, rowsC_single]; rfl)
          clear hO1 hb1 hq hY hY7 HY2
          go_wp2_with (at_builtin; refine wpList_app1_at (w0 := w2) (B := w2.heap.size) (base := w2.heap.size) rfl _ _ _ rfl elMem rfl hO7 hb7 (Nat.le_refl _) hb7.size (cs := [.string ⟨y.person.toArray⟩, .int .i64 y.number, .int .i64 y.dept, .int .i64 y.day, .slice y.aa y.ans.length y.ac]) rfl rfl (by intro u hu; simp at hu; rcases hu with rfl | rfl | rfl | rfl | rfl <;> rfl) (by omega) ?_; intro a5 c5 w8 hO5 hb5 hg5 hat5; clear hg5 hat5)
          rw [← HR3.out] at hO5
          clear e0 e1 e2 e3 e4 hO7 hb7
          have HO5 := Lib.hid hO5
          have HB5 := Lib.hid hb5
          clear hO5 hb5
          go_roundw
          case rel => exact ⟨j + 1, n + 1, a5, c5, by omega, by go_num, rfl, HO5.out, HN3, HB5.out⟩
          case measure => simp [intOf]; omega
        | false =>
          have HY2 := Lib.hid (HNO.out rfl)
          clear HNO HYE
          have hO1 := HO1.out
          have hb1 := HB1.out
          go_wp2_with (go_at_call 84; (with_reducible refine KW.out.mono ?_); (first | rintro e w7 rfl hq | rintro e w7 ⟨rfl, hq⟩))
          have HO7 : Hid (Ow w7 w2.heap.size 5 a n c (rowsC mmC (SL (j + 1)))) := Lib.hid (by rw [HY2.out]; exact hO1.keep hq)
          have HB7 := Lib.hid (hb1.trans (hq.mono hb1.size))
          have HN3 : Hid ((SL (j + 1)).length = n) := Lib.hid (by rw [HY2.out]; exact hn.out)
          clear hO1 hb1 hq
          go_roundw
          case rel => exact ⟨j + 1, n, a, c, by omega, by go_num, rfl, HO7.out, HN3, HB7.out⟩
          case measure => simp [intOf]; omega
    · replace HE : Hid (R = true) := Lib.hid (by rw [HE.out, if_neg (by decide), if_neg (by decide), leaf8 HK.out])
      have HB := Lib.hid HW.out.b
      clear z0 z1 IH
      go_wp2
      go_ret
      exact ⟨ret_bool HE.out.symm, HB.out⟩
end Go.Proofs.YtpofijdkckaphaaGreatDoor
