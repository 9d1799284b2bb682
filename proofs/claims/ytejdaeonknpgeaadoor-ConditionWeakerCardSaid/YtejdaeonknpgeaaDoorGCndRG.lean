/- Conditions: which one is weaker: the reference's. -/
import Derived.Test.YtejdaeonknpgeaaDoorGCndRF
namespace Go.Proofs.YtejdaeonknpgeaaDoor
open Go.RowKit
theorem right_sml {T : List Trm} (h : rightC T = true) : Sml T := by
  obtain ⟨h24, -, hs⟩ := right_all h
  refine ⟨by omega, fun t ht => ?_⟩
  obtain ⟨j, hj⟩ := List.mem_iff_getElem?.1 ht
  have h1 := right_len h j t hj
  refine ⟨by omega, fun a ha => ?_⟩
  obtain ⟨t', ht', -, hb⟩ := hs j (Nat.zero_le _) (List.getElem?_eq_some_iff.1 hj).1
  rw [hj] at ht'
  obtain rfl := Option.some.inj ht'
  have := hb a ha
  omega
theorem has_no {T X : List Trm} {t : Trm} (ht : T[0]? = some t) (h : ∀ j n, j < t.args.length → t.args[j]? = some ((n : Nat) : Int) → sameSeg T n (endF T t.args j) X = false) (hT : rightC T = true) : hasF T X = false := by
  unfold hasF
  rw [ht]
  dsimp only
  rw [Bool.eq_false_iff]
  intro hn
  obtain ⟨k, hk, hq⟩ := List.any_eq_true.1 hn
  split at hq
  · next a ha =>
    obtain ⟨n, rfl, -⟩ := right_arg hT ht ha
    rw [Int.toNat_natCast, h k n (List.mem_range.1 hk) ha] at hq
    cases hq
  · cases hq
theorem has_yes {T X : List Trm} {t : Trm} (ht : T[0]? = some t) {j n : Nat} (hj : t.args[j]? = some (n : Int)) (h : sameSeg T n (endF T t.args j) X = true) : hasF T X = true := by
  unfold hasF
  rw [ht]
  dsimp only
  refine List.any_eq_true.2 ⟨j, List.mem_range.2 (List.getElem?_eq_some_iff.1 hj).1, ?_⟩
  rw [hj]
  exact h
set_option maxRecDepth 100000 in
set_option maxHeartbeats 4000000 in
theorem rhas_walk (T X : List Trm) (a b : Option Addr) (c d : Nat) (w : World) (hA : Cn w a c T) (hB : Cn w b d X) (hT : rightC T = true) :
    Calls Tryd.prog 25 #[.agg #[.slice a T.length c], .agg #[.slice b X.length d]] w fun e w' => e = .returned (.bool (hasF T X)) ∧ Below w.heap.size w w' := by
  have hT0 := (right_all hT).2.1
  obtain ⟨t0, h0⟩ : ∃ t, T[0]? = some t := ⟨_, List.getElem?_eq_getElem hT0⟩
  have HNO := Lib.hid (fun h => has_no (X := X) h0 h hT)
  have HYES := Lib.hid (fun (j n : Nat) (hj : t0.args[j]? = some (n : Int)) h => has_yes (X := X) h0 hj h)
  have HARG := Lib.hid (fun (k : Nat) (z : Int) (hk : t0.args[k]? = some z) => right_arg hT h0 hk)
  have HSEG := Lib.hid (fun n e (h : growT T 5 n = some e) => growT_seg T 5 n e h)
  have HSM := Lib.hid (right_sml hT)
  have H0 := Lib.hid h0
  generalize hasF T X = R at *
  obtain ⟨g, off, t0', rfl, ht0, ⟨c0, c1, c2, c3, c4, c5⟩, hA0, hI0⟩ := hA.r.trm (k := 0) hT0
  obtain rfl := Option.some.inj (ht0.out.symm.trans h0)
  rw [Nat.zero_mul, Nat.add_zero] at c5
  have hal : t0'.args.length ≤ 9223372036854775807 := Nat.le_trans hI0.2.2.2.2.2 (by decide)
  have hTz : (0 : Int) < (T.length : Int) := by omega
  have b1 := (Below.refl w.heap.size w).alloc (Nat.le_refl _) (.cells #[.slice (some ⟨g, off, none⟩) T.length c] 29)
  have x1 := Bx.new w 29 [.slice (some ⟨g, off, none⟩) T.length c]
  change Bx (w.alloc (.cells #[.slice (some ⟨g, off, none⟩) T.length c] 29)) _ _ _ at x1
  have b2 := b1.alloc b1.size (.cells #[.slice b X.length d] 29)
  have x2 := Bx.new (w.alloc (.cells #[.slice (some ⟨g, off, none⟩) T.length c] 29)) 29 [.slice b X.length d]
  change Bx ((w.alloc (.cells #[.slice (some ⟨g, off, none⟩) T.length c] 29)).alloc (.cells #[.slice b X.length d] 29)) _ _ _ at x2
  have x1' := x1.alloc (.cells #[.slice b X.length d] 29)
  have hz : (w.alloc (.cells #[.slice (some ⟨g, off, none⟩) T.length c] 29)).heap.size = w.heap.size + 1 := by simp
  rw [hz] at x2
  have c5' := cell_keep b2 c5
  have HA := Lib.hid (hA.keep b2)
  have HB := Lib.hid (hB.keep b2)
  clear x1 b1 hz hA hB hA0 hI0 c0 c1 c2 c3 c4 c5 ht0 h0 hT
  go_enter Tryd.func25, Tryd.ntmps25
  go_upto_region 1 with (fail)
  generalize (w.alloc (.cells #[.slice (some ⟨g, off, none⟩) T.length c] 29)).alloc (.cells #[.slice b X.length d] 29) = w1 at *
  generalize w.heap.size + 1 = g3 at *
  generalize hg1 : w.heap.size = g2 at *
  have HBW := Lib.hid (show Below w.heap.size w w1 by rw [hg1]; exact b2)
  have y1 := x1'.cell 0 rfl
  have X1 := Lib.hid x1'
  have X2 := Lib.hid x2
  clear hg1 b2 x1' x2
  go_wp2_with fail
  clear y1 c5'
  go_loopw [12] (fun v wr => ∃ k : Nat, k ≤ t0'.args.length ∧ v = .int .i64 (k : Int) ∧ Below w1.heap.size w1 wr ∧ Hid (∀ j n, j < k → t0'.args[j]? = some ((n : Nat) : Int) → sameSeg T n (endF T t0'.args j) X = false)) (fun v _ => t0'.args.length - (intOf v).toNat)
  case atStart => exact ⟨0, Nat.zero_le _, rfl, Below.refl _ _, Lib.hid (fun j n h => by omega)⟩
  case round =>
    obtain ⟨k, hk, rfl, hB, hN⟩ := hrel
    by_cases hkt : k < t0'.args.length
    rotate_left
    · have hkl : ¬ (k : Int) < (t0'.args.length : Int) := by omega
      obtain rfl : k = t0'.args.length := by omega
      have HR : Hid (R = false) := Lib.hid (HNO.out hN.out)
      clear HNO HYES hN
      go_wp2
      go_ret
      exact ⟨ret_bool HR.out.symm, below_tr HBW.out hB⟩
    have hkl : (k : Int) < (t0'.args.length : Int) := by omega
    obtain ⟨z, hz⟩ : ∃ z, t0'.args[k]? = some z := ⟨_, List.getElem?_eq_getElem hkt⟩
    obtain ⟨n, rfl, hg⟩ := HARG.out k z hz
    obtain ⟨e, he⟩ : ∃ e, endF T t0'.args k = e := ⟨_, rfl⟩
    rw [he] at hg
    obtain ⟨n1, n2, -⟩ := HSEG.out n e hg
    have hXl : ((T.drop n).take (e - n)).length = e - n := by rw [List.length_take, List.length_drop]; omega
    have HY : Hid (sameSeg T n e X = true → R = true) := Lib.hid (fun h => HYES.out k n hz (by rw [he]; exact h))
    have HN2 : Hid (sameSeg T n e X = false → ∀ j m, j < k + 1 → t0'.args[j]? = some ((m : Nat) : Int) → sameSeg T m (endF T t0'.args j) X = false) := Lib.hid (fun h j m hj hm => by
      by_cases ej : j = k
      · subst ej
        rw [hz] at hm
        have : n = m := by have := Option.some.inj hm; omega
        subst this
        rw [he]; exact h
      · exact hN.out j m (by omega) hm)
    have KP : Hid (∀ V, Below w1.heap.size w1 V → Calls Tryd.prog 32 #[.agg #[.slice (some ⟨g, off, none⟩) T.length c], .int .i64 (k : Int)] V (PartRes n ((T.drop n).take (e - n)) V)) := Lib.hid (fun V hV => part_walk T t0' _ c k n e V (HA.out.keep hV).r HA.out.c HSM.out H0.out hz he n1 n2)
    have KS : Hid (∀ V (P : List Trm) (pa : Option Addr) (pc : Nat), Below w1.heap.size w1 V → ShP n ((T.drop n).take (e - n)) ((T.drop n).take (e - n)).length P → RdT V pa P → Calls Tryd.prog 24 #[.agg #[.slice pa P.length pc], .agg #[.slice b X.length d]] V fun e2 w' => e2 = .returned (.bool (sameSeg T n e X)) ∧ Below V.heap.size V w') := Lib.hid (fun V P pa pc hV hP hR => by
      have h1 := rsame16_walk P X pa b pc d V (by have := hP.1; have := HA.out.l; omega) hR (HB.out.keep hV).r
      rw [hXl] at hP
      rwa [part_seg (Nat.le_of_lt n1) n2 hP] at h1)
    generalize sameSeg T n e X = s at *
    generalize (T.drop n).take (e - n) = Y at *
    clear hN hg he n1 n2 hXl hz
    go_upto_region 4 with (fail)
    have x1 := X1.out.keep hB
    have x2 := X2.out.keep hB
    cases s with
    | true =>
      have HR : Hid (R = true) := Lib.hid (HY.out rfl)
      clear HY HN2 HNO HYES
      refine wp_region_held_drew (S := fun w' => w'.cell? ⟨g2, 0, none⟩ = some (.slice (some ⟨g, off, none⟩) T.length c) ∧ w'.cell? ⟨g3, 0, none⟩ = some (.slice b X.length d)) (by kernel_rfl) ⟨(x1.keep (Below.refl _ _).drew).cell 0 rfl, (x2.keep (Below.refl _ _).drew).cell 0 rfl⟩ (fun hHeld => ?_)
      simp only [List.size_toArray, List.length_cons, List.length_nil]
      have hb0 : Below wr.heap.size wr wr.drew := (Below.refl _ _).drew
      generalize wr.drew = v0 at *
      replace hHeld := id hHeld
      refine held_take (0) (v := ?_) rfl (by kernel_rfl) (by kernel_rfl) (by kernel_rfl) (fun _ _ _ h => h) (Or.inl ⟨by rfl, ?_⟩) (by assumption) ?_
      rotate_left
      · intro w hSw
        try dsimp only at hSw
        go_simp
        with_reducible rfl
      try simp only [Act.put, List.setIfInBounds_toArray, List.set_cons_zero, List.set_cons_succ]
      refine held_take (1) (v := ?_) rfl (by kernel_rfl) (by kernel_rfl) (by kernel_rfl) (fun _ _ _ h => h) (Or.inl ⟨by rfl, ?_⟩) (by assumption) ?_
      rotate_left
      · intro w hSw
        try dsimp only at hSw
        go_simp
        with_reducible rfl
      try simp only [Act.put, List.setIfInBounds_toArray, List.set_cons_zero, List.set_cons_succ]
      refine held_take (3) (v := ?_) rfl (by kernel_rfl) (by kernel_rfl) (by kernel_rfl) (fun _ _ _ h => h) (Or.inl ⟨by rfl, ?_⟩) (by assumption) ?_
      rotate_left
      · intro w hSw
        try dsimp only at hSw
        go_simp
        with_reducible rfl
      try simp only [Act.put, List.setIfInBounds_toArray, List.set_cons_zero, List.set_cons_succ]
      refine wpAnyH_ready (rs := [2]) (by kernel_rfl) (by simp) ?_
      refine held_cons rfl (fun K hK => ?_) AllReadyH.nil
      go_simp
      go_at_call 32
      (with_reducible refine (KP.out _ (hB.trans (hb0.mono hB.size))).mono ?_)
      (first | rintro e v2 ⟨P, pa, pc, rfl, hP, hRP, hb⟩ | rintro e v2 P pa pc rfl hP hRP hb)
      replace hb0 := hb0.trans (hb.mono hb0.size)
      replace hP := Lib.hid hP
      clear hb
      go_wp2_with fail
      refine hK.out _ _ ⟨(x1.keep hb0).cell 0 rfl, (x2.keep hb0).cell 0 rfl⟩ (fun hHeld => ?_)
      clear hK K
      try simp only [Act.put, List.setIfInBounds_toArray, List.set_cons_zero, List.set_cons_succ]
      refine wpAnyH_ready (rs := [4]) (by kernel_rfl) (by simp) ?_
      refine held_cons rfl (fun K hK => ?_) AllReadyH.nil
      go_simp
      go_at_call 24
      (with_reducible refine (KS.out _ P pa pc (hB.trans (hb0.mono hB.size)) hP.out hRP).mono ?_)
      (first | rintro e v4 rfl hb | rintro e v4 ⟨rfl, hb⟩)
      replace hb0 := hb0.trans (hb.mono hb0.size)
      clear hb hRP
      go_wp2_with fail
      refine hK.out _ _ ⟨(x1.keep hb0).cell 0 rfl, (x2.keep hb0).cell 0 rfl⟩ (fun hHeld => ?_)
      clear hK K
      try simp only [Act.put, List.setIfInBounds_toArray, List.set_cons_zero, List.set_cons_succ]
      refine wpAnyH_done (by kernel_rfl) ?_ _
      clear hHeld x1 x2 hP
      have hB9 := Lib.hid (hB.trans (hb0.mono hB.size))
      clear hB hb0
      go_simp
      go_wp2_with fail
      go_ret
      exact ⟨ret_bool HR.out.symm, below_tr HBW.out hB9.out⟩
    | false =>
      have HP := Lib.hid (HN2.out rfl)
      clear HY HN2 HNO HYES
      refine wp_region_held_drew (S := fun w' => w'.cell? ⟨g2, 0, none⟩ = some (.slice (some ⟨g, off, none⟩) T.length c) ∧ w'.cell? ⟨g3, 0, none⟩ = some (.slice b X.length d)) (by kernel_rfl) ⟨(x1.keep (Below.refl _ _).drew).cell 0 rfl, (x2.keep (Below.refl _ _).drew).cell 0 rfl⟩ (fun hHeld => ?_)
      simp only [List.size_toArray, List.length_cons, List.length_nil]
      have hb0 : Below wr.heap.size wr wr.drew := (Below.refl _ _).drew
      generalize wr.drew = v0 at *
      replace hHeld := id hHeld
      refine held_take (0) (v := ?_) rfl (by kernel_rfl) (by kernel_rfl) (by kernel_rfl) (fun _ _ _ h => h) (Or.inl ⟨by rfl, ?_⟩) (by assumption) ?_
      rotate_left
      · intro w hSw
        try dsimp only at hSw
        go_simp
        with_reducible rfl
      try simp only [Act.put, List.setIfInBounds_toArray, List.set_cons_zero, List.set_cons_succ]
      refine held_take (1) (v := ?_) rfl (by kernel_rfl) (by kernel_rfl) (by kernel_rfl) (fun _ _ _ h => h) (Or.inl ⟨by rfl, ?_⟩) (by assumption) ?_
      rotate_left
      · intro w hSw
        try dsimp only at hSw
        go_simp
        with_reducible rfl
      try simp only [Act.put, List.setIfInBounds_toArray, List.set_cons_zero, List.set_cons_succ]
      refine held_take (3) (v := ?_) rfl (by kernel_rfl) (by kernel_rfl) (by kernel_rfl) (fun _ _ _ h => h) (Or.inl ⟨by rfl, ?_⟩) (by assumption) ?_
      rotate_left
      · intro w hSw
        try dsimp only at hSw
        go_simp
        with_reducible rfl
      try simp only [Act.put, List.setIfInBounds_toArray, List.set_cons_zero, List.set_cons_succ]
      refine wpAnyH_ready (rs := [2]) (by kernel_rfl) (by simp) ?_
      refine held_cons rfl (fun K hK => ?_) AllReadyH.nil
      go_simp
      go_at_call 32
      (with_reducible refine (KP.out _ (hB.trans (hb0.mono hB.size))).mono ?_)
      (first | rintro e v2 ⟨P, pa, pc, rfl, hP, hRP, hb⟩ | rintro e v2 P pa pc rfl hP hRP hb)
      replace hb0 := hb0.trans (hb.mono hb0.size)
      replace hP := Lib.hid hP
      clear hb
      go_wp2_with fail
      refine hK.out _ _ ⟨(x1.keep hb0).cell 0 rfl, (x2.keep hb0).cell 0 rfl⟩ (fun hHeld => ?_)
      clear hK K
      try simp only [Act.put, List.setIfInBounds_toArray, List.set_cons_zero, List.set_cons_succ]
      refine wpAnyH_ready (rs := [4]) (by kernel_rfl) (by simp) ?_
      refine held_cons rfl (fun K hK => ?_) AllReadyH.nil
      go_simp
      go_at_call 24
      (with_reducible refine (KS.out _ P pa pc (hB.trans (hb0.mono hB.size)) hP.out hRP).mono ?_)
      (first | rintro e v4 rfl hb | rintro e v4 ⟨rfl, hb⟩)
      replace hb0 := hb0.trans (hb.mono hb0.size)
      clear hb hRP
      go_wp2_with fail
      refine hK.out _ _ ⟨(x1.keep hb0).cell 0 rfl, (x2.keep hb0).cell 0 rfl⟩ (fun hHeld => ?_)
      clear hK K
      try simp only [Act.put, List.setIfInBounds_toArray, List.set_cons_zero, List.set_cons_succ]
      refine wpAnyH_done (by kernel_rfl) ?_ _
      clear hHeld x1 x2 hP
      have hB9 := Lib.hid (hB.trans (hb0.mono hB.size))
      clear hB hb0
      go_simp
      go_wp2_with fail
      go_roundw
      case rel => exact ⟨k + 1, by omega, by go_num, hB9.out, HP.out⟩
      case measure => simp [intOf]; omega
end Go.Proofs.YtejdaeonknpgeaaDoor
