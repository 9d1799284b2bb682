/- Conditions: how many persons, who says what, a member and the others: the reference's. -/
import Derived.Test.YtpofijdkckaphaaGreatDoorGCndE
import Derived.Test.YtpofijdkckaphaaGreatDoorGAppAt
import Derived.Test.YtpofijdkckaphaaGreatDoorGCndF
import Derived.Test.YtpofijdkckaphaaGreatDoorGCalR
import Derived.Test.YtpofijdkckaphaaGreatDoorRegionL
import Derived.Lib.QuietBelow
namespace Go.Proofs.YtpofijdkckaphaaGreatDoor
open Go.RowKit
set_option maxRecDepth 100000 in
set_option maxHeartbeats 2000000 in
theorem rpers_walk (O : List Mem) (oa : Option Addr) (oc : Nat) (w : World) (hV : RdM w oa O) (hl : O.length ≤ 1000000000) :
    Calls Tryz.prog 82 #[.slice oa O.length oc] w fun e w' => e = .returned (.int .i64 (dst (O.map Mem.person) : Int)) ∧ Below w.heap.size w w' := by
  have HV := Lib.hid hV
  have hm0 := MpS.new w
  have hbm := (Below.refl w.heap.size w).alloc (Nat.le_refl _) (.map #[] 0)
  have hmk : ∀ V, (Instr.makeMap 129 none).run Tryz.prog V = .ok (.map (some V.heap.size)) (V.alloc (.map #[] 0)) := fun V => rfl
  clear hV
  go_enter Tryz.func82, Tryz.ntmps82
  go_upto_region 2 with (fail)
  generalize w.alloc (.map #[] 0) = w1 at *
  obtain ⟨gm, hgm⟩ : ∃ g, g = w.heap.size := ⟨_, rfl⟩
  rw [← hgm] at hm0 ⊢
  have HG := Lib.hid hgm
  clear hgm hmk
  go_wp2_with fail
  go_loopw [9] (fun i wr => ∃ j : Nat, j ≤ O.length ∧ i = .int .i64 (j : Int) ∧ Below w.heap.size w wr ∧ MpS wr gm j ((O.take j).map Mem.person)) (fun i _ => O.length - (intOf i).toNat)
  case atStart => exact ⟨0, Nat.zero_le _, rfl, hbm, hm0⟩
  case round =>
    clear hbm hm0
    obtain ⟨j, hj, rfl, hb, hM⟩ := hrel
    by_cases hjt : j < O.length
    rotate_left
    · have hjl : ¬ (j : Int) < (O.length : Int) := by omega
      obtain rfl : j = O.length := by omega
      rw [List.take_length] at hM
      have hown : World.ownsMap wr Tryz.prog 9 bElem gm O.length _ := hM
      have HS := Lib.hid (MpS.size (L := O.map Mem.person))
      have HB := Lib.hid hb
      clear hb hM
      go_wp2_with (at_len; refine wpList_len_own _ rfl _ 129 rfl 9 4 Tryz.underlying129 _ gm _ _ rfl hown ?_)
      go_ret
      exact ⟨ret_int (by rw [HS.out]), HB.out⟩
    have hjl : (j : Int) < (O.length : Int) := by omega
    obtain ⟨g', o', y, rfl, hy, ⟨x0, x1, x2, x3, x4⟩, -, hIn⟩ := (HV.out.keep hb).mem (k := j) hjt
    have hbL := (Below.refl wr.heap.size wr).alloc (Nat.le_refl _) (.cells #[.string ⟨y.person.toArray⟩, .int .i64 y.number, .int .i64 y.dept, .int .i64 y.day, .slice y.aa y.ans.length y.ac] 39)
    have hL := Bx.new wr 39 [.string ⟨y.person.toArray⟩, .int .i64 y.number, .int .i64 y.dept, .int .i64 y.day, .slice y.aa y.ans.length y.ac]
    change Bx (wr.alloc (.cells #[.string ⟨y.person.toArray⟩, .int .i64 y.number, .int .i64 y.dept, .int .i64 y.day, .slice y.aa y.ans.length y.ac] 39)) _ _ _ at hL
    have hM1 := hM.keep hbL
    have hb1 := hb.trans (hbL.mono hb.size)
    have HTK : Hid ((O.take (j + 1)).map Mem.person = (O.take j).map Mem.person ++ [y.person]) := Lib.hid (by rw [take_at hy, List.map_append]; rfl)
    clear hM hb hbL hy
    go_upto_region 5 with (fail)
    generalize wr.alloc (.cells #[.string ⟨y.person.toArray⟩, .int .i64 y.number, .int .i64 y.dept, .int .i64 y.day, .slice y.aa y.ans.length y.ac] 39) = w2 at *
    generalize wr.heap.size = gy at *
    clear x0 x1 x2 x3 x4
    have z0 := hL.cell 0 rfl
    have hkey := key_s (s := y.person) (by have := hIn.1; omega)
    have hown : World.ownsMap w2 Tryz.prog 9 bElem gm j _ := hM1
    have HB1 := Lib.hid hb1
    clear hM1 hIn hL hb1
    go_wp2_with (first
        | (at_mapUpdate; refine wpList_mapUpdate_own _ rfl _ _ _ 129 rfl 9 4 keyed_s Tryz.underlying129 bElem gm j _ rfl hown (by unfold maxLen; omega) _ _ _ rfl rfl hkey _ [] (plainElem_bool Tryz.underlying4 true) ?_; intro w4 hown1 hgrow1))
    have hM3 : MpS w4 gm (j + 1) ((O.take (j + 1)).map Mem.person) := by
      rw [HTK.out]
      show World.ownsMap _ _ _ _ _ _ _
      rw [gset_snoc]; exact hown1
    have HB3 := Lib.hid (HB1.out.grown hgrow1 HB1.out.size (fun j hj => by cases hj; rw [HG.out]; exact Nat.le_refl _))
    have HM3 := Lib.hid hM3
    clear hM3 hown hown1 hgrow1
    go_roundw
    case rel => exact ⟨j + 1, by omega, by go_num, HB3.out, HM3.out⟩
    case measure => simp [intOf]; omega
theorem says_no {f x : List UInt8} {L : List Ans} (h : ∀ (j : Nat) (y : Ans), j < L.length → L[j]? = some y → (decide (y.field = f) && decide (y.text = x)) = false) : (L.any fun a => decide (a.field = f) && decide (a.text = x)) = false := by
  rw [Bool.eq_false_iff]
  intro hn
  obtain ⟨y, hy, hq⟩ := List.any_eq_true.1 hn
  obtain ⟨j, hj⟩ := List.mem_iff_getElem?.1 hy
  rw [h j y (List.getElem?_eq_some_iff.1 hj).1 hj] at hq
  cases hq
set_option maxRecDepth 100000 in
set_option maxHeartbeats 2000000 in
theorem rsays_walk (m : Mem) (f x : List UInt8) (w : World) (hA : Rd w m.aa (rowsC anC m.ans)) (hI : m.In) :
    Calls Tryz.prog 84 #[.agg #[.string ⟨m.person.toArray⟩, .int .i64 m.number, .int .i64 m.dept, .int .i64 m.day, .slice m.aa m.ans.length m.ac], .string ⟨f.toArray⟩, .string ⟨x.toArray⟩] w fun e w' => e = .returned (.bool (saysB f x m)) ∧ Below w.heap.size w w' := by
  have hal : m.ans.length ≤ 281474976710656 := hI.2.2.2.2
  obtain ⟨p, n, d, dd, L, aa, ac⟩ := m
  dsimp only at hA hal ⊢
  have hNO := fun h => says_no (f := f) (x := x) (L := L) h
  have hYES : ∀ (j : Nat) (y : Ans), L[j]? = some y → (decide (y.field = f) && decide (y.text = x)) = true → saysB f x ⟨p, n, d, dd, L, aa, ac⟩ = true := fun j y hy hq => List.any_eq_true.2 ⟨y, List.mem_of_getElem? hy, hq⟩
  have hdef : saysB f x ⟨p, n, d, dd, L, aa, ac⟩ = (L.any fun a => decide (a.field = f) && decide (a.text = x)) := rfl
  rw [← hdef] at hNO
  generalize saysB f x ⟨p, n, d, dd, L, aa, ac⟩ = R at *
  have hb0 := (Below.refl w.heap.size w).alloc (Nat.le_refl _) (.cells #[.string ⟨p.toArray⟩, .int .i64 n, .int .i64 d, .int .i64 dd, .slice aa L.length ac] 39)
  have h1 := Bx.new w 39 [.string ⟨p.toArray⟩, .int .i64 n, .int .i64 d, .int .i64 dd, .slice aa L.length ac]
  change Bx (w.alloc (.cells #[.string ⟨p.toArray⟩, .int .i64 n, .int .i64 d, .int .i64 dd, .slice aa L.length ac] 39)) _ _ _ at h1
  have HA := Lib.hid (hA.keep hb0)
  have HNO := Lib.hid hNO
  have HYES := Lib.hid hYES
  clear hNO hYES hdef hA hI
  go_enter Tryz.func84, Tryz.ntmps84
  go_upto_region 1 with (fail)
  generalize w.alloc (.cells #[.string ⟨p.toArray⟩, .int .i64 n, .int .i64 d, .int .i64 dd, .slice aa L.length ac] 39) = w1 at *
  generalize hg1 : w.heap.size = g1 at *
  have HB := Lib.hid (show Below w.heap.size w w1 by rw [hg1]; exact hb0)
  have c4 := h1.cell 4 rfl
  clear hg1 hb0 h1
  go_wp2_with fail
  clear c4
  go_loopw [12] (fun v wr => ∃ j : Nat, j ≤ L.length ∧ v = .int .i64 (j : Int) ∧ Below w1.heap.size w1 wr ∧ Hid (∀ (i : Nat) (y : Ans), i < j → L[i]? = some y → (decide (y.field = f) && decide (y.text = x)) = false)) (fun v _ => L.length - (intOf v).toNat)
  case atStart => exact ⟨0, Nat.zero_le _, rfl, Below.refl _ _, Lib.hid (fun i y h => by omega)⟩
  case round =>
    obtain ⟨j, hj, rfl, hB, hN⟩ := hrel
    by_cases hjt : j < L.length
    rotate_left
    · have hjl : ¬ (j : Int) < (L.length : Int) := by omega
      obtain rfl : j = L.length := by omega
      have HR : Hid (R = false) := Lib.hid (HNO.out hN.out)
      clear HNO HYES hN
      go_wp2
      go_ret
      exact ⟨ret_bool HR.out.symm, below_tr HB.out hB⟩
    have hjl : (j : Int) < (L.length : Int) := by omega
    obtain ⟨g', o', y, rfl, hy, hc⟩ := (HA.out.keep hB).rows (f := anC) (k := 3) anC_len (by decide) hjt
    have x0 := hc 0 _ rfl
    rw [Nat.add_zero] at x0
    have x1 := hc 1 _ rfl
    have x2 := hc 2 _ rfl
    have hbL := (Below.refl wr.heap.size wr).alloc (Nat.le_refl _) (.cells #[.string ⟨y.field.toArray⟩, .string ⟨y.text.toArray⟩, .int .i64 y.number] 83)
    have hL := Bx.new wr 83 [.string ⟨y.field.toArray⟩, .string ⟨y.text.toArray⟩, .int .i64 y.number]
    change Bx (wr.alloc (.cells #[.string ⟨y.field.toArray⟩, .string ⟨y.text.toArray⟩, .int .i64 y.number] 83)) _ _ _ at hL
    have hB1 := hB.trans (hbL.mono hB.size)
    have e1 : (y.field == f) = decide (y.field = f) := by rw [Bool.eq_iff_iff]; simp
    have e2 : (y.text == x) = decide (y.text = x) := by rw [Bool.eq_iff_iff]; simp
    have HY := Lib.hid (HYES.out j y hy.out)
    have HN2 : Hid ((decide (y.field = f) && decide (y.text = x)) = false → ∀ (i : Nat) (z : Ans), i < j + 1 → L[i]? = some z → (decide (z.field = f) && decide (z.text = x)) = false) := Lib.hid (fun h i z hi hz => by
      by_cases e : i = j
      · subst e
        rw [hy.out] at hz
        obtain rfl := Option.some.inj hz
        exact h
      · exact hN.out i z (by omega) hz)
    generalize decide (y.field = f) = b1 at *
    generalize decide (y.text = x) = b2 at *
    clear hc hN hB hbL hy
    go_upto_region 4 with (fail)
    generalize wr.alloc (.cells #[.string ⟨y.field.toArray⟩, .string ⟨y.text.toArray⟩, .int .i64 y.number] 83) = w2 at *
    generalize wr.heap.size = gy at *
    clear x0 x1 x2
    have z0 := hL.cell 0 rfl
    have z1 := hL.cell 1 rfl
    have HB1 := Lib.hid hB1
    clear hL hB1
    cases b1 with
    | false =>
      have HP := Lib.hid (HN2.out rfl)
      clear HN2 HY HNO HYES
      go_wp2_with fail
      go_roundw
      case rel => exact ⟨j + 1, by omega, by go_num, HB1.out, HP.out⟩
      case measure => simp [intOf]; omega
    | true =>
    cases b2 with
    | false =>
      have HP := Lib.hid (HN2.out rfl)
      clear HN2 HY HNO HYES
      go_wp2_with fail
      go_roundw
      case rel => exact ⟨j + 1, by omega, by go_num, HB1.out, HP.out⟩
      case measure => simp [intOf]; omega
    | true =>
      have HR : Hid (R = true) := Lib.hid (HY.out rfl)
      clear HN2 HY HNO HYES
      go_wp2_with fail
      go_ret
      exact ⟨ret_bool HR.out.symm, below_tr HB.out HB1.out⟩
/-- what others returns -/
def OthRes (M : List Mem) (m : Mem) (w : World) (e : Ending) (w' : World) : Prop := ∃ (a : Option Addr) (c : Nat), e = .returned (.slice a (m :: othF M m).length c) ∧ RdM w' a (m :: othF M m) ∧ Below w.heap.size w w'
set_option maxRecDepth 100000 in
set_option maxHeartbeats 2000000 in
/-- a member and those of other persons -/
theorem roth_walk (M : List Mem) (la : Option Addr) (lc : Nat) (k : Nat) (m : Mem) (w : World) (hM : RdM w la M) (hl : M.length ≤ 1000000000) (hk : M[k]? = some m) :
    Calls Tryz.prog 75 #[.slice la M.length lc, .int .i64 (k : Int)] w (OthRes M m w) := by
  have hkt := (List.getElem?_eq_some_iff.1 hk).1
  have hkl : (k : Int) < (M.length : Int) := by omega
  obtain ⟨g, off, m', rfl, hm, ⟨x0, x1, x2, x3, x4⟩, hA, hI⟩ := hM.mem (k := k) hkt
  obtain rfl := Option.some.inj (hm.out.symm.trans hk)
  have HM := Lib.hid hM
  have HX : Hid (∀ V, Below w.heap.size w V → V.cell? ⟨g, off + k * 5, none⟩ = some (.string ⟨m'.person.toArray⟩)) := Lib.hid (fun V hV => cell_alloc hV x0)
  have HAm := Lib.hid hA
  have HIm := Lib.hid hI
  have hb0 := (Below.refl w.heap.size w).alloc (Nat.le_refl _) (.cells #[.string ⟨m'.person.toArray⟩, .int .i64 m'.number, .int .i64 m'.dept, .int .i64 m'.day, .slice m'.aa m'.ans.length m'.ac] 39)
  have h1 := Bx.new w 39 [.string ⟨m'.person.toArray⟩, .int .i64 m'.number, .int .i64 m'.dept, .int .i64 m'.day, .slice m'.aa m'.ans.length m'.ac]
  change Bx (w.alloc (.cells #[.string ⟨m'.person.toArray⟩, .int .i64 m'.number, .int .i64 m'.dept, .int .i64 m'.day, .slice m'.aa m'.ans.length m'.ac] 39)) _ _ _ at h1
  have hO1 : Ow (w.alloc (.cells #[.string ⟨m'.person.toArray⟩, .int .i64 m'.number, .int .i64 m'.dept, .int .i64 m'.day, .slice m'.aa m'.ans.length m'.ac] 39)) w.heap.size 5 (some ⟨w.heap.size, 0, none⟩) 1 1 (rowsC mmC [m']) :=
    ⟨rfl, Nat.le_refl _, by decide, .inr ⟨w.heap.size, 0, rfl, Nat.le_refl _, h1.lt, fun j u hj => by rw [Nat.zero_add]; exact h1.cell j (by simpa [rowsC, mmC] using hj), fun j hj => by
      rw [Nat.zero_add]
      exact ⟨by rw [h1.cell j (List.getElem?_eq_getElem (show j < 5 by omega))]; rfl, h1.free j⟩⟩⟩
  clear hM hm hk hA hI h1
  go_enter Tryz.func75, Tryz.ntmps75
  go_upto_region 2 with (fail)
  generalize w.alloc (.cells #[.string ⟨m'.person.toArray⟩, .int .i64 m'.number, .int .i64 m'.dept, .int .i64 m'.day, .slice m'.aa m'.ans.length m'.ac] 39) = w1 at *
  clear x0 x1 x2 x3 x4
  generalize hg1 : w.heap.size = g1 at *
  have HG1 := Lib.hid hg1
  clear hg1
  go_wp2_with fail
  go_loopw [5, 15] (fun sv iv wr => ∃ (j n : Nat) (a : Option Addr) (c : Nat), j ≤ M.length ∧ n ≤ j + 1 ∧ iv = .int .i64 (j : Int) ∧ sv = .slice a n c ∧ Ow wr g1 5 a n c (rowsC mmC (m' :: othF (M.take j) m')) ∧ Below g1 w wr ∧ Hid ((m' :: othF (M.take j) m').length = n)) (fun _ iv _ => M.length - (intOf iv).toNat)
  case atStart => exact ⟨0, 1, _, _, Nat.zero_le _, by omega, rfl, rfl, hO1, hb0, Lib.hid rfl⟩
  case round =>
    clear hO1 hb0
    obtain ⟨j, n, a, c, hj, hn, rfl, rfl, hO, hb, hL⟩ := hrel
    by_cases hjt : j < M.length
    rotate_left
    · have hjl : ¬ (j : Int) < (M.length : Int) := by omega
      obtain rfl : j = M.length := by omega
      rw [List.take_length] at hO hL
      have HO := Lib.hid hO
      have HB : Hid (Below w.heap.size w wr) := Lib.hid (by rw [HG1.out]; exact hb)
      have HN := Lib.hid hL.out
      clear hO hb hL
      go_wp2
      go_ret
      refine ⟨a, c, by rw [HN.out]; rfl, ⟨HO.out.rd, fun t ht => ?_, fun t ht => ?_⟩, HB.out⟩
      · rcases List.mem_cons.1 ht with rfl | ht
        · exact HAm.out.keep HB.out
        · exact (HM.out.keep HB.out).ans t (othF_sub ht)
      · rcases List.mem_cons.1 ht with rfl | ht
        · exact HIm.out
        · exact HM.out.ok t (othF_sub ht)
    have hjl : (j : Int) < (M.length : Int) := by omega
    have hbw : Below w.heap.size w wr := by rw [HG1.out]; exact hb
    obtain ⟨gq, oq, y, hq, hy, ⟨x0, x1, x2, x3, x4⟩, -, -⟩ := (HM.out.keep hbw).mem (k := j) hjt
    cases hq
    have hk0 := HX.out _ (hb.trans (((Below.refl wr.heap.size wr).alloc (Nat.le_refl _) (.cells #[.string ⟨y.person.toArray⟩, .int .i64 y.number, .int .i64 y.dept, .int .i64 y.day, .slice y.aa y.ans.length y.ac] 39)).mono (by rw [← HG1.out]; exact hbw.size)))
    have hbL := (Below.refl wr.heap.size wr).alloc (Nat.le_refl _) (.cells #[.string ⟨y.person.toArray⟩, .int .i64 y.number, .int .i64 y.dept, .int .i64 y.day, .slice y.aa y.ans.length y.ac] 39)
    have hL1 := Bx.new wr 39 [.string ⟨y.person.toArray⟩, .int .i64 y.number, .int .i64 y.dept, .int .i64 y.day, .slice y.aa y.ans.length y.ac]
    change Bx (wr.alloc (.cells #[.string ⟨y.person.toArray⟩, .int .i64 y.number, .int .i64 y.dept, .int .i64 y.day, .slice y.aa y.ans.length y.ac] 39)) _ _ _ at hL1
    have hO2 := hO.keep hbL
    have hb2 := hb.trans (hbL.mono (by rw [← HG1.out]; exact hbw.size))
    have HNO : Hid (y.person = m'.person → othF (M.take (j + 1)) m' = othF (M.take j) m') := Lib.hid (fun e => by rw [take_at hy, othF_snoc, if_pos e])
    have HYE : Hid (y.person ≠ m'.person → othF (M.take (j + 1)) m' = othF (M.take j) m' ++ [y]) := Lib.hid (fun e => by rw [take_at hy, othF_snoc, if_neg e])
    clear hO hb hy hbw hbL
    go_upto_region 5 with (fail)
    generalize wr.alloc (.cells #[.string ⟨y.person.toArray⟩, .int .i64 y.number, .int .i64 y.dept, .int .i64 y.day, .slice y.aa y.ans.length y.ac] 39) = w2 at *
    generalize wr.heap.size = gy at *
    clear x0 x1 x2 x3 x4
    have c0 := hL1.cell 0 rfl
    have u0 := fun d os => cell_regrown c0 d os
    have u1 := fun d os => cell_regrown hk0 d os
    by_cases hp : y.person = m'.person
    · have hb1 : (y.person != m'.person) = false := by rw [bne_eq_false_iff_eq]; exact hp
      have hb3 : (y.person == m'.person) = true := beq_iff_eq.2 hp
      refine wp_region_quiet_below (by kernel_rfl) (by kernel_rfl) ?_
      repeat (go_big_quiet_step (fail))
      refine wpQuiet_nil ?_
      rintro w7 ⟨p2, hw7⟩
      have hq := show Below w2.heap.size w2 w7 by first | (rw [hw7]; exact below_regrown w2 p2.d p2.os) | (rw [← hw7]; exact below_regrown w2 p2.d p2.os)
      clear hw7
      have HO3 := Lib.hid (hO2.keep hq)
      have HB3 : Hid (Below g1 w w7) := Lib.hid (hb2.trans (hq.mono (by have := HG1.out; have := hb2.size; omega)))
      have HL3 : Hid ((m' :: othF (M.take (j + 1)) m').length = n) := Lib.hid (by rw [HNO.out hp]; exact hL.out)
      have HR3 : Hid (rowsC mmC (m' :: othF (M.take (j + 1)) m') = rowsC mmC (m' :: othF (M.take j) m')) := Lib.hid (by rw [HNO.out hp])
      clear hO2 hb2 hq u0 u1 c0 hk0 hL1 hL HNO HYE
      go_wp2_with fail
      go_roundw
      case rel => exact ⟨j + 1, n, a, c, by omega, by omega, by go_num, rfl, by rw [HR3.out]; exact HO3.out, HB3.out, HL3⟩
      case measure => simp [intOf]; omega
    · have hb1 : (y.person != m'.person) = true := by rw [bne_iff_ne]; exact hp
      have hb3 : (y.person == m'.person) = false := by rw [beq_eq_false_iff_ne]; exact hp
      refine wp_region_quiet_below (by kernel_rfl) (by kernel_rfl) ?_
      repeat (go_big_quiet_step (fail))
      refine wpQuiet_nil ?_
      rintro w7 ⟨p2, hw7⟩
      have hq := show Below w2.heap.size w2 w7 by first | (rw [hw7]; exact below_regrown w2 p2.d p2.os) | (rw [← hw7]; exact below_regrown w2 p2.d p2.os)
      clear hw7
      have hO3 := hO2.keep hq
      have hb4 : Below g1 w w7 := hb2.trans (hq.mono (by have := HG1.out; have := hb2.size; omega))
      have hz4 : g1 ≤ w7.heap.size := by rw [← HG1.out]; exact hb4.size
      have hL3 := hL1.keep hq
      have e0 := hL3.cell 0 rfl
      have e1 := hL3.cell 1 rfl
      have e2 := hL3.cell 2 rfl
      have e3 := hL3.cell 3 rfl
      have e4 := hL3.cell 4 rfl
      have HL3 : Hid ((m' :: othF (M.take (j + 1)) m').length = n + 1) := Lib.hid (by rw [HYE.out hp, ← List.cons_append, List.length_append, hL.out]; rfl)
      have HR3 : Hid (rowsC mmC (m' :: othF (M.take (j + 1)) m') = rowsC mmC (m' :: othF (M.take j) m') ++ [.string ⟨y.person.toArray⟩, .int .i64 y.number, .int .i64 y.dept, .int .i64 y.day, .slice y.aa y.ans.length y.ac]) := Lib.hid (by rw [HYE.out hp, ← List.cons_append, rowsC_append, rowsC_single]; rfl)
      clear hO2 hb2 hq u0 u1 c0 hk0 hL1 hL HNO HYE hL3
      go_wp2_with (at_builtin; refine wpList_app1_at (w0 := w) (B := g1) (base := g1) rfl _ _ _ rfl elMem rfl hO3 hb4 (Nat.le_refl _) hz4 (cs := [.string ⟨y.person.toArray⟩, .int .i64 y.number, .int .i64 y.dept, .int .i64 y.day, .slice y.aa y.ans.length y.ac]) rfl rfl (by intro u hu; simp at hu; rcases hu with rfl | rfl | rfl | rfl | rfl <;> rfl) (by omega) ?_; intro a5 c5 w8 hO5 hb5 hg5 hat5; clear hg5 hat5)
      rw [← HR3.out] at hO5
      clear e0 e1 e2 e3 e4 hO3 hb4
      have HO5 := Lib.hid hO5
      have HB5 := Lib.hid hb5
      clear hO5 hb5
      go_roundw
      case rel => exact ⟨j + 1, n + 1, a5, c5, by omega, by omega, by go_num, rfl, HO5.out, HB5.out, HL3⟩
      case measure => simp [intOf]; omega
end Go.Proofs.YtpofijdkckaphaaGreatDoor
/- Conditions: whether a term holds, as the reference counts it. -/
namespace Go.Proofs.YtpofijdkckaphaaGreatDoor
open Go.RowKit
theorem okT_kind {t : Trm} (h : okT t = true) : t.kind = 1 ∨ t.kind = 2 ∨ t.kind = 3 ∨ t.kind = 4 ∨ t.kind = 5 ∨ t.kind = 6 ∨ t.kind = 7 ∨ t.kind = 8 := by
  by_cases hk : t.kind = 1 ∨ t.kind = 2 ∨ t.kind = 3 ∨ t.kind = 4 ∨ t.kind = 5 ∨ t.kind = 6 ∨ t.kind = 7 ∨ t.kind = 8
  · exact hk
  · have : bareF t = false := by
      unfold bareF
      rw [if_neg (by omega), if_neg (by omega), if_neg (by omega), if_neg (by omega)]
    unfold okT at h
    rw [this] at h
    cases h
theorem dst_me {m : Mem} {S : List Mem} (h : ∀ y ∈ S, y.person ≠ m.person) : dst ((m :: S).map Mem.person) = 1 + dst (S.map Mem.person) := by
  rw [List.map_cons, dst, if_neg]
  intro hm
  obtain ⟨y, hy, e⟩ := List.mem_map.1 hm
  exact h y hy e
section
variable {wi : Int → Int → Int → Bool} {t : Trm} {m : Mem} {O : List Mem}
theorem leaf3 (h : ∀ y ∈ O, y.person ≠ m.person) (hk : t.kind = 3) : leafT wi t m O = decide ((dst ((m :: O).map Mem.person) : Int) ≥ t.number) := by
  rw [dst_me h]
  unfold leafT
  rw [if_pos hk, decide_eq_decide]; omega
theorem leaf4 (hk : t.kind = 4) : leafT wi t m O = decide ((dst ((m :: O).map Mem.dept) : Int) ≥ t.number) := by
  unfold leafT
  rw [if_neg (by omega), if_pos hk, List.map_cons, decide_eq_decide]
theorem leaf5 (h : ∀ y ∈ O, y.person ≠ m.person) (hk : t.kind = 5) : leafT wi t m O = decide ((dst ((m :: O.filter fun y => wi m.day y.day t.years).map Mem.person) : Int) ≥ t.number) := by
  rw [dst_me (fun y hy => h y (List.mem_filter.1 hy).1)]
  unfold leafT
  rw [if_neg (by omega), if_neg (by omega), if_pos hk, decide_eq_decide]; omega
theorem leaf6 (hk : t.kind = 6) : leafT wi t m O = (m :: O).any fun y => decide (y.number < m.number) := by
  unfold leafT
  rw [if_neg (by omega), if_neg (by omega), if_neg (by omega), if_pos hk, List.any_cons, decide_eq_false (show ¬ m.number < m.number by omega), Bool.false_or]
theorem leaf7 (h : ∀ y ∈ O, y.person ≠ m.person) (hk : t.kind = 7) : leafT wi t m O = decide ((dst (((m :: O).filter fun y => saysB t.field t.text y).map Mem.person) : Int) ≥ t.number) := by
  have e : (dst (((m :: O).filter fun y => saysB t.field t.text y).map Mem.person) : Int) = (if saysB t.field t.text m = true then 1 else 0) + (dst ((O.filter fun y => saysB t.field t.text y).map Mem.person) : Int) := by
    by_cases hs : saysB t.field t.text m = true
    · rw [List.filter_cons_of_pos hs, dst_me (fun y hy => h y (List.mem_filter.1 hy).1), if_pos hs]; push_cast; rfl
    · rw [List.filter_cons_of_neg hs, if_neg hs]; exact (Int.zero_add _).symm
  rw [e]
  unfold leafT
  rw [if_neg (by omega), if_neg (by omega), if_neg (by omega), if_neg (by omega), if_pos hk, decide_eq_decide]
theorem leaf8 (hk : t.kind = 8) : leafT wi t m O = true := by
  unfold leafT
  rw [if_neg (by omega), if_neg (by omega), if_neg (by omega), if_neg (by omega), if_neg (by omega), decide_eq_true hk]
end
/-- those that are picked out of the first j, by number and member -/
def selN (p : Nat → Mem → Bool) (L : List Mem) : Nat → List Mem
  | 0 => []
  | j + 1 => selN p L j ++ (match L[j]? with
    | some y => if p j y = true then [y] else []
    | none => [])
theorem selN_no {p : Nat → Mem → Bool} {L : List Mem} {j : Nat} {y : Mem} (hy : Hid (L[j]? = some y)) (h : p j y = false) : selN p L (j + 1) = selN p L j := by
  rw [selN, hy.out]
  dsimp only
  rw [if_neg (by rw [h]; decide), List.append_nil]
theorem selN_yes {p : Nat → Mem → Bool} {L : List Mem} {j : Nat} {y : Mem} (hy : Hid (L[j]? = some y)) (h : p j y = true) : selN p L (j + 1) = selN p L j ++ [y] := by
  rw [selN, hy.out]
  dsimp only
  rw [if_pos h]
theorem selN_sub {p : Nat → Mem → Bool} {L : List Mem} : ∀ {j : Nat} {y : Mem}, y ∈ selN p L j → y ∈ L
  | 0, y, h => by simp [selN] at h
  | j + 1, y, h => by
    rw [selN] at h
    rcases List.mem_append.1 h with h | h
    · exact selN_sub h
    · split at h
      · next z hz =>
        split at h
        · rw [List.mem_singleton.1 h]; exact List.mem_of_getElem? hz
        · simp at h
      · simp at h
theorem selN_all {p : Mem → Bool} {L : List Mem} : ∀ {j : Nat}, j ≤ L.length → selN (fun _ y => p y) L j = (L.take j).filter p
  | 0, _ => rfl
  | j + 1, h => by
    have e : L[j]? = some L[j] := List.getElem?_eq_getElem (by omega)
    rw [selN, e, selN_all (by omega), List.take_add_one, e, List.filter_append]
    dsimp only
    congr 1
    by_cases hq : p L[j] = true
    · simp [hq]
    · simp [hq]
theorem selN_first {p : Nat → Mem → Bool} {q : Mem → Bool} {m : Mem} {O : List Mem} (h0 : p 0 m = true) (h1 : ∀ i y, p (i + 1) y = q y) : ∀ {j : Nat}, j ≤ O.length → selN p (m :: O) (j + 1) = m :: (O.take j).filter q
  | 0, _ => by simp [selN, h0]
  | j + 1, h => by
    have e : O[j]? = some O[j] := List.getElem?_eq_getElem (by omega)
    rw [selN, selN_first h0 h1 (by omega), List.getElem?_cons_succ, e, List.take_add_one, e, List.filter_append, List.cons_append]
    dsimp only
    rw [h1]
    by_cases hq : q O[j] = true
    · simp [hq]
    · simp [hq]
theorem selN_len {p : Nat → Mem → Bool} {L : List Mem} : ∀ (j : Nat), (selN p L j).length ≤ j
  | 0 => Nat.le_refl _
  | j + 1 => by
    rw [selN, List.length_append]
    have := selN_len (p := p) (L := L) j
    split
    · split
      · simp; omega
      · simp; omega
    · simp; omega
/-- the boxes of a turn of term -/
structure Rw (W w : World) (g3 g7 : Nat) (ta : Option Addr) (T : List Trm) (tc : Nat) (oa : Option Addr) (L : List Mem) (t : Trm) : Prop where
  x : Bx w g3 42 [.slice ta T.length tc]
  tt : Bx w g7 50 (trC t)
  r : RdT w ta T
  m : RdM w oa L
  a : Rd w t.aa (ints t.args)
  b : Below W.heap.size W w
theorem Rw.keep {W w w' : World} {g3 g7 : Nat} {ta : Option Addr} {T : List Trm} {tc : Nat} {oa : Option Addr} {L : List Mem} {t : Trm} (h : Rw W w g3 g7 ta T tc oa L t) (hb : Below w.heap.size w w') : Rw W w' g3 g7 ta T tc oa L t :=
  ⟨h.x.keep hb, h.tt.keep hb, h.r.keep hb, h.m.keep hb, h.a.keep hb, h.b.trans (hb.mono h.b.size)⟩
theorem RdM.sel {w : World} {oa a : Option Addr} {L S : List Mem} (h : RdM w oa L) (hs : ∀ y ∈ S, y ∈ L) (hr : Rd w a (rowsC mmC S)) : RdM w a S := ⟨hr, fun y hy => h.ans y (hs y hy), fun y hy => h.ok y (hs y hy)⟩
end Go.Proofs.YtpofijdkckaphaaGreatDoor
