/- Conditions: how many departments, whether a member fulfils something, who came first: the program's. -/
import Derived.Test.YtpofijdkckaphaaGreatDoorGCndD
namespace Go.Proofs.YtpofijdkckaphaaGreatDoor
open Go.RowKit
theorem dst_perm {α : Type} [DecidableEq α] (x : α) (l : List α) : dst (x :: l) = dst (l ++ [x]) := by
  rw [dst_snoc, dst]; omega
theorem dst_cons_snoc {α : Type} [DecidableEq α] (x y : α) (l : List α) : dst (x :: (l ++ [y])) = dst (x :: l) + (if y ∈ x :: l then 0 else 1) := by
  rw [← List.cons_append, dst_snoc]
set_option maxRecDepth 100000 in
set_option maxHeartbeats 2000000 in
theorem deps_walk {ga : Nat} {ta : Option Addr} {T : List Trm} {tc : Nat} {me : Mem} {oa : Option Addr} {O : List Mem} {oc : Nat} (w : World) (hV : View w ga ta T tc me oa O oc) (hl : O.length ≤ 1000000000) :
    Calls Tryz.prog 101 #[.pointer (some ⟨ga, 0, none⟩)] w fun e w' => e = .returned (.int .i64 (dst (me.dept :: O.map Mem.dept) : Int)) ∧ Below w.heap.size w w' := by
  have HV := Lib.hid hV
  have y3 := hV.v.cell 3 rfl
  have y6 := hV.v.cell 6 rfl
  have hme := hV.i.2.1.2.1
  clear hV
  have hm0 := MpI.new w
  have hbm := (Below.refl w.heap.size w).alloc (Nat.le_refl _) (.map #[] 0)
  have z3 := cell_alloc hbm y3
  have hmk : ∀ V, (Instr.makeMap 106 none).run Tryz.prog V = .ok (.map (some V.heap.size)) (V.alloc (.map #[] 0)) := fun V => rfl
  obtain ⟨gm, hgm⟩ : ∃ g, g = w.heap.size := ⟨_, rfl⟩
  have hbw : w.heap.size = gm := hgm.symm
  rw [← hgm] at hm0
  have HG := Lib.hid hgm
  clear hgm
  have hown0 : World.ownsMap (w.alloc (.map #[] 0)) Tryz.prog 3 bElem gm 0 _ := hm0
  obtain ⟨w2, hrun, hown1, hgrow1⟩ := World.ownsMap.update hown0 keyed_i Tryz.underlying106 (by decide) (key_i hme) (plainElem_bool Tryz.underlying4 true)
  have hM : MpI w2 gm (0 + 1) [me.dept] := by
    show World.ownsMap _ _ _ _ _ _ _
    rw [show ([me.dept] : List Int) = [] ++ [me.dept] from rfl, gset_snoc]; exact hown1
  have hb2 := hbm.grown hgrow1 hbm.size (fun j hj => by cases hj; rw [HG.out]; exact Nat.le_refl _)
  have x6 := cell_alloc hb2 y6
  clear hown0 hown1 hgrow1 hm0 hme
  go_enter Tryz.func101, Tryz.ntmps101
  go_upto_region 2 with (fail)
  clear y3 y6 z3 hrun hbm hbw hmk
  go_wp2_with fail
  go_loopw [18] (fun i wr => ∃ j : Nat, j ≤ O.length ∧ i = .int .i64 (j : Int) ∧ Below w.heap.size w wr ∧ MpI wr gm (j + 1) (me.dept :: (O.take j).map Mem.dept)) (fun i _ => O.length - (intOf i).toNat)
  case atStart => exact ⟨0, Nat.zero_le _, rfl, hb2, hM⟩
  case round =>
    clear hb2 hM x6
    obtain ⟨j, hj, rfl, hb, hM⟩ := hrel
    by_cases hjt : j < O.length
    rotate_left
    · have hjl : ¬ (j : Int) < (O.length : Int) := by omega
      obtain rfl : j = O.length := by omega
      rw [List.take_length] at hM
      have hown : World.ownsMap wr Tryz.prog 3 bElem gm (O.length + 1) _ := hM
      have HS := Lib.hid (MpI.size (L := me.dept :: O.map Mem.dept))
      have HB := Lib.hid hb
      clear hb hM
      go_wp2_with (at_len; refine wpList_len_own _ rfl _ 106 rfl 3 4 Tryz.underlying106 _ gm _ _ rfl hown ?_)
      go_ret
      exact ⟨ret_int (by rw [HS.out]), HB.out⟩
    have hjl : (j : Int) < (O.length : Int) := by omega
    obtain ⟨g', o', y, rfl, hy, ⟨x0, x1, x2, x3, x4⟩, -, hIn⟩ := (HV.out.o.keep hb).mem (k := j) hjt
    have hbL := (Below.refl wr.heap.size wr).alloc (Nat.le_refl _) (.cells #[.string ⟨y.person.toArray⟩, .int .i64 y.number, .int .i64 y.dept, .int .i64 y.day, .slice y.aa y.ans.length y.ac] 39)
    have hL := Bx.new wr 39 [.string ⟨y.person.toArray⟩, .int .i64 y.number, .int .i64 y.dept, .int .i64 y.day, .slice y.aa y.ans.length y.ac]
    change Bx (wr.alloc (.cells #[.string ⟨y.person.toArray⟩, .int .i64 y.number, .int .i64 y.dept, .int .i64 y.day, .slice y.aa y.ans.length y.ac] 39)) _ _ _ at hL
    have hM1 := hM.keep hbL
    have hb1 := hb.trans (hbL.mono hb.size)
    have HTK : Hid ((O.take (j + 1)).map Mem.dept = (O.take j).map Mem.dept ++ [y.dept]) := Lib.hid (by rw [take_at hy, List.map_append]; rfl)
    clear hM hb hbL hy
    go_upto_region 5 with (fail)
    generalize wr.alloc (.cells #[.string ⟨y.person.toArray⟩, .int .i64 y.number, .int .i64 y.dept, .int .i64 y.day, .slice y.aa y.ans.length y.ac] 39) = w2 at *
    generalize wr.heap.size = gy at *
    clear x0 x1 x2 x3 x4
    have z2 := hL.cell 2 rfl
    have hkey := key_i hIn.2.1.2.1
    have hown : World.ownsMap w2 Tryz.prog 3 bElem gm (j + 1) _ := hM1
    have HB1 := Lib.hid hb1
    clear hM1 hIn hL hb1
    go_wp2_with (first
        | (at_mapUpdate; refine wpList_mapUpdate_own _ rfl _ _ _ 106 rfl 3 4 keyed_i Tryz.underlying106 bElem gm (j + 1) _ rfl hown (by unfold maxLen; omega) _ _ _ rfl rfl hkey _ [] (plainElem_bool Tryz.underlying4 true) ?_; intro w4 hown1 hgrow1))
    have hM3 : MpI w4 gm (j + 1 + 1) (me.dept :: (O.take (j + 1)).map Mem.dept) := by
      rw [HTK.out, ← List.cons_append]
      show World.ownsMap _ _ _ _ _ _ _
      rw [gset_snoc]; exact hown1
    have HB3 := Lib.hid (HB1.out.grown hgrow1 HB1.out.size (fun j hj => by cases hj; rw [HG.out]; exact Nat.le_refl _))
    have HM3 := Lib.hid hM3
    clear hM3 hown hown1 hgrow1
    go_roundw
    case rel => exact ⟨j + 1, by omega, by go_num, HB3.out, HM3.out⟩
    case measure => simp [intOf]; omega
set_option maxRecDepth 100000 in
theorem own_says {gf gx : Nat} {f x : List UInt8} {ga : Nat} {ta : Option Addr} {T : List Trm} {tc : Nat} {me : Mem} {oa : Option Addr} {O : List Mem} {oc : Nat} (w : World) (hE : EnvA w gf gx f x) (hV : View w ga ta T tc me oa O oc) :
    Calls Tryz.prog 107 #[.pointer (some ⟨ga, 0, none⟩), .func (.func 119) #[] #[.pointer (some ⟨gf, 0, none⟩), .pointer (some ⟨gx, 0, none⟩)]] w fun e w' => e = .returned (.int .i64 (if saysB f x me = true then 1 else 0)) ∧ Below w.heap.size w w' := by
  have K1 := Lib.hid (ans1_clo me w hE hV.x (by have := hV.i.2.2.2; omega))
  have y1 := hV.v.cell 1 rfl
  have y2 := hV.v.cell 2 rfl
  have y3 := hV.v.cell 3 rfl
  have y4 := hV.v.cell 4 rfl
  have y5 := hV.v.cell 5 rfl
  clear hV hE
  generalize saysB f x me = b at *
  go_enter Tryz.func107, Tryz.ntmps107
  cases b with
  | false =>
    go_wp2_with ((with_reducible refine K1.out.mono ?_); (first | rintro e w3 rfl hb3 | rintro e w3 ⟨rfl, hb3⟩))
    go_ret
    exact ⟨rfl, hb3⟩
  | true =>
    go_wp2_with ((with_reducible refine K1.out.mono ?_); (first | rintro e w3 rfl hb3 | rintro e w3 ⟨rfl, hb3⟩))
    go_ret
    exact ⟨rfl, hb3⟩
/-- what the closure over numbers reads -/
structure EnvN (w : World) (gv g : Nat) (m : Mem) (v0 v5 v6 : Value) : Prop where
  p : Bx w gv 102 [.pointer (some ⟨g, 0, none⟩)]
  v : Bx w g 121 [v0, .string ⟨m.person.toArray⟩, .int .i64 m.number, .int .i64 m.dept, .int .i64 m.day, v5, v6]
theorem EnvN.keep {w w' : World} {gv g : Nat} {m : Mem} {v0 v5 v6 : Value} (h : EnvN w gv g m v0 v5 v6) (hb : Below w.heap.size w w') : EnvN w' gv g m v0 v5 v6 := ⟨h.p.keep hb, h.v.keep hb⟩
set_option maxRecDepth 100000 in
set_option maxHeartbeats 1000000 in
theorem first_clo (y : Mem) {gv g : Nat} {m : Mem} {v0 v5 v6 : Value} (w : World) (hE : EnvN w gv g m v0 v5 v6) :
    Calls Tryz.prog 105 #[.agg #[.string ⟨y.person.toArray⟩, .int .i64 y.number, .int .i64 y.dept, .int .i64 y.day, .slice y.aa y.ans.length y.ac], .pointer (some ⟨gv, 0, none⟩)] w fun e w' => e = .returned (.bool (decide (y.number < m.number))) ∧ Below w.heap.size w w' := by
  have hb := (Below.refl w.heap.size w).alloc (Nat.le_refl _) (.cells #[.string ⟨y.person.toArray⟩, .int .i64 y.number, .int .i64 y.dept, .int .i64 y.day, .slice y.aa y.ans.length y.ac] 39)
  have hN := Bx.new w 39 [.string ⟨y.person.toArray⟩, .int .i64 y.number, .int .i64 y.dept, .int .i64 y.day, .slice y.aa y.ans.length y.ac]
  change Bx (w.alloc (.cells #[.string ⟨y.person.toArray⟩, .int .i64 y.number, .int .i64 y.dept, .int .i64 y.day, .slice y.aa y.ans.length y.ac] 39)) _ _ _ at hN
  replace hE := hE.keep hb
  obtain ⟨g0, hg0⟩ : ∃ g, g = w.heap.size := ⟨_, rfl⟩
  have hbw : w.heap.size = g0 := hg0.symm
  rw [← hg0] at hN
  have HB := Lib.hid hb
  clear hg0 hb
  go_enter Tryz.func105, Tryz.ntmps105
  go_upto_region 1 with (fail)
  generalize w.alloc (.cells #[.string ⟨y.person.toArray⟩, .int .i64 y.number, .int .i64 y.dept, .int .i64 y.day, .slice y.aa y.ans.length y.ac] 39) = w1 at *
  clear hbw
  have c0 := hE.p.cell 0 rfl
  have c1 := hE.v.cell 2 rfl
  have c3 := hN.cell 1 rfl
  have u0 := fun d os => cell_regrown c0 d os
  have u1 := fun d os => cell_regrown c1 d os
  have u3 := fun d os => cell_regrown c3 d os
  refine wp_region_quiet_below (by kernel_rfl) (by kernel_rfl) ?_
  repeat (go_big_quiet_step (fail))
  refine wpQuiet_nil ?_
  rintro w7 ⟨p2, hw7⟩
  have hq := (show Below w1.heap.size w1 w7 by first | (rw [hw7]; exact below_regrown w1 p2.d p2.os) | (rw [← hw7]; exact below_regrown w1 p2.d p2.os))
  clear hw7
  have HQ := Lib.hid (below_tr HB.out hq)
  clear u0 u1 u3 c0 c1 c3 hq
  go_wp2
  go_ret
  exact ⟨rfl, HQ.out⟩
set_option maxRecDepth 100000 in
set_option maxHeartbeats 1000000 in
theorem first_idx {gv g : Nat} {m : Mem} {v0 v5 v6 : Value} (a : Option Addr) (l : List Mem) (c : Nat) (w : World) (hE : EnvN w gv g m v0 v5 v6) (hR : RdM w a l) (hl : l.length ≤ 281474976710656) :
    Calls Tryz.prog 118 #[.slice a l.length c, .func (.func 105) #[] #[.pointer (some ⟨gv, 0, none⟩)]] w fun e w' => e = .returned (.int .i64 (idxL (fun y : Mem => decide (y.number < m.number)) l)) ∧ Below w.heap.size w w' := by
  have HE := Lib.hid hE
  have HR0 := Lib.hid hR
  clear hE
  go_enter Tryz.func118, Tryz.ntmps118
  go_wp2_with fail
  go_loopw [8] (fun i wr => ∃ k : Nat, k ≤ l.length ∧ i = .int .i64 (k : Int) ∧ Hid (∀ (j : Nat) (r : Mem), j < k → l[j]? = some r → (fun y : Mem => decide (y.number < m.number)) r = false) ∧ Below w.heap.size w wr) (fun i _ => l.length - (intOf i).toNat)
  case atStart => exact ⟨0, Nat.zero_le _, rfl, Lib.hid (fun j r h => by omega), Below.refl _ _⟩
  case round =>
    obtain ⟨k, hk, rfl, hA, hB'⟩ := hrel
    by_cases hkt : k < l.length
    · obtain ⟨gx0, off, r, rfl, hr, ⟨d0, d1, d2, d3, d4⟩, -, -⟩ := (HR0.out.keep hB').mem (k := k) hkt
      have hkl : (k : Int) < (l.length : Int) := by omega
      have K1 := Lib.hid (first_clo r wr (HE.out.keep hB'))
      have HT : Hid ((fun y : Mem => decide (y.number < m.number)) r = false → ∀ (j : Nat) (r : Mem), j < k + 1 → l[j]? = some r → (fun y : Mem => decide (y.number < m.number)) r = false) := Lib.hid fun h j x hj hx => by
        by_cases e : j = k
        · subst e; rw [hr.out] at hx; cases hx; exact h
        · exact hA.out j x (by omega) hx
      have HF : Hid ((fun y : Mem => decide (y.number < m.number)) r = true → idxL (fun y : Mem => decide (y.number < m.number)) l = (k : Int)) := Lib.hid fun h => idxL_at hr.out h hA.out
      clear hA hr
      have hz0 : decide (r.number < m.number) = (fun y : Mem => decide (y.number < m.number)) r := rfl
      cases hz : (fun y : Mem => decide (y.number < m.number)) r with
      | false =>
        rw [hz0.trans hz] at K1
        replace HT := Lib.hid (HT.out hz)
        clear hz hz0 HF
        go_wp2_with ((with_reducible refine K1.out.mono ?_); (first | rintro e w1 rfl hb1 | rintro e w1 ⟨rfl, hb1⟩))
        go_roundw
        case rel => exact ⟨k + 1, by omega, by go_num, HT, below_tr hB' hb1⟩
        case measure => simp [intOf]; omega
      | true =>
        rw [hz0.trans hz] at K1
        replace HF := Lib.hid (HF.out hz)
        clear hz hz0 HT
        go_wp2_with ((with_reducible refine K1.out.mono ?_); (first | rintro e w1 rfl hb1 | rintro e w1 ⟨rfl, hb1⟩))
        go_ret
        exact ⟨ret_int HF.out.symm, below_tr hB' hb1⟩
    · have hkl : ¬ (k : Int) < (l.length : Int) := by omega
      obtain rfl : k = l.length := by omega
      have HN := Lib.hid (idxL_none (f := fun y : Mem => decide (y.number < m.number)) hA.out)
      clear hA
      go_wp2
      go_ret
      exact ⟨ret_int HN.out.symm, hB'⟩
set_option maxRecDepth 100000 in
theorem first_any {gv g : Nat} {m : Mem} {v0 v5 v6 : Value} (a : Option Addr) (l : List Mem) (c : Nat) (w : World) (hE : EnvN w gv g m v0 v5 v6) (hR : RdM w a l) (hl : l.length ≤ 281474976710656) :
    Calls Tryz.prog 104 #[.slice a l.length c, .func (.func 105) #[] #[.pointer (some ⟨gv, 0, none⟩)]] w fun e w' => e = .returned (.bool (l.any (fun y : Mem => decide (y.number < m.number)))) ∧ Below w.heap.size w w' := by
  have K1 := Lib.hid (first_idx  a l c w hE hR hl)
  have HE := Lib.hid (idxL_any (fun y : Mem => decide (y.number < m.number)) l)
  generalize idxL (fun y : Mem => decide (y.number < m.number)) l = i at *
  generalize l.any (fun y : Mem => decide (y.number < m.number)) = b at *
  clear hE hR
  go_enter Tryz.func104, Tryz.ntmps104
  go_wp2_with (go_at_call 118; (with_reducible refine K1.out.mono ?_); (first | rintro e w1 rfl hb1 | rintro e w1 ⟨rfl, hb1⟩))
  go_ret
  exact ⟨ret_bool (by rw [← HE.out]), hb1⟩
end Go.Proofs.YtpofijdkckaphaaGreatDoor
