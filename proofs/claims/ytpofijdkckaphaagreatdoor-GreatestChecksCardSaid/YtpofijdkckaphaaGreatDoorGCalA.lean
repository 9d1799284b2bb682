/- Days: the program's calendar: years, leap years, months, what lies before a year. -/
import Derived.Test.YtpofijdkckaphaaGreatDoorGCalP
import Derived.Test.YtpofijdkckaphaaGreatDoorGBk
import Derived.Laws.Rows
namespace Go.Proofs.YtpofijdkckaphaaGreatDoor
open Go.RowKit
set_option maxRecDepth 100000 in
theorem years_walk (y : Int) (w : World) :
    Calls Tryz.prog 129 #[.int .i64 y] w fun e w' => e = .returned (.bool (decide (1 ≤ y ∧ y ≤ 9999))) ∧ w = w' := by
  go_enter Tryz.func129, Tryz.ntmps129
  by_cases h1 : 1 ≤ y
  · have d1 : decide (y ≥ 1) = true := decide_eq_true h1
    by_cases h2 : y ≤ 9999
    · have d2 : decide (y ≤ 9999) = true := decide_eq_true h2
      go_wp2
      go_ret
      exact ⟨ret_bool (by rw [decide_eq_true ⟨h1, h2⟩]), rfl⟩
    · have d2 : decide (y ≤ 9999) = false := decide_eq_false h2
      go_wp2
      go_ret
      exact ⟨rfl, rfl⟩
  · have d1 : decide (y ≥ 1) = false := decide_eq_false h1
    go_wp2
    go_ret
    exact ⟨rfl, rfl⟩
set_option maxRecDepth 100000 in
theorem leap_walk (y : Int) (w : World) :
    Calls Tryz.prog 132 #[.int .i64 y] w fun e w' => e = .returned (.bool (leapB y)) ∧ w = w' := by
  have KY := Lib.hid (years_walk y w)
  have he : leapB y = (decide (1 ≤ y ∧ y ≤ 9999) && (decide (y % 4 = 0) && (!(decide (y % 100 = 0)) || decide (y % 400 = 0)))) := rfl
  generalize leapB y = R at *
  go_enter Tryz.func132, Tryz.ntmps132
  by_cases hy : 1 ≤ y ∧ y ≤ 9999
  rotate_left
  · rw [decide_eq_false hy] at KY he
    have HE := Lib.hid he
    clear he hy
    go_wp2_with (go_at_call 129; (with_reducible refine KY.out.mono ?_); (try rintro e w1 ⟨rfl, rfl⟩))
    go_ret
    exact ⟨ret_bool HE.out.symm, rfl⟩
  rw [decide_eq_true hy] at KY he
  have m1 : y.tmod 4 = y % 4 := Int.tmod_eq_emod_of_nonneg (by omega)
  have m2 : y.tmod 100 = y % 100 := Int.tmod_eq_emod_of_nonneg (by omega)
  have m3 : y.tmod 400 = y % 400 := Int.tmod_eq_emod_of_nonneg (by omega)
  have q1 : (y % 4 == 0) = decide (y % 4 = 0) := by rw [Bool.eq_iff_iff]; simp
  have q2 : (y % 100 == 0) = decide (y % 100 = 0) := by rw [Bool.eq_iff_iff]; simp
  have q3 : (y % 400 == 0) = decide (y % 400 = 0) := by rw [Bool.eq_iff_iff]; simp
  have q4 : (y % 100 != 0) = !(decide (y % 100 = 0)) := by rw [bne, q2]
  generalize decide (y % 4 = 0) = b1 at *
  generalize decide (y % 100 = 0) = b2 at *
  generalize decide (y % 400 = 0) = b3 at *
  generalize y % 4 = z1 at *
  generalize y % 100 = z2 at *
  generalize y % 400 = z3 at *
  have HE := Lib.hid he
  clear he hy
  cases b1 with
  | false =>
    go_wp2_with (go_at_call 129; (with_reducible refine KY.out.mono ?_); (try rintro e w1 ⟨rfl, rfl⟩))
    go_ret
    exact ⟨ret_bool HE.out.symm, rfl⟩
  | true =>
  cases b2 with
  | false =>
    go_wp2_with (go_at_call 129; (with_reducible refine KY.out.mono ?_); (try rintro e w1 ⟨rfl, rfl⟩))
    go_ret
    exact ⟨ret_bool HE.out.symm, rfl⟩
  | true =>
    go_wp2_with (go_at_call 129; (with_reducible refine KY.out.mono ?_); (try rintro e w1 ⟨rfl, rfl⟩))
    go_ret
    exact ⟨ret_bool (by rw [HE.out]; simp), rfl⟩
set_option maxRecDepth 100000 in
theorem before_walk (y : Int) (w : World) (h1 : 1 ≤ y) (h2 : y ≤ 9999) :
    Calls Tryz.prog 139 #[.int .i64 y] w fun e w' => e = .returned (.int .i64 (befF y)) ∧ w = w' := by
  have HE : Hid (befF y = 365 * (y - 1) + (y - 1) / 4 - (y - 1) / 100 + (y - 1) / 400) := Lib.hid rfl
  generalize befF y = R at *
  obtain ⟨z, hz⟩ : ∃ z, z = y - 1 := ⟨_, rfl⟩
  have w1 : IntKind.i64.wrap (y - 1) = z := by rw [IntKind.wrap_i64]; omega
  rw [← hz] at HE
  have hz0 : 0 ≤ z := by omega
  have hz1 : z ≤ 9998 := by omega
  have m1 : z.tdiv 4 = z / 4 := Int.tdiv_eq_ediv_of_nonneg hz0
  have m2 : z.tdiv 100 = z / 100 := Int.tdiv_eq_ediv_of_nonneg hz0
  have m3 : z.tdiv 400 = z / 400 := Int.tdiv_eq_ediv_of_nonneg hz0
  have w2 : IntKind.i64.wrap (365 * z) = 365 * z := by rw [IntKind.wrap_i64]; omega
  have w3 : IntKind.i64.wrap (z / 4) = z / 4 := by rw [IntKind.wrap_i64]; omega
  have w4 : IntKind.i64.wrap (z / 100) = z / 100 := by rw [IntKind.wrap_i64]; omega
  have w5 : IntKind.i64.wrap (z / 400) = z / 400 := by rw [IntKind.wrap_i64]; omega
  have w6 : IntKind.i64.wrap (365 * z + z / 4) = 365 * z + z / 4 := by rw [IntKind.wrap_i64]; omega
  have w7 : IntKind.i64.wrap (365 * z + z / 4 - z / 100) = 365 * z + z / 4 - z / 100 := by rw [IntKind.wrap_i64]; omega
  have w8 : IntKind.i64.wrap (365 * z + z / 4 - z / 100 + z / 400) = 365 * z + z / 4 - z / 100 + z / 400 := by rw [IntKind.wrap_i64]; omega
  clear hz h1 h2
  go_enter Tryz.func139, Tryz.ntmps139
  go_wp2
  go_ret
  exact ⟨ret_int HE.out.symm, rfl⟩
set_option maxRecDepth 100000 in
set_option maxHeartbeats 1000000 in
theorem months_walk (b : Bool) (w : World) :
    Calls Tryz.prog 131 #[.bool b] w fun e w' => e = .returned (.agg (ints (monL b)).toArray) ∧ Below w.heap.size w w' := by
  obtain ⟨g0, hg0⟩ : ∃ g, g = w.heap.size := ⟨_, rfl⟩
  have HG := Lib.hid hg0
  have hbw : w.heap.size = g0 := hg0.symm
  have hb0 := ((Below.refl w.heap.size w).alloc (Nat.le_refl _) (.cells #[.int .i64 0, .int .i64 0, .int .i64 0, .int .i64 0, .int .i64 0, .int .i64 0, .int .i64 0, .int .i64 0, .int .i64 0, .int .i64 0, .int .i64 0, .int .i64 0] 153)).alloc (by simp) (.cells #[.int .i64 31, .int .i64 28, .int .i64 31, .int .i64 30, .int .i64 31, .int .i64 30, .int .i64 31, .int .i64 31, .int .i64 30, .int .i64 31, .int .i64 30, .int .i64 31] 153)
  have h0 := (Bx.new w 153 [.int .i64 0, .int .i64 0, .int .i64 0, .int .i64 0, .int .i64 0, .int .i64 0, .int .i64 0, .int .i64 0, .int .i64 0, .int .i64 0, .int .i64 0, .int .i64 0]).alloc (.cells #[.int .i64 31, .int .i64 28, .int .i64 31, .int .i64 30, .int .i64 31, .int .i64 30, .int .i64 31, .int .i64 31, .int .i64 30, .int .i64 31, .int .i64 30, .int .i64 31] 153)
  change Bx ((w.alloc (.cells #[.int .i64 0, .int .i64 0, .int .i64 0, .int .i64 0, .int .i64 0, .int .i64 0, .int .i64 0, .int .i64 0, .int .i64 0, .int .i64 0, .int .i64 0, .int .i64 0] 153)).alloc (.cells #[.int .i64 31, .int .i64 28, .int .i64 31, .int .i64 30, .int .i64 31, .int .i64 30, .int .i64 31, .int .i64 31, .int .i64 30, .int .i64 31, .int .i64 30, .int .i64 31] 153)) _ _ _ at h0
  have h1 := Bx.new (w.alloc (.cells #[.int .i64 0, .int .i64 0, .int .i64 0, .int .i64 0, .int .i64 0, .int .i64 0, .int .i64 0, .int .i64 0, .int .i64 0, .int .i64 0, .int .i64 0, .int .i64 0] 153)) 153 [.int .i64 31, .int .i64 28, .int .i64 31, .int .i64 30, .int .i64 31, .int .i64 30, .int .i64 31, .int .i64 31, .int .i64 30, .int .i64 31, .int .i64 30, .int .i64 31]
  change Bx ((w.alloc (.cells #[.int .i64 0, .int .i64 0, .int .i64 0, .int .i64 0, .int .i64 0, .int .i64 0, .int .i64 0, .int .i64 0, .int .i64 0, .int .i64 0, .int .i64 0, .int .i64 0] 153)).alloc (.cells #[.int .i64 31, .int .i64 28, .int .i64 31, .int .i64 30, .int .i64 31, .int .i64 30, .int .i64 31, .int .i64 31, .int .i64 30, .int .i64 31, .int .i64 30, .int .i64 31] 153)) _ _ _ at h1
  have hz : (w.alloc (.cells #[.int .i64 0, .int .i64 0, .int .i64 0, .int .i64 0, .int .i64 0, .int .i64 0, .int .i64 0, .int .i64 0, .int .i64 0, .int .i64 0, .int .i64 0, .int .i64 0] 153)).heap.size = g0 + 1 := by rw [hg0]; simp
  rw [hz] at h1
  rw [← hg0] at h0 hb0
  obtain ⟨g1, hg1⟩ : ∃ g, g = g0 + 1 := ⟨_, rfl⟩
  rw [← hg1] at h1
  clear hg0 hz
  go_enter Tryz.func131, Tryz.ntmps131
  go_upto_region 2 with (fail)
  rw [← hg1]
  have hlt : g0 < g1 := by omega
  generalize (w.alloc (.cells #[.int .i64 0, .int .i64 0, .int .i64 0, .int .i64 0, .int .i64 0, .int .i64 0, .int .i64 0, .int .i64 0, .int .i64 0, .int .i64 0, .int .i64 0, .int .i64 0] 153)).alloc (.cells #[.int .i64 31, .int .i64 28, .int .i64 31, .int .i64 30, .int .i64 31, .int .i64 30, .int .i64 31, .int .i64 31, .int .i64 30, .int .i64 31, .int .i64 30, .int .i64 31] 153) = w2 at *
  clear hbw hg1
  cases b with
  | false =>
    go_upto_region 4 with (fail)
    generalize w2 = w3 at *
    have c0 := h1.cell 0 rfl
    have c1 := h1.cell 1 rfl
    have c2 := h1.cell 2 rfl
    have c3 := h1.cell 3 rfl
    have c4 := h1.cell 4 rfl
    have c5 := h1.cell 5 rfl
    have c6 := h1.cell 6 rfl
    have c7 := h1.cell 7 rfl
    have c8 := h1.cell 8 rfl
    have c9 := h1.cell 9 rfl
    have c10 := h1.cell 10 rfl
    have c11 := h1.cell 11 rfl
    have d0 := h0.cell 0 rfl
    have f0 := h0.free 0
    have d1 := h0.cell 1 rfl
    have f1 := h0.free 1
    have d2 := h0.cell 2 rfl
    have f2 := h0.free 2
    have d3 := h0.cell 3 rfl
    have f3 := h0.free 3
    have d4 := h0.cell 4 rfl
    have f4 := h0.free 4
    have d5 := h0.cell 5 rfl
    have f5 := h0.free 5
    have d6 := h0.cell 6 rfl
    have f6 := h0.free 6
    have d7 := h0.cell 7 rfl
    have f7 := h0.free 7
    have d8 := h0.cell 8 rfl
    have f8 := h0.free 8
    have d9 := h0.cell 9 rfl
    have f9 := h0.free 9
    have d10 := h0.cell 10 rfl
    have f10 := h0.free 10
    have d11 := h0.cell 11 rfl
    have f11 := h0.free 11
    have hF := ((((((((((((h0.set 0 (.int .i64 31)).set 1 (.int .i64 28)).set 2 (.int .i64 31)).set 3 (.int .i64 30)).set 4 (.int .i64 31)).set 5 (.int .i64 30)).set 6 (.int .i64 31)).set 7 (.int .i64 31)).set 8 (.int .i64 30)).set 9 (.int .i64 31)).set 10 (.int .i64 30)).set 11 (.int .i64 31))
    simp only [List.set_cons_zero, List.set_cons_succ] at hF
    have hbF := ((((((((((((hb0.setCell (p := ⟨g0, 0, none⟩) (Nat.le_refl g0) (.int .i64 31)).setCell (p := ⟨g0, 1, none⟩) (Nat.le_refl g0) (.int .i64 28)).setCell (p := ⟨g0, 2, none⟩) (Nat.le_refl g0) (.int .i64 31)).setCell (p := ⟨g0, 3, none⟩) (Nat.le_refl g0) (.int .i64 30)).setCell (p := ⟨g0, 4, none⟩) (Nat.le_refl g0) (.int .i64 31)).setCell (p := ⟨g0, 5, none⟩) (Nat.le_refl g0) (.int .i64 30)).setCell (p := ⟨g0, 6, none⟩) (Nat.le_refl g0) (.int .i64 31)).setCell (p := ⟨g0, 7, none⟩) (Nat.le_refl g0) (.int .i64 31)).setCell (p := ⟨g0, 8, none⟩) (Nat.le_refl g0) (.int .i64 30)).setCell (p := ⟨g0, 9, none⟩) (Nat.le_refl g0) (.int .i64 31)).setCell (p := ⟨g0, 10, none⟩) (Nat.le_refl g0) (.int .i64 30)).setCell (p := ⟨g0, 11, none⟩) (Nat.le_refl g0) (.int .i64 31))
    replace hbF := hbF.mono (Nat.le_of_eq HG.out.symm)
    have HF := Lib.hid hF
    have HB := Lib.hid hbF
    clear hF hbF h0 h1 hb0 HG
    go_wp2
    generalize ((((((((((((w3.setCell ⟨g0, 0, none⟩ (.int .i64 31)).setCell ⟨g0, 1, none⟩ (.int .i64 28)).setCell ⟨g0, 2, none⟩ (.int .i64 31)).setCell ⟨g0, 3, none⟩ (.int .i64 30)).setCell ⟨g0, 4, none⟩ (.int .i64 31)).setCell ⟨g0, 5, none⟩ (.int .i64 30)).setCell ⟨g0, 6, none⟩ (.int .i64 31)).setCell ⟨g0, 7, none⟩ (.int .i64 31)).setCell ⟨g0, 8, none⟩ (.int .i64 30)).setCell ⟨g0, 9, none⟩ (.int .i64 31)).setCell ⟨g0, 10, none⟩ (.int .i64 30)).setCell ⟨g0, 11, none⟩ (.int .i64 31)) = wF at *
    have hA : (ints (monL false)).toArray = #[.int .i64 31, .int .i64 28, .int .i64 31, .int .i64 30, .int .i64 31, .int .i64 30, .int .i64 31, .int .i64 31, .int .i64 30, .int .i64 31, .int .i64 30, .int .i64 31] := rfl
    rw [hA]
    exact bodyPost_ret (results_cell_row rfl _ _ g0 _ #[.int .i64 31, .int .i64 28, .int .i64 31, .int .i64 30, .int .i64 31, .int .i64 30, .int .i64 31, .int .i64 31, .int .i64 30, .int .i64 31, .int .i64 30, .int .i64 31] _ _ rfl HF.out Tryz.underlying153 rfl (by kernel_rfl)) rfl ⟨rfl, HB.out⟩
  | true =>
    have c1 := h1.cell 1 rfl
    have f1 := h1.free 1
    replace h0 := h0.other (b := g1) (by omega) 1 (.int .i64 29)
    replace h1 := h1.set 1 (.int .i64 29)
    change Bx _ _ _ [.int .i64 31, .int .i64 29, .int .i64 31, .int .i64 30, .int .i64 31, .int .i64 30, .int .i64 31, .int .i64 31, .int .i64 30, .int .i64 31, .int .i64 30, .int .i64 31] at h1
    replace hb0 := hb0.setCell (p := ⟨g1, 1, none⟩) (by show g0 ≤ g1; omega) (.int .i64 29)
    go_upto_region 4 with (fail)
    clear c1 f1
    generalize w2.setCell ⟨g1, 1, none⟩ (.int .i64 29) = w3 at *
    have c0 := h1.cell 0 rfl
    have c1 := h1.cell 1 rfl
    have c2 := h1.cell 2 rfl
    have c3 := h1.cell 3 rfl
    have c4 := h1.cell 4 rfl
    have c5 := h1.cell 5 rfl
    have c6 := h1.cell 6 rfl
    have c7 := h1.cell 7 rfl
    have c8 := h1.cell 8 rfl
    have c9 := h1.cell 9 rfl
    have c10 := h1.cell 10 rfl
    have c11 := h1.cell 11 rfl
    have d0 := h0.cell 0 rfl
    have f0 := h0.free 0
    have d1 := h0.cell 1 rfl
    have f1 := h0.free 1
    have d2 := h0.cell 2 rfl
    have f2 := h0.free 2
    have d3 := h0.cell 3 rfl
    have f3 := h0.free 3
    have d4 := h0.cell 4 rfl
    have f4 := h0.free 4
    have d5 := h0.cell 5 rfl
    have f5 := h0.free 5
    have d6 := h0.cell 6 rfl
    have f6 := h0.free 6
    have d7 := h0.cell 7 rfl
    have f7 := h0.free 7
    have d8 := h0.cell 8 rfl
    have f8 := h0.free 8
    have d9 := h0.cell 9 rfl
    have f9 := h0.free 9
    have d10 := h0.cell 10 rfl
    have f10 := h0.free 10
    have d11 := h0.cell 11 rfl
    have f11 := h0.free 11
    have hF := ((((((((((((h0.set 0 (.int .i64 31)).set 1 (.int .i64 29)).set 2 (.int .i64 31)).set 3 (.int .i64 30)).set 4 (.int .i64 31)).set 5 (.int .i64 30)).set 6 (.int .i64 31)).set 7 (.int .i64 31)).set 8 (.int .i64 30)).set 9 (.int .i64 31)).set 10 (.int .i64 30)).set 11 (.int .i64 31))
    simp only [List.set_cons_zero, List.set_cons_succ] at hF
    have hbF := ((((((((((((hb0.setCell (p := ⟨g0, 0, none⟩) (Nat.le_refl g0) (.int .i64 31)).setCell (p := ⟨g0, 1, none⟩) (Nat.le_refl g0) (.int .i64 29)).setCell (p := ⟨g0, 2, none⟩) (Nat.le_refl g0) (.int .i64 31)).setCell (p := ⟨g0, 3, none⟩) (Nat.le_refl g0) (.int .i64 30)).setCell (p := ⟨g0, 4, none⟩) (Nat.le_refl g0) (.int .i64 31)).setCell (p := ⟨g0, 5, none⟩) (Nat.le_refl g0) (.int .i64 30)).setCell (p := ⟨g0, 6, none⟩) (Nat.le_refl g0) (.int .i64 31)).setCell (p := ⟨g0, 7, none⟩) (Nat.le_refl g0) (.int .i64 31)).setCell (p := ⟨g0, 8, none⟩) (Nat.le_refl g0) (.int .i64 30)).setCell (p := ⟨g0, 9, none⟩) (Nat.le_refl g0) (.int .i64 31)).setCell (p := ⟨g0, 10, none⟩) (Nat.le_refl g0) (.int .i64 30)).setCell (p := ⟨g0, 11, none⟩) (Nat.le_refl g0) (.int .i64 31))
    replace hbF := hbF.mono (Nat.le_of_eq HG.out.symm)
    have HF := Lib.hid hF
    have HB := Lib.hid hbF
    clear hF hbF h0 h1 hb0 HG
    go_wp2
    generalize ((((((((((((w3.setCell ⟨g0, 0, none⟩ (.int .i64 31)).setCell ⟨g0, 1, none⟩ (.int .i64 29)).setCell ⟨g0, 2, none⟩ (.int .i64 31)).setCell ⟨g0, 3, none⟩ (.int .i64 30)).setCell ⟨g0, 4, none⟩ (.int .i64 31)).setCell ⟨g0, 5, none⟩ (.int .i64 30)).setCell ⟨g0, 6, none⟩ (.int .i64 31)).setCell ⟨g0, 7, none⟩ (.int .i64 31)).setCell ⟨g0, 8, none⟩ (.int .i64 30)).setCell ⟨g0, 9, none⟩ (.int .i64 31)).setCell ⟨g0, 10, none⟩ (.int .i64 30)).setCell ⟨g0, 11, none⟩ (.int .i64 31)) = wF at *
    have hA : (ints (monL true)).toArray = #[.int .i64 31, .int .i64 29, .int .i64 31, .int .i64 30, .int .i64 31, .int .i64 30, .int .i64 31, .int .i64 31, .int .i64 30, .int .i64 31, .int .i64 30, .int .i64 31] := rfl
    rw [hA]
    exact bodyPost_ret (results_cell_row rfl _ _ g0 _ #[.int .i64 31, .int .i64 29, .int .i64 31, .int .i64 30, .int .i64 31, .int .i64 30, .int .i64 31, .int .i64 31, .int .i64 30, .int .i64 31, .int .i64 30, .int .i64 31] _ _ rfl HF.out Tryz.underlying153 rfl (by kernel_rfl)) rfl ⟨rfl, HB.out⟩
end Go.Proofs.YtpofijdkckaphaaGreatDoor
