/- Days: the program's Day, Date, Add and Within. -/
import Derived.Test.YtpofijdkckaphaaGreatDoorGCalP
import Derived.Lib.QuietBelow
namespace Go.Proofs.YtpofijdkckaphaaGreatDoor
open Go.RowKit
theorem results_tmp4 {fn : Func} {t u v x : Tmp} (h : fn.results = #[.tmp t, .tmp u, .tmp v, .tmp x]) (tmps : Array Value) (P : Program) (w : World) :
    (results fn tmps).run P w = .ok (.tuple #[tmps.getD t undef, tmps.getD u undef, tmps.getD v undef, tmps.getD x undef]) w := by
  simp [results, h]
theorem index12 (w : World) (cs : Array Value) (i : Nat) (hi : i < 12) (v : Value) (hv : cs[i]? = some v) :
    (Instr.index 153 (.agg cs) (.int .i64 (i : Int))).run Tryz.prog w = .ok v w := by
  simp [Instr.index, asIntOf, run_underlying Tryz.underlying153, part, Tryz.sizeOf3, Tryz.isAgg3, hv]
  intro h
  omega
theorem mon_get (b : Bool) {i : Nat} (hi : i < 12) : (ints (monL b)).toArray[i]? = some (.int .i64 (mlen b i)) := by
  have hl : (monL b).length = 12 := by cases b <;> rfl
  have := ints_get (l := monL b) (j := i) (by omega)
  rw [← mlen] at this
  simpa using this
theorem mon_index (b : Bool) (i : Nat) (hi : i < 12) (w : World) : (Instr.index 153 (.agg (ints (monL b)).toArray) (.int .i64 (i : Int))).run Tryz.prog w = .ok (.int .i64 (mlen b i)) w :=
  index12 w _ i hi _ (mon_get b hi)
def yS (n : Int) : Nat → Int
  | 0 => 1 + n / 146097 * 400
  | 1 => 1 + n / 146097 * 400 + kay1 n * 100
  | 2 => 1 + n / 146097 * 400 + kay1 n * 100 + kay2 n * 4
  | _ => yearF n
def rS (n : Int) : Nat → Int
  | 0 => n % 146097
  | 1 => rem1 n
  | 2 => rem2 n
  | _ => restF n
/-- a step of the division by cycles -/
def StepD (y r y2 r2 k d yy t : Int) : Prop := (r.tdiv d = r / d ∧ min (r / d) t = k ∧ y2 = y + k * yy ∧ r2 = r - k * d) ∧ (0 ≤ k ∧ k ≤ 24) ∧ (0 ≤ y ∧ y ≤ 10000) ∧ (0 ≤ r ∧ r ≤ 146096) ∧ (0 ≤ r2 ∧ r2 ≤ 146096) ∧ (0 ≤ y2 ∧ y2 ≤ 10000) ∧ (0 ≤ r / d ∧ r / d ≤ 146096)
theorem steps_d {n : Int} (h0 : 0 ≤ n) (h1 : n ≤ 3652058) : StepD (yS n 0) (rS n 0) (yS n 1) (rS n 1) (kay1 n) 36524 100 3 ∧ StepD (yS n 1) (rS n 1) (yS n 2) (rS n 2) (kay2 n) 1461 4 24 ∧ StepD (yS n 2) (rS n 2) (yS n 3) (rS n 3) (kay3 n) 365 1 3 := by
  have a1 := rem1_bd n
  have a2 := rem2_bd n
  have a3 := rem3_bd n
  have hx0 : 0 ≤ n % 146097 := by omega
  have hx1 : n % 146097 < 146097 := by omega
  have hq0 : 0 ≤ n / 146097 := by omega
  have hq1 : n / 146097 ≤ 24 := by omega
  refine ⟨⟨⟨Int.tdiv_eq_ediv_of_nonneg hx0, rfl, rfl, rfl⟩, ?_⟩, ⟨⟨Int.tdiv_eq_ediv_of_nonneg a1.2.2.1, rfl, rfl, rfl⟩, ?_⟩, ⟨⟨Int.tdiv_eq_ediv_of_nonneg a2.2.2.1, rfl, rfl, rfl⟩, ?_⟩⟩
  · simp only [yS, rS]; omega
  · simp only [yS, rS]; omega
  · have hy : yearF n = 1 + n / 146097 * 400 + kay1 n * 100 + kay2 n * 4 + kay3 n * 1 := rfl
    simp only [yS, rS]; omega
set_option maxRecDepth 100000 in
set_option maxHeartbeats 2000000 in
theorem date_walk (n : Int) (w : World) (h0 : 0 ≤ n) (h1 : n ≤ 3652058) :
    Calls Tryz.prog 128 #[.int .i64 n] w fun e w' => e = .returned (.tuple #[.int .i64 (yearF n), .int .i64 ((mthF n : Int) + 1), .int .i64 (domF n), .int .i64 0]) ∧ Below w.heap.size w w' := by
  have d1 : decide (n < 0) = false := decide_eq_false (by omega)
  have d2 : decide (n > 3652058) = false := decide_eq_false (by omega)
  have m1 : n.tdiv 146097 = n / 146097 := Int.tdiv_eq_ediv_of_nonneg h0
  have m2 : n.tmod 146097 = n % 146097 := Int.tmod_eq_emod_of_nonneg h0
  obtain ⟨F0, F1, F2⟩ := steps_d h0 h1
  obtain ⟨y1, y2, -, y4, y5⟩ := year_spec h0 h1
  obtain ⟨mi, hmi, hm1, hm2⟩ := mon_bd y4 y5
  have hme : mthF n = mi := mon_at hmi hm1 hm2
  have hdom : domF n = restF n - msum (leapB (yearF n)) mi + 1 := by unfold domF; rw [hme]
  have KL := Lib.hid (fun V => leap_walk (yearF n) V)
  have KM := Lib.hid (fun V => months_walk (leapB (yearF n)) V)
  have hY0 : yS n 0 = 1 + n / 146097 * 400 := rfl
  have hR0 : rS n 0 = n % 146097 := rfl
  have hY3 : yS n 3 = yearF n := rfl
  have hR3 : rS n 3 = restF n := rfl
  have w0 : IntKind.i64.wrap (n / 146097) = n / 146097 := by rw [IntKind.wrap_i64]; omega
  have w1 : IntKind.i64.wrap (n / 146097 * 400) = n / 146097 * 400 := by rw [IntKind.wrap_i64]; omega
  have w2 : IntKind.i64.wrap (1 + n / 146097 * 400) = yS n 0 := by rw [IntKind.wrap_i64, hY0]; omega
  rw [hme, hdom]
  rw [← hR0] at m2
  have HF0 := Lib.hid F0
  have HF1 := Lib.hid F1
  have HF2 := Lib.hid F2
  have HY3 := Lib.hid hY3
  have HR3 := Lib.hid hR3
  have HM := Lib.hid (⟨hmi, hm1, hm2, y4, y5⟩ : mi < 12 ∧ msum (leapB (yearF n)) mi ≤ restF n ∧ restF n < msum (leapB (yearF n)) (mi + 1) ∧ 0 ≤ restF n ∧ restF n < msum (leapB (yearF n)) 12)
  clear F0 F1 F2 hY0 hR0 hY3 hR3 hmi hm1 hm2 y4 y5 hme hdom h0 h1 y1 y2
  generalize kay1 n = k1 at *
  generalize kay2 n = k2 at *
  generalize kay3 n = k3 at *
  generalize yearF n = yy at *
  generalize leapB yy = b at *
  generalize restF n = rr at *
  generalize hYY : yS n = Y at *
  generalize hRR : rS n = R at *
  generalize n / 146097 = q at *
  clear hYY hRR
  go_enter Tryz.func128, Tryz.ntmps128
  go_upto_region 5 with (fail)
  go_wp2_with fail
  clear m1 m2 w0 w1 w2 d1 d2
  go_loopw [29, 6, 0] (fun iv yv rv wr => ∃ i : Nat, i ≤ 3 ∧ iv = .int .i64 (i : Int) ∧ yv = .int .i64 (Y i) ∧ rv = .int .i64 (R i) ∧ Below w.heap.size w wr) (fun iv _ _ _ => 3 - (intOf iv).toNat)
  case atStart => exact ⟨0, by omega, rfl, rfl, rfl, Below.refl _ _⟩
  case round =>
    obtain ⟨i, hi, rfl, rfl, rfl, hb⟩ := hrel
    rcases (show i = 0 ∨ i = 1 ∨ i = 2 ∨ i = 3 by omega) with rfl | rfl | rfl | rfl
    · have hidx : ∀ V, (Instr.index 162 (.agg #[.int .i64 36524, .int .i64 100, .int .i64 3, .int .i64 1461, .int .i64 4, .int .i64 24, .int .i64 365, .int .i64 1, .int .i64 3]) (.int .i64 0)).run Tryz.prog V = .ok (.agg #[.int .i64 36524, .int .i64 100, .int .i64 3]) V := fun V => by kernel_rfl
      have hbA := (Below.refl wr.heap.size wr).alloc (Nat.le_refl _) (.cells #[.int .i64 36524, .int .i64 100, .int .i64 3] 161)
      have hN := Bx.new wr 161 [.int .i64 36524, .int .i64 100, .int .i64 3]
      change Bx (wr.alloc (.cells #[.int .i64 36524, .int .i64 100, .int .i64 3] 161)) _ _ _ at hN
      replace hb := hb.trans (hbA.mono hb.size)
      obtain ⟨⟨f1, f2, f3, f4⟩, ⟨k0, k24⟩, ⟨y0, ym⟩, ⟨r0, rm⟩, ⟨r20, r2m⟩, ⟨y20, y2m⟩, ⟨q0, qm⟩⟩ := HF0.out
      have z1 : IntKind.i64.wrap (R 0 / 36524) = R 0 / 36524 := by rw [IntKind.wrap_i64]; omega
      have z2 : IntKind.i64.wrap (k1 * 100) = k1 * 100 := by rw [IntKind.wrap_i64]; omega
      have z3 : IntKind.i64.wrap (Y 0 + k1 * 100) = Y 1 := by rw [IntKind.wrap_i64, f3]; omega
      have z4 : IntKind.i64.wrap (k1 * 36524) = k1 * 36524 := by rw [IntKind.wrap_i64]; omega
      have z5 : IntKind.i64.wrap (R 0 - k1 * 36524) = R 1 := by rw [IntKind.wrap_i64, f4]; omega
      have z6 : IntKind.i64.wrap k1 = k1 := by rw [IntKind.wrap_i64]; omega
      skip
      have f5 : (if (3 : Int) < R 0 / 36524 then (3 : Int) else R 0 / 36524) = k1 := by rw [← f2]; split <;> omega
      clear f3 f4 k0 k24 y0 ym r0 rm r20 r2m y20 y2m q0 qm HF0 HF1 HF2
      generalize R 0 / 36524 = zq at *
      go_upto_region 8 with (fail)
      generalize wr.alloc (.cells #[.int .i64 36524, .int .i64 100, .int .i64 3] 161) = wA at *
      generalize wr.heap.size = gA at *
      have c0 := hN.cell 0 rfl
      have c1 := hN.cell 1 rfl
      have c2 := hN.cell 2 rfl
      have u0 := fun d os => cell_regrown c0 d os
      have u1 := fun d os => cell_regrown c1 d os
      have u2 := fun d os => cell_regrown c2 d os
      refine wp_region_quiet_below (by kernel_rfl) (by kernel_rfl) ?_
      repeat (go_big_quiet_step (fail))
      refine wpQuiet_nil ?_
      rintro w7 ⟨p2, hw7⟩
      have hq := (show Below wA.heap.size wA w7 by first | (rw [hw7]; exact below_regrown wA p2.d p2.os) | (rw [← hw7]; exact below_regrown wA p2.d p2.os))
      clear hw7
      have hN8 := hN.keep hq
      have hb8 := hb.trans (hq.mono hb.size)
      clear u0 u1 u2 c0 c1 c2 hN hb hq
      go_upto_region 9 with (fail)
      have c0 := hN8.cell 0 rfl
      have c1 := hN8.cell 1 rfl
      have c2 := hN8.cell 2 rfl
      have u0 := fun d os => cell_regrown c0 d os
      have u1 := fun d os => cell_regrown c1 d os
      have u2 := fun d os => cell_regrown c2 d os
      refine wp_region_quiet_below (by kernel_rfl) (by kernel_rfl) ?_
      repeat (go_big_quiet_step (fail))
      refine wpQuiet_nil ?_
      rintro w8 ⟨p2, hw7⟩
      have hq8 := (show Below w7.heap.size w7 w8 by first | (rw [hw7]; exact below_regrown w7 p2.d p2.os) | (rw [← hw7]; exact below_regrown w7 p2.d p2.os))
      clear hw7
      clear u0 u1 u2 c0 c1 c2 hN8
      have hb9 := hb8.trans (hq8.mono hb8.size)
      go_wp2_with fail
      go_roundw
      case rel => exact ⟨1, by omega, by go_num, rfl, rfl, hb9⟩
      case measure => simp [intOf]
    · have hidx : ∀ V, (Instr.index 162 (.agg #[.int .i64 36524, .int .i64 100, .int .i64 3, .int .i64 1461, .int .i64 4, .int .i64 24, .int .i64 365, .int .i64 1, .int .i64 3]) (.int .i64 1)).run Tryz.prog V = .ok (.agg #[.int .i64 1461, .int .i64 4, .int .i64 24]) V := fun V => by kernel_rfl
      have hbA := (Below.refl wr.heap.size wr).alloc (Nat.le_refl _) (.cells #[.int .i64 1461, .int .i64 4, .int .i64 24] 161)
      have hN := Bx.new wr 161 [.int .i64 1461, .int .i64 4, .int .i64 24]
      change Bx (wr.alloc (.cells #[.int .i64 1461, .int .i64 4, .int .i64 24] 161)) _ _ _ at hN
      replace hb := hb.trans (hbA.mono hb.size)
      obtain ⟨⟨f1, f2, f3, f4⟩, ⟨k0, k24⟩, ⟨y0, ym⟩, ⟨r0, rm⟩, ⟨r20, r2m⟩, ⟨y20, y2m⟩, ⟨q0, qm⟩⟩ := HF1.out
      have z1 : IntKind.i64.wrap (R 1 / 1461) = R 1 / 1461 := by rw [IntKind.wrap_i64]; omega
      have z2 : IntKind.i64.wrap (k2 * 4) = k2 * 4 := by rw [IntKind.wrap_i64]; omega
      have z3 : IntKind.i64.wrap (Y 1 + k2 * 4) = Y 2 := by rw [IntKind.wrap_i64, f3]; omega
      have z4 : IntKind.i64.wrap (k2 * 1461) = k2 * 1461 := by rw [IntKind.wrap_i64]; omega
      have z5 : IntKind.i64.wrap (R 1 - k2 * 1461) = R 2 := by rw [IntKind.wrap_i64, f4]; omega
      have z6 : IntKind.i64.wrap k2 = k2 := by rw [IntKind.wrap_i64]; omega
      skip
      have f5 : (if (24 : Int) < R 1 / 1461 then (24 : Int) else R 1 / 1461) = k2 := by rw [← f2]; split <;> omega
      clear f3 f4 k0 k24 y0 ym r0 rm r20 r2m y20 y2m q0 qm HF0 HF1 HF2
      generalize R 1 / 1461 = zq at *
      go_upto_region 8 with (fail)
      generalize wr.alloc (.cells #[.int .i64 1461, .int .i64 4, .int .i64 24] 161) = wA at *
      generalize wr.heap.size = gA at *
      have c0 := hN.cell 0 rfl
      have c1 := hN.cell 1 rfl
      have c2 := hN.cell 2 rfl
      have u0 := fun d os => cell_regrown c0 d os
      have u1 := fun d os => cell_regrown c1 d os
      have u2 := fun d os => cell_regrown c2 d os
      refine wp_region_quiet_below (by kernel_rfl) (by kernel_rfl) ?_
      repeat (go_big_quiet_step (fail))
      refine wpQuiet_nil ?_
      rintro w7 ⟨p2, hw7⟩
      have hq := (show Below wA.heap.size wA w7 by first | (rw [hw7]; exact below_regrown wA p2.d p2.os) | (rw [← hw7]; exact below_regrown wA p2.d p2.os))
      clear hw7
      have hN8 := hN.keep hq
      have hb8 := hb.trans (hq.mono hb.size)
      clear u0 u1 u2 c0 c1 c2 hN hb hq
      go_upto_region 9 with (fail)
      have c0 := hN8.cell 0 rfl
      have c1 := hN8.cell 1 rfl
      have c2 := hN8.cell 2 rfl
      have u0 := fun d os => cell_regrown c0 d os
      have u1 := fun d os => cell_regrown c1 d os
      have u2 := fun d os => cell_regrown c2 d os
      refine wp_region_quiet_below (by kernel_rfl) (by kernel_rfl) ?_
      repeat (go_big_quiet_step (fail))
      refine wpQuiet_nil ?_
      rintro w8 ⟨p2, hw7⟩
      have hq8 := (show Below w7.heap.size w7 w8 by first | (rw [hw7]; exact below_regrown w7 p2.d p2.os) | (rw [← hw7]; exact below_regrown w7 p2.d p2.os))
      clear hw7
      clear u0 u1 u2 c0 c1 c2 hN8
      have hb9 := hb8.trans (hq8.mono hb8.size)
      go_wp2_with fail
      go_roundw
      case rel => exact ⟨2, by omega, by go_num, rfl, rfl, hb9⟩
      case measure => simp [intOf]
    · have hidx : ∀ V, (Instr.index 162 (.agg #[.int .i64 36524, .int .i64 100, .int .i64 3, .int .i64 1461, .int .i64 4, .int .i64 24, .int .i64 365, .int .i64 1, .int .i64 3]) (.int .i64 2)).run Tryz.prog V = .ok (.agg #[.int .i64 365, .int .i64 1, .int .i64 3]) V := fun V => by kernel_rfl
      have hbA := (Below.refl wr.heap.size wr).alloc (Nat.le_refl _) (.cells #[.int .i64 365, .int .i64 1, .int .i64 3] 161)
      have hN := Bx.new wr 161 [.int .i64 365, .int .i64 1, .int .i64 3]
      change Bx (wr.alloc (.cells #[.int .i64 365, .int .i64 1, .int .i64 3] 161)) _ _ _ at hN
      replace hb := hb.trans (hbA.mono hb.size)
      obtain ⟨⟨f1, f2, f3, f4⟩, ⟨k0, k24⟩, ⟨y0, ym⟩, ⟨r0, rm⟩, ⟨r20, r2m⟩, ⟨y20, y2m⟩, ⟨q0, qm⟩⟩ := HF2.out
      have z1 : IntKind.i64.wrap (R 2 / 365) = R 2 / 365 := by rw [IntKind.wrap_i64]; omega
      have z2 : IntKind.i64.wrap (k3 * 1) = k3 * 1 := by rw [IntKind.wrap_i64]; omega
      have z3 : IntKind.i64.wrap (Y 2 + k3 * 1) = Y 3 := by rw [IntKind.wrap_i64, f3]; omega
      have z4 : IntKind.i64.wrap (k3 * 365) = k3 * 365 := by rw [IntKind.wrap_i64]; omega
      have z5 : IntKind.i64.wrap (R 2 - k3 * 365) = R 3 := by rw [IntKind.wrap_i64, f4]; omega
      have z6 : IntKind.i64.wrap k3 = k3 := by rw [IntKind.wrap_i64]; omega
      have z7 : IntKind.i64.wrap (Y 2 + k3) = Y 3 := by rw [IntKind.wrap_i64, f3]; omega
      have f5 : (if (3 : Int) < R 2 / 365 then (3 : Int) else R 2 / 365) = k3 := by rw [← f2]; split <;> omega
      clear f3 f4 k0 k24 y0 ym r0 rm r20 r2m y20 y2m q0 qm HF0 HF1 HF2
      generalize R 2 / 365 = zq at *
      go_upto_region 8 with (fail)
      generalize wr.alloc (.cells #[.int .i64 365, .int .i64 1, .int .i64 3] 161) = wA at *
      generalize wr.heap.size = gA at *
      have c0 := hN.cell 0 rfl
      have c1 := hN.cell 1 rfl
      have c2 := hN.cell 2 rfl
      have u0 := fun d os => cell_regrown c0 d os
      have u1 := fun d os => cell_regrown c1 d os
      have u2 := fun d os => cell_regrown c2 d os
      refine wp_region_quiet_below (by kernel_rfl) (by kernel_rfl) ?_
      repeat (go_big_quiet_step (fail))
      refine wpQuiet_nil ?_
      rintro w7 ⟨p2, hw7⟩
      have hq := (show Below wA.heap.size wA w7 by first | (rw [hw7]; exact below_regrown wA p2.d p2.os) | (rw [← hw7]; exact below_regrown wA p2.d p2.os))
      clear hw7
      have hN8 := hN.keep hq
      have hb8 := hb.trans (hq.mono hb.size)
      clear u0 u1 u2 c0 c1 c2 hN hb hq
      go_upto_region 9 with (fail)
      have c0 := hN8.cell 0 rfl
      have c1 := hN8.cell 1 rfl
      have c2 := hN8.cell 2 rfl
      have u0 := fun d os => cell_regrown c0 d os
      have u1 := fun d os => cell_regrown c1 d os
      have u2 := fun d os => cell_regrown c2 d os
      refine wp_region_quiet_below (by kernel_rfl) (by kernel_rfl) ?_
      repeat (go_big_quiet_step (fail))
      refine wpQuiet_nil ?_
      rintro w8 ⟨p2, hw7⟩
      have hq8 := (show Below w7.heap.size w7 w8 by first | (rw [hw7]; exact below_regrown w7 p2.d p2.os) | (rw [← hw7]; exact below_regrown w7 p2.d p2.os))
      clear hw7
      clear u0 u1 u2 c0 c1 c2 hN8
      have hb9 := hb8.trans (hq8.mono hb8.size)
      go_wp2_with fail
      go_roundw
      case rel => exact ⟨3, by omega, by go_num, rfl, rfl, hb9⟩
      case measure => simp [intOf]
    · rw [HY3.out, HR3.out]
      clear HF0 HF1 HF2 HY3 HR3
      go_upto_region 12 with (fail)
      go_wp2_with (first | (go_at_call 132; (with_reducible refine (KL.out _).mono ?_); (try rintro e w5 ⟨rfl, rfl⟩)) | (go_at_call 131; (with_reducible refine (KM.out _).mono ?_); (first | rintro e w5 rfl hb5 | rintro e w5 ⟨rfl, hb5⟩)))
      replace hb := hb.trans (hb5.mono hb.size)
      have HIX := Lib.hid (fun (j : Nat) (hj : j < 12) V => mon_index b j hj V)
      generalize (ints (monL b)).toArray = AM at *
      clear hb5 KL KM
      have hb3 := msum_bd b
      have HSB := Lib.hid hb3
      clear hb3
      go_loopw [55, 0, 10] (fun jv nv mv wr => ∃ j : Nat, j ≤ mi ∧ jv = .int .i64 (j : Int) ∧ nv = .int .i64 (rr - msum b j) ∧ mv = .int .i64 ((j : Int) + 1) ∧ Below w.heap.size w wr) (fun jv _ _ _ => 12 - (intOf jv).toNat)
      case atStart => exact ⟨0, Nat.zero_le _, rfl, by rw [show msum b 0 = 0 from rfl, Int.sub_zero], rfl, hb⟩
      case round =>
        clear hb
        obtain ⟨j, hj, rfl, rfl, rfl, hb⟩ := hrel
        obtain ⟨m1, m2, m3, m4, m5⟩ := HM.out
        obtain ⟨e1, e2, e3⟩ := msum_succ b j (by omega)
        have e4 := HSB.out j (by omega)
        have hjl : (j : Int) < 12 := by omega
        have e5 : 1 ≤ mi → msum b (mi - 1) ≤ msum b mi := fun _ => msum_le b mi m1 _ (by omega)
        have e6 : j < mi → msum b (j + 1) ≤ msum b mi := fun h => msum_le b mi m1 _ (by omega)
        have e7 := HSB.out 12 (by omega)
        have hidx := HIX.out j (by omega)
        have hc : (rr - msum b j < mlen b j) = (j = mi) := by
          apply propext
          constructor
          · intro h
            apply Classical.byContradiction
            intro hne
            have := e6 (by omega)
            omega
          · rintro rfl; omega
        have hw1 : IntKind.i64.wrap (rr - msum b j - mlen b j) = rr - msum b (j + 1) := by rw [IntKind.wrap_i64]; omega
        have hw2 : IntKind.i64.wrap ((j : Int) + 1 + 1) = (j : Int) + 1 + 1 := by rw [IntKind.wrap_i64]; omega
        have hw3 : IntKind.i64.wrap (rr - msum b j + 1) = rr - msum b j + 1 := by rw [IntKind.wrap_i64]; omega
        by_cases hjm : j = mi
        · have d1 : decide (rr - msum b j < mlen b j) = true := decide_eq_true (by rw [hc]; exact hjm)
          subst hjm
          clear hc m1 m2 m3 m4 m5 e1 e2 e3 e4 e5 e6 e7 hw1 hw2
          go_wp2
          refine bodyPost_ret (results_tmp4 rfl _ _ _) rfl ?_
          exact ⟨rfl, hb⟩
        · have d1 : decide (rr - msum b j < mlen b j) = false := decide_eq_false (by rw [hc]; exact hjm)
          have hjm2 : j + 1 ≤ mi := by omega
          clear hc m1 m2 m3 m4 m5 e1 e2 e3 e4 e5 e6 e7 hw3 hjm
          go_wp2
          go_roundw
          case rel => exact ⟨j + 1, hjm2, by go_num, rfl, by go_num, hb⟩
          case measure => simp [intOf]; omega
set_option maxRecDepth 100000 in
set_option maxHeartbeats 2000000 in
theorem day_walk (y : Int) (m : Nat) (d : Int) (w : World) (y1 : 1 ≤ y) (y2 : y ≤ 9999) (hm : m < 12) (h1 : 1 ≤ d) (h2 : d ≤ mlen (leapB y) m) :
    Calls Tryz.prog 130 #[.int .i64 y, .int .i64 ((m : Int) + 1), .int .i64 d] w fun e w' => e = .returned (.tuple #[.int .i64 (dayF y m d), .int .i64 0]) ∧ Below w.heap.size w w' := by
  have hd : dayF y m d = befF y + d - 1 + msum (leapB y) m := rfl
  rw [hd]
  have KL := Lib.hid (fun V => leap_walk y V)
  have KM := Lib.hid (fun V => months_walk (leapB y) V)
  have KB := Lib.hid (fun V => before_walk y V y1 y2)
  have ky := fun V => years_walk y V
  rw [decide_eq_true (show 1 ≤ y ∧ y ≤ 9999 from ⟨y1, y2⟩)] at ky
  have KY := Lib.hid ky
  have hbb := befF_bd y1 y2
  generalize leapB y = b at *
  generalize befF y = B at *
  have hml := msum_succ b m hm
  have HMS := Lib.hid (msum_succ b)
  have HMB := Lib.hid (msum_bd b)
  have d1 : decide ((m : Int) + 1 < 1) = false := decide_eq_false (by omega)
  have d2 : decide ((m : Int) + 1 > 12) = false := decide_eq_false (by omega)
  have d3 : decide (d < 1) = false := decide_eq_false (by omega)
  have d4 : decide (d > mlen b m) = false := decide_eq_false (by omega)
  have hw1 : IntKind.i64.wrap ((m : Int) + 1 - 1) = (m : Int) := by rw [IntKind.wrap_i64]; omega
  have hw2 : IntKind.i64.wrap (B + d) = B + d := by rw [IntKind.wrap_i64]; omega
  have hw3 : IntKind.i64.wrap (B + d - 1) = B + d - 1 := by rw [IntKind.wrap_i64]; omega
  have hd31 : d ≤ 31 := by omega
  clear ky y1 y2 hd
  cases b with
  | false =>
    have KM := Lib.hid (fun V => (show Calls Tryz.prog 131 #[.bool false] V fun e w' => e = .returned (.agg #[.int .i64 31, .int .i64 28, .int .i64 31, .int .i64 30, .int .i64 31, .int .i64 30, .int .i64 31, .int .i64 31, .int .i64 30, .int .i64 31, .int .i64 30, .int .i64 31]) ∧ Below V.heap.size V w' from months_walk false V))
    have hint : (ints (monL false)) = [.int .i64 31, .int .i64 28, .int .i64 31, .int .i64 30, .int .i64 31, .int .i64 30, .int .i64 31, .int .i64 31, .int .i64 30, .int .i64 31, .int .i64 30, .int .i64 31] := rfl
    go_enter Tryz.func130, Tryz.ntmps130
    go_upto_region 2 with (first | (go_at_call 132; (with_reducible refine (KL.out _).mono ?_); (try rintro e w5 ⟨rfl, rfl⟩)) | (go_at_call 131; (with_reducible refine (KM.out _).mono ?_); (first | rintro e w5 rfl hb5 | rintro e w5 ⟨rfl, hb5⟩)))
    have hbA := (Below.refl w5.heap.size w5).alloc (Nat.le_refl _) (.cells #[.int .i64 31, .int .i64 28, .int .i64 31, .int .i64 30, .int .i64 31, .int .i64 30, .int .i64 31, .int .i64 31, .int .i64 30, .int .i64 31, .int .i64 30, .int .i64 31] 153)
    have hN := Bx.new w5 153 [.int .i64 31, .int .i64 28, .int .i64 31, .int .i64 30, .int .i64 31, .int .i64 30, .int .i64 31, .int .i64 31, .int .i64 30, .int .i64 31, .int .i64 30, .int .i64 31]
    change Bx (w5.alloc (.cells #[.int .i64 31, .int .i64 28, .int .i64 31, .int .i64 30, .int .i64 31, .int .i64 30, .int .i64 31, .int .i64 31, .int .i64 30, .int .i64 31, .int .i64 30, .int .i64 31] 153)) _ _ _ at hN
    have hb := hb5.trans (hbA.mono hb5.size)
    generalize w5.alloc (.cells #[.int .i64 31, .int .i64 28, .int .i64 31, .int .i64 30, .int .i64 31, .int .i64 30, .int .i64 31, .int .i64 31, .int .i64 30, .int .i64 31, .int .i64 30, .int .i64 31] 153) = wA at *
    generalize w5.heap.size = gA at *
    clear hbA hb5 KL KM
    rw [← hint] at hN
    have hcell : ∀ j, j < 12 → wA.cell? ⟨gA, j, none⟩ = some (.int .i64 (mlen false j)) := fun j hj => hN.cell j (by rw [ints_get (l := monL false) (j := j) hj]; rfl)
    have HC := Lib.hid hcell
    have HB := Lib.hid hb
    clear hcell hint hN hb
    have c0 := HC.out m hm
    go_upto_region 5 with (first | (go_at_call 129; (with_reducible refine (KY.out _).mono ?_); (try rintro e w6 ⟨rfl, rfl⟩)) | (go_at_call 139; (with_reducible refine (KB.out _).mono ?_); (try rintro e w6 ⟨rfl, rfl⟩)))
    clear c0
    have hm12 : (m : Int) ≤ 12 := by omega
    have hAL : Tryz.prog.arrayLen 153 = 12 := by kernel_rfl
    go_wp2_with fail
    go_loopw [47, 9] (fun jv nv wr => ∃ j : Nat, wr = wA ∧ j ≤ m ∧ jv = .int .i64 (j : Int) ∧ nv = .int .i64 (B + d - 1 + msum false j)) (fun jv _ _ => 12 - (intOf jv).toNat)
    case atStart => exact ⟨0, rfl, Nat.zero_le _, rfl, by rw [show msum false 0 = 0 from rfl, Int.add_zero]⟩
    case round =>
      obtain ⟨j, rfl, hj, rfl, rfl⟩ := hrel
      by_cases hjm : j < m
      · have hjl : (j : Int) < (m : Int) := by omega
        have c1 := HC.out j (by omega)
        have e1 := (HMS.out j (by omega)).1
        have e2 := HMB.out j (by omega)
        have e3 := HMB.out (j + 1) (by omega)
        have hw4 : IntKind.i64.wrap (B + d - 1 + msum false j + mlen false j) = B + d - 1 + msum false (j + 1) := by rw [IntKind.wrap_i64]; omega
        clear e1 e2 e3
        go_wp2
        go_roundw
        case rel => exact ⟨j + 1, trivial, by omega, by go_num, rfl⟩
        case measure => simp [intOf]; omega
      · have hjl : ¬ (j : Int) < (m : Int) := by omega
        obtain rfl : j = m := by omega
        go_wp2
        go_ret2
        exact ⟨rfl, HB.out⟩
  | true =>
    have KM := Lib.hid (fun V => (show Calls Tryz.prog 131 #[.bool true] V fun e w' => e = .returned (.agg #[.int .i64 31, .int .i64 29, .int .i64 31, .int .i64 30, .int .i64 31, .int .i64 30, .int .i64 31, .int .i64 31, .int .i64 30, .int .i64 31, .int .i64 30, .int .i64 31]) ∧ Below V.heap.size V w' from months_walk true V))
    have hint : (ints (monL true)) = [.int .i64 31, .int .i64 29, .int .i64 31, .int .i64 30, .int .i64 31, .int .i64 30, .int .i64 31, .int .i64 31, .int .i64 30, .int .i64 31, .int .i64 30, .int .i64 31] := rfl
    go_enter Tryz.func130, Tryz.ntmps130
    go_upto_region 2 with (first | (go_at_call 132; (with_reducible refine (KL.out _).mono ?_); (try rintro e w5 ⟨rfl, rfl⟩)) | (go_at_call 131; (with_reducible refine (KM.out _).mono ?_); (first | rintro e w5 rfl hb5 | rintro e w5 ⟨rfl, hb5⟩)))
    have hbA := (Below.refl w5.heap.size w5).alloc (Nat.le_refl _) (.cells #[.int .i64 31, .int .i64 29, .int .i64 31, .int .i64 30, .int .i64 31, .int .i64 30, .int .i64 31, .int .i64 31, .int .i64 30, .int .i64 31, .int .i64 30, .int .i64 31] 153)
    have hN := Bx.new w5 153 [.int .i64 31, .int .i64 29, .int .i64 31, .int .i64 30, .int .i64 31, .int .i64 30, .int .i64 31, .int .i64 31, .int .i64 30, .int .i64 31, .int .i64 30, .int .i64 31]
    change Bx (w5.alloc (.cells #[.int .i64 31, .int .i64 29, .int .i64 31, .int .i64 30, .int .i64 31, .int .i64 30, .int .i64 31, .int .i64 31, .int .i64 30, .int .i64 31, .int .i64 30, .int .i64 31] 153)) _ _ _ at hN
    have hb := hb5.trans (hbA.mono hb5.size)
    generalize w5.alloc (.cells #[.int .i64 31, .int .i64 29, .int .i64 31, .int .i64 30, .int .i64 31, .int .i64 30, .int .i64 31, .int .i64 31, .int .i64 30, .int .i64 31, .int .i64 30, .int .i64 31] 153) = wA at *
    generalize w5.heap.size = gA at *
    clear hbA hb5 KL KM
    rw [← hint] at hN
    have hcell : ∀ j, j < 12 → wA.cell? ⟨gA, j, none⟩ = some (.int .i64 (mlen true j)) := fun j hj => hN.cell j (by rw [ints_get (l := monL true) (j := j) hj]; rfl)
    have HC := Lib.hid hcell
    have HB := Lib.hid hb
    clear hcell hint hN hb
    have c0 := HC.out m hm
    go_upto_region 5 with (first | (go_at_call 129; (with_reducible refine (KY.out _).mono ?_); (try rintro e w6 ⟨rfl, rfl⟩)) | (go_at_call 139; (with_reducible refine (KB.out _).mono ?_); (try rintro e w6 ⟨rfl, rfl⟩)))
    clear c0
    have hm12 : (m : Int) ≤ 12 := by omega
    have hAL : Tryz.prog.arrayLen 153 = 12 := by kernel_rfl
    go_wp2_with fail
    go_loopw [47, 9] (fun jv nv wr => ∃ j : Nat, wr = wA ∧ j ≤ m ∧ jv = .int .i64 (j : Int) ∧ nv = .int .i64 (B + d - 1 + msum true j)) (fun jv _ _ => 12 - (intOf jv).toNat)
    case atStart => exact ⟨0, rfl, Nat.zero_le _, rfl, by rw [show msum true 0 = 0 from rfl, Int.add_zero]⟩
    case round =>
      obtain ⟨j, rfl, hj, rfl, rfl⟩ := hrel
      by_cases hjm : j < m
      · have hjl : (j : Int) < (m : Int) := by omega
        have c1 := HC.out j (by omega)
        have e1 := (HMS.out j (by omega)).1
        have e2 := HMB.out j (by omega)
        have e3 := HMB.out (j + 1) (by omega)
        have hw4 : IntKind.i64.wrap (B + d - 1 + msum true j + mlen true j) = B + d - 1 + msum true (j + 1) := by rw [IntKind.wrap_i64]; omega
        clear e1 e2 e3
        go_wp2
        go_roundw
        case rel => exact ⟨j + 1, trivial, by omega, by go_num, rfl⟩
        case measure => simp [intOf]; omega
      · have hjl : ¬ (j : Int) < (m : Int) := by omega
        obtain rfl : j = m := by omega
        go_wp2
        go_ret2
        exact ⟨rfl, HB.out⟩
end Go.Proofs.YtpofijdkckaphaaGreatDoor
