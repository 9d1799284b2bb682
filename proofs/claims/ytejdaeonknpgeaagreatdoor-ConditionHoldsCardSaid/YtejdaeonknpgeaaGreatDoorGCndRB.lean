/- Conditions: whether a term is right by itself: the reference's. -/
import Derived.Test.YtejdaeonknpgeaaGreatDoorCndRA
import Derived.Test.YtejdaeonknpgeaaGreatDoorGCndA
namespace Go.Proofs.YtejdaeonknpgeaaGreatDoor
open Go.RowKit
set_option maxRecDepth 100000 in
set_option maxHeartbeats 4000000 in
theorem rterm_walk (t : Trm) (w : World) (hf : t.field.length ≤ 281474976710656) (hS : Spc w) :
    Calls Tryz.prog 59 #[.agg #[.int .i64 t.kind, .int .i64 t.number, .int .i64 t.years, .string ⟨t.field.toArray⟩, .string ⟨t.text.toArray⟩, .slice t.aa t.args.length t.ac]] w fun e w' => e = .returned (.bool (okT t)) ∧ Below w.heap.size w w' := by
  rw [← termR_ok]
  obtain ⟨k, n, y, f, x, ar, aa, ac⟩ := t
  dsimp only at hf ⊢
  have he : termR ⟨k, n, y, f, x, ar, aa, ac⟩ = if k = 1 ∨ k = 2 then decide (2 ≤ ar.length) && (n == 0 && (y == 0 && (f.isEmpty && x.isEmpty)))
    else if k = 3 ∨ k = 4 then decide (ar.length = 0) && (countB n && (y == 0 && (f.isEmpty && x.isEmpty)))
    else if k = 5 then decide (ar.length = 0) && (countB n && (decide (0 ≤ y ∧ y ≤ 100) && (f.isEmpty && x.isEmpty)))
    else if k = 6 ∨ k = 8 then decide (ar.length = 0) && (n == 0 && (y == 0 && (f.isEmpty && x.isEmpty)))
    else if k = 7 then decide (ar.length = 0) && (countB n && (y == 0 && (nameF f && (decide (1 ≤ x.length ∧ x.length ≤ 256) && !(decide ((34 : UInt8) ∈ x))))))
    else false := rfl
  generalize termR ⟨k, n, y, f, x, ar, aa, ac⟩ = R at *
  obtain ⟨a, ha⟩ : ∃ a, decide (n ≥ 1) = a := ⟨_, rfl⟩
  obtain ⟨b, hb⟩ : ∃ b, decide (n ≤ 64) = b := ⟨_, rfl⟩
  obtain ⟨n0, hn0⟩ : ∃ b, (n == 0) = b := ⟨_, rfl⟩
  obtain ⟨y0, hy0⟩ : ∃ b, (y == 0) = b := ⟨_, rfl⟩
  obtain ⟨ya, hya⟩ : ∃ b, decide (y ≥ 0) = b := ⟨_, rfl⟩
  obtain ⟨yb, hyb⟩ : ∃ b, decide (y ≤ 100) = b := ⟨_, rfl⟩
  obtain ⟨f0, hf0⟩ : ∃ b, (f == []) = b := ⟨_, rfl⟩
  obtain ⟨x0, hx0⟩ : ∃ b, (x == []) = b := ⟨_, rfl⟩
  obtain ⟨l0, hl0⟩ : ∃ b, ((ar.length : Int) == 0) = b := ⟨_, rfl⟩
  obtain ⟨l2, hl2⟩ : ∃ b, decide ((ar.length : Int) ≥ 2) = b := ⟨_, rfl⟩
  obtain ⟨xa, hxa⟩ : ∃ b, decide ((x.length : Int) ≥ 1) = b := ⟨_, rfl⟩
  obtain ⟨xb, hxb⟩ : ∃ b, decide ((x.length : Int) ≤ 256) = b := ⟨_, rfl⟩
  have el0 : decide (ar.length = 0) = l0 := by rw [← hl0, Bool.eq_iff_iff]; simp
  have el2 : decide (2 ≤ ar.length) = l2 := by rw [← hl2, decide_eq_decide]; omega
  have hl0' : (ar.length == 0) = l0 := by rw [← el0]; rfl
  have hxa' : decide (1 ≤ x.length) = xa := by rw [← hxa, decide_eq_decide]; omega
  have hxb' : decide (x.length ≤ 256) = xb := by rw [← hxb, decide_eq_decide]; omega
  have ef : f.isEmpty = f0 := by rw [← hf0]; cases f <;> rfl
  have ex : x.isEmpty = x0 := by rw [← hx0]; cases x <;> rfl
  have ec : countB n = (a && b) := by rw [← ha, ← hb]; unfold countB; rw [Bool.eq_iff_iff]; simp
  have ey : decide (0 ≤ y ∧ y ≤ 100) = (ya && yb) := by rw [← hya, ← hyb, Bool.eq_iff_iff]; simp
  have ext : decide (1 ≤ x.length ∧ x.length ≤ 256) = (xa && xb) := by rw [← hxa', ← hxb', Bool.eq_iff_iff]; simp
  have el0n : decide (ar.length = 0) = l0 := el0
  rw [el0, el2, ef, ex, ec, ey, ext, hn0, hy0] at he
  clear el0 ef ex ec ey ext el0n
  have KC := Lib.hid (fun V => (show Calls Tryz.prog 72 #[.string ⟨x.toArray⟩, .string ⟨#[34]⟩] V fun e w' => e = .returned (.bool (decide ((34 : UInt8) ∈ x))) ∧ w' = V by
    have := Tryz.strings_Contains_one ⟨x.toArray⟩ 34 V
    rw [show decide (0 ≤ Lib.indexByte (ByteArray.mk x.toArray).data.toList (34 : UInt8)) = decide ((34 : UInt8) ∈ x) from has_byte x 34] at this
    exact this))
  generalize decide ((34 : UInt8) ∈ x) = q at *
  have hb0 := (Below.refl w.heap.size w).alloc (Nat.le_refl _) (.cells #[.int .i64 k, .int .i64 n, .int .i64 y, .string ⟨f.toArray⟩, .string ⟨x.toArray⟩, .slice aa ar.length ac] 57)
  have h1 := Bx.new w 57 [.int .i64 k, .int .i64 n, .int .i64 y, .string ⟨f.toArray⟩, .string ⟨x.toArray⟩, .slice aa ar.length ac]
  change Bx (w.alloc (.cells #[.int .i64 k, .int .i64 n, .int .i64 y, .string ⟨f.toArray⟩, .string ⟨x.toArray⟩, .slice aa ar.length ac] 57)) _ _ _ at h1
  have hS1 := hS.keep hb0
  go_enter Tryz.func59, Tryz.ntmps59
  go_upto_region 1 with (fail)
  generalize w.alloc (.cells #[.int .i64 k, .int .i64 n, .int .i64 y, .string ⟨f.toArray⟩, .string ⟨x.toArray⟩, .slice aa ar.length ac] 57) = w1 at *
  have KN := Lib.hid (rname_walk f w1 hf hS1)
  generalize nameF f = nm at *
  generalize hg1 : w.heap.size = g1 at *
  have HE := Lib.hid he
  have HB := Lib.hid (show Below w.heap.size w w1 by rw [hg1]; exact hb0)
  clear hg1
  have H1 := Lib.hid h1
  have c0 := h1.cell 0 rfl
  have c1 := h1.cell 1 rfl
  have c2 := h1.cell 2 rfl
  have c3 := h1.cell 3 rfl
  have c4 := h1.cell 4 rfl
  have c5 := h1.cell 5 rfl
  clear he hb0 h1 hS hS1 hf
  go_cut [3] (fun v wx => v = .bool (a && b) ∧ wx = w1)
  case first =>
    cases a
    all_goals
      go_wp2_with fail
      go_meet
      exact ⟨rfl, rfl⟩
  case rest =>
  obtain ⟨rfl, rfl⟩ := hcut
  clear ha hb
  generalize (a && b) = cb at *
  go_upto_region 2 with (fail)
  go_cut [4] (fun v wx => v = .bool (y0 && (f0 && x0)) ∧ wx = wc)
  case first =>
    cases y0
    · go_wp2_with fail
      go_meet
      exact ⟨rfl, rfl⟩
    · cases f0
      all_goals
        go_wp2_with fail
        go_meet
        exact ⟨rfl, rfl⟩
  case rest =>
  obtain ⟨rfl, hww⟩ := hcut
  subst hww
  by_cases k1 : k = 1 ∨ k = 2
  · have HR : Hid (R = (l2 && (n0 && (y0 && (f0 && x0))))) := Lib.hid (by rw [HE.out, if_pos k1])
    clear HE KN KC
    generalize (y0 && (f0 && x0)) = pl at *
    rcases k1 with rfl | rfl
    all_goals
      cases l2 with
      | false =>
        go_wp2
        go_ret
        exact ⟨ret_bool (by rw [HR.out]; rfl), HB.out⟩
      | true =>
      cases n0 with
      | false =>
        go_wp2
        go_ret
        exact ⟨ret_bool (by rw [HR.out]; rfl), HB.out⟩
      | true =>
      go_wp2
      go_ret
      exact ⟨ret_bool (by rw [HR.out]; rfl), HB.out⟩
  by_cases k3 : k = 3 ∨ k = 4
  · have HR : Hid (R = (l0 && (cb && (y0 && (f0 && x0))))) := Lib.hid (by rw [HE.out, if_neg k1, if_pos k3])
    clear HE KN KC
    generalize (y0 && (f0 && x0)) = pl at *
    rcases k3 with rfl | rfl
    all_goals
      cases l0 with
      | false =>
        go_wp2
        go_ret
        exact ⟨ret_bool (by rw [HR.out]; rfl), HB.out⟩
      | true =>
      cases cb with
      | false =>
        go_wp2
        go_ret
        exact ⟨ret_bool (by rw [HR.out]; rfl), HB.out⟩
      | true =>
      go_wp2
      go_ret
      exact ⟨ret_bool (by rw [HR.out]; rfl), HB.out⟩
  by_cases k5 : k = 5
  · have HR : Hid (R = (l0 && (cb && ((ya && yb) && (f0 && x0))))) := Lib.hid (by rw [HE.out, if_neg k1, if_neg k3, if_pos k5])
    clear HE KN KC k1 k3
    generalize (y0 && (f0 && x0)) = pl at *
    subst k5
    cases l0 with
    | false =>
      go_wp2
      go_ret
      exact ⟨ret_bool (by rw [HR.out]; rfl), HB.out⟩
    | true =>
    cases cb with
    | false =>
      go_wp2
      go_ret
      exact ⟨ret_bool (by rw [HR.out]; rfl), HB.out⟩
    | true =>
    cases ya with
    | false =>
      go_wp2
      go_ret
      exact ⟨ret_bool (by rw [HR.out]; rfl), HB.out⟩
    | true =>
    cases yb with
    | false =>
      go_wp2
      go_ret
      exact ⟨ret_bool (by rw [HR.out]; rfl), HB.out⟩
    | true =>
    cases f0 with
    | false =>
      go_wp2
      go_ret
      exact ⟨ret_bool (by rw [HR.out]; rfl), HB.out⟩
    | true =>
    go_wp2
    go_ret
    exact ⟨ret_bool (by rw [HR.out]; rfl), HB.out⟩
  by_cases k6 : k = 6 ∨ k = 8
  · have HR : Hid (R = (l0 && (n0 && (y0 && (f0 && x0))))) := Lib.hid (by rw [HE.out, if_neg k1, if_neg k3, if_neg k5, if_pos k6])
    clear HE KN KC k1 k3 k5
    generalize (y0 && (f0 && x0)) = pl at *
    rcases k6 with rfl | rfl
    all_goals
      cases l0 with
      | false =>
        go_wp2
        go_ret
        exact ⟨ret_bool (by rw [HR.out]; rfl), HB.out⟩
      | true =>
      cases n0 with
      | false =>
        go_wp2
        go_ret
        exact ⟨ret_bool (by rw [HR.out]; rfl), HB.out⟩
      | true =>
      go_wp2
      go_ret
      exact ⟨ret_bool (by rw [HR.out]; rfl), HB.out⟩
  by_cases k7 : k = 7
  · have HR : Hid (R = (l0 && (cb && (y0 && (nm && ((xa && xb) && !q)))))) := Lib.hid (by rw [HE.out, if_neg k1, if_neg k3, if_neg k5, if_neg k6, if_pos k7])
    clear HE k1 k3 k5 k6
    generalize (y0 && (f0 && x0)) = pl at *
    subst k7
    cases l0 with
    | false =>
      go_wp2
      go_ret
      exact ⟨ret_bool (by rw [HR.out]; rfl), HB.out⟩
    | true =>
    cases cb with
    | false =>
      go_wp2
      go_ret
      exact ⟨ret_bool (by rw [HR.out]; rfl), HB.out⟩
    | true =>
    cases y0 with
    | false =>
      go_wp2
      go_ret
      exact ⟨ret_bool (by rw [HR.out]; rfl), HB.out⟩
    | true =>
    cases nm with
    | false =>
      go_wp2_with (first | (go_at_call 71; (with_reducible refine KN.out.mono ?_); (first | rintro e w5 rfl hb5 | rintro e w5 ⟨rfl, hb5⟩); have hB := Lib.hid (below_tr HB.out hb5); have q4 := (H1.out.keep hb5).cell 4 rfl; clear hb5) | (go_at_call 72; (with_reducible refine (KC.out _).mono ?_); (try rintro e w7 ⟨rfl, rfl⟩)))
      go_ret
      exact ⟨ret_bool (by rw [HR.out]; rfl), hB.out⟩
    | true =>
    cases xa with
    | false =>
      go_wp2_with (first | (go_at_call 71; (with_reducible refine KN.out.mono ?_); (first | rintro e w5 rfl hb5 | rintro e w5 ⟨rfl, hb5⟩); have hB := Lib.hid (below_tr HB.out hb5); have q4 := (H1.out.keep hb5).cell 4 rfl; clear hb5) | (go_at_call 72; (with_reducible refine (KC.out _).mono ?_); (try rintro e w7 ⟨rfl, rfl⟩)))
      go_ret
      exact ⟨ret_bool (by rw [HR.out]; rfl), hB.out⟩
    | true =>
    cases xb with
    | false =>
      go_wp2_with (first | (go_at_call 71; (with_reducible refine KN.out.mono ?_); (first | rintro e w5 rfl hb5 | rintro e w5 ⟨rfl, hb5⟩); have hB := Lib.hid (below_tr HB.out hb5); have q4 := (H1.out.keep hb5).cell 4 rfl; clear hb5) | (go_at_call 72; (with_reducible refine (KC.out _).mono ?_); (try rintro e w7 ⟨rfl, rfl⟩)))
      go_ret
      exact ⟨ret_bool (by rw [HR.out]; rfl), hB.out⟩
    | true =>
    go_wp2_with (first | (go_at_call 71; (with_reducible refine KN.out.mono ?_); (first | rintro e w5 rfl hb5 | rintro e w5 ⟨rfl, hb5⟩); have hB := Lib.hid (below_tr HB.out hb5); have q4 := (H1.out.keep hb5).cell 4 rfl; clear hb5) | (go_at_call 72; (with_reducible refine (KC.out _).mono ?_); (try rintro e w7 ⟨rfl, rfl⟩)))
    go_ret
    exact ⟨ret_bool (by rw [HR.out]; rfl), hB.out⟩
  · have HR : Hid (R = false) := Lib.hid (by rw [HE.out, if_neg k1, if_neg k3, if_neg k5, if_neg k6, if_neg k7])
    have b1 : (k == 1) = false := by rw [beq_eq_false_iff_ne]; omega
    have b2 : (k == 2) = false := by rw [beq_eq_false_iff_ne]; omega
    have b3 : (k == 3) = false := by rw [beq_eq_false_iff_ne]; omega
    have b4 : (k == 4) = false := by rw [beq_eq_false_iff_ne]; omega
    have b5 : (k == 5) = false := by rw [beq_eq_false_iff_ne]; omega
    have b6 : (k == 6) = false := by rw [beq_eq_false_iff_ne]; omega
    have b7 : (k == 7) = false := by rw [beq_eq_false_iff_ne]; omega
    have b8 : (k == 8) = false := by rw [beq_eq_false_iff_ne]; omega
    clear HE KN KC k1 k3 k5 k6 k7
    generalize (y0 && (f0 && x0)) = pl at *
    go_wp2
    go_ret
    exact ⟨ret_bool HR.out.symm, HB.out⟩
end Go.Proofs.YtejdaeonknpgeaaGreatDoor
