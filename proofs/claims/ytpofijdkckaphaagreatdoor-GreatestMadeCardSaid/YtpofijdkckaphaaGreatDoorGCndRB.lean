/- Conditions: whether a term is right by itself: the reference's. -/
import Derived.Test.YtpofijdkckaphaaGreatDoorGSlStr
import Derived.Test.YtpofijdkckaphaaGreatDoorGCndA
import Derived.Test.YtpofijdkckaphaaGreatDoorGCndB
namespace Go.Proofs.YtpofijdkckaphaaGreatDoor
open Go.RowKit
set_option maxRecDepth 100000 in
set_option maxHeartbeats 4000000 in
theorem rterm_walk (t : Trm) (w : World) (hf : t.field.length ≤ 281474976710656) (hS : Spc w) :
    Calls Tryz.prog 122 #[.agg #[.int .i64 t.kind, .int .i64 t.number, .int .i64 t.years, .string ⟨t.field.toArray⟩, .string ⟨t.text.toArray⟩, .slice t.aa t.args.length t.ac]] w fun e w' => e = .returned (.bool (okT t)) ∧ Below w.heap.size w w' := by
  rw [← termR_ok]
  obtain ⟨k, n, y, f, x, ar, aa, ac⟩ := t
  dsimp only at hf ⊢
  have he : termR ⟨k, n, y, f, x, ar, aa, ac⟩ = if k = 1 ∨ k = 2 then decide (2 ≤ ar.length) && (n == 0 && (y == 0 && (f.isEmpty && x.isEmpty)))
    else if k = 3 ∨ k = 4 then decide (ar.length = 0) && (countB n && (y == 0 && (f.isEmpty && x.isEmpty)))
    else if k = 5 then decide (ar.length = 0) && (countB n && (decide (0 ≤ y ∧ y ≤ 100) && (f.isEmpty && x.isEmpty)))
    else if k = 6 ∨ k = 8 then decide (ar.length = 0) && (n == 0 && (y == 0 && (f.isEmpty && x.isEmpty)))
    else if k = 7 then decide (ar.length = 0) && (countB n && (y == 0 && (nameF f && (decide (1 ≤ x.length ∧ x.length ≤ 256) && !(decide ((34 : UInt8) ∈ x))))))
    else false := rfl
  generalize termR ⟨k, n, y, f, x, ar, aa, ac⟩ = R at *
  obtain ⟨a, ha⟩ : ∃ a, decide (n ≥ 1) = a := ⟨_, rfl⟩
  obtain ⟨b, hb⟩ : ∃ b, decide (n ≤ 64) = b := ⟨_, rfl⟩
  obtain ⟨n0, hn0⟩ : ∃ b, (n == 0) = b := ⟨_, rfl⟩
  obtain ⟨y0, hy0⟩ : ∃ b, (y == 0) = b := ⟨_, rfl⟩
  obtain ⟨ya, hya⟩ : ∃ b, decide (y ≥ 0) = b := ⟨_, rfl⟩
  obtain ⟨yb, hyb⟩ : ∃ b, decide (y ≤ 100) = b := ⟨_, rfl⟩
  obtain ⟨f0, hf0⟩ : ∃ b, (f == []) = b := ⟨_, rfl⟩
  obtain ⟨x0, hx0⟩ : ∃ b, (x == []) = b := ⟨_, rfl⟩
  obtain ⟨l0, hl0⟩ : ∃ b, ((ar.length : Int) == 0) = b := ⟨_, rfl⟩
  obtain ⟨l2, hl2⟩ : ∃ b, decide ((ar.length : Int) ≥ 2) = b := ⟨_, rfl⟩
  obtain ⟨xa, hxa⟩ : ∃ b, decide ((x.length : Int) ≥ 1) = b := ⟨_, rfl⟩
  obtain ⟨xb, hxb⟩ : ∃ b, decide ((x.length : Int) ≤ 256) = b := ⟨_, rfl⟩
  have el0 : decide (ar.length = 0) = l0 := by rw [← hl0, Bool.eq_iff_iff]; simp
  have el2 : decide (2 ≤ ar.length) = l2 := by rw [← hl2, decide_eq_decide]; omega
  have hl0' : (ar.length == 0) = l0 := by rw [← el0]; rfl
  have hxa' : decide (1 ≤ x.length) = xa := by rw [← hxa, decide_eq_decide]; omega
  have hxb' : decide (x.length ≤ 256) = xb := by rw [← hxb, decide_eq_decide]; omega
  have ef : f.isEmpty = f0 := by rw [← hf0]; cases f <;> rfl
  have ex : x.isEmpty = x0 := by rw [← hx0]; cases x <;> rfl
  have ec : countB n = (a && b) := by rw [← ha, ← hb]; unfold countB; rw [Bool.eq_iff_iff]; simp
  have ey : decide (0 ≤ y ∧ y ≤ 100) = (ya && yb) := by rw [← hya, ← hyb, Bool.eq_iff_iff]; simp
  have ext : decide (1 ≤ x.length ∧ x.length ≤ 256) = (xa && xb) := by rw [← hxa', ← hxb', Bool.eq_iff_iff]; simp
  have el0n : decide (ar.length = 0) = l0 := el0
  rw [el0, el2, ef, ex, ec, ey, ext, hn0, hy0] at he
  clear el0 ef ex ec ey ext el0n
  have KC := Lib.hid (fun V => (show Calls Tryz.prog 135 #[.string ⟨x.toArray⟩, .string ⟨#[34]⟩] V fun e w' => e = .returned (.bool (decide ((34 : UInt8) ∈ x))) ∧ w' = V by
    have := Tryz.strings_Contains_one ⟨x.toArray⟩ 34 V
    rw [show decide (0 ≤ Lib.indexByte (ByteArray.mk x.toArray).data.toList (34 : UInt8)) = decide ((34 : UInt8) ∈ x) from has_byte x 34] at this
    exact this))
  generalize decide ((34 : UInt8) ∈ x) = q at *
  have hb0 := (Below.refl w.heap.size w).alloc (Nat.le_refl _) (.cells #[.int .i64 k, .int .i64 n, .int .i64 y, .string ⟨f.toArray⟩, .string ⟨x.toArray⟩, .slice aa ar.length ac] 50)
  have h1 := Bx.new w 50 [.int .i64 k, .int .i64 n, .int .i64 y, .string ⟨f.toArray⟩, .string ⟨x.toArray⟩, .slice aa ar.length ac]
  change Bx (w.alloc (.cells #[.int .i64 k, .int .i64 n, .int .i64 y, .string ⟨f.toArray⟩, .string ⟨x.toArray⟩, .slice aa ar.length ac] 50)) _ _ _ at h1
  have hS1 := hS.keep hb0
  go_enter Tryz.func122, Tryz.ntmps122
  go_upto_region 1 with (fail)
  generalize w.alloc (.cells #[.int .i64 k, .int .i64 n, .int .i64 y, .string ⟨f.toArray⟩, .string ⟨x.toArray⟩, .slice aa ar.length ac] 50) = w1 at *
  have KN := Lib.hid (rname_walk f w1 hf hS1)
  generalize nameF f = nm at *
  generalize hg1 : w.heap.size = g1 at *
  have HE := Lib.hid he
  have HB := Lib.hid (show Below w.heap.size w w1 by rw [hg1]; exact hb0)
  clear hg1
  have H1 := Lib.hid h1
  have c0 := h1.cell 0 rfl
  have c1 := h1.cell 1 rfl
  have c2 := h1.cell 2 rfl
  have c3 := h1.cell 3 rfl
  have c4 := h1.cell 4 rfl
  have c5 := h1.cell 5 rfl
  clear he hb0 h1 hS hS1 hf
  go_cut [3] (fun v wx => v = .bool (a && b) ∧ wx = w1)
  case first =>
    cases a
    all_goals
      go_wp2_with fail
      go_meet
      exact ⟨rfl, rfl⟩
  case rest =>
  obtain ⟨rfl, rfl⟩ := hcut
  clear ha hb
  generalize (a && b) = cb at *
  go_upto_region 2 with (fail)
  go_cut [4] (fun v wx => v = .bool (y0 && (f0 && x0)) ∧ wx = wc)
  case first =>
    cases y0
    · go_wp2_with fail
      go_meet
      exact ⟨rfl, rfl⟩
    · cases f0
      all_goals
        go_wp2_with fail
        go_meet
        exact ⟨rfl, rfl⟩
  case rest =>
  obtain ⟨rfl, hww⟩ := hcut
  subst hww
  by_cases k1 : k = 1 ∨ k = 2
  · have HR : Hid (R = (l2 && (n0 && (y0 && (f0 && x0))))) := Lib.hid (by rw [HE.out, if_pos k1])
    clear HE KN KC
    generalize (y0 && (f0 && x0)) = pl at *
    rcases k1 with rfl | rfl
    all_goals
      cases l2 with
      | false =>
        go_wp2
        go_ret
        exact ⟨ret_bool (by rw [HR.out]; rfl), HB.out⟩
      | true =>
      cases n0 with
      | false =>
        go_wp2
        go_ret
        exact ⟨ret_bool (by rw [HR.out]; rfl), HB.out⟩
      | true =>
      go_wp2
      go_ret
      exact ⟨ret_bool (by rw [HR.out]; rfl), HB.out⟩
  by_cases k3 : k = 3 ∨ k = 4
  · have HR : Hid (R = (l0 && (cb && (y0 && (f0 && x0))))) := Lib.hid (by rw [HE.out, if_neg k1, if_pos k3])
    clear HE KN KC
    generalize (y0 && (f0 && x0)) = pl at *
    rcases k3 with rfl | rfl
    all_goals
      cases l0 with
      | false =>
        go_wp2
        go_ret
        exact ⟨ret_bool (by rw [HR.out]; rfl), HB.out⟩
      | true =>
      cases cb with
      | false =>
        go_wp2
        go_ret
        exact ⟨ret_bool (by rw [HR.out]; rfl), HB.out⟩
      | true =>
      go_wp2
      go_ret
      exact ⟨ret_bool (by rw [HR.out]; rfl), HB.out⟩
  by_cases k5 : k = 5
  · have HR : Hid (R = (l0 && (cb && ((ya && yb) && (f0 && x0))))) := Lib.hid (by rw [HE.out, if_neg k1, if_neg k3, if_pos k5])
    clear HE KN KC k1 k3
    generalize (y0 && (f0 && x0)) = pl at *
    subst k5
    cases l0 with
    | false =>
      go_wp2
      go_ret
      exact ⟨ret_bool (by rw [HR.out]; rfl), HB.out⟩
    | true =>
    cases cb with
    | false =>
      go_wp2
      go_ret
      exact ⟨ret_bool (by rw [HR.out]; rfl), HB.out⟩
    | true =>
    cases ya with
    | false =>
      go_wp2
      go_ret
      exact ⟨ret_bool (by rw [HR.out]; rfl), HB.out⟩
    | true =>
    cases yb with
    | false =>
      go_wp2
      go_ret
      exact ⟨ret_bool (by rw [HR.out]; rfl), HB.out⟩
    | true =>
    cases f0 with
    | false =>
      go_wp2
      go_ret
      exact ⟨ret_bool (by rw [HR.out]; rfl), HB.out⟩
    | true =>
    go_wp2
    go_ret
    exact ⟨ret_bool (by rw [HR.out]; rfl), HB.out⟩
  by_cases k6 : k = 6 ∨ k = 8
  · have HR : Hid (R = (l0 && (n0 && (y0 && (f0 && x0))))) := Lib.hid (by rw [HE.out, if_neg k1, if_neg k3, if_neg k5, if_pos k6])
    clear HE KN KC k1 k3 k5
    generalize (y0 && (f0 && x0)) = pl at *
    rcases k6 with rfl | rfl
    all_goals
      cases l0 with
      | false =>
        go_wp2
        go_ret
        exact ⟨ret_bool (by rw [HR.out]; rfl), HB.out⟩
      | true =>
      cases n0 with
      | false =>
        go_wp2
        go_ret
        exact ⟨ret_bool (by rw [HR.out]; rfl), HB.out⟩
      | true =>
      go_wp2
      go_ret
      exact ⟨ret_bool (by rw [HR.out]; rfl), HB.out⟩
  by_cases k7 : k = 7
  · have HR : Hid (R = (l0 && (cb && (y0 && (nm && ((xa && xb) && !q)))))) := Lib.hid (by rw [HE.out, if_neg k1, if_neg k3, if_neg k5, if_neg k6, if_pos k7])
    clear HE k1 k3 k5 k6
    generalize (y0 && (f0 && x0)) = pl at *
    subst k7
    cases l0 with
    | false =>
      go_wp2
      go_ret
      exact ⟨ret_bool (by rw [HR.out]; rfl), HB.out⟩
    | true =>
    cases cb with
    | false =>
      go_wp2
      go_ret
      exact ⟨ret_bool (by rw [HR.out]; rfl), HB.out⟩
    | true =>
    cases y0 with
    | false =>
      go_wp2
      go_ret
      exact ⟨ret_bool (by rw [HR.out]; rfl), HB.out⟩
    | true =>
    cases nm with
    | false =>
      go_wp2_with (first | (go_at_call 134; (with_reducible refine KN.out.mono ?_); (first | rintro e w5 rfl hb5 | rintro e w5 ⟨rfl, hb5⟩); have hB := Lib.hid (below_tr HB.out hb5); have q4 := (H1.out.keep hb5).cell 4 rfl; clear hb5) | (go_at_call 135; (with_reducible refine (KC.out _).mono ?_); (try rintro e w7 ⟨rfl, rfl⟩)))
      go_ret
      exact ⟨ret_bool (by rw [HR.out]; rfl), hB.out⟩
    | true =>
    cases xa with
    | false =>
      go_wp2_with (first | (go_at_call 134; (with_reducible refine KN.out.mono ?_); (first | rintro e w5 rfl hb5 | rintro e w5 ⟨rfl, hb5⟩); have hB := Lib.hid (below_tr HB.out hb5); have q4 := (H1.out.keep hb5).cell 4 rfl; clear hb5) | (go_at_call 135; (with_reducible refine (KC.out _).mono ?_); (try rintro e w7 ⟨rfl, rfl⟩)))
      go_ret
      exact ⟨ret_bool (by rw [HR.out]; rfl), hB.out⟩
    | true =>
    cases xb with
    | false =>
      go_wp2_with (first | (go_at_call 134; (with_reducible refine KN.out.mono ?_); (first | rintro e w5 rfl hb5 | rintro e w5 ⟨rfl, hb5⟩); have hB := Lib.hid (below_tr HB.out hb5); have q4 := (H1.out.keep hb5).cell 4 rfl; clear hb5) | (go_at_call 135; (with_reducible refine (KC.out _).mono ?_); (try rintro e w7 ⟨rfl, rfl⟩)))
      go_ret
      exact ⟨ret_bool (by rw [HR.out]; rfl), hB.out⟩
    | true =>
    go_wp2_with (first | (go_at_call 134; (with_reducible refine KN.out.mono ?_); (first | rintro e w5 rfl hb5 | rintro e w5 ⟨rfl, hb5⟩); have hB := Lib.hid (below_tr HB.out hb5); have q4 := (H1.out.keep hb5).cell 4 rfl; clear hb5) | (go_at_call 135; (with_reducible refine (KC.out _).mono ?_); (try rintro e w7 ⟨rfl, rfl⟩)))
    go_ret
    exact ⟨ret_bool (by rw [HR.out]; rfl), hB.out⟩
  · have HR : Hid (R = false) := Lib.hid (by rw [HE.out, if_neg k1, if_neg k3, if_neg k5, if_neg k6, if_neg k7])
    have b1 : (k == 1) = false := by rw [beq_eq_false_iff_ne]; omega
    have b2 : (k == 2) = false := by rw [beq_eq_false_iff_ne]; omega
    have b3 : (k == 3) = false := by rw [beq_eq_false_iff_ne]; omega
    have b4 : (k == 4) = false := by rw [beq_eq_false_iff_ne]; omega
    have b5 : (k == 5) = false := by rw [beq_eq_false_iff_ne]; omega
    have b6 : (k == 6) = false := by rw [beq_eq_false_iff_ne]; omega
    have b7 : (k == 7) = false := by rw [beq_eq_false_iff_ne]; omega
    have b8 : (k == 8) = false := by rw [beq_eq_false_iff_ne]; omega
    clear HE KN KC k1 k3 k5 k6 k7
    generalize (y0 && (f0 && x0)) = pl at *
    go_wp2
    go_ret
    exact ⟨ret_bool HR.out.symm, HB.out⟩
end Go.Proofs.YtpofijdkckaphaaGreatDoor
/- Conditions: terms that stand in order: the reference's walk and Condition. -/
namespace Go.Proofs.YtpofijdkckaphaaGreatDoor
open Go.RowKit
/-- what walk returns -/
def ordI (r : Option Nat) : Int := match r with
  | some m => (m : Int)
  | none => -1
theorem cell_keep {w w' : World} {p : Addr} {v : Value} (hb : Below w.heap.size w w') (h : w.cell? p = some v) : w'.cell? p = some v := by rw [hb.cell (World.block_lt_of_cell? _ _ h)]; exact h
theorem ordI_some {r : Option Nat} {m : Nat} (h : r = some m) : ordI r = (m : Int) := by rw [h]; rfl
theorem ordI_none {r : Option Nat} (h : r = none) : ordI r = -1 := by rw [h]; rfl
set_option maxRecDepth 100000 in
set_option maxHeartbeats 4000000 in
theorem rwalk_walk (T : List Trm) (hT : T.length ≤ 1000) (a : Option Addr) (c : Nat) : ∀ (d : Nat) (n : Nat) (D : Int) (w : World), d ≤ 6 → D = 7 - (d : Int) → n ≤ T.length → RdT w a T → Spc w →
    Calls Tryz.prog 108 #[.agg #[.slice a T.length c], .int .i64 (n : Int), .int .i64 D] w fun e w' => e = .returned (.int .i64 (ordI (growT T d n))) ∧ Below w.heap.size w w' := by
  intro d
  induction d with
  | zero =>
    intro n D w _ hD hn hR hS
    have hb0 := (Below.refl w.heap.size w).alloc (Nat.le_refl _) (.cells #[.slice a T.length c] 42)
    have h1 := Bx.new w 42 [.slice a T.length c]
    change Bx (w.alloc (.cells #[.slice a T.length c] 42)) _ _ _ at h1
    have d1 : decide (D > 6) = true := decide_eq_true (by omega)
    have HN : Hid (ordI (growT T 0 n) = -1) := Lib.hid (ordI_none rfl)
    generalize ordI (growT T 0 n) = R at *
    go_enter Tryz.func108, Tryz.ntmps108
    go_upto_region 1 with (fail)
    generalize w.alloc (.cells #[.slice a T.length c] 42) = w1 at *
    have c0 := h1.cell 0 rfl
    generalize hg1 : w.heap.size = g1 at *
    have HB := Lib.hid (show Below w.heap.size w w1 by rw [hg1]; exact hb0)
    clear hg1 h1 hb0
    by_cases hnl : n < T.length
    · have e1 : decide ((n : Int) ≥ (T.length : Int)) = false := decide_eq_false (by omega)
      have e2 : decide (T.length ≤ n) = false := decide_eq_false (by omega)
      go_wp2
      go_ret
      exact ⟨ret_int HN.out.symm, HB.out⟩
    · have e1 : decide ((n : Int) ≥ (T.length : Int)) = true := decide_eq_true (by omega)
      have e2 : decide (T.length ≤ n) = true := decide_eq_true (by omega)
      go_wp2
      go_ret
      exact ⟨ret_int HN.out.symm, HB.out⟩
  | succ d ih =>
    intro n D w hd6 hD hn hR hS
    have hb0 := (Below.refl w.heap.size w).alloc (Nat.le_refl _) (.cells #[.slice a T.length c] 42)
    have h1 := Bx.new w 42 [.slice a T.length c]
    change Bx (w.alloc (.cells #[.slice a T.length c] 42)) _ _ _ at h1
    have hR1 := hR.keep hb0
    have hS1 := hS.keep hb0
    by_cases hnl : n < T.length
    rotate_left
    · have HN : Hid (ordI (growT T (d + 1) n) = -1) := Lib.hid (ordI_none (growT_none (List.getElem?_eq_none (by omega))))
      generalize ordI (growT T (d + 1) n) = R at *
      have e1 : decide ((n : Int) ≥ (T.length : Int)) = true := decide_eq_true (by omega)
      have e2 : decide (T.length ≤ n) = true := decide_eq_true (by omega)
      go_enter Tryz.func108, Tryz.ntmps108
      go_upto_region 1 with (fail)
      generalize w.alloc (.cells #[.slice a T.length c] 42) = w1 at *
      have c0 := h1.cell 0 rfl
      generalize hg1 : w.heap.size = g1 at *
      have HB := Lib.hid (show Below w.heap.size w w1 by rw [hg1]; exact hb0)
      clear hg1 h1 hb0 hR1
      go_wp2
      go_ret
      exact ⟨ret_int HN.out.symm, HB.out⟩
    have hg2 := fun (t : Trm) (h : T[n]? = some t) => growT_some (d := d) h
    generalize growT T (d + 1) n = R at *
    go_enter Tryz.func108, Tryz.ntmps108
    go_upto_region 1 with (fail)
    generalize w.alloc (.cells #[.slice a T.length c] 42) = w1 at *
    obtain ⟨g, off, t, rfl, ht, ⟨c0, c1, c2, c3, c4, c5⟩, hA, hIn⟩ := hR1.trm (k := n) hnl
    have HG2 := Lib.hid (hg2 t ht.out)
    clear hg2
    have HR := Lib.hid hR1
    have HT := Lib.hid ht.out
    have HA := Lib.hid hA
    have IH := Lib.hid ih
    have hal : t.args.length ≤ 9223372036854775807 := Nat.le_trans hIn.2.2.2.2.2 (by decide)
    have e1 : decide ((n : Int) ≥ (T.length : Int)) = false := decide_eq_false (by omega)
    have e2 : decide (T.length ≤ n) = false := decide_eq_false (by omega)
    have e3 : decide (D > 6) = false := decide_eq_false (by omega)
    have hw1 : IntKind.i64.wrap (D + 1) = D + 1 := by rw [IntKind.wrap_i64]; omega
    have hw2 : IntKind.i64.wrap ((n : Int) + 1) = ((n + 1 : Nat) : Int) := by rw [IntKind.wrap_i64]; omega
    have KT := Lib.hid (rterm_walk t w1 (by have := hIn.2.1; omega) hS1)
    have HS := Lib.hid (fun i m (h : growT T d i = some m) => (growT_seg T d i m h))
    have HD := Lib.hid hD
    have H1 := Lib.hid h1
    have HS1 := Lib.hid hS1
    have x0 := h1.cell 0 rfl
    generalize okT t = ok at *
    generalize hg1 : w.heap.size = g1 at *
    have HB := Lib.hid (show Below w.heap.size w w1 by rw [hg1]; exact hb0)
    clear hg1 h1 hb0 hR1 ih hA hIn hS1 hR hS ht hD
    cases ok with
    | false =>
      have HN : Hid (ordI R = -1) := Lib.hid (ordI_none (by rw [HG2.out]; simp))
      clear HG2
      go_wp2_with (go_at_call 122; (with_reducible refine KT.out.mono ?_); (first | rintro e w2 rfl hb2 | rintro e w2 ⟨rfl, hb2⟩))
      go_ret
      exact ⟨ret_int HN.out.symm, below_tr HB.out hb2⟩
    | true =>
    have HRR : Hid (R = growA (growT T d) t.args (n + 1)) := Lib.hid (by rw [HG2.out, if_pos rfl])
    clear HG2
    go_wp2_with (go_at_call 122; (with_reducible refine KT.out.mono ?_); (first | rintro e w2 rfl hb2 | rintro e w2 ⟨rfl, hb2⟩); have H2 := Lib.hid (H1.out.keep hb2); have HR2 := Lib.hid (HR.out.keep hb2); have HA2 := Lib.hid (HA.out.keep hb2); have HS2 := Lib.hid (HS1.out.keep hb2); have HB2 := Lib.hid (below_tr HB.out hb2); have y0 := H2.out.cell 0 rfl; have y5 := cell_keep hb2 c5; clear hb2 KT H1 HR HA HS1 HB c0 c1 c2 c3 c4 c5 x0)
    go_loopw [7, 37] (fun v i wr => ∃ (k nx : Nat), k ≤ t.args.length ∧ i = .int .i64 (k : Int) ∧ v = .int .i64 (nx : Int) ∧ nx ≤ T.length ∧ Hid (growA (growT T d) (t.args.take k) (n + 1) = some nx) ∧ Below w2.heap.size w2 wr) (fun _ i _ => t.args.length - (intOf i).toNat)
    case atStart => exact ⟨0, n + 1, Nat.zero_le _, rfl, rfl, by omega, Lib.hid rfl, Below.refl _ _⟩
    case round =>
      clear y0 y5
      obtain ⟨k, nx, hk, rfl, rfl, hnx, hA, hB'⟩ := hrel
      by_cases hkt : k < t.args.length
      rotate_left
      · have hkl : ¬ (k : Int) < (t.args.length : Int) := by omega
        obtain rfl : k = t.args.length := by omega
        have HN : Hid (ordI R = (nx : Int)) := Lib.hid (ordI_some (by rw [HRR.out]; have := hA.out; rwa [List.take_length] at this))
        clear hA HRR
        go_wp2
        go_ret
        exact ⟨ret_int HN.out.symm, below_tr HB2.out hB'⟩
      have hkl : (k : Int) < (t.args.length : Int) := by omega
      obtain ⟨gx, ox, r, hga, d0, hr⟩ := (HA2.out.keep hB').int (k := k) hkt
      rw [hga] at HA2 ⊢
      by_cases hrn : r = (nx : Int)
      rotate_left
      · have HN : Hid (ordI R = -1) := Lib.hid (ordI_none (by
          rw [HRR.out, ← List.take_append_drop k t.args, drop_at hr.out]
          exact growA_bad _ hA.out hrn))
        have hb1 : (r != (nx : Int)) = true := by rw [bne_iff_ne]; exact hrn
        have hb2 : (r == (nx : Int)) = false := by rw [beq_eq_false_iff_ne]; exact hrn
        clear hA HRR hr
        go_wp2
        go_ret
        exact ⟨ret_int HN.out.symm, below_tr HB2.out hB'⟩
      subst hrn
      have HT2 := Lib.hid (take_at hr)
      have K1 := Lib.hid (IH.out nx (D + 1) wr (by omega) (by have := HD.out; push_cast at this; omega) hnx (HR2.out.keep hB') (HS2.out.keep hB'))
      have z0 := (H2.out.keep hB').cell 0 rfl
      cases hgn : growT T d nx with
      | none =>
        have HN : Hid (ordI R = -1) := Lib.hid (ordI_none (by
          rw [HRR.out, ← List.take_append_drop k t.args, drop_at hr.out]
          exact growA_fail _ hA.out hgn))
        rw [hgn] at K1
        have K2 : Hid (Calls Tryz.prog 108 #[.agg #[.slice (some ⟨g, off, none⟩) T.length c], .int .i64 (nx : Int), .int .i64 (D + 1)] wr fun e w' => e = .returned (.int .i64 (-1)) ∧ Below wr.heap.size wr w') := K1
        clear hA HRR hr hgn K1
        go_wp2_with (go_at_call 108; (with_reducible refine K2.out.mono ?_); (first | rintro e w3 rfl hb3 | rintro e w3 ⟨rfl, hb3⟩))
        go_ret
        exact ⟨ret_int HN.out.symm, below_tr (below_tr HB2.out hB') hb3⟩
      | some m =>
        have hm := (HS.out nx m hgn).2.1
        have HA3 : Hid (growA (growT T d) (t.args.take (k + 1)) (n + 1) = some m) := Lib.hid (by rw [HT2.out]; exact growA_next hA.out hgn)
        rw [hgn] at K1
        have K2 : Hid (Calls Tryz.prog 108 #[.agg #[.slice (some ⟨g, off, none⟩) T.length c], .int .i64 (nx : Int), .int .i64 (D + 1)] wr fun e w' => e = .returned (.int .i64 (m : Int)) ∧ Below wr.heap.size wr w') := K1
        clear hA hr hgn K1
        have hm0 : decide ((m : Int) < 0) = false := decide_eq_false (by omega)
        go_wp2_with (go_at_call 108; (with_reducible refine K2.out.mono ?_); (first | rintro e w3 rfl hb3 | rintro e w3 ⟨rfl, hb3⟩))
        go_roundw
        case rel => exact ⟨k + 1, m, by omega, by go_num, rfl, hm, HA3, below_tr hB' hb3⟩
        case measure => simp [intOf]; omega
end Go.Proofs.YtpofijdkckaphaaGreatDoor
