/- The walk of the law CodecApart. -/
import Derived.Test.YtcppedmcchhhoaaCodecL
import Derived.Test.YtcppedmcchhhoaaCodecQ
namespace Go.Proofs.Ytcppedmcchhhoaa
open Go.RowKit

/-- as many, and the first k are the same -/
def sameTo {α : Type} [DecidableEq α] (l m : List α) (k : Nat) : Bool := decide (l.length = m.length ∧ l.take k = m.take k)
theorem sameTo_zero {α : Type} [DecidableEq α] (l m : List α) : sameTo l m 0 = decide (l.length = m.length) := by simp [sameTo]
theorem sameTo_end {α : Type} [DecidableEq α] (l m : List α) : sameTo l m l.length = decide (l = m) := by
  unfold sameTo
  by_cases h : l.length = m.length
  · rw [List.take_length, h, List.take_length]; simp
  · have : l ≠ m := fun e => h (by rw [e])
    simp [h, this]
theorem sameTo_no {α : Type} [DecidableEq α] {l m : List α} {k : Nat} {x : α} (hx : Hid (l[k]? = some x)) (h : sameTo l m k = false) : sameTo l m (k + 1) = false := by
  simp only [sameTo, decide_eq_false_iff_not] at h ⊢
  rintro ⟨h1, h2⟩
  refine h ⟨h1, ?_⟩
  have := congrArg (List.take k) h2
  rw [List.take_take, List.take_take] at this
  rwa [show min k (k + 1) = k by omega] at this
theorem sameTo_yes {α : Type} [DecidableEq α] {l m : List α} {k : Nat} {x y : α} (hx : Hid (l[k]? = some x)) (hy : Hid (m[k]? = some y)) (h : sameTo l m k = true) : sameTo l m (k + 1) = decide (x = y) := by
  simp only [sameTo, decide_eq_true_eq] at h
  unfold sameTo
  rw [take_at hx, take_at hy, h.2]
  simp [h.1]

theorem apart_bool (x y : List UInt8) (b : Bool) (h1 : b = true → x = y) (h2 : ∀ c d, x ++ c = y ++ d → b = true) :
    (x == y) = b ∧ (b = true → x.length ≤ y.length) ∧ (x.length ≤ y.length → (y.take x.length == x) = b) := by
  cases b
  · refine ⟨?_, by simp, fun h => ?_⟩
    · rw [beq_eq_false_iff_ne]
      intro e
      have := h2 [] [] (by rw [e])
      simp at this
    · rw [beq_eq_false_iff_ne]
      intro e
      have := h2 (y.drop x.length) [] (by rw [List.append_nil]; conv => lhs; lhs; rw [← e]
                                          rw [List.take_append_drop])
      simp at this
  · obtain rfl := h1 rfl
    simp

set_option maxRecDepth 100000 in
set_option maxHeartbeats 2000000 in
theorem apart_walk (w : World) (la : Option Addr) (l : List Int) (lc : Nat) (hr : Rd w la (ints l)) (hx : ∀ x ∈ l, I64 x) (_ : l.length ≤ 17592186043904) (_ : l.length ≤ 1048576)
    (ma : Option Addr) (m : List Int) (mc : Nat) (hrm : Rd w ma (ints m)) (hxm : ∀ x ∈ m, I64 x) (_ : m.length ≤ 17592186043904) (_ : m.length ≤ 1048576)
    (sa : Option Addr) (s : List (List UInt8)) (sc : Nat) (hrs : Rd w sa (strs s)) (hxs : ∀ x ∈ s, x.length ≤ 140737488351232) (_ : s.length ≤ 17592186043904) (hst : tot s + s.length ≤ 1048576)
    (ta : Option Addr) (t : List (List UInt8)) (tc : Nat) (hrt : Rd w ta (strs t)) (hxt : ∀ x ∈ t, x.length ≤ 140737488351232) (_ : t.length ≤ 17592186043904) (htt : tot t + t.length ≤ 1048576) :
    Calls Try.prog 5 #[.slice la l.length lc, .slice ma m.length mc, .slice sa s.length sc, .slice ta t.length tc] w fun e w' => e = .returned (.bool true) ∧ Below w.heap.size w w' := by
  by_cases q1 : 50 < l.length
  · go_enter Try.func5, Try.ntmps5
    go_wp2_with (go_at_call 13; refine (awake4 _).mono ?_; rintro e w1 ⟨rfl, hb1⟩)
    go_ret
    exact ⟨rfl, hb1⟩
  by_cases q2 : 50 < m.length
  · go_enter Try.func5, Try.ntmps5
    go_wp2_with (go_at_call 13; refine (awake4 _).mono ?_; rintro e w1 ⟨rfl, hb1⟩)
    go_ret
    exact ⟨rfl, hb1⟩
  by_cases q3 : 20 < s.length
  · go_enter Try.func5, Try.ntmps5
    go_wp2_with (go_at_call 13; refine (awake4 _).mono ?_; rintro e w1 ⟨rfl, hb1⟩)
    go_ret
    exact ⟨rfl, hb1⟩
  by_cases q4 : 20 < t.length
  · go_enter Try.func5, Try.ntmps5
    go_wp2_with (go_at_call 13; refine (awake4 _).mono ?_; rintro e w1 ⟨rfl, hb1⟩)
    go_ret
    exact ⟨rfl, hb1⟩
  have hxs' : ∀ x ∈ s, x.length ≤ 281474976710656 := fun x h => by have := hxs x h; omega
  have hxt' : ∀ x ∈ t, x.length ≤ 281474976710656 := fun x h => by have := hxt x h; omega
  have a1 := putInts_len hx (by omega)
  have a2 := putInts_len hxm (by omega)
  have a3 := putTexts_len hxs' (by omega)
  have a4 := putTexts_len hxt' (by omega)
  have K1 := Lib.hid (apart_bool (putInts l) (putInts m) (decide (l = m)) (by simp; rintro rfl; rfl) (fun c d h => by rw [decide_eq_true_eq]; exact putInts_apart hx hxm (by omega) (by omega) c d h))
  have K2 := Lib.hid (apart_bool (putTexts s) (putTexts t) (decide (s = t)) (by simp; rintro rfl; rfl) (fun c d h => by rw [decide_eq_true_eq]; exact putTexts_apart hxs' hxt' (by omega) (by omega) c d h))
  go_enter Try.func5, Try.ntmps5
  go_wp2_with fail
  refine (putInts_any [] la lc l _ (by simp) hr (by omega) hx (by omega)).mono ?_; rintro e w1 ⟨rfl, hb1⟩
  go_wp2_with fail
  refine (putInts_any [] ma mc m _ (by simp) (hrm.keep hb1) (by omega) hxm (by omega)).mono ?_; rintro e w2 ⟨rfl, hb2⟩
  replace hb2 := below_tr hb1 hb2
  go_wp2_with fail
  refine (putTexts_any [] sa sc s _ (by simp) (hrs.keep hb2) (by omega) hxs' (by omega)).mono ?_; rintro e w3 ⟨rfl, hb3⟩
  replace hb3 := below_tr hb2 hb3
  go_wp2_with fail
  refine (putTexts_any [] ta tc t _ (by simp) (hrt.keep hb3) (by omega) hxt' (by omega)).mono ?_; rintro e w4 ⟨rfl, hb4⟩
  replace hb4 := below_tr hb3 hb4
  go_wp2_with fail
  replace hr := hr.keep hb4
  replace hrm := hrm.keep hb4
  replace hrs := hrs.keep hb4
  replace hrt := hrt.keep hb4
  have HB4 := Lib.hid hb4
  clear hb1 hb2 hb3 hb4
  go_loopw [13, 58] (fun sm i wr => ∃ (k : Nat) (b : Bool), k ≤ l.length ∧ i = .int .i64 (k : Int) ∧ sm = .bool b ∧ b = sameTo l m k ∧ Below w4.heap.size w4 wr) (fun _ i _ => l.length - (intOf i).toNat)
  case atStart => exact ⟨0, _, Nat.zero_le _, rfl, rfl, by rw [sameTo_zero, Bool.eq_iff_iff]; simp; omega, Below.refl _ _⟩
  case round =>
    obtain ⟨k, b, hk, rfl, rfl, hbk, hbel⟩ := hrel
    replace hbk := Lib.hid hbk
    have rl := hr.keep hbel
    have rm := hrm.keep hbel
    clear hr hrm
    by_cases hlt : k < l.length
    · obtain ⟨g, off, x, rfl, hc, HX⟩ := rl.int hlt
      cases b
      · go_wp2_with fail
        refine wp_region_quiet_below (by kernel_rfl) (by kernel_rfl) ?_
        repeat (go_big_quiet_step (fail))
        refine wpQuiet_nil ?_
        rintro wq ⟨pq, rfl⟩
        have hbq := below_regrown wr pq.d pq.os
        go_wp2
        go_roundw
        case rel => exact ⟨k + 1, false, by omega, by go_num, rfl, (sameTo_no HX hbk.out.symm).symm, below_tr hbel hbq⟩
        case measure => simp [intOf]; omega
      · have hlen : l.length = m.length := by have := hbk.out.symm; simp only [sameTo, decide_eq_true_eq] at this; exact this.1
        have hltm : k < m.length := by omega
        have HL := Lib.hid hlen
        clear hlen
        obtain ⟨g', off', x', rfl, hc', HX'⟩ := rm.int hltm
        have hcq := cell_regrown hc
        have hcq' := cell_regrown hc'
        go_wp2_with fail
        refine wp_region_quiet_below (by kernel_rfl) (by kernel_rfl) ?_
        repeat (go_big_quiet_step (fail))
        refine wpQuiet_nil ?_
        rintro wq ⟨pq, rfl⟩
        have hbq := below_regrown wr pq.d pq.os
        go_wp2
        go_roundw
        case rel => exact ⟨k + 1, _, by omega, by go_num, rfl, by rw [sameTo_yes HX HX' hbk.out.symm]; first | rfl | (rw [Bool.eq_iff_iff]; simp), below_tr hbel hbq⟩
        case measure => simp [intOf]; omega
    · obtain rfl : k = l.length := by omega
      have hs1 : b = decide (l = m) := by rw [hbk.out, sameTo_end]
      have HS1 := Lib.hid hs1
      obtain ⟨w5, rfl⟩ : ∃ w5 : World, w5 = wr := ⟨_, rfl⟩
      have rs := hrs.keep hbel
      have rt := hrt.keep hbel
      have hb5 := below_tr HB4.out hbel
      clear hs1 hbk rl rm hrs hrt hbel
      go_wp2_with fail
      go_loopw [14, 76] (fun sm i wr => ∃ (k : Nat) (b : Bool), k ≤ s.length ∧ i = .int .i64 (k : Int) ∧ sm = .bool b ∧ b = sameTo s t k ∧ Below w5.heap.size w5 wr) (fun _ i _ => s.length - (intOf i).toNat)
      case atStart => exact ⟨0, _, Nat.zero_le _, rfl, rfl, by rw [sameTo_zero, Bool.eq_iff_iff]; simp; omega, Below.refl _ _⟩
      case round =>
        obtain ⟨k, c, hk, rfl, rfl, hbk, hbel⟩ := hrel
        replace hbk := Lib.hid hbk
        have rls := rs.keep hbel
        have rlt := rt.keep hbel
        clear rs rt
        by_cases hlt : k < s.length
        · obtain ⟨g, off, x, rfl, hc, HX⟩ := rls.str hlt
          cases c
          · go_wp2_with fail
            refine wp_region_quiet_below (by kernel_rfl) (by kernel_rfl) ?_
            repeat (go_big_quiet_step (fail))
            refine wpQuiet_nil ?_
            rintro wq ⟨pq, rfl⟩
            have hbq := below_regrown wr pq.d pq.os
            go_wp2
            go_roundw
            case rel => exact ⟨k + 1, false, by omega, by go_num, rfl, (sameTo_no HX hbk.out.symm).symm, below_tr hbel hbq⟩
            case measure => simp [intOf]; omega
          · have hlen : s.length = t.length := by have := hbk.out.symm; simp only [sameTo, decide_eq_true_eq] at this; exact this.1
            have hltm : k < t.length := by omega
            have HL := Lib.hid hlen
            clear hlen
            obtain ⟨g', off', x', rfl, hc', HX'⟩ := rlt.str hltm
            have hcq := cell_regrown hc
            have hcq' := cell_regrown hc'
            go_wp2_with fail
            refine wp_region_quiet_below (by kernel_rfl) (by kernel_rfl) ?_
            repeat (go_big_quiet_step (fail))
            refine wpQuiet_nil ?_
            rintro wq ⟨pq, rfl⟩
            have hbq := below_regrown wr pq.d pq.os
            go_wp2
            go_roundw
            case rel => exact ⟨k + 1, _, by omega, by go_num, rfl, by rw [sameTo_yes HX HX' hbk.out.symm]; first | rfl | (rw [Bool.eq_iff_iff]; simp), below_tr hbel hbq⟩
            case measure => simp [intOf]; omega
        · obtain rfl : k = s.length := by omega
          have hs2 : c = decide (s = t) := by rw [hbk.out, sameTo_end]
          have hb6 := below_tr hb5 hbel
          obtain ⟨c1, c2, c3⟩ := K1.out
          obtain ⟨c4, c5, c6⟩ := K2.out
          rw [← HS1.out] at c1 c2 c3
          rw [← hs2] at c4 c5 c6
          clear hs2 HS1 K1 K2 hbk hxs' hxt' hb5 hbel rls rlt
          generalize putInts l = X at *
          generalize putInts m = Y at *
          generalize putTexts s = U at *
          generalize putTexts t = V at *
          have d1 : (X.length ≤ Y.length ∧ (Y.take X.length == X) = b) ∨ (Y.length < X.length ∧ b = false) := by
            by_cases e : X.length ≤ Y.length
            · exact Or.inl ⟨e, c3 e⟩
            · exact Or.inr ⟨by omega, by cases b; rfl; exact absurd (c2 rfl) e⟩
          have d2 : (U.length ≤ V.length ∧ (V.take U.length == U) = c) ∨ (V.length < U.length ∧ c = false) := by
            by_cases e : U.length ≤ V.length
            · exact Or.inl ⟨e, c6 e⟩
            · exact Or.inr ⟨by omega, by cases c; rfl; exact absurd (c5 rfl) e⟩
          clear c2 c3 c5 c6
          rcases d1 with ⟨e1, f1⟩ | ⟨e1, rfl⟩ <;> rcases d2 with ⟨e2, f2⟩ | ⟨e2, rfl⟩
          all_goals (try cases b)
          all_goals (try cases c)
          all_goals
            go_wp2_with (go_at_call 13; refine (awake4 _).mono ?_; rintro e w7 ⟨rfl, hb7⟩)
            go_ret
            exact ⟨rfl, below_tr hb6 hb7⟩
end Go.Proofs.Ytcppedmcchhhoaa
