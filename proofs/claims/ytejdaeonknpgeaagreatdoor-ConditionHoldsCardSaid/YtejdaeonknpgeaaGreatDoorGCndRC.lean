/- Conditions: terms that stand in order: the reference's walk and Condition. -/
import Derived.Test.YtejdaeonknpgeaaGreatDoorGCndRB
import Derived.Test.YtejdaeonknpgeaaGreatDoorGCndB
namespace Go.Proofs.YtejdaeonknpgeaaGreatDoor
open Go.RowKit
/-- what walk returns -/
def ordI (r : Option Nat) : Int := match r with
  | some m => (m : Int)
  | none => -1
theorem cell_keep {w w' : World} {p : Addr} {v : Value} (hb : Below w.heap.size w w') (h : w.cell? p = some v) : w'.cell? p = some v := by rw [hb.cell (World.block_lt_of_cell? _ _ h)]; exact h
theorem ordI_some {r : Option Nat} {m : Nat} (h : r = some m) : ordI r = (m : Int) := by rw [h]; rfl
theorem ordI_none {r : Option Nat} (h : r = none) : ordI r = -1 := by rw [h]; rfl
set_option maxRecDepth 100000 in
set_option maxHeartbeats 4000000 in
theorem rwalk_walk (T : List Trm) (hT : T.length ≤ 1000) (a : Option Addr) (c : Nat) : ∀ (d : Nat) (n : Nat) (D : Int) (w : World), d ≤ 6 → D = 7 - (d : Int) → n ≤ T.length → RdT w a T → Spc w →
    Calls Tryz.prog 48 #[.agg #[.slice a T.length c], .int .i64 (n : Int), .int .i64 D] w fun e w' => e = .returned (.int .i64 (ordI (growT T d n))) ∧ Below w.heap.size w w' := by
  intro d
  induction d with
  | zero =>
    intro n D w _ hD hn hR hS
    have hb0 := (Below.refl w.heap.size w).alloc (Nat.le_refl _) (.cells #[.slice a T.length c] 34)
    have h1 := Bx.new w 34 [.slice a T.length c]
    change Bx (w.alloc (.cells #[.slice a T.length c] 34)) _ _ _ at h1
    have d1 : decide (D > 6) = true := decide_eq_true (by omega)
    have HN : Hid (ordI (growT T 0 n) = -1) := Lib.hid (ordI_none rfl)
    generalize ordI (growT T 0 n) = R at *
    go_enter Tryz.func48, Tryz.ntmps48
    go_upto_region 1 with (fail)
    generalize w.alloc (.cells #[.slice a T.length c] 34) = w1 at *
    have c0 := h1.cell 0 rfl
    generalize hg1 : w.heap.size = g1 at *
    have HB := Lib.hid (show Below w.heap.size w w1 by rw [hg1]; exact hb0)
    clear hg1 h1 hb0
    by_cases hnl : n < T.length
    · have e1 : decide ((n : Int) ≥ (T.length : Int)) = false := decide_eq_false (by omega)
      have e2 : decide (T.length ≤ n) = false := decide_eq_false (by omega)
      go_wp2
      go_ret
      exact ⟨ret_int HN.out.symm, HB.out⟩
    · have e1 : decide ((n : Int) ≥ (T.length : Int)) = true := decide_eq_true (by omega)
      have e2 : decide (T.length ≤ n) = true := decide_eq_true (by omega)
      go_wp2
      go_ret
      exact ⟨ret_int HN.out.symm, HB.out⟩
  | succ d ih =>
    intro n D w hd6 hD hn hR hS
    have hb0 := (Below.refl w.heap.size w).alloc (Nat.le_refl _) (.cells #[.slice a T.length c] 34)
    have h1 := Bx.new w 34 [.slice a T.length c]
    change Bx (w.alloc (.cells #[.slice a T.length c] 34)) _ _ _ at h1
    have hR1 := hR.keep hb0
    have hS1 := hS.keep hb0
    by_cases hnl : n < T.length
    rotate_left
    · have HN : Hid (ordI (growT T (d + 1) n) = -1) := Lib.hid (ordI_none (growT_none (List.getElem?_eq_none (by omega))))
      generalize ordI (growT T (d + 1) n) = R at *
      have e1 : decide ((n : Int) ≥ (T.length : Int)) = true := decide_eq_true (by omega)
      have e2 : decide (T.length ≤ n) = true := decide_eq_true (by omega)
      go_enter Tryz.func48, Tryz.ntmps48
      go_upto_region 1 with (fail)
      generalize w.alloc (.cells #[.slice a T.length c] 34) = w1 at *
      have c0 := h1.cell 0 rfl
      generalize hg1 : w.heap.size = g1 at *
      have HB := Lib.hid (show Below w.heap.size w w1 by rw [hg1]; exact hb0)
      clear hg1 h1 hb0 hR1
      go_wp2
      go_ret
      exact ⟨ret_int HN.out.symm, HB.out⟩
    have hg2 := fun (t : Trm) (h : T[n]? = some t) => growT_some (d := d) h
    generalize growT T (d + 1) n = R at *
    go_enter Tryz.func48, Tryz.ntmps48
    go_upto_region 1 with (fail)
    generalize w.alloc (.cells #[.slice a T.length c] 34) = w1 at *
    obtain ⟨g, off, t, rfl, ht, ⟨c0, c1, c2, c3, c4, c5⟩, hA, hIn⟩ := hR1.trm (k := n) hnl
    have HG2 := Lib.hid (hg2 t ht.out)
    clear hg2
    have HR := Lib.hid hR1
    have HT := Lib.hid ht.out
    have HA := Lib.hid hA
    have IH := Lib.hid ih
    have hal : t.args.length ≤ 9223372036854775807 := Nat.le_trans hIn.2.2.2.2.2 (by decide)
    have e1 : decide ((n : Int) ≥ (T.length : Int)) = false := decide_eq_false (by omega)
    have e2 : decide (T.length ≤ n) = false := decide_eq_false (by omega)
    have e3 : decide (D > 6) = false := decide_eq_false (by omega)
    have hw1 : IntKind.i64.wrap (D + 1) = D + 1 := by rw [IntKind.wrap_i64]; omega
    have hw2 : IntKind.i64.wrap ((n : Int) + 1) = ((n + 1 : Nat) : Int) := by rw [IntKind.wrap_i64]; omega
    have KT := Lib.hid (rterm_walk t w1 (by have := hIn.2.1; omega) hS1)
    have HS := Lib.hid (fun i m (h : growT T d i = some m) => (growT_seg T d i m h))
    have HD := Lib.hid hD
    have H1 := Lib.hid h1
    have HS1 := Lib.hid hS1
    have x0 := h1.cell 0 rfl
    generalize okT t = ok at *
    generalize hg1 : w.heap.size = g1 at *
    have HB := Lib.hid (show Below w.heap.size w w1 by rw [hg1]; exact hb0)
    clear hg1 h1 hb0 hR1 ih hA hIn hS1 hR hS ht hD
    cases ok with
    | false =>
      have HN : Hid (ordI R = -1) := Lib.hid (ordI_none (by rw [HG2.out]; simp))
      clear HG2
      go_wp2_with (go_at_call 59; (with_reducible refine KT.out.mono ?_); (first | rintro e w2 rfl hb2 | rintro e w2 ⟨rfl, hb2⟩))
      go_ret
      exact ⟨ret_int HN.out.symm, below_tr HB.out hb2⟩
    | true =>
    have HRR : Hid (R = growA (growT T d) t.args (n + 1)) := Lib.hid (by rw [HG2.out, if_pos rfl])
    clear HG2
    go_wp2_with (go_at_call 59; (with_reducible refine KT.out.mono ?_); (first | rintro e w2 rfl hb2 | rintro e w2 ⟨rfl, hb2⟩); have H2 := Lib.hid (H1.out.keep hb2); have HR2 := Lib.hid (HR.out.keep hb2); have HA2 := Lib.hid (HA.out.keep hb2); have HS2 := Lib.hid (HS1.out.keep hb2); have HB2 := Lib.hid (below_tr HB.out hb2); have y0 := H2.out.cell 0 rfl; have y5 := cell_keep hb2 c5; clear hb2 KT H1 HR HA HS1 HB c0 c1 c2 c3 c4 c5 x0)
    go_loopw [7, 37] (fun v i wr => ∃ (k nx : Nat), k ≤ t.args.length ∧ i = .int .i64 (k : Int) ∧ v = .int .i64 (nx : Int) ∧ nx ≤ T.length ∧ Hid (growA (growT T d) (t.args.take k) (n + 1) = some nx) ∧ Below w2.heap.size w2 wr) (fun _ i _ => t.args.length - (intOf i).toNat)
    case atStart => exact ⟨0, n + 1, Nat.zero_le _, rfl, rfl, by omega, Lib.hid rfl, Below.refl _ _⟩
    case round =>
      clear y0 y5
      obtain ⟨k, nx, hk, rfl, rfl, hnx, hA, hB'⟩ := hrel
      by_cases hkt : k < t.args.length
      rotate_left
      · have hkl : ¬ (k : Int) < (t.args.length : Int) := by omega
        obtain rfl : k = t.args.length := by omega
        have HN : Hid (ordI R = (nx : Int)) := Lib.hid (ordI_some (by rw [HRR.out]; have := hA.out; rwa [List.take_length] at this))
        clear hA HRR
        go_wp2
        go_ret
        exact ⟨ret_int HN.out.symm, below_tr HB2.out hB'⟩
      have hkl : (k : Int) < (t.args.length : Int) := by omega
      obtain ⟨gx, ox, r, hga, d0, hr⟩ := (HA2.out.keep hB').int (k := k) hkt
      rw [hga] at HA2 ⊢
      by_cases hrn : r = (nx : Int)
      rotate_left
      · have HN : Hid (ordI R = -1) := Lib.hid (ordI_none (by
          rw [HRR.out, ← List.take_append_drop k t.args, drop_at hr.out]
          exact growA_bad _ hA.out hrn))
        have hb1 : (r != (nx : Int)) = true := by rw [bne_iff_ne]; exact hrn
        have hb2 : (r == (nx : Int)) = false := by rw [beq_eq_false_iff_ne]; exact hrn
        clear hA HRR hr
        go_wp2
        go_ret
        exact ⟨ret_int HN.out.symm, below_tr HB2.out hB'⟩
      subst hrn
      have HT2 := Lib.hid (take_at hr)
      have K1 := Lib.hid (IH.out nx (D + 1) wr (by omega) (by have := HD.out; push_cast at this; omega) hnx (HR2.out.keep hB') (HS2.out.keep hB'))
      have z0 := (H2.out.keep hB').cell 0 rfl
      cases hgn : growT T d nx with
      | none =>
        have HN : Hid (ordI R = -1) := Lib.hid (ordI_none (by
          rw [HRR.out, ← List.take_append_drop k t.args, drop_at hr.out]
          exact growA_fail _ hA.out hgn))
        rw [hgn] at K1
        have K2 : Hid (Calls Tryz.prog 48 #[.agg #[.slice (some ⟨g, off, none⟩) T.length c], .int .i64 (nx : Int), .int .i64 (D + 1)] wr fun e w' => e = .returned (.int .i64 (-1)) ∧ Below wr.heap.size wr w') := K1
        clear hA HRR hr hgn K1
        go_wp2_with (go_at_call 48; (with_reducible refine K2.out.mono ?_); (first | rintro e w3 rfl hb3 | rintro e w3 ⟨rfl, hb3⟩))
        go_ret
        exact ⟨ret_int HN.out.symm, below_tr (below_tr HB2.out hB') hb3⟩
      | some m =>
        have hm := (HS.out nx m hgn).2.1
        have HA3 : Hid (growA (growT T d) (t.args.take (k + 1)) (n + 1) = some m) := Lib.hid (by rw [HT2.out]; exact growA_next hA.out hgn)
        rw [hgn] at K1
        have K2 : Hid (Calls Tryz.prog 48 #[.agg #[.slice (some ⟨g, off, none⟩) T.length c], .int .i64 (nx : Int), .int .i64 (D + 1)] wr fun e w' => e = .returned (.int .i64 (m : Int)) ∧ Below wr.heap.size wr w') := K1
        clear hA hr hgn K1
        have hm0 : decide ((m : Int) < 0) = false := decide_eq_false (by omega)
        go_wp2_with (go_at_call 48; (with_reducible refine K2.out.mono ?_); (first | rintro e w3 rfl hb3 | rintro e w3 ⟨rfl, hb3⟩))
        go_roundw
        case rel => exact ⟨k + 1, m, by omega, by go_num, rfl, hm, HA3, below_tr hB' hb3⟩
        case measure => simp [intOf]; omega
end Go.Proofs.YtejdaeonknpgeaaGreatDoor
