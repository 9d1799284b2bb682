/- law28: the reference's Opens, Needs. -/
import Derived.Test.YtpofijdkckaphaaGreatDoorGGreRA
namespace Go.Proofs.YtpofijdkckaphaaGreatDoor
open Go.RowKit
set_option maxRecDepth 100000 in
set_option maxHeartbeats 4000000 in
theorem ropens_walk (l : List Seat) (a : Option Addr) (c : Nat) (A : List Int) (sa : Option Addr) (sc : Nat) (w : World) (hS : RdS w a l) (hA : Rd w sa (ints A)) (hl : l.length ≤ 32) (hAl : A.length ≤ 1000) (hSpc : Spc w) :
    Calls Tryz.prog 43 #[.slice a l.length c, .slice sa A.length sc] w fun e w' => e = .returned (.bool (opensP (opS l) (holdS wiF l) l.length A)) ∧ Below w.heap.size w w' := by
  have hl2 : decide ((l.length : Int) > 32) = false := decide_eq_false (by omega)
  have hl3 : ¬ (32 < l.length) := by omega
  have KR := Lib.hid (rasc_walk l.length sa A sc w hA (by omega))
  rw [opens_eq]
  cases hr : riseP l.length A with
  | false =>
    rw [hr] at KR
    clear hS hA hSpc
    go_enter Tryz.func43, Tryz.ntmps43
    go_wp2_with (go_at_call 66; (with_reducible refine KR.out.mono ?_); (first | rintro e w1 ⟨rfl, hb1⟩ | rintro e w1 rfl hb1))
    go_ret
    exact ⟨rfl, hb1⟩
  | true =>
    rw [hr] at KR
    have HS := Lib.hid hS
    have HA := Lib.hid hA
    have HSpc := Lib.hid hSpc
    have HIN := Lib.hid (rise_mem hr)
    have HASC := Lib.hid (rise_pair hr)
    have HAL := Lib.hid hAl
    clear hS hA hr hAl hl hSpc
    go_enter Tryz.func43, Tryz.ntmps43
    go_upto_region 4 with (go_at_call 66; (with_reducible refine KR.out.mono ?_); (first | rintro e w1 ⟨rfl, hb1⟩ | rintro e w1 rfl hb1))
    go_loopw [5] (fun i wr => ∃ k : Nat, k ≤ l.length ∧ i = .int .i64 (k : Int) ∧ Hid ((upI k).all (okS (opS l) (holdS wiF l) A) = true) ∧ Below w.heap.size w wr) (fun i _ => l.length - (intOf i).toNat)
    case atStart => exact ⟨0, by omega, rfl, Lib.hid rfl, hb1⟩
    case round =>
      clear hb1
      obtain ⟨k, hk, rfl, hok, hB⟩ := hrel
      by_cases hkt : k < l.length
      rotate_left
      · have hkl : ¬ (k : Int) < (l.length : Int) := by omega
        obtain rfl : k = l.length := by omega
        go_wp2
        go_ret
        exact ⟨by rw [hok.out]; rfl, hB⟩
      have hkl : (k : Int) < (l.length : Int) := by omega
      have hwk : IntKind.i64.wrap ((k : Int) + 1) = (k : Int) + 1 := by rw [IntKind.wrap_i64] <;> omega
      have HKT := Lib.hid hkt
      have hS := HS.out.keep hB
      obtain ⟨gl, ol, x, rfl, hx, -, -, -, -, -, -, d6⟩ := hS.seat hkt
      have hop := opS_at hx.out
      have KC := Lib.hid (rhas_walk sa A sc (k : Int) wr (HA.out.keep hB) (by have := HAL.out; omega))
      have KH := Lib.hid (rholds_walk l _ c A sa sc k wr hS (HA.out.keep hB) HIN.out HASC.out hkt HAL.out (HSpc.out.keep hB))
      have hstep : okS (opS l) (holdS wiF l) A (k : Int) = (!(x.opn && !decide ((k : Int) ∈ A)) && !(!x.opn && (decide ((k : Int) ∈ A) && !holdS wiF l A (k : Int)))) := by unfold okS; rw [hop]
      have HB1 := Lib.hid hB
      clear hop hS hB hx
      generalize holdS wiF l A (k : Int) = hh at *
      generalize decide ((k : Int) ∈ A) = ii at *
      generalize x.opn = oo at *
      cases oo with
      | true =>
        cases ii with
        | true =>
          have HT := Lib.hid (all_up_step hok.out (show okS (opS l) (holdS wiF l) A (k : Int) = true by rw [hstep]; rfl))
          clear hok hstep
          go_wp2_with (go_at_call 14; (with_reducible refine KC.out.mono ?_); (first | rintro e w3 ⟨rfl, rfl⟩ | rintro e w3 rfl rfl))
          go_roundw
          case rel => exact ⟨k + 1, by omega, by go_num, HT, HB1.out⟩
          case measure => simp [intOf]; omega
        | false =>
          have HF := Lib.hid (all_up_no HKT.out (show okS (opS l) (holdS wiF l) A (k : Int) = false by rw [hstep]; rfl))
          clear hok hstep
          go_wp2_with (go_at_call 14; (with_reducible refine KC.out.mono ?_); (first | rintro e w3 ⟨rfl, rfl⟩ | rintro e w3 rfl rfl))
          go_ret
          exact ⟨by rw [HF.out]; rfl, HB1.out⟩
      | false =>
        cases ii with
        | false =>
          have HT := Lib.hid (all_up_step hok.out (show okS (opS l) (holdS wiF l) A (k : Int) = true by rw [hstep]; rfl))
          clear hok hstep
          go_wp2_with (go_at_call 14; (with_reducible refine KC.out.mono ?_); (first | rintro e w3 ⟨rfl, rfl⟩ | rintro e w3 rfl rfl))
          go_roundw
          case rel => exact ⟨k + 1, by omega, by go_num, HT, HB1.out⟩
          case measure => simp [intOf]; omega
        | true =>
          cases hh with
          | true =>
            have HT := Lib.hid (all_up_step hok.out (show okS (opS l) (holdS wiF l) A (k : Int) = true by rw [hstep]; rfl))
            clear hok hstep
            go_wp2_with (first | (go_at_call 14; (with_reducible refine KC.out.mono ?_); (first | rintro e w3 ⟨rfl, rfl⟩ | rintro e w3 rfl rfl)) | (go_at_call 49; (with_reducible refine KH.out.mono ?_); (first | rintro e w4 ⟨rfl, hb4⟩ | rintro e w4 rfl hb4)))
            go_roundw
            case rel => exact ⟨k + 1, by omega, by go_num, HT, below_tr HB1.out hb4⟩
            case measure => simp [intOf]; omega
          | false =>
            have HF := Lib.hid (all_up_no HKT.out (show okS (opS l) (holdS wiF l) A (k : Int) = false by rw [hstep]; rfl))
            clear hok hstep
            go_wp2_with (first | (go_at_call 14; (with_reducible refine KC.out.mono ?_); (first | rintro e w3 ⟨rfl, rfl⟩ | rintro e w3 rfl rfl)) | (go_at_call 49; (with_reducible refine KH.out.mono ?_); (first | rintro e w4 ⟨rfl, hb4⟩ | rintro e w4 rfl hb4)))
            go_ret
            exact ⟨by rw [HF.out]; rfl, below_tr HB1.out hb4⟩
set_option maxRecDepth 100000 in
set_option maxHeartbeats 4000000 in
theorem rneeds_walk (l : List Seat) (a : Option Addr) (c : Nat) (A : List Int) (sa : Option Addr) (sc : Nat) (s : Int) (w : World) (hS : RdS w a l) (hA : Rd w sa (ints A)) (hl : l.length ≤ 32) (hAl : A.length ≤ 1000) (hSpc : Spc w) :
    Calls Tryz.prog 46 #[.slice a l.length c, .slice sa A.length sc, .int .i64 s] w fun e w' => ∃ a' c', e = .returned (.slice a' (needsP (holdS wiF l) l.length A s).length c') ∧ Rd w' a' (ints (needsP (holdS wiF l) l.length A s)) ∧ Below w.heap.size w w' := by
  have hl2 : decide ((l.length : Int) > 32) = false := decide_eq_false (by omega)
  have hl3 : ¬ (32 < l.length) := by omega
  have KR := Lib.hid (rasc_walk l.length sa A sc w hA (by omega))
  have KC := Lib.hid (fun V (hV : Below w.heap.size w V) => rhas_walk sa A sc s V (hA.keep hV) (by omega))
  have hdef : needsP (holdS wiF l) l.length A s = if riseP l.length A && decide (s ∈ A) then A.filter fun i => !(decide (i = s) || holdS wiF l (lessP A [i]) s) else [] := rfl
  generalize hG : needsP (holdS wiF l) l.length A s = G at *
  clear hG
  cases hr : riseP l.length A with
  | false =>
    rw [hr] at KR hdef
    have HD : Hid (G = []) := Lib.hid hdef
    clear hdef hr hS hA hSpc
    go_enter Tryz.func46, Tryz.ntmps46
    go_wp2_with (go_at_call 66; (with_reducible refine KR.out.mono ?_); (first | rintro e w1 ⟨rfl, hb1⟩ | rintro e w1 rfl hb1))
    go_ret
    exact ⟨none, 0, by rw [HD.out]; rfl, by rw [HD.out]; exact Rd.nil _ _, hb1⟩
  | true =>
    rw [hr] at KR hdef
    by_cases hm : s ∈ A
    rotate_left
    · rw [decide_eq_false hm] at KC hdef
      have HD : Hid (G = []) := Lib.hid hdef
      clear hdef hr hS hA hSpc hm
      go_enter Tryz.func46, Tryz.ntmps46
      go_wp2_with (first
        | (go_at_call 66; (with_reducible refine KR.out.mono ?_); (first | rintro e w1 ⟨rfl, hb1⟩ | rintro e w1 rfl hb1))
        | (go_at_call 14; (with_reducible refine (KC.out _ hb1).mono ?_); (first | rintro e w9 ⟨rfl, rfl⟩ | rintro e w9 rfl rfl)))
      go_ret
      exact ⟨none, 0, by rw [HD.out]; rfl, by rw [HD.out]; exact Rd.nil _ _, hb1⟩
    rw [decide_eq_true hm] at KC hdef
    have HD : Hid (G = A.filter fun i => !(decide (i = s) || holdS wiF l (lessP A [i]) s)) := Lib.hid hdef
    have HIN := Lib.hid (rise_mem hr)
    have HASC := Lib.hid (rise_pair hr)
    have hsu := mem_upI.1 (rise_mem hr s hm)
    obtain ⟨q, rfl⟩ : ∃ q : Nat, s = (q : Int) := ⟨s.toNat, by omega⟩
    have HQ := Lib.hid (show q < l.length by omega)
    have HS := Lib.hid hS
    have HA := Lib.hid hA
    have HSpc := Lib.hid hSpc
    have HAL := Lib.hid hAl
    clear hdef hr hS hA hSpc hm hsu hl hAl
    go_enter Tryz.func46, Tryz.ntmps46
    go_upto_region 5 with (first
      | (go_at_call 66; (with_reducible refine KR.out.mono ?_); (first | rintro e w1 ⟨rfl, hb1⟩ | rintro e w1 rfl hb1))
      | (go_at_call 14; (with_reducible refine (KC.out _ hb1).mono ?_); (first | rintro e w9 ⟨rfl, rfl⟩ | rintro e w9 rfl rfl)))
    go_loopw [7, 8] (fun sv iv wr => ∃ (j n : Nat) (ay : Option Addr) (cy : Nat) (D : List Int), j ≤ A.length ∧ iv = .int .i64 (j : Int) ∧ sv = .slice ay n cy ∧ n ≤ j ∧ Hid (D.length = n) ∧ Hid (D = (A.take j).filter fun i => !(decide (i = (q : Int)) || holdS wiF l (lessP A [i]) (q : Int))) ∧ Ow wr w.heap.size 1 ay n cy (ints D) ∧ Below w.heap.size w wr) (fun _ iv _ => A.length - (intOf iv).toNat)
    case atStart => exact ⟨0, 0, none, 0, [], Nat.zero_le _, rfl, rfl, Nat.le_refl _, Lib.hid rfl, Lib.hid (by simp), Ow.nil _ _ _, hb1⟩
    case round =>
      clear hb1 KR KC
      obtain ⟨j, n, ay, cy, D, hj, rfl, rfl, hn, hDn, hD, hO, hb⟩ := hrel
      by_cases hjt : j < A.length
      rotate_left
      · have hjl : ¬ (j : Int) < (A.length : Int) := by omega
        obtain rfl : j = A.length := by omega
        have hDe : D = G := by have := hD.out; rw [List.take_length] at this; rw [this, HD.out]
        subst hDe
        obtain rfl := hDn.out
        have HO := Lib.hid hO
        have Hb := Lib.hid hb
        clear hD hO hb
        go_wp2
        go_ret
        exact ⟨ay, ⟨cy, rfl⟩, HO.out.rd, Hb.out⟩
      have hjl : (j : Int) < (A.length : Int) := by omega
      have hwj : IntKind.i64.wrap ((j : Int) + 1) = (j : Int) + 1 := by have := HAL.out; rw [IntKind.wrap_i64] <;> omega
      obtain ⟨ga, oa, x, rfl, ca, hx⟩ := (HA.out.keep hb).int (k := j) hjt
      have hst : ((A.take (j + 1)).filter fun i => !(decide (i = (q : Int)) || holdS wiF l (lessP A [i]) (q : Int))) = D ++ (if (decide (x = (q : Int)) || holdS wiF l (lessP A [x]) (q : Int)) = true then [] else [x]) := by
        have h1 : ([x].filter fun i => !(decide (i = (q : Int)) || holdS wiF l (lessP A [i]) (q : Int))) = if (decide (x = (q : Int)) || holdS wiF l (lessP A [x]) (q : Int)) = true then [] else [x] := by
          rw [List.filter_cons]
          cases (decide (x = (q : Int)) || holdS wiF l (lessP A [x]) (q : Int)) <;> rfl
        rw [take_at hx, List.filter_append, h1, ← hD.out]
      by_cases hxq : x = (q : Int)
      · have d1 : (x != (q : Int)) = false := by rw [bne_eq_false_iff_eq]; exact hxq
        rw [decide_eq_true hxq, Bool.true_or, if_pos rfl, List.append_nil] at hst
        have HD2 := Lib.hid hst.symm
        have HO := Lib.hid hO
        have Hb := Lib.hid hb
        clear hst hD hx hxq hO hb
        go_wp2
        go_roundw
        case rel => exact ⟨j + 1, n, ay, cy, D, by omega, by go_num, rfl, by omega, hDn, HD2, HO.out, Hb.out⟩
        case measure => simp [intOf]; omega
      have d1 : (x != (q : Int)) = true := by rw [bne_iff_ne]; exact hxq
      rw [decide_eq_false hxq, Bool.false_or] at hst
      have hbN := (Below.refl wr.heap.size wr).alloc (Nat.le_refl _) (.cells #[.int .i64 x] 3)
      have hNew := new_int1 wr x
      have hbW := below_tr hb hbN
      have KW := Lib.hid (show Calls Tryz.prog 48 #[.slice (some ⟨ga, oa, none⟩) A.length sc, .slice (some ⟨wr.heap.size, 0, none⟩) 1 1] (wr.alloc (.cells #[.int .i64 x] 3)) _ from rwithout_walk A [x] _ _ sc 1 _ (HA.out.keep hbW) hNew HAL.out (by simp))
      have hsub : (lessP A [x]).Sublist A := less_sub
      have KH := Lib.hid (fun V (hV : Below w.heap.size w V) a3 c3 (h3 : Rd V a3 (ints (lessP A [x]))) => rholds_walk l a c (lessP A [x]) a3 c3 q V (HS.out.keep hV) h3 (fun i hi => HIN.out i (hsub.subset hi)) (HASC.out.sublist hsub) HQ.out (Nat.le_trans hsub.length_le HAL.out) (HSpc.out.keep hV))
      generalize holdS wiF l (lessP A [x]) (q : Int) = hh at *
      generalize lessP A [x] = LP at *
      have HbW := Lib.hid hbW
      have Hb := Lib.hid hb
      have HbN := Lib.hid hbN
      clear hbN hNew hbW hx hxq hsub hD
      cases hh with
      | true =>
        rw [if_pos rfl, List.append_nil] at hst
        have HD2 := Lib.hid hst.symm
        have HO := Lib.hid hO
        clear hst hO hb
        go_wp2_with (first
          | (go_at_call 48; (with_reducible refine KW.out.mono ?_); (first | rintro e w2 ⟨a3, c3, rfl, hO3, hb3⟩ | rintro e w2 a3 c3 rfl hO3 hb3))
          | (go_at_call 49; (with_reducible refine (KH.out _ (below_tr HbW.out hb3) _ _ hO3.rd).mono ?_); (first | rintro e w3 ⟨rfl, hb4⟩ | rintro e w3 rfl hb4)))
        go_roundw
        case rel => exact ⟨j + 1, n, ay, cy, D, by omega, by go_num, rfl, by omega, hDn, HD2, (HO.out.keep (below_tr HbN.out hb3)).keep hb4, below_tr (below_tr HbW.out hb3) hb4⟩
        case measure => simp [intOf]; omega
      | false =>
        rw [if_neg (by decide)] at hst
        have HD2 := Lib.hid hst.symm
        have HN2 : Hid ((D ++ [x]).length = n + 1) := Lib.hid (by rw [List.length_append, hDn.out]; rfl)
        have HO := Lib.hid hO
        clear hst hO hDn hb
        go_upto_if 49 with (first
          | (go_at_call 48; (with_reducible refine KW.out.mono ?_); (first | rintro e w2 ⟨a3, c3, rfl, hO3, hb3⟩ | rintro e w2 a3 c3 rfl hO3 hb3))
          | (go_at_call 49; (with_reducible refine (KH.out _ (below_tr HbW.out hb3) _ _ hO3.rd).mono ?_); (first | rintro e w3 ⟨rfl, hb4⟩ | rintro e w3 rfl hb4)))
        have hO9 := (HO.out.keep (below_tr HbN.out hb3)).keep hb4
        have hb9 := below_tr (below_tr HbW.out hb3) hb4
        have hz9 := hb9.size
        have ca9 := cell_alloc hb4 (cell_alloc hb3 (cell_alloc HbN.out ca))
        have hAl9 := HAL.out
        clear hb3 hb4 hO3 ca
        go_wp2_with (at_builtin; refine wpList_app1 (w0 := w) (B := w.heap.size) (base := w.heap.size) rfl _ _ _ rfl el_int rfl hO9 hb9 (Nat.le_refl _) hz9 rfl (by rfl) (one1 rfl) (by omega) ?_; intro a5 c5 wA hO8 hb8 hg8; clear hg8)
        rw [ints_snoc] at hO8
        clear hO9 hb9 ca9
        have HO8 := Lib.hid hO8
        have Hb8 := Lib.hid hb8
        clear hO8 hb8
        go_roundw
        case rel => exact ⟨j + 1, n + 1, a5, c5, D ++ [x], by omega, by go_num, rfl, by omega, HN2, HD2, HO8.out, Hb8.out⟩
        case measure => simp [intOf]; omega
end Go.Proofs.YtpofijdkckaphaaGreatDoor
