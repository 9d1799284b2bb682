/- law28: the reference's all, without, ascending, holds. -/
import Derived.Test.YtpofijdkckaphaaGreatDoorGGreCk
import Derived.BigQuiet
namespace Go.Proofs.YtpofijdkckaphaaGreatDoor
open Go.RowKit
set_option maxRecDepth 100000 in
set_option maxHeartbeats 2000000 in
theorem rall_walk (n : Nat) (w : World) (hn : n ≤ 100000) :
    Calls Tryz.prog 47 #[.int .i64 (n : Int)] w fun e w' => ∃ a c, e = .returned (.slice a n c) ∧ Ow w' w.heap.size 1 a n c (ints (upI n)) ∧ Below w.heap.size w w' := by
  go_enter Tryz.func47, Tryz.ntmps47
  go_wp2_with fail
  go_loopw [3, 4] (fun sv iv wr => ∃ (k : Nat) (a1 : Option Addr) (c1 : Nat), k ≤ n ∧ iv = .int .i64 (k : Int) ∧ sv = .slice a1 k c1 ∧ Ow wr w.heap.size 1 a1 k c1 (ints (upI k)) ∧ Below w.heap.size w wr) (fun _ iv _ => n - (intOf iv).toNat)
  case atStart => exact ⟨0, none, 0, Nat.zero_le _, rfl, rfl, Ow.nil _ _ _, Below.refl _ _⟩
  case round =>
    obtain ⟨k, a1, c1, hk, rfl, rfl, hO, hb⟩ := hrel
    by_cases hkt : k < n
    · have hkl : (k : Int) < (n : Int) := by omega
      have hwk : IntKind.i64.wrap ((k : Int) + 1) = (k : Int) + 1 := by rw [IntKind.wrap_i64] <;> omega
      have hsz := hb.size
      go_wp2_with (at_builtin; refine wpList_app1 (w0 := w) (B := w.heap.size) (base := w.heap.size) rfl _ _ _ rfl el_int rfl hO hb (Nat.le_refl _) hsz rfl (by rfl) (one1 rfl) (by omega) ?_; intro a3 c3 wA hO8 hb8 hg8; clear hg8)
      rw [ints_snoc, ← upI_succ] at hO8
      clear hO hb
      have HO8 := Lib.hid hO8
      have Hb8 := Lib.hid hb8
      clear hO8 hb8
      go_roundw
      case rel => exact ⟨k + 1, a3, c3, by omega, by go_num, rfl, HO8.out, Hb8.out⟩
      case measure => simp [intOf]; omega
    · have hkl : ¬ (k : Int) < (n : Int) := by omega
      obtain rfl : k = n := by omega
      go_wp2
      go_ret
      exact ⟨a1, c1, rfl, hO, hb⟩
theorem below_dn {B : Nat} {w w' : World} (h : Below B w w') (n : Nat) : Below B w (w'.drewN n) := ⟨h.os, h.tape, h.output, h.size, h.block⟩
theorem less_take {A C : List Int} {j : Nat} {x : Int} (hx : Hid (A[j]? = some x)) : lessP (A.take (j + 1)) C = lessP (A.take j) C ++ (if x ∈ C then [] else [x]) := by
  unfold lessP
  rw [take_at hx, List.filter_append]
  by_cases h : x ∈ C <;> simp [h]
set_option maxRecDepth 100000 in
set_option maxHeartbeats 2000000 in
theorem rwithout_walk (A C : List Int) (sa sb : Option Addr) (ac bc : Nat) (w : World) (hA : Rd w sa (ints A)) (hC : Rd w sb (ints C)) (hAl : A.length ≤ 1000) (hCl : C.length ≤ 1000) :
    Calls Tryz.prog 48 #[.slice sa A.length ac, .slice sb C.length bc] w fun e w' => ∃ a' c', e = .returned (.slice a' (lessP A C).length c') ∧ Ow w' w.heap.size 1 a' (lessP A C).length c' (ints (lessP A C)) ∧ Below w.heap.size w w' := by
  obtain ⟨X, hX⟩ : ∃ X, X = lessP A C := ⟨_, rfl⟩
  have HX := Lib.hid hX
  rw [← hX]
  clear hX
  go_enter Tryz.func48, Tryz.ntmps48
  go_wp2_with fail
  go_loopw [5, 6] (fun sv iv wr => ∃ (j n : Nat) (ay : Option Addr) (cy : Nat) (D : List Int), j ≤ A.length ∧ iv = .int .i64 (j : Int) ∧ sv = .slice ay n cy ∧ n ≤ j ∧ Hid (D.length = n) ∧ Hid (D = lessP (A.take j) C) ∧ Ow wr w.heap.size 1 ay n cy (ints D) ∧ Below w.heap.size w wr) (fun _ iv _ => A.length - (intOf iv).toNat)
  case atStart => exact ⟨0, 0, none, 0, [], Nat.zero_le _, rfl, rfl, Nat.le_refl _, Lib.hid rfl, Lib.hid (by simp [lessP]), Ow.nil _ _ _, Below.refl _ _⟩
  case round =>
    obtain ⟨j, n, ay, cy, D, hj, rfl, rfl, hn, hDn, hD, hO, hb⟩ := hrel
    by_cases hjt : j < A.length
    · have hjl : (j : Int) < (A.length : Int) := by omega
      have hwj : IntKind.i64.wrap ((j : Int) + 1) = (j : Int) + 1 := by rw [IntKind.wrap_i64] <;> omega
      obtain ⟨ga, oa, x, hga, ca, hx⟩ := (hA.keep hb).int (k := j) hjt
      have KH := Lib.hid (rhas_walk sb C bc x wr (hC.keep hb) (by omega))
      have hlt := less_take (C := C) hx
      rw [← hD.out] at hlt
      clear hx
      subst hga
      by_cases hxm : x ∈ C
      · rw [decide_eq_true hxm] at KH
        rw [if_pos hxm, List.append_nil] at hlt
        have HD2 := Lib.hid hlt.symm
        have HO := Lib.hid hO
        have Hb := Lib.hid hb
        clear hlt hD hxm hO hb
        go_wp2_with (go_at_call 14; (with_reducible refine KH.out.mono ?_); (first | rintro e w9 ⟨rfl, rfl⟩ | rintro e w9 rfl rfl))
        go_roundw
        case rel => exact ⟨j + 1, n, ay, cy, D, by omega, by go_num, rfl, by omega, hDn, HD2, HO.out, Hb.out⟩
        case measure => simp [intOf]; omega
      · rw [decide_eq_false hxm] at KH
        rw [if_neg hxm] at hlt
        have HD2 := Lib.hid hlt.symm
        have HN2 : Hid ((D ++ [x]).length = n + 1) := Lib.hid (by rw [List.length_append, hDn.out]; rfl)
        have hsz := hb.size
        clear hlt hD hxm hDn
        go_wp2_with (first
          | (go_at_call 14; (with_reducible refine KH.out.mono ?_); (first | rintro e w9 ⟨rfl, rfl⟩ | rintro e w9 rfl rfl))
          | (at_builtin; refine wpList_app1 (w0 := w) (B := w.heap.size) (base := w.heap.size) rfl _ _ _ rfl el_int rfl hO hb (Nat.le_refl _) hsz rfl (by rfl) (one1 rfl) (by omega) ?_; intro a3 c3 wA hO9 hb9 hg9; clear hg9))
        rw [ints_snoc] at hO9
        clear hO hb ca
        have HO9 := Lib.hid hO9
        have Hb9 := Lib.hid hb9
        clear hO9 hb9
        go_roundw
        case rel => exact ⟨j + 1, n + 1, a3, c3, D ++ [x], by omega, by go_num, rfl, by omega, HN2, HD2, HO9.out, Hb9.out⟩
        case measure => simp [intOf]; omega
    · have hjl : ¬ (j : Int) < (A.length : Int) := by omega
      obtain rfl : j = A.length := by omega
      have hDe : D = X := by have := hD.out; rw [List.take_length] at this; rw [this, HX.out]
      subst hDe
      obtain rfl := hDn.out
      have HO := Lib.hid hO
      have Hb := Lib.hid hb
      clear hD hO hb
      go_wp2
      go_ret
      exact ⟨ay, cy, rfl, HO.out, Hb.out⟩
set_option maxRecDepth 100000 in
set_option maxHeartbeats 4000000 in
theorem rasc_walk (n : Nat) (a : Option Addr) (l : List Int) (cap : Nat) (w : World) (hR : Rd w a (ints l)) (hl : l.length ≤ 281474976710656) :
    Calls Tryz.prog 66 #[.slice a l.length cap, .int .i64 (n : Int)] w fun e w' => e = .returned (.bool (riseP n l)) ∧ Below w.heap.size w w' := by
  go_enter Tryz.func66, Tryz.ntmps66
  go_wp2_with fail
  go_loopw [5] (fun i wr => ∃ k : Nat, Below w.heap.size w wr ∧ k ≤ l.length ∧ i = .int .i64 (k : Int) ∧ Hid (riseP n (l.take k) = true)) (fun i _ => l.length - (intOf i).toNat)
  case atStart => exact ⟨0, Below.refl _ _, Nat.zero_le _, rfl, Lib.hid (by simp [riseP])⟩
  case round =>
    obtain ⟨k, hb, hk, rfl, hA⟩ := hrel
    by_cases hkt : k < l.length
    rotate_left
    · have hkl : ¬ (k : Int) < (l.length : Int) := by omega
      obtain rfl : k = l.length := by omega
      have HT : Hid (riseP n l = true) := Lib.hid (by have := hA.out; rwa [List.take_length] at this)
      clear hA
      go_wp2
      go_ret
      exact ⟨by rw [HT.out]; rfl, hb⟩
    have hkl : (k : Int) < (l.length : Int) := by omega
    have hwk : IntKind.i64.wrap ((k : Int) + 1) = (k : Int) + 1 := by rw [IntKind.wrap_i64] <;> omega
    obtain ⟨gx, off, x, rfl, hc, hx⟩ := (hR.keep hb).int (k := k) hkt
    have HB := Lib.hid hb
    by_cases h0 : x < 0
    · have d0 : decide (x < 0) = true := decide_eq_true h0
      have HF := Lib.hid (rise_out (n := n) (mem_at hx) (by omega))
      clear hA hx h0 hb
      go_upto_region 4 with fail
      go_quiet (fail)
      go_wp2
      go_ret
      exact ⟨by rw [HF.out]; rfl, below_dn HB.out _⟩
    have d0 : decide (x < 0) = false := decide_eq_false h0
    by_cases h1 : x ≥ (n : Int)
    · have d1 : decide (x ≥ (n : Int)) = true := decide_eq_true h1
      have HF := Lib.hid (rise_out (n := n) (mem_at hx) (by omega))
      clear hA hx h0 h1 hb
      go_upto_region 4 with fail
      go_quiet (fail)
      go_wp2
      go_ret
      exact ⟨by rw [HF.out]; rfl, below_dn HB.out _⟩
    have d1 : decide (x ≥ (n : Int)) = false := decide_eq_false h1
    by_cases hk0 : k = 0
    · have hk1 : decide ((k : Int) > 0) = false := decide_eq_false (by omega)
      have hk2 : decide (0 < k) = false := decide_eq_false (by omega)
      have HT := Lib.hid (rise_step hA.out hx.out (n := n) (by omega) (fun y h => absurd h (by omega)))
      clear hA hx h0 h1 hb hk0
      go_upto_region 4 with fail
      go_quiet (fail)
      go_wp2_with fail
      go_roundw
      case rel => exact ⟨k + 1, below_dn HB.out _, by omega, by go_num, HT⟩
      case measure => simp [intOf]; omega
    have hk1 : decide ((k : Int) > 0) = true := decide_eq_true (by omega)
    have hk2 : decide (0 < k) = true := decide_eq_true (by omega)
    obtain ⟨gx', off', y, hga', hc2, hy⟩ := (hR.keep hb).int (k := k - 1) (by omega)
    cases hga'
    have e1 : IntKind.i64.wrap ((k : Int) - 1) = ((k - 1 : Nat) : Int) := by rw [IntKind.wrap_i64] <;> omega
    have hkm : ((k - 1 : Nat) : Int) < (l.length : Int) := by omega
    by_cases hxy : x ≤ y
    · have d2 : decide (x ≤ y) = true := decide_eq_true hxy
      have HF := Lib.hid (rise_fall (n := n) (by omega) hx.out hy.out hxy)
      clear hA hx hy h0 h1 hb hxy
      go_upto_region 4 with fail
      go_quiet (fail)
      go_wp2
      go_ret
      exact ⟨by rw [HF.out]; rfl, below_dn HB.out _⟩
    · have d2 : decide (x ≤ y) = false := decide_eq_false hxy
      have HT := Lib.hid (rise_step hA.out hx.out (n := n) (by omega) (fun z _ hz => by
        rw [hy.out] at hz
        have := Option.some.inj hz
        omega))
      clear hA hx hy h0 h1 hb hxy
      go_upto_region 4 with fail
      go_quiet (fail)
      go_wp2_with fail
      go_roundw
      case rel => exact ⟨k + 1, below_dn HB.out _, by omega, by go_num, HT⟩
      case measure => simp [intOf]; omega
set_option maxRecDepth 100000 in
set_option maxHeartbeats 8000000 in
theorem rholds_walk (l : List Seat) (a : Option Addr) (c : Nat) (A : List Int) (sa : Option Addr) (sc : Nat) (s : Nat) (w : World) (hS : RdS w a l) (hA : Rd w sa (ints A)) (hin : ∀ i ∈ A, i ∈ upI l.length) (hasc : A.Pairwise (· < ·)) (hsl : s < l.length) (hAl : A.length ≤ 1000) (hSpc : Spc w) :
    Calls Tryz.prog 49 #[.slice a l.length c, .slice sa A.length sc, .int .i64 (s : Int)] w fun e w' => e = .returned (.bool (holdS wiF l A (s : Int))) ∧ Below w.heap.size w w' := by
  obtain ⟨g0, off0, xs, rfl, hxs, -⟩ := hS.seat hsl
  have hho := hold_at hxs.out A
  rw [hho]
  have HXS := Lib.hid (mem_at hxs)
  have HS := Lib.hid hS
  have HA := Lib.hid hA
  have HD := Lib.hid hin
  have HAsc := Lib.hid hasc
  have HSpc := Lib.hid hSpc
  clear hS hA hin hasc hSpc hho
  go_enter Tryz.func49, Tryz.ntmps49
  go_wp2_with fail
  go_loopw [7, 8, 9] (fun v mv i wr => ∃ (k : Nat) (am : Option Addr) (cm : Nat) (me : Int), k ≤ A.length ∧ i = .int .i64 (k : Int) ∧ mv = .int .i64 me ∧ v = .slice am k cm ∧ Hid (((s : Int) ∈ A.take k ∧ me = idxS A (s : Int)) ∨ ((s : Int) ∉ A.take k ∧ me = -1)) ∧ Ow wr w.heap.size 5 am k cm (rowsC mmC ((A.take k).map (memS l))) ∧ Below w.heap.size w wr) (fun _ _ i _ => A.length - (intOf i).toNat)
  case atStart => exact ⟨0, none, 0, -1, by omega, rfl, rfl, rfl, Lib.hid (.inr ⟨by simp, rfl⟩), Ow.nil _ _ _, Below.refl _ _⟩
  case round =>
    obtain ⟨k, am, cm, me, hk, rfl, rfl, rfl, hme, hO, hB⟩ := hrel
    by_cases hkt : k < A.length
    · have hkl : (k : Int) < (A.length : Int) := by omega
      have hwk : IntKind.i64.wrap ((k : Int) + 1) = (k : Int) + 1 := by rw [IntKind.wrap_i64] <;> omega
      obtain ⟨ga, offa, i, rfl, ca, hi⟩ := (HA.out.keep hB).int (k := k) hkt
      have hiu := mem_upI.1 (HD.out i (mem_at hi))
      obtain ⟨n, rfl⟩ : ∃ n : Nat, i = (n : Int) := ⟨i.toNat, by omega⟩
      have hn : n < l.length := by omega
      have hnl : (n : Int) < (l.length : Int) := by omega
      obtain ⟨gl, ol, x, hgl, hx, d0, d1, d2, d3, d4, -, -⟩ := (HS.out.keep hB).seat hn
      cases hgl
      have HR3 : Hid (rowsC mmC ((A.take (k + 1)).map (memS l)) = rowsC mmC ((A.take k).map (memS l)) ++ [.string ⟨x.mem.person.toArray⟩, .int .i64 x.mem.number, .int .i64 x.mem.dept, .int .i64 x.mem.day, .slice x.mem.aa x.mem.ans.length x.mem.ac]) := Lib.hid (by
        rw [take_at hi, List.map_append, rowsC_append, List.map_singleton, rowsC_single, memS_at hx.out]; rfl)
      have hsz := hB.size
      by_cases hns : n = s
      · subst hns
        have heq : ((n : Int) == (n : Int)) = true := beq_self_eq_true _
        have HME : Hid (((n : Int) ∈ A.take (k + 1) ∧ (k : Int) = idxS A (n : Int)) ∨ ((n : Int) ∉ A.take (k + 1) ∧ (k : Int) = -1)) := Lib.hid (.inl ⟨by rw [take_at hi]; exact List.mem_append_right _ List.mem_cons_self, (idx_at HAsc.out hi.out).symm⟩)
        clear hi hx hiu hme
        go_wp2_with (at_builtin; refine wpList_app1 (w0 := w) (B := w.heap.size) (base := w.heap.size) rfl _ _ _ rfl elMm rfl hO hB (Nat.le_refl _) hsz (cs := [.string ⟨x.mem.person.toArray⟩, .int .i64 x.mem.number, .int .i64 x.mem.dept, .int .i64 x.mem.day, .slice x.mem.aa x.mem.ans.length x.mem.ac]) rfl rfl (by intro u hu; simp at hu; rcases hu with rfl | rfl | rfl | rfl | rfl <;> rfl) (by omega) ?_; intro a5 c5 w8 hO5 hb5 hg5; clear hg5)
        rw [← HR3.out] at hO5
        clear ca d0 d1 d2 d3 d4 hO hB
        have HO5 := Lib.hid hO5
        have HB5 := Lib.hid hb5
        clear hO5 hb5
        go_roundw
        case rel => exact ⟨k + 1, a5, c5, (k : Int), by omega, by go_num, rfl, rfl, HME, HO5.out, HB5.out⟩
        case measure => simp [intOf]; omega
      · have heq : ((n : Int) == (s : Int)) = false := by rw [beq_eq_false_iff_ne]; omega
        have hmm : (s : Int) ∈ A.take (k + 1) ↔ (s : Int) ∈ A.take k := by
          rw [take_at hi, List.mem_append, List.mem_singleton]
          constructor
          · rintro (h | h)
            · exact h
            · exact absurd h (by omega)
          · exact .inl
        have HME : Hid (((s : Int) ∈ A.take (k + 1) ∧ me = idxS A (s : Int)) ∨ ((s : Int) ∉ A.take (k + 1) ∧ me = -1)) := Lib.hid (by rw [hmm]; exact hme.out)
        clear hi hx hiu hme hmm
        go_wp2_with (at_builtin; refine wpList_app1 (w0 := w) (B := w.heap.size) (base := w.heap.size) rfl _ _ _ rfl elMm rfl hO hB (Nat.le_refl _) hsz (cs := [.string ⟨x.mem.person.toArray⟩, .int .i64 x.mem.number, .int .i64 x.mem.dept, .int .i64 x.mem.day, .slice x.mem.aa x.mem.ans.length x.mem.ac]) rfl rfl (by intro u hu; simp at hu; rcases hu with rfl | rfl | rfl | rfl | rfl <;> rfl) (by omega) ?_; intro a5 c5 w8 hO5 hb5 hg5; clear hg5)
        rw [← HR3.out] at hO5
        clear ca d0 d1 d2 d3 d4 hO hB
        have HO5 := Lib.hid hO5
        have HB5 := Lib.hid hb5
        clear hO5 hb5
        go_roundw
        case rel => exact ⟨k + 1, a5, c5, me, by omega, by go_num, rfl, rfl, HME, HO5.out, HB5.out⟩
        case measure => simp [intOf]; omega
    · have hkl : ¬ (k : Int) < (A.length : Int) := by omega
      obtain rfl : k = A.length := by omega
      rw [List.take_length] at hO hme
      by_cases hsm : (s : Int) ∈ A
      rotate_left
      · have hneg : me = -1 := by
          rcases hme.out with h | h
          · exact absurd h.1 hsm
          · exact h.2
        have HME2 : Hid (termF wiF xs.T 0 (A.map (memS l)) (idxS A (s : Int)) = false) := Lib.hid (by rw [idx_no hsm]; simp [termF])
        subst hneg
        have HB := Lib.hid hB
        clear hO hB hme hsm
        go_wp2
        go_ret
        exact ⟨by rw [HME2.out]; rfl, HB.out⟩
      have hme2 : me = idxS A (s : Int) := by
        rcases hme.out with h | h
        · exact h.2
        · exact absurd hsm h.1
      have HME2 := Lib.hid hme2
      have hge : decide (me ≥ 0) = true := by
        have := idx_pos (A := A) (s := (s : Int))
        rw [decide_eq_true hsm, ← hme2] at this
        exact this
      have hRM := rdM_set HS.out HD.out hO hB
      obtain ⟨gl, ol, x, hgl, hx, -, -, -, -, -, d5, -⟩ := (HS.out.keep hB).seat hsl
      cases hgl
      obtain rfl : xs = x := Option.some.inj (hxs.out.symm.trans hx.out)
      have hml : (A.map (memS l)).length = A.length := List.length_map _
      have hsi : (s : Int) < (l.length : Int) := by omega
      have KH := rcholds_walk xs.T xs.ca xs.cc (A.map (memS l)) am cm me wr ((HS.out.keep hB).cnd xs HXS.out) hRM (HS.out.tl xs HXS.out) (by omega) (HSpc.out.keep hB)
      rw [hml] at KH
      have KHH := Lib.hid KH
      have HB := Lib.hid hB
      clear KH hRM hO hB hx hme hme2 hsm
      have hge2 : 0 ≤ me := of_decide_eq_true hge
      go_wp2_with (go_at_call 37; (with_reducible refine KHH.out.mono ?_); (first | rintro e w9 ⟨rfl, hb9⟩ | rintro e w9 rfl hb9))
      go_ret
      exact ⟨by rw [← HME2.out]; rfl, below_tr HB.out hb9⟩
end Go.Proofs.YtpofijdkckaphaaGreatDoor
