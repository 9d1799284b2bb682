/- The law GreatestChecks walked. -/
import Derived.Test.YtpofijdkckaphaaGreatDoorGGreCk
import Derived.Test.YtpofijdkckaphaaGreatDoorLSame
namespace Go.Proofs.YtpofijdkckaphaaGreatDoor
open Go.RowKit
theorem goes_take {op : Int → Bool} {H : List Int → Int → Bool} {A : List Int} {j : Nat} {x : Int} (hx : Hid (A[j]? = some x)) : ((A.take (j + 1)).filter fun i => !(op i || H A i)) = ((A.take j).filter fun i => !(op i || H A i)) ++ (if (op x || H A x) = true then [] else [x]) := by
  have h1 : ([x].filter fun i => !(op i || H A i)) = if (op x || H A x) = true then [] else [x] := by
    rw [List.filter_cons]
    cases (op x || H A x) <;> rfl
  rw [take_at hx, List.filter_append, h1]
theorem less_take {A C : List Int} {j : Nat} {x : Int} (hx : Hid (A[j]? = some x)) : lessP (A.take (j + 1)) C = lessP (A.take j) C ++ (if x ∈ C then [] else [x]) := by
  unfold lessP
  rw [take_at hx, List.filter_append]
  by_cases h : x ∈ C <;> simp [h]
set_option maxRecDepth 100000 in
set_option maxHeartbeats 16000000 in
theorem checks_walk (W : World) (p : Option Addr) (l : List Int) (cap : Nat) (hR : Rd W p (ints l)) (hSpc : Spc W) (hl : l.length ≤ 17592186043904) (p2 : Option Addr) (l2 : List Int) (cap2 : Nat) (hR2 : Rd W p2 (ints l2)) (hl2 : l2.length ≤ 17592186043904) :
    Calls Tryz.prog 4 #[.slice p l.length cap, .slice p2 l2.length cap2] W fun e w' => e = .returned (.bool true) ∧ Below W.heap.size W w' := by
  have KA := Lib.hid awake28
  have hl48 : l.length ≤ 281474976710656 := by omega
  have hl48' : l2.length ≤ 281474976710656 := by omega
  have HR := Lib.hid hR
  have HR2 := Lib.hid hR2
  have HSpc := Lib.hid hSpc
  have KL1 := Lib.hid (fun V => light_walk p l cap V hl48)
  have KL2 := Lib.hid (fun V => light_walk p2 l2 cap2 V hl48')
  clear hR hR2 hSpc
  by_cases hq : 500 < l.length ∨ 500 < l2.length
  · by_cases hq1 : 500 < l.length
    · have h1 : decide (l.length ≤ 500) = false := by simp; omega
      rw [h1] at KL1
      clear hq hq1 h1
      go_enter Tryz.func4, Tryz.ntmps4
      go_wp2_with (first
        | (go_at_call 7; (with_reducible refine (KL1.out _).mono ?_); (first | rintro e w1 ⟨rfl, rfl⟩ | rintro e w1 rfl rfl))
        | (go_at_call 8; (with_reducible refine (KA.out _).mono ?_); (first | rintro e w9 rfl hb9 | rintro e w9 ⟨rfl, hb9⟩)))
      go_ret
      exact ⟨rfl, hb9⟩
    · have h1 : decide (l.length ≤ 500) = true := by simp; omega
      have h2 : decide (l2.length ≤ 500) = false := by simp; omega
      rw [h1] at KL1
      rw [h2] at KL2
      clear hq hq1 h1 h2
      go_enter Tryz.func4, Tryz.ntmps4
      go_wp2_with (first
        | (go_at_call 7; (with_reducible refine (KL1.out _).mono ?_); (first | rintro e w1 ⟨rfl, rfl⟩ | rintro e w1 rfl rfl))
        | (go_at_call 7; (with_reducible refine (KL2.out _).mono ?_); (first | rintro e w1 ⟨rfl, rfl⟩ | rintro e w1 rfl rfl))
        | (go_at_call 8; (with_reducible refine (KA.out _).mono ?_); (first | rintro e w9 rfl hb9 | rintro e w9 ⟨rfl, hb9⟩)))
      go_ret
      exact ⟨rfl, hb9⟩
  have h1 : decide (l.length ≤ 500) = true := by simp; omega
  have h2 : decide (l2.length ≤ 500) = true := by simp; omega
  rw [h1] at KL1
  rw [h2] at KL2
  clear hq h1 h2
  have KR1 := Lib.hid (roll_walk p l cap)
  have KR2 := Lib.hid (roll_walk p2 l2 cap2)
  go_enter Tryz.func4, Tryz.ntmps4
  go_upto_region 4 with (first
    | (go_at_call 7; (with_reducible refine (KL1.out _).mono ?_); (first | rintro e w1 ⟨rfl, rfl⟩ | rintro e w1 rfl rfl))
    | (go_at_call 7; (with_reducible refine (KL2.out _).mono ?_); (first | rintro e w1 ⟨rfl, rfl⟩ | rintro e w1 rfl rfl))
    | (go_at_call 9; (with_reducible refine (KR1.out _).mono ?_); (first | rintro e w1 rfl hD1 hb1 | rintro e w1 ⟨rfl, hD1, hb1⟩))
    | (go_at_call 9; (with_reducible refine (KR2.out _).mono ?_); (first | rintro e w2 rfl hD2 hb2 | rintro e w2 ⟨rfl, hD2, hb2⟩)))
  have hDa := (Dc.first hD1 HR.out hb1 hl48).keep hb2
  have hDb : Dc W w2 w1.heap.size p2 l2 cap2 := ⟨⟨0, hD2, (HR2.out.keep hb1).keep hb2, below_tr hb1 hb2⟩, hb1.size, HR2.out, hl48'⟩
  have hdbl := hDb.lt
  have hdne : W.heap.size < w1.heap.size := hD1.lt
  clear hD1 hb1 hD2 hb2 KL1 KL2 KR1 KR2 HR HR2
  generalize w1.heap.size = db at *
  have KS := Lib.hid (show Calls Tryz.prog 10 #[.pointer (some ⟨W.heap.size, 0, none⟩), .int .i64 8] w2 _ from pseats_walk W W.heap.size p l cap 8 (by decide) w2 hDa)
  clear hDa
  go_upto_region 5 with (go_at_call 10; (with_reducible refine KS.out.mono ?_); (first | rintro e w3 ⟨L, a, c, m, rfl, hL8, hm, hS⟩ | rintro e w3 L a c m rfl hL8 hm hS))
  obtain ⟨q2, hq2⟩ := hDb.env
  have hDb3 : Dc W w3 db p2 l2 cap2 := ⟨⟨q2, hq2.kp hS.k hDb.below.size (fun j hj e => by omega) (fun e => by omega) hDb.rd⟩, hDb.lo, hDb.rd, hDb.len⟩
  obtain ⟨B, hBe⟩ : ∃ B, B = w3.heap.size := ⟨_, rfl⟩
  have hk3 := hS.k.size
  have hCs : Cs W w3 db p2 l2 cap2 B a L := ⟨hDb3, hS.rdS, by omega, by omega, fun j hj => by have := hS.o.row j hj; omega, fun x hx j hj => by have := hS.row x hx j hj; omega⟩
  have HB3 := Lib.hid hBe
  clear hS KS hm hDb hq2 hDb3 hk3 hdbl hdne
  have KM := Lib.hid merge_nil
  go_upto_region 7 with (go_at_call 15; (with_reducible refine (KM.out _).mono ?_); (first | rintro e w4 ⟨rfl, rfl⟩ | rintro e w4 rfl rfl))
  have HLN := Lib.hid hL8
  go_loopw [8, 9] (fun sv iv wr => ∃ (k : Nat) (a1 : Option Addr) (c1 : Nat), k ≤ L.length ∧ iv = .int .i64 (k : Int) ∧ sv = .slice a1 k c1 ∧ Ow wr B 1 a1 k c1 (ints (upI k)) ∧ Cs W wr db p2 l2 cap2 B a L) (fun _ iv _ => L.length - (intOf iv).toNat)
  case atStart => exact ⟨0, none, 0, Nat.zero_le _, rfl, rfl, Ow.nil _ _ _, hCs⟩
  case round =>
    clear hCs
    obtain ⟨k, a1, c1, hk, rfl, rfl, hO, hC⟩ := hrel
    by_cases hkt : k < L.length
    · have hkl : (k : Int) < (L.length : Int) := by omega
      have hwk : IntKind.i64.wrap ((k : Int) + 1) = (k : Int) + 1 := by rw [IntKind.wrap_i64] <;> omega
      have hle := hC.le
      have hrow := hO.row
      go_wp2_with (at_builtin; refine wpList_app1 (w0 := wr) (B := B) (base := B) rfl _ _ _ rfl el_int rfl hO (Below.refl _ _) (Nat.le_refl _) hle rfl (by rfl) (one1 rfl) (by omega) ?_; intro a3 c3 wA hO8 hb8 hg8; clear hb8)
      rw [ints_snoc, ← upI_succ] at hO8
      have hC8 := hC.grown hg8 (fun j hj => (hrow j hj).1)
      clear hO hC hg8
      have HO8 := Lib.hid hO8
      have HC8 := Lib.hid hC8
      clear hO8 hC8
      go_roundw
      case rel => exact ⟨k + 1, a3, c3, by omega, by go_num, rfl, HO8.out, HC8.out⟩
      case measure => simp [intOf]; omega
    · have hkl : ¬ (k : Int) < (L.length : Int) := by omega
      obtain rfl : k = L.length := by omega
      obtain ⟨A, hA⟩ : ∃ A, A = upI L.length := ⟨_, rfl⟩
      have hCk : Ck B wr a1 A none 0 0 [] := ⟨by rw [hA]; exact hO.rd, fun j hj => ⟨(hO.row j hj).1, (hO.row j hj).2, by simp [rowOf]⟩, Ow.nil _ _ _, fun x hx => by simp at hx, fun x hx => by simp at hx, rfl⟩
      have hChk : Chk (opS L) (holdS wiF L) L.length A (([] : List IL).map IL.lst) := by rw [hA]; exact Chk.first _ _ _
      have hAl : A.length = L.length := by rw [hA, upI_len]
      have HSpcW := HSpc
      clear hO hA
      go_upto_region 12 with fail
      go_loopw [8, 10, 11] (fun lv rv iv wr => ∃ (t : Nat) (A : List Int) (a1 : Option Addr) (c1 : Nat) (a2 : Option Addr) (c2 : Nat) (R : List IL), t ≤ 8 ∧ iv = .int .i64 (t : Int) ∧ lv = .slice a1 A.length c1 ∧ rv = .slice a2 t c2 ∧ Hid (Chk (opS L) (holdS wiF L) L.length A (R.map IL.lst)) ∧ Ck B wr a1 A a2 c2 t R ∧ Cs W wr db p2 l2 cap2 B a L) (fun _ _ iv _ => 20 - (intOf iv).toNat)
      case atStart => exact ⟨0, A, a1, c1, none, 0, [], by omega, rfl, by rw [hAl], rfl, Lib.hid hChk, hCk, hC⟩
      case round =>
        clear hCk hChk hAl hC
        obtain ⟨t, A, a1, c1, a2, c2, R, ht, rfl, rfl, rfl, hChk, hCk, hCs⟩ := hrel
        have htl : (t : Int) < 20 := by omega
        have hwt : IntKind.i64.wrap ((t : Int) + 1) = (t : Int) + 1 := by rw [IntKind.wrap_i64] <;> omega
        have hAL : A.length ≤ 8 := by have := hChk.out.sub.length_le; rw [upI_len] at this; omega
        have HIN := Lib.hid (fun i (hi : i ∈ A) => hChk.out.sub.subset hi)
        have HASC := Lib.hid ((upI_pair L.length).sublist hChk.out.sub)
        have HCk := Lib.hid hCk
        have HCs := Lib.hid hCs
        have hBo := hCs.le
        have HA2 := Lib.hid (fun j (hj : rowOf a2 = some j) => (hCk.o.row j hj).2)
        have HSpo := Lib.hid (HSpc.out.keep hCs.d.below)
        clear hCk hCs
        rename World => wo
        go_upto_region 16 with fail
        go_loopw [12, 13] (fun sv iv wr => ∃ (j m : Nat) (ac : Option Addr) (cc : Nat) (C : List Int), j ≤ A.length ∧ iv = .int .i64 (j : Int) ∧ sv = .slice ac m cc ∧ m ≤ j ∧ Hid (C.length = m) ∧ Hid (C = (A.take j).filter fun i => !(opS L i || holdS wiF L A i)) ∧ Ow wr wo.heap.size 1 ac m cc (ints C) ∧ Below wo.heap.size wo wr) (fun _ iv _ => A.length - (intOf iv).toNat)
        case atStart => exact ⟨0, 0, none, 0, [], Nat.zero_le _, rfl, rfl, Nat.le_refl _, Lib.hid rfl, Lib.hid (by simp), Ow.nil _ _ _, Below.refl _ _⟩
        case round =>
          obtain ⟨j, m, ac, cc, C, hj, rfl, rfl, hm, hCm, hC, hO, hb⟩ := hrel
          by_cases hjt : j < A.length
          · have hjl : (j : Int) < (A.length : Int) := by omega
            have hwj : IntKind.i64.wrap ((j : Int) + 1) = (j : Int) + 1 := by rw [IntKind.wrap_i64] <;> omega
            obtain ⟨ga, oa, i, hga, ca, hi⟩ := (HCk.out.a.keep hb).int (k := j) hjt
            have hiA := mem_at hi
            have hiu := mem_upI.1 (HIN.out i hiA)
            obtain ⟨q, rfl⟩ : ∃ q : Nat, i = (q : Int) := ⟨i.toNat, by omega⟩
            have hql : q < L.length := by omega
            have hqi : (q : Int) < (L.length : Int) := by omega
            obtain ⟨gl, ol, x, hgl, hx, -, -, -, -, -, -, d6⟩ := (HCs.out.s.keep hb).seat hql
            have hop := opS_at hx.out
            have KH := Lib.hid (lholds_walk L a c A a1 c1 q wr (HCs.out.s.keep hb) (HCk.out.a.keep hb) HIN.out HASC.out hiA (by omega) (HSpo.out.keep hb))
            have hst := goes_take (op := opS L) (H := holdS wiF L) hi
            rw [hop, ← hC.out] at hst
            have HST := Lib.hid hst
            clear hi hx hop hiA hst hiu
            generalize holdS wiF L A (q : Int) = hh at *
            generalize x.opn = oo at *
            subst hga hgl
            cases oo
            · cases hh
              · have HC2 : Hid (C ++ [(q : Int)] = (A.take (j + 1)).filter fun i => !(opS L i || holdS wiF L A i)) := Lib.hid (by rw [HST.out]; rfl)
                have HM2 : Hid ((C ++ [(q : Int)]).length = m + 1) := Lib.hid (by rw [List.length_append, hCm.out]; rfl)
                clear hC hCm HST
                go_upto_if 73 with (go_at_call 16; (with_reducible refine KH.out.mono ?_); (first | rintro e w9 ⟨rfl, hb9⟩ | rintro e w9 rfl hb9))
                have hO9 := hO.keep hb9
                have hb99 := below_tr hb hb9
                have hz9 := hb99.size
                clear hO hb hb9 ca d6
                go_wp2_with (at_builtin; refine wpList_app1 (w0 := wo) (B := wo.heap.size) (base := wo.heap.size) rfl _ _ _ rfl el_int rfl hO9 hb99 (Nat.le_refl _) hz9 rfl (by rfl) (one1 rfl) (by omega) ?_; intro a3 c3 wA hO8 hb8 hg8; clear hg8)
                rw [ints_snoc] at hO8
                clear hO9 hb99
                have HO8 := Lib.hid hO8
                have Hb8 := Lib.hid hb8
                clear hO8 hb8
                go_roundw
                case rel => exact ⟨j + 1, m + 1, a3, c3, C ++ [(q : Int)], by omega, by go_num, rfl, by omega, HM2, HC2, HO8.out, Hb8.out⟩
                case measure => simp [intOf]; omega
              · have HC2 : Hid (C = (A.take (j + 1)).filter fun i => !(opS L i || holdS wiF L A i)) := Lib.hid (by rw [HST.out]; simp)
                have HO := Lib.hid hO
                have Hb := Lib.hid hb
                clear hC HST hO hb
                go_wp2_with (go_at_call 16; (with_reducible refine KH.out.mono ?_); (first | rintro e w9 ⟨rfl, hb9⟩ | rintro e w9 rfl hb9))
                go_roundw
                case rel => exact ⟨j + 1, m, ac, cc, C, by omega, by go_num, rfl, by omega, hCm, HC2, HO.out.keep hb9, below_tr Hb.out hb9⟩
                case measure => simp [intOf]; omega
            · have HC2 : Hid (C = (A.take (j + 1)).filter fun i => !(opS L i || holdS wiF L A i)) := Lib.hid (by rw [HST.out]; simp)
              have HO := Lib.hid hO
              have Hb := Lib.hid hb
              clear hC HST hO hb
              go_wp2
              go_roundw
              case rel => exact ⟨j + 1, m, ac, cc, C, by omega, by go_num, rfl, by omega, hCm, HC2, HO.out, Hb.out⟩
              case measure => simp [intOf]; omega
          · have hjl : ¬ (j : Int) < (A.length : Int) := by omega
            obtain rfl : j = A.length := by omega
            have hCg : C = goesP (opS L) (holdS wiF L) A := by have := hC.out; rwa [List.take_length] at this
            have hCk := HCk.out.keep hb
            have hCs := HCs.out.keep hb
            have HBw := Lib.hid hb.size
            clear HCk HCs HSpo hC hb
            by_cases hm0 : m = 0
            · subst hm0
              have hC0 : C = [] := List.length_eq_zero_iff.1 hCm.out
              have hd : goesP (opS L) (holdS wiF L) A = [] := by rw [← hCg, hC0]
              have hset := hChk.out.set (hold_mono wiF L) hd
              have KS1 := gset_walk L a c wr hCs.s (by omega)
              rw [hset] at KS1
              have KS1H := Lib.hid KS1
              have hpa := hChk.out.parts
              have hck : checkP (opS L) (holdS wiF L) L.length A (R.map IL.lst) = 0 := by
                unfold checkP
                rw [hpa, if_pos rfl, hChk.out.steps, hChk.out.opens (hold_mono wiF L) hd]; rfl
              obtain rfl := hCk.nn
              have KCK := Lib.hid (fun V (hV : Below wr.heap.size wr V) => check_walk L a c A a1 c1 R a2 c2 V (hCs.s.keep hV) (hCk.a.keep hV) ⟨hCk.o.rd.keep hV, fun x hx => (hCk.r x hx).keep hV⟩ (by omega) (by omega) (by omega) (fun x hx => by have := rise_len (parts_each hpa x hx); omega))
              rw [hck] at KCK
              have KSM := Lib.hid (fun V b d (hV : Below wr.heap.size wr V) (hb : Rd V b (ints A)) => lsame_eq b A d a1 c1 V hb (hCk.a.keep hV) (by omega))
              have HBW := Lib.hid hCs.d.below
              clear KS1 hset hpa hck hCk hCs hd hC0 hCg hO
              go_wp2_with (first
                | (go_at_call 11; (with_reducible refine KS1H.out.mono ?_); (first | rintro e u1 ⟨a9, c9, rfl, hR9, hc1⟩ | rintro e u1 a9 c9 rfl hR9 hc1))
                | (go_at_call 8; (with_reducible refine (KA.out _).mono ?_); (first | rintro e u2 ⟨rfl, hc2⟩ | rintro e u2 rfl hc2))
                | (go_at_call 18; (with_reducible refine (KCK.out _ (below_tr hc1 hc2)).mono ?_); (first | rintro e u3 ⟨rfl, hc3⟩ | rintro e u3 rfl hc3))
                | (go_at_call 19; (with_reducible refine (KSM.out _ _ _ (below_tr (below_tr hc1 hc2) hc3) ((hR9.keep hc2).keep hc3)).mono ?_); (first | rintro e u4 ⟨rfl, hc4⟩ | rintro e u4 rfl hc4)))
              go_ret
              exact ⟨rfl, HBW.out.trans ((below_tr (below_tr (below_tr hc1 hc2) hc3) hc4).mono HBW.out.size)⟩
            · have hmp : 0 < m := by omega
              have hm0i : ((m : Int) == 0) = false := by rw [beq_eq_false_iff_ne]; omega
              have hmc : m ≤ cc := hO.2.1
              obtain ⟨gc, oc, y, rfl, -, -⟩ := hO.rd.int (k := 0) (by rw [hCm.out]; exact hmp)
              have K5 := Lib.hid (dnext hCs.d (m : Int) (by omega) (by omega))
              go_upto_region 23 with (go_at_call 17; (with_reducible refine K5.out.mono ?_); (first | rintro e w5 ⟨z, rfl, hz, hD5, hk5⟩ | rintro e w5 z rfl hz hD5 hk5))
              have hCs5 := hCs.next hD5 hk5
              have hCk5 := hCk.kp hk5 (fun j h1 _ e => by have := hCs.lt; omega)
              have hO5 := hO.kp hk5 (fun j hj e => by have := (hO.row j hj).1; have := hCs.lt; omega)
              have hs5 := hk5.size
              clear hCs hCk hO hD5 hk5 K5
              have ew1 : IntKind.i64.wrap ((z : Int) + 1) = (z : Int) + 1 := by rw [IntKind.wrap_i64] <;> omega
              have ew2 : IntKind.i64.wrap ((m : Int) - (z : Int)) = ((m - z : Nat) : Int) := by rw [IntKind.wrap_i64] <;> omega
              have K6 := Lib.hid (dnext hCs5.d ((m - z : Nat) : Int) (by omega) (by omega))
              go_upto_region 24 with (go_at_call 17; (with_reducible refine K6.out.mono ?_); (first | rintro e w6 ⟨y, rfl, hy, hD6, hk6⟩ | rintro e w6 y rfl hy hD6 hk6); have ew3 : IntKind.i64.wrap ((z : Int) + 1 + (y : Int)) = ((z + 1 + y : Nat) : Int) := (by rw [IntKind.wrap_i64] <;> omega))
              have hy2 : z + 1 + y ≤ m := by omega
              obtain ⟨SM, hSM⟩ : ∃ SM, SM = (C.drop z).take (1 + y) := ⟨_, rfl⟩
              have hSl : SM.length = 1 + y := by rw [hSM, List.length_take, List.length_drop, hCm.out]; omega
              have eS : z + 1 + y - z = SM.length := by omega
              rw [eS]
              have hdbB := hCs5.lt
              have hCs6 := hCs5.next hD6 hk6
              have hCk6 := hCk5.kp hk6 (fun j h1 _ e => by omega)
              have hO6 := hO5.kp hk6 (fun j hj e => by have := (hO5.row j hj).1; omega)
              have hgc := hO6.row gc rfl
              have hRS := rd_cut hO6.rd z (1 + y)
              rw [← hSM] at hRS
              have hrowS : ∀ j, rowOf (some (⟨gc, oc + z, none⟩ : Addr)) = some j → B ≤ j ∧ j < w6.heap.size ∧ rowOf a2 ≠ some j := fun j hj => by
                have hgj : gc = j := Option.some.inj hj
                exact ⟨by omega, by omega, fun e => by have := HA2.out j e; omega⟩
              have hsub : SM.Sublist (goesP (opS L) (holdS wiF L) A) := by rw [hSM, ← hCg]; exact cut_sub _ _ _
              have hne : SM ≠ [] := fun e => by rw [e] at hSl; simp at hSl; omega
              have HChk2 := Lib.hid (hChk.out.step hsub hne)
              have hRl := hCk6.nn
              have hsh := HChk2.out.shorter
              rw [List.length_append, List.length_map, List.length_singleton] at hsh
              have ht8 : t + 1 ≤ 8 := by omega
              have hSM8 : SM.length ≤ 8 := by have := hsub.length_le; have : (goesP (opS L) (holdS wiF L) A).length ≤ A.length := List.length_filter_le _ _; omega
              clear eS hSM hSl hy2 hO5 hO6 hCs5 hCk5 hD6 hk6 K6 hsub hne hChk hCg hCm ew1 ew2 ew3 hz hy hmc hm0i hgc hRl hsh hs5
              go_upto_region 25 with (at_builtin; refine wpList_app1_at (w0 := w6) (B := B) (base := B) rfl _ _ _ rfl elIL rfl hCk6.o (Below.refl _ _) (Nat.le_refl _) hCs6.le (cs := [.slice (some ⟨gc, oc + z, none⟩) SM.length (cc - z)]) rfl rfl (by intro u hu; simp at hu; subst hu; rfl) (by omega) ?_; intro a5 c5 w8 hO8 hb8 hg8 hat8; clear hb8)
              have hCk8 := hCk6.app (G := SM) (c3 := cc - z) hRS hrowS hg8 hO8 hat8
              have hCs8 := hCs6.grown hg8 (fun j hj => (hCk6.o.row j hj).1)
              have hRS8 := rd_far hRS hg8 (fun j hj => (hrowS j hj).2.2)
              have HCk8 := Lib.hid hCk8
              have HCs8 := Lib.hid hCs8
              have HRS8 := Lib.hid hRS8
              clear hCk6 hCs6 hRS hrowS hg8 hO8 hat8 hCk8 hCs8 hRS8
              go_upto_region 27 with fail
              go_loopw [17, 18] (fun sv iv wr => ∃ (j n : Nat) (ay : Option Addr) (cy : Nat) (D : List Int), j ≤ A.length ∧ iv = .int .i64 (j : Int) ∧ sv = .slice ay n cy ∧ n ≤ j ∧ Hid (D.length = n) ∧ Hid (D = lessP (A.take j) SM) ∧ Ow wr w8.heap.size 1 ay n cy (ints D) ∧ Below w8.heap.size w8 wr) (fun _ iv _ => A.length - (intOf iv).toNat)
              case atStart => exact ⟨0, 0, none, 0, [], Nat.zero_le _, rfl, rfl, Nat.le_refl _, Lib.hid rfl, Lib.hid (by simp [lessP]), Ow.nil _ _ _, Below.refl _ _⟩
              case round =>
                obtain ⟨j, n, ay, cy, D, hj, rfl, rfl, hn, hDn, hD, hO, hb⟩ := hrel
                by_cases hjt : j < A.length
                · have hjl : (j : Int) < (A.length : Int) := by omega
                  have hwj : IntKind.i64.wrap ((j : Int) + 1) = (j : Int) + 1 := by rw [IntKind.wrap_i64] <;> omega
                  obtain ⟨ga, oa, x, hga, ca, hx⟩ := (HCk8.out.a.keep hb).int (k := j) hjt
                  have KH := Lib.hid (rhas_walk (some ⟨gc, oc + z, none⟩) SM (cc - z) x wr (HRS8.out.keep hb) (by omega))
                  have hlt := less_take (C := SM) hx
                  rw [← hD.out] at hlt
                  clear hx
                  subst hga
                  by_cases hxm : x ∈ SM
                  · rw [decide_eq_true hxm] at KH
                    rw [if_pos hxm, List.append_nil] at hlt
                    have HD2 := Lib.hid hlt.symm
                    have HO := Lib.hid hO
                    have Hb := Lib.hid hb
                    clear hlt hD hxm hO hb
                    go_wp2_with (go_at_call 14; (with_reducible refine KH.out.mono ?_); (first | rintro e w9 ⟨rfl, rfl⟩ | rintro e w9 rfl rfl))
                    go_roundw
                    case rel => exact ⟨j + 1, n, ay, cy, D, by omega, by go_num, rfl, by omega, hDn, HD2, HO.out, Hb.out⟩
                    case measure => simp [intOf]; omega
                  · rw [decide_eq_false hxm] at KH
                    rw [if_neg hxm] at hlt
                    have HD2 := Lib.hid hlt.symm
                    have HN2 : Hid ((D ++ [x]).length = n + 1) := Lib.hid (by rw [List.length_append, hDn.out]; rfl)
                    have hsz := hb.size
                    clear hlt hD hxm hDn
                    go_wp2_with (first
                      | (go_at_call 14; (with_reducible refine KH.out.mono ?_); (first | rintro e w9 ⟨rfl, rfl⟩ | rintro e w9 rfl rfl))
                      | (at_builtin; refine wpList_app1 (w0 := w8) (B := w8.heap.size) (base := w8.heap.size) rfl _ _ _ rfl el_int rfl hO hb (Nat.le_refl _) hsz rfl (by rfl) (one1 rfl) (by omega) ?_; intro a3 c3 wA hO9 hb9 hg9; clear hg9))
                    rw [ints_snoc] at hO9
                    clear hO hb ca
                    have HO9 := Lib.hid hO9
                    have Hb9 := Lib.hid hb9
                    clear hO9 hb9
                    go_roundw
                    case rel => exact ⟨j + 1, n + 1, a3, c3, D ++ [x], by omega, by go_num, rfl, by omega, HN2, HD2, HO9.out, Hb9.out⟩
                    case measure => simp [intOf]; omega
                · have hjl : ¬ (j : Int) < (A.length : Int) := by omega
                  obtain rfl : j = A.length := by omega
                  have hDe : D = lessP A SM := by have := hD.out; rwa [List.take_length] at this
                  obtain rfl := hDn.out
                  have HCk9 := Lib.hid (HCk8.out.turn hO.rd hb HCs8.out.le (fun j hj => hO.row j hj))
                  have HCs9 := Lib.hid (HCs8.out.keep hb)
                  have HChk9 : Hid (Chk (opS L) (holdS wiF L) L.length D ((R ++ [(⟨some ⟨gc, oc + z, none⟩, cc - z, SM⟩ : IL)]).map IL.lst)) := Lib.hid (by rw [hDe, List.map_append]; exact HChk2.out)
                  clear hD hDe hO hb
                  go_wp2_with fail
                  go_roundw
                  case rel => exact ⟨t + 1, D, ay, cy, a5, c5, _, ht8, by go_num, rfl, rfl, HChk9, HCk9.out, HCs9.out⟩
                  case measure => simp [intOf]; omega
end Go.Proofs.YtpofijdkckaphaaGreatDoor
