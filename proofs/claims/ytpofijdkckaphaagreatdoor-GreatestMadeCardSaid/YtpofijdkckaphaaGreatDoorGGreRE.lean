/- law28: the reference's Check. -/
import Derived.Test.YtpofijdkckaphaaGreatDoorGGreRB
import Derived.Test.YtpofijdkckaphaaGreatDoorGGreRC
import Derived.Test.YtpofijdkckaphaaGreatDoorGGreRD
import Derived.Test.YtpofijdkckaphaaGreatDoorBase
namespace Go.Proofs.YtpofijdkckaphaaGreatDoor
open Go.RowKit
set_option maxRecDepth 100000 in
set_option maxHeartbeats 4000000 in
theorem rcheck_walk (l : List Seat) (a : Option Addr) (c : Nat) (A : List Int) (sa : Option Addr) (sc : Nat) (R : List IL) (ra : Option Addr) (rc : Nat) (w : World) (hS : RdS w a l) (hA : Rd w sa (ints A)) (hR : RdL w ra R) (hl : l.length ≤ 32) (hAl : A.length ≤ 1000) (hRl : R.length ≤ 100) (hRx : ∀ x ∈ R, x.lst.length ≤ 1000) (hSpc : Spc w) :
    Calls Tryz.prog 44 #[.slice a l.length c, .slice sa A.length sc, .slice ra R.length rc] w fun e w' => e = .returned (.int .i64 (checkP (opS l) (holdS wiF l) l.length A (R.map IL.lst))) ∧ Below w.heap.size w w' := by
  have hl2 : decide ((l.length : Int) > 32) = false := decide_eq_false (by omega)
  have hl3 : ¬ (32 < l.length) := by omega
  have KP := Lib.hid (rparts_walk l.length A sa sc R ra rc w hA hR hl hAl hRl hRx)
  have hdef : checkP (opS l) (holdS wiF l) l.length A (R.map IL.lst) = (if partsP l.length A (R.map IL.lst) = true then (if (stepsP (opS l) (holdS wiF l) (upI l.length) (R.map IL.lst) && opensP (opS l) (holdS wiF l) l.length A) = true then 0 else 49) else 48) := rfl
  generalize checkP (opS l) (holdS wiF l) l.length A (R.map IL.lst) = RES at *
  cases hp : partsP l.length A (R.map IL.lst) with
  | false =>
    rw [hp] at KP
    have HRES : Hid (RES = 48) := Lib.hid (by rw [hdef, hp]; rfl)
    clear hS hA hR hdef hp hSpc
    go_enter Tryz.func44, Tryz.ntmps44
    go_wp2_with (go_at_call 67; (with_reducible refine KP.out.mono ?_); (first | rintro e w1 ⟨rfl, hb1⟩ | rintro e w1 rfl hb1))
    go_ret
    exact ⟨by rw [HRES.out]; rfl, hb1⟩
  | true =>
    rw [hp] at KP
    have HRES := Lib.hid (show RES = (if (stepsP (opS l) (holdS wiF l) (upI l.length) (R.map IL.lst) && opensP (opS l) (holdS wiF l) l.length A) = true then 0 else 49) by rw [hdef, hp, if_pos rfl])
    have HEA := Lib.hid (parts_each hp)
    have KA := Lib.hid (fun V => (show Calls Tryz.prog 47 #[.int .i64 (l.length : Int)] V fun e w' => ∃ a1 c1, e = .returned (.slice a1 (upI l.length).length c1) ∧ Ow w' V.heap.size 1 a1 l.length c1 (ints (upI l.length)) ∧ Below V.heap.size V w' by
      have := rall_walk l.length V (by omega)
      rw [upI_len]
      exact this))
    have KO := Lib.hid (fun V (hb : Below w.heap.size w V) => ropens_walk l a c A sa sc V (hS.keep hb) (hA.keep hb) hl hAl (hSpc.keep hb))
    have HS := Lib.hid hS
    have HR := Lib.hid hR
    have HLL := Lib.hid hl
    have HSpc := Lib.hid hSpc
    obtain ⟨U, hU⟩ : ∃ U, U = upI l.length := ⟨_, rfl⟩
    have HP0 := Lib.hid (upI_pair l.length)
    have HL0 := Lib.hid (Lf.first (opS l) (holdS wiF l) l.length R)
    rw [← hU] at KA HL0 HP0
    clear hS hA hR hdef hp hl hRx hU hSpc
    go_enter Tryz.func44, Tryz.ntmps44
    go_wp2_with (first
      | (go_at_call 67; (with_reducible refine KP.out.mono ?_); (first | rintro e w1 ⟨rfl, hb1⟩ | rintro e w1 rfl hb1))
      | (go_at_call 47; (with_reducible refine (KA.out _).mono ?_); (first | rintro e w2 ⟨a2, c2, rfl, hO2, hb2⟩ | rintro e w2 a2 c2 rfl hO2 hb2)))
    go_loopw [7, 8] (fun s i wr => ∃ (k : Nat) (L : List Int) (a1 : Option Addr) (c1 : Nat), k ≤ R.length ∧ i = .int .i64 (k : Int) ∧ s = .slice a1 L.length c1 ∧ Hid (L.Pairwise (· < ·)) ∧ Hid (Lf (opS l) (holdS wiF l) l.length R k L) ∧ Rd wr a1 (ints L) ∧ Below w.heap.size w wr) (fun _ i _ => R.length - (intOf i).toNat)
    case atStart => exact ⟨0, U, a2, c2, Nat.zero_le _, rfl, rfl, HP0, HL0, hO2.rd, below_tr hb1 hb2⟩
    case round =>
      clear hO2 hb1 hb2 KP KA HL0 HP0
      obtain ⟨k, L, a1, c1, hk, rfl, rfl, hPw, hLf, hRd, hB⟩ := hrel
      by_cases hkt : k < R.length
      · have hkl : (k : Int) < (R.length : Int) := by omega
        obtain ⟨gr, orr, x, rfl, cx, hx, hxr⟩ := (HR.out.keep hB).at hkt
        have hrx := HEA.out x (mem_at hx)
        have hxn : x.lst.length ≤ 32 := Nat.le_trans (rise_len hrx) HLL.out
        have HXM := Lib.hid (rise_mem hrx)
        have HX := Lib.hid hx.out
        have HXR := Lib.hid hxr
        have HRd := Lib.hid hRd
        have HLf := Lib.hid hLf.out
        have HBk := Lib.hid hB
        clear hx hxr hrx hRd hLf
        have hwk : IntKind.i64.wrap ((k : Int) + 1) = (k : Int) + 1 := by rw [IntKind.wrap_i64] <;> omega
        go_upto_region 10 with (fail)
        clear cx hB
        rename World => wo
        go_loopw [9] (fun j wr => ∃ m : Nat, m ≤ x.lst.length ∧ j = .int .i64 (m : Int) ∧ Hid (((x.lst.take m).all fun i => !(opS l i || holdS wiF l L i)) = true) ∧ Below wo.heap.size wo wr) (fun j _ => x.lst.length - (intOf j).toNat)
        case atStart => exact ⟨0, Nat.zero_le _, rfl, Lib.hid rfl, Below.refl _ _⟩
        case round =>
          obtain ⟨m, hm, rfl, hall, hB5⟩ := hrel
          have hLl : L.length ≤ 1000 := by have := HLf.out.n; have := HLL.out; omega
          have hwm : IntKind.i64.wrap ((m : Int) + 1) = (m : Int) + 1 := by rw [IntKind.wrap_i64] <;> omega
          obtain ⟨gr2, orr2, x2, hga2, cx, hx2, -⟩ := (HR.out.keep (below_tr HBk.out hB5)).at hkt
          obtain rfl : x = x2 := Option.some.inj (HX.out.symm.trans hx2.out)
          cases hga2
          clear hx2
          by_cases hmt : m < x.lst.length
          · have hml : (m : Int) < (x.lst.length : Int) := by omega
            obtain ⟨gx, ox, i, hxa, ci, hi⟩ := (HXR.out.keep hB5).int (k := m) hmt
            have hiu := mem_upI.1 (HXM.out i (mem_at hi))
            obtain ⟨q, rfl⟩ : ∃ q : Nat, i = (q : Int) := ⟨i.toNat, by omega⟩
            have hql : q < l.length := by omega
            have hqi : (q : Int) < (l.length : Int) := by omega
            have hb5 := below_tr HBk.out hB5
            have hS5 := HS.out.keep hb5
            obtain ⟨gl, ol, z, hgl, hz, -, -, -, -, -, -, d6⟩ := hS5.seat hql
            have hop := opS_at hz.out
            have KH := Lib.hid (rholds_walk l a c L a1 c1 q wr hS5 (HRd.out.keep hB5) HLf.out.i hPw.out hql hLl (HSpc.out.keep hb5))
            have hstep : (!(opS l (q : Int) || holdS wiF l L (q : Int))) = !(z.opn || holdS wiF l L (q : Int)) := by rw [hop]
            have hno : (!(opS l (q : Int) || holdS wiF l L (q : Int))) = false → RES = 49 := fun h => by
              rw [HRES.out, steps_no HX.out (upI l.length) (by rw [← HLf.out.e]; exact all_at_no hi.out h)]; rfl
            have HB5 := Lib.hid hb5
            have hyes : (!(opS l (q : Int) || holdS wiF l L (q : Int))) = true → ((x.lst.take (m + 1)).all fun i => !(opS l i || holdS wiF l L i)) = true := fun h => all_at_step hi hall.out h
            rw [hstep] at hno hyes
            clear hi hz hop hS5 hall hstep hb5
            generalize hb0 : holdS wiF l L (q : Int) = hh at *
            generalize ho0 : z.opn = oo at *
            clear hb0 ho0
            generalize hxad : x.ad = xad at *
            subst hxa hgl
            clear hxad
            cases oo with
            | true =>
              have HN := Lib.hid (hno rfl)
              clear hno hyes
              go_wp2
              go_ret
              exact ⟨by rw [HN.out]; rfl, HB5.out⟩
            | false =>
              cases hh with
              | true =>
                have HN := Lib.hid (hno rfl)
                clear hno hyes
                go_wp2_with (go_at_call 49; (with_reducible refine KH.out.mono ?_); (first | rintro e w6 ⟨rfl, hb6⟩ | rintro e w6 rfl hb6))
                go_ret
                exact ⟨by rw [HN.out]; rfl, below_tr HB5.out hb6⟩
              | false =>
                have HY := Lib.hid (hyes rfl)
                clear hno hyes
                go_wp2_with (go_at_call 49; (with_reducible refine KH.out.mono ?_); (first | rintro e w6 ⟨rfl, hb6⟩ | rintro e w6 rfl hb6))
                go_roundw
                case rel => exact ⟨m + 1, by omega, by go_num, HY, below_tr hB5 hb6⟩
                case measure => simp [intOf]; omega
          · have hml : ¬ (m : Int) < (x.lst.length : Int) := by omega
            obtain rfl : m = x.lst.length := by omega
            have HT : Hid ((x.lst.all fun i => !(opS l i || holdS wiF l L i)) = true) := Lib.hid (by have := hall.out; rwa [List.take_length] at this)
            have HLn := Lib.hid (HLf.out.next HX.out HT.out)
            have KL := Lib.hid (rwithout_walk L x.lst a1 x.ad c1 x.cap wr (HRd.out.keep hB5) (HXR.out.keep hB5) hLl (by omega))
            have HB5 := Lib.hid (below_tr HBk.out hB5)
            clear hall hB5 HT
            go_wp2_with (go_at_call 48; (with_reducible refine KL.out.mono ?_); (first | rintro e w6 ⟨a6, c6, rfl, hR6, hb6⟩ | rintro e w6 a6 c6 rfl hR6 hb6))
            go_roundw
            case rel => exact ⟨k + 1, lessP L x.lst, a6, c6, by omega, by go_num, rfl, Lib.hid (hPw.out.sublist less_sub), HLn, hR6.rd, below_tr HB5.out hb6⟩
            case measure => simp [intOf]; omega
      · have hkl : ¬ (k : Int) < (R.length : Int) := by omega
        obtain rfl : k = R.length := by omega
        have hst := hLf.out.s
        rw [List.take_length] at hst
        have KOx := Lib.hid (KO.out wr hB)
        have HB := Lib.hid hB
        have hres := HRES.out
        rw [hst, Bool.true_and] at hres
        clear hRd hB hLf hst KO HRES
        cases ho : opensP (opS l) (holdS wiF l) l.length A with
        | true =>
          rw [ho] at KOx hres
          have HN := Lib.hid (show RES = 0 from hres)
          clear hres ho
          go_wp2_with (go_at_call 43; (with_reducible refine KOx.out.mono ?_); (first | rintro e w6 ⟨rfl, hb6⟩ | rintro e w6 rfl hb6))
          go_ret
          exact ⟨by rw [HN.out]; rfl, below_tr HB.out hb6⟩
        | false =>
          rw [ho] at KOx hres
          have HN := Lib.hid (show RES = 49 from hres)
          clear hres ho
          go_wp2_with (go_at_call 43; (with_reducible refine KOx.out.mono ?_); (first | rintro e w6 ⟨rfl, hb6⟩ | rintro e w6 rfl hb6))
          go_ret
          exact ⟨by rw [HN.out]; rfl, below_tr HB.out hb6⟩
end Go.Proofs.YtpofijdkckaphaaGreatDoor
/- Lists of numbers that are the same: the reference's Same. -/
namespace Go.Proofs.YtpofijdkckaphaaGreatDoor
open Go.RowKit
set_option maxRecDepth 100000 in
set_option maxHeartbeats 2000000 in
theorem lsame_eq (a : Option Addr) (l : List Int) (c : Nat) (b : Option Addr) (d : Nat) (w : World) (hR : Rd w a (ints l)) (hS : Rd w b (ints l)) (hn : l.length ≤ 281474976710656) :
    Calls Tryz.prog 19 #[.slice a l.length c, .slice b l.length d] w fun e w' => e = .returned (.bool true) ∧ Below w.heap.size w w' := by
  go_enter Tryz.func19, Tryz.ntmps19
  go_wp2_with fail
  go_loopw [14] (fun i wr => ∃ k : Nat, k ≤ l.length ∧ i = .int .i64 (k : Int) ∧ Below w.heap.size w wr) (fun i _ => l.length - (intOf i).toNat)
  case atStart => exact ⟨0, Nat.zero_le _, rfl, Below.refl _ _⟩
  case round =>
    obtain ⟨k, hk, rfl, hB⟩ := hrel
    by_cases hkt : k < l.length
    · have hkl : (k : Int) < (l.length : Int) := by omega
      obtain ⟨g, off, x, rfl, c0, hx⟩ := (hR.keep hB).int (k := k) hkt
      obtain ⟨g', off', y, rfl, e0, hy⟩ := (hS.keep hB).int (k := k) hkt
      obtain rfl := same_at hx hy
      clear hx hy hR hS
      go_wp2_with fail
      go_roundw
      case rel => exact ⟨k + 1, by omega, by go_num, hB⟩
      case measure => simp [intOf]; omega
    · have hkl : ¬ (k : Int) < (l.length : Int) := by omega
      go_wp2
      go_ret
      exact ⟨rfl, hB⟩
end Go.Proofs.YtpofijdkckaphaaGreatDoor
/- law28: all functions of the program return what the reference returns. -/
namespace Go.Proofs.YtpofijdkckaphaaGreatDoor
open Go.RowKit
set_option maxRecDepth 100000 in
set_option maxHeartbeats 4000000 in
theorem same28_walk (R Q : List IL) (a b : Option Addr) (c d : Nat) (w : World) (hR : RdL w a R) (hQ : RdL w b Q) (he : R.map IL.lst = Q.map IL.lst) (hRl : R.length ≤ 1000) (hRx : ∀ x ∈ R, x.lst.length ≤ 1000) :
    Calls Tryz.prog 42 #[.slice a R.length c, .slice b Q.length d] w fun e w' => e = .returned (.bool true) ∧ Below w.heap.size w w' := by
  have hlen : Q.length = R.length := by have := congrArg List.length he; simpa using this.symm
  have hne : ((R.length : Int) != (Q.length : Int)) = false := by rw [bne_eq_false_iff_eq]; omega
  have HE := Lib.hid he
  have HRX := Lib.hid hRx
  have HLen := Lib.hid hlen
  clear he hRx hlen
  go_enter Tryz.func42, Tryz.ntmps42
  go_wp2_with fail
  go_loopw [5] (fun i wr => ∃ k : Nat, k ≤ R.length ∧ i = .int .i64 (k : Int) ∧ Below w.heap.size w wr) (fun i _ => R.length - (intOf i).toNat)
  case atStart => exact ⟨0, Nat.zero_le _, rfl, Below.refl _ _⟩
  case round =>
    obtain ⟨k, hk, rfl, hb⟩ := hrel
    by_cases hkt : k < R.length
    · have hkl : (k : Int) < (R.length : Int) := by omega
      have hkq : (k : Int) < (Q.length : Int) := by have := HLen.out; omega
      have hwk : IntKind.i64.wrap ((k : Int) + 1) = (k : Int) + 1 := by rw [IntKind.wrap_i64] <;> omega
      obtain ⟨ga, oa, x, rfl, cx, hx, hxr⟩ := (hR.keep hb).at hkt
      obtain ⟨gb, ob, y, rfl, cy, hy, hyr⟩ := (hQ.keep hb).at (k := k) (by have := HLen.out; omega)
      have hxy : x.lst = y.lst := by
        have h1 : (R.map IL.lst)[k]? = some x.lst := by rw [List.getElem?_map, hx.out]; rfl
        have h2 : (Q.map IL.lst)[k]? = some y.lst := by rw [List.getElem?_map, hy.out]; rfl
        rw [HE.out, h2] at h1
        exact (Option.some.inj h1).symm
      have hxl := HRX.out x (mem_at hx)
      obtain ⟨yad, ycap, ylst⟩ := y
      dsimp only at hxy cy hyr
      subst hxy
      have KS := Lib.hid (fun V (hV : Below wr.heap.size wr V) => lsame_eq x.ad x.lst x.cap yad ycap V (hxr.keep hV) (hyr.keep hV) (by omega))
      have HB := Lib.hid hb
      clear hx hy hxr hyr hb
      go_upto_region 6 with fail
      have u1 := fun d os => cell_regrown cx d os
      have u2 := fun d os => cell_regrown cy d os
      refine wp_region_quiet_below (by kernel_rfl) (by kernel_rfl) ?_
      repeat (go_big_quiet_step (first
        | (go_at_call 19; with_reducible exact Calls.regrown_of (KS.out _ (below_regrown _ _ _)))))
      refine wpQuiet_nil ?_
      rintro w7 ⟨p2, hw7⟩
      have hq := show Below wr.heap.size wr w7 by first | (rw [hw7]; exact below_regrown wr p2.d p2.os) | (rw [← hw7]; exact below_regrown wr p2.d p2.os)
      clear hw7
      have HQ := Lib.hid (below_tr HB.out hq)
      clear u1 u2 cx cy hq
      go_wp2_with fail
      go_roundw
      case rel => exact ⟨k + 1, by omega, by go_num, HQ.out⟩
      case measure => simp [intOf]; omega
    · have hkl : ¬ (k : Int) < (R.length : Int) := by omega
      go_wp2
      go_ret
      exact ⟨rfl, hb⟩
set_option maxRecDepth 100000 in
set_option maxHeartbeats 8000000 in
theorem agree28_walk (l : List Seat) (a : Option Addr) (c : Nat) (A : List Int) (sa : Option Addr) (sc : Nat) (R : List IL) (ra : Option Addr) (rc : Nat) (s : Int) (w : World) (hS : RdS w a l) (hA : Rd w sa (ints A)) (hR : RdL w ra R) (hl : l.length ≤ 32) (hAl : A.length ≤ 1000) (hRl : R.length ≤ 100) (hRx : ∀ x ∈ R, x.lst.length ≤ 1000) (hSpc : Spc w) :
    Calls Tryz.prog 20 #[.slice a l.length c, .slice sa A.length sc, .slice ra R.length rc, .int .i64 s] w fun e w' => e = .returned (.bool true) ∧ Below w.heap.size w w' := by
  have hs32 := setP_len (opS l) (holdS wiF l) l.length
  have hq32 := rounds_bound (opS l) (holdS wiF l) l.length
  have K1 := Lib.hid (fun V (hV : Below w.heap.size w V) => gset_walk l a c V (hS.keep hV) hl)
  have K2 := Lib.hid (fun V (hV : Below w.heap.size w V) => rset_walk l a c V (hS.keep hV) hl (hSpc.keep hV))
  have K3 := Lib.hid (fun V (hV : Below w.heap.size w V) => grounds_walk l a c V (hS.keep hV) hl)
  have K4 := Lib.hid (fun V (hV : Below w.heap.size w V) => rrounds_walk l a c V (hS.keep hV) hl (hSpc.keep hV))
  have K5 := Lib.hid (fun V (hV : Below w.heap.size w V) => opens_walk l a c A sa sc V (hS.keep hV) (hA.keep hV) hl hAl)
  have K6 := Lib.hid (fun V (hV : Below w.heap.size w V) => ropens_walk l a c A sa sc V (hS.keep hV) (hA.keep hV) hl hAl (hSpc.keep hV))
  have K7 := Lib.hid (fun V (hV : Below w.heap.size w V) => check_walk l a c A sa sc R ra rc V (hS.keep hV) (hA.keep hV) (hR.keep hV) hl hAl hRl hRx)
  have K8 := Lib.hid (fun V (hV : Below w.heap.size w V) => rcheck_walk l a c A sa sc R ra rc V (hS.keep hV) (hA.keep hV) (hR.keep hV) hl hAl hRl hRx (hSpc.keep hV))
  have K9 := Lib.hid (fun V (hV : Below w.heap.size w V) => round_walk l a c s V (hS.keep hV) hl)
  have K10 := Lib.hid (fun V (hV : Below w.heap.size w V) => rround_walk l a c s V (hS.keep hV) hl (hSpc.keep hV))
  have K11 := Lib.hid (fun V (hV : Below w.heap.size w V) => needs_walk l a c A sa sc s V (hS.keep hV) (hA.keep hV) hl hAl)
  have K12 := Lib.hid (fun V (hV : Below w.heap.size w V) => rneeds_walk l a c A sa sc s V (hS.keep hV) (hA.keep hV) hl hAl (hSpc.keep hV))
  have hn : (needsP (holdS wiF l) l.length A s).length ≤ 1000 := by
    unfold needsP
    split
    · exact Nat.le_trans (List.length_filter_le _ _) hAl
    · simp
  clear hS hA hR hSpc hRx
  generalize needsP (holdS wiF l) l.length A s = NN at *
  generalize roundP (roundsP (opS l) (holdS wiF l) l.length) s = RP at *
  generalize checkP (opS l) (holdS wiF l) l.length A (R.map IL.lst) = CP at *
  generalize opensP (opS l) (holdS wiF l) l.length A = OP at *
  generalize roundsP (opS l) (holdS wiF l) l.length = QQ at *
  generalize setP (opS l) (holdS wiF l) l.length = S1 at *
  have b1 : (OP == OP) = true := by cases OP <;> rfl
  have b2 : (CP == CP) = true := beq_self_eq_true _
  have b3 : (RP == RP) = true := beq_self_eq_true _
  obtain ⟨hql, hqx⟩ := hq32
  have HQX := Lib.hid hqx
  clear hqx
  go_enter Tryz.func20, Tryz.ntmps20
  go_upto_region 5 with (first
    | (go_at_call 11; (with_reducible refine (K1.out _ (Below.refl _ _)).mono ?_); (first | rintro e w1 ⟨a1, c1, rfl, hR1, hb1⟩ | rintro e w1 a1 c1 rfl hR1 hb1))
    | (go_at_call 21; (with_reducible refine (K2.out _ hb1).mono ?_); (first | rintro e w2 ⟨a2, c2, rfl, hO2, hb2⟩ | rintro e w2 a2 c2 rfl hO2 hb2))
    | (go_at_call 26; (with_reducible refine (K3.out _ (below_tr hb1 hb2)).mono ?_); (first | rintro e w3 ⟨a3, c3, R3, rfl, hR3, he3, hb3⟩ | rintro e w3 a3 c3 R3 rfl hR3 he3 hb3))
    | (go_at_call 22; (with_reducible refine (K4.out _ (below_tr (below_tr hb1 hb2) hb3)).mono ?_); (first | rintro e w4 ⟨a4, c4, R4, rfl, hR4, he4, hb4⟩ | rintro e w4 a4 c4 R4 rfl hR4 he4 hb4)))
  have hB4 := below_tr (below_tr (below_tr hb1 hb2) hb3) hb4
  have KS := Lib.hid (lsame_eq a1 S1 c1 a2 c2 w4 (((hR1.keep hb2).keep hb3).keep hb4) ((hO2.rd.keep hb3).keep hb4) (by omega))
  obtain ⟨h3l, h3x⟩ := rd_bound he3 ⟨hql, HQX.out⟩
  have KSS := Lib.hid (fun V (hV : Below w4.heap.size w4 V) => same28_walk R3 R4 a3 a4 c3 c4 V ((hR3.keep hb4).keep hV) (hR4.keep hV) (he3.trans he4.symm) (by omega) (fun x hx => by have := h3x x hx; omega))
  have HB4 := Lib.hid hB4
  clear K1 K2 K3 K4 hb1 hb2 hb3 hb4 hR1 hO2 hR3 hR4 he3 he4 h3l h3x hB4
  go_wp2_with (first
    | (go_at_call 19; (with_reducible refine KS.out.mono ?_); (first | rintro e u1 ⟨rfl, hc1⟩ | rintro e u1 rfl hc1))
    | (go_at_call 42; (with_reducible refine (KSS.out _ hc1).mono ?_); (first | rintro e u2 ⟨rfl, hc2⟩ | rintro e u2 rfl hc2); have hd2 := below_tr (below_tr HB4.out hc1) hc2)
    | (go_at_call 12; (with_reducible refine (K5.out _ hd2).mono ?_); (first | rintro e u3 ⟨rfl, hc3⟩ | rintro e u3 rfl hc3); have hd3 := below_tr hd2 hc3)
    | (go_at_call 43; (with_reducible refine (K6.out _ hd3).mono ?_); (first | rintro e u4 ⟨rfl, hc4⟩ | rintro e u4 rfl hc4); have hd4 := below_tr hd3 hc4)
    | (go_at_call 18; (with_reducible refine (K7.out _ hd4).mono ?_); (first | rintro e u5 ⟨rfl, hc5⟩ | rintro e u5 rfl hc5); have hd5 := below_tr hd4 hc5)
    | (go_at_call 44; (with_reducible refine (K8.out _ hd5).mono ?_); (first | rintro e u6 ⟨rfl, hc6⟩ | rintro e u6 rfl hc6); have hd6 := below_tr hd5 hc6)
    | (go_at_call 27; (with_reducible refine (K9.out _ hd6).mono ?_); (first | rintro e u7 ⟨rfl, hc7⟩ | rintro e u7 rfl hc7); have hd7 := below_tr hd6 hc7)
    | (go_at_call 45; (with_reducible refine (K10.out _ hd7).mono ?_); (first | rintro e u8 ⟨rfl, hc8⟩ | rintro e u8 rfl hc8); have hd8 := below_tr hd7 hc8)
    | (go_at_call 28; (with_reducible refine (K11.out _ hd8).mono ?_); (first | rintro e u9 ⟨a9, c9, rfl, hR9, hc9⟩ | rintro e u9 a9 c9 rfl hR9 hc9); have hd9 := below_tr hd8 hc9)
    | (go_at_call 46; (with_reducible refine (K12.out _ hd9).mono ?_); (first | rintro e v1 ⟨a10, c10, rfl, hR10, hc10⟩ | rintro e v1 a10 c10 rfl hR10 hc10); have hd10 := below_tr hd9 hc10; have KS2 := Lib.hid (lsame_eq a9 NN c9 a10 c10 v1 (hR9.keep hc10) hR10 (by omega)))
    | (go_at_call 19; (with_reducible refine KS2.out.mono ?_); (first | rintro e v2 ⟨rfl, hc11⟩ | rintro e v2 rfl hc11)))
  go_ret
  exact ⟨rfl, below_tr hd10 hc11⟩
end Go.Proofs.YtpofijdkckaphaaGreatDoor
