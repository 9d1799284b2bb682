/- Seats: the program's Check. -/
import Derived.Test.YtpofijdkckaphaaGreatDoorGGreT
namespace Go.Proofs.YtpofijdkckaphaaGreatDoor
open Go.RowKit
def checkP (op : Int → Bool) (H : List Int → Int → Bool) (n : Nat) (A : List Int) (R : List (List Int)) : Int := if partsP n A R = true then (if (stepsP op H (upI n) R && opensP op H n A) = true then 0 else 49) else 48
theorem steps_no {op : Int → Bool} {H : List Int → Int → Bool} {R : List IL} {k : Nat} {x : IL} (hx : R[k]? = some x) : ∀ (L : List Int), (x.lst.all fun i => !(op i || H (endP L ((R.take k).map IL.lst)) i)) = false → stepsP op H L (R.map IL.lst) = false := by
  induction R generalizing k with
  | nil => simp at hx
  | cons y R ih =>
    intro L h
    cases k with
    | zero =>
      have hx' : y = x := Option.some.inj hx
      subst hx'
      show ((y.lst.all fun i => !(op i || H L i)) && _) = false
      have h' : (y.lst.all fun i => !(op i || H L i)) = false := h
      rw [h', Bool.false_and]
    | succ k =>
      show (_ && stepsP op H (lessP L y.lst) (R.map IL.lst)) = false
      rw [ih (k := k) hx (lessP L y.lst) h, Bool.and_false]
theorem all_at_no {f : Int → Bool} {l : List Int} {j : Nat} {x : Int} (hx : l[j]? = some x) (hf : f x = false) : l.all f = false := by
  rw [Bool.eq_false_iff]
  intro h
  have := List.all_eq_true.1 h x (List.mem_of_getElem? hx)
  rw [hf] at this; cases this
theorem all_at_step {f : Int → Bool} {l : List Int} {j : Nat} {x : Int} (hx : Hid (l[j]? = some x)) (h : (l.take j).all f = true) (hf : f x = true) : (l.take (j + 1)).all f = true := by
  rw [take_at hx, List.all_append, h]; simp [hf]
/-- what is left ahead of round k -/
structure Lf (op : Int → Bool) (H : List Int → Int → Bool) (n : Nat) (R : List IL) (k : Nat) (L : List Int) : Prop where
  e : L = endP (upI n) ((R.take k).map IL.lst)
  s : stepsP op H (upI n) ((R.take k).map IL.lst) = true
  i : ∀ x ∈ L, x ∈ upI n
  n : L.length ≤ n
theorem Lf.first (op : Int → Bool) (H : List Int → Int → Bool) (n : Nat) (R : List IL) : Lf op H n R 0 (upI n) := ⟨rfl, rfl, fun _ h => h, by rw [upI_len]; exact Nat.le_refl _⟩
theorem Lf.next {op : Int → Bool} {H : List Int → Int → Bool} {n : Nat} {R : List IL} {k : Nat} {L : List Int} (h : Lf op H n R k L) {x : IL} (hx : R[k]? = some x) (ha : (x.lst.all fun i => !(op i || H L i)) = true) : Lf op H n R (k + 1) (lessP L x.lst) := by
  have ht : ((R.take (k + 1)).map IL.lst) = (R.take k).map IL.lst ++ [x.lst] := by rw [List.take_add_one, hx, List.map_append]; rfl
  have hle : (lessP L x.lst).length ≤ L.length := less_sub.length_le
  refine ⟨by rw [ht, end_snoc, ← h.e], by rw [ht, steps_snoc, h.s, ← h.e, ha]; rfl, fun y hy => h.i y (less_sub.subset hy), by have := h.n; omega⟩
theorem parts_each {n : Nat} {A : List Int} {R : List IL} (h : partsP n A (R.map IL.lst) = true) : ∀ x ∈ R, riseP n x.lst = true := fun x hx => by
  unfold partsP at h
  rw [Bool.and_eq_true, Bool.and_eq_true] at h
  have := List.all_eq_true.1 h.2.1 x.lst (List.mem_map_of_mem hx)
  rw [Bool.and_eq_true] at this
  exact this.2
set_option maxRecDepth 100000 in
set_option maxHeartbeats 4000000 in
theorem check_walk (l : List Seat) (a : Option Addr) (c : Nat) (A : List Int) (sa : Option Addr) (sc : Nat) (R : List IL) (ra : Option Addr) (rc : Nat) (w : World) (hS : RdS w a l) (hA : Rd w sa (ints A)) (hR : RdL w ra R) (hl : l.length ≤ 32) (hAl : A.length ≤ 1000) (hRl : R.length ≤ 100) (hRx : ∀ x ∈ R, x.lst.length ≤ 1000) :
    Calls Tryz.prog 18 #[.slice a l.length c, .slice sa A.length sc, .slice ra R.length rc] w fun e w' => e = .returned (.int .i64 (checkP (opS l) (holdS wiF l) l.length A (R.map IL.lst))) ∧ Below w.heap.size w w' := by
  have hl2 : decide ((l.length : Int) > 32) = false := decide_eq_false (by omega)
  have hl3 : ¬ (32 < l.length) := by omega
  have KP := Lib.hid (parted_walk l a c A sa sc R ra rc w hA hR hl hAl hRl hRx)
  have hdef : checkP (opS l) (holdS wiF l) l.length A (R.map IL.lst) = (if partsP l.length A (R.map IL.lst) = true then (if (stepsP (opS l) (holdS wiF l) (upI l.length) (R.map IL.lst) && opensP (opS l) (holdS wiF l) l.length A) = true then 0 else 49) else 48) := rfl
  generalize checkP (opS l) (holdS wiF l) l.length A (R.map IL.lst) = RES at *
  cases hp : partsP l.length A (R.map IL.lst) with
  | false =>
    rw [hp] at KP
    have HRES : Hid (RES = 48) := Lib.hid (by rw [hdef, hp]; rfl)
    clear hS hA hR hdef hp
    go_enter Tryz.func18, Tryz.ntmps18
    go_wp2_with (go_at_call 39; (with_reducible refine KP.out.mono ?_); (first | rintro e w1 ⟨rfl, hb1⟩ | rintro e w1 rfl hb1))
    go_ret
    exact ⟨by rw [HRES.out]; rfl, hb1⟩
  | true =>
    rw [hp] at KP
    have HRES := Lib.hid (show RES = (if (stepsP (opS l) (holdS wiF l) (upI l.length) (R.map IL.lst) && opensP (opS l) (holdS wiF l) l.length A) = true then 0 else 49) by rw [hdef, hp, if_pos rfl])
    have HEA := Lib.hid (parts_each hp)
    have KA := Lib.hid (fun V => (show Calls Tryz.prog 40 #[.slice a l.length c] V fun e w' => ∃ a1 c1, e = .returned (.slice a1 (upI l.length).length c1) ∧ Ow w' V.heap.size 1 a1 l.length c1 (ints (upI l.length)) ∧ Below V.heap.size V w' by
      have := all_walk l a c V (by omega)
      rw [upI_len]
      exact this))
    have KO := Lib.hid (fun V (hb : Below w.heap.size w V) => opens_walk l a c A sa sc V (hS.keep hb) (hA.keep hb) hl hAl)
    have HS := Lib.hid hS
    have HR := Lib.hid hR
    have HLL := Lib.hid hl
    obtain ⟨U, hU⟩ : ∃ U, U = upI l.length := ⟨_, rfl⟩
    have HL0 := Lib.hid (Lf.first (opS l) (holdS wiF l) l.length R)
    rw [← hU] at KA HL0
    clear hS hA hR hdef hp hl hRx hU
    go_enter Tryz.func18, Tryz.ntmps18
    go_wp2_with (first
      | (go_at_call 39; (with_reducible refine KP.out.mono ?_); (first | rintro e w1 ⟨rfl, hb1⟩ | rintro e w1 rfl hb1))
      | (go_at_call 40; (with_reducible refine (KA.out _).mono ?_); (first | rintro e w2 ⟨a2, c2, rfl, hO2, hb2⟩ | rintro e w2 a2 c2 rfl hO2 hb2)))
    go_loopw [7, 26] (fun s i wr => ∃ (k : Nat) (L : List Int) (a1 : Option Addr) (c1 : Nat), k ≤ R.length ∧ i = .int .i64 (k : Int) ∧ s = .slice a1 L.length c1 ∧ Hid (Lf (opS l) (holdS wiF l) l.length R k L) ∧ Rd wr a1 (ints L) ∧ Below w.heap.size w wr) (fun _ i _ => R.length - (intOf i).toNat)
    case atStart => exact ⟨0, U, a2, c2, Nat.zero_le _, rfl, rfl, HL0, hO2.rd, below_tr hb1 hb2⟩
    case round =>
      clear hO2 hb1 hb2 KP KA HL0
      obtain ⟨k, L, a1, c1, hk, rfl, rfl, hLf, hRd, hB⟩ := hrel
      by_cases hkt : k < R.length
      · have hkl : (k : Int) < (R.length : Int) := by omega
        obtain ⟨gr, orr, x, rfl, cx, hx, hxr⟩ := (HR.out.keep hB).at hkt
        have hrx := HEA.out x (mem_at hx)
        have hxn : x.lst.length ≤ 32 := Nat.le_trans (rise_len hrx) HLL.out
        have HXM := Lib.hid (rise_mem hrx)
        have HX := Lib.hid hx.out
        have HXR := Lib.hid hxr
        have HRd := Lib.hid hRd
        have HLf := Lib.hid hLf.out
        have HBk := Lib.hid hB
        clear hx hxr hrx hRd hLf
        go_upto_region 10 with (fail)
        clear cx hB
        rename World => wo
        go_loopw [32] (fun j wr => ∃ m : Nat, m ≤ x.lst.length ∧ j = .int .i64 (m : Int) ∧ Hid (((x.lst.take m).all fun i => !(opS l i || holdS wiF l L i)) = true) ∧ Below wo.heap.size wo wr) (fun j _ => x.lst.length - (intOf j).toNat)
        case atStart => exact ⟨0, Nat.zero_le _, rfl, Lib.hid rfl, Below.refl _ _⟩
        case round =>
          obtain ⟨m, hm, rfl, hall, hB5⟩ := hrel
          have hLl : L.length ≤ 1000 := by have := HLf.out.n; have := HLL.out; omega
          by_cases hmt : m < x.lst.length
          · have hml : (m : Int) < (x.lst.length : Int) := by omega
            obtain ⟨gx, ox, i, hxa, ci, hi⟩ := (HXR.out.keep hB5).int (k := m) hmt
            have hiu := mem_upI.1 (HXM.out i (mem_at hi))
            obtain ⟨q, rfl⟩ : ∃ q : Nat, i = (q : Int) := ⟨i.toNat, by omega⟩
            have hql : q < l.length := by omega
            have hqi : (q : Int) < (l.length : Int) := by omega
            have hb5 := below_tr HBk.out hB5
            have hS5 := HS.out.keep hb5
            obtain ⟨gl, ol, z, hgl, hz, -, -, -, -, -, -, d6⟩ := hS5.seat hql
            have hop := opS_at hz.out
            have KH := Lib.hid (gholds_walk l a c L a1 c1 q wr hS5 (HRd.out.keep hB5) HLf.out.i hql hLl)
            have hstep : (!(opS l (q : Int) || holdS wiF l L (q : Int))) = !(z.opn || holdS wiF l L (q : Int)) := by rw [hop]
            have hno : (!(opS l (q : Int) || holdS wiF l L (q : Int))) = false → RES = 49 := fun h => by
              rw [HRES.out, steps_no HX.out (upI l.length) (by rw [← HLf.out.e]; exact all_at_no hi.out h)]; rfl
            have HB5 := Lib.hid hb5
            have hyes : (!(opS l (q : Int) || holdS wiF l L (q : Int))) = true → ((x.lst.take (m + 1)).all fun i => !(opS l i || holdS wiF l L i)) = true := fun h => all_at_step hi hall.out h
            rw [hstep] at hno hyes
            clear hi hz hop hS5 hall hstep hb5
            generalize hb0 : holdS wiF l L (q : Int) = hh at *
            generalize ho0 : z.opn = oo at *
            clear hb0 ho0
            generalize hxad : x.ad = xad at *
            subst hxa hgl
            cases oo with
            | true =>
              have HN := Lib.hid (hno rfl)
              clear hno hyes
              go_wp2
              go_ret
              exact ⟨by rw [HN.out]; rfl, HB5.out⟩
            | false =>
              cases hh with
              | true =>
                have HN := Lib.hid (hno rfl)
                clear hno hyes
                go_wp2_with (go_at_call 36; (with_reducible refine KH.out.mono ?_); (first | rintro e w6 ⟨rfl, hb6⟩ | rintro e w6 rfl hb6))
                go_ret
                exact ⟨by rw [HN.out]; rfl, below_tr HB5.out hb6⟩
              | false =>
                have HY := Lib.hid (hyes rfl)
                clear hno hyes
                go_wp2_with (go_at_call 36; (with_reducible refine KH.out.mono ?_); (first | rintro e w6 ⟨rfl, hb6⟩ | rintro e w6 rfl hb6))
                go_roundw
                case rel => exact ⟨m + 1, by omega, by go_num, HY, below_tr hB5 hb6⟩
                case measure => simp [intOf]; omega
          · have hml : ¬ (m : Int) < (x.lst.length : Int) := by omega
            obtain rfl : m = x.lst.length := by omega
            have HT : Hid ((x.lst.all fun i => !(opS l i || holdS wiF l L i)) = true) := Lib.hid (by have := hall.out; rwa [List.take_length] at this)
            have HLn := Lib.hid (HLf.out.next HX.out HT.out)
            have KL := Lib.hid (less_walk L x.lst a1 x.ad c1 x.cap wr (HRd.out.keep hB5) (HXR.out.keep hB5) hLl (by omega))
            have HB5 := Lib.hid (below_tr HBk.out hB5)
            clear hall hB5 HT
            go_wp2_with (go_at_call 41; (with_reducible refine KL.out.mono ?_); (first | rintro e w6 ⟨a6, c6, rfl, hR6, hb6, -⟩ | rintro e w6 a6 c6 rfl hR6 hb6 -))
            go_roundw
            case rel => exact ⟨k + 1, lessP L x.lst, a6, c6, by omega, by go_num, rfl, HLn, hR6, below_tr HB5.out hb6⟩
            case measure => simp [intOf]; omega
      · have hkl : ¬ (k : Int) < (R.length : Int) := by omega
        obtain rfl : k = R.length := by omega
        have hst := hLf.out.s
        rw [List.take_length] at hst
        have KOx := Lib.hid (KO.out wr hB)
        have HB := Lib.hid hB
        have hres := HRES.out
        rw [hst, Bool.true_and] at hres
        clear hRd hB hLf hst KO HRES
        cases ho : opensP (opS l) (holdS wiF l) l.length A with
        | true =>
          rw [ho] at KOx hres
          have HN := Lib.hid (show RES = 0 from hres)
          clear hres ho
          go_wp2_with (go_at_call 12; (with_reducible refine KOx.out.mono ?_); (first | rintro e w6 ⟨rfl, hb6⟩ | rintro e w6 rfl hb6))
          go_ret
          exact ⟨by rw [HN.out]; rfl, below_tr HB.out hb6⟩
        | false =>
          rw [ho] at KOx hres
          have HN := Lib.hid (show RES = 49 from hres)
          clear hres ho
          go_wp2_with (go_at_call 12; (with_reducible refine KOx.out.mono ?_); (first | rintro e w6 ⟨rfl, hb6⟩ | rintro e w6 rfl hb6))
          go_ret
          exact ⟨by rw [HN.out]; rfl, below_tr HB.out hb6⟩
end Go.Proofs.YtpofijdkckaphaaGreatDoor
