/- Seats: the program's parted. -/
import Derived.Test.YtpofijdkckaphaaGreatGGreT
namespace Go.Proofs.YtpofijdkckaphaaGreat
open Go.RowKit
/-- a round as it may be -/
def rdP (n : Nat) (r : List Int) : Bool := !r.isEmpty && riseP n r
theorem all_take_step {f : List Int → Bool} {R : List IL} {k : Nat} {x : IL} (hx : R[k]? = some x) (h : ((R.take k).map IL.lst).all f = true) (hf : f x.lst = true) : ((R.take (k + 1)).map IL.lst).all f = true := by
  rw [List.take_add_one, hx, List.map_append, List.all_append, h]
  show (true && (List.map IL.lst [x]).all f) = true
  simp [hf]
theorem all_take_no {f : List Int → Bool} {R : List IL} {k : Nat} {x : IL} (hx : R[k]? = some x) (hf : f x.lst = false) : (R.map IL.lst).all f = false := by
  rw [Bool.eq_false_iff]
  intro h
  have := List.all_eq_true.1 h x.lst (List.mem_map_of_mem (List.mem_of_getElem? hx))
  rw [hf] at this; cases this
theorem flat_take {R : List IL} {k : Nat} {x : IL} (hx : R[k]? = some x) : ((R.take (k + 1)).map IL.lst).flatten = ((R.take k).map IL.lst).flatten ++ x.lst := by
  rw [List.take_add_one, hx, List.map_append, List.flatten_append]
  show _ ++ (List.map IL.lst [x]).flatten = _
  simp
theorem ints_app (A B : List Int) : ints (A ++ B) = ints A ++ ints B := by simp [ints]
theorem ints_one (l : List Int) : ∀ v ∈ ints l, v.oneCell' = true := fun v hv => by
  obtain ⟨x, -, rfl⟩ := List.mem_map.1 hv
  rfl
set_option maxRecDepth 100000 in
set_option maxHeartbeats 2000000 in
theorem parted_walk (l : List Seat) (a : Option Addr) (c : Nat) (A : List Int) (sa : Option Addr) (sc : Nat) (R : List IL) (ra : Option Addr) (rc : Nat) (w : World) (hA : Rd w sa (ints A)) (hR : RdL w ra R) (hl : l.length ≤ 32) (hAl : A.length ≤ 1000) (hRl : R.length ≤ 100) (hRx : ∀ x ∈ R, x.lst.length ≤ 1000) :
    Calls Tryz.prog 29 #[.slice a l.length c, .slice sa A.length sc, .slice ra R.length rc] w fun e w' => e = .returned (.bool (partsP l.length A (R.map IL.lst))) ∧ Below w.heap.size w w' := by
  have e1 : IntKind.i64.wrap ((l.length : Int) - 1) = (l.length : Int) - 1 := by rw [IntKind.wrap_i64] <;> omega
  have KR := Lib.hid (rising_walk l.length ((l.length : Int) - 1) sa A sc w rfl hA (by omega))
  rw [parts_sort]
  cases hr : riseP l.length A with
  | false =>
    rw [hr] at KR
    clear hR hA
    go_enter Tryz.func29, Tryz.ntmps29
    go_wp2_with (go_at_call 27; (with_reducible refine KR.out.mono ?_); rintro e w1 ⟨rfl, rfl⟩)
    go_ret
    exact ⟨rfl, Below.refl _ _⟩
  | true =>
    rw [hr] at KR
    have K1 := Lib.hid (iclone_walk sa A sc w hA (by omega))
    have KRI := Lib.hid (fun (B : List Int) (b : Option Addr) (bc : Nat) (V : World) (hB : Rd V b (ints B)) (hBl : B.length ≤ 1000) => rising_walk l.length ((l.length : Int) - 1) b B bc V rfl hB (by omega))
    have KA := Lib.hid (fun V => all_walk l a c V (by omega))
    have hAn : A.length ≤ 32 := Nat.le_trans (rise_len hr) hl
    have HR := Lib.hid hR
    have HRX := Lib.hid hRx
    have HLL := Lib.hid hl
    clear hA hr hl hR hRx
    have hpost : Hid (∀ b, ((R.map IL.lst).all (rdP l.length) && decide (sortI (A ++ (R.map IL.lst).flatten) = upI l.length)) = b → (true && (((R.map IL.lst).all fun r => !r.isEmpty && riseP l.length r) && decide (sortI (A ++ (R.map IL.lst).flatten) = upI l.length))) = b) := Lib.hid (fun b h => by rw [Bool.true_and]; exact h)
    generalize (true && (((R.map IL.lst).all fun r => !r.isEmpty && riseP l.length r) && decide (sortI (A ++ (R.map IL.lst).flatten) = upI l.length))) = RES at *
    go_enter Tryz.func29, Tryz.ntmps29
    go_wp2_with (first
      | (go_at_call 27; (with_reducible refine KR.out.mono ?_); rintro e w1 ⟨rfl, rfl⟩)
      | (go_at_call 33; (with_reducible refine K1.out.mono ?_); (first | rintro e w2 ⟨a2, c2, rfl, hO2, hb2⟩ | rintro e w2 a2 c2 rfl hO2 hb2)))
    go_loopw [7, 20] (fun s i wr => ∃ (k m : Nat) (L : List Int) (a1 : Option Addr) (c1 : Nat), k ≤ R.length ∧ i = .int .i64 (k : Int) ∧ s = .slice a1 m c1 ∧ m ≤ 32 + 32 * k ∧ Hid (L.length = m) ∧ Hid (L = A ++ ((R.take k).map IL.lst).flatten) ∧ Hid (((R.take k).map IL.lst).all (rdP l.length) = true) ∧ Ow wr w.heap.size 1 a1 m c1 (ints L) ∧ Below w.heap.size w wr) (fun _ i _ => R.length - (intOf i).toNat)
    case atStart => exact ⟨0, A.length, A, a2, c2, Nat.zero_le _, rfl, rfl, by omega, Lib.hid rfl, Lib.hid (by simp), Lib.hid rfl, hO2, hb2⟩
    case round =>
      clear hO2 hb2 K1 KR
      obtain ⟨k, m, L, a1, c1, hk, rfl, rfl, hm, hLm, hL, hall, hO, hB⟩ := hrel
      by_cases hkt : k < R.length
      · have hkl : (k : Int) < (R.length : Int) := by omega
        obtain ⟨gr, orr, x, rfl, cx, hx, hxr⟩ := (HR.out.keep hB).at hkt
        have hxl := HRX.out x (mem_at hx)
        have KX := Lib.hid (KRI.out x.lst x.ad x.cap wr hxr hxl)
        by_cases hx0 : x.lst = []
        · have d1 : ((x.lst.length : Int) == 0) = true := by rw [hx0]; rfl
          have HF := Lib.hid (hpost.out false (by rw [all_take_no hx.out (show rdP l.length x.lst = false by rw [hx0]; rfl)]; rfl))
          have HB := Lib.hid hB
          clear hx hx0 hxr hO hB hL hall
          go_wp2
          go_ret
          exact ⟨by rw [HF.out]; rfl, HB.out⟩
        have hpos : 0 < x.lst.length := List.length_pos_iff.2 hx0
        have d1 : ((x.lst.length : Int) == 0) = false := by rw [beq_eq_false_iff_ne]; omega
        cases hrx : riseP l.length x.lst with
        | false =>
          rw [hrx] at KX
          have HF := Lib.hid (hpost.out false (by rw [all_take_no hx.out (show rdP l.length x.lst = false by unfold rdP; rw [hrx, Bool.and_false])]; rfl))
          have HB := Lib.hid hB
          clear hx hx0 hxr hO hB hL hall hrx
          go_wp2_with (go_at_call 27; (with_reducible refine KX.out.mono ?_); rintro e w1 ⟨rfl, rfl⟩)
          go_ret
          exact ⟨by rw [HF.out]; rfl, HB.out⟩
        | true =>
          rw [hrx] at KX
          have hxn : x.lst.length ≤ 32 := Nat.le_trans (rise_len hrx) HLL.out
          have HA2 := Lib.hid (all_take_step hx.out hall.out (show rdP l.length x.lst = true by
            unfold rdP
            rw [hrx, Bool.and_true, List.isEmpty_eq_false_iff.2 hx0]; rfl))
          have HF2 : Hid (L ++ x.lst = A ++ ((R.take (k + 1)).map IL.lst).flatten) := Lib.hid (by rw [flat_take hx.out, ← List.append_assoc, ← hL.out])
          have HLM : Hid ((L ++ x.lst).length = m + x.lst.length) := Lib.hid (by rw [List.length_append, hLm.out])
          have hrl : (ints x.lst).length = x.lst.length * 1 := by rw [ints_length, Nat.mul_one]
          have hS := Src.slice (P := Tryz.prog) Tryz.underlying22 (c := x.cap) hrl hxr (ints_one x.lst)
          have hsz := hB.size
          clear hx hx0 hxr hL hall hrx hrl
          go_wp2_with (first
            | (go_at_call 27; (with_reducible refine KX.out.mono ?_); rintro e w1 ⟨rfl, rfl⟩)
            | (at_builtin; refine wpList_apps (w0 := w) (B := w.heap.size) (base := w.heap.size) rfl _ _ _ _ rfl el_int rfl hO hB (Nat.le_refl _) hsz rfl hS (by omega) ?_; intro a5 c5 w8 hO5 hb5 hg5; clear hg5))
          rw [← ints_app] at hO5
          clear hO hB hS
          go_roundw
          case rel => exact ⟨k + 1, m + x.lst.length, L ++ x.lst, a5, c5, by omega, by go_num, rfl, by omega, HLM, HF2, HA2, hO5, hb5⟩
          case measure => simp [intOf]; omega
      · have hkl : ¬ (k : Int) < (R.length : Int) := by omega
        obtain rfl : k = R.length := by omega
        have hLm' := hLm.out
        subst hLm'
        have hl := HLL.out
        have hrow := hO.row
        have KS := Lib.hid (isort_walk w.heap.size L a1 c1 wr hO (by omega))
        have KE := Lib.hid (fun V (b : Option Addr) (bc : Nat) (h1 : Rd V a1 (ints (sortI L))) (h2 : Rd V b (ints (upI l.length))) => iequal_walk (sortI L) (upI l.length) a1 b c1 bc V h1 h2 (by rw [sortI_len]; omega))
        rw [sortI_len, upI_len] at KE
        have HRES := Lib.hid (hpost.out (decide (sortI L = upI l.length)) (by
          have h1 := hall.out
          have h2 := hL.out
          rw [List.take_length] at h1 h2
          rw [h1, ← h2]; rfl))
        have HB := Lib.hid hB
        generalize decide (sortI L = upI l.length) = DD at *
        clear hO hB hL hall hpost
        go_wp2_with (first
          | (go_at_call 41; (with_reducible refine KS.out.mono ?_); (first | rintro e w3 ⟨rfl, hO3, hg3⟩ | rintro e w3 rfl hO3 hg3); have hb3 : Below w.heap.size w w3 := HB.out.grown hg3 HB.out.size (fun j hj => (hrow j hj).1))
          | (go_at_call 30; (with_reducible refine (KA.out _).mono ?_); (first | rintro e w4 ⟨a4, c4, rfl, hO4, hb4⟩ | rintro e w4 a4 c4 rfl hO4 hb4))
          | (go_at_call 42; (with_reducible refine (KE.out _ _ _ (hO3.rd.keep hb4) hO4.rd).mono ?_); (first | rintro e w5 ⟨rfl, hb5⟩ | rintro e w5 rfl hb5)))
        go_ret
        exact ⟨by rw [HRES.out]; rfl, below_tr (below_tr hb3 hb4) hb5⟩
end Go.Proofs.YtpofijdkckaphaaGreat
