/- Seats: numbers sorted (slices.Sort), compared (slices.Equal); the program's parted. -/
import Derived.Test.YtpofijdkckaphaaGreatDoorGGreQ
import Derived.Test.YtpofijdkckaphaaGreatDoorShelf
namespace Go.Proofs.YtpofijdkckaphaaGreatDoor
open Go.RowKit Go.Sort
theorem sortI_perm (l : List Int) : (sortI l).Perm l := List.mergeSort_perm _ _
theorem sortI_len (l : List Int) : (sortI l).length = l.length := (sortI_perm l).length_eq
theorem getI (l : List Int) (j : Nat) (h : j < l.length) : (l.toArray)[j]! = l[j] := by simp [h]
theorem isort_walk (base : Nat) (l : List Int) (a : Option Addr) (cap : Nat) (w : World) (hO : Ow w base 1 a l.length cap (ints l)) (hl : l.length ≤ 1000000) :
    Calls Tryz.prog 61 #[.slice a l.length cap] w fun e w' => e = .returned (.tuple #[]) ∧ (Ow w' base 1 a l.length cap (ints (sortI l)) ∧ w.grownBy w' (rowOf a)) := by
  cases a with
  | none =>
    have h0 : l = [] := by
      cases l with
      | nil => rfl
      | cons x l =>
        obtain ⟨g, off, y, h, -, -⟩ := hO.rd.int (k := 0) (by simp)
        cases h
    subst h0
    refine (Tryz.slices_Sort_int_none none cap w).mono ?_
    rintro e w' ⟨rfl, rfl⟩
    exact ⟨rfl, by simpa [sortI] using hO, World.grownBy.refl _ _⟩
  | some p =>
    obtain ⟨hl0, hc, hm, ⟨h1, _⟩ | ⟨g, off, ha, hb, hgs, hx, hf⟩⟩ := hO
    · cases h1
    · cases ha
      have hH : Holds (Value.int .i64) w g off l.toArray := fun j hj => by
        have hj' : j < l.length := by simpa using hj
        refine ⟨?_, (hf j (by omega)).2⟩
        rw [getI l j hj']
        exact hx j _ (by simp [ints, hj'])
      refine (Tryz.slices_Sort_int g off cap l w hH hgs (by omega)).mono ?_
      rintro e w' ⟨rfl, n, os, rfl⟩
      have hsz : (l.mergeSort fun x y => decide (x ≤ y)).toArray.size = l.toArray.size := by simp
      have hH2 := holds_putRow (Value.int .i64) (Sort.ahead w n) g off l.toArray (l.mergeSort fun x y => decide (x ≤ y)).toArray (holds_ahead _ w n g off _ hH) hsz
      have hgs2 : g < (putRow (Value.int .i64) (Sort.ahead w n) g off (l.mergeSort fun x y => decide (x ≤ y)).toArray).heap.size := by rw [size_putRow]; exact hgs
      have hfz : ∀ k, (grow (putRow (Value.int .i64) (Sort.ahead w n) g off (l.mergeSort fun x y => decide (x ≤ y)).toArray) os).frozen? ⟨g, k, none⟩ = w.frozen? ⟨g, k, none⟩ := fun k => by
        rw [World.frozen?_of_block (w := putRow (Value.int .i64) (Sort.ahead w n) g off (l.mergeSort fun x y => decide (x ≤ y)).toArray) (heap_grow_old _ _ hgs2), frozen?_putRow]
        rfl
      have hcl : ∀ k, (grow (putRow (Value.int .i64) (Sort.ahead w n) g off (l.mergeSort fun x y => decide (x ≤ y)).toArray) os).cell? ⟨g, k, none⟩ = (putRow (Value.int .i64) (Sort.ahead w n) g off (l.mergeSort fun x y => decide (x ≤ y)).toArray).cell? ⟨g, k, none⟩ := fun k => cell?_grow _ _ _ hgs2
      have hsl := sortI_len l
      refine ⟨rfl, ⟨by rw [ints_length, hsl]; omega, hc, hm, .inr ⟨g, off, rfl, hb, by rw [size_grow]; omega, fun j u hj => ?_, fun j hj => ?_⟩⟩, rfl, rfl, rfl, ?_, fun k hk hne => ?_⟩
      · have hjl : j < (sortI l).length := by
          have := (List.getElem?_eq_some_iff.1 hj).1
          rwa [ints_length] at this
        rw [hcl, (hH2 j (by rw [hsz]; simpa using hsl ▸ hjl)).1]
        have h2 : (ints (sortI l))[j]? = some (.int .i64 (sortI l)[j]) := by simp [ints, hjl]
        rw [h2] at hj
        rw [← hj]
        congr 2
        exact getI (sortI l) j hjl
      · rw [hfz, hcl]
        refine ⟨?_, (hf j hj).2⟩
        by_cases hjl : j < l.length
        · rw [(hH2 j (by rw [hsz]; simpa using hjl)).1]; rfl
        · rw [cell?_putRow_other _ _ _ _ _ _ (Or.inr (Or.inr (by rw [hsz]; simp; omega)))]
          exact (hf j hj).1
      · rw [size_grow, size_putRow]; exact Nat.le_add_right _ _
      · rw [heap_grow_old _ _ (by rw [size_putRow]; exact hk)]
        simp only [putRow, mapBlock, Sort.ahead, Array.getElem?_modify]
        rw [if_neg (fun e => hne (by rw [e]; rfl))]
theorem take_ne {A B : List Int} {k : Nat} {x y : Int} (hx : A[k]? = some x) (hy : B[k]? = some y) (h : x ≠ y) : decide (A = B) = false := decide_eq_false (fun e => by
  rw [e, hy] at hx
  exact h (Option.some.inj hx).symm)
set_option maxRecDepth 100000 in
set_option maxHeartbeats 2000000 in
theorem iequal_walk (A B : List Int) (sa sb : Option Addr) (ac bc : Nat) (w : World) (hA : Rd w sa (ints A)) (hB : Rd w sb (ints B)) (hAl : A.length ≤ 1000000) :
    Calls Tryz.prog 62 #[.slice sa A.length ac, .slice sb B.length bc] w fun e w' => e = .returned (.bool (decide (A = B))) ∧ Below w.heap.size w w' := by
  by_cases hn : A.length = B.length
  rotate_left
  · have d1 : ((A.length : Int) != (B.length : Int)) = true := by rw [bne_iff_ne]; omega
    have d2 : decide (A = B) = false := decide_eq_false (fun e => hn (by rw [e]))
    rw [d2]
    clear hA hB
    go_enter Tryz.func62, Tryz.ntmps62
    go_wp2
    go_ret
    exact ⟨rfl, Below.refl _ _⟩
  have d1 : ((A.length : Int) != (B.length : Int)) = false := by rw [bne_eq_false_iff_eq]; omega
  have HN := Lib.hid hn
  clear hn
  go_enter Tryz.func62, Tryz.ntmps62
  go_wp2
  go_loopw [13] (fun i wr => ∃ k : Nat, k ≤ A.length ∧ i = .int .i64 (k : Int) ∧ Hid (A.take k = B.take k) ∧ Below w.heap.size w wr) (fun i _ => A.length - (intOf i).toNat)
  case atStart => exact ⟨0, Nat.zero_le _, rfl, Lib.hid rfl, Below.refl _ _⟩
  case round =>
    obtain ⟨k, hk, rfl, hT, hb⟩ := hrel
    by_cases hkt : k < A.length
    · have hkl : (k : Int) < (A.length : Int) := by omega
      obtain ⟨ga, offa, x, rfl, ca, hx⟩ := (hA.keep hb).int (k := k) hkt
      obtain ⟨gb, offb, y, rfl, cb, hy⟩ := (hB.keep hb).int (k := k) (by have := HN.out; omega)
      have hkb : (k : Int) < (B.length : Int) := by have := HN.out; omega
      by_cases hxy : x = y
      · have HT : Hid (A.take (k + 1) = B.take (k + 1)) := Lib.hid (by rw [take_at hx, take_at hy, hT.out, hxy])
        have d2 : (x != y) = false := by rw [bne_eq_false_iff_eq]; exact hxy
        have HB := Lib.hid hb
        clear hx hy hxy hT hb
        go_wp2
        go_region
        all_goals (go_wp2; go_roundw)
        case rel => exact ⟨k + 1, by omega, by go_num, HT, HB.out.drew⟩
        case measure => simp [intOf]; omega
      · have HF := Lib.hid (take_ne hx.out hy.out hxy)
        have d2 : (x != y) = true := by rw [bne_iff_ne]; exact hxy
        have HB := Lib.hid hb
        clear hx hy hxy hT hb
        go_wp2
        go_region
        all_goals (go_wp2; go_ret)
        exact ⟨by rw [HF.out]; rfl, HB.out.drew⟩
    · have hkl : ¬ (k : Int) < (A.length : Int) := by omega
      obtain rfl : k = A.length := by omega
      have HT : Hid (decide (A = B) = true) := Lib.hid (decide_eq_true (by
        have := hT.out
        rw [List.take_length] at this
        rw [this, HN.out, List.take_length]))
      clear hT
      go_wp2
      go_ret
      exact ⟨by rw [HT.out]; rfl, hb⟩
end Go.Proofs.YtpofijdkckaphaaGreatDoor
/- Seats: the program's parted. -/
namespace Go.Proofs.YtpofijdkckaphaaGreatDoor
open Go.RowKit
/-- a round as it may be -/
def rdP (n : Nat) (r : List Int) : Bool := !r.isEmpty && riseP n r
theorem all_take_step {f : List Int → Bool} {R : List IL} {k : Nat} {x : IL} (hx : R[k]? = some x) (h : ((R.take k).map IL.lst).all f = true) (hf : f x.lst = true) : ((R.take (k + 1)).map IL.lst).all f = true := by
  rw [List.take_add_one, hx, List.map_append, List.all_append, h]
  show (true && (List.map IL.lst [x]).all f) = true
  simp [hf]
theorem all_take_no {f : List Int → Bool} {R : List IL} {k : Nat} {x : IL} (hx : R[k]? = some x) (hf : f x.lst = false) : (R.map IL.lst).all f = false := by
  rw [Bool.eq_false_iff]
  intro h
  have := List.all_eq_true.1 h x.lst (List.mem_map_of_mem (List.mem_of_getElem? hx))
  rw [hf] at this; cases this
theorem flat_take {R : List IL} {k : Nat} {x : IL} (hx : R[k]? = some x) : ((R.take (k + 1)).map IL.lst).flatten = ((R.take k).map IL.lst).flatten ++ x.lst := by
  rw [List.take_add_one, hx, List.map_append, List.flatten_append]
  show _ ++ (List.map IL.lst [x]).flatten = _
  simp
theorem ints_app (A B : List Int) : ints (A ++ B) = ints A ++ ints B := by simp [ints]
theorem ints_one (l : List Int) : ∀ v ∈ ints l, v.oneCell' = true := fun v hv => by
  obtain ⟨x, -, rfl⟩ := List.mem_map.1 hv
  rfl
set_option maxRecDepth 100000 in
set_option maxHeartbeats 2000000 in
theorem parted_walk (l : List Seat) (a : Option Addr) (c : Nat) (A : List Int) (sa : Option Addr) (sc : Nat) (R : List IL) (ra : Option Addr) (rc : Nat) (w : World) (hA : Rd w sa (ints A)) (hR : RdL w ra R) (hl : l.length ≤ 32) (hAl : A.length ≤ 1000) (hRl : R.length ≤ 100) (hRx : ∀ x ∈ R, x.lst.length ≤ 1000) :
    Calls Tryz.prog 39 #[.slice a l.length c, .slice sa A.length sc, .slice ra R.length rc] w fun e w' => e = .returned (.bool (partsP l.length A (R.map IL.lst))) ∧ Below w.heap.size w w' := by
  have e1 : IntKind.i64.wrap ((l.length : Int) - 1) = (l.length : Int) - 1 := by rw [IntKind.wrap_i64] <;> omega
  have KR := Lib.hid (rising_walk l.length ((l.length : Int) - 1) sa A sc w rfl hA (by omega))
  rw [parts_sort]
  cases hr : riseP l.length A with
  | false =>
    rw [hr] at KR
    clear hR hA
    go_enter Tryz.func39, Tryz.ntmps39
    go_wp2_with (go_at_call 34; (with_reducible refine KR.out.mono ?_); rintro e w1 ⟨rfl, rfl⟩)
    go_ret
    exact ⟨rfl, Below.refl _ _⟩
  | true =>
    rw [hr] at KR
    have K1 := Lib.hid (iclone_walk sa A sc w hA (by omega))
    have KRI := Lib.hid (fun (B : List Int) (b : Option Addr) (bc : Nat) (V : World) (hB : Rd V b (ints B)) (hBl : B.length ≤ 1000) => rising_walk l.length ((l.length : Int) - 1) b B bc V rfl hB (by omega))
    have KA := Lib.hid (fun V => all_walk l a c V (by omega))
    have hAn : A.length ≤ 32 := Nat.le_trans (rise_len hr) hl
    have HR := Lib.hid hR
    have HRX := Lib.hid hRx
    have HLL := Lib.hid hl
    clear hA hr hl hR hRx
    have hpost : Hid (∀ b, ((R.map IL.lst).all (rdP l.length) && decide (sortI (A ++ (R.map IL.lst).flatten) = upI l.length)) = b → (true && (((R.map IL.lst).all fun r => !r.isEmpty && riseP l.length r) && decide (sortI (A ++ (R.map IL.lst).flatten) = upI l.length))) = b) := Lib.hid (fun b h => by rw [Bool.true_and]; exact h)
    generalize (true && (((R.map IL.lst).all fun r => !r.isEmpty && riseP l.length r) && decide (sortI (A ++ (R.map IL.lst).flatten) = upI l.length))) = RES at *
    go_enter Tryz.func39, Tryz.ntmps39
    go_wp2_with (first
      | (go_at_call 34; (with_reducible refine KR.out.mono ?_); rintro e w1 ⟨rfl, rfl⟩)
      | (go_at_call 53; (with_reducible refine K1.out.mono ?_); (first | rintro e w2 ⟨a2, c2, rfl, hO2, hb2⟩ | rintro e w2 a2 c2 rfl hO2 hb2)))
    go_loopw [7, 20] (fun s i wr => ∃ (k m : Nat) (L : List Int) (a1 : Option Addr) (c1 : Nat), k ≤ R.length ∧ i = .int .i64 (k : Int) ∧ s = .slice a1 m c1 ∧ m ≤ 32 + 32 * k ∧ Hid (L.length = m) ∧ Hid (L = A ++ ((R.take k).map IL.lst).flatten) ∧ Hid (((R.take k).map IL.lst).all (rdP l.length) = true) ∧ Ow wr w.heap.size 1 a1 m c1 (ints L) ∧ Below w.heap.size w wr) (fun _ i _ => R.length - (intOf i).toNat)
    case atStart => exact ⟨0, A.length, A, a2, c2, Nat.zero_le _, rfl, rfl, by omega, Lib.hid rfl, Lib.hid (by simp), Lib.hid rfl, hO2, hb2⟩
    case round =>
      clear hO2 hb2 K1 KR
      obtain ⟨k, m, L, a1, c1, hk, rfl, rfl, hm, hLm, hL, hall, hO, hB⟩ := hrel
      by_cases hkt : k < R.length
      · have hkl : (k : Int) < (R.length : Int) := by omega
        obtain ⟨gr, orr, x, rfl, cx, hx, hxr⟩ := (HR.out.keep hB).at hkt
        have hxl := HRX.out x (mem_at hx)
        have KX := Lib.hid (KRI.out x.lst x.ad x.cap wr hxr hxl)
        by_cases hx0 : x.lst = []
        · have d1 : ((x.lst.length : Int) == 0) = true := by rw [hx0]; rfl
          have HF := Lib.hid (hpost.out false (by rw [all_take_no hx.out (show rdP l.length x.lst = false by rw [hx0]; rfl)]; rfl))
          have HB := Lib.hid hB
          clear hx hx0 hxr hO hB hL hall
          go_wp2
          go_ret
          exact ⟨by rw [HF.out]; rfl, HB.out⟩
        have hpos : 0 < x.lst.length := List.length_pos_iff.2 hx0
        have d1 : ((x.lst.length : Int) == 0) = false := by rw [beq_eq_false_iff_ne]; omega
        cases hrx : riseP l.length x.lst with
        | false =>
          rw [hrx] at KX
          have HF := Lib.hid (hpost.out false (by rw [all_take_no hx.out (show rdP l.length x.lst = false by unfold rdP; rw [hrx, Bool.and_false])]; rfl))
          have HB := Lib.hid hB
          clear hx hx0 hxr hO hB hL hall hrx
          go_wp2_with (go_at_call 34; (with_reducible refine KX.out.mono ?_); rintro e w1 ⟨rfl, rfl⟩)
          go_ret
          exact ⟨by rw [HF.out]; rfl, HB.out⟩
        | true =>
          rw [hrx] at KX
          have hxn : x.lst.length ≤ 32 := Nat.le_trans (rise_len hrx) HLL.out
          have HA2 := Lib.hid (all_take_step hx.out hall.out (show rdP l.length x.lst = true by
            unfold rdP
            rw [hrx, Bool.and_true, List.isEmpty_eq_false_iff.2 hx0]; rfl))
          have HF2 : Hid (L ++ x.lst = A ++ ((R.take (k + 1)).map IL.lst).flatten) := Lib.hid (by rw [flat_take hx.out, ← List.append_assoc, ← hL.out])
          have HLM : Hid ((L ++ x.lst).length = m + x.lst.length) := Lib.hid (by rw [List.length_append, hLm.out])
          have hrl : (ints x.lst).length = x.lst.length * 1 := by rw [ints_length, Nat.mul_one]
          have hS := Src.slice (P := Tryz.prog) Tryz.underlying22 (c := x.cap) hrl hxr (ints_one x.lst)
          have hsz := hB.size
          clear hx hx0 hxr hL hall hrx hrl
          go_wp2_with (first
            | (go_at_call 34; (with_reducible refine KX.out.mono ?_); rintro e w1 ⟨rfl, rfl⟩)
            | (at_builtin; refine wpList_apps (w0 := w) (B := w.heap.size) (base := w.heap.size) rfl _ _ _ _ rfl el_int rfl hO hB (Nat.le_refl _) hsz rfl hS (by omega) ?_; intro a5 c5 w8 hO5 hb5 hg5; clear hg5))
          rw [← ints_app] at hO5
          clear hO hB hS
          go_roundw
          case rel => exact ⟨k + 1, m + x.lst.length, L ++ x.lst, a5, c5, by omega, by go_num, rfl, by omega, HLM, HF2, HA2, hO5, hb5⟩
          case measure => simp [intOf]; omega
      · have hkl : ¬ (k : Int) < (R.length : Int) := by omega
        obtain rfl : k = R.length := by omega
        have hLm' := hLm.out
        subst hLm'
        have hl := HLL.out
        have hrow := hO.row
        have KS := Lib.hid (isort_walk w.heap.size L a1 c1 wr hO (by omega))
        have KE := Lib.hid (fun V (b : Option Addr) (bc : Nat) (h1 : Rd V a1 (ints (sortI L))) (h2 : Rd V b (ints (upI l.length))) => iequal_walk (sortI L) (upI l.length) a1 b c1 bc V h1 h2 (by rw [sortI_len]; omega))
        rw [sortI_len, upI_len] at KE
        have HRES := Lib.hid (hpost.out (decide (sortI L = upI l.length)) (by
          have h1 := hall.out
          have h2 := hL.out
          rw [List.take_length] at h1 h2
          rw [h1, ← h2]; rfl))
        have HB := Lib.hid hB
        generalize decide (sortI L = upI l.length) = DD at *
        clear hO hB hL hall hpost
        go_wp2_with (first
          | (go_at_call 61; (with_reducible refine KS.out.mono ?_); (first | rintro e w3 ⟨rfl, hO3, hg3⟩ | rintro e w3 rfl hO3 hg3); have hb3 : Below w.heap.size w w3 := HB.out.grown hg3 HB.out.size (fun j hj => (hrow j hj).1))
          | (go_at_call 40; (with_reducible refine (KA.out _).mono ?_); (first | rintro e w4 ⟨a4, c4, rfl, hO4, hb4⟩ | rintro e w4 a4 c4 rfl hO4 hb4))
          | (go_at_call 62; (with_reducible refine (KE.out _ _ _ (hO3.rd.keep hb4) hO4.rd).mono ?_); (first | rintro e w5 ⟨rfl, hb5⟩ | rintro e w5 rfl hb5)))
        go_ret
        exact ⟨by rw [HRES.out]; rfl, below_tr (below_tr hb3 hb4) hb5⟩
end Go.Proofs.YtpofijdkckaphaaGreatDoor
