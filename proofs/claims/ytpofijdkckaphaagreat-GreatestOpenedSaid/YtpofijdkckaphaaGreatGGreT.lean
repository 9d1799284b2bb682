/- Seats: numbers sorted (slices.Sort), compared (slices.Equal); the program's parted. -/
import Derived.Test.YtpofijdkckaphaaGreatGGreQ
import Derived.Test.YtpofijdkckaphaaGreatShelf
namespace Go.Proofs.YtpofijdkckaphaaGreat
open Go.RowKit Go.Sort
theorem sortI_perm (l : List Int) : (sortI l).Perm l := List.mergeSort_perm _ _
theorem sortI_len (l : List Int) : (sortI l).length = l.length := (sortI_perm l).length_eq
theorem getI (l : List Int) (j : Nat) (h : j < l.length) : (l.toArray)[j]! = l[j] := by simp [h]
theorem isort_walk (base : Nat) (l : List Int) (a : Option Addr) (cap : Nat) (w : World) (hO : Ow w base 1 a l.length cap (ints l)) (hl : l.length ≤ 1000000) :
    Calls Tryz.prog 41 #[.slice a l.length cap] w fun e w' => e = .returned (.tuple #[]) ∧ (Ow w' base 1 a l.length cap (ints (sortI l)) ∧ w.grownBy w' (rowOf a)) := by
  cases a with
  | none =>
    have h0 : l = [] := by
      cases l with
      | nil => rfl
      | cons x l =>
        obtain ⟨g, off, y, h, -, -⟩ := hO.rd.int (k := 0) (by simp)
        cases h
    subst h0
    refine (Tryz.slices_Sort_int_none none cap w).mono ?_
    rintro e w' ⟨rfl, rfl⟩
    exact ⟨rfl, by simpa [sortI] using hO, World.grownBy.refl _ _⟩
  | some p =>
    obtain ⟨hl0, hc, hm, ⟨h1, _⟩ | ⟨g, off, ha, hb, hgs, hx, hf⟩⟩ := hO
    · cases h1
    · cases ha
      have hH : Holds (Value.int .i64) w g off l.toArray := fun j hj => by
        have hj' : j < l.length := by simpa using hj
        refine ⟨?_, (hf j (by omega)).2⟩
        rw [getI l j hj']
        exact hx j _ (by simp [ints, hj'])
      refine (Tryz.slices_Sort_int g off cap l w hH hgs (by omega)).mono ?_
      rintro e w' ⟨rfl, n, os, rfl⟩
      have hsz : (l.mergeSort fun x y => decide (x ≤ y)).toArray.size = l.toArray.size := by simp
      have hH2 := holds_putRow (Value.int .i64) (Sort.ahead w n) g off l.toArray (l.mergeSort fun x y => decide (x ≤ y)).toArray (holds_ahead _ w n g off _ hH) hsz
      have hgs2 : g < (putRow (Value.int .i64) (Sort.ahead w n) g off (l.mergeSort fun x y => decide (x ≤ y)).toArray).heap.size := by rw [size_putRow]; exact hgs
      have hfz : ∀ k, (grow (putRow (Value.int .i64) (Sort.ahead w n) g off (l.mergeSort fun x y => decide (x ≤ y)).toArray) os).frozen? ⟨g, k, none⟩ = w.frozen? ⟨g, k, none⟩ := fun k => by
        rw [World.frozen?_of_block (w := putRow (Value.int .i64) (Sort.ahead w n) g off (l.mergeSort fun x y => decide (x ≤ y)).toArray) (heap_grow_old _ _ hgs2), frozen?_putRow]
        rfl
      have hcl : ∀ k, (grow (putRow (Value.int .i64) (Sort.ahead w n) g off (l.mergeSort fun x y => decide (x ≤ y)).toArray) os).cell? ⟨g, k, none⟩ = (putRow (Value.int .i64) (Sort.ahead w n) g off (l.mergeSort fun x y => decide (x ≤ y)).toArray).cell? ⟨g, k, none⟩ := fun k => cell?_grow _ _ _ hgs2
      have hsl := sortI_len l
      refine ⟨rfl, ⟨by rw [ints_length, hsl]; omega, hc, hm, .inr ⟨g, off, rfl, hb, by rw [size_grow]; omega, fun j u hj => ?_, fun j hj => ?_⟩⟩, rfl, rfl, rfl, ?_, fun k hk hne => ?_⟩
      · have hjl : j < (sortI l).length := by
          have := (List.getElem?_eq_some_iff.1 hj).1
          rwa [ints_length] at this
        rw [hcl, (hH2 j (by rw [hsz]; simpa using hsl ▸ hjl)).1]
        have h2 : (ints (sortI l))[j]? = some (.int .i64 (sortI l)[j]) := by simp [ints, hjl]
        rw [h2] at hj
        rw [← hj]
        congr 2
        exact getI (sortI l) j hjl
      · rw [hfz, hcl]
        refine ⟨?_, (hf j hj).2⟩
        by_cases hjl : j < l.length
        · rw [(hH2 j (by rw [hsz]; simpa using hjl)).1]; rfl
        · rw [cell?_putRow_other _ _ _ _ _ _ (Or.inr (Or.inr (by rw [hsz]; simp; omega)))]
          exact (hf j hj).1
      · rw [size_grow, size_putRow]; exact Nat.le_add_right _ _
      · rw [heap_grow_old _ _ (by rw [size_putRow]; exact hk)]
        simp only [putRow, mapBlock, Sort.ahead, Array.getElem?_modify]
        rw [if_neg (fun e => hne (by rw [e]; rfl))]
theorem take_ne {A B : List Int} {k : Nat} {x y : Int} (hx : A[k]? = some x) (hy : B[k]? = some y) (h : x ≠ y) : decide (A = B) = false := decide_eq_false (fun e => by
  rw [e, hy] at hx
  exact h (Option.some.inj hx).symm)
set_option maxRecDepth 100000 in
set_option maxHeartbeats 2000000 in
theorem iequal_walk (A B : List Int) (sa sb : Option Addr) (ac bc : Nat) (w : World) (hA : Rd w sa (ints A)) (hB : Rd w sb (ints B)) (hAl : A.length ≤ 1000000) :
    Calls Tryz.prog 42 #[.slice sa A.length ac, .slice sb B.length bc] w fun e w' => e = .returned (.bool (decide (A = B))) ∧ Below w.heap.size w w' := by
  by_cases hn : A.length = B.length
  rotate_left
  · have d1 : ((A.length : Int) != (B.length : Int)) = true := by rw [bne_iff_ne]; omega
    have d2 : decide (A = B) = false := decide_eq_false (fun e => hn (by rw [e]))
    rw [d2]
    clear hA hB
    go_enter Tryz.func42, Tryz.ntmps42
    go_wp2
    go_ret
    exact ⟨rfl, Below.refl _ _⟩
  have d1 : ((A.length : Int) != (B.length : Int)) = false := by rw [bne_eq_false_iff_eq]; omega
  have HN := Lib.hid hn
  clear hn
  go_enter Tryz.func42, Tryz.ntmps42
  go_wp2
  go_loopw [13] (fun i wr => ∃ k : Nat, k ≤ A.length ∧ i = .int .i64 (k : Int) ∧ Hid (A.take k = B.take k) ∧ Below w.heap.size w wr) (fun i _ => A.length - (intOf i).toNat)
  case atStart => exact ⟨0, Nat.zero_le _, rfl, Lib.hid rfl, Below.refl _ _⟩
  case round =>
    obtain ⟨k, hk, rfl, hT, hb⟩ := hrel
    by_cases hkt : k < A.length
    · have hkl : (k : Int) < (A.length : Int) := by omega
      obtain ⟨ga, offa, x, rfl, ca, hx⟩ := (hA.keep hb).int (k := k) hkt
      obtain ⟨gb, offb, y, rfl, cb, hy⟩ := (hB.keep hb).int (k := k) (by have := HN.out; omega)
      have hkb : (k : Int) < (B.length : Int) := by have := HN.out; omega
      by_cases hxy : x = y
      · have HT : Hid (A.take (k + 1) = B.take (k + 1)) := Lib.hid (by rw [take_at hx, take_at hy, hT.out, hxy])
        have d2 : (x != y) = false := by rw [bne_eq_false_iff_eq]; exact hxy
        have HB := Lib.hid hb
        clear hx hy hxy hT hb
        go_wp2
        go_region
        all_goals (go_wp2; go_roundw)
        case rel => exact ⟨k + 1, by omega, by go_num, HT, HB.out.drew⟩
        case measure => simp [intOf]; omega
      · have HF := Lib.hid (take_ne hx.out hy.out hxy)
        have d2 : (x != y) = true := by rw [bne_iff_ne]; exact hxy
        have HB := Lib.hid hb
        clear hx hy hxy hT hb
        go_wp2
        go_region
        all_goals (go_wp2; go_ret)
        exact ⟨by rw [HF.out]; rfl, HB.out.drew⟩
    · have hkl : ¬ (k : Int) < (A.length : Int) := by omega
      obtain rfl : k = A.length := by omega
      have HT : Hid (decide (A = B) = true) := Lib.hid (decide_eq_true (by
        have := hT.out
        rw [List.take_length] at this
        rw [this, HN.out, List.take_length]))
      clear hT
      go_wp2
      go_ret
      exact ⟨by rw [HT.out]; rfl, hb⟩
end Go.Proofs.YtpofijdkckaphaaGreat
