/- Remainders as the program takes them: plain. No program in sight. -/
import Derived.Test.YtpofijdkckaphaaGreatDoorBase
import Derived.RegionTactic
import Derived.BigRegion
namespace Go.Proofs.YtpofijdkckaphaaGreatDoor
open Go.RowKit
theorem dmod_bd (n m : Int) (h1 : 1 ≤ m) : -m < n.tmod m ∧ n.tmod m < m := by
  by_cases h : 0 ≤ n
  · rw [Int.tmod_eq_emod_of_nonneg h]
    have := Int.emod_nonneg n (show m ≠ 0 by omega)
    have := Int.emod_lt_of_pos n (show 0 < m by omega)
    omega
  · rw [show n = -(-n) by omega, Int.neg_tmod, Int.tmod_eq_emod_of_nonneg (by omega)]
    have := Int.emod_nonneg (-n) (show m ≠ 0 by omega)
    have := Int.emod_lt_of_pos (-n) (show 0 < m by omega)
    omega
theorem dmod_eq (n m : Int) (h1 : 1 ≤ m) (h2 : m ≤ 4611686018427387904) : (wrap64 (n.tmod m + m)).tmod m = n % m := by
  obtain ⟨a, b⟩ := dmod_bd n m h1
  rw [IntWalk.wrap64_in _ ⟨by omega, by omega⟩, Int.tmod_eq_emod_of_nonneg (by omega), Int.add_emod_right]
  conv => rhs; rw [← Int.mul_tdiv_add_tmod n m]
  rw [Int.add_comm, Int.add_mul_emod_self_left]
end Go.Proofs.YtpofijdkckaphaaGreatDoor
/- The kit's dice: what a call of Next turns and gives. -/
namespace Go.Proofs.YtpofijdkckaphaaGreatDoor
open Go.RowKit
/-- dice at block d: the numbers l (read from p), of which the first k are given out -/
def Dice (w : World) (d : Nat) (p : Option Addr) (l : List Int) (cap : Nat) (k : Nat) : Prop :=
  w.heap[d]? = some (.cells #[.slice p l.length cap, .int .i64 (k : Int)] 61 (0, 0)) ∧ k ≤ l.length
/-- the number that Next n gives -/
def dnum (l : List Int) (k : Nat) (n : Int) : Int := if k < l.length then l.getD k 0 % n else 0
/-- how many are given out behind it -/
def dnxt (l : List Int) (k : Nat) : Nat := if k < l.length then k + 1 else k
theorem Dice.lt {w : World} {d : Nat} {p : Option Addr} {l : List Int} {cap k : Nat} (h : Dice w d p l cap k) : d < w.heap.size := (Array.getElem?_eq_some_iff.1 h.1).1
theorem Dice.c0 {w : World} {d : Nat} {p : Option Addr} {l : List Int} {cap k : Nat} (h : Dice w d p l cap k) : w.cell? ⟨d, 0, none⟩ = some (.slice p l.length cap) := by rw [Lib.cell_of_heap h.1]; rfl
theorem Dice.c1 {w : World} {d : Nat} {p : Option Addr} {l : List Int} {cap k : Nat} (h : Dice w d p l cap k) : w.cell? ⟨d, 1, none⟩ = some (.int .i64 (k : Int)) := by rw [Lib.cell_of_heap h.1]; rfl
theorem Dice.free {w : World} {d : Nat} {p : Option Addr} {l : List Int} {cap k : Nat} (h : Dice w d p l cap k) (j : Nat) : w.frozen? ⟨d, j, none⟩ = false := Lib.frozen_of_heap h.1 j
theorem Dice.keep {w w' : World} {d : Nat} {p : Option Addr} {l : List Int} {cap k : Nat} (h : Dice w d p l cap k) (hb : Below w.heap.size w w') : Dice w' d p l cap k := ⟨(hb.block d h.lt).trans h.1, h.2⟩
theorem Dice.grown {w w' : World} {d : Nat} {p : Option Addr} {l : List Int} {cap k : Nat} {row : Option Nat} (h : Dice w d p l cap k) (hg : w.grownBy w' row) (hne : some d ≠ row) : Dice w' d p l cap k := ⟨(hg.block d h.lt hne).trans h.1, h.2⟩
theorem Dice.set {w : World} {d : Nat} {p : Option Addr} {l : List Int} {cap k : Nat} (h : Dice w d p l cap k) (j : Nat) (hj : j ≤ l.length) : Dice (w.setCell ⟨d, 1, none⟩ (.int .i64 (j : Int))) d p l cap j := by
  refine ⟨?_, hj⟩
  have := h.1
  simp [World.setCell, Array.getElem?_modify, this]
theorem dnum_lo (l : List Int) (k : Nat) {n : Int} (h : 1 ≤ n) : 0 ≤ dnum l k n := by
  unfold dnum; split
  · exact Int.emod_nonneg _ (by omega)
  · omega
theorem dnum_hi (l : List Int) (k : Nat) {n : Int} (h : 1 ≤ n) : dnum l k n < n := by
  unfold dnum; split
  · exact Int.emod_lt_of_pos _ (by omega)
  · omega
set_option maxRecDepth 100000 in
theorem dmod_walk (n m : Int) (w : World) (hm : 1 ≤ m) (hm2 : m ≤ 4611686018427387904) :
    Calls Tryz.prog 38 #[.int .i64 n, .int .i64 m] w fun e w' => e = .returned (.int .i64 (n % m)) ∧ w = w' := by
  go_enter Tryz.func38, Tryz.ntmps38
  go_wp2
  go_ret
  exact ⟨ret_int (dmod_eq n m hm hm2), rfl⟩
set_option maxRecDepth 100000 in
theorem light_walk (p : Option Addr) (l : List Int) (cap : Nat) (w : World) (hl : l.length ≤ 281474976710656) :
    Calls Tryz.prog 7 #[.slice p l.length cap] w fun e w' => e = .returned (.bool (decide (l.length ≤ 500))) ∧ w = w' := by
  go_enter Tryz.func7, Tryz.ntmps7
  go_wp2
  go_ret
  exact ⟨by congr 2; simp; omega, rfl⟩
set_option maxRecDepth 100000 in
theorem roll_walk (p : Option Addr) (l : List Int) (cap : Nat) (w : World) :
    Calls Tryz.prog 9 #[.slice p l.length cap] w fun e w' => e = .returned (.pointer (some ⟨w.heap.size, 0, none⟩)) ∧ Dice w' w.heap.size p l cap 0 ∧ Below w.heap.size w w' := by
  go_enter Tryz.func9, Tryz.ntmps9
  go_wp2
  go_ret
  exact ⟨rfl, ⟨heap_alloc_new w _, Nat.zero_le _⟩, (Below.refl _ _).alloc (Nat.le_refl _) _⟩
theorem dstill {P : Program} {f : FuncId} {args : Array Value} {w : World} {c n : Nat} {v : Value} (h : Calls P f args (w.drewN (c + n)) fun e w' => e = .returned v ∧ w.drewN (c + n) = w') :
    Calls P f args (w.drewN (c + n)) fun e w'' => e = .returned v ∧ ∃ m, w'' = w.drewN (c + m) :=
  h.mono fun _ _ ⟨a, b⟩ => ⟨a, n, b.symm⟩
set_option maxRecDepth 100000 in
theorem next_walk (d : Nat) (p : Option Addr) (l : List Int) (cap k : Nat) (n : Int) (w : World) (hD : Dice w d p l cap k) (hR : Rd w p (ints l)) (hne : 0 < l.length → ∀ g off, p = some ⟨g, off, none⟩ → g ≠ d) (hlen : l.length ≤ 281474976710656) (hn : 1 ≤ n) (hn2 : n ≤ 4611686018427387904) :
    Calls Tryz.prog 17 #[.pointer (some ⟨d, 0, none⟩), .int .i64 n] w fun e w' => e = .returned (.int .i64 (dnum l k n)) ∧ (Dice w' d p l cap (dnxt l k) ∧ w.grownBy w' (some d)) := by
  have c0 := hD.c0
  have c1 := hD.c1
  have f1 := hD.free 1
  have hk := hD.2
  go_enter Tryz.func17, Tryz.ntmps17
  by_cases hkl : k < l.length
  · obtain ⟨g, off, x, rfl, hcell, hx⟩ := hR.int hkl
    have hgd := hne (by omega) g off rfl
    have hnl : ¬ (l.length ≤ k) := by omega
    have hnx : l.getD k 0 = x := by rw [List.getD, hx.out]; rfl
    go_wp2
    go_region
    go_wp2
    go_quiet (first | (go_at_call 38; with_reducible exact dstill (dmod_walk _ _ _ hn hn2)))
    go_wp2
    go_ret
    refine ⟨ret_int (by rw [dnum, if_pos hkl, hnx]), ?_, ?_⟩
    · rw [dnxt, if_pos hkl]
      exact hD.set (k + 1) hkl
    · exact ⟨rfl, rfl, rfl, by simp, fun j _ hj => heap_setCell_other w ⟨d, 1, none⟩ j _ (fun e => hj (by simp [e]))⟩
  · have hnl : ((l.length : Int) ≤ (k : Int)) := by omega
    go_wp2
    go_region
    go_wp2
    go_ret
    refine ⟨ret_int (by rw [dnum, if_neg hkl]), ?_, ?_⟩
    · rw [dnxt, if_neg hkl]; exact hD
    · exact ⟨rfl, rfl, rfl, Nat.le_refl _, fun _ _ _ => rfl⟩
/-- what is read lies in another block than dice made later -/
theorem rd_ne {w : World} {p : Option Addr} {l : List Int} (h : Rd w p (ints l)) {d : Nat} (hd : w.heap.size ≤ d) : 0 < l.length → ∀ g off, p = some ⟨g, off, none⟩ → g ≠ d := fun h0 g off hp => by
  obtain ⟨g', off', x, he, hc, _⟩ := h.int h0
  rw [hp] at he
  simp only [Option.some.injEq, Addr.mk.injEq, and_true] at he
  obtain ⟨rfl, rfl⟩ := he
  have := World.block_lt_of_cell? w _ hc
  simp at this
  omega
end Go.Proofs.YtpofijdkckaphaaGreatDoor
/- The dice beside what lay before: what a law's walk keeps. -/
namespace Go.Proofs.YtpofijdkckaphaaGreatDoor
open Go.RowKit
/-- the dice, what they give out of, and that what lay before is as it was -/
structure Env (W w : World) (db : Nat) (p : Option Addr) (l : List Int) (cap k : Nat) : Prop where
  dice : Dice w db p l cap k
  rd : Rd w p (ints l)
  below : Below W.heap.size W w
theorem Env.keep {W w w' : World} {db : Nat} {p : Option Addr} {l : List Int} {cap k : Nat} (h : Env W w db p l cap k) (hb : Below w.heap.size w w') : Env W w' db p l cap k :=
  ⟨h.dice.keep hb, h.rd.keep hb, h.below.trans (hb.mono h.below.size)⟩
theorem Env.alloc {W w : World} {db : Nat} {p : Option Addr} {l : List Int} {cap k : Nat} (h : Env W w db p l cap k) (o : Obj) : Env W (w.alloc o) db p l cap k :=
  h.keep ((Below.refl _ _).alloc (Nat.le_refl _) _)
theorem Env.grown {W w w' : World} {db : Nat} {p : Option Addr} {l : List Int} {cap k k' : Nat} (h : Env W w db p l cap k) (hne : 0 < l.length → ∀ g off, p = some ⟨g, off, none⟩ → g ≠ db) (hdb : W.heap.size ≤ db)
    (hD : Dice w' db p l cap k') (hg : w.grownBy w' (some db)) : Env W w' db p l cap k' := by
  refine ⟨hD, ?_, h.below.grown hg h.below.size (by intro j hj; simp at hj; omega)⟩
  by_cases h0 : 0 < l.length
  · exact h.rd.grown hg (by intro g off hp; have := hne h0 g off hp; simp; omega)
  · have : l = [] := List.eq_nil_of_length_eq_zero (by omega)
    subst this
    exact Rd.nil _ _
theorem Env.set {W w : World} {db : Nat} {p : Option Addr} {l : List Int} {cap k : Nat} (h : Env W w db p l cap k) (g o : Nat) (v : Value) (hg : g ≠ db) (hg2 : W.heap.size ≤ g) (hne : 0 < l.length → ∀ g' off, p = some ⟨g', off, none⟩ → g' ≠ g) : Env W (w.setCell ⟨g, o, none⟩ v) db p l cap k := by
  have hgr : w.grownBy (w.setCell ⟨g, o, none⟩ v) (some g) := ⟨rfl, rfl, rfl, by simp, fun k _ hk => heap_setCell_other w ⟨g, o, none⟩ k v (fun e => hk (by simp [e]))⟩
  refine ⟨h.dice.grown hgr (by simp; omega), ?_, h.below.setCell (p := ⟨g, o, none⟩) hg2 v⟩
  by_cases h0 : 0 < l.length
  · exact h.rd.grown hgr (by intro g' off hp; have := hne h0 g' off hp; simp; omega)
  · have : l = [] := List.eq_nil_of_length_eq_zero (by omega)
    subst this
    exact Rd.nil _ _
theorem Env.row {W w w' : World} {db : Nat} {p : Option Addr} {l : List Int} {cap k : Nat} (h : Env W w db p l cap k) {row : Option Nat} (hg : w.grownBy w' row) (hr : ∀ j, row = some j → db < j) (hdb : W.heap.size ≤ db) (hR : Rd W p (ints l)) : Env W w' db p l cap k := by
  refine ⟨h.dice.grown hg (fun e => by have := hr _ e.symm; omega), ?_, h.below.grown hg h.below.size (fun j hj => by have := hr j hj; omega)⟩
  by_cases h0 : 0 < l.length
  · refine h.rd.grown hg (fun g off hp e => ?_)
    have := hr _ e.symm
    exact rd_ne hR (show W.heap.size ≤ g by omega) h0 g off hp rfl
  · have : l = [] := List.eq_nil_of_length_eq_zero (by omega)
    subst this
    exact Rd.nil _ _
end Go.Proofs.YtpofijdkckaphaaGreatDoor
/- The play's choice: one of some numbers. -/
namespace Go.Proofs.YtpofijdkckaphaaGreatDoor
open Go.RowKit
/-- the number that Of gives -/
def ofF (l : List Int) (k : Nat) (xs : List Int) : Int := xs.getD (dnum l k (xs.length : Int)).toNat 0
theorem ofF_mem (l : List Int) (k : Nat) (xs : List Int) (h : 1 ≤ xs.length) : ofF l k xs ∈ xs := by
  have h1 := dnum_lo l k (n := (xs.length : Int)) (by omega)
  have h2 := dnum_hi l k (n := (xs.length : Int)) (by omega)
  rw [ofF, List.getD, List.getElem?_eq_getElem (show (dnum l k (xs.length : Int)).toNat < xs.length by omega)]
  exact List.getElem_mem _
set_option maxRecDepth 100000 in
theorem of_walk (d : Nat) (p : Option Addr) (l : List Int) (cap k : Nat) (g : Nat) (xs : List Int) (xc : Nat) (w : World) (hD : Dice w d p l cap k) (hR : Rd w p (ints l)) (hne : 0 < l.length → ∀ g off, p = some ⟨g, off, none⟩ → g ≠ d) (hlen : l.length ≤ 281474976710656)
    (hX : Rd w (some ⟨g, 0, none⟩) (ints xs)) (hgd : g ≠ d) (hx1 : 1 ≤ xs.length) (hx2 : xs.length ≤ 1000) :
    Calls Tryz.prog 70 #[.pointer (some ⟨d, 0, none⟩), .slice (some ⟨g, 0, none⟩) xs.length xc] w fun e w' => e = .returned (.int .i64 (ofF l k xs)) ∧ (Dice w' d p l cap (dnxt l k) ∧ w.grownBy w' (some d)) := by
  obtain ⟨n, hn⟩ : ∃ n, n = xs.length := ⟨_, rfl⟩
  have hof : ofF l k xs = xs.getD (dnum l k (n : Int)).toNat 0 := by rw [ofF, hn]
  have HOF := Lib.hid hof
  have HN := Lib.hid hn
  rw [← hn]
  rw [← hn] at hx1 hx2
  clear hof hn
  go_enter Tryz.func70, Tryz.ntmps70
  go_wp2_with (go_at_call 17; (with_reducible refine (next_walk d p l cap k (n : Int) _ hD hR hne hlen (by omega) (by omega)).mono ?_))
  rintro e w1 ⟨rfl, hD1, hg1⟩
  have h1 := dnum_lo l k (n := (n : Int)) (by omega)
  have h2 := dnum_hi l k (n := (n : Int)) (by omega)
  obtain ⟨j, hj⟩ : ∃ j : Nat, dnum l k (n : Int) = (j : Int) := ⟨(dnum l k (n : Int)).toNat, by omega⟩
  have hof := HOF.out
  rw [hj, Int.toNat_natCast] at hof
  rw [hj] at h1 h2 ⊢
  have hjn : j < n := by omega
  obtain ⟨g', off, x, he, hcell, hx⟩ := (hX.grown hg1 (by intro g' off h; simp at h ⊢; omega)).int (k := j) (by rw [← HN.out]; exact hjn)
  simp only [Option.some.injEq, Addr.mk.injEq, and_true] at he
  obtain ⟨rfl, rfl⟩ := he
  rw [Nat.zero_add] at hcell
  have hox : ofF l k xs = x := by rw [hof, List.getD, hx.out]; rfl
  have HO := Lib.hid hox
  clear hof hox hj HOF hx
  go_wp2
  go_ret
  exact ⟨ret_int HO.out.symm, hD1, hg1⟩
end Go.Proofs.YtpofijdkckaphaaGreatDoor
/- The dice's words. -/
namespace Go.Proofs.YtpofijdkckaphaaGreatDoor
open Go.RowKit
/-- the string that Word gives -/
def wordF (l : List Int) (k : Nat) (xs : List (List UInt8)) : List UInt8 := xs.getD (dnum l k (xs.length : Int)).toNat []
theorem wordF_mem (l : List Int) (k : Nat) (xs : List (List UInt8)) (h : 1 ≤ xs.length) : wordF l k xs ∈ xs := by
  have h1 := dnum_lo l k (n := (xs.length : Int)) (by omega)
  have h2 := dnum_hi l k (n := (xs.length : Int)) (by omega)
  rw [wordF, List.getD, List.getElem?_eq_getElem (show (dnum l k (xs.length : Int)).toNat < xs.length by omega)]
  exact List.getElem_mem _
set_option maxRecDepth 100000 in
theorem dword_walk (d : Nat) (p : Option Addr) (l : List Int) (cap k : Nat) (g : Nat) (xs : List (List UInt8)) (xc : Nat) (w : World) (hD : Dice w d p l cap k) (hR : Rd w p (ints l)) (hne : 0 < l.length → ∀ g off, p = some ⟨g, off, none⟩ → g ≠ d) (hlen : l.length ≤ 281474976710656)
    (hX : Rd w (some ⟨g, 0, none⟩) (strs xs)) (hgd : g ≠ d) (hx1 : 1 ≤ xs.length) (hx2 : xs.length ≤ 1000) :
    Calls Tryz.prog 31 #[.pointer (some ⟨d, 0, none⟩), .slice (some ⟨g, 0, none⟩) xs.length xc] w fun e w' => e = .returned (.string ⟨(wordF l k xs).toArray⟩) ∧ (Dice w' d p l cap (dnxt l k) ∧ w.grownBy w' (some d)) := by
  obtain ⟨n, hn⟩ : ∃ n, n = xs.length := ⟨_, rfl⟩
  have hof : wordF l k xs = xs.getD (dnum l k (n : Int)).toNat [] := by rw [wordF, hn]
  have HOF := Lib.hid hof
  have HN := Lib.hid hn
  rw [← hn]
  rw [← hn] at hx1 hx2
  clear hof hn
  go_enter Tryz.func31, Tryz.ntmps31
  go_wp2_with (go_at_call 17; (with_reducible refine (next_walk d p l cap k (n : Int) _ hD hR hne hlen (by omega) (by omega)).mono ?_))
  rintro e w1 ⟨rfl, hD1, hg1⟩
  have h1 := dnum_lo l k (n := (n : Int)) (by omega)
  have h2 := dnum_hi l k (n := (n : Int)) (by omega)
  obtain ⟨j, hj⟩ : ∃ j : Nat, dnum l k (n : Int) = (j : Int) := ⟨(dnum l k (n : Int)).toNat, by omega⟩
  have hof := HOF.out
  rw [hj, Int.toNat_natCast] at hof
  rw [hj] at h1 h2 ⊢
  have hjn : j < n := by omega
  obtain ⟨g', off, x, he, hcell, hx⟩ := (hX.grown hg1 (by intro g' off h; simp at h ⊢; omega)).str (k := j) (by rw [← HN.out]; exact hjn)
  simp only [Option.some.injEq, Addr.mk.injEq, and_true] at he
  obtain ⟨rfl, rfl⟩ := he
  rw [Nat.zero_add] at hcell
  have hox : wordF l k xs = x := by rw [hof, List.getD, hx.out]; rfl
  have HO := Lib.hid hox
  clear hof hox hj HOF hx
  go_wp2
  go_ret
  exact ⟨ret_str HO.out.symm, hD1, hg1⟩
end Go.Proofs.YtpofijdkckaphaaGreatDoor
