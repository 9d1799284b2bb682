/- The dice beside what lay before: what a law's walk keeps. -/
import Derived.Test.YtpofijdkckaphaaGreatGMod
namespace Go.Proofs.YtpofijdkckaphaaGreat
open Go.RowKit
/-- the dice, what they give out of, and that what lay before is as it was -/
structure Env (W w : World) (db : Nat) (p : Option Addr) (l : List Int) (cap k : Nat) : Prop where
  dice : Dice w db p l cap k
  rd : Rd w p (ints l)
  below : Below W.heap.size W w
theorem Env.keep {W w w' : World} {db : Nat} {p : Option Addr} {l : List Int} {cap k : Nat} (h : Env W w db p l cap k) (hb : Below w.heap.size w w') : Env W w' db p l cap k :=
  ⟨h.dice.keep hb, h.rd.keep hb, h.below.trans (hb.mono h.below.size)⟩
theorem Env.alloc {W w : World} {db : Nat} {p : Option Addr} {l : List Int} {cap k : Nat} (h : Env W w db p l cap k) (o : Obj) : Env W (w.alloc o) db p l cap k :=
  h.keep ((Below.refl _ _).alloc (Nat.le_refl _) _)
theorem Env.grown {W w w' : World} {db : Nat} {p : Option Addr} {l : List Int} {cap k k' : Nat} (h : Env W w db p l cap k) (hne : 0 < l.length → ∀ g off, p = some ⟨g, off, none⟩ → g ≠ db) (hdb : W.heap.size ≤ db)
    (hD : Dice w' db p l cap k') (hg : w.grownBy w' (some db)) : Env W w' db p l cap k' := by
  refine ⟨hD, ?_, h.below.grown hg h.below.size (by intro j hj; simp at hj; omega)⟩
  by_cases h0 : 0 < l.length
  · exact h.rd.grown hg (by intro g off hp; have := hne h0 g off hp; simp; omega)
  · have : l = [] := List.eq_nil_of_length_eq_zero (by omega)
    subst this
    exact Rd.nil _ _
theorem Env.set {W w : World} {db : Nat} {p : Option Addr} {l : List Int} {cap k : Nat} (h : Env W w db p l cap k) (g o : Nat) (v : Value) (hg : g ≠ db) (hg2 : W.heap.size ≤ g) (hne : 0 < l.length → ∀ g' off, p = some ⟨g', off, none⟩ → g' ≠ g) : Env W (w.setCell ⟨g, o, none⟩ v) db p l cap k := by
  have hgr : w.grownBy (w.setCell ⟨g, o, none⟩ v) (some g) := ⟨rfl, rfl, rfl, by simp, fun k _ hk => heap_setCell_other w ⟨g, o, none⟩ k v (fun e => hk (by simp [e]))⟩
  refine ⟨h.dice.grown hgr (by simp; omega), ?_, h.below.setCell (p := ⟨g, o, none⟩) hg2 v⟩
  by_cases h0 : 0 < l.length
  · exact h.rd.grown hgr (by intro g' off hp; have := hne h0 g' off hp; simp; omega)
  · have : l = [] := List.eq_nil_of_length_eq_zero (by omega)
    subst this
    exact Rd.nil _ _
theorem Env.row {W w w' : World} {db : Nat} {p : Option Addr} {l : List Int} {cap k : Nat} (h : Env W w db p l cap k) {row : Option Nat} (hg : w.grownBy w' row) (hr : ∀ j, row = some j → db < j) (hdb : W.heap.size ≤ db) (hR : Rd W p (ints l)) : Env W w' db p l cap k := by
  refine ⟨h.dice.grown hg (fun e => by have := hr _ e.symm; omega), ?_, h.below.grown hg h.below.size (fun j hj => by have := hr j hj; omega)⟩
  by_cases h0 : 0 < l.length
  · refine h.rd.grown hg (fun g off hp e => ?_)
    have := hr _ e.symm
    exact rd_ne hR (show W.heap.size ≤ g by omega) h0 g off hp rfl
  · have : l = [] := List.eq_nil_of_length_eq_zero (by omega)
    subst this
    exact Rd.nil _ _
end Go.Proofs.YtpofijdkckaphaaGreat
/- The play's choice: one of some numbers. -/
namespace Go.Proofs.YtpofijdkckaphaaGreat
open Go.RowKit
/-- the number that Of gives -/
def ofF (l : List Int) (k : Nat) (xs : List Int) : Int := xs.getD (dnum l k (xs.length : Int)).toNat 0
theorem ofF_mem (l : List Int) (k : Nat) (xs : List Int) (h : 1 ≤ xs.length) : ofF l k xs ∈ xs := by
  have h1 := dnum_lo l k (n := (xs.length : Int)) (by omega)
  have h2 := dnum_hi l k (n := (xs.length : Int)) (by omega)
  rw [ofF, List.getD, List.getElem?_eq_getElem (show (dnum l k (xs.length : Int)).toNat < xs.length by omega)]
  exact List.getElem_mem _
set_option maxRecDepth 100000 in
theorem of_walk (d : Nat) (p : Option Addr) (l : List Int) (cap k : Nat) (g : Nat) (xs : List Int) (xc : Nat) (w : World) (hD : Dice w d p l cap k) (hR : Rd w p (ints l)) (hne : 0 < l.length → ∀ g off, p = some ⟨g, off, none⟩ → g ≠ d) (hlen : l.length ≤ 281474976710656)
    (hX : Rd w (some ⟨g, 0, none⟩) (ints xs)) (hgd : g ≠ d) (hx1 : 1 ≤ xs.length) (hx2 : xs.length ≤ 1000) :
    Calls Tryz.prog 48 #[.pointer (some ⟨d, 0, none⟩), .slice (some ⟨g, 0, none⟩) xs.length xc] w fun e w' => e = .returned (.int .i64 (ofF l k xs)) ∧ (Dice w' d p l cap (dnxt l k) ∧ w.grownBy w' (some d)) := by
  obtain ⟨n, hn⟩ : ∃ n, n = xs.length := ⟨_, rfl⟩
  have hof : ofF l k xs = xs.getD (dnum l k (n : Int)).toNat 0 := by rw [ofF, hn]
  have HOF := Lib.hid hof
  have HN := Lib.hid hn
  rw [← hn]
  rw [← hn] at hx1 hx2
  clear hof hn
  go_enter Tryz.func48, Tryz.ntmps48
  go_wp2_with (go_at_call 18; (with_reducible refine (next_walk d p l cap k (n : Int) _ hD hR hne hlen (by omega) (by omega)).mono ?_))
  rintro e w1 ⟨rfl, hD1, hg1⟩
  have h1 := dnum_lo l k (n := (n : Int)) (by omega)
  have h2 := dnum_hi l k (n := (n : Int)) (by omega)
  obtain ⟨j, hj⟩ : ∃ j : Nat, dnum l k (n : Int) = (j : Int) := ⟨(dnum l k (n : Int)).toNat, by omega⟩
  have hof := HOF.out
  rw [hj, Int.toNat_natCast] at hof
  rw [hj] at h1 h2 ⊢
  have hjn : j < n := by omega
  obtain ⟨g', off, x, he, hcell, hx⟩ := (hX.grown hg1 (by intro g' off h; simp at h ⊢; omega)).int (k := j) (by rw [← HN.out]; exact hjn)
  simp only [Option.some.injEq, Addr.mk.injEq, and_true] at he
  obtain ⟨rfl, rfl⟩ := he
  rw [Nat.zero_add] at hcell
  have hox : ofF l k xs = x := by rw [hof, List.getD, hx.out]; rfl
  have HO := Lib.hid hox
  clear hof hox hj HOF hx
  go_wp2
  go_ret
  exact ⟨ret_int HO.out.symm, hD1, hg1⟩
end Go.Proofs.YtpofijdkckaphaaGreat
