/- The dice's words. -/
import Derived.Test.YtejdaeonknpgeaaGreatDoorGMod
namespace Go.Proofs.YtejdaeonknpgeaaGreatDoor
open Go.RowKit
/-- the string that Word gives -/
def wordF (l : List Int) (k : Nat) (xs : List (List UInt8)) : List UInt8 := xs.getD (dnum l k (xs.length : Int)).toNat []
theorem wordF_mem (l : List Int) (k : Nat) (xs : List (List UInt8)) (h : 1 ≤ xs.length) : wordF l k xs ∈ xs := by
  have h1 := dnum_lo l k (n := (xs.length : Int)) (by omega)
  have h2 := dnum_hi l k (n := (xs.length : Int)) (by omega)
  rw [wordF, List.getD, List.getElem?_eq_getElem (show (dnum l k (xs.length : Int)).toNat < xs.length by omega)]
  exact List.getElem_mem _
set_option maxRecDepth 100000 in
theorem dword_walk (d : Nat) (p : Option Addr) (l : List Int) (cap k : Nat) (g : Nat) (xs : List (List UInt8)) (xc : Nat) (w : World) (hD : Dice w d p l cap k) (hR : Rd w p (ints l)) (hne : 0 < l.length → ∀ g off, p = some ⟨g, off, none⟩ → g ≠ d) (hlen : l.length ≤ 281474976710656)
    (hX : Rd w (some ⟨g, 0, none⟩) (strs xs)) (hgd : g ≠ d) (hx1 : 1 ≤ xs.length) (hx2 : xs.length ≤ 1000) :
    Calls Tryz.prog 23 #[.pointer (some ⟨d, 0, none⟩), .slice (some ⟨g, 0, none⟩) xs.length xc] w fun e w' => e = .returned (.string ⟨(wordF l k xs).toArray⟩) ∧ (Dice w' d p l cap (dnxt l k) ∧ w.grownBy w' (some d)) := by
  obtain ⟨n, hn⟩ : ∃ n, n = xs.length := ⟨_, rfl⟩
  have hof : wordF l k xs = xs.getD (dnum l k (n : Int)).toNat [] := by rw [wordF, hn]
  have HOF := Lib.hid hof
  have HN := Lib.hid hn
  rw [← hn]
  rw [← hn] at hx1 hx2
  clear hof hn
  go_enter Tryz.func23, Tryz.ntmps23
  go_wp2_with (go_at_call 22; (with_reducible refine (next_walk d p l cap k (n : Int) _ hD hR hne hlen (by omega) (by omega)).mono ?_))
  rintro e w1 ⟨rfl, hD1, hg1⟩
  have h1 := dnum_lo l k (n := (n : Int)) (by omega)
  have h2 := dnum_hi l k (n := (n : Int)) (by omega)
  obtain ⟨j, hj⟩ : ∃ j : Nat, dnum l k (n : Int) = (j : Int) := ⟨(dnum l k (n : Int)).toNat, by omega⟩
  have hof := HOF.out
  rw [hj, Int.toNat_natCast] at hof
  rw [hj] at h1 h2 ⊢
  have hjn : j < n := by omega
  obtain ⟨g', off, x, he, hcell, hx⟩ := (hX.grown hg1 (by intro g' off h; simp at h ⊢; omega)).str (k := j) (by rw [← HN.out]; exact hjn)
  simp only [Option.some.injEq, Addr.mk.injEq, and_true] at he
  obtain ⟨rfl, rfl⟩ := he
  rw [Nat.zero_add] at hcell
  have hox : wordF l k xs = x := by rw [hof, List.getD, hx.out]; rfl
  have HO := Lib.hid hox
  clear hof hox hj HOF hx
  go_wp2
  go_ret
  exact ⟨ret_str HO.out.symm, hD1, hg1⟩
end Go.Proofs.YtejdaeonknpgeaaGreatDoor
