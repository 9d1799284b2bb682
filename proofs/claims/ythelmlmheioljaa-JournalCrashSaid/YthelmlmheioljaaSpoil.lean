/- A string with a byte turned; one of some strings. -/
import Derived.Test.YthelmlmheioljaaPlay
import Derived.Test.YthelmlmheioljaaMake
namespace Go.Proofs.Ythelmlmheioljaa
open Go.RowKit
set_option maxRecDepth 100000 in
theorem spoil_walk (s : List UInt8) (at_ bb : Int) (w : World) (hs : s.length ≤ 1048576) :
    Calls Try.prog 15 #[.string ⟨s.toArray⟩, .int .i64 at_, .int .i64 bb] w fun e w' => ∃ o : List UInt8, e = .returned (.string ⟨o.toArray⟩) ∧ o.length = s.length ∧ Below w.heap.size w w' := by
  go_enter Try.func15, Try.ntmps15
  by_cases h0 : s = []
  · subst h0
    go_wp2
    go_ret
    exact ⟨[], rfl, rfl, Below.refl _ _⟩
  · have hne : (s == []) = false := by rw [beq_eq_false_iff_ne]; exact h0
    have hl1 : 1 ≤ s.length := by cases s with | nil => exact absurd rfl h0 | cons => simp
    clear h0
    have hcv := Lib.run_convert_string_bytes (P := Try.prog) w 9 34 5 ⟨s.toArray⟩ Try.underlying9 Try.underlying34 Try.underlying5
    have hw0 := below_bytes w 5 ⟨s.toArray⟩
    have how := Ow.bytes w 5 ⟨s.toArray⟩ (by simp [maxLen, ByteArray.size]; omega)
    obtain ⟨j, hj⟩ : ∃ j : Nat, at_ % (s.length : Int) = (j : Int) := ⟨(at_ % (s.length : Int)).toNat, by have := Int.emod_nonneg at_ (show (s.length : Int) ≠ 0 by omega); omega⟩
    have hjl : j < s.length := by have := Int.emod_lt_of_pos at_ (show 0 < (s.length : Int) by omega); omega
    have hmod : ∀ W, Calls Try.prog 30 #[.int .i64 at_, .int .i64 (s.length : Int)] W fun e w' => e = .returned (.int .i64 (j : Int)) ∧ W = w' := fun W => by
      rw [← hj]; exact dmod_walk at_ _ W (by omega) (by omega)
    have HM := Lib.hid hmod
    clear hj hmod
    have hsz : (⟨s.toArray⟩ : ByteArray).size = s.length := rfl
    rw [hsz] at hcv how
    obtain ⟨hx, hf⟩ := how.slots
    have hcell := hx j _ (u8s_get s j hjl)
    have hfr := hf j (by have := how.2.1; omega)
    rw [Nat.zero_add] at hcell hfr
    clear hx hf
    generalize s[j] = c at hcell
    generalize grownCap w s.length 0 5 = cap at hcv how hfr
    generalize Lib.bytesWorld w 5 ⟨s.toArray⟩ = wB at *
    obtain ⟨y, hy⟩ : ∃ y : UInt8, ((c.toNat : Int) + bb) % 256 = (y.toNat : Int) := byte_of (by omega) (by omega)
    have how2 := (how.stored j (.int .u8 (y.toNat : Int))).1
    rw [u8s_set _ _ _ y rfl, Nat.zero_add] at how2
    have hrd2 := how2.rd
    have hc2 := run_bytes_str (P := Try.prog) (wB.setCell ⟨w.heap.size, j, none⟩ (.int .u8 (y.toNat : Int))) 34 9 5 Try.underlying34 Try.underlying5 Try.underlying9 (c := cap) (n := s.length) (by simp) hrd2
    have hb2 := hw0.setCell (p := ⟨w.heap.size, j, none⟩) (Nat.le_refl _) (.int .u8 (y.toNat : Int))
    obtain ⟨o, ho⟩ : ∃ o, o = s.set j y := ⟨_, rfl⟩
    have hol : o.length = s.length := by rw [ho]; simp
    have e2 : ((⟨s.toArray⟩ : ByteArray).data.toList).set j y = o := by rw [ho]
    rw [e2] at hc2
    have HOL := Lib.hid hol
    clear how how2 hrd2 ho hol e2
    go_wp2_with (go_at_call 30; (with_reducible refine (HM.out _).mono ?_))
    rintro e w1 ⟨rfl, rfl⟩
    go_wp2
    go_ret
    exact ⟨o, rfl, HOL.out, hb2⟩
/-- the string that Word gives -/
def wordF (l : List Int) (k : Nat) (xs : List (List UInt8)) : List UInt8 := xs.getD (dnum l k (xs.length : Int)).toNat []
theorem wordF_mem (l : List Int) (k : Nat) (xs : List (List UInt8)) (h : 1 ≤ xs.length) : wordF l k xs ∈ xs := by
  have h1 := dnum_lo l k (n := (xs.length : Int)) (by omega)
  have h2 := dnum_hi l k (n := (xs.length : Int)) (by omega)
  rw [wordF, List.getD, List.getElem?_eq_getElem (show (dnum l k (xs.length : Int)).toNat < xs.length by omega)]
  exact List.getElem_mem _
set_option maxRecDepth 100000 in
theorem dword_walk (d : Nat) (p : Option Addr) (l : List Int) (cap k : Nat) (g : Nat) (xs : List (List UInt8)) (xc : Nat) (w : World) (hD : Dice w d p l cap k) (hR : Rd w p (ints l)) (hne : 0 < l.length → ∀ g off, p = some ⟨g, off, none⟩ → g ≠ d) (hlen : l.length ≤ 281474976710656)
    (hX : Rd w (some ⟨g, 0, none⟩) (strs xs)) (hgd : g ≠ d) (hx1 : 1 ≤ xs.length) (hx2 : xs.length ≤ 1000) :
    Calls Try.prog 16 #[.pointer (some ⟨d, 0, none⟩), .slice (some ⟨g, 0, none⟩) xs.length xc] w fun e w' => e = .returned (.string ⟨(wordF l k xs).toArray⟩) ∧ (Dice w' d p l cap (dnxt l k) ∧ w.grownBy w' (some d)) := by
  obtain ⟨n, hn⟩ : ∃ n, n = xs.length := ⟨_, rfl⟩
  have hof : wordF l k xs = xs.getD (dnum l k (n : Int)).toNat [] := by rw [wordF, hn]
  have HOF := Lib.hid hof
  have HN := Lib.hid hn
  rw [← hn]
  rw [← hn] at hx1 hx2
  clear hof hn
  go_enter Try.func16, Try.ntmps16
  go_wp2_with (go_at_call 11; (with_reducible refine (next_walk d p l cap k (n : Int) _ hD hR hne hlen (by omega) (by omega)).mono ?_))
  rintro e w1 ⟨rfl, hD1, hg1⟩
  have h1 := dnum_lo l k (n := (n : Int)) (by omega)
  have h2 := dnum_hi l k (n := (n : Int)) (by omega)
  obtain ⟨j, hj⟩ : ∃ j : Nat, dnum l k (n : Int) = (j : Int) := ⟨(dnum l k (n : Int)).toNat, by omega⟩
  have hof := HOF.out
  rw [hj, Int.toNat_natCast] at hof
  rw [hj] at h1 h2 ⊢
  have hjn : j < n := by omega
  obtain ⟨g', off, x, he, hcell, hx⟩ := (hX.grown hg1 (by intro g' off h; simp at h ⊢; omega)).str (k := j) (by rw [← HN.out]; exact hjn)
  simp only [Option.some.injEq, Addr.mk.injEq, and_true] at he
  obtain ⟨rfl, rfl⟩ := he
  rw [Nat.zero_add] at hcell
  have hox : wordF l k xs = x := by rw [hof, List.getD, hx.out]; rfl
  have HO := Lib.hid hox
  clear hof hox hj HOF hx
  go_wp2
  go_ret
  exact ⟨ret_str HO.out.symm, hD1, hg1⟩
end Go.Proofs.Ythelmlmheioljaa
