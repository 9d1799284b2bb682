/- The plain law of the journal's theorem: a round of it. -/
import Derived.Test.YthelmlmheioljaaJournalTornW
namespace Go.Proofs.Ythelmlmheioljaa
open Go.RowKit
/-- the records that are there behind an append to L, at a fuse f -/
def nextL (L : List (List UInt8)) (f : Int) (s : List UInt8) : List (List UInt8) := if 0 < f ∧ f < ((12 + s.length : Nat) : Int) then L else L ++ [s]
structure Good (L : List (List UInt8)) (c : Nat) : Prop where
  short : ∀ s ∈ L, s.length ≤ 4096
  bound : endF L ≤ 40 * c
theorem Good.len {L : List (List UInt8)} {c : Nat} (h : Good L c) : 12 * L.length ≤ 40 * c := Nat.le_trans (endF_count L) h.bound
theorem Good.chk {L : List (List UInt8)} {c : Nat} (h : Good L c) (hc : c ≤ 1000) {f : Int} (h1 : 0 ≤ f) (h2 : f ≤ 65536) : checkF (framesF L 0) f = 0 :=
  checkF_ok (by have := h.bound; rw [framesF_length]; omega) h1 h2
theorem Good.snoc {L : List (List UInt8)} {c : Nat} (h : Good L c) {s : List UInt8} (hs : s.length ≤ 28) : Good (L ++ [s]) (c + 1) := by
  refine ⟨fun x hx => ?_, by have := h.bound; rw [endF_snoc]; omega⟩
  rw [List.mem_append, List.mem_singleton] at hx
  rcases hx with hx | rfl
  · exact h.short x hx
  · omega
theorem Good.mono {L : List (List UInt8)} {c c' : Nat} (h : Good L c) (hc : c ≤ c') : Good L c' := ⟨h.short, by have := h.bound; omega⟩
theorem Good.read {L : List (List UInt8)} {c : Nat} (h : Good L c) (hc : c ≤ 1000) {f : Int} (h1 : 0 ≤ f) (h2 : f ≤ 65536) : readF (framesF L 0) f = L := by
  rw [readF_ok (h.chk hc h1 h2), goods_frames0 h.short]
/-- where the power does not fail -/
theorem app_on {L : List (List UInt8)} {c : Nat} {s : List UInt8} {f : Int} (h : Good L c) (hc : c ≤ 1000) (hs : s.length ≤ 28) (h1 : 0 ≤ f) (h2 : f ≤ 65536) (hf : ¬ (0 < f ∧ f ≤ ((12 + s.length : Nat) : Int))) :
    ∃ g : Int, 0 ≤ g ∧ g ≤ 65536 ∧ appF (framesF L 0) f false s = (framesF (L ++ [s]) 0, g, false, 0) := by
  refine ⟨max 0 (f - ((12 + s.length : Nat) : Int)), by omega, by omega, ?_⟩
  rw [appF_good h.short (by omega) (by have := h.bound; omega) h1 h2, if_neg hf]
/-- where it does -/
theorem app_off {L : List (List UInt8)} {c : Nat} {s : List UInt8} {f : Int} (h : Good L c) (hc : c ≤ 900) (hs : s.length ≤ 28) (hf : 0 < f ∧ f ≤ ((12 + s.length : Nat) : Int)) :
    ∃ E : List UInt8, E.length ≤ 65536 ∧ appF (framesF L 0) f false s = (E, 0, true, 54) ∧ checkF E 0 = 0 ∧ startF E 0 = framesF (nextL L f s) 0 ∧ Good (nextL L f s) (c + 1) := by
  have hl := framesF_length L 0
  have hb := h.bound
  have hfl := frameF_length L.length s
  obtain ⟨F, rfl⟩ : ∃ F : Nat, f = (F : Int) := ⟨f.toNat, by omega⟩
  have hE : (framesF L 0 ++ (frameF L.length s).take F).length ≤ 65536 := by rw [List.length_append, List.length_take]; omega
  refine ⟨framesF L 0 ++ (frameF L.length s).take F, hE, by rw [appF_good h.short (by omega) (by omega) (by omega) (by omega), if_pos hf, Int.toNat_natCast], checkF_ok hE (Int.le_refl _) (by omega), ?_, ?_⟩
  · unfold nextL
    by_cases hp : 0 < (F : Int) ∧ (F : Int) < ((12 + s.length : Nat) : Int)
    · rw [if_pos hp]
      have hp2 : F < 12 + s.length := by omega
      exact startF_part h.short (recF_part L.length L.length F s (Nat.le_trans hs (by decide)) hp2) hE
    · rw [if_neg hp, List.take_of_length_le (show (frameF L.length s).length ≤ F by omega)]
      have hsn : framesF L 0 ++ frameF L.length s = framesF (L ++ [s]) 0 := by rw [framesF_snoc, Nat.zero_add]
      rw [hsn]
      exact startF_all (h.snoc hs).short ((h.snoc hs).chk (by omega) (Int.le_refl _) (by omega))
  · unfold nextL
    split
    · exact h.mono (by omega)
    · exact h.snoc hs
end Go.Proofs.Ythelmlmheioljaa
