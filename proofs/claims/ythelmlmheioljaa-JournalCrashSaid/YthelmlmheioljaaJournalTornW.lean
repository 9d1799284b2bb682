/- The walk of the law JournalTorn. -/
import Derived.Test.YthelmlmheioljaaJournalW
namespace Go.Proofs.Ythelmlmheioljaa
open Go.RowKit
def olds (i : Nat) : List (List UInt8) := List.replicate i [111, 108, 100]
theorem olds_succ (i : Nat) : olds (i + 1) = olds i ++ [[111, 108, 100]] := by rw [olds, List.replicate_succ']; rfl
theorem olds_short (i : Nat) : ∀ s ∈ olds i, s.length ≤ 4096 := by
  intro s h
  rw [olds, List.mem_replicate] at h
  rw [h.2]; decide
theorem olds_end (i : Nat) : endF (olds i) = 15 * i := by
  induction i with
  | zero => rfl
  | succ i ih => rw [olds_succ, endF_snoc, ih]; simp; omega
theorem olds_length (i : Nat) : (olds i).length = i := by simp [olds]
/-- what is left of a torn write, and of one that is not -/
structure Torn (B : Nat) (s : List UInt8) (K : Nat) (ce : Int) (m : Nat) where
  E : List UInt8
  fe : Int
  be : Bool
  L : List (List UInt8)
  app : appF (framesF (olds B) 0) (K : Int) false s = (E, fe, be, ce)
  len : E.length ≤ 65536
  chk : checkF E fe = 0
  start : startF E fe = framesF L 0
  chk2 : checkF (framesF L 0) 0 = 0
  read : readF (framesF L 0) 0 = L
  num : L.length = m
theorem torn_less {B K : Nat} {s : List UInt8} (hB : B < 4) (hs : s.length ≤ 100) (hK : 1 ≤ K) (h : K < 12 + s.length) : Nonempty (Torn B s K 54 B) := by
  have hl := framesF_length (olds B) 0
  have he := olds_end B
  have hfl := frameF_length (olds B).length s
  have hlen : (framesF (olds B) 0 ++ (frameF (olds B).length s).take K).length ≤ 65536 := by rw [List.length_append, List.length_take, hl, he, hfl]; omega
  have hc2 : checkF (framesF (olds B) 0) 0 = 0 := checkF_ok (by rw [hl, he]; omega) (Int.le_refl _) (by omega)
  exact ⟨{ E := framesF (olds B) 0 ++ (frameF (olds B).length s).take K, fe := 0, be := true, L := olds B
           app := by rw [appF_good (olds_short B) (by omega) (by omega) (by omega) (by omega), if_pos (by omega), Int.toNat_natCast]
           len := hlen
           chk := checkF_ok hlen (Int.le_refl _) (by omega)
           start := startF_part (olds_short B) (recF_part _ _ _ _ (by omega) h) hlen
           chk2 := hc2
           read := by rw [readF_ok hc2, goods_frames0 (olds_short B)]
           num := olds_length B }⟩
theorem snoc_short {B : Nat} {s : List UInt8} (hs : s.length ≤ 100) : ∀ x ∈ olds B ++ [s], x.length ≤ 4096 := by
  intro x hx
  rw [List.mem_append, List.mem_singleton] at hx
  rcases hx with hx | rfl
  · exact olds_short B x hx
  · omega
theorem startF_all {l : List (List UInt8)} {f : Int} (hs : ∀ s ∈ l, s.length ≤ 4096) (hc : checkF (framesF l 0) f = 0) : startF (framesF l 0) f = framesF l 0 := by
  rw [startF, if_pos hc, goods_frames0 hs, ← framesF_length l 0, List.take_of_length_le (Nat.le_refl _)]
theorem torn_more {B K : Nat} {s : List UInt8} (hB : B < 4) (hs : s.length ≤ 100) (hK : 1 ≤ K) (hK2 : K ≤ 256) (h : 12 + s.length ≤ K) : Nonempty (Torn B s K (if K = 12 + s.length then 54 else 0) (B + 1)) := by
  have he := olds_end B
  have hsh := snoc_short (B := B) hs
  have hl := framesF_length (olds B ++ [s]) 0
  rw [endF_snoc, he] at hl
  have hfl := frameF_length (olds B).length s
  have hc2 : ∀ f : Int, 0 ≤ f → f ≤ 65536 → checkF (framesF (olds B ++ [s]) 0) f = 0 := fun f h1 h2 => checkF_ok (by omega) h1 h2
  have hsn : framesF (olds B ++ [s]) 0 = framesF (olds B) 0 ++ frameF (olds B).length s := by rw [framesF_snoc, Nat.zero_add]
  by_cases hk : K = 12 + s.length
  · rw [if_pos hk]
    exact ⟨{ E := framesF (olds B ++ [s]) 0, fe := 0, be := true, L := olds B ++ [s]
             app := by rw [appF_good (olds_short B) (by omega) (by omega) (by omega) (by omega), if_pos (by omega), Int.toNat_natCast, List.take_of_length_le (by omega), hsn]
             len := by omega
             chk := hc2 0 (Int.le_refl _) (by omega)
             start := startF_all hsh (hc2 0 (Int.le_refl _) (by omega))
             chk2 := hc2 0 (Int.le_refl _) (by omega)
             read := by rw [readF_ok (hc2 0 (Int.le_refl _) (by omega)), goods_frames0 hsh]
             num := by rw [List.length_append, olds_length]; rfl }⟩
  · rw [if_neg hk]
    exact ⟨{ E := framesF (olds B ++ [s]) 0, fe := max 0 ((K : Int) - ((12 + s.length : Nat) : Int)), be := false, L := olds B ++ [s]
             app := by rw [appF_good (olds_short B) (by omega) (by omega) (by omega) (by omega), if_neg (by omega)]
             len := by omega
             chk := hc2 _ (by omega) (by omega)
             start := startF_all hsh (hc2 _ (by omega) (by omega))
             chk2 := hc2 0 (Int.le_refl _) (by omega)
             read := by rw [readF_ok (hc2 0 (Int.le_refl _) (by omega)), goods_frames0 hsh]
             num := by rw [List.length_append, olds_length]; rfl }⟩
end Go.Proofs.Ythelmlmheioljaa
