/- The journal: frames and records: plain. -/
import Derived.Test.YthelmlmheioljaaNum
namespace Go.Proofs.Ythelmlmheioljaa
open Go.RowKit
theorem pairL_length (a b : List UInt8) : (pairL a b).length = 32 := by rw [pairL, sha_length]
def size4 (d : List UInt8) : Nat := num7 d 4
def sumF (n : Nat) (s : List UInt8) : List UInt8 := (pairL (wbytes n) s).take 8
theorem sumF_length (n : Nat) (s : List UInt8) : (sumF n s).length = 8 := by rw [sumF, List.length_take, pairL_length]; rfl
/-- the frame of record number n -/
def frameF (n : Nat) (s : List UInt8) : List UInt8 := wbytes s.length ++ s ++ sumF n s
theorem frameF_length (n : Nat) (s : List UInt8) : (frameF n s).length = 12 + s.length := by simp [frameF, sumF_length, wbytes_length]; omega
/-- what would be the record with which d begins -/
def bodyF (d : List UInt8) : List UInt8 := (d.drop 4).take (size4 d)
def fitsF (d : List UInt8) : Prop := 4 ≤ d.length ∧ size4 d ≤ 4096 ∧ 12 + size4 d ≤ d.length
instance (d : List UInt8) : Decidable (fitsF d) := by unfold fitsF; exact inferInstance
/-- the record with which d begins, if it is number n -/
def recF (d : List UInt8) (n : Nat) : Option (List UInt8) :=
  if fitsF d ∧ (d.drop (4 + size4 d)).take 8 = sumF n (bodyF d) then some (bodyF d) else none
theorem bodyF_length {d : List UInt8} (h : fitsF d) : (bodyF d).length = size4 d := by
  obtain ⟨h1, h2, h3⟩ := h
  rw [bodyF, List.length_take, List.length_drop]; omega
theorem recF_some {d s : List UInt8} {n : Nat} (h : recF d n = some s) : s = bodyF d ∧ s.length = size4 d ∧ s.length ≤ 4096 ∧ 12 + s.length ≤ d.length := by
  unfold recF at h
  split at h
  · rename_i hc
    obtain rfl := Option.some.inj h
    have hl := bodyF_length hc.1
    obtain ⟨h1, h2, h3⟩ := hc.1
    exact ⟨rfl, hl, by omega, by omega⟩
  · cases h
/-- the good records of d, of which the first is number n -/
def goodF : Nat → List UInt8 → Nat → List (List UInt8)
  | 0, _, _ => []
  | f + 1, d, n => match recF d n with
    | none => []
    | some s => s :: goodF f (d.drop (12 + s.length)) (n + 1)
def goods (d : List UInt8) : List (List UInt8) := goodF d.length d 0
/-- how long frames are -/
def endF (l : List (List UInt8)) : Nat := (l.map fun s => 12 + s.length).sum
theorem endF_snoc (l : List (List UInt8)) (s : List UInt8) : endF (l ++ [s]) = endF l + (12 + s.length) := by simp [endF]
theorem goodF_end : ∀ f d n, endF (goodF f d n) ≤ d.length
  | 0, d, n => by simp [goodF, endF]
  | f + 1, d, n => by
    rw [goodF]
    split
    · simp [endF]
    · rename_i s hs
      have h := recF_some hs
      have ih := goodF_end f (d.drop (12 + s.length)) (n + 1)
      rw [List.length_drop] at ih
      simp only [endF, List.map_cons, List.sum_cons] at ih ⊢
      omega
theorem endF_count (l : List (List UInt8)) : 12 * l.length ≤ endF l := by
  induction l with
  | nil => simp [endF]
  | cons s l ih => simp only [endF, List.map_cons, List.sum_cons, List.length_cons] at ih ⊢; omega
/-- pre are the first good records of d, and what follows them are others, as f goes on -/
def Upto (d : List UInt8) (pre : List (List UInt8)) (f : Nat) : Prop := goods d = pre ++ goodF f (d.drop (endF pre)) pre.length ∧ d.length ≤ f + endF pre ∧ endF pre ≤ d.length
theorem Upto.start (d : List UInt8) : Upto d [] d.length := ⟨by simp [goods, endF], by simp [endF], by simp [endF]⟩
theorem Upto.next {d s : List UInt8} {pre : List (List UInt8)} {f : Nat} (h : Upto d pre f) (hs : recF (d.drop (endF pre)) pre.length = some s) : ∃ g, f = g + 1 ∧ Upto d (pre ++ [s]) g ∧ endF (pre ++ [s]) ≤ d.length := by
  obtain ⟨h1, h2, h3⟩ := h
  have h4 := recF_some hs
  rw [List.length_drop] at h4
  cases f with
  | zero => omega
  | succ g =>
    rw [goodF, hs] at h1
    have h5 : endF (pre ++ [s]) ≤ d.length := by rw [endF_snoc]; omega
    refine ⟨g, rfl, ⟨?_, by rw [endF_snoc]; omega, h5⟩, h5⟩
    rw [h1]
    show pre ++ (s :: goodF g ((d.drop (endF pre)).drop (12 + s.length)) (pre.length + 1)) = _
    rw [endF_snoc, List.drop_drop, List.append_assoc, List.length_append]
    rfl
theorem Upto.done {d : List UInt8} {pre : List (List UInt8)} {f : Nat} (h : Upto d pre f) (hs : recF (d.drop (endF pre)) pre.length = none) : pre = goods d := by
  obtain ⟨h1, h2, h3⟩ := h
  rw [h1]
  cases f with
  | zero => simp [goodF]
  | succ g => rw [goodF, hs]; simp
theorem goods_end (d : List UInt8) : endF (goods d) ≤ d.length := goodF_end _ _ _
end Go.Proofs.Ythelmlmheioljaa
