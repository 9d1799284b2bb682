/- The journal: what frames are read as: plain. -/
import Derived.Test.YthelmlmheioljaaJournalV
namespace Go.Proofs.Ythelmlmheioljaa
open Go.RowKit
theorem size4_frame (m : Nat) (r : List UInt8) (hm : m < 4294967296) : size4 (wbytes (m : Int) ++ r) = m := by
  have h : wbytes (m : Int) ++ r = UInt8.ofNat ((m : Int) / 16777216 % 256).toNat :: UInt8.ofNat ((m : Int) / 65536 % 256).toNat :: UInt8.ofNat ((m : Int) / 256 % 256).toNat :: UInt8.ofNat ((m : Int) % 256).toNat :: r := rfl
  rw [h, size4, num7_4]
  simp only [UInt8.toNat_ofNat']
  omega
theorem frame_app (n : Nat) (s r : List UInt8) : frameF n s ++ r = wbytes (s.length : Int) ++ (s ++ (sumF n s ++ r)) := by simp [frameF]
theorem recF_frame (n : Nat) (s r : List UInt8) (hs : s.length ≤ 4096) : recF (frameF n s ++ r) n = some s := by
  have hz : size4 (frameF n s ++ r) = s.length := by rw [frame_app, size4_frame _ _ (by omega)]
  have hw := wbytes_length (s.length : Int)
  have hsl := sumF_length n s
  have hl : (frameF n s ++ r).length = 12 + s.length + r.length := by rw [List.length_append, frameF_length]
  have hf : fitsF (frameF n s ++ r) := ⟨by omega, by omega, by omega⟩
  have hd4 : (frameF n s ++ r).drop 4 = s ++ (sumF n s ++ r) := by rw [frame_app, List.drop_append, List.drop_of_length_le (by omega), hw]; rfl
  have hb : bodyF (frameF n s ++ r) = s := by rw [bodyF, hz, hd4, List.take_append_of_le_length (Nat.le_refl _), List.take_of_length_le (Nat.le_refl _)]
  rw [recF, hb, hz, ← List.drop_drop, hd4, List.drop_append, List.drop_of_length_le (Nat.le_refl _), Nat.sub_self, List.drop_zero, List.nil_append, List.take_append_of_le_length (by omega), List.take_of_length_le (by omega), if_pos ⟨hf, rfl⟩]
theorem recF_nil (n : Nat) : recF [] n = none := recF_nofit (fun h => by have := h.1; simp at this)
theorem recF_part (n n' k : Nat) (s : List UInt8) (hs : s.length ≤ 4096) (hk : k < 12 + s.length) : recF ((frameF n s).take k) n' = none := by
  refine recF_nofit fun h => ?_
  obtain ⟨h1, h2, h3⟩ := h
  have hw := wbytes_length (s.length : Int)
  have hl := frameF_length n s
  rw [List.length_take] at h1 h3
  have hz : size4 ((frameF n s).take k) = s.length := by
    have := frame_app n s []
    rw [List.append_nil] at this
    rw [this, List.take_append, List.take_of_length_le (by omega), size4_frame _ _ (by omega)]
  omega
/-- frames of records from number n on -/
def framesF : List (List UInt8) → Nat → List UInt8
  | [], _ => []
  | s :: l, n => frameF n s ++ framesF l (n + 1)
theorem framesF_snoc (s : List UInt8) : ∀ l n, framesF (l ++ [s]) n = framesF l n ++ frameF (n + l.length) s
  | [], n => by simp [framesF]
  | x :: l, n => by
    show frameF n x ++ framesF (l ++ [s]) (n + 1) = _
    rw [framesF_snoc s l]
    simp [framesF, Nat.add_assoc, Nat.add_comm 1]
theorem framesF_length : ∀ l n, (framesF l n).length = endF l
  | [], _ => rfl
  | s :: l, n => by
    show (frameF n s ++ framesF l (n + 1)).length = _
    rw [List.length_append, frameF_length, framesF_length l]
    simp [endF]
theorem goodF_frames (r : List UInt8) : ∀ l n f, (∀ s ∈ l, s.length ≤ 4096) → (framesF l n ++ r).length ≤ f → recF r (n + l.length) = none → goodF f (framesF l n ++ r) n = l
  | [], n, f, _, _, hr => by
    cases f with
    | zero => rfl
    | succ f => rw [goodF]; simp only [framesF, List.nil_append]; rw [show recF r n = none from hr]
  | s :: l, n, f, hs, hf, hr => by
    have hs0 := hs s (by simp)
    have hfl := frameF_length n s
    have he : framesF (s :: l) n ++ r = frameF n s ++ (framesF l (n + 1) ++ r) := by simp [framesF]
    rw [he] at hf ⊢
    rw [List.length_append, hfl] at hf
    cases f with
    | zero => omega
    | succ f =>
      rw [goodF, recF_frame n s _ hs0]
      show s :: goodF f ((frameF n s ++ (framesF l (n + 1) ++ r)).drop (12 + s.length)) (n + 1) = _
      rw [List.drop_append, List.drop_of_length_le (by omega), hfl, Nat.sub_self, List.drop_zero, List.nil_append,
        goodF_frames r l (n + 1) f (fun x hx => hs x (by simp [hx])) (by omega) (by rw [show n + 1 + l.length = n + (s :: l).length by simp; omega]; exact hr)]
theorem goods_frames {l : List (List UInt8)} {r : List UInt8} (hs : ∀ s ∈ l, s.length ≤ 4096) (hr : recF r l.length = none) : goods (framesF l 0 ++ r) = l :=
  goodF_frames r l 0 _ hs (Nat.le_refl _) (by rw [Nat.zero_add]; exact hr)
theorem goods_frames0 {l : List (List UInt8)} (hs : ∀ s ∈ l, s.length ≤ 4096) : goods (framesF l 0) = l := by
  have := goods_frames (r := []) hs (recF_nil _)
  rwa [List.append_nil] at this
/-- what Append and Start do behind good records -/
theorem appF_good {l : List (List UInt8)} {s : List UInt8} {f : Int} (hs : ∀ s ∈ l, s.length ≤ 4096) (h4 : s.length ≤ 4096) (h6 : endF l + (12 + s.length) ≤ 65536) (hf0 : 0 ≤ f) (hf1 : f ≤ 65536) :
    appF (framesF l 0) f false s = if 0 < f ∧ f ≤ ((12 + s.length : Nat) : Int) then (framesF l 0 ++ (frameF l.length s).take f.toNat, 0, true, 54) else (framesF (l ++ [s]) 0, max 0 (f - ((12 + s.length : Nat) : Int)), false, 0) := by
  have hl := framesF_length l 0
  rw [appF, if_pos (checkF_ok (by omega) hf0 hf1), if_neg (by simp), goods_frames0 hs, if_neg (by omega), List.take_of_length_le (by omega), framesF_snoc, Nat.zero_add]
theorem startF_part {l : List (List UInt8)} {r : List UInt8} (hs : ∀ s ∈ l, s.length ≤ 4096) (hr : recF r l.length = none) (hl : (framesF l 0 ++ r).length ≤ 65536) : startF (framesF l 0 ++ r) 0 = framesF l 0 := by
  rw [startF, if_pos (checkF_ok hl (Int.le_refl _) (by omega)), goods_frames hs hr, ← framesF_length l 0, List.take_append_of_le_length (Nat.le_refl _), List.take_of_length_le (Nat.le_refl _)]
end Go.Proofs.Ythelmlmheioljaa
