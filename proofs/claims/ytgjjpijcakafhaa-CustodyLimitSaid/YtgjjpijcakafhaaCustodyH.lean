/- Chains of records: digests, and the way of a digest: the program's. -/
import Derived.Test.YtgjjpijcakafhaaCustodyG
import Derived.Test.YtgjjpijcakafhaaAppStep
namespace Go.Proofs.Ytgjjpijcakafhaa
open Go.RowKit
theorem el_strs : ElemOf Try.prog 58 9 (.string ⟨#[]⟩) 1 16 := ⟨Try.underlying58, by kernel_rfl, rfl, by decide, by decide⟩
/-- records whose digests can be made -/
def Short (l : List Rec) : Prop := ∀ r ∈ l, r.In ∧ r.body.length + r.before.length ≤ 70368744000000
theorem Right.short {l : List Rec} (h : Right l l.length) (hI : ∀ r ∈ l, r.In) : Short l := fun r hr => by
  obtain ⟨i, hi, hx⟩ := List.mem_iff_getElem.1 hr
  have := follows_short (h i r hi (by rw [List.getElem?_eq_getElem hi, hx]))
  exact ⟨hI r hr, by omega⟩
set_option maxRecDepth 100000 in
set_option maxHeartbeats 1000000 in
theorem digests_walk (a : Option Addr) (l : List Rec) (cap : Nat) (w : World) (hR : Rd w a (recs l)) (hn : l.length ≤ 100000) (hS : Short l) :
    Calls Try.prog 38 #[.slice a l.length cap] w fun e w' => ∃ a' cap', e = .returned (.slice a' l.length cap') ∧ Ow w' w.heap.size 1 a' l.length cap' (strs (l.map digF)) ∧ Below w.heap.size w w' := by
  go_enter Try.func38, Try.ntmps38
  go_wp2_with fail
  go_loopw [3, 8] (fun v i wr => ∃ (k : Nat) (sa : Option Addr) (sc : Nat), k ≤ l.length ∧ i = .int .i64 (k : Int) ∧ v = .slice sa k sc ∧ Ow wr w.heap.size 1 sa k sc (strs ((l.take k).map digF)) ∧ Below w.heap.size w wr) (fun _ i _ => l.length - (intOf i).toNat)
  case atStart => exact ⟨0, none, 0, Nat.zero_le _, rfl, rfl, Ow.nil _ _ _, Below.refl _ _⟩
  case round =>
    obtain ⟨k, sa, sc, hk, rfl, rfl, hO, hB⟩ := hrel
    by_cases hkt : k < l.length
    · obtain ⟨g, off, r, rfl, hr, c0, c1, c2, c3, c4⟩ := (hR.keep hB).rec (k := k) hkt
      have hkl : (k : Int) < (l.length : Int) := by omega
      obtain ⟨hri, hrb⟩ := hS r (mem_at hr)
      have k1 : ∀ V, Calls Try.prog 16 #[.agg #[.int .i64 r.num, .int .i64 r.time, .int .i64 r.kind, .string ⟨r.body.toArray⟩, .string ⟨r.before.toArray⟩]] V fun e' w' => e' = .returned (.string ⟨(digF r).toArray⟩) ∧ Below V.heap.size V w' := fun V => dig_walk r V hri hrb
      have K1 := Lib.hid k1
      have HR := Lib.hid hR
      have HS := Lib.hid hS
      have hsn : strs ((l.take k).map digF) ++ [.string ⟨(digF r).toArray⟩] = strs ((l.take (k + 1)).map digF) := by rw [take_at hr, List.map_append, strs_snoc]; rfl
      have HN := Lib.hid hsn
      have hwl := hB.size
      clear k1 hR hS hsn hri hrb
      generalize digF r = dg at *
      go_wp2_with (go_at_call 16; (with_reducible refine (K1.out _).mono ?_))
      rintro e w2 ⟨rfl, hb2⟩
      have hb3 := ((Below.refl wr.heap.size wr).alloc (Nat.le_refl _) (.cells #[.int .i64 r.num, .int .i64 r.time, .int .i64 r.kind, .string ⟨r.body.toArray⟩, .string ⟨r.before.toArray⟩] 24)).trans (hb2.mono (by simp))
      replace hO := hO.keep hb3
      replace hB := hB.trans (hb3.mono hwl)
      have hsz := hB.size
      clear hb2 hb3 c0 c1 c2 c3 c4
      have hby : (k + 1) * 16 ≤ 140737488355328 := by omega
      go_wp2_with (at_builtin; refine wpList_app1 (w0 := w) (B := w.heap.size) rfl _ _ _ rfl el_strs rfl hO hB (Nat.le_refl _) hsz (cs := [_]) rfl rfl (one1 rfl) hby ?_)
      intro a3 c3 w3 hO3 hB3 _
      go_wp2
      go_roundw
      case rel => exact ⟨k + 1, a3, c3, by omega, by go_num, rfl, by rw [← HN.out, List.map_take]; exact hO3, hB3⟩
      case measure => simp [intOf]; omega
    · obtain rfl : k = l.length := by omega
      rw [List.take_length] at hO
      go_wp2
      go_ret
      exact ⟨sa, sc, rfl, hO, hB⟩
/-- the way of a digest, from it up -/
def wayF (l : List (List UInt8)) (i : Nat) : List (List UInt8) :=
  if h : l.length ≤ 1 then [] else
    if i < part l.length then wayF (l.take (part l.length)) i ++ [rootF (l.drop (part l.length))]
    else wayF (l.drop (part l.length)) (i - part l.length) ++ [rootF (l.take (part l.length))]
termination_by l.length
decreasing_by
  · have := part_bd (show 2 ≤ l.length by omega); rw [List.length_take]; omega
  · have := part_bd (show 2 ≤ l.length by omega); rw [List.length_drop]; omega
theorem wayF_one {l : List (List UInt8)} {i : Nat} (h : l.length ≤ 1) : wayF l i = [] := by rw [wayF, dif_pos h]
theorem wayF_left {l : List (List UInt8)} {i : Nat} (h : ¬ l.length ≤ 1) (hi : i < part l.length) : wayF l i = wayF (l.take (part l.length)) i ++ [rootF (l.drop (part l.length))] := by rw [wayF, dif_neg h, if_pos hi]
theorem wayF_right {l : List (List UInt8)} {i : Nat} (h : ¬ l.length ≤ 1) (hi : ¬ i < part l.length) : wayF l i = wayF (l.drop (part l.length)) (i - part l.length) ++ [rootF (l.take (part l.length))] := by rw [wayF, dif_neg h, if_neg hi]
theorem wayF_len (N : Nat) : ∀ (l : List (List UInt8)) (i : Nat), l.length ≤ N → (wayF l i).length ≤ l.length := by
  induction N with
  | zero => intro l i h; rw [wayF_one (by omega)]; simp
  | succ N ih =>
    intro l i h
    by_cases h1 : l.length ≤ 1
    · rw [wayF_one h1]; simp
    · have hb := part_bd (show 2 ≤ l.length by omega)
      by_cases hi : i < part l.length
      · rw [wayF_left h1 hi, List.length_append]
        have := ih (l.take (part l.length)) i (by rw [List.length_take]; omega)
        rw [List.length_take] at this; simp; omega
      · rw [wayF_right h1 hi, List.length_append]
        have := ih (l.drop (part l.length)) (i - part l.length) (by rw [List.length_drop]; omega)
        rw [List.length_drop] at this; simp; omega
end Go.Proofs.Ytgjjpijcakafhaa
