/- Conditions: whether a term holds, as the reference counts it. -/
import Derived.Test.YtpofijdkckaphaaGreatDoorGCndHA
import Derived.Test.YtpofijdkckaphaaGreatDoorGCndF
import Derived.Test.YtpofijdkckaphaaGreatDoorGCalR
import Derived.Test.YtpofijdkckaphaaGreatDoorRegionL
import Derived.Lib.QuietBelow
namespace Go.Proofs.YtpofijdkckaphaaGreatDoor
open Go.RowKit
theorem okT_kind {t : Trm} (h : okT t = true) : t.kind = 1 ∨ t.kind = 2 ∨ t.kind = 3 ∨ t.kind = 4 ∨ t.kind = 5 ∨ t.kind = 6 ∨ t.kind = 7 ∨ t.kind = 8 := by
  by_cases hk : t.kind = 1 ∨ t.kind = 2 ∨ t.kind = 3 ∨ t.kind = 4 ∨ t.kind = 5 ∨ t.kind = 6 ∨ t.kind = 7 ∨ t.kind = 8
  · exact hk
  · have : bareF t = false := by
      unfold bareF
      rw [if_neg (by omega), if_neg (by omega), if_neg (by omega), if_neg (by omega)]
    unfold okT at h
    rw [this] at h
    cases h
theorem dst_me {m : Mem} {S : List Mem} (h : ∀ y ∈ S, y.person ≠ m.person) : dst ((m :: S).map Mem.person) = 1 + dst (S.map Mem.person) := by
  rw [List.map_cons, dst, if_neg]
  intro hm
  obtain ⟨y, hy, e⟩ := List.mem_map.1 hm
  exact h y hy e
section
variable {wi : Int → Int → Int → Bool} {t : Trm} {m : Mem} {O : List Mem}
theorem leaf3 (h : ∀ y ∈ O, y.person ≠ m.person) (hk : t.kind = 3) : leafT wi t m O = decide ((dst ((m :: O).map Mem.person) : Int) ≥ t.number) := by
  rw [dst_me h]
  unfold leafT
  rw [if_pos hk, decide_eq_decide]; omega
theorem leaf4 (hk : t.kind = 4) : leafT wi t m O = decide ((dst ((m :: O).map Mem.dept) : Int) ≥ t.number) := by
  unfold leafT
  rw [if_neg (by omega), if_pos hk, List.map_cons, decide_eq_decide]
theorem leaf5 (h : ∀ y ∈ O, y.person ≠ m.person) (hk : t.kind = 5) : leafT wi t m O = decide ((dst ((m :: O.filter fun y => wi m.day y.day t.years).map Mem.person) : Int) ≥ t.number) := by
  rw [dst_me (fun y hy => h y (List.mem_filter.1 hy).1)]
  unfold leafT
  rw [if_neg (by omega), if_neg (by omega), if_pos hk, decide_eq_decide]; omega
theorem leaf6 (hk : t.kind = 6) : leafT wi t m O = (m :: O).any fun y => decide (y.number < m.number) := by
  unfold leafT
  rw [if_neg (by omega), if_neg (by omega), if_neg (by omega), if_pos hk, List.any_cons, decide_eq_false (show ¬ m.number < m.number by omega), Bool.false_or]
theorem leaf7 (h : ∀ y ∈ O, y.person ≠ m.person) (hk : t.kind = 7) : leafT wi t m O = decide ((dst (((m :: O).filter fun y => saysB t.field t.text y).map Mem.person) : Int) ≥ t.number) := by
  have e : (dst (((m :: O).filter fun y => saysB t.field t.text y).map Mem.person) : Int) = (if saysB t.field t.text m = true then 1 else 0) + (dst ((O.filter fun y => saysB t.field t.text y).map Mem.person) : Int) := by
    by_cases hs : saysB t.field t.text m = true
    · rw [List.filter_cons_of_pos hs, dst_me (fun y hy => h y (List.mem_filter.1 hy).1), if_pos hs]; push_cast; rfl
    · rw [List.filter_cons_of_neg hs, if_neg hs]; exact (Int.zero_add _).symm
  rw [e]
  unfold leafT
  rw [if_neg (by omega), if_neg (by omega), if_neg (by omega), if_neg (by omega), if_pos hk, decide_eq_decide]
theorem leaf8 (hk : t.kind = 8) : leafT wi t m O = true := by
  unfold leafT
  rw [if_neg (by omega), if_neg (by omega), if_neg (by omega), if_neg (by omega), if_neg (by omega), decide_eq_true hk]
end
/-- those that are picked out of the first j, by number and member -/
def selN (p : Nat → Mem → Bool) (L : List Mem) : Nat → List Mem
  | 0 => []
  | j + 1 => selN p L j ++ (match L[j]? with
    | some y => if p j y = true then [y] else []
    | none => [])
theorem selN_no {p : Nat → Mem → Bool} {L : List Mem} {j : Nat} {y : Mem} (hy : Hid (L[j]? = some y)) (h : p j y = false) : selN p L (j + 1) = selN p L j := by
  rw [selN, hy.out]
  dsimp only
  rw [if_neg (by rw [h]; decide), List.append_nil]
theorem selN_yes {p : Nat → Mem → Bool} {L : List Mem} {j : Nat} {y : Mem} (hy : Hid (L[j]? = some y)) (h : p j y = true) : selN p L (j + 1) = selN p L j ++ [y] := by
  rw [selN, hy.out]
  dsimp only
  rw [if_pos h]
theorem selN_sub {p : Nat → Mem → Bool} {L : List Mem} : ∀ {j : Nat} {y : Mem}, y ∈ selN p L j → y ∈ L
  | 0, y, h => by simp [selN] at h
  | j + 1, y, h => by
    rw [selN] at h
    rcases List.mem_append.1 h with h | h
    · exact selN_sub h
    · split at h
      · next z hz =>
        split at h
        · rw [List.mem_singleton.1 h]; exact List.mem_of_getElem? hz
        · simp at h
      · simp at h
theorem selN_all {p : Mem → Bool} {L : List Mem} : ∀ {j : Nat}, j ≤ L.length → selN (fun _ y => p y) L j = (L.take j).filter p
  | 0, _ => rfl
  | j + 1, h => by
    have e : L[j]? = some L[j] := List.getElem?_eq_getElem (by omega)
    rw [selN, e, selN_all (by omega), List.take_add_one, e, List.filter_append]
    dsimp only
    congr 1
    by_cases hq : p L[j] = true
    · simp [hq]
    · simp [hq]
theorem selN_first {p : Nat → Mem → Bool} {q : Mem → Bool} {m : Mem} {O : List Mem} (h0 : p 0 m = true) (h1 : ∀ i y, p (i + 1) y = q y) : ∀ {j : Nat}, j ≤ O.length → selN p (m :: O) (j + 1) = m :: (O.take j).filter q
  | 0, _ => by simp [selN, h0]
  | j + 1, h => by
    have e : O[j]? = some O[j] := List.getElem?_eq_getElem (by omega)
    rw [selN, selN_first h0 h1 (by omega), List.getElem?_cons_succ, e, List.take_add_one, e, List.filter_append, List.cons_append]
    dsimp only
    rw [h1]
    by_cases hq : q O[j] = true
    · simp [hq]
    · simp [hq]
theorem selN_len {p : Nat → Mem → Bool} {L : List Mem} : ∀ (j : Nat), (selN p L j).length ≤ j
  | 0 => Nat.le_refl _
  | j + 1 => by
    rw [selN, List.length_append]
    have := selN_len (p := p) (L := L) j
    split
    · split
      · simp; omega
      · simp; omega
    · simp; omega
/-- the boxes of a turn of term -/
structure Rw (W w : World) (g3 g7 : Nat) (ta : Option Addr) (T : List Trm) (tc : Nat) (oa : Option Addr) (L : List Mem) (t : Trm) : Prop where
  x : Bx w g3 42 [.slice ta T.length tc]
  tt : Bx w g7 50 (trC t)
  r : RdT w ta T
  m : RdM w oa L
  a : Rd w t.aa (ints t.args)
  b : Below W.heap.size W w
theorem Rw.keep {W w w' : World} {g3 g7 : Nat} {ta : Option Addr} {T : List Trm} {tc : Nat} {oa : Option Addr} {L : List Mem} {t : Trm} (h : Rw W w g3 g7 ta T tc oa L t) (hb : Below w.heap.size w w') : Rw W w' g3 g7 ta T tc oa L t :=
  ⟨h.x.keep hb, h.tt.keep hb, h.r.keep hb, h.m.keep hb, h.a.keep hb, h.b.trans (hb.mono h.b.size)⟩
theorem RdM.sel {w : World} {oa a : Option Addr} {L S : List Mem} (h : RdM w oa L) (hs : ∀ y ∈ S, y ∈ L) (hr : Rd w a (rowsC mmC S)) : RdM w a S := ⟨hr, fun y hy => h.ans y (hs y hy), fun y hy => h.ok y (hs y hy)⟩
end Go.Proofs.YtpofijdkckaphaaGreatDoor
