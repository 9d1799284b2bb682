/- Rolls: who is found: the program's, by slices.IndexFunc and its closures. -/
import Derived.Test.YtnahkfchcminpaaGreatDoorGEnrA
import Derived.Test.YtnahkfchcminpaaGreatDoorGEnrR
namespace Go.Proofs.YtnahkfchcminpaaGreatDoor
open Go.RowKit
/-- the place of the first person for whom a test holds, or -1 -/
def idxP (f : Prs → Bool) (l : List Prs) : Int := match l.findIdx? f with
  | some k => (k : Int)
  | none => -1
theorem idxP_at {f : Prs → Bool} {l : List Prs} {k : Nat} {r : Prs} (hr : l[k]? = some r) (hf : f r = true) (h : ∀ (j : Nat) (x : Prs), j < k → l[j]? = some x → f x = false) : idxP f l = (k : Int) := by
  obtain ⟨hk, rfl⟩ := List.getElem?_eq_some_iff.1 hr
  have : l.findIdx? f = some k := List.findIdx?_eq_some_iff_getElem.2 ⟨hk, hf, fun j hj => by rw [h j l[j] hj (List.getElem?_eq_getElem (by omega))]; simp⟩
  rw [idxP, this]
theorem idxP_none {f : Prs → Bool} {l : List Prs} (h : ∀ (j : Nat) (x : Prs), j < l.length → l[j]? = some x → f x = false) : idxP f l = -1 := by
  have : l.findIdx? f = none := List.findIdx?_eq_none_iff.2 fun x hx => by
    obtain ⟨j, hj, rfl⟩ := List.getElem_of_mem hx
    exact h j l[j] hj (List.getElem?_eq_getElem hj)
  rw [idxP, this]
/-- what the place says of who is found -/
theorem idxP_fst (f : Prs → Int) (l : List Prs) (z : Int) : (∃ (k : Nat) (r : Prs), idxP (fun r => f r == z) l = (k : Int) ∧ l[k]? = some r ∧ fstP f l z = some r) ∨ (idxP (fun r => f r == z) l = -1 ∧ fstP f l z = none) := by
  cases h : l.findIdx? (fun r => f r == z) with
  | some k =>
    obtain ⟨hk, hp, hj⟩ := List.findIdx?_eq_some_iff_getElem.1 h
    refine .inl ⟨k, l[k], by rw [idxP, h], List.getElem?_eq_getElem hk, fstP_at (List.getElem?_eq_getElem hk) (by simpa using hp) fun j x hjk hx => ?_⟩
    obtain ⟨hjl, rfl⟩ := List.getElem?_eq_some_iff.1 hx
    have := hj j hjk
    simpa using this
  | none =>
    refine .inr ⟨by rw [idxP, h], fstP_none fun j x hj hx => ?_⟩
    have := List.findIdx?_eq_none_iff.1 h x (List.mem_of_getElem? hx)
    simpa using this
set_option maxRecDepth 100000 in
theorem efind1_clo (r : Prs) (z : Int) (g : Nat) (w : World) (hX : Bx w g 3 [.int .i64 z]) :
    Calls Tryz.prog 50 #[prV r, .pointer (some ⟨g, 0, none⟩)] w fun e w' => e = .returned (.bool (r.id == z)) ∧ Below w.heap.size w w' := by
  have hX2 := hX.alloc (.cells #[.int .i64 r.id, .int .i64 r.key, .int .i64 r.dep] 43)
  have c0 := hX2.cell 0 (v := .int .i64 z) rfl
  have hb := (Below.refl w.heap.size w).alloc (Nat.le_refl _) (.cells #[.int .i64 r.id, .int .i64 r.key, .int .i64 r.dep] 43)
  clear hX hX2
  go_enter Tryz.func50, Tryz.ntmps50
  go_wp2
  go_ret
  exact ⟨rfl, hb⟩
set_option maxRecDepth 100000 in
set_option maxHeartbeats 1000000 in
theorem efind1_idx (a : Option Addr) (l : List Prs) (c : Nat) (z : Int) (g : Nat) (w : World) (hX : Bx w g 3 [.int .i64 z]) (hR : Rd w a (rowsC prC l)) (hl : l.length ≤ 281474976710656) :
    Calls Tryz.prog 55 #[.slice a l.length c, .func (.func 50) #[] #[.pointer (some ⟨g, 0, none⟩)]] w fun e w' => e = .returned (.int .i64 (idxP (fun r => r.id == z) l)) ∧ Below w.heap.size w w' := by
  have HX := Lib.hid hX
  clear hX
  go_enter Tryz.func55, Tryz.ntmps55
  go_wp2_with fail
  go_loopw [8] (fun i wr => ∃ k : Nat, k ≤ l.length ∧ i = .int .i64 (k : Int) ∧ Hid (∀ (j : Nat) (r : Prs), j < k → l[j]? = some r → (r.id == z) = false) ∧ Below w.heap.size w wr) (fun i _ => l.length - (intOf i).toNat)
  case atStart => exact ⟨0, Nat.zero_le _, rfl, Lib.hid (fun j r h => by omega), Below.refl _ _⟩
  case round =>
    obtain ⟨k, hk, rfl, hA, hB'⟩ := hrel
    by_cases hkt : k < l.length
    · obtain ⟨gx, off, r, rfl, hr, d0, d1, d2⟩ := (hR.keep hB').prs (k := k) hkt
      have hkl : (k : Int) < (l.length : Int) := by omega
      have K1 := Lib.hid (efind1_clo r z g wr (HX.out.keep hB'))
      have HT : Hid ((r.id == z) = false → ∀ (j : Nat) (r : Prs), j < k + 1 → l[j]? = some r → (r.id == z) = false) := Lib.hid fun h j x hj hx => by
        by_cases e : j = k
        · subst e; rw [hr.out] at hx; cases hx; exact h
        · exact hA.out j x (by omega) hx
      have HF : Hid ((r.id == z) = true → idxP (fun r => r.id == z) l = (k : Int)) := Lib.hid fun h => idxP_at hr.out h hA.out
      clear hA hR hr
      cases hz : (r.id == z) with
      | false =>
        rw [hz] at K1
        replace HT := Lib.hid (HT.out hz)
        clear hz HF
        go_wp2_with ((with_reducible refine K1.out.mono ?_); rintro e w1 ⟨rfl, hb1⟩)
        go_roundw
        case rel => exact ⟨k + 1, by omega, by go_num, HT, below_tr hB' hb1⟩
        case measure => simp [intOf]; omega
      | true =>
        rw [hz] at K1
        replace HF := Lib.hid (HF.out hz)
        clear hz HT
        go_wp2_with ((with_reducible refine K1.out.mono ?_); rintro e w1 ⟨rfl, hb1⟩)
        go_ret
        exact ⟨ret_int HF.out.symm, below_tr hB' hb1⟩
    · have hkl : ¬ (k : Int) < (l.length : Int) := by omega
      obtain rfl : k = l.length := by omega
      have HN := Lib.hid (idxP_none (f := fun r => r.id == z) hA.out)
      clear hA
      go_wp2
      go_ret
      exact ⟨ret_int HN.out.symm, hB'⟩
set_option maxRecDepth 100000 in
theorem eby1_clo (r : Prs) (z : Int) (g : Nat) (w : World) (hX : Bx w g 3 [.int .i64 z]) :
    Calls Tryz.prog 68 #[prV r, .pointer (some ⟨g, 0, none⟩)] w fun e w' => e = .returned (.bool (r.key == z)) ∧ Below w.heap.size w w' := by
  have hX2 := hX.alloc (.cells #[.int .i64 r.id, .int .i64 r.key, .int .i64 r.dep] 43)
  have c0 := hX2.cell 0 (v := .int .i64 z) rfl
  have hb := (Below.refl w.heap.size w).alloc (Nat.le_refl _) (.cells #[.int .i64 r.id, .int .i64 r.key, .int .i64 r.dep] 43)
  clear hX hX2
  go_enter Tryz.func68, Tryz.ntmps68
  go_wp2
  go_ret
  exact ⟨rfl, hb⟩
set_option maxRecDepth 100000 in
set_option maxHeartbeats 1000000 in
theorem eby1_idx (a : Option Addr) (l : List Prs) (c : Nat) (z : Int) (g : Nat) (w : World) (hX : Bx w g 3 [.int .i64 z]) (hR : Rd w a (rowsC prC l)) (hl : l.length ≤ 281474976710656) :
    Calls Tryz.prog 55 #[.slice a l.length c, .func (.func 68) #[] #[.pointer (some ⟨g, 0, none⟩)]] w fun e w' => e = .returned (.int .i64 (idxP (fun r => r.key == z) l)) ∧ Below w.heap.size w w' := by
  have HX := Lib.hid hX
  clear hX
  go_enter Tryz.func55, Tryz.ntmps55
  go_wp2_with fail
  go_loopw [8] (fun i wr => ∃ k : Nat, k ≤ l.length ∧ i = .int .i64 (k : Int) ∧ Hid (∀ (j : Nat) (r : Prs), j < k → l[j]? = some r → (r.key == z) = false) ∧ Below w.heap.size w wr) (fun i _ => l.length - (intOf i).toNat)
  case atStart => exact ⟨0, Nat.zero_le _, rfl, Lib.hid (fun j r h => by omega), Below.refl _ _⟩
  case round =>
    obtain ⟨k, hk, rfl, hA, hB'⟩ := hrel
    by_cases hkt : k < l.length
    · obtain ⟨gx, off, r, rfl, hr, d0, d1, d2⟩ := (hR.keep hB').prs (k := k) hkt
      have hkl : (k : Int) < (l.length : Int) := by omega
      have K1 := Lib.hid (eby1_clo r z g wr (HX.out.keep hB'))
      have HT : Hid ((r.key == z) = false → ∀ (j : Nat) (r : Prs), j < k + 1 → l[j]? = some r → (r.key == z) = false) := Lib.hid fun h j x hj hx => by
        by_cases e : j = k
        · subst e; rw [hr.out] at hx; cases hx; exact h
        · exact hA.out j x (by omega) hx
      have HF : Hid ((r.key == z) = true → idxP (fun r => r.key == z) l = (k : Int)) := Lib.hid fun h => idxP_at hr.out h hA.out
      clear hA hR hr
      cases hz : (r.key == z) with
      | false =>
        rw [hz] at K1
        replace HT := Lib.hid (HT.out hz)
        clear hz HF
        go_wp2_with ((with_reducible refine K1.out.mono ?_); rintro e w1 ⟨rfl, hb1⟩)
        go_roundw
        case rel => exact ⟨k + 1, by omega, by go_num, HT, below_tr hB' hb1⟩
        case measure => simp [intOf]; omega
      | true =>
        rw [hz] at K1
        replace HF := Lib.hid (HF.out hz)
        clear hz HT
        go_wp2_with ((with_reducible refine K1.out.mono ?_); rintro e w1 ⟨rfl, hb1⟩)
        go_ret
        exact ⟨ret_int HF.out.symm, below_tr hB' hb1⟩
    · have hkl : ¬ (k : Int) < (l.length : Int) := by omega
      obtain rfl : k = l.length := by omega
      have HN := Lib.hid (idxP_none (f := fun r => r.key == z) hA.out)
      clear hA
      go_wp2
      go_ret
      exact ⟨ret_int HN.out.symm, hB'⟩
set_option maxRecDepth 100000 in
theorem eleave1_clo (r : Prs) (z : Int) (g : Nat) (w : World) (hX : Bx w g 3 [.int .i64 z]) :
    Calls Tryz.prog 48 #[prV r, .pointer (some ⟨g, 0, none⟩)] w fun e w' => e = .returned (.bool (r.id == z)) ∧ Below w.heap.size w w' := by
  have hX2 := hX.alloc (.cells #[.int .i64 r.id, .int .i64 r.key, .int .i64 r.dep] 43)
  have c0 := hX2.cell 0 (v := .int .i64 z) rfl
  have hb := (Below.refl w.heap.size w).alloc (Nat.le_refl _) (.cells #[.int .i64 r.id, .int .i64 r.key, .int .i64 r.dep] 43)
  clear hX hX2
  go_enter Tryz.func48, Tryz.ntmps48
  go_wp2
  go_ret
  exact ⟨rfl, hb⟩
set_option maxRecDepth 100000 in
set_option maxHeartbeats 1000000 in
theorem eleave1_idx (a : Option Addr) (l : List Prs) (c : Nat) (z : Int) (g : Nat) (w : World) (hX : Bx w g 3 [.int .i64 z]) (hR : Rd w a (rowsC prC l)) (hl : l.length ≤ 281474976710656) :
    Calls Tryz.prog 55 #[.slice a l.length c, .func (.func 48) #[] #[.pointer (some ⟨g, 0, none⟩)]] w fun e w' => e = .returned (.int .i64 (idxP (fun r => r.id == z) l)) ∧ Below w.heap.size w w' := by
  have HX := Lib.hid hX
  clear hX
  go_enter Tryz.func55, Tryz.ntmps55
  go_wp2_with fail
  go_loopw [8] (fun i wr => ∃ k : Nat, k ≤ l.length ∧ i = .int .i64 (k : Int) ∧ Hid (∀ (j : Nat) (r : Prs), j < k → l[j]? = some r → (r.id == z) = false) ∧ Below w.heap.size w wr) (fun i _ => l.length - (intOf i).toNat)
  case atStart => exact ⟨0, Nat.zero_le _, rfl, Lib.hid (fun j r h => by omega), Below.refl _ _⟩
  case round =>
    obtain ⟨k, hk, rfl, hA, hB'⟩ := hrel
    by_cases hkt : k < l.length
    · obtain ⟨gx, off, r, rfl, hr, d0, d1, d2⟩ := (hR.keep hB').prs (k := k) hkt
      have hkl : (k : Int) < (l.length : Int) := by omega
      have K1 := Lib.hid (eleave1_clo r z g wr (HX.out.keep hB'))
      have HT : Hid ((r.id == z) = false → ∀ (j : Nat) (r : Prs), j < k + 1 → l[j]? = some r → (r.id == z) = false) := Lib.hid fun h j x hj hx => by
        by_cases e : j = k
        · subst e; rw [hr.out] at hx; cases hx; exact h
        · exact hA.out j x (by omega) hx
      have HF : Hid ((r.id == z) = true → idxP (fun r => r.id == z) l = (k : Int)) := Lib.hid fun h => idxP_at hr.out h hA.out
      clear hA hR hr
      cases hz : (r.id == z) with
      | false =>
        rw [hz] at K1
        replace HT := Lib.hid (HT.out hz)
        clear hz HF
        go_wp2_with ((with_reducible refine K1.out.mono ?_); rintro e w1 ⟨rfl, hb1⟩)
        go_roundw
        case rel => exact ⟨k + 1, by omega, by go_num, HT, below_tr hB' hb1⟩
        case measure => simp [intOf]; omega
      | true =>
        rw [hz] at K1
        replace HF := Lib.hid (HF.out hz)
        clear hz HT
        go_wp2_with ((with_reducible refine K1.out.mono ?_); rintro e w1 ⟨rfl, hb1⟩)
        go_ret
        exact ⟨ret_int HF.out.symm, below_tr hB' hb1⟩
    · have hkl : ¬ (k : Int) < (l.length : Int) := by omega
      obtain rfl : k = l.length := by omega
      have HN := Lib.hid (idxP_none (f := fun r => r.id == z) hA.out)
      clear hA
      go_wp2
      go_ret
      exact ⟨ret_int HN.out.symm, hB'⟩
set_option maxRecDepth 100000 in
theorem eadd1_clo (r q : Prs) (g : Nat) (w : World) (hX : Bx w g 43 (prC q)) :
    Calls Tryz.prog 27 #[prV r, .pointer (some ⟨g, 0, none⟩)] w fun e w' => e = .returned (.bool (r.id == q.id || r.key == q.key)) ∧ Below w.heap.size w w' := by
  have hX2 := hX.alloc (.cells #[.int .i64 r.id, .int .i64 r.key, .int .i64 r.dep] 43)
  have c0 := hX2.cell 0 (v := .int .i64 q.id) rfl
  have c1 := hX2.cell 1 (v := .int .i64 q.key) rfl
  have hb := (Below.refl w.heap.size w).alloc (Nat.le_refl _) (.cells #[.int .i64 r.id, .int .i64 r.key, .int .i64 r.dep] 43)
  clear hX hX2
  cases t1 : (r.id == q.id) with
  | true =>
    go_enter Tryz.func27, Tryz.ntmps27
    go_wp2
    go_ret
    exact ⟨rfl, hb⟩
  | false =>
    go_enter Tryz.func27, Tryz.ntmps27
    go_wp2
    go_ret
    exact ⟨rfl, hb⟩
set_option maxRecDepth 100000 in
set_option maxHeartbeats 1000000 in
theorem eadd1_idx (a : Option Addr) (l : List Prs) (c : Nat) (q : Prs) (g : Nat) (w : World) (hX : Bx w g 43 (prC q)) (hR : Rd w a (rowsC prC l)) (hl : l.length ≤ 281474976710656) :
    Calls Tryz.prog 55 #[.slice a l.length c, .func (.func 27) #[] #[.pointer (some ⟨g, 0, none⟩)]] w fun e w' => e = .returned (.int .i64 (idxP (fun r => r.id == q.id || r.key == q.key) l)) ∧ Below w.heap.size w w' := by
  have HX := Lib.hid hX
  clear hX
  go_enter Tryz.func55, Tryz.ntmps55
  go_wp2_with fail
  go_loopw [8] (fun i wr => ∃ k : Nat, k ≤ l.length ∧ i = .int .i64 (k : Int) ∧ Hid (∀ (j : Nat) (r : Prs), j < k → l[j]? = some r → (r.id == q.id || r.key == q.key) = false) ∧ Below w.heap.size w wr) (fun i _ => l.length - (intOf i).toNat)
  case atStart => exact ⟨0, Nat.zero_le _, rfl, Lib.hid (fun j r h => by omega), Below.refl _ _⟩
  case round =>
    obtain ⟨k, hk, rfl, hA, hB'⟩ := hrel
    by_cases hkt : k < l.length
    · obtain ⟨gx, off, r, rfl, hr, d0, d1, d2⟩ := (hR.keep hB').prs (k := k) hkt
      have hkl : (k : Int) < (l.length : Int) := by omega
      have K1 := Lib.hid (eadd1_clo r q g wr (HX.out.keep hB'))
      have HT : Hid ((r.id == q.id || r.key == q.key) = false → ∀ (j : Nat) (r : Prs), j < k + 1 → l[j]? = some r → (r.id == q.id || r.key == q.key) = false) := Lib.hid fun h j x hj hx => by
        by_cases e : j = k
        · subst e; rw [hr.out] at hx; cases hx; exact h
        · exact hA.out j x (by omega) hx
      have HF : Hid ((r.id == q.id || r.key == q.key) = true → idxP (fun r => r.id == q.id || r.key == q.key) l = (k : Int)) := Lib.hid fun h => idxP_at hr.out h hA.out
      clear hA hR hr
      cases hz : (r.id == q.id || r.key == q.key) with
      | false =>
        rw [hz] at K1
        replace HT := Lib.hid (HT.out hz)
        clear hz HF
        go_wp2_with ((with_reducible refine K1.out.mono ?_); rintro e w1 ⟨rfl, hb1⟩)
        go_roundw
        case rel => exact ⟨k + 1, by omega, by go_num, HT, below_tr hB' hb1⟩
        case measure => simp [intOf]; omega
      | true =>
        rw [hz] at K1
        replace HF := Lib.hid (HF.out hz)
        clear hz HT
        go_wp2_with ((with_reducible refine K1.out.mono ?_); rintro e w1 ⟨rfl, hb1⟩)
        go_ret
        exact ⟨ret_int HF.out.symm, below_tr hB' hb1⟩
    · have hkl : ¬ (k : Int) < (l.length : Int) := by omega
      obtain rfl : k = l.length := by omega
      have HN := Lib.hid (idxP_none (f := fun r => r.id == q.id || r.key == q.key) hA.out)
      clear hA
      go_wp2
      go_ret
      exact ⟨ret_int HN.out.symm, hB'⟩
end Go.Proofs.YtnahkfchcminpaaGreatDoor
