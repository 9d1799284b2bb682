/- Offices: slices.Clone and slices.Insert at their rows. -/
import Derived.Test.YtekhepklaokaiaaDoorGTokA
import Derived.Test.YtekhepklaokaiaaDoorCopyK
import Derived.Test.YtekhepklaokaiaaDoorBk
import Derived.Lib.SliceRun
namespace Go.Proofs.YtekhepklaokaiaaDoor
open Go.RowKit
theorem el_is : ElemOf Tryd.prog 33 57 (.agg #[.int .i64 0, .int .i64 0, .int .i64 0]) 3 24 := ⟨Tryd.underlying33, by kernel_rfl, rfl, by decide, by decide⟩
theorem Ow.empty (w : World) (e : TypeId) (size : Nat) : Ow (w.alloc (.cells #[] e)) w.heap.size size (some ⟨w.heap.size, 0, none⟩) 0 0 [] :=
  ⟨by simp, Nat.le_refl _, Nat.zero_le _, .inr ⟨_, _, rfl, Nat.le_refl _, by simp, fun j u hj => by simp at hj, fun j hj => by omega⟩⟩
set_option maxRecDepth 100000 in
set_option maxHeartbeats 1000000 in
theorem iclone_walk (a : Option Addr) (l : List Iss) (cap : Nat) (w : World) (hR : Rd w a (rowsC isC l)) (hn : l.length ≤ 1000000) :
    Calls Tryd.prog 26 #[.slice a l.length cap] w fun e w' => ∃ a' cap', e = .returned (.slice a' l.length cap') ∧ Ow w' w.heap.size 3 a' l.length cap' (rowsC isC l) ∧ Below w.heap.size w w' := by
  cases a with
  | none =>
    have h0 : l = [] := by
      cases l with
      | nil => rfl
      | cons r l =>
        obtain ⟨g, off, ha, _⟩ := hR 0 (.int .i64 r.per) rfl
        cases ha
    subst h0
    have he := Lib.run_eql_slice_nil (P := Tryd.prog) w 33 57 none 0 cap 0 0 Tryd.underlying33
    rw [List.length_nil]
    go_enter Tryd.func26, Tryd.ntmps26
    go_wp2
    go_ret
    exact ⟨none, 0, rfl, Ow.nil _ _ _, Below.refl _ _⟩
  | some p =>
    have hw1 := (Below.refl w.heap.size w).alloc (Nat.le_refl _) (.cells #[] 57)
    have hO := Ow.empty w 57 3
    have hR1 := hR.keep hw1
    have hrl := rowsC_length isC_len l
    have he := Lib.run_eql_slice_nil (P := Tryd.prog) w 33 57 (some p) l.length cap 0 0 Tryd.underlying33
    go_enter Tryd.func26, Tryd.ntmps26
    go_wp2_with (at_builtin; refine wpList_apps (w0 := w) (B := w.heap.size) rfl _ _ _ _ rfl el_is rfl hO hw1 (Nat.le_refl _) hw1.size rfl (Src.slice Tryd.underlying33 hrl hR1 (rowsC_one isC_one l)) (by omega) ?_)
    intro a' cap' w2 hO2 hb2 _
    go_wp2
    go_ret
    exact ⟨a', cap', rfl, hO2, hb2⟩
theorem Bx.rd {w : World} {g : Nat} {t : TypeId} {cs : List Value} (h : Bx w g t cs) : Rd w (some ⟨g, 0, none⟩) cs := Rd.mk fun j u hj => by rw [Nat.zero_add]; exact h.cell j hj
theorem Bx.shape {w : World} {g : Nat} {t : TypeId} {cs : List Value} (h : Bx w g t cs) : w.shape? g = some (t, cs.length) := by unfold World.shape?; rw [show w.heap[g]? = _ from h]; rfl
theorem Ow.shape {w : World} {base size g off n cap : Nat} {xs : List Value} (h : Ow w base size (some ⟨g, off, none⟩) n cap xs) (h0 : 0 < cap * size) : ∃ t k, w.shape? g = some (t, k) ∧ k ≠ 0 := by
  obtain ⟨hl, hc, hm, ⟨h1, _⟩ | ⟨g', off', ha, hb, hgs, hx, hf⟩⟩ := h
  · simp at h1
  simp only [Option.some.injEq, Addr.mk.injEq, and_true] at ha
  obtain ⟨rfl, rfl⟩ := ha
  have h1 := (hf 0 h0).1
  unfold World.cell? at h1
  unfold World.shape?
  split at h1
  · rename_i c t e heq
    refine ⟨t, c.size, by rw [heq], ?_⟩
    intro hz
    simp at h1
    omega
  · simp at h1
set_option maxRecDepth 100000 in
set_option maxHeartbeats 4000000 in
/-- slices.Insert of one row -/
theorem iinsert_walk (base : Nat) (a : Option Addr) (l : List Iss) (cap i vb : Nat) (z : Iss) (w : World) (hO : Ow w base 3 a l.length cap (rowsC isC l)) (hbase : base ≤ w.heap.size) (hn : l.length ≤ 1000000) (hi : i ≤ l.length) (hv : Bx w vb 57 (isC z)) (hne : rowOf a ≠ some vb) :
    Calls Tryd.prog 29 #[.slice a l.length cap, .int .i64 (i : Int), .slice (some ⟨vb, 0, none⟩) 1 1] w fun e w' => ∃ a' cap', e = .returned (.slice a' (l.length + 1) cap') ∧ Ow w' base 3 a' (l.length + 1) cap' (rowsC isC (l.take i ++ z :: l.drop i)) ∧ w.grownBy w' (rowOf a) := by
  have hcap := hO.2.1
  have hcm := hO.2.2.1
  unfold maxLen at hcm
  have hrl := rowsC_length isC_len l
  by_cases hin : i = l.length
  · subst hin
    have hS := Src.slice (P := Tryd.prog) Tryd.underlying33 (c := 1) (m := 1) (size := 3) rfl hv.rd (isC_one z)
    have he : rowsC isC (l.take l.length ++ z :: l.drop l.length) = rowsC isC l ++ isC z := by rw [List.take_length, List.drop_length, rowsC_append, rowsC_single]
    have HE := Lib.hid he
    clear he
    rcases a with _ | ⟨g, off, sp⟩
    · have h0 : l = [] := by
        cases l with
        | nil => rfl
        | cons r l =>
          obtain ⟨g, off, ha, _⟩ := hO.rd 0 (.int .i64 r.per) rfl
          cases ha
      subst h0
      go_enter Tryd.func29, Tryd.ntmps29
      go_wp2_with (at_builtin; refine wpList_apps (w0 := w) (B := 0) rfl _ _ _ _ rfl el_is rfl hO (Below.refl _ _) (Nat.zero_le _) hbase rfl hS (by simp) ?_)
      intro a' cap' w2 hO2 hb2 hg2
      rw [← HE.out] at hO2
      go_wp2
      go_ret
      exact ⟨a', cap', rfl, hO2, hg2⟩
    · go_enter Tryd.func29, Tryd.ntmps29
      go_wp2_with (at_builtin; refine wpList_apps (w0 := w) (B := 0) rfl _ _ _ _ rfl el_is rfl hO (Below.refl _ _) (Nat.zero_le _) hbase rfl hS (by omega) ?_)
      all_goals
        intro a' cap' w2 hO2 hb2 hg2
        rw [← HE.out] at hO2
        go_wp2
        go_ret
        exact ⟨a', cap', rfl, hO2, hg2⟩
  · obtain ⟨g, off, rfl⟩ : ∃ g off, a = some ⟨g, off, none⟩ := by
      obtain ⟨g, off, x, ha, _⟩ := hO.rd.rows isC_len (by decide) (i := i) (by omega)
      exact ⟨g, off, ha⟩
    have hne' : vb ≠ g := fun e => hne (by simp [rowOf, e])
    obtain ⟨tB, kB, hsb, hkB⟩ := hO.shape (by omega)
    have hsa := hv.shape
    have hfa := hv.free 0
    have hfe := hv.free (isC z).length
    have hov : ∀ o lb cb, (callFunc 43 #[.slice (some ⟨vb, 0, none⟩) 1 1, .slice (some ⟨g, o, none⟩) lb cb]).run Tryd.prog w = .ok (.value (.bool false)) w := fun o lb cb => by
      rw [run_callFunc_extern (P := Tryd.prog) Tryd.func43 (by kernel_rfl) (by kernel_rfl) (by kernel_rfl) (e := Extern.SlicesOverlaps.overlaps #[33, 33] #[4]) (by kernel_rfl),
        Lib.run_overlaps_apart w 33 4 57 Tryd.underlying33 3 (fun _ => by kernel_rfl) ⟨vb, 0, none⟩ ⟨g, o, none⟩ 1 1 lb cb hne' _ tB _ kB hsa hsb hkB hfa hfe]
      rfl
    have hil : i < l.length := by omega
    have hz1 : ¬ ((i : Int) = (l.length : Int)) := by omega
    have hw1 : IntKind.i64.wrap ((i : Int) + 1) = (i : Int) + 1 := by rw [IntKind.wrap_i64]; omega
    have hb1 : (0 : Int) ≤ (i : Int) + 1 := by omega
    have htn : ((i : Int) + 1).toNat = i + 1 := by omega
    have hb3 : (i : Int) ≤ (l.length : Int) := by omega
    have hb4 : ¬ (cap = i) := by omega
    clear hi hin
    by_cases hroom : l.length + 1 ≤ cap
    · have hb2 : ¬ (cap = i + 1) := by omega
      have hb5 : (i : Int) ≤ (l.length : Int) + 1 := by omega
      have hS := (show Ow w.drew base 3 (some ⟨g, off, none⟩) l.length cap (rowsC isC l) from hO).shift isC_len (i := i) (z := z) (by omega) hroom
      rw [show off + (i * 3 + 3) = off + (i + 1) * 3 by omega] at hS
      have hsl := (show Ow w.drew base 3 (some ⟨g, off, none⟩) l.length cap (rowsC isC l) from hO).both
      have hdl : (rowsC isC (l.drop i)).length = (l.length - i) * 3 := by rw [rowsC_length isC_len, List.length_drop]
      have hc4 : (l.length + 1) * 3 ≤ cap * 3 := by omega
      have hp0 : ∀ j, j < (rowsC isC (l.drop i)).length → (w.drew.cell? ⟨g, off + (i + 1) * 3 + j, none⟩).isSome = true := fun j hj => by
        rw [show off + (i + 1) * 3 + j = off + ((i + 1) * 3 + j) by omega]; exact (hsl.2 _ (by omega)).1
      have hcp1 : ∀ ty dc sc, (Builtin.copy_ #[33, 33] ty #[.slice (some ⟨g, off + (i + 1) * 3, none⟩) (l.length - i) dc, .slice (some ⟨g, off + i * 3, none⟩) (l.length + 1 - i) sc]).run Tryd.prog w.drew = .ok (goInt ((l.length - i : Nat) : Int)) (w.drew.setCells g (off + (i + 1) * 3) (rowsC isC (l.drop i))) := fun ty dc sc =>
        run_copy_k w.drew _ _ ty 57 g (off + (i + 1) * 3) _ dc ⟨g, off + i * 3, none⟩ _ sc 3 _ (rowsC isC (l.drop i)) Tryd.underlying33 (by kernel_rfl) (by simp only [Nat.min_def]; split <;> omega) hdl
          (fun j v hj => by
            rw [Addr.add_lit, show off + i * 3 + j = off + (i * 3 + j) by omega]
            rw [rowsC_drop isC_len, List.getElem?_drop] at hj
            exact hsl.1 _ v hj) hp0 (fun j hj => by rw [show off + (i + 1) * 3 + j = off + ((i + 1) * 3 + j) by omega]; exact (hsl.2 _ (by omega)).2) (rowsC_one isC_one _)
      obtain ⟨W1, hW1⟩ : ∃ W1, W1 = w.drew.setCells g (off + (i + 1) * 3) (rowsC isC (l.drop i)) := ⟨_, rfl⟩
      have hvr : Rd W1 (some ⟨vb, 0, none⟩) (isC z) := by rw [hW1]; exact (Rd.grown (w := w.drew) hv.rd (grownBy_setCells _ _ _ _) (fun g' o' e => by cases e; simpa using hne'))
      have hp1 : ∀ j, j < cap * 3 → (W1.cell? ⟨g, off + j, none⟩).isSome = true ∧ W1.frozen? ⟨g, off + j, none⟩ = false := fun j hj => by
        rw [hW1]
        exact ⟨isSome_setC g _ _ _ hp0 _ (hsl.2 j hj).1, by rw [World.frozen?_setCells]; exact (hsl.2 j hj).2⟩
      have hcp2 : ∀ ty dc, (Builtin.copy_ #[33, 33] ty #[.slice (some ⟨g, off + i * 3, none⟩) (l.length + 1 - i) dc, .slice (some ⟨vb, 0, none⟩) 1 1]).run Tryd.prog W1 = .ok (goInt ((1 : Nat) : Int)) (W1.setCells g (off + i * 3) (isC z)) := fun ty dc =>
        run_copy_k W1 _ _ ty 57 g (off + i * 3) _ dc ⟨vb, 0, none⟩ _ 1 3 1 (isC z) Tryd.underlying33 (by kernel_rfl) (by simp only [Nat.min_def]; split <;> omega) rfl
          (fun j v hj => by
            obtain ⟨g', o', e, hc⟩ := hvr j v hj
            cases e
            rw [Addr.add_lit]; exact hc)
          (fun j hj => by rw [isC_len] at hj; rw [Nat.add_assoc]; exact (hp1 _ (by omega)).1) (fun j hj => by rw [isC_len] at hj; rw [Nat.add_assoc]; exact (hp1 _ (by omega)).2) (isC_one z)
      rw [← hW1] at hcp1 hS
      clear hp0 hp1 hsl hdl hvr hW1 hsa hsb hfa hfe hv hO
      go_enter Tryd.func29, Tryd.ntmps29
      go_wp2_with (simp only [hov])
      go_region_law (refine step_copy_eq rfl _ _ 33 33 rfl _ _ (by simp [Act.eval, Act.put]) (by simp [Act.eval, Act.put]) (hcp1 _ _ _) ?_)
      go_wp2_with (at_builtin; refine wpList_copy_eq _ rfl _ _ 33 33 rfl _ _ rfl rfl (hcp2 _ _) ?_)
      go_ret
      exact ⟨_, _, rfl, hS.1, ⟨hS.2.os, hS.2.tape, hS.2.output, hS.2.size, hS.2.block⟩⟩
    · obtain ⟨i0, hi0, hz0, hzs, hzb⟩ := info_parts el_is.i
      have hsl := hO.both
      have htl : (rowsC isC (l.take i)).length = i * 3 := by rw [rowsC_length isC_len, List.length_take, Nat.min_eq_left (by omega)]
      have hold : (Builtin.firstCells i0.size i (.slice (some ⟨g, off, none⟩) i cap)).run Tryd.prog w.drew = .ok (rowsC isC (l.take i)).toArray w.drew := by
        rw [hzs]
        exact run_firstCells_some w.drew 3 i ⟨g, off, none⟩ i cap (rowsC isC (l.take i)) (by omega) (fun j v hj => by
          rw [Addr.add_lit]
          rw [rowsC_take isC_len, List.getElem?_take] at hj
          split at hj
          · exact hsl.1 j v hj
          · cases hj)
      have hgr := grownCap_ge w (l.length + 1) cap 57
      have hgm := grownCap_le_maxLen w (l.length + 1) cap 57 (by unfold maxLen; omega)
      have hrz : ∀ ty, (Builtin.append_ #[33, 3] ty #[.slice (some ⟨g, off, none⟩) i cap, .int .i64 ((l.length : Int) + 1 - (i : Int))]).run Tryd.prog w =
          .ok (.slice (some ⟨w.heap.size, 0, none⟩) (l.length + 1) (grownCap w (l.length + 1) cap 57)) (w.drew.alloc (.cells ((rowsC isC (l.take i)).toArray ++ Builtin.zeroCells (Value.agg #[.int .i64 0, .int .i64 0, .int .i64 0]).cells (l.length + 1 - i) ++ Builtin.zeroCells (Value.agg #[.int .i64 0, .int .i64 0, .int .i64 0]).cells (grownCap w (l.length + 1) cap 57 - (l.length + 1))) 57)) := fun ty => by
        have h := Lib.run_append_grow_zeros w 33 3 ty 57 i0 _ .i64 .i64 Tryd.underlying33 Tryd.underlying3 hi0 hz0 (some ⟨g, off, none⟩) i cap (rowsC isC (l.take i)) hold (l.length + 1 - i) (by omega) (by omega) (by omega) (by omega) (by rw [hzb]; omega) (by rw [hzb, show i + (l.length + 1 - i) = l.length + 1 by omega]; exact growslice_fits (by omega) (by omega))
        rw [show i + (l.length + 1 - i) = l.length + 1 by omega, show ((l.length + 1 - i : Nat) : Int) = (l.length : Int) + 1 - (i : Int) by omega] at h
        exact h
      generalize grownCap w (l.length + 1) cap 57 = G at *
      obtain ⟨R, hR⟩ : ∃ R : Array Value, R = (rowsC isC (l.take i)).toArray ++ Builtin.zeroCells (Value.agg #[.int .i64 0, .int .i64 0, .int .i64 0]).cells (l.length + 1 - i) ++ Builtin.zeroCells (Value.agg #[.int .i64 0, .int .i64 0, .int .i64 0]).cells (G - (l.length + 1)) := ⟨_, rfl⟩
      have hRs : R.size = G * 3 := by
        rw [hR]; simp only [Array.size_append, List.size_toArray, size_zeroCells, htl]
        show i * 3 + (l.length + 1 - i) * 3 + (G - (l.length + 1)) * 3 = G * 3
        omega
      have hRx : ∀ (j : Nat) (u : Value), (rowsC isC (l.take i))[j]? = some u → R[j]? = some u := fun j u hj => by
        have hjl := (List.getElem?_eq_some_iff.1 hj).1
        rw [hR, Array.append_assoc, Array.getElem?_append_left (by simpa using hjl)]
        simpa using hj
      rw [← hR] at hrz
      have hF := Ow.fresh (w := w.drew) (base := base) (cap := G) (i := i) (e := 57) (l := l) (z := z) isC_len hbase (by omega) hgr hgm hRs hRx
      rw [show (w.drew).heap.size = w.heap.size from rfl, show i * 3 + 3 = (i + 1) * 3 by omega] at hF
      have hvw : vb < w.heap.size := hv.lt
      have hgw : g < w.heap.size := (hO.row g rfl).2
      obtain ⟨W1, hW1⟩ : ∃ W1, W1 = w.drew.alloc (.cells R 57) := ⟨_, rfl⟩
      have hN : ∀ j, j < G * 3 → (W1.cell? ⟨w.heap.size, j, none⟩).isSome = true ∧ W1.frozen? ⟨w.heap.size, j, none⟩ = false := fun j hj => by
        rw [hW1]
        exact ⟨by rw [World.cell?_alloc_at (w := w.drew) R _ w.heap.size j rfl, Array.getElem?_eq_getElem (by omega)]; rfl, World.frozen?_alloc_at (w := w.drew) R _ w.heap.size j rfl⟩
      have hbW : Below w.heap.size w W1 := by rw [hW1]; exact ((Below.refl w.heap.size w).drew).alloc (Nat.le_refl _) _
      have hvr := (hv.keep hbW).rd
      have hlr := hO.rd.keep hbW
      have hdl : (rowsC isC (l.drop i)).length = (l.length - i) * 3 := by rw [rowsC_length isC_len, List.length_drop]
      have hcp1 : ∀ ty dc, (Builtin.copy_ #[33, 33] ty #[.slice (some ⟨w.heap.size, i * 3, none⟩) (l.length + 1 - i) dc, .slice (some ⟨vb, 0, none⟩) 1 1]).run Tryd.prog W1 = .ok (goInt ((1 : Nat) : Int)) (W1.setCells w.heap.size (i * 3) (isC z)) := fun ty dc =>
        run_copy_k W1 _ _ ty 57 w.heap.size (i * 3) _ dc ⟨vb, 0, none⟩ _ 1 3 1 (isC z) Tryd.underlying33 (by kernel_rfl) (by simp only [Nat.min_def]; split <;> omega) rfl
          (fun j v hj => by
            obtain ⟨g', o', e, hc⟩ := hvr j v hj
            cases e
            rw [Addr.add_lit]; exact hc)
          (fun j hj => by rw [isC_len] at hj; exact (hN _ (by omega)).1) (fun j hj => by rw [isC_len] at hj; exact (hN _ (by omega)).2) (isC_one z)
      obtain ⟨W2, hW2⟩ : ∃ W2, W2 = W1.setCells w.heap.size (i * 3) (isC z) := ⟨_, rfl⟩
      have hN2 : ∀ j, j < G * 3 → (W2.cell? ⟨w.heap.size, j, none⟩).isSome = true ∧ W2.frozen? ⟨w.heap.size, j, none⟩ = false := fun j hj => by
        rw [hW2]
        exact ⟨isSome_setC _ _ _ _ (fun j hj => by rw [isC_len] at hj; exact (hN _ (by omega)).1) _ (hN j hj).1, by rw [World.frozen?_setCells]; exact (hN j hj).2⟩
      have hlr2 : Rd W2 (some ⟨g, off, none⟩) (rowsC isC l) := by rw [hW2]; exact hlr.grown (grownBy_setCells _ _ _ _) (fun g' o' e => by cases e; simp; omega)
      have hcp2 : ∀ ty dc sc, (Builtin.copy_ #[33, 33] ty #[.slice (some ⟨w.heap.size, (i + 1) * 3, none⟩) (l.length - i) dc, .slice (some ⟨g, off + i * 3, none⟩) (l.length - i) sc]).run Tryd.prog W2.drew = .ok (goInt ((l.length - i : Nat) : Int)) (W2.drew.setCells w.heap.size ((i + 1) * 3) (rowsC isC (l.drop i))) := fun ty dc sc =>
        run_copy_k W2.drew _ _ ty 57 w.heap.size ((i + 1) * 3) _ dc ⟨g, off + i * 3, none⟩ _ sc 3 _ (rowsC isC (l.drop i)) Tryd.underlying33 (by kernel_rfl) (by simp only [Nat.min_def]; split <;> omega) hdl
          (fun j v hj => by
            obtain ⟨g', o', e, hc⟩ := (hlr2.rowsDrop isC_len i) j v hj
            cases e
            rw [Addr.add_lit]; exact hc)
          (fun j hj => (hN2 _ (by omega)).1) (fun j hj => (hN2 _ (by omega)).2) (rowsC_one isC_one _)
      rw [← hW1, ← hW2] at hF
      rw [← hW1] at hrz
      rw [← hW2] at hcp1
      have hgi : ¬ (G = i) := by omega
      have hgi1 : ¬ (G = i + 1) := by omega
      have hg63 : G ≤ 9223372036854775807 := by unfold maxLen at hgm; omega
      have hnr : (cap : Int) < (l.length : Int) + 1 := by omega
      have hb6 : (i : Int) ≤ (l.length : Int) + 1 := by omega
      clear hW1 hW2 hN hN2 hlr hlr2 hvr hbW hsl htl hold hR hRs hRx hdl hsa hsb hfa hfe hv hO hov hgm hi0 hz0 hzs hzb hrl
      go_enter Tryd.func29, Tryd.ntmps29
      go_wp2_with (first
        | (at_builtin; refine Lib.wpList_append_run _ rfl _ _ _ _ rfl _ _ rfl rfl _ _ (hrz _) ?_)
        | (at_builtin; refine wpList_copy_eq _ rfl _ _ 33 33 rfl _ _ rfl rfl (hcp1 _ _) ?_))
      go_region_law (refine step_copy_eq rfl _ _ 33 33 rfl _ _ (by simp [Act.eval, Act.put]) (by simp [Act.eval, Act.put]) (hcp2 _ _ _) ?_)
      go_wp2
      go_ret
      rw [← drew_setC]
      exact ⟨_, _, rfl, hF.1, below_grownBy (((Below.refl w.heap.size w).drew.trans hF.2).drew) _⟩
end Go.Proofs.YtekhepklaokaiaaDoor
