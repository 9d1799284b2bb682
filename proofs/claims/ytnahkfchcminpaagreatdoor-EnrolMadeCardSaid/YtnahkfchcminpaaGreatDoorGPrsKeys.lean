/- The keys of a roll, as the reference lists them. -/
import Derived.Test.YtnahkfchcminpaaGreatDoorGRowsC
import Derived.Test.YtnahkfchcminpaaGreatDoorGAppAt
import Derived.Test.YtnahkfchcminpaaGreatDoorGEnrC
namespace Go.Proofs.YtnahkfchcminpaaGreatDoor
open Go.RowKit
theorem elPK : ElemOf Tryz.prog 22 3 (.int .i64 0) 1 8 := ⟨Tryz.underlying22, by kernel_rfl, rfl, by decide, by decide⟩
set_option maxRecDepth 100000 in
set_option maxHeartbeats 2000000 in
theorem rkeys_walk (P : Int) (a : Option Addr) (n c : Nat) (L : List Prs) (w : World) (hR : Rd w a (rowsC prC L)) (hL : L.length = n) (hn : n ≤ 100000) :
    Calls Tryz.prog 45 #[.agg #[.int .i64 P, .slice a n c]] w fun e w' => ∃ a' c', e = .returned (.slice a' n c') ∧ Ow w' w.heap.size 1 a' n c' (ints (L.map Prs.key)) ∧ Below w.heap.size w w' := by
  have hb0 := (Below.refl w.heap.size w).alloc (Nat.le_refl _) (.cells #[.int .i64 P, .slice a n c] 30)
  have hG := Bx.new w 30 [.int .i64 P, .slice a n c]
  change Bx (w.alloc (.cells #[.int .i64 P, .slice a n c] 30)) _ _ _ at hG
  have hR0 := hR.keep hb0
  go_enter Tryz.func45, Tryz.ntmps45
  go_upto_region 1 with (fail)
  generalize w.alloc (.cells #[.int .i64 P, .slice a n c] 30) = w0 at *
  obtain ⟨gb, hgb⟩ : ∃ g, g = w.heap.size := ⟨_, rfl⟩
  rw [← hgb] at hG ⊢
  have HGB := Lib.hid (Nat.le_of_eq hgb.symm)
  clear hR hgb
  go_wp2_with fail
  go_loopw [3, 4] (fun v i wr => ∃ (k : Nat) (b : Option Addr) (d : Nat) (M : List Int), k ≤ n ∧ i = .int .i64 (k : Int) ∧ v = .slice b k d ∧ Hid (M = (L.take k).map Prs.key) ∧ Ow wr w0.heap.size 1 b k d (ints M) ∧ Below w0.heap.size w0 wr) (fun _ i _ => n - (intOf i).toNat)
  case atStart => exact ⟨0, none, 0, [], by omega, rfl, rfl, Lib.hid rfl, Ow.nil _ _ _, Below.refl _ _⟩
  case round =>
    obtain ⟨k, b, d, M, hk, rfl, rfl, hM, hO, hBB⟩ := hrel
    have hGr := hG.keep hBB
    have c1 := hGr.cell 1 (v := .slice a n c) rfl
    have hgl := hGr.lt
    have hgw := HGB.out
    by_cases hkn : k < n
    · have hkl : (k : Int) < (n : Int) := by omega
      obtain ⟨g, off, x, rfl, hx, hcell⟩ := (hR0.keep hBB).rows (f := prC) (k := 3) prC_len (by decide) (i := k) (by rw [hL]; exact hkn)
      have d1 := hcell 1 (.int .i64 x.key) rfl
      have hMs : Hid (M ++ [x.key] = (L.take (k + 1)).map Prs.key) := by show _ = _; rw [take_at hx, List.map_append, hM.out]; rfl
      clear hM hx hcell hR0
      go_wp2_with (at_builtin; refine wpList_app1 (w0 := w0) (B := w0.heap.size) rfl _ _ _ rfl elPK rfl hO hBB (Nat.le_refl _) hBB.size rfl (by rfl) (one1 rfl) (by omega) ?_)
      intro b' d' w3 hO3 hBB3 hg3
      rw [ints_snoc] at hO3
      generalize M ++ [x.key] = M2 at *
      clear hO hBB hGr c1 d1 hg3
      go_wp2_with fail
      go_roundw
      case rel => exact ⟨k + 1, b', d', M2, by omega, by go_num, rfl, hMs, hO3, hBB3⟩
      case measure => simp [intOf]; omega
    · have hkl : ¬ (k : Int) < (n : Int) := by omega
      obtain rfl : k = n := by omega
      have hMM : M = L.map Prs.key := by rw [hM.out, ← hL, List.take_length]
      subst hMM
      clear hM
      go_wp2
      go_ret
      exact ⟨b, d, rfl, hO.lower hb0.size, hb0.trans (hBB.mono hb0.size)⟩
end Go.Proofs.YtnahkfchcminpaaGreatDoor
/- Rolls: whether a person is there (slices.ContainsFunc), and the keys: the program's. -/
namespace Go.Proofs.YtnahkfchcminpaaGreatDoor
open Go.RowKit
theorem idxP_any (f : Prs → Bool) (l : List Prs) : decide (idxP f l ≥ 0) = l.any f := by
  cases h : l.findIdx? f with
  | some k =>
    obtain ⟨hk, hp, _⟩ := List.findIdx?_eq_some_iff_getElem.1 h
    rw [show l.any f = true from List.any_eq_true.2 ⟨l[k], List.getElem_mem hk, hp⟩, idxP, h]
    exact decide_eq_true (by show (k : Int) ≥ 0; omega)
  | none =>
    have hn := List.findIdx?_eq_none_iff.1 h
    rw [show l.any f = false from List.any_eq_false.2 fun x hx => by rw [hn x hx]; simp, idxP, h]
    rfl
set_option maxRecDepth 100000 in
theorem ehas_walk (a : Option Addr) (l : List Prs) (c : Nat) (q : Prs) (g : Nat) (w : World) (hX : Bx w g 43 (prC q)) (hR : Rd w a (rowsC prC l)) (hl : l.length ≤ 281474976710656) :
    Calls Tryz.prog 30 #[.slice a l.length c, .func (.func 27) #[] #[.pointer (some ⟨g, 0, none⟩)]] w fun e w' => e = .returned (.bool (l.any fun r => r.id == q.id || r.key == q.key)) ∧ Below w.heap.size w w' := by
  have HI := Lib.hid (eadd1_idx a l c q g w hX hR hl)
  have hA := idxP_any (fun r => r.id == q.id || r.key == q.key) l
  generalize idxP (fun r => r.id == q.id || r.key == q.key) l = ix at *
  generalize l.any (fun r => r.id == q.id || r.key == q.key) = b at *
  have HA := Lib.hid hA
  clear hA hX hR
  go_enter Tryz.func30, Tryz.ntmps30
  go_wp2_with (go_at_call 55; (with_reducible refine HI.out.mono ?_))
  rintro e w1 ⟨rfl, hb1⟩
  go_wp2
  go_ret
  exact ⟨by rw [← HA.out]; rfl, hb1⟩
set_option maxRecDepth 100000 in
set_option maxHeartbeats 2000000 in
theorem ekeys_walk (P : Int) (a : Option Addr) (n c : Nat) (L : List Prs) (w : World) (hR : Rd w a (rowsC prC L)) (hL : L.length = n) (hn : n ≤ 100000) :
    Calls Tryz.prog 44 #[.agg #[.int .i64 P, .slice a n c]] w fun e w' => ∃ a' c', e = .returned (.slice a' n c') ∧ Ow w' w.heap.size 1 a' n c' (ints (L.map Prs.key)) ∧ Below w.heap.size w w' := by
  have hb0 := (Below.refl w.heap.size w).alloc (Nat.le_refl _) (.cells #[.int .i64 P, .slice a n c] 30)
  have hG := Bx.new w 30 [.int .i64 P, .slice a n c]
  change Bx (w.alloc (.cells #[.int .i64 P, .slice a n c] 30)) _ _ _ at hG
  have hR0 := hR.keep hb0
  go_enter Tryz.func44, Tryz.ntmps44
  go_upto_region 1 with (fail)
  generalize w.alloc (.cells #[.int .i64 P, .slice a n c] 30) = w0 at *
  obtain ⟨gb, hgb⟩ : ∃ g, g = w.heap.size := ⟨_, rfl⟩
  rw [← hgb] at hG ⊢
  have HGB := Lib.hid (Nat.le_of_eq hgb.symm)
  have c1 := hG.cell 1 (v := .slice a n c) rfl
  clear hR hgb hG
  go_wp2_with fail
  clear c1
  go_loopw [3, 9] (fun v i wr => ∃ (k : Nat) (b : Option Addr) (d : Nat) (M : List Int), k ≤ n ∧ i = .int .i64 (k : Int) ∧ v = .slice b k d ∧ Hid (M = (L.take k).map Prs.key) ∧ Ow wr w0.heap.size 1 b k d (ints M) ∧ Below w0.heap.size w0 wr) (fun _ i _ => n - (intOf i).toNat)
  case atStart => exact ⟨0, none, 0, [], by omega, rfl, rfl, Lib.hid rfl, Ow.nil _ _ _, Below.refl _ _⟩
  case round =>
    obtain ⟨k, b, d, M, hk, rfl, rfl, hM, hO, hBB⟩ := hrel
    by_cases hkn : k < n
    · have hkl : (k : Int) < (n : Int) := by omega
      obtain ⟨g, off, x, rfl, hx, d0, d1, d2⟩ := (hR0.keep hBB).prs (k := k) (by rw [hL]; exact hkn)
      have hMs : Hid (M ++ [x.key] = (L.take (k + 1)).map Prs.key) := by show _ = _; rw [take_at hx, List.map_append, hM.out]; rfl
      have hb1 := (Below.refl wr.heap.size wr).alloc (Nat.le_refl _) (.cells #[.int .i64 x.id, .int .i64 x.key, .int .i64 x.dep] 43)
      have hbx := Bx.new wr 43 (prC x)
      replace hO := hO.keep hb1
      replace hBB := hBB.trans (hb1.mono hBB.size)
      go_upto_region 5 with (fail)
      change Bx (wr.alloc (.cells #[.int .i64 x.id, .int .i64 x.key, .int .i64 x.dep] 43)) _ _ _ at hbx
      generalize wr.alloc (.cells #[.int .i64 x.id, .int .i64 x.key, .int .i64 x.dep] 43) = w1 at *
      generalize wr.heap.size = gx at *
      have e1 := hbx.cell 1 (v := .int .i64 x.key) rfl
      clear hM hx d0 d1 d2 hR0 hb1 hbx
      go_wp2_with (at_builtin; refine wpList_app1 (w0 := w0) (B := w0.heap.size) rfl _ _ _ rfl elPK rfl hO hBB (Nat.le_refl _) hBB.size rfl (by rfl) (one1 rfl) (by omega) ?_)
      intro b' d' w3 hO3 hBB3 hg3
      rw [ints_snoc] at hO3
      generalize M ++ [x.key] = M2 at *
      clear hO hBB e1 hg3
      go_wp2_with fail
      go_roundw
      case rel => exact ⟨k + 1, b', d', M2, by omega, by go_num, rfl, hMs, hO3, hBB3⟩
      case measure => simp [intOf]; omega
    · have hkl : ¬ (k : Int) < (n : Int) := by omega
      obtain rfl : k = n := by omega
      have hMM : M = L.map Prs.key := by rw [hM.out, ← hL, List.take_length]
      subst hMM
      clear hM
      go_wp2
      go_ret
      exact ⟨b, d, rfl, hO.lower hb0.size, hb0.trans (hBB.mono hb0.size)⟩
end Go.Proofs.YtnahkfchcminpaaGreatDoor
