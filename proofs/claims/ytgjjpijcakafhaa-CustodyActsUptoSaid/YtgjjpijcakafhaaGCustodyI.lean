/- Chains of records: the way of a digest: the program's. -/
import Derived.Test.YtgjjpijcakafhaaGAppStep
namespace Go.Proofs.Ytgjjpijcakafhaa
open Go.RowKit
theorem below_one {w w1 : World} (hb : Below w.heap.size w w1) (o : Obj) : Below w.heap.size w (w1.alloc o) := hb.alloc hb.size o
theorem Ow.ext {w : World} {base size : Nat} {a : Option Addr} {n cap : Nat} {xs : List Value} (h : Ow w base size a n cap xs) (o : Obj) : Ow (w.alloc o) base size a n cap xs := h.keep ((Below.refl _ _).alloc (Nat.le_refl _) o)
/-- the one string of a new block -/
theorem Rd.one {w : World} {g : Nat} {s : List UInt8} (h : w.cell? ⟨g, 0, none⟩ = some (.string ⟨s.toArray⟩)) : Rd w (some ⟨g, 0, none⟩) (strs [s]) := Rd.mk fun j u hj => by
  cases j with
  | zero => simp [strs] at hj; rw [← hj]; exact h
  | succ j => simp [strs] at hj
theorem one_strs (l : List (List UInt8)) : ∀ u ∈ strs l, u.oneCell' = true := by
  intro u hu; obtain ⟨_, _, rfl⟩ := List.mem_map.1 hu; rfl
set_option maxRecDepth 100000 in
set_option maxHeartbeats 1000000 in
theorem way_walk (N : Nat) : ∀ (a : Option Addr) (l : List (List UInt8)) (n i cap : Nat) (w : World), l.length ≤ N → n = l.length → Rd w a (strs l) → n ≤ cap → n ≤ 100000 → i < n → (∀ x ∈ l, x.length ≤ 32) →
    Calls Try.prog 50 #[.slice a n cap, .int .i64 (i : Int)] w fun e w' => ∃ a' cap', e = .returned (.slice a' (wayF l i).length cap') ∧ Ow w' w.heap.size 1 a' (wayF l i).length cap' (strs (wayF l i)) ∧ Below w.heap.size w w' := by
  induction N with
  | zero => intro a l n i cap w hN hn _ _ _ hi _; omega
  | succ N ih =>
    intro a l n i cap w hN hn hR hc hn2 hi h32
    by_cases h1 : n ≤ 1
    · have hw := wayF_one (l := l) (i := i) (by omega)
      have HW := Lib.hid hw
      have hd : decide ((n : Int) ≤ 1) = true := decide_eq_true (by omega)
      clear hw hn ih hN h32 hR
      go_enter Try.func50, Try.ntmps50
      go_wp2
      go_ret
      rw [HW.out]
      exact ⟨none, 0, rfl, Ow.nil _ _ _, Below.refl _ _⟩
    · have hd : decide ((n : Int) ≤ 1) = false := decide_eq_false (by omega)
      have hb := part_bd (n := n) (by omega)
      obtain ⟨g, off, x, rfl, _, _⟩ := hR.str (k := 0) (by omega)
      obtain ⟨p, hp⟩ : ∃ p, p = part n := ⟨_, rfl⟩
      rw [← hp] at hb
      have hpn : (p : Int) ≤ (n : Int) := by omega
      have hpc : (p : Int) ≤ (cap : Int) := by omega
      have hnc : (n : Int) ≤ (cap : Int) := by omega
      have hcp : ¬ (cap = p) := by omega
      have hR1 := hR.strTake p
      have hR2 := hR.strDrop p
      have hl1 : (l.take p).length = p := by rw [List.length_take]; omega
      have hl2 : (l.drop p).length = n - p := by rw [List.length_drop]; omega
      have k0 : ∀ V, Calls Try.prog 51 #[.int .i64 (n : Int)] V fun e w' => e = .returned (.int .i64 (p : Int)) ∧ V = w' := fun V => by
        rw [hp]; exact left_walk n V (by omega) (by omega)
      have K0 := Lib.hid k0
      by_cases hip : i < p
      · have k1 : ∀ V, Rd V (some ⟨g, off, none⟩) (strs (l.take p)) → Calls Try.prog 50 #[.slice (some ⟨g, off, none⟩) p cap, .int .i64 (i : Int)] V fun e w' => ∃ a' cap', e = .returned (.slice a' (wayF (l.take p) i).length cap') ∧ Ow w' V.heap.size 1 a' (wayF (l.take p) i).length cap' (strs (wayF (l.take p) i)) ∧ Below V.heap.size V w' := fun V h =>
          ih _ (l.take p) p i cap V (by omega) hl1.symm h (by omega) (by omega) hip (mem_take32 h32 p)
        have k2 : ∀ V, Rd V (some ⟨g, off + p, none⟩) (strs (l.drop p)) → Calls Try.prog 37 #[.slice (some ⟨g, off + p, none⟩) (n - p) (cap - p)] V fun e w' => e = .returned (.string ⟨(rootF (l.drop p)).toArray⟩) ∧ Below V.heap.size V w' := fun V h =>
          root_walk N _ (l.drop p) (n - p) (cap - p) V (by omega) hl2.symm h (by omega) (by omega) (mem_drop32 h32 p)
        have hw := wayF_left (l := l) (i := i) (by omega) (by rw [← hn, ← hp]; exact hip)
        rw [← hn, ← hp] at hw
        have hwl := wayF_len N (l.take p) i (by omega)
        have hdi : decide ((i : Int) < (p : Int)) = true := decide_eq_true (by omega)
        generalize wayF (l.take p) i = L1 at *
        generalize rootF (l.drop p) = r2 at *
        have K1 := Lib.hid k1
        have K2 := Lib.hid k2
        have HW := Lib.hid hw
        have hby : (L1.length + 1) * 16 ≤ 140737488355328 := by omega
        have bX : Below w.heap.size w w.drew := (Below.refl _ _).drew
        clear k0 k1 k2 hw ih hN h32 hl1 hl2 hp hn hR hwl
        go_enter Try.func50, Try.ntmps50
        go_wp2_with (go_at_call 51; (with_reducible refine (K0.out _).mono ?_); rintro e w3 ⟨rfl, rfl⟩)
        go_region_law (first
          | (go_simp; go_at_call 50; with_reducible refine (K1.out _ ?rd).mono ?_; (case rd => first | with_reducible exact hR1.keep bX | with_reducible exact hR1.keep (below_one bX _)); rintro e wY ⟨aY, cY, rfl, hO, hbY⟩; replace hO := hO.lower (show w.heap.size ≤ _ by first | exact bX.size | exact (below_one bX _).size); (try (have hsrc := hbY.cell (a := ⟨_, 0, none⟩) (by simp) (World.cell?_alloc_at _ _ _ _ rfl))); (first | replace bX := bX.trans (hbY.mono bX.size) | replace bX := (below_one bX _).trans (hbY.mono (below_one bX _).size)))
          | (go_simp; go_at_call 37; with_reducible refine (K2.out _ (hR2.keep bX)).mono ?_; rintro e wR ⟨rfl, hbR⟩; (try replace hO := hO.keep hbR); replace bX := bX.trans (hbR.mono bX.size))
          | (refine step_apps (w0 := w) (B := w.heap.size) rfl _ _ _ _ rfl el_strs rfl (hO.ext _) (below_one bX _) (Nat.le_refl _) (below_one bX _).size rfl (Src.slice (m := 1) (news := strs [r2]) Try.underlying58 rfl (Rd.one (World.cell?_alloc_at _ _ _ _ rfl)) (one_strs _)) hby ?_; intro a9 c9 w9 hO9 hB9 _))
        all_goals
          go_wp2_with fail
          go_ret
          rw [HW.out]
          refine ⟨a9, c9, ?_, ?_, hB9⟩
          · rw [List.length_append]; rfl
          · rw [List.length_append, strs, List.map_append]; exact hO9
      · obtain ⟨i', hi'⟩ : ∃ i', i' = i - p := ⟨_, rfl⟩
        have hii : (i : Int) - (p : Int) = (i' : Int) := by omega
        have hwr : IntKind.i64.wrap ((i : Int) - (p : Int)) = (i : Int) - (p : Int) := by rw [IntKind.wrap_i64]; omega
        have k1 : ∀ V, Rd V (some ⟨g, off + p, none⟩) (strs (l.drop p)) → Calls Try.prog 50 #[.slice (some ⟨g, off + p, none⟩) (n - p) (cap - p), .int .i64 ((i : Int) - (p : Int))] V fun e w' => ∃ a' cap', e = .returned (.slice a' (wayF (l.drop p) i').length cap') ∧ Ow w' V.heap.size 1 a' (wayF (l.drop p) i').length cap' (strs (wayF (l.drop p) i')) ∧ Below V.heap.size V w' := fun V h => by
          rw [hii]; exact ih _ (l.drop p) (n - p) i' (cap - p) V (by omega) hl2.symm h (by omega) (by omega) (by omega) (mem_drop32 h32 p)
        have k2 : ∀ V, Rd V (some ⟨g, off, none⟩) (strs (l.take p)) → Calls Try.prog 37 #[.slice (some ⟨g, off, none⟩) p cap] V fun e w' => e = .returned (.string ⟨(rootF (l.take p)).toArray⟩) ∧ Below V.heap.size V w' := fun V h =>
          root_walk N _ (l.take p) p cap V (by omega) hl1.symm h (by omega) (by omega) (mem_take32 h32 p)
        have hw := wayF_right (l := l) (i := i) (by omega) (by rw [← hn, ← hp]; exact hip)
        rw [← hn, ← hp, ← hi'] at hw
        have hwl := wayF_len N (l.drop p) i' (by omega)
        have hdi : decide ((i : Int) < (p : Int)) = false := decide_eq_false (by omega)
        generalize wayF (l.drop p) i' = L1 at *
        generalize rootF (l.take p) = r2 at *
        have K1 := Lib.hid k1
        have K2 := Lib.hid k2
        have HW := Lib.hid hw
        have hby : (L1.length + 1) * 16 ≤ 140737488355328 := by omega
        have bX : Below w.heap.size w w.drew := (Below.refl _ _).drew
        clear hii hi' k0 k1 k2 hw ih hN h32 hl1 hl2 hp hn hR hwl
        go_enter Try.func50, Try.ntmps50
        go_wp2_with (go_at_call 51; (with_reducible refine (K0.out _).mono ?_); rintro e w3 ⟨rfl, rfl⟩)
        go_region_law (first
          | (go_simp; go_at_call 50; with_reducible refine (K1.out _ ?rd).mono ?_; (case rd => first | with_reducible exact hR2.keep bX | with_reducible exact hR2.keep (below_one bX _)); rintro e wY ⟨aY, cY, rfl, hO, hbY⟩; replace hO := hO.lower (show w.heap.size ≤ _ by first | exact bX.size | exact (below_one bX _).size); (try (have hsrc := hbY.cell (a := ⟨_, 0, none⟩) (by simp) (World.cell?_alloc_at _ _ _ _ rfl))); (first | replace bX := bX.trans (hbY.mono bX.size) | replace bX := (below_one bX _).trans (hbY.mono (below_one bX _).size)))
          | (go_simp; go_at_call 37; with_reducible refine (K2.out _ (hR1.keep bX)).mono ?_; rintro e wR ⟨rfl, hbR⟩; (try replace hO := hO.keep hbR); replace bX := bX.trans (hbR.mono bX.size))
          | (refine step_apps (w0 := w) (B := w.heap.size) rfl _ _ _ _ rfl el_strs rfl (hO.ext _) (below_one bX _) (Nat.le_refl _) (below_one bX _).size rfl (Src.slice (m := 1) (news := strs [r2]) Try.underlying58 rfl (Rd.one (World.cell?_alloc_at _ _ _ _ rfl)) (one_strs _)) hby ?_; intro a9 c9 w9 hO9 hB9 _))
        all_goals
          go_wp2_with fail
          go_ret
          rw [HW.out]
          refine ⟨a9, c9, ?_, ?_, hB9⟩
          · rw [List.length_append]; rfl
          · rw [List.length_append, strs, List.map_append]; exact hO9
end Go.Proofs.Ytgjjpijcakafhaa
