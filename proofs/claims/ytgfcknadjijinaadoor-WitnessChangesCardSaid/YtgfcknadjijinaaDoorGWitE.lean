/- Stamps of a witness: which contradict others. -/
import Derived.Test.YtgfcknadjijinaaDoorGWitC
namespace Go.Proofs.YtgfcknadjijinaaDoor
open Go.RowKit
def wcontraF (p : Int) (a b : Stm) : Bool := wrightF p a && (wrightF p b && (a.key == b.key && (!wfollowsF a b && !wfollowsF b a)))
set_option maxRecDepth 100000 in
set_option maxHeartbeats 4000000 in
theorem wcontra_walk (p : Int) (a b : Stm) (w : World) (hB : Bases w) (hIa : a.In) (hIb : b.In) :
    Calls Tryd.prog 17 #[.int .i64 p, a.val, b.val] w fun e w' => e = .returned (.bool (wcontraF p a b)) ∧ Below w.heap.size w w' := by
  have hb0 := ((Below.refl w.heap.size w).alloc (Nat.le_refl _) (stmB a)).alloc (by simp) (stmB b)
  have hka := (Bx.new w 33 a.cells).alloc (stmB b)
  have hkb := Bx.new2 w (stmB a) 33 b.cells
  replace hB := hB.keep hb0
  have kr1 : ∀ V, Bases V → Calls Tryd.prog 12 #[.int .i64 p, a.val] V fun e w' => e = .returned (.bool (wrightF p a)) ∧ Below V.heap.size V w' := fun V hV => wright_walk p a V hV hIa
  have kr2 : ∀ V, Bases V → Calls Tryd.prog 12 #[.int .i64 p, b.val] V fun e w' => e = .returned (.bool (wrightF p b)) ∧ Below V.heap.size V w' := fun V hV => wright_walk p b V hV hIb
  have kf1 : ∀ V, Calls Tryd.prog 16 #[a.val, b.val] V fun e w' => e = .returned (.bool (wfollowsF a b)) ∧ Below V.heap.size V w' := fun V => wfollows_walk a b V
  have kf2 : ∀ V, Calls Tryd.prog 16 #[b.val, a.val] V fun e w' => e = .returned (.bool (wfollowsF b a)) ∧ Below V.heap.size V w' := fun V => wfollows_walk b a V
  obtain ⟨v, hv⟩ : ∃ v, wcontraF p a b = v := ⟨_, rfl⟩
  rw [hv]
  unfold wcontraF at hv
  generalize wrightF p a = x1 at *
  generalize wrightF p b = x2 at *
  generalize wfollowsF a b = x3 at *
  generalize wfollowsF b a = x4 at *
  have KR1 := Lib.hid kr1
  have KR2 := Lib.hid kr2
  have KF1 := Lib.hid kf1
  have KF2 := Lib.hid kf2
  have HB := Lib.hid hB
  clear kr1 kr2 kf1 kf2 hB hIa hIb
  have hsz : w.heap.size + 1 < ((w.alloc (stmB a)).alloc (stmB b)).heap.size := by simp
  obtain ⟨W, hW⟩ : ∃ W, W = (w.alloc (stmB a)).alloc (stmB b) := ⟨_, rfl⟩
  rw [← hW] at hb0 HB hsz
  change Bx ((w.alloc (stmB a)).alloc (stmB b)) _ _ _ at hkb
  rw [← hW] at hka hkb
  obtain ⟨⟨n, l, r, t⟩, sn, key, sr, ss⟩ := a
  obtain ⟨⟨n', l', r', t'⟩, sn', key', sr', ss'⟩ := b
  have HW := Lib.hid hW
  clear hW
  obtain ⟨y, hy⟩ : ∃ y, (key == key') = y := ⟨_, rfl⟩
  dsimp only at hv
  rw [hy] at hv
  go_enter Tryd.func17, Tryd.ntmps17
  go_upto_region 1 with (fail)
  rw [← HW.out]
  clear HW
  have a0 := hka.cell 0 rfl
  have a1 := hka.cell 1 rfl
  have a2 := hka.cell 2 rfl
  have a3 := hka.cell 3 rfl
  have a4 := hka.cell 4 rfl
  have a5 := hka.cell 5 rfl
  have a6 := hka.cell 6 rfl
  have a7 := hka.cell 7 rfl
  go_wp2_with (go_at_call 12; (with_reducible refine (KR1.out _ HB.out).mono ?_))
  (first | rintro e w1 rfl hb1 | rintro e w1 ⟨rfl, hb1⟩)
  replace hka := hka.keep hb1
  replace hkb := hkb.keep hb1
  replace hb0 := hb0.trans (hb1.mono hb0.size)
  have HB1 := Lib.hid (HB.out.keep hb1)
  clear hb1 HB a0 a1 a2 a3 a4 a5 a6 a7
  cases x1 with
  | false =>
    simp only [Bool.false_and] at hv
    subst hv
    go_wp2
    go_ret
    exact ⟨rfl, hb0⟩
  | true =>
  simp only [Bool.true_and] at hv
  have b0 := hkb.cell 0 rfl
  have b1 := hkb.cell 1 rfl
  have b2 := hkb.cell 2 rfl
  have b3 := hkb.cell 3 rfl
  have b4 := hkb.cell 4 rfl
  have b5 := hkb.cell 5 rfl
  have b6 := hkb.cell 6 rfl
  have b7 := hkb.cell 7 rfl
  go_wp2_with (go_at_call 12; (with_reducible refine (KR2.out _ HB1.out).mono ?_))
  (first | rintro e w2 rfl hb1 | rintro e w2 ⟨rfl, hb1⟩)
  replace hka := hka.keep hb1
  replace hkb := hkb.keep hb1
  replace hb0 := hb0.trans (hb1.mono hb0.size)
  clear hb1 HB1 b0 b1 b2 b3 b4 b5 b6 b7
  have a0 := hka.cell 0 rfl
  have a1 := hka.cell 1 rfl
  have a2 := hka.cell 2 rfl
  have a3 := hka.cell 3 rfl
  have a4 := hka.cell 4 rfl
  have a5 := hka.cell 5 rfl
  have a6 := hka.cell 6 rfl
  have a7 := hka.cell 7 rfl
  have b0 := hkb.cell 0 rfl
  have b1 := hkb.cell 1 rfl
  have b2 := hkb.cell 2 rfl
  have b3 := hkb.cell 3 rfl
  have b4 := hkb.cell 4 rfl
  have b5 := hkb.cell 5 rfl
  have b6 := hkb.cell 6 rfl
  have b7 := hkb.cell 7 rfl
  cases x2 with
  | false =>
    simp only [Bool.false_and] at hv
    subst hv
    go_wp2
    go_ret
    exact ⟨rfl, hb0⟩
  | true =>
  simp only [Bool.true_and] at hv
  cases y with
  | false =>
    simp only [Bool.false_and] at hv
    subst hv
    go_wp2
    go_ret
    exact ⟨rfl, hb0⟩
  | true =>
  simp only [Bool.true_and] at hv
  obtain rfl : key = key' := by simpa using hy
  go_wp2_with (go_at_call 16; (with_reducible refine (KF1.out _).mono ?_))
  (first | rintro e w3 rfl hb1 | rintro e w3 ⟨rfl, hb1⟩)
  replace hka := hka.keep hb1
  replace hkb := hkb.keep hb1
  replace hb0 := hb0.trans (hb1.mono hb0.size)
  clear hb1 a0 a1 a2 a3 a4 a5 a6 a7 b0 b1 b2 b3 b4 b5 b6 b7
  have a0 := hka.cell 0 rfl
  have a1 := hka.cell 1 rfl
  have a2 := hka.cell 2 rfl
  have a3 := hka.cell 3 rfl
  have a4 := hka.cell 4 rfl
  have a5 := hka.cell 5 rfl
  have a6 := hka.cell 6 rfl
  have a7 := hka.cell 7 rfl
  have b0 := hkb.cell 0 rfl
  have b1 := hkb.cell 1 rfl
  have b2 := hkb.cell 2 rfl
  have b3 := hkb.cell 3 rfl
  have b4 := hkb.cell 4 rfl
  have b5 := hkb.cell 5 rfl
  have b6 := hkb.cell 6 rfl
  have b7 := hkb.cell 7 rfl
  cases x3 with
  | true =>
    simp only [Bool.not_true, Bool.false_and] at hv
    subst hv
    go_wp2
    go_ret
    exact ⟨rfl, hb0⟩
  | false =>
  simp only [Bool.not_false, Bool.true_and] at hv
  subst hv
  go_wp2_with (go_at_call 16; (with_reducible refine (KF2.out _).mono ?_))
  (first | rintro e w4 rfl hb1 | rintro e w4 ⟨rfl, hb1⟩)
  replace hb0 := hb0.trans (hb1.mono hb0.size)
  cases x4 <;>
    (go_wp2
     go_ret
     exact ⟨rfl, hb0⟩)
end Go.Proofs.YtgfcknadjijinaaDoor
