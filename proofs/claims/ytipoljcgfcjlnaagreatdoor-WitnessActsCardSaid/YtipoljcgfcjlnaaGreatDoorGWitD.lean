/- Stamps of a witness: which follow others, which contradict others. -/
import Derived.Test.YtipoljcgfcjlnaaGreatDoorGHandV
namespace Go.Proofs.YtipoljcgfcjlnaaGreatDoor
open Go.RowKit
theorem Bx.new2 (W : World) (o : Obj) (t : TypeId) (cs : List Value) : Bx ((W.alloc o).alloc (.cells cs.toArray t)) (W.heap.size + 1) t cs := by
  have := Bx.new (W.alloc o) t cs
  rwa [World.size_alloc] at this
def headEq (a b : Head) : Bool := a.count == b.count && (a.last == b.last && (a.root == b.root && a.time == b.time))
theorem headEq_iff {a b : Head} : headEq a b = true ↔ a = b := by
  obtain ⟨n, l, r, t⟩ := a
  obtain ⟨m, k, s, u⟩ := b
  simp [headEq]
/-- where two heads part first -/
theorem head_first {a b : Head} (h : headEq a b = false) : ((a.count == b.count) = false) ∨ (a.count = b.count ∧ (a.last == b.last) = false) ∨ (a.count = b.count ∧ a.last = b.last ∧ (a.root == b.root) = false) ∨ (a.count = b.count ∧ a.last = b.last ∧ a.root = b.root ∧ (a.time == b.time) = false) := by
  cases h1 : (a.count == b.count) with
  | false => exact .inl rfl
  | true =>
    cases h2 : (a.last == b.last) with
    | false => exact .inr (.inl ⟨by simpa using h1, rfl⟩)
    | true =>
      cases h3 : (a.root == b.root) with
      | false => exact .inr (.inr (.inl ⟨by simpa using h1, by simpa using h2, rfl⟩))
      | true =>
        refine .inr (.inr (.inr ⟨by simpa using h1, by simpa using h2, by simpa using h3, ?_⟩))
        simpa [headEq, h1, h2, h3] using h
def wfollowsF (a b : Stm) : Bool :=
  a.key == b.key && (decide (a.seen ≤ b.seen) && (decide (a.head.count ≤ b.head.count) && (decide (a.head.time ≤ b.head.time) && (decide (a.head.count < b.head.count) || headEq a.head b.head))))
set_option maxRecDepth 100000 in
set_option maxHeartbeats 4000000 in
theorem wfollows_walk (a b : Stm) (w : World) :
    Calls Tryz.prog 19 #[a.val, b.val] w fun e w' => e = .returned (.bool (wfollowsF a b)) ∧ Below w.heap.size w w' := by
  have hb0 := ((Below.refl w.heap.size w).alloc (Nat.le_refl _) (stmB a)).alloc (by simp) (stmB b)
  have hka := (Bx.new w 28 a.cells).alloc (stmB b)
  have hkb := Bx.new (w.alloc (stmB a)) 28 b.cells
  rw [World.size_alloc] at hkb
  obtain ⟨v, hv⟩ : ∃ v, wfollowsF a b = v := ⟨_, rfl⟩
  rw [hv]
  have HV := Lib.hid hv
  clear hv
  obtain ⟨⟨n, l, r, t⟩, sn, key, sr, ss⟩ := a
  obtain ⟨⟨n', l', r', t'⟩, sn', key', sr', ss'⟩ := b
  go_enter Tryz.func19, Tryz.ntmps19
  go_wp2
  change Bx ((w.alloc (stmB ⟨⟨n, l, r, t⟩, sn, key, sr, ss⟩)).alloc (stmB ⟨⟨n', l', r', t'⟩, sn', key', sr', ss'⟩)) _ _ _ at hkb
  generalize (w.alloc (stmB ⟨⟨n, l, r, t⟩, sn, key, sr, ss⟩)).alloc (stmB ⟨⟨n', l', r', t'⟩, sn', key', sr', ss'⟩) = W at *
  obtain ⟨gb, hgb⟩ : ∃ gb, gb = w.heap.size + 1 := ⟨_, rfl⟩
  rw [← hgb] at hkb ⊢
  clear hgb
  have a0 := hka.cell 0 rfl
  have a1 := hka.cell 1 rfl
  have a2 := hka.cell 2 rfl
  have a3 := hka.cell 3 rfl
  have b0 := hkb.cell 0 rfl
  have b1 := hkb.cell 1 rfl
  have b2 := hkb.cell 2 rfl
  have b3 := hkb.cell 3 rfl
  go_cut [5, 6] (fun v5 v6 wr => ∃ g5 g6, v5 = .pointer (some ⟨g5, 0, none⟩) ∧ v6 = .pointer (some ⟨g6, 0, none⟩) ∧ Bx wr g5 24 [.int .i64 n, .string ⟨l.toArray⟩, .string ⟨r.toArray⟩, .int .i64 t] ∧ Bx wr g6 24 [.int .i64 n', .string ⟨l'.toArray⟩, .string ⟨r'.toArray⟩, .int .i64 t'] ∧ Below W.heap.size W wr)
  case first =>
    go_region_held3 (fun w' => w'.cell? ⟨w.heap.size, 0, none⟩ = some (.int .i64 n) ∧ w'.cell? ⟨w.heap.size, 1, none⟩ = some (.string ⟨l.toArray⟩) ∧ w'.cell? ⟨w.heap.size, 2, none⟩ = some (.string ⟨r.toArray⟩) ∧ w'.cell? ⟨w.heap.size, 3, none⟩ = some (.int .i64 t) ∧ w'.cell? ⟨gb, 0, none⟩ = some (.int .i64 n') ∧ w'.cell? ⟨gb, 1, none⟩ = some (.string ⟨l'.toArray⟩) ∧ w'.cell? ⟨gb, 2, none⟩ = some (.string ⟨r'.toArray⟩) ∧ w'.cell? ⟨gb, 3, none⟩ = some (.int .i64 t')) (go_keep) (fail)
    all_goals (go_wp2_with fail; go_meet)
    · case rel => exact ⟨_, _, rfl, rfl, ((Bx.new W _ _).alloc _).drew, (Bx.new2 W _ _ _).drew, (((Below.refl _ _).alloc (Nat.le_refl _) _).alloc (by simp) _).drew⟩
    · case rel => exact ⟨_, _, rfl, rfl, (Bx.new2 W _ _ _).drew, ((Bx.new W _ _).alloc _).drew, (((Below.refl _ _).alloc (Nat.le_refl _) _).alloc (by simp) _).drew⟩
  case rest =>
    obtain ⟨g5, g6, rfl, rfl, h5, h6, hb9⟩ := hcut
    replace hka := hka.keep hb9
    replace hkb := hkb.keep hb9
    replace hb0 := hb0.trans (hb9.mono hb0.size)
    clear a0 a1 a2 a3 b0 b1 b2 b3 hb9
    have a4 := hka.cell 4 rfl
    have a5 := hka.cell 5 rfl
    have b4 := hkb.cell 4 rfl
    have b5 := hkb.cell 5 rfl
    have c0 := h5.cell 0 rfl
    have c1 := h5.cell 1 rfl
    have c2 := h5.cell 2 rfl
    have c3 := h5.cell 3 rfl
    have d0 := h6.cell 0 rfl
    have d1 := h6.cell 1 rfl
    have d2 := h6.cell 2 rfl
    have d3 := h6.cell 3 rfl
    have hv := HV.out
    unfold wfollowsF at hv
    dsimp only at hv
    by_cases e1 : key = key'
    rotate_left
    · have q1 : (key == key') = false := by rw [beq_eq_false_iff_ne]; exact e1
      rw [q1, Bool.false_and] at hv
      subst hv
      clear HV
      go_wp2
      go_ret
      exact ⟨rfl, hb0⟩
    subst e1
    have q1 : (key == key) = true := by simp
    rw [q1, Bool.true_and] at hv
    rcases Int.lt_or_le sn' sn with e2 | e2
    · rw [decide_eq_false (by omega), Bool.false_and] at hv
      subst hv
      clear HV
      go_wp2
      go_ret
      exact ⟨rfl, hb0⟩
    rw [decide_eq_true e2, Bool.true_and] at hv
    rcases Int.lt_or_le n' n with e3 | e3
    · rw [decide_eq_false (by omega), Bool.false_and] at hv
      subst hv
      clear HV
      go_wp2
      go_ret
      exact ⟨rfl, hb0⟩
    rw [decide_eq_true e3, Bool.true_and] at hv
    rcases Int.lt_or_le t' t with e4 | e4
    · rw [decide_eq_false (by omega), Bool.false_and] at hv
      subst hv
      clear HV
      go_wp2
      go_ret
      exact ⟨rfl, hb0⟩
    rw [decide_eq_true e4, Bool.true_and] at hv
    rcases Int.lt_or_le n n' with e5 | e5
    · rw [decide_eq_true e5, Bool.true_or] at hv
      subst hv
      clear HV
      go_wp2
      go_ret
      exact ⟨rfl, hb0⟩
    obtain rfl : n = n' := by omega
    rw [decide_eq_false (by omega), Bool.false_or] at hv
    cases hE : headEq ⟨n, l, r, t⟩ ⟨n, l', r', t'⟩ with
    | true =>
      rw [hE] at hv
      subst hv
      have := headEq_iff.1 hE
      simp only [Head.mk.injEq, true_and] at this
      obtain ⟨rfl, rfl, rfl⟩ := this
      clear HV hE e4 e3 e5
      go_wp2
      go_ret
      exact ⟨rfl, hb0⟩
    | false =>
      rw [hE] at hv
      subst hv
      have hf := head_first hE
      dsimp only at hf
      clear HV hE
      rcases hf with hf | ⟨-, hf⟩ | ⟨-, h0, hf⟩ | ⟨-, h0, h1, hf⟩
      · simp at hf
      all_goals
        go_wp2
        go_ret
        exact ⟨rfl, hb0⟩
end Go.Proofs.YtipoljcgfcjlnaaGreatDoor
/- Stamps of a witness: which contradict others. -/
namespace Go.Proofs.YtipoljcgfcjlnaaGreatDoor
open Go.RowKit
def wcontraF (p : Int) (a b : Stm) : Bool := wrightF p a && (wrightF p b && (a.key == b.key && (!wfollowsF a b && !wfollowsF b a)))
set_option maxRecDepth 100000 in
set_option maxHeartbeats 4000000 in
theorem wcontra_walk (p : Int) (a b : Stm) (w : World) (hB : Bases w) (hIa : a.In) (hIb : b.In) :
    Calls Tryz.prog 21 #[.int .i64 p, a.val, b.val] w fun e w' => e = .returned (.bool (wcontraF p a b)) ∧ Below w.heap.size w w' := by
  have hb0 := ((Below.refl w.heap.size w).alloc (Nat.le_refl _) (stmB a)).alloc (by simp) (stmB b)
  have hka := (Bx.new w 28 a.cells).alloc (stmB b)
  have hkb := Bx.new2 w (stmB a) 28 b.cells
  replace hB := hB.keep hb0
  have kr1 : ∀ V, Bases V → Calls Tryz.prog 13 #[.int .i64 p, a.val] V fun e w' => e = .returned (.bool (wrightF p a)) ∧ Below V.heap.size V w' := fun V hV => wright_walk p a V hV hIa
  have kr2 : ∀ V, Bases V → Calls Tryz.prog 13 #[.int .i64 p, b.val] V fun e w' => e = .returned (.bool (wrightF p b)) ∧ Below V.heap.size V w' := fun V hV => wright_walk p b V hV hIb
  have kf1 : ∀ V, Calls Tryz.prog 19 #[a.val, b.val] V fun e w' => e = .returned (.bool (wfollowsF a b)) ∧ Below V.heap.size V w' := fun V => wfollows_walk a b V
  have kf2 : ∀ V, Calls Tryz.prog 19 #[b.val, a.val] V fun e w' => e = .returned (.bool (wfollowsF b a)) ∧ Below V.heap.size V w' := fun V => wfollows_walk b a V
  obtain ⟨v, hv⟩ : ∃ v, wcontraF p a b = v := ⟨_, rfl⟩
  rw [hv]
  unfold wcontraF at hv
  generalize wrightF p a = x1 at *
  generalize wrightF p b = x2 at *
  generalize wfollowsF a b = x3 at *
  generalize wfollowsF b a = x4 at *
  have KR1 := Lib.hid kr1
  have KR2 := Lib.hid kr2
  have KF1 := Lib.hid kf1
  have KF2 := Lib.hid kf2
  have HB := Lib.hid hB
  clear kr1 kr2 kf1 kf2 hB hIa hIb
  have hsz : w.heap.size + 1 < ((w.alloc (stmB a)).alloc (stmB b)).heap.size := by simp
  obtain ⟨W, hW⟩ : ∃ W, W = (w.alloc (stmB a)).alloc (stmB b) := ⟨_, rfl⟩
  rw [← hW] at hb0 HB hsz
  change Bx ((w.alloc (stmB a)).alloc (stmB b)) _ _ _ at hkb
  rw [← hW] at hka hkb
  obtain ⟨⟨n, l, r, t⟩, sn, key, sr, ss⟩ := a
  obtain ⟨⟨n', l', r', t'⟩, sn', key', sr', ss'⟩ := b
  have HW := Lib.hid hW
  clear hW
  obtain ⟨y, hy⟩ : ∃ y, (key == key') = y := ⟨_, rfl⟩
  dsimp only at hv
  rw [hy] at hv
  go_enter Tryz.func21, Tryz.ntmps21
  go_upto_region 1 with (fail)
  rw [← HW.out]
  clear HW
  have a0 := hka.cell 0 rfl
  have a1 := hka.cell 1 rfl
  have a2 := hka.cell 2 rfl
  have a3 := hka.cell 3 rfl
  have a4 := hka.cell 4 rfl
  have a5 := hka.cell 5 rfl
  have a6 := hka.cell 6 rfl
  have a7 := hka.cell 7 rfl
  go_wp2_with (go_at_call 13; (with_reducible refine (KR1.out _ HB.out).mono ?_))
  (first | rintro e w1 rfl hb1 | rintro e w1 ⟨rfl, hb1⟩)
  replace hka := hka.keep hb1
  replace hkb := hkb.keep hb1
  replace hb0 := hb0.trans (hb1.mono hb0.size)
  have HB1 := Lib.hid (HB.out.keep hb1)
  clear hb1 HB a0 a1 a2 a3 a4 a5 a6 a7
  cases x1 with
  | false =>
    simp only [Bool.false_and] at hv
    subst hv
    go_wp2
    go_ret
    exact ⟨rfl, hb0⟩
  | true =>
  simp only [Bool.true_and] at hv
  have b0 := hkb.cell 0 rfl
  have b1 := hkb.cell 1 rfl
  have b2 := hkb.cell 2 rfl
  have b3 := hkb.cell 3 rfl
  have b4 := hkb.cell 4 rfl
  have b5 := hkb.cell 5 rfl
  have b6 := hkb.cell 6 rfl
  have b7 := hkb.cell 7 rfl
  go_wp2_with (go_at_call 13; (with_reducible refine (KR2.out _ HB1.out).mono ?_))
  (first | rintro e w2 rfl hb1 | rintro e w2 ⟨rfl, hb1⟩)
  replace hka := hka.keep hb1
  replace hkb := hkb.keep hb1
  replace hb0 := hb0.trans (hb1.mono hb0.size)
  clear hb1 HB1 b0 b1 b2 b3 b4 b5 b6 b7
  have a0 := hka.cell 0 rfl
  have a1 := hka.cell 1 rfl
  have a2 := hka.cell 2 rfl
  have a3 := hka.cell 3 rfl
  have a4 := hka.cell 4 rfl
  have a5 := hka.cell 5 rfl
  have a6 := hka.cell 6 rfl
  have a7 := hka.cell 7 rfl
  have b0 := hkb.cell 0 rfl
  have b1 := hkb.cell 1 rfl
  have b2 := hkb.cell 2 rfl
  have b3 := hkb.cell 3 rfl
  have b4 := hkb.cell 4 rfl
  have b5 := hkb.cell 5 rfl
  have b6 := hkb.cell 6 rfl
  have b7 := hkb.cell 7 rfl
  cases x2 with
  | false =>
    simp only [Bool.false_and] at hv
    subst hv
    go_wp2
    go_ret
    exact ⟨rfl, hb0⟩
  | true =>
  simp only [Bool.true_and] at hv
  cases y with
  | false =>
    simp only [Bool.false_and] at hv
    subst hv
    go_wp2
    go_ret
    exact ⟨rfl, hb0⟩
  | true =>
  simp only [Bool.true_and] at hv
  obtain rfl : key = key' := by simpa using hy
  go_wp2_with (go_at_call 19; (with_reducible refine (KF1.out _).mono ?_))
  (first | rintro e w3 rfl hb1 | rintro e w3 ⟨rfl, hb1⟩)
  replace hka := hka.keep hb1
  replace hkb := hkb.keep hb1
  replace hb0 := hb0.trans (hb1.mono hb0.size)
  clear hb1 a0 a1 a2 a3 a4 a5 a6 a7 b0 b1 b2 b3 b4 b5 b6 b7
  have a0 := hka.cell 0 rfl
  have a1 := hka.cell 1 rfl
  have a2 := hka.cell 2 rfl
  have a3 := hka.cell 3 rfl
  have a4 := hka.cell 4 rfl
  have a5 := hka.cell 5 rfl
  have a6 := hka.cell 6 rfl
  have a7 := hka.cell 7 rfl
  have b0 := hkb.cell 0 rfl
  have b1 := hkb.cell 1 rfl
  have b2 := hkb.cell 2 rfl
  have b3 := hkb.cell 3 rfl
  have b4 := hkb.cell 4 rfl
  have b5 := hkb.cell 5 rfl
  have b6 := hkb.cell 6 rfl
  have b7 := hkb.cell 7 rfl
  cases x3 with
  | true =>
    simp only [Bool.not_true, Bool.false_and] at hv
    subst hv
    go_wp2
    go_ret
    exact ⟨rfl, hb0⟩
  | false =>
  simp only [Bool.not_false, Bool.true_and] at hv
  subst hv
  go_wp2_with (go_at_call 19; (with_reducible refine (KF2.out _).mono ?_))
  (first | rintro e w4 rfl hb1 | rintro e w4 ⟨rfl, hb1⟩)
  replace hb0 := hb0.trans (hb1.mono hb0.size)
  cases x4 <;>
    (go_wp2
     go_ret
     exact ⟨rfl, hb0⟩)
end Go.Proofs.YtipoljcgfcjlnaaGreatDoor
