/- The walk of the law WitnessOrder. -/
import Derived.Test.YtgfcknadjijinaaDoorGWitH
import Derived.Test.YtgfcknadjijinaaDoorGWitG3
namespace Go.Proofs.YtgfcknadjijinaaDoor
open Go.RowKit
theorem wfollowsF_self (a : Stm) : wfollowsF a a = true := by
  have : headEq a.head a.head = true := headEq_iff.2 rfl
  simp [wfollowsF, this]
theorem wfollowsF_trans {a b c : Stm} (h1 : wfollowsF a b = true) (h2 : wfollowsF b c = true) : wfollowsF a c = true := by
  unfold wfollowsF at *
  simp only [Bool.and_eq_true, Bool.or_eq_true, beq_iff_eq, decide_eq_true_eq, headEq_iff] at *
  obtain ⟨a1, a2, a3, a4, a5⟩ := h1
  obtain ⟨b1, b2, b3, b4, b5⟩ := h2
  refine ⟨a1.trans b1, by omega, by omega, by omega, ?_⟩
  rcases a5 with a5 | a5
  · exact .inl (by omega)
  · rcases b5 with b5 | b5
    · exact .inl (by omega)
    · exact .inr (a5.trans b5)
theorem wcontraF_symm (p : Int) (a b : Stm) : wcontraF p b a = wcontraF p a b := by
  unfold wcontraF
  rw [show (b.key == a.key) = (a.key == b.key) by rw [Bool.eq_iff_iff, beq_iff_eq, beq_iff_eq]; exact ⟨fun h => h.symm, fun h => h.symm⟩]
  cases wrightF p a <;> cases wrightF p b <;> cases (a.key == b.key) <;> cases wfollowsF a b <;> cases wfollowsF b a <;> rfl
theorem wcontraF_follows (p : Int) {a b : Stm} (h : wfollowsF a b = true) : wcontraF p a b = false := by
  unfold wcontraF
  rw [h]
  cases wrightF p a <;> cases wrightF p b <;> cases (a.key == b.key) <;> rfl
set_option maxRecDepth 100000 in
set_option maxHeartbeats 4000000 in
theorem order_walk (W : World) (hB : Bases W) (p : Option Addr) (l : List Int) (cap : Nat) (hR : Rd W p (ints l)) (hl : l.length ≤ 17592186043904) :
    Calls Tryd.prog 4 #[.slice p l.length cap] W fun e w' => e = .returned (.bool true) ∧ Below W.heap.size W w' := by
  go_enter Tryd.func4, Tryd.ntmps4
  go_wp2_with (go_at_call 7; (with_reducible refine (light_walk _ _ _ _ (by omega)).mono ?_))
  rintro e w1 ⟨rfl, rfl⟩
  rcases Nat.lt_or_ge 500 l.length with h5 | h5
  · have hd5 : decide (l.length ≤ 500) = false := by simp; omega
    go_wp2_with (go_at_call 8; (with_reducible refine (awake21_walk _ hB).mono ?_))
    rintro e w1 ⟨rfl, hb1⟩
    go_wp2
    go_ret
    exact ⟨rfl, hb1⟩
  have hd5 : decide (l.length ≤ 500) = true := by simp; omega
  go_wp2_with (go_at_call 9; (with_reducible refine (roll_walk _ _ _ _).mono ?_))
  rintro e w1 ⟨rfl, hD, hb1⟩
  have hE : Env W w1 W.heap.size p l cap 0 := ⟨hD, hR.keep hb1, hb1⟩
  clear hD hb1
  have kch := chain_walk W _ p l cap 0 5 _ hE hR (Nat.le_refl _) (by omega) (by omega)
  rw [show ((5 : Nat) : Int) = 5 from rfl] at kch
  have KCH := Lib.hid kch
  clear kch
  go_wp2_with (go_at_call 13; (with_reducible refine KCH.out.mono ?_))
  rintro e w2 ⟨L, sa, sc, tm, q2, rfl, hK, hO, hE2, hg2⟩
  have hLD : ∀ g, rowOf sa = some g → g ≠ W.heap.size := fun g h => by
    have := (hO.row g h).1
    have := hE.dice.lt
    omega
  have hsc : L.length ≤ sc := hO.2.1
  have HK := Lib.hid hK
  have HLD := Lib.hid hLD
  have HL2 := Lib.hid hO.rd
  clear hK hLD hO hg2 hE
  go_wp2_with (go_at_call 14; (with_reducible refine (kstamp_walk W _ p l cap _ sa L sc _ hE2 hR (Nat.le_refl _) (by omega) HL2.out HLD.out hsc HK.out.right HK.out.ins).mono ?_))
  rintro e w3 ⟨a, qa, rfl, haI, hEa, hga⟩
  have HLa := Lib.hid (HL2.out.grown hga (by intro g off h e; simp at e; exact HLD.out g (by rw [h]; rfl) e))
  have HaI := Lib.hid haI
  obtain ⟨⟨av0, av1, av2, av3⟩, av4, av5, av6, av7⟩ := a
  clear hga haI
  go_wp2_with (go_at_call 14; (with_reducible refine (kstamp_walk W _ p l cap _ sa L sc _ hEa hR (Nat.le_refl _) (by omega) HLa.out HLD.out hsc HK.out.right HK.out.ins).mono ?_))
  rintro e w4 ⟨b, qb, rfl, hbI, hEb, hgb⟩
  have HLb := Lib.hid (HLa.out.grown hgb (by intro g off h e; simp at e; exact HLD.out g (by rw [h]; rfl) e))
  have HbI := Lib.hid hbI
  obtain ⟨⟨bv0, bv1, bv2, bv3⟩, bv4, bv5, bv6, bv7⟩ := b
  clear hgb hbI
  go_wp2_with (go_at_call 14; (with_reducible refine (kstamp_walk W _ p l cap _ sa L sc _ hEb hR (Nat.le_refl _) (by omega) HLb.out HLD.out hsc HK.out.right HK.out.ins).mono ?_))
  rintro e w5 ⟨c, qc, rfl, hcI, hEc, hgc⟩
  have HLc := Lib.hid (HLb.out.grown hgc (by intro g off h e; simp at e; exact HLD.out g (by rw [h]; rfl) e))
  have HcI := Lib.hid hcI
  obtain ⟨⟨cv0, cv1, cv2, cv3⟩, cv4, cv5, cv6, cv7⟩ := c
  clear hgc hcI
  go_wp2_with (go_at_call 15; (with_reducible refine (oddst_walk W _ p l cap _ cv0 cv1 cv2 cv3 cv4 cv5 cv6 cv7 _ hEc hR (Nat.le_refl _) (by omega) (by have := HcI.out.head.root; dsimp only at this; omega)).mono ?_))
  rintro e w6 ⟨d, qd, rfl, hEd, -⟩
  obtain ⟨⟨dv0, dv1, dv2, dv3⟩, dv4, dv5, dv6, dv7⟩ := d
  have hbW := hEd.below
  go_upto_region 6 with (fail)
  have h8 := ((Bx.new w6 33 (⟨⟨av0, av1, av2, av3⟩, av4, av5, av6, av7⟩ : Stm).cells).alloc (.cells #[.int .i64 bv0, .string ⟨bv1.toArray⟩, .string ⟨bv2.toArray⟩, .int .i64 bv3, .int .i64 bv4, .int .i64 bv5, .int .i64 bv6, .int .i64 bv7] 33)).alloc (.cells #[.int .i64 dv0, .string ⟨dv1.toArray⟩, .string ⟨dv2.toArray⟩, .int .i64 dv3, .int .i64 dv4, .int .i64 dv5, .int .i64 dv6, .int .i64 dv7] 33)
  have h10 := (Bx.new2 w6 (.cells #[.int .i64 av0, .string ⟨av1.toArray⟩, .string ⟨av2.toArray⟩, .int .i64 av3, .int .i64 av4, .int .i64 av5, .int .i64 av6, .int .i64 av7] 33) 33 (⟨⟨bv0, bv1, bv2, bv3⟩, bv4, bv5, bv6, bv7⟩ : Stm).cells).alloc (.cells #[.int .i64 dv0, .string ⟨dv1.toArray⟩, .string ⟨dv2.toArray⟩, .int .i64 dv3, .int .i64 dv4, .int .i64 dv5, .int .i64 dv6, .int .i64 dv7] 33)
  have h11 := Bx.new2 (w6.alloc (.cells #[.int .i64 av0, .string ⟨av1.toArray⟩, .string ⟨av2.toArray⟩, .int .i64 av3, .int .i64 av4, .int .i64 av5, .int .i64 av6, .int .i64 av7] 33)) (.cells #[.int .i64 bv0, .string ⟨bv1.toArray⟩, .string ⟨bv2.toArray⟩, .int .i64 bv3, .int .i64 bv4, .int .i64 bv5, .int .i64 bv6, .int .i64 bv7] 33) 33 (⟨⟨dv0, dv1, dv2, dv3⟩, dv4, dv5, dv6, dv7⟩ : Stm).cells
  rw [World.size_alloc] at h11
  have hb5 := (((Below.refl _ w6).alloc (Nat.le_refl _) (.cells #[.int .i64 av0, .string ⟨av1.toArray⟩, .string ⟨av2.toArray⟩, .int .i64 av3, .int .i64 av4, .int .i64 av5, .int .i64 av6, .int .i64 av7] 33)).alloc (by simp) (.cells #[.int .i64 bv0, .string ⟨bv1.toArray⟩, .string ⟨bv2.toArray⟩, .int .i64 bv3, .int .i64 bv4, .int .i64 bv5, .int .i64 bv6, .int .i64 bv7] 33)).alloc (by simp; omega) (.cells #[.int .i64 dv0, .string ⟨dv1.toArray⟩, .string ⟨dv2.toArray⟩, .int .i64 dv3, .int .i64 dv4, .int .i64 dv5, .int .i64 dv6, .int .i64 dv7] 33)
  replace hbW := hbW.trans (hb5.mono hbW.size)
  change Bx (((w6.alloc (.cells #[.int .i64 av0, .string ⟨av1.toArray⟩, .string ⟨av2.toArray⟩, .int .i64 av3, .int .i64 av4, .int .i64 av5, .int .i64 av6, .int .i64 av7] 33)).alloc (.cells #[.int .i64 bv0, .string ⟨bv1.toArray⟩, .string ⟨bv2.toArray⟩, .int .i64 bv3, .int .i64 bv4, .int .i64 bv5, .int .i64 bv6, .int .i64 bv7] 33)).alloc (.cells #[.int .i64 dv0, .string ⟨dv1.toArray⟩, .string ⟨dv2.toArray⟩, .int .i64 dv3, .int .i64 dv4, .int .i64 dv5, .int .i64 dv6, .int .i64 dv7] 33)) _ _ _ at h8
  change Bx (((w6.alloc (.cells #[.int .i64 av0, .string ⟨av1.toArray⟩, .string ⟨av2.toArray⟩, .int .i64 av3, .int .i64 av4, .int .i64 av5, .int .i64 av6, .int .i64 av7] 33)).alloc (.cells #[.int .i64 bv0, .string ⟨bv1.toArray⟩, .string ⟨bv2.toArray⟩, .int .i64 bv3, .int .i64 bv4, .int .i64 bv5, .int .i64 bv6, .int .i64 bv7] 33)).alloc (.cells #[.int .i64 dv0, .string ⟨dv1.toArray⟩, .string ⟨dv2.toArray⟩, .int .i64 dv3, .int .i64 dv4, .int .i64 dv5, .int .i64 dv6, .int .i64 dv7] 33)) _ _ _ at h10
  change Bx (((w6.alloc (.cells #[.int .i64 av0, .string ⟨av1.toArray⟩, .string ⟨av2.toArray⟩, .int .i64 av3, .int .i64 av4, .int .i64 av5, .int .i64 av6, .int .i64 av7] 33)).alloc (.cells #[.int .i64 bv0, .string ⟨bv1.toArray⟩, .string ⟨bv2.toArray⟩, .int .i64 bv3, .int .i64 bv4, .int .i64 bv5, .int .i64 bv6, .int .i64 bv7] 33)).alloc (.cells #[.int .i64 dv0, .string ⟨dv1.toArray⟩, .string ⟨dv2.toArray⟩, .int .i64 dv3, .int .i64 dv4, .int .i64 dv5, .int .i64 dv6, .int .i64 dv7] 33)) _ _ _ at h11
  have HB := Lib.hid (hB.keep hbW)
  clear hb5 hEd hB
  generalize ((w6.alloc (.cells #[.int .i64 av0, .string ⟨av1.toArray⟩, .string ⟨av2.toArray⟩, .int .i64 av3, .int .i64 av4, .int .i64 av5, .int .i64 av6, .int .i64 av7] 33)).alloc (.cells #[.int .i64 bv0, .string ⟨bv1.toArray⟩, .string ⟨bv2.toArray⟩, .int .i64 bv3, .int .i64 bv4, .int .i64 bv5, .int .i64 bv6, .int .i64 bv7] 33)).alloc (.cells #[.int .i64 dv0, .string ⟨dv1.toArray⟩, .string ⟨dv2.toArray⟩, .int .i64 dv3, .int .i64 dv4, .int .i64 dv5, .int .i64 dv6, .int .i64 dv7] 33) = w7 at *
  obtain ⟨g8, hg8⟩ : ∃ g, g = w6.heap.size := ⟨_, rfl⟩
  obtain ⟨g10, hg10⟩ : ∃ g, g = w6.heap.size + 1 := ⟨_, rfl⟩
  obtain ⟨g11, hg11⟩ : ∃ g, g = w6.heap.size + 1 + 1 := ⟨_, rfl⟩
  rw [← hg8] at h8
  rw [← hg10] at h10
  rw [← hg11] at h11
  rw [← hg11, ← hg10, ← hg8]
  clear hg8 hg10 hg11
  have kaa : ∀ V, Calls Tryd.prog 16 #[(⟨⟨av0, av1, av2, av3⟩, av4, av5, av6, av7⟩ : Stm).val, (⟨⟨av0, av1, av2, av3⟩, av4, av5, av6, av7⟩ : Stm).val] V fun e w' => e = .returned (.bool true) ∧ Below V.heap.size V w' := fun V => by
    have := wfollows_walk (⟨⟨av0, av1, av2, av3⟩, av4, av5, av6, av7⟩ : Stm) (⟨⟨av0, av1, av2, av3⟩, av4, av5, av6, av7⟩ : Stm) V
    rwa [wfollowsF_self] at this
  have kab : ∀ V, Calls Tryd.prog 16 #[(⟨⟨av0, av1, av2, av3⟩, av4, av5, av6, av7⟩ : Stm).val, (⟨⟨bv0, bv1, bv2, bv3⟩, bv4, bv5, bv6, bv7⟩ : Stm).val] V fun e w' => e = .returned (.bool (wfollowsF (⟨⟨av0, av1, av2, av3⟩, av4, av5, av6, av7⟩ : Stm) (⟨⟨bv0, bv1, bv2, bv3⟩, bv4, bv5, bv6, bv7⟩ : Stm))) ∧ Below V.heap.size V w' := fun V => wfollows_walk _ _ V
  have kbd : ∀ V, Calls Tryd.prog 16 #[(⟨⟨bv0, bv1, bv2, bv3⟩, bv4, bv5, bv6, bv7⟩ : Stm).val, (⟨⟨dv0, dv1, dv2, dv3⟩, dv4, dv5, dv6, dv7⟩ : Stm).val] V fun e w' => e = .returned (.bool (wfollowsF (⟨⟨bv0, bv1, bv2, bv3⟩, bv4, bv5, bv6, bv7⟩ : Stm) (⟨⟨dv0, dv1, dv2, dv3⟩, dv4, dv5, dv6, dv7⟩ : Stm))) ∧ Below V.heap.size V w' := fun V => wfollows_walk _ _ V
  have kad : ∀ V, Calls Tryd.prog 16 #[(⟨⟨av0, av1, av2, av3⟩, av4, av5, av6, av7⟩ : Stm).val, (⟨⟨dv0, dv1, dv2, dv3⟩, dv4, dv5, dv6, dv7⟩ : Stm).val] V fun e w' => e = .returned (.bool (wfollowsF (⟨⟨av0, av1, av2, av3⟩, av4, av5, av6, av7⟩ : Stm) (⟨⟨dv0, dv1, dv2, dv3⟩, dv4, dv5, dv6, dv7⟩ : Stm))) ∧ Below V.heap.size V w' := fun V => wfollows_walk _ _ V
  have kc1 : ∀ V, Bases V → Calls Tryd.prog 17 #[.int .i64 500000003, (⟨⟨av0, av1, av2, av3⟩, av4, av5, av6, av7⟩ : Stm).val, (⟨⟨bv0, bv1, bv2, bv3⟩, bv4, bv5, bv6, bv7⟩ : Stm).val] V fun e w' => e = .returned (.bool (wcontraF 500000003 (⟨⟨av0, av1, av2, av3⟩, av4, av5, av6, av7⟩ : Stm) (⟨⟨bv0, bv1, bv2, bv3⟩, bv4, bv5, bv6, bv7⟩ : Stm))) ∧ Below V.heap.size V w' := fun V hV => wcontra_walk 500000003 _ _ V hV HaI.out HbI.out
  have kc2 : ∀ V, Bases V → Calls Tryd.prog 17 #[.int .i64 500000003, (⟨⟨bv0, bv1, bv2, bv3⟩, bv4, bv5, bv6, bv7⟩ : Stm).val, (⟨⟨av0, av1, av2, av3⟩, av4, av5, av6, av7⟩ : Stm).val] V fun e w' => e = .returned (.bool (wcontraF 500000003 (⟨⟨av0, av1, av2, av3⟩, av4, av5, av6, av7⟩ : Stm) (⟨⟨bv0, bv1, bv2, bv3⟩, bv4, bv5, bv6, bv7⟩ : Stm))) ∧ Below V.heap.size V w' := fun V hV => by
    have := wcontra_walk 500000003 (⟨⟨bv0, bv1, bv2, bv3⟩, bv4, bv5, bv6, bv7⟩ : Stm) (⟨⟨av0, av1, av2, av3⟩, av4, av5, av6, av7⟩ : Stm) V hV HbI.out HaI.out
    rwa [wcontraF_symm] at this
  have hfc := fun h => wcontraF_follows 500000003 (a := (⟨⟨av0, av1, av2, av3⟩, av4, av5, av6, av7⟩ : Stm)) (b := (⟨⟨bv0, bv1, bv2, bv3⟩, bv4, bv5, bv6, bv7⟩ : Stm)) h
  have htr := fun h => wfollowsF_trans (a := (⟨⟨av0, av1, av2, av3⟩, av4, av5, av6, av7⟩ : Stm)) (b := (⟨⟨bv0, bv1, bv2, bv3⟩, bv4, bv5, bv6, bv7⟩ : Stm)) (c := (⟨⟨dv0, dv1, dv2, dv3⟩, dv4, dv5, dv6, dv7⟩ : Stm)) h
  generalize wfollowsF (⟨⟨av0, av1, av2, av3⟩, av4, av5, av6, av7⟩ : Stm) (⟨⟨bv0, bv1, bv2, bv3⟩, bv4, bv5, bv6, bv7⟩ : Stm) = fab at *
  generalize wfollowsF (⟨⟨bv0, bv1, bv2, bv3⟩, bv4, bv5, bv6, bv7⟩ : Stm) (⟨⟨dv0, dv1, dv2, dv3⟩, dv4, dv5, dv6, dv7⟩ : Stm) = fbd at *
  generalize wfollowsF (⟨⟨av0, av1, av2, av3⟩, av4, av5, av6, av7⟩ : Stm) (⟨⟨dv0, dv1, dv2, dv3⟩, dv4, dv5, dv6, dv7⟩ : Stm) = fad at *
  generalize wcontraF 500000003 (⟨⟨av0, av1, av2, av3⟩, av4, av5, av6, av7⟩ : Stm) (⟨⟨bv0, bv1, bv2, bv3⟩, bv4, bv5, bv6, bv7⟩ : Stm) = cab at *
  dsimp only [Stm.val] at kaa kab kbd kad kc1 kc2
  have KAA := Lib.hid kaa
  have KAB := Lib.hid kab
  have KBD := Lib.hid kbd
  have KAD := Lib.hid kad
  have KC1 := Lib.hid kc1
  have KC2 := Lib.hid kc2
  have HFC := Lib.hid hfc
  have HTR := Lib.hid htr
  have HBR : ∀ d os, Bases (Sort.grow (redrawn w7 d) os) := fun d os => HB.out.keep (below_regrown w7 d os)
  have HBR := Lib.hid HBR
  clear kaa kab kbd kad kc1 kc2 hfc htr HaI HbI HcI HK HLD HL2 HLa HLb HLc
  have xa0 := fun d os => cell_regrown (show w7.cell? ⟨g8, 0, none⟩ = some (.int .i64 av0) from h8.cell 0 rfl) d os
  have xa1 := fun d os => cell_regrown (show w7.cell? ⟨g8, 1, none⟩ = some (.string ⟨av1.toArray⟩) from h8.cell 1 rfl) d os
  have xa2 := fun d os => cell_regrown (show w7.cell? ⟨g8, 2, none⟩ = some (.string ⟨av2.toArray⟩) from h8.cell 2 rfl) d os
  have xa3 := fun d os => cell_regrown (show w7.cell? ⟨g8, 3, none⟩ = some (.int .i64 av3) from h8.cell 3 rfl) d os
  have xa4 := fun d os => cell_regrown (show w7.cell? ⟨g8, 4, none⟩ = some (.int .i64 av4) from h8.cell 4 rfl) d os
  have xa5 := fun d os => cell_regrown (show w7.cell? ⟨g8, 5, none⟩ = some (.int .i64 av5) from h8.cell 5 rfl) d os
  have xa6 := fun d os => cell_regrown (show w7.cell? ⟨g8, 6, none⟩ = some (.int .i64 av6) from h8.cell 6 rfl) d os
  have xa7 := fun d os => cell_regrown (show w7.cell? ⟨g8, 7, none⟩ = some (.int .i64 av7) from h8.cell 7 rfl) d os
  have xb0 := fun d os => cell_regrown (show w7.cell? ⟨g10, 0, none⟩ = some (.int .i64 bv0) from h10.cell 0 rfl) d os
  have xb1 := fun d os => cell_regrown (show w7.cell? ⟨g10, 1, none⟩ = some (.string ⟨bv1.toArray⟩) from h10.cell 1 rfl) d os
  have xb2 := fun d os => cell_regrown (show w7.cell? ⟨g10, 2, none⟩ = some (.string ⟨bv2.toArray⟩) from h10.cell 2 rfl) d os
  have xb3 := fun d os => cell_regrown (show w7.cell? ⟨g10, 3, none⟩ = some (.int .i64 bv3) from h10.cell 3 rfl) d os
  have xb4 := fun d os => cell_regrown (show w7.cell? ⟨g10, 4, none⟩ = some (.int .i64 bv4) from h10.cell 4 rfl) d os
  have xb5 := fun d os => cell_regrown (show w7.cell? ⟨g10, 5, none⟩ = some (.int .i64 bv5) from h10.cell 5 rfl) d os
  have xb6 := fun d os => cell_regrown (show w7.cell? ⟨g10, 6, none⟩ = some (.int .i64 bv6) from h10.cell 6 rfl) d os
  have xb7 := fun d os => cell_regrown (show w7.cell? ⟨g10, 7, none⟩ = some (.int .i64 bv7) from h10.cell 7 rfl) d os
  go_cut [49] (fun v wr => v = .bool false ∧ Below w7.heap.size w7 wr)
  case first =>
    have hcc : fab = true → cab = false := HFC.out
    cases fab with
    | true =>
      obtain rfl := hcc rfl
      refine wp_region_quiet_below (by kernel_rfl) (by kernel_rfl) ?_
      repeat (go_big_quiet_step (first
          | (go_at_call 16; with_reducible exact Calls.regrown_of (KAA.out _))
          | (go_at_call 16; with_reducible exact Calls.regrown_of (KAB.out _))
          | (go_at_call 17; with_reducible exact Calls.regrown_of (KC1.out _ (HBR.out _ _)))
          | (go_at_call 17; with_reducible exact Calls.regrown_of (KC2.out _ (HBR.out _ _)))))
      refine wpQuiet_nil ?_
      rintro w9 ⟨p1, rfl⟩
      have hb9 := below_regrown w7 p1.d p1.os
      go_wp2_with fail
      go_meet
      case rel => exact ⟨rfl, hb9⟩
    | false =>
      clear hcc
      cases cab
      all_goals
        refine wp_region_quiet_below (by kernel_rfl) (by kernel_rfl) ?_
        repeat (go_big_quiet_step (first
          | (go_at_call 16; with_reducible exact Calls.regrown_of (KAA.out _))
          | (go_at_call 16; with_reducible exact Calls.regrown_of (KAB.out _))
          | (go_at_call 17; with_reducible exact Calls.regrown_of (KC1.out _ (HBR.out _ _)))
          | (go_at_call 17; with_reducible exact Calls.regrown_of (KC2.out _ (HBR.out _ _)))))
        refine wpQuiet_nil ?_
        rintro w9 ⟨p1, rfl⟩
        have hb9 := below_regrown w7 p1.d p1.os
        go_wp2_with fail
        go_meet
        case rel => exact ⟨rfl, hb9⟩
  case rest =>
    obtain ⟨rfl, hb9⟩ := hcut
    clear xa0 xa1 xa2 xa3 xa4 xa5 xa6 xa7 xb0 xb1 xb2 xb3 xb4 xb5 xb6 xb7 HBR KAA KC1 KC2 HFC
    replace h8 := h8.keep hb9
    replace h10 := h10.keep hb9
    replace h11 := h11.keep hb9
    replace hbW := hbW.trans (hb9.mono hbW.size)
    have HB2 := Lib.hid (HB.out.keep hb9)
    clear hb9 HB
    have m0 : wc.cell? ⟨g8, 0, none⟩ = some (.int .i64 av0) := h8.cell 0 rfl
    have m1 : wc.cell? ⟨g8, 1, none⟩ = some (.string ⟨av1.toArray⟩) := h8.cell 1 rfl
    have m2 : wc.cell? ⟨g8, 2, none⟩ = some (.string ⟨av2.toArray⟩) := h8.cell 2 rfl
    have m3 : wc.cell? ⟨g8, 3, none⟩ = some (.int .i64 av3) := h8.cell 3 rfl
    have m4 : wc.cell? ⟨g8, 4, none⟩ = some (.int .i64 av4) := h8.cell 4 rfl
    have m5 : wc.cell? ⟨g8, 5, none⟩ = some (.int .i64 av5) := h8.cell 5 rfl
    have m6 : wc.cell? ⟨g8, 6, none⟩ = some (.int .i64 av6) := h8.cell 6 rfl
    have m7 : wc.cell? ⟨g8, 7, none⟩ = some (.int .i64 av7) := h8.cell 7 rfl
    have n0 : wc.cell? ⟨g10, 0, none⟩ = some (.int .i64 bv0) := h10.cell 0 rfl
    have n1 : wc.cell? ⟨g10, 1, none⟩ = some (.string ⟨bv1.toArray⟩) := h10.cell 1 rfl
    have n2 : wc.cell? ⟨g10, 2, none⟩ = some (.string ⟨bv2.toArray⟩) := h10.cell 2 rfl
    have n3 : wc.cell? ⟨g10, 3, none⟩ = some (.int .i64 bv3) := h10.cell 3 rfl
    have n4 : wc.cell? ⟨g10, 4, none⟩ = some (.int .i64 bv4) := h10.cell 4 rfl
    have n5 : wc.cell? ⟨g10, 5, none⟩ = some (.int .i64 bv5) := h10.cell 5 rfl
    have n6 : wc.cell? ⟨g10, 6, none⟩ = some (.int .i64 bv6) := h10.cell 6 rfl
    have n7 : wc.cell? ⟨g10, 7, none⟩ = some (.int .i64 bv7) := h10.cell 7 rfl
    go_wp2_with (go_at_call 16; (with_reducible refine (KAB.out _).mono ?_))
    (first | rintro e w9 rfl hb1 | rintro e w9 ⟨rfl, hb1⟩)
    replace h8 := h8.keep hb1
    replace h10 := h10.keep hb1
    replace h11 := h11.keep hb1
    replace hbW := hbW.trans (hb1.mono hbW.size)
    have HB3 := Lib.hid (HB2.out.keep hb1)
    clear hb1 HB2 m0 m1 m2 m3 m4 m5 m6 m7 n0 n1 n2 n3 n4 n5 n6 n7
    have haw : ∀ V, Bases V → Calls Tryd.prog 8 #[] V fun e w' => e = .returned (.bool true) ∧ Below V.heap.size V w' := fun V hV => awake21_walk V hV
    have HAW := Lib.hid haw
    clear haw
    cases fab with
    | false =>
      go_wp2_with (go_at_call 8; (with_reducible refine (HAW.out _ HB3.out).mono ?_))
      (first | rintro e w10 rfl hb1 | rintro e w10 ⟨rfl, hb1⟩)
      replace hbW := hbW.trans (hb1.mono hbW.size)
      go_wp2
      go_ret
      exact ⟨rfl, hbW⟩
    | true =>
    have s0 : w9.cell? ⟨g10, 0, none⟩ = some (.int .i64 bv0) := h10.cell 0 rfl
    have s1 : w9.cell? ⟨g10, 1, none⟩ = some (.string ⟨bv1.toArray⟩) := h10.cell 1 rfl
    have s2 : w9.cell? ⟨g10, 2, none⟩ = some (.string ⟨bv2.toArray⟩) := h10.cell 2 rfl
    have s3 : w9.cell? ⟨g10, 3, none⟩ = some (.int .i64 bv3) := h10.cell 3 rfl
    have s4 : w9.cell? ⟨g10, 4, none⟩ = some (.int .i64 bv4) := h10.cell 4 rfl
    have s5 : w9.cell? ⟨g10, 5, none⟩ = some (.int .i64 bv5) := h10.cell 5 rfl
    have s6 : w9.cell? ⟨g10, 6, none⟩ = some (.int .i64 bv6) := h10.cell 6 rfl
    have s7 : w9.cell? ⟨g10, 7, none⟩ = some (.int .i64 bv7) := h10.cell 7 rfl
    have t0 : w9.cell? ⟨g11, 0, none⟩ = some (.int .i64 dv0) := h11.cell 0 rfl
    have t1 : w9.cell? ⟨g11, 1, none⟩ = some (.string ⟨dv1.toArray⟩) := h11.cell 1 rfl
    have t2 : w9.cell? ⟨g11, 2, none⟩ = some (.string ⟨dv2.toArray⟩) := h11.cell 2 rfl
    have t3 : w9.cell? ⟨g11, 3, none⟩ = some (.int .i64 dv3) := h11.cell 3 rfl
    have t4 : w9.cell? ⟨g11, 4, none⟩ = some (.int .i64 dv4) := h11.cell 4 rfl
    have t5 : w9.cell? ⟨g11, 5, none⟩ = some (.int .i64 dv5) := h11.cell 5 rfl
    have t6 : w9.cell? ⟨g11, 6, none⟩ = some (.int .i64 dv6) := h11.cell 6 rfl
    have t7 : w9.cell? ⟨g11, 7, none⟩ = some (.int .i64 dv7) := h11.cell 7 rfl
    go_wp2_with (go_at_call 16; (with_reducible refine (KBD.out _).mono ?_))
    (first | rintro e w10 rfl hb1 | rintro e w10 ⟨rfl, hb1⟩)
    replace h8 := h8.keep hb1
    replace h11 := h11.keep hb1
    replace hbW := hbW.trans (hb1.mono hbW.size)
    have HB4 := Lib.hid (HB3.out.keep hb1)
    clear hb1 HB3 s0 s1 s2 s3 s4 s5 s6 s7 t0 t1 t2 t3 t4 t5 t6 t7
    cases fbd with
    | false =>
      go_wp2_with (go_at_call 8; (with_reducible refine (HAW.out _ HB4.out).mono ?_))
      (first | rintro e w11 rfl hb1 | rintro e w11 ⟨rfl, hb1⟩)
      replace hbW := hbW.trans (hb1.mono hbW.size)
      go_wp2
      go_ret
      exact ⟨rfl, hbW⟩
    | true =>
    obtain rfl : fad = true := by have hq := HTR.out; simpa using hq
    have u0 : w10.cell? ⟨g8, 0, none⟩ = some (.int .i64 av0) := h8.cell 0 rfl
    have u1 : w10.cell? ⟨g8, 1, none⟩ = some (.string ⟨av1.toArray⟩) := h8.cell 1 rfl
    have u2 : w10.cell? ⟨g8, 2, none⟩ = some (.string ⟨av2.toArray⟩) := h8.cell 2 rfl
    have u3 : w10.cell? ⟨g8, 3, none⟩ = some (.int .i64 av3) := h8.cell 3 rfl
    have u4 : w10.cell? ⟨g8, 4, none⟩ = some (.int .i64 av4) := h8.cell 4 rfl
    have u5 : w10.cell? ⟨g8, 5, none⟩ = some (.int .i64 av5) := h8.cell 5 rfl
    have u6 : w10.cell? ⟨g8, 6, none⟩ = some (.int .i64 av6) := h8.cell 6 rfl
    have u7 : w10.cell? ⟨g8, 7, none⟩ = some (.int .i64 av7) := h8.cell 7 rfl
    have v0 : w10.cell? ⟨g11, 0, none⟩ = some (.int .i64 dv0) := h11.cell 0 rfl
    have v1 : w10.cell? ⟨g11, 1, none⟩ = some (.string ⟨dv1.toArray⟩) := h11.cell 1 rfl
    have v2 : w10.cell? ⟨g11, 2, none⟩ = some (.string ⟨dv2.toArray⟩) := h11.cell 2 rfl
    have v3 : w10.cell? ⟨g11, 3, none⟩ = some (.int .i64 dv3) := h11.cell 3 rfl
    have v4 : w10.cell? ⟨g11, 4, none⟩ = some (.int .i64 dv4) := h11.cell 4 rfl
    have v5 : w10.cell? ⟨g11, 5, none⟩ = some (.int .i64 dv5) := h11.cell 5 rfl
    have v6 : w10.cell? ⟨g11, 6, none⟩ = some (.int .i64 dv6) := h11.cell 6 rfl
    have v7 : w10.cell? ⟨g11, 7, none⟩ = some (.int .i64 dv7) := h11.cell 7 rfl
    go_wp2_with (go_at_call 16; (with_reducible refine (KAD.out _).mono ?_))
    (first | rintro e w11 rfl hb1 | rintro e w11 ⟨rfl, hb1⟩)
    replace hbW := hbW.trans (hb1.mono hbW.size)
    have HB5 := Lib.hid (HB4.out.keep hb1)
    clear hb1 HB4
    go_wp2_with (go_at_call 8; (with_reducible refine (HAW.out _ HB5.out).mono ?_))
    (first | rintro e w12 rfl hb1 | rintro e w12 ⟨rfl, hb1⟩)
    replace hbW := hbW.trans (hb1.mono hbW.size)
    go_wp2
    go_ret
    exact ⟨rfl, hbW⟩
end Go.Proofs.YtgfcknadjijinaaDoor
