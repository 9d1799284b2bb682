/- The walk of the law WitnessChanges. -/
import Derived.Test.YtgfcknadjijinaaDoorGHandQ
import Derived.Test.YtgfcknadjijinaaDoorGDice
namespace Go.Proofs.YtgfcknadjijinaaDoor
open Go.RowKit
def hd23 : Head := ⟨2, [108], [114], 3⟩
theorem hd23_in : hd23.In := small_head 2 3 [108] [114] (by omega) (by omega) (by decide) (by decide)
theorem changed_right (key nonce : Nat) (seen : Int) (hs : 3 ≤ seen) (b : Nat) (hb : b < 500000003) :
    wrightF 500000003 ⟨hd23, seen, (gpw 500000003 4 (key : Int) : Int), (signR 500000003 nonce : Int), ((signS 500000003 key nonce (wtextF hd23 seen) : Int) + (b : Int)) % 500000003⟩ = (b == 0) := by
  rw [wrightF, verP, safeP_big]
  have h := sign_other grp_big key nonce (wtextF hd23 seen) b hb
  rw [Int.natCast_emod, Int.natCast_add] at h
  show (decide ((3 : Int) ≤ seen) && (true && verF 500000003 _ (wtextF hd23 seen) _ _)) = _
  rw [decide_eq_true hs, Bool.true_and, Bool.true_and]
  exact h
set_option maxRecDepth 100000 in
set_option maxHeartbeats 4000000 in
theorem changes_walk (W : World) (hB : Bases W) (p : Option Addr) (l : List Int) (cap : Nat) (hR : Rd W p (ints l)) (hl : l.length ≤ 17592186043904) (u : Nat) (_ : u < 256) (b : Nat) (hb : b < 65536) :
    Calls Tryd.prog 3 #[.slice p l.length cap, .int .u8 (u : Int), .int .u16 (b : Int)] W fun e w' => e = .returned (.bool true) ∧ Below W.heap.size W w' := by
  go_enter Tryd.func3, Tryd.ntmps3
  go_wp2_with (go_at_call 7; (with_reducible refine (light_walk _ _ _ _ (by omega)).mono ?_))
  rintro e w1 ⟨rfl, rfl⟩
  rcases Nat.lt_or_ge 500 l.length with h5 | h5
  · have hd5 : decide (l.length ≤ 500) = false := by simp; omega
    go_wp2_with (go_at_call 8; (with_reducible refine (awake21_walk _ hB).mono ?_))
    rintro e w1 ⟨rfl, hb1⟩
    go_wp2
    go_ret
    exact ⟨rfl, hb1⟩
  have hd5 : decide (l.length ≤ 500) = true := by simp; omega
  go_wp2_with (go_at_call 9; (with_reducible refine (roll_walk _ _ _ _).mono ?_))
  rintro e w1 ⟨rfl, hD, hb1⟩
  have hE : Env W w1 W.heap.size p l cap 0 := ⟨hD, hR.keep hb1, hb1⟩
  have hne := rd_ne hR (Nat.le_refl _)
  have HNE := Lib.hid hne
  clear hne hD hb1
  go_wp2_with (go_at_call 11; (with_reducible refine (next_walk _ p l cap 0 9999 _ hE.dice hE.rd HNE.out (by omega) (by omega) (by omega)).mono ?_))
  rintro e w2 ⟨rfl, hD, hg⟩
  replace hE := hE.grown HNE.out (Nat.le_refl _) hD hg
  have a1 := dnum_lo l 0 (n := 9999) (by omega)
  have a2 := dnum_hi l 0 (n := 9999) (by omega)
  obtain ⟨a, ha⟩ : ∃ a : Nat, dnum l 0 9999 = (a : Int) := ⟨(dnum l 0 9999).toNat, by omega⟩
  rw [ha] at a1 a2 ⊢
  generalize dnxt l 0 = q1 at *
  clear hD hg ha
  go_wp2_with (go_at_call 11; (with_reducible refine (next_walk _ p l cap q1 9999 _ hE.dice hE.rd HNE.out (by omega) (by omega) (by omega)).mono ?_))
  rintro e w3 ⟨rfl, hD, hg⟩
  replace hE := hE.grown HNE.out (Nat.le_refl _) hD hg
  have c1 := dnum_lo l q1 (n := 9999) (by omega)
  have c2 := dnum_hi l q1 (n := 9999) (by omega)
  obtain ⟨c, hc⟩ : ∃ c : Nat, dnum l q1 9999 = (c : Int) := ⟨(dnum l q1 9999).toNat, by omega⟩
  rw [hc] at c1 c2 ⊢
  generalize dnxt l q1 = q2 at *
  clear hD hg hc
  go_wp2_with (go_at_call 11; (with_reducible refine (next_walk _ p l cap q2 5 _ hE.dice hE.rd HNE.out (by omega) (by omega) (by omega)).mono ?_))
  rintro e w4 ⟨rfl, hD, hg⟩
  replace hE := hE.grown HNE.out (Nat.le_refl _) hD hg
  have d1 := dnum_lo l q2 (n := 5) (by omega)
  have d2 := dnum_hi l q2 (n := 5) (by omega)
  generalize dnum l q2 5 = d at *
  clear hD hg
  have hbE := hE.below
  have HB := Lib.hid (hB.keep hbE)
  clear hE hB
  have k1 : ∀ V, Bases V → Calls Tryd.prog 10 #[.int .i64 500000003, .int .i64 (1 + (a : Int)), .int .i64 (1 + (c : Int)), .agg #[.int .i64 2, .string ⟨#[108]⟩, .string ⟨#[114]⟩, .int .i64 3], .int .i64 (4 + d)] V fun e w' => e = .returned (.tuple #[(stampF (1 + a) (1 + c) hd23 (4 + d)).val, .int .i64 0]) ∧ Below V.heap.size V w' := fun V hV => by
    have := stamp_made (1 + a) (1 + c) hd23 (4 + d) V hV hd23_in ⟨by omega, by omega⟩ (by show (3 : Int) ≤ 4 + d; omega) (by omega) (by omega) (by omega) (by omega)
    rw [Int.natCast_add, Int.natCast_add] at this
    exact this
  have r1 := stampF_right (1 + a) (1 + c) hd23 (4 + d) (by show (3 : Int) ≤ 4 + d; omega)
  have r2 := changed_right (1 + a) (1 + c) (4 + d) (by omega) b (by omega)
  have hS : signS 500000003 (1 + a) (1 + c) (wtextF hd23 (4 + d)) < 500000003 := Nat.mod_lt _ (by omega)
  unfold stampF at k1 r1
  generalize signS 500000003 (1 + a) (1 + c) (wtextF hd23 (4 + d)) = S at *
  generalize gpw 500000003 4 ((1 + a : Nat) : Int) = ky at *
  generalize signR 500000003 (1 + c) = R at *
  have k2 : ∀ V, Bases V → Calls Tryd.prog 12 #[.int .i64 500000003, (Stm.mk hd23 (4 + d) (ky : Int) (R : Int) (S : Int)).val] V fun e w' => e = .returned (.bool true) ∧ Below V.heap.size V w' := fun V hV => by rw [← r1]; exact wright_walk 500000003 _ V hV ⟨hd23_in, by constructor <;> (dsimp only; omega)⟩
  have k3 : ∀ V, Bases V → Calls Tryd.prog 12 #[.int .i64 500000003, (Stm.mk hd23 (4 + d) (ky : Int) (R : Int) (((S : Int) + (b : Int)) % 500000003)).val] V fun e w' => e = .returned (.bool (b == 0)) ∧ Below V.heap.size V w' := fun V hV => by rw [← r2]; exact wright_walk 500000003 _ V hV ⟨hd23_in, by constructor <;> (dsimp only; omega)⟩
  have k4 : ∀ V, Bases V → Calls Tryd.prog 12 #[.int .i64 500000003, (Stm.mk hd23 2 (ky : Int) (R : Int) (S : Int)).val] V fun e w' => e = .returned (.bool false) ∧ Below V.heap.size V w' := fun V hV => by
    have : wrightF 500000003 ⟨hd23, 2, (ky : Int), (R : Int), (S : Int)⟩ = false := by rw [wrightF, decide_eq_false (by show ¬ (3 : Int) ≤ 2; omega)]; rfl
    rw [← this]
    exact wright_walk 500000003 _ V hV ⟨hd23_in, by constructor <;> (dsimp only; omega)⟩
  have k5 : ∀ V, Calls Tryd.prog 10 #[.int .i64 500000003, .int .i64 5, .int .i64 5, .agg #[.int .i64 2, .string ⟨#[108]⟩, .string ⟨#[114]⟩, .int .i64 3], .int .i64 2] V fun e w' => e = .returned (.tuple #[Stm.zero.val, .int .i64 16]) ∧ Below V.heap.size V w' := fun V => wstamp_late 500000003 5 5 hd23 2 V (by show (2 : Int) < 3; omega)
  have k6 : ∀ V, Bases V → Calls Tryd.prog 10 #[.int .i64 500000003, .int .i64 0, .int .i64 5, .agg #[.int .i64 2, .string ⟨#[108]⟩, .string ⟨#[114]⟩, .int .i64 3], .int .i64 (4 + d)] V fun e w' => e = .returned (.tuple #[Stm.zero.val, .int .i64 2]) ∧ Below V.heap.size V w' := fun V hV => wstamp_no 500000003 0 5 hd23 (4 + d) V hV hd23_in ⟨by omega, by omega⟩ (by show (3 : Int) ≤ 4 + d; omega) (.inr (.inl (by omega)))
  have k7 : ∀ V, Bases V → Calls Tryd.prog 8 #[] V fun e w' => e = .returned (.bool true) ∧ Below V.heap.size V w' := fun V hV => awake21_walk V hV
  dsimp only [Stm.val, hd23, Stm.zero] at k1 k2 k3 k4 k5 k6
  have K1 := Lib.hid k1
  have K2 := Lib.hid k2
  have K3 := Lib.hid k3
  have K4 := Lib.hid k4
  have K5 := Lib.hid k5
  have K6 := Lib.hid k6
  have K7 := Lib.hid k7
  clear k1 k2 k3 k4 k5 k6 k7 r1 r2 a1 a2 c1 c2
  go_wp2_with (go_at_call 10; (with_reducible refine (K1.out _ HB.out).mono ?_))
  rintro e w5 ⟨rfl, hb1⟩
  have hbW := hbE.trans (hb1.mono hbE.size)
  have HB5 := Lib.hid (HB.out.keep hb1)
  clear hb1 HB hbE
  go_upto_region 9 with (fail)
  have h8 := ((Bx.new w5 33 [.int .i64 2, .string ⟨#[108]⟩, .string ⟨#[114]⟩, .int .i64 3, .int .i64 (4 + d), .int .i64 (ky : Int), .int .i64 (R : Int), .int .i64 (S : Int)]).alloc (.cells #[.int .i64 2, .string ⟨#[108]⟩, .string ⟨#[114]⟩, .int .i64 3, .int .i64 (4 + d), .int .i64 (ky : Int), .int .i64 (R : Int), .int .i64 (((S : Int) + (b : Int)) % 500000003)] 33)).alloc (.cells #[.int .i64 2, .string ⟨#[108]⟩, .string ⟨#[114]⟩, .int .i64 3, .int .i64 (2), .int .i64 (ky : Int), .int .i64 (R : Int), .int .i64 (S : Int)] 33)
  have h10 := (Bx.new2 w5 (.cells #[.int .i64 2, .string ⟨#[108]⟩, .string ⟨#[114]⟩, .int .i64 3, .int .i64 (4 + d), .int .i64 (ky : Int), .int .i64 (R : Int), .int .i64 (S : Int)] 33) 33 [.int .i64 2, .string ⟨#[108]⟩, .string ⟨#[114]⟩, .int .i64 3, .int .i64 (4 + d), .int .i64 (ky : Int), .int .i64 (R : Int), .int .i64 (((S : Int) + (b : Int)) % 500000003)]).alloc (.cells #[.int .i64 2, .string ⟨#[108]⟩, .string ⟨#[114]⟩, .int .i64 3, .int .i64 (2), .int .i64 (ky : Int), .int .i64 (R : Int), .int .i64 (S : Int)] 33)
  have h11 := Bx.new2 (w5.alloc (.cells #[.int .i64 2, .string ⟨#[108]⟩, .string ⟨#[114]⟩, .int .i64 3, .int .i64 (4 + d), .int .i64 (ky : Int), .int .i64 (R : Int), .int .i64 (S : Int)] 33)) (.cells #[.int .i64 2, .string ⟨#[108]⟩, .string ⟨#[114]⟩, .int .i64 3, .int .i64 (4 + d), .int .i64 (ky : Int), .int .i64 (R : Int), .int .i64 (((S : Int) + (b : Int)) % 500000003)] 33) 33 [.int .i64 2, .string ⟨#[108]⟩, .string ⟨#[114]⟩, .int .i64 3, .int .i64 (2), .int .i64 (ky : Int), .int .i64 (R : Int), .int .i64 (S : Int)]
  rw [World.size_alloc] at h11
  have hb5 := (((Below.refl _ w5).alloc (Nat.le_refl _) (.cells #[.int .i64 2, .string ⟨#[108]⟩, .string ⟨#[114]⟩, .int .i64 3, .int .i64 (4 + d), .int .i64 (ky : Int), .int .i64 (R : Int), .int .i64 (S : Int)] 33)).alloc (by simp) (.cells #[.int .i64 2, .string ⟨#[108]⟩, .string ⟨#[114]⟩, .int .i64 3, .int .i64 (4 + d), .int .i64 (ky : Int), .int .i64 (R : Int), .int .i64 (((S : Int) + (b : Int)) % 500000003)] 33)).alloc (by simp; omega) (.cells #[.int .i64 2, .string ⟨#[108]⟩, .string ⟨#[114]⟩, .int .i64 3, .int .i64 (2), .int .i64 (ky : Int), .int .i64 (R : Int), .int .i64 (S : Int)] 33)
  have HB6 := Lib.hid (HB5.out.keep hb5)
  replace hbW := hbW.trans (hb5.mono hbW.size)
  change Bx (((w5.alloc (.cells #[.int .i64 2, .string ⟨#[108]⟩, .string ⟨#[114]⟩, .int .i64 3, .int .i64 (4 + d), .int .i64 (ky : Int), .int .i64 (R : Int), .int .i64 (S : Int)] 33)).alloc (.cells #[.int .i64 2, .string ⟨#[108]⟩, .string ⟨#[114]⟩, .int .i64 3, .int .i64 (4 + d), .int .i64 (ky : Int), .int .i64 (R : Int), .int .i64 (((S : Int) + (b : Int)) % 500000003)] 33)).alloc (.cells #[.int .i64 2, .string ⟨#[108]⟩, .string ⟨#[114]⟩, .int .i64 3, .int .i64 (2), .int .i64 (ky : Int), .int .i64 (R : Int), .int .i64 (S : Int)] 33)) _ _ _ at h8
  change Bx (((w5.alloc (.cells #[.int .i64 2, .string ⟨#[108]⟩, .string ⟨#[114]⟩, .int .i64 3, .int .i64 (4 + d), .int .i64 (ky : Int), .int .i64 (R : Int), .int .i64 (S : Int)] 33)).alloc (.cells #[.int .i64 2, .string ⟨#[108]⟩, .string ⟨#[114]⟩, .int .i64 3, .int .i64 (4 + d), .int .i64 (ky : Int), .int .i64 (R : Int), .int .i64 (((S : Int) + (b : Int)) % 500000003)] 33)).alloc (.cells #[.int .i64 2, .string ⟨#[108]⟩, .string ⟨#[114]⟩, .int .i64 3, .int .i64 (2), .int .i64 (ky : Int), .int .i64 (R : Int), .int .i64 (S : Int)] 33)) _ _ _ at h10
  change Bx (((w5.alloc (.cells #[.int .i64 2, .string ⟨#[108]⟩, .string ⟨#[114]⟩, .int .i64 3, .int .i64 (4 + d), .int .i64 (ky : Int), .int .i64 (R : Int), .int .i64 (S : Int)] 33)).alloc (.cells #[.int .i64 2, .string ⟨#[108]⟩, .string ⟨#[114]⟩, .int .i64 3, .int .i64 (4 + d), .int .i64 (ky : Int), .int .i64 (R : Int), .int .i64 (((S : Int) + (b : Int)) % 500000003)] 33)).alloc (.cells #[.int .i64 2, .string ⟨#[108]⟩, .string ⟨#[114]⟩, .int .i64 3, .int .i64 (2), .int .i64 (ky : Int), .int .i64 (R : Int), .int .i64 (S : Int)] 33)) _ _ _ at h11
  clear hb5 HB5
  generalize ((w5.alloc (.cells #[.int .i64 2, .string ⟨#[108]⟩, .string ⟨#[114]⟩, .int .i64 3, .int .i64 (4 + d), .int .i64 (ky : Int), .int .i64 (R : Int), .int .i64 (S : Int)] 33)).alloc (.cells #[.int .i64 2, .string ⟨#[108]⟩, .string ⟨#[114]⟩, .int .i64 3, .int .i64 (4 + d), .int .i64 (ky : Int), .int .i64 (R : Int), .int .i64 (((S : Int) + (b : Int)) % 500000003)] 33)).alloc (.cells #[.int .i64 2, .string ⟨#[108]⟩, .string ⟨#[114]⟩, .int .i64 3, .int .i64 (2), .int .i64 (ky : Int), .int .i64 (R : Int), .int .i64 (S : Int)] 33) = w6 at *
  obtain ⟨g8, hg8⟩ : ∃ g, g = w5.heap.size := ⟨_, rfl⟩
  obtain ⟨g10, hg10⟩ : ∃ g, g = w5.heap.size + 1 := ⟨_, rfl⟩
  obtain ⟨g11, hg11⟩ : ∃ g, g = w5.heap.size + 1 + 1 := ⟨_, rfl⟩
  rw [← hg8] at h8
  rw [← hg10] at h10
  rw [← hg11] at h11
  rw [← hg11, ← hg10, ← hg8]
  clear hg8 hg10 hg11
  have x0 : w6.cell? ⟨g8, 0, none⟩ = some (.int .i64 2) := h8.cell 0 rfl
  have x1 : w6.cell? ⟨g8, 1, none⟩ = some (.string ⟨#[108]⟩) := h8.cell 1 rfl
  have x2 : w6.cell? ⟨g8, 2, none⟩ = some (.string ⟨#[114]⟩) := h8.cell 2 rfl
  have x3 : w6.cell? ⟨g8, 3, none⟩ = some (.int .i64 3) := h8.cell 3 rfl
  go_wp2_with (go_at_call 10; (with_reducible refine (K5.out _).mono ?_))
  (first | rintro e w7 rfl hb1 | rintro e w7 ⟨rfl, hb1⟩)
  replace h8 := h8.keep hb1
  replace h10 := h10.keep hb1
  replace h11 := h11.keep hb1
  replace hbW := hbW.trans (hb1.mono hbW.size)
  have HB7 := Lib.hid (HB6.out.keep (hb1.alloc hb1.size (.cells #[.int .i64 0, .string ⟨#[]⟩, .string ⟨#[]⟩, .int .i64 0, .int .i64 0, .int .i64 0, .int .i64 0, .int .i64 0] 33)))
  have HB6b := Lib.hid (HB6.out.keep hb1)
  clear hb1 x0 x1 x2 x3 HB6
  have x0 : w7.cell? ⟨g8, 0, none⟩ = some (.int .i64 2) := h8.cell 0 rfl
  have x1 : w7.cell? ⟨g8, 1, none⟩ = some (.string ⟨#[108]⟩) := h8.cell 1 rfl
  have x2 : w7.cell? ⟨g8, 2, none⟩ = some (.string ⟨#[114]⟩) := h8.cell 2 rfl
  have x3 : w7.cell? ⟨g8, 3, none⟩ = some (.int .i64 3) := h8.cell 3 rfl
  have x4 : w7.cell? ⟨g8, 4, none⟩ = some (.int .i64 (4 + d)) := h8.cell 4 rfl
  have y8 := h8.lt
  go_wp2_with (go_at_call 10; (with_reducible refine (K6.out _ HB7.out).mono ?_))
  (first | rintro e w8 rfl hb1 | rintro e w8 ⟨rfl, hb1⟩)
  replace hb1 := ((Below.refl _ w7).alloc (Nat.le_refl _) (.cells #[.int .i64 0, .string ⟨#[]⟩, .string ⟨#[]⟩, .int .i64 0, .int .i64 0, .int .i64 0, .int .i64 0, .int .i64 0] 33)).trans (hb1.mono (by simp))
  replace h8 := (h8.keep hb1).alloc (.cells #[.int .i64 0, .string ⟨#[]⟩, .string ⟨#[]⟩, .int .i64 0, .int .i64 0, .int .i64 0, .int .i64 0, .int .i64 0] 33)
  replace h10 := (h10.keep hb1).alloc (.cells #[.int .i64 0, .string ⟨#[]⟩, .string ⟨#[]⟩, .int .i64 0, .int .i64 0, .int .i64 0, .int .i64 0, .int .i64 0] 33)
  replace h11 := (h11.keep hb1).alloc (.cells #[.int .i64 0, .string ⟨#[]⟩, .string ⟨#[]⟩, .int .i64 0, .int .i64 0, .int .i64 0, .int .i64 0, .int .i64 0] 33)
  have hb2 := hb1.alloc hb1.size (.cells #[.int .i64 0, .string ⟨#[]⟩, .string ⟨#[]⟩, .int .i64 0, .int .i64 0, .int .i64 0, .int .i64 0, .int .i64 0] 33)
  replace hbW := hbW.trans (hb2.mono hbW.size)
  have HB8 := Lib.hid (HB6b.out.keep hb2)
  clear hb1 hb2 x0 x1 x2 x3 x4 y8 HB7
  go_upto_region 11 with (fail)
  generalize w8.alloc (.cells #[.int .i64 0, .string ⟨#[]⟩, .string ⟨#[]⟩, .int .i64 0, .int .i64 0, .int .i64 0, .int .i64 0, .int .i64 0] 33) = w9 at *
  have x0 : w9.cell? ⟨g8, 0, none⟩ = some (.int .i64 2) := h8.cell 0 rfl
  have x1 : w9.cell? ⟨g8, 1, none⟩ = some (.string ⟨#[108]⟩) := h8.cell 1 rfl
  have x2 : w9.cell? ⟨g8, 2, none⟩ = some (.string ⟨#[114]⟩) := h8.cell 2 rfl
  have x3 : w9.cell? ⟨g8, 3, none⟩ = some (.int .i64 3) := h8.cell 3 rfl
  have x4 : w9.cell? ⟨g8, 4, none⟩ = some (.int .i64 (4 + d)) := h8.cell 4 rfl
  have x5 : w9.cell? ⟨g8, 5, none⟩ = some (.int .i64 (ky : Int)) := h8.cell 5 rfl
  have x6 : w9.cell? ⟨g8, 6, none⟩ = some (.int .i64 (R : Int)) := h8.cell 6 rfl
  have x7 : w9.cell? ⟨g8, 7, none⟩ = some (.int .i64 (S : Int)) := h8.cell 7 rfl
  go_wp2_with (go_at_call 12; (with_reducible refine (K2.out _ HB8.out).mono ?_))
  (first | rintro e w10 rfl hb1 | rintro e w10 ⟨rfl, hb1⟩)
  replace h10 := h10.keep hb1
  replace h11 := h11.keep hb1
  replace hbW := hbW.trans (hb1.mono hbW.size)
  have HB10 := Lib.hid (HB8.out.keep hb1)
  clear hb1 x0 x1 x2 x3 x4 x5 x6 x7 HB8 h8
  have y0 : w10.cell? ⟨g10, 0, none⟩ = some (.int .i64 2) := h10.cell 0 rfl
  have y1 : w10.cell? ⟨g10, 1, none⟩ = some (.string ⟨#[108]⟩) := h10.cell 1 rfl
  have y2 : w10.cell? ⟨g10, 2, none⟩ = some (.string ⟨#[114]⟩) := h10.cell 2 rfl
  have y3 : w10.cell? ⟨g10, 3, none⟩ = some (.int .i64 3) := h10.cell 3 rfl
  have y4 : w10.cell? ⟨g10, 4, none⟩ = some (.int .i64 (4 + d)) := h10.cell 4 rfl
  have y5 : w10.cell? ⟨g10, 5, none⟩ = some (.int .i64 (ky : Int)) := h10.cell 5 rfl
  have y6 : w10.cell? ⟨g10, 6, none⟩ = some (.int .i64 (R : Int)) := h10.cell 6 rfl
  have y7 : w10.cell? ⟨g10, 7, none⟩ = some (.int .i64 (((S : Int) + (b : Int)) % 500000003)) := h10.cell 7 rfl
  go_wp2_with (go_at_call 12; (with_reducible refine (K3.out _ HB10.out).mono ?_))
  (first | rintro e w11 rfl hb1 | rintro e w11 ⟨rfl, hb1⟩)
  replace h11 := h11.keep hb1
  replace hbW := hbW.trans (hb1.mono hbW.size)
  have HB11 := Lib.hid (HB10.out.keep hb1)
  clear hb1 y0 y1 y2 y3 y4 y5 y6 y7 HB10 h10
  have z0 : w11.cell? ⟨g11, 0, none⟩ = some (.int .i64 2) := h11.cell 0 rfl
  have z1 : w11.cell? ⟨g11, 1, none⟩ = some (.string ⟨#[108]⟩) := h11.cell 1 rfl
  have z2 : w11.cell? ⟨g11, 2, none⟩ = some (.string ⟨#[114]⟩) := h11.cell 2 rfl
  have z3 : w11.cell? ⟨g11, 3, none⟩ = some (.int .i64 3) := h11.cell 3 rfl
  have z4 : w11.cell? ⟨g11, 4, none⟩ = some (.int .i64 (2)) := h11.cell 4 rfl
  have z5 : w11.cell? ⟨g11, 5, none⟩ = some (.int .i64 (ky : Int)) := h11.cell 5 rfl
  have z6 : w11.cell? ⟨g11, 6, none⟩ = some (.int .i64 (R : Int)) := h11.cell 6 rfl
  have z7 : w11.cell? ⟨g11, 7, none⟩ = some (.int .i64 (S : Int)) := h11.cell 7 rfl
  have hbb : ((b : Int) == 0) = (b == 0) := by rw [Bool.eq_iff_iff, beq_iff_eq, beq_iff_eq]; omega
  cases hb0 : (b == 0) with
  | true =>
    rw [hb0] at hbb
    have q : b = 0 := by simpa using hb0
    subst q
    clear hbb hb0
    go_wp2_with (go_at_call 12; (with_reducible refine (K4.out _ HB11.out).mono ?_))
    (first | rintro e w12 rfl hb1 | rintro e w12 ⟨rfl, hb1⟩)
    replace hbW := hbW.trans (hb1.mono hbW.size)
    have HB12 := Lib.hid (HB11.out.keep hb1)
    clear hb1
    go_wp2_with (go_at_call 8; (with_reducible refine (K7.out _ HB12.out).mono ?_))
    (first | rintro e w13 rfl hb1 | rintro e w13 ⟨rfl, hb1⟩)
    replace hbW := hbW.trans (hb1.mono hbW.size)
    go_wp2
    go_ret
    exact ⟨rfl, hbW⟩
  | false =>
    rw [hb0] at hbb
    clear hb0
    go_wp2_with (go_at_call 12; (with_reducible refine (K4.out _ HB11.out).mono ?_))
    (first | rintro e w12 rfl hb1 | rintro e w12 ⟨rfl, hb1⟩)
    replace hbW := hbW.trans (hb1.mono hbW.size)
    have HB12 := Lib.hid (HB11.out.keep hb1)
    clear hb1
    go_wp2_with (go_at_call 8; (with_reducible refine (K7.out _ HB12.out).mono ?_))
    (first | rintro e w13 rfl hb1 | rintro e w13 ⟨rfl, hb1⟩)
    replace hbW := hbW.trans (hb1.mono hbW.size)
    go_wp2
    go_ret
    exact ⟨rfl, hbW⟩
end Go.Proofs.YtgfcknadjijinaaDoor
