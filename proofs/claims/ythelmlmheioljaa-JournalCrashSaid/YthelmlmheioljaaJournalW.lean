/- The journal: the sanity check; the law on raw disks: its walk. -/
import Derived.Test.YthelmlmheioljaaJournalL
namespace Go.Proofs.Ythelmlmheioljaa
open Go.RowKit
set_option maxRecDepth 100000 in
set_option maxHeartbeats 2000000 in
theorem awake35_walk (w : World) : Calls Try.prog 7 #[] w fun e w' => e = .returned (.bool true) ∧ Below w.heap.size w w' := by
  have hs1 : ∀ s ∈ [[97, 98, 99]], List.length (α := UInt8) s ≤ 4096 := by decide
  obtain ⟨D, hD⟩ : ∃ D, D = framesF [[97, 98, 99]] 0 := ⟨_, rfl⟩
  have hDl : D.length = 15 := by rw [hD, framesF_length]; rfl
  have hA1 : appF [] 0 false [97, 98, 99] = (D, 0, false, 0) := by
    rw [hD]; exact appF_good (l := []) (f := 0) (by simp) (by decide) (by decide) (Int.le_refl _) (by decide)
  have hc1 : checkF D 0 = 0 := checkF_ok (by omega) (Int.le_refl _) (by omega)
  have hR1 : armF D 0 false 5 = (D, 5, false, 0) := by rw [armF, if_pos hc1]; rfl
  obtain ⟨E, hE⟩ : ∃ E, E = D ++ (frameF 1 [120]).take 5 := ⟨_, rfl⟩
  have hfl := frameF_length 1 [120]
  have hEl : E.length = 20 := by rw [hE, List.length_append, List.length_take, hfl, hDl]; rfl
  have hA2 : appF D 5 false [120] = (E, 0, true, 54) := by
    rw [hE, hD]; exact appF_good (l := [[97, 98, 99]]) (f := 5) hs1 (by decide) (by decide) (by decide) (by decide)
  have hS : startF E 0 = D := by
    rw [hE, hD]; exact startF_part hs1 (recF_part _ _ _ _ (by decide) (by decide)) (by rw [← hD, ← hE]; omega)
  have hcE : checkF E 0 = 0 := checkF_ok (by omega) (Int.le_refl _) (by omega)
  have hG : readF D 0 = [[97, 98, 99]] := by rw [readF_ok hc1, hD, goods_frames0 hs1]
  have k1 : ∀ W, Calls Try.prog 18 #[.agg #[.string ⟨#[]⟩, .int .i64 0, .bool false], .string ⟨#[97, 98, 99]⟩] W fun e w' => e = .returned (.tuple #[.agg #[.string ⟨D.toArray⟩, .int .i64 0, .bool false], .int .i64 0]) ∧ Below W.heap.size W w' := fun W => by
    have := jappend_walk [] 0 false [97, 98, 99] W (by decide) (by decide)
    rw [hA1] at this; exact this
  have k2 : ∀ W, Calls Try.prog 17 #[.agg #[.string ⟨D.toArray⟩, .int .i64 0, .bool false], .int .i64 5] W fun e w' => e = .returned (.tuple #[.agg #[.string ⟨D.toArray⟩, .int .i64 5, .bool false], .int .i64 0]) ∧ Below W.heap.size W w' := fun W => by
    have := jarm_walk D 0 false 5 W (by omega)
    rw [hR1] at this; exact this
  have k3 : ∀ W, Calls Try.prog 18 #[.agg #[.string ⟨D.toArray⟩, .int .i64 5, .bool false], .string ⟨#[120]⟩] W fun e w' => e = .returned (.tuple #[.agg #[.string ⟨E.toArray⟩, .int .i64 0, .bool true], .int .i64 54]) ∧ Below W.heap.size W w' := fun W => by
    have := jappend_walk D 5 false [120] W (by omega) (by decide)
    rw [hA2] at this; exact this
  have k4 : ∀ W, Calls Try.prog 19 #[.agg #[.string ⟨E.toArray⟩, .int .i64 0, .bool true]] W fun e w' => e = .returned (.tuple #[.agg #[.string ⟨D.toArray⟩, .int .i64 0, .bool false], .int .i64 0]) ∧ Below W.heap.size W w' := fun W => by
    have := jstart_walk E 0 true W (by omega)
    rw [hS, hcE] at this; exact this
  have k5 : ∀ W, Calls Try.prog 20 #[.agg #[.string ⟨D.toArray⟩, .int .i64 0, .bool false]] W fun e w' => ∃ a cap, e = .returned (.tuple #[.slice a 1 cap, .int .i64 15, .int .i64 0]) ∧ Rd w' a (strs [[97, 98, 99]]) ∧ Below W.heap.size W w' := fun W => by
    have := jread_walk D 0 false W (by omega)
    rw [hG, hc1] at this; exact this
  have K1 := Lib.hid k1
  have K2 := Lib.hid k2
  have K3 := Lib.hid k3
  have K4 := Lib.hid k4
  have K5 := Lib.hid k5
  clear k1 k2 k3 k4 k5 hA1 hA2 hR1 hS hG hc1 hcE hE hD hfl hs1
  go_enter Try.func7, Try.ntmps7
  go_wp2_with (go_at_call 18; (with_reducible refine (K1.out _).mono ?_))
  rintro e w1 ⟨rfl, hb1⟩
  have hl1 := hb1.size
  go_wp2_with (go_at_call 17; (with_reducible refine (K2.out _).mono ?_))
  rintro e w2 ⟨rfl, hb2⟩
  have hX1 := (Dk.new w1 D 0 false).keep hb2
  have hbw := (hb1.alloc hl1 _).trans (hb2.mono (by simp; omega))
  clear hb1 hb2 hl1
  generalize w1.heap.size = x1 at *
  have hl2 := hbw.size
  go_wp2_with (go_at_call 18; (with_reducible refine (K3.out _).mono ?_))
  rintro e w3 ⟨rfl, hb3⟩
  replace hX1 := (hX1.alloc _).keep hb3
  replace hbw := (hbw.alloc hl2 _).trans (hb3.mono (by simp; omega))
  clear hb3 hl2
  generalize w2.heap.size = x2 at *
  have hl3 := hbw.size
  go_wp2_with (go_at_call 19; (with_reducible refine (K4.out _).mono ?_))
  rintro e w4 ⟨rfl, hb4⟩
  have hX3 := (Dk.new w3 E 0 true).keep hb4
  replace hX1 := (hX1.alloc _).keep hb4
  replace hbw := (hbw.alloc hl3 _).trans (hb4.mono (by simp; omega))
  clear hb4 hl3
  generalize w3.heap.size = x3 at *
  have hl4 := hbw.size
  go_wp2_with (go_at_call 20; (with_reducible refine (K5.out _).mono ?_))
  rintro e w5 ⟨ra, rc, rfl, hRa, hb5⟩
  replace hX1 := (hX1.alloc _).keep hb5
  replace hX3 := (hX3.alloc _).keep hb5
  replace hbw := (hbw.alloc hl4 _).trans (hb5.mono (by simp; omega))
  clear hb5 hl4
  obtain ⟨g, off, rfl, hc⟩ := hRa.at (by decide)
  have c0 := hc 0 _ rfl
  rw [Nat.add_zero] at c0
  have a0 := hX1.c0
  have e0 := hX3.c0
  have e2 := hX3.c2
  clear hRa hc
  go_wp2
  go_ret
  exact ⟨rfl, hbw⟩
set_option maxRecDepth 100000 in
theorem raw35_walk (W : World) (d : List UInt8) (hd : d.length ≤ 140737488351232) (f : Int) (_ : I64 f) (b : Bool) (s : List UInt8) (hs : s.length ≤ 140737488351232) (n : Int) (_ : I64 n) :
    Calls Try.prog 3 #[.agg #[.string ⟨d.toArray⟩, .int .i64 f, .bool b], .string ⟨s.toArray⟩, .int .i64 n] W fun e w' => e = .returned (.bool true) ∧ Below W.heap.size W w' := by
  have hb0 := (Below.refl W.heap.size W).alloc (Nat.le_refl _) (.cells #[.string ⟨d.toArray⟩, .int .i64 f, .bool b] 23)
  have hD := Dk.new W d f b
  go_enter Try.func3, Try.ntmps3
  by_cases h1 : d.length > 500
  · have d1 : decide ((d.length : Int) > 500) = true := decide_eq_true (by omega)
    go_wp2_with (go_at_call 7; (with_reducible refine (awake35_walk _).mono ?_))
    rintro e w1 ⟨rfl, hb1⟩
    go_wp2
    go_ret
    exact ⟨rfl, hb0.trans (hb1.mono (by simp))⟩
  have d1 : decide ((d.length : Int) > 500) = false := decide_eq_false (by omega)
  by_cases h2 : s.length > 300
  · have d2 : decide ((s.length : Int) > 300) = true := decide_eq_true (by omega)
    go_wp2_with (go_at_call 7; (with_reducible refine (awake35_walk _).mono ?_))
    rintro e w1 ⟨rfl, hb1⟩
    go_wp2
    go_ret
    exact ⟨rfl, hb0.trans (hb1.mono (by simp))⟩
  have d2 : decide ((s.length : Int) > 300) = false := decide_eq_false (by omega)
  go_wp2_with (go_at_call 7; (with_reducible refine (awake35_walk _).mono ?_))
  rintro e w1 ⟨rfl, hb1⟩
  replace hD := hD.keep hb1
  replace hb0 := hb0.trans (hb1.mono (by simp))
  have c0 := hD.c0
  have c1 := hD.c1
  have c2 := hD.c2
  go_wp2_with (go_at_call 8; (with_reducible refine (agree_walk d f b s n _ (by omega) (by omega)).mono ?_))
  rintro e w2 ⟨rfl, hb2⟩
  go_wp2
  go_ret
  exact ⟨rfl, hb0.trans (hb2.mono hb0.size)⟩
end Go.Proofs.Ythelmlmheioljaa
