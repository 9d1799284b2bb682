/- The journal: all functions agree with the reference. -/
import Derived.Test.YthelmlmheioljaaJournalU
namespace Go.Proofs.Ythelmlmheioljaa
open Go.RowKit
set_option maxRecDepth 100000 in
theorem sameTexts_walk (la : Option Addr) (l : List (List UInt8)) (lc : Nat) (ma : Option Addr) (mc : Nat) (w : World) (hr : Rd w la (strs l)) (hrm : Rd w ma (strs l)) (hl : l.length ≤ 17592186043904) :
    Calls Try.prog 21 #[.slice la l.length lc, .slice ma l.length mc] w fun e w' => e = .returned (.bool true) ∧ w = w' := by
  go_enter Try.func21, Try.ntmps21
  go_wp2_with fail
  go_loop [14] (fun i => ∃ k : Nat, k ≤ l.length ∧ i = .int .i64 (k : Int)) (fun i => l.length - (intOf i).toNat)
  case atStart => exact ⟨0, Nat.zero_le _, rfl⟩
  case round =>
    obtain ⟨k, hk, rfl⟩ := hrel
    by_cases hlt : k < l.length
    · obtain ⟨g, off, x, rfl, hc, HX⟩ := hr.str hlt
      obtain ⟨g', off', x', rfl, hc', HX'⟩ := hrm.str hlt
      obtain rfl := same_at HX HX'
      go_wp2
      go_round
      case rel => exact ⟨k + 1, by omega, by go_num⟩
      case measure => simp [intOf]; omega
    · go_wp2
      go_ret
      exact ⟨rfl, rfl⟩
theorem dres_eq (d : List UInt8) (f : Int) (b : Bool) (c : Int) : dres (d, f, b, c) = .tuple #[.agg #[.string ⟨d.toArray⟩, .int .i64 f, .bool b], .int .i64 c] := rfl
theorem frameRes_form (n : Int) (s : List UInt8) : ∃ (y : List UInt8) (c : Int), frameRes n s = .tuple #[.string ⟨y.toArray⟩, .int .i64 c] := by
  unfold frameRes
  split
  · exact ⟨[], 2, rfl⟩
  · split
    · exact ⟨[], 3, rfl⟩
    · exact ⟨_, 0, rfl⟩
theorem readF_length (d : List UInt8) (f : Int) : (readF d f).length ≤ 65536 := by
  rcases checkF_cases d f with ⟨h, hl, -, -⟩ | h
  · rw [readF_ok h]; have := endF_count (goods d); have := goods_end d; omega
  · rw [readF_no h]; simp
set_option maxRecDepth 100000 in
set_option maxHeartbeats 4000000 in
theorem agree_walk (d : List UInt8) (f : Int) (b : Bool) (s : List UInt8) (n : Int) (w : World) (hd : d.length ≤ 281474976710656) (hs : s.length ≤ 1048576) :
    Calls Try.prog 8 #[.agg #[.string ⟨d.toArray⟩, .int .i64 f, .bool b], .string ⟨s.toArray⟩, .int .i64 n] w fun e w' => e = .returned (.bool true) ∧ Below w.heap.size w w' := by
  have hbw := (Below.refl w.heap.size w).alloc (Nat.le_refl _) (.cells #[.string ⟨d.toArray⟩, .int .i64 f, .bool b] 23)
  have hD := Dk.new w d f b
  obtain ⟨⟨d1, f1, b1, c1⟩, hA⟩ : ∃ x, x = appF d f b s := ⟨_, rfl⟩
  obtain ⟨⟨d2, f2, b2, c2⟩, hR⟩ : ∃ x, x = armF d f b n := ⟨_, rfl⟩
  obtain ⟨y, c3, hF⟩ := frameRes_form n s
  have hrl := readF_length d f
  obtain ⟨cf, hcf⟩ : ∃ c, c = checkF d f := ⟨_, rfl⟩
  have HCF := Lib.hid hcf
  clear hcf
  have HA := Lib.hid hA
  have HR := Lib.hid hR
  have HF := Lib.hid hF
  clear hA hR hF
  go_enter Try.func8, Try.ntmps8
  go_wp2_with (go_at_call 18; (with_reducible refine (jappend_walk d f b s _ hd hs).mono ?_))
  rintro e w1 ⟨rfl, hb1⟩
  rw [← HA.out, dres_eq]
  replace hD := hD.keep hb1
  replace hbw := hbw.trans (hb1.mono (by simp))
  clear hb1
  have g0 := hD.c0
  have g1 := hD.c1
  have g2 := hD.c2
  have hl := hD.lt
  go_wp2_with (go_at_call 23; (with_reducible refine (rjappend_walk d f b s _ hd hs).mono ?_))
  rintro e w2 ⟨rfl, hb2⟩
  rw [← HA.out, dres_eq]
  clear g0 g1 g2
  have hX1 := (Dk.new w1 d1 f1 b1).keep hb2
  replace hD := (hD.alloc _).keep hb2
  replace hbw := (hbw.alloc hbw.size _).trans (hb2.mono (by have := hbw.size; simp; omega))
  clear hb2
  generalize w1.heap.size = x1 at *
  have g0 := hD.c0
  have g1 := hD.c1
  have g2 := hD.c2
  have hl := hD.lt
  go_wp2_with (go_at_call 20; (with_reducible refine (jread_walk d f b _ hd).mono ?_))
  rintro e w3 ⟨ra, rc, rfl, hRa, hb3⟩
  rw [← HCF.out]
  have hX2 := (Dk.new w2 d1 f1 b1).keep hb3
  replace hX1 := (hX1.alloc _).keep hb3
  replace hD := (hD.alloc _).keep hb3
  replace hbw := (hbw.alloc hbw.size _).trans (hb3.mono (by have := hbw.size; simp; omega))
  clear hb3 g0 g1 g2 hl
  generalize w2.heap.size = x2 at *
  generalize hln : (readF d f).length = ln at *
  generalize hen : endF (readF d f) = en at *
  have HLN := Lib.hid hln
  have HEN := Lib.hid hen
  clear hln hen
  have g0 := hD.c0
  have g1 := hD.c1
  have g2 := hD.c2
  have hl := hD.lt
  go_wp2_with (go_at_call 24; (with_reducible refine (rjread_walk d f b _ hd).mono ?_))
  rintro e w4 ⟨sa, sc, rfl, hSa, hb4⟩
  rw [HLN.out, HEN.out, ← HCF.out]
  replace hRa := hRa.keep hb4
  replace hX2 := hX2.keep hb4
  replace hX1 := hX1.keep hb4
  replace hD := hD.keep hb4
  replace hbw := hbw.trans (hb4.mono hbw.size)
  clear hb4 g0 g1 g2 hl
  have g0 := hD.c0
  have g1 := hD.c1
  have g2 := hD.c2
  have hl := hD.lt
  obtain ⟨st, hst⟩ : ∃ st, st = startF d f := ⟨_, rfl⟩
  have HST := Lib.hid hst
  clear hst
  go_wp2_with (go_at_call 19; (with_reducible refine (jstart_walk d f b _ hd).mono ?_))
  rintro e w5 ⟨rfl, hb5⟩
  rw [← HST.out, ← HCF.out]
  replace hRa := hRa.keep hb5
  replace hSa := hSa.keep hb5
  replace hX2 := hX2.keep hb5
  replace hX1 := hX1.keep hb5
  replace hD := hD.keep hb5
  replace hbw := hbw.trans (hb5.mono hbw.size)
  clear hb5 g0 g1 g2 hl
  have g0 := hD.c0
  have g1 := hD.c1
  have g2 := hD.c2
  have hl := hD.lt
  go_wp2_with (go_at_call 25; (with_reducible refine (rjstart_walk d f b _ hd).mono ?_))
  rintro e w6 ⟨rfl, hb6⟩
  rw [← HST.out, ← HCF.out]
  have hX3 := (Dk.new w5 st 0 false).keep hb6
  replace hRa := (hRa.keep ((Below.refl _ _).alloc (Nat.le_refl _) _)).keep hb6
  replace hSa := (hSa.keep ((Below.refl _ _).alloc (Nat.le_refl _) _)).keep hb6
  replace hX2 := (hX2.alloc _).keep hb6
  replace hX1 := (hX1.alloc _).keep hb6
  replace hD := (hD.alloc _).keep hb6
  replace hbw := (hbw.alloc hbw.size _).trans (hb6.mono (by have := hbw.size; simp; omega))
  clear hb6 g0 g1 g2 hl
  generalize w5.heap.size = x3 at *
  have g0 := hD.c0
  have g1 := hD.c1
  have g2 := hD.c2
  have hl := hD.lt
  go_wp2_with (go_at_call 17; (with_reducible refine (jarm_walk d f b n _ hd).mono ?_))
  rintro e w7 ⟨rfl, hb7⟩
  rw [← HR.out, dres_eq]
  have hX4 := (Dk.new w6 st 0 false).keep hb7
  replace hRa := (hRa.keep ((Below.refl _ _).alloc (Nat.le_refl _) _)).keep hb7
  replace hSa := (hSa.keep ((Below.refl _ _).alloc (Nat.le_refl _) _)).keep hb7
  replace hX2 := (hX2.alloc _).keep hb7
  replace hX1 := (hX1.alloc _).keep hb7
  replace hX3 := (hX3.alloc _).keep hb7
  replace hD := (hD.alloc _).keep hb7
  replace hbw := (hbw.alloc hbw.size _).trans (hb7.mono (by have := hbw.size; simp; omega))
  clear hb7 g0 g1 g2 hl
  generalize w6.heap.size = x4 at *
  have g0 := hD.c0
  have g1 := hD.c1
  have g2 := hD.c2
  have hl := hD.lt
  go_wp2_with (go_at_call 26; (with_reducible refine (rjarm_walk d f b n _ hd).mono ?_))
  rintro e w8 ⟨rfl, hb8⟩
  rw [← HR.out, dres_eq]
  have hX5 := (Dk.new w7 d2 f2 b2).keep hb8
  replace hRa := (hRa.keep ((Below.refl _ _).alloc (Nat.le_refl _) _)).keep hb8
  replace hSa := (hSa.keep ((Below.refl _ _).alloc (Nat.le_refl _) _)).keep hb8
  replace hX2 := (hX2.alloc _).keep hb8
  replace hX1 := (hX1.alloc _).keep hb8
  replace hX3 := (hX3.alloc _).keep hb8
  replace hX4 := (hX4.alloc _).keep hb8
  replace hD := (hD.alloc _).keep hb8
  replace hbw := (hbw.alloc hbw.size _).trans (hb8.mono (by have := hbw.size; simp; omega))
  clear hb8 g0 g1 g2 hl
  generalize w7.heap.size = x5 at *
  have g0 := hD.c0
  have g1 := hD.c1
  have g2 := hD.c2
  have hl := hD.lt
  go_wp2_with (go_at_call 27; (with_reducible refine (jframe_walk n s _ hs).mono ?_))
  rintro e w9 ⟨rfl, hb9⟩
  rw [HF.out]
  have hX6 := (Dk.new w8 d2 f2 b2).keep hb9
  replace hRa := (hRa.keep ((Below.refl _ _).alloc (Nat.le_refl _) _)).keep hb9
  replace hSa := (hSa.keep ((Below.refl _ _).alloc (Nat.le_refl _) _)).keep hb9
  replace hX2 := (hX2.alloc _).keep hb9
  replace hX1 := (hX1.alloc _).keep hb9
  replace hX3 := (hX3.alloc _).keep hb9
  replace hX4 := (hX4.alloc _).keep hb9
  replace hX5 := (hX5.alloc _).keep hb9
  replace hD := (hD.alloc _).keep hb9
  replace hbw := (hbw.alloc hbw.size _).trans (hb9.mono (by have := hbw.size; simp; omega))
  clear hb9 g0 g1 g2 hl
  generalize w8.heap.size = x6 at *
  go_wp2_with (go_at_call 12; (with_reducible refine (rFrame_walk n s _ hs).mono ?_))
  rintro e w10 ⟨rfl, hb10⟩
  rw [HF.out]
  replace hRa := hRa.keep hb10
  replace hSa := hSa.keep hb10
  replace hX2 := hX2.keep hb10
  replace hX1 := hX1.keep hb10
  replace hX3 := hX3.keep hb10
  replace hX4 := hX4.keep hb10
  replace hX5 := hX5.keep hb10
  replace hX6 := hX6.keep hb10
  replace hD := hD.keep hb10
  replace hbw := hbw.trans (hb10.mono hbw.size)
  clear hb10
  go_wp2
  have a10 := fun d os => cell_regrown hX1.c0 d os
  have a11 := fun d os => cell_regrown hX1.c1 d os
  have a12 := fun d os => cell_regrown hX1.c2 d os
  have a20 := fun d os => cell_regrown hX2.c0 d os
  have a21 := fun d os => cell_regrown hX2.c1 d os
  have a22 := fun d os => cell_regrown hX2.c2 d os
  have a30 := fun d os => cell_regrown hX3.c0 d os
  have a31 := fun d os => cell_regrown hX3.c1 d os
  have a32 := fun d os => cell_regrown hX3.c2 d os
  have a40 := fun d os => cell_regrown hX4.c0 d os
  have a41 := fun d os => cell_regrown hX4.c1 d os
  have a42 := fun d os => cell_regrown hX4.c2 d os
  have a50 := fun d os => cell_regrown hX5.c0 d os
  have a51 := fun d os => cell_regrown hX5.c1 d os
  have a52 := fun d os => cell_regrown hX5.c2 d os
  have a60 := fun d os => cell_regrown hX6.c0 d os
  have a61 := fun d os => cell_regrown hX6.c1 d os
  have a62 := fun d os => cell_regrown hX6.c2 d os
  have d0 := fun d os => cell_regrown hD.c0 d os
  have d1' := fun d os => cell_regrown hD.c1 d os
  have d2' := fun d os => cell_regrown hD.c2 d os
  have hsame : ∀ W, Rd W ra (strs (readF d f)) → Rd W sa (strs (readF d f)) → Calls Try.prog 21 #[.slice ra ln rc, .slice sa ln sc] W fun e w' => e = .returned (.bool true) ∧ W = w' := fun W h1 h2 => by
    have := sameTexts_walk ra (readF d f) rc sa sc W h1 h2 (by have := readF_length d f; omega)
    rw [HLN.out] at this
    exact this
  have hck : ∀ W, Calls Try.prog 28 #[.agg #[.string ⟨d.toArray⟩, .int .i64 f, .bool b]] W fun e w' => e = .returned (.int .i64 cf) ∧ Below W.heap.size W w' := fun W => by
    rw [HCF.out]; exact jcheck_walk d f b W hd
  have hrk : ∀ W, Calls Try.prog 29 #[.agg #[.string ⟨d.toArray⟩, .int .i64 f, .bool b]] W fun e w' => e = .returned (.int .i64 cf) ∧ Below W.heap.size W w' := fun W => by
    rw [HCF.out]; exact rjcheck_walk d f b W hd
  have HSM := Lib.hid hsame
  have HCK := Lib.hid hck
  have HRK := Lib.hid hrk
  clear hsame hck hrk
  refine wp_region_quiet_below (by kernel_rfl) (by kernel_rfl) ?_
  repeat (go_big_quiet_step (first
    | (go_at_call 21; exact Calls.regrown_of (Calls.calm (HSM.out _ (hRa.keep (below_regrown _ _ _)) (hSa.keep (below_regrown _ _ _)))))
    | (go_at_call 28; exact Calls.regrown_of (HCK.out _))
    | (go_at_call 29; exact Calls.regrown_of (HRK.out _))))
  refine wpQuiet_nil ?_
  rintro w11 ⟨p1, rfl⟩
  have hb3 := below_tr hbw (below_regrown w10 p1.d p1.os)
  go_wp2
  go_ret
  exact ⟨rfl, hb3⟩
end Go.Proofs.Ythelmlmheioljaa
