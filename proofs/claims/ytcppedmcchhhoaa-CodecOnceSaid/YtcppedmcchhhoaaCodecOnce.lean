/- For every input the law CodecOnce returns true: bytes that are read as a number are those that it is written as; without condition. -/
import Derived.Test.YtcppedmcchhhoaaRows
import Derived.Test.YtcppedmcchhhoaaCodecL
namespace Go.Proofs.Ytcppedmcchhhoaa
open Go.RowKit

set_option maxRecDepth 100000 in
set_option maxHeartbeats 1000000 in
theorem once_walk (b : List UInt8) (p : Int) (w : World) (hb : b.length ≤ 140737488351232) :
    Calls Try.prog 3 #[.string ⟨b.toArray⟩, .int .i64 p] w fun e w' => e = .returned (.bool true) ∧ Below w.heap.size w w' := by
  by_cases hl : 100 < b.length
  · go_enter Try.func3, Try.ntmps3
    go_wp2_with (go_at_call 13; refine (awake4 _).mono ?_; rintro e w1 ⟨rfl, hb1⟩)
    go_ret
    exact ⟨rfl, hb1⟩
  · obtain ⟨P, hP⟩ : ∃ P, P = p % ((b.length : Int) + 1) := ⟨_, rfl⟩
    have hP0 : 0 ≤ P := by rw [hP]; exact Int.emod_nonneg _ (by omega)
    have hP1 : P ≤ b.length := by have := Int.emod_lt_of_pos p (show 0 < (b.length : Int) + 1 by omega); omega
    have HP := Lib.hid hP
    clear hP
    have hmod : ∀ w, Calls Try.prog 14 #[.int .i64 p, .int .i64 ((b.length : Int) + 1)] w fun e w' => e = .returned (.int .i64 P) ∧ w = w' := fun w => by
      rw [HP.out]; exact mod_any p _ w (by omega) (by omega)
    have HM := Lib.hid hmod
    clear hmod
    rcases hg : getInt b P with ⟨n, q, e⟩
    have HG := Lib.hid hg
    clear hg
    by_cases he : e = 0
    · subst he
      obtain ⟨h1, h2, h3, h4⟩ := getInt_ok HG.out
      have heq : (putInt n == (b.drop P.toNat).take (q.toNat - P.toNat)) = true := by
        rw [beq_iff_eq, getInt_once HG.out]; congr 1; omega
      go_enter Try.func3, Try.ntmps3
      go_wp2_with (first
        | (go_at_call 14; refine (HM.out _).mono ?_; rintro e w' ⟨rfl, rfl⟩)
        | (go_at_call 15; refine (int_at HG.out _ (by omega)).mono ?_; rintro e w' ⟨rfl, rfl⟩))
      refine wp_region_quiet_below (by kernel_rfl) (by kernel_rfl) ?_
      repeat (go_big_quiet_step (first
        | (go_at_call 16; exact Calls.regrown_of (putInt_nil _ _ h4))
        | (go_at_call 13; exact Calls.regrown_of (awake4 _))))
      refine wpQuiet_nil ?_
      rintro w1 ⟨p1, rfl⟩
      have hb1 := below_regrown w p1.d p1.os
      go_wp2
      go_ret
      exact ⟨rfl, hb1⟩
    · obtain ⟨rfl, rfl⟩ := getInt_no HG.out he
      have hne : (e != 0) = true := by rw [bne_iff_ne]; exact he
      go_enter Try.func3, Try.ntmps3
      go_wp2_with (first
        | (go_at_call 14; refine (HM.out _).mono ?_; rintro e w' ⟨rfl, rfl⟩)
        | (go_at_call 15; refine (int_at HG.out _ (by omega)).mono ?_; rintro e w' ⟨rfl, rfl⟩)
        | (go_at_call 13; refine (awake4 _).mono ?_; rintro e w1 ⟨rfl, hb1⟩))
      go_ret
      exact ⟨rfl, hb1⟩

theorem once_lifted (os : Os) (started : os.Started) (H : Type) (enc : TypeId × Value → H) :
    ReturnsInHanded {} Try.checked os 3 .any (Rows.codecOnceSpec.pre6 enc Try.prog Try.f3 Rows.codecOnceRow.domain false) (Rows.codecOnceSpec.post enc Try.prog Try.f3 false true false false) :=
  law_lifted (C := Try.checked) (by kernel_rfl) started (by kernel_rfl) Try.func3
    (ChangeSpec.witness6 (enc := enc) (C := Try.checked) false ⟨#[], #[.string ByteArray.empty, .int .i64 0], []⟩ 8 (by kernel_rfl) (by kernel_rfl) (by kernel_rfl) (by kernel_rfl))
    rfl (fun ds h => by match ds, h with | [_, _], _ => rfl) rfl Try.underlying4 (by kernel_rfl) (by kernel_rfl) fun W args h => by
      rw [Try.params3] at h
      obtain ⟨v0, l0, e0, h0, h⟩ := h.cons
      obtain ⟨v1, l1, rfl, h1, h⟩ := h.cons
      obtain rfl := h.nil
      obtain ⟨b, rfl, hb⟩ := h0.string Try.underlying9
      obtain ⟨p, rfl, hp⟩ := h1.i64 Try.underlying3
      obtain rfl : args = #[.string ⟨b.toArray⟩, .int .i64 p] := by cases args; simp_all
      exact once_walk b p W hb

theorem CodecOnce_holds : Rows.CodecOnceSaid :=
  OpenClaim.holds_of_wide 3 Try.f3 rfl rfl rfl rfl rfl rfl rfl ⟨rfl, rfl, rfl, rfl, rfl⟩ rfl rfl rfl rfl rfl (by kernel_rfl) Try.func3 (by kernel_rfl)
    (of_decide_eq_true (by kernel_rfl)) (by unfold Func.isWrapper; first | (rw [if_pos (by decide +kernel)]; kernel_rfl) | (rw [if_neg (by decide +kernel)]; exact ⟨rfl, rfl⟩))
    (fun os started H enc _ => once_lifted os started H enc)
#print axioms CodecOnce_holds
end Go.Proofs.Ytcppedmcchhhoaa
