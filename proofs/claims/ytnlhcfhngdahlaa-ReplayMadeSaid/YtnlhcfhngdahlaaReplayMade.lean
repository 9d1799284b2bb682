/- For every input the law ReplayMade returns true: what all functions return for made guards, with one thing changed or not, full ones too. -/
import Derived.Test.YtnlhcfhngdahlaaRows
import Derived.Test.YtnlhcfhngdahlaaLaw
import Derived.Test.YtnlhcfhngdahlaaReplayMadeW
namespace Go.Proofs.Ytnlhcfhngdahlaa
open Go.RowKit
theorem replayMade_lifted (os : Os) (started : os.Started) (H : Type) (enc : TypeId × Value → H) :
    ReturnsInHanded {} Try.checked os 4 .any (Rows.replayMadeSpec.pre6 enc Try.prog Try.f4 Rows.replayMadeRow.domain false) (Rows.replayMadeSpec.post enc Try.prog Try.f4 false true false false) :=
  law_lifted (C := Try.checked) (by kernel_rfl) started (by kernel_rfl) Try.func4
    (ChangeSpec.witness6 (enc := enc) (C := Try.checked) false ⟨#[], #[.slice none 0 0, .int .i64 0], []⟩ 8 (by kernel_rfl) (by kernel_rfl) (by kernel_rfl) (by kernel_rfl))
    rfl (fun ds h => by match ds, h with | [_, _], _ => rfl) rfl Try.underlying4 (by kernel_rfl) (by kernel_rfl) fun W args n h => by
      rw [Try.params4] at h
      obtain ⟨v0, l0, n0, m0, e0, e10, h0, h⟩ := h.cons
      obtain ⟨v1, l1, n1, m1, rfl, e11, h1, h⟩ := h.cons
      obtain rfl := h.nil
      obtain ⟨p0, a0, q0, rfl, r0, b0, d0, c0⟩ := h0.ints Try.underlying29 Try.underlying3 (by kernel_rfl) (by kernel_rfl)
      obtain ⟨a1, rfl, b1⟩ := h1.i64 Try.underlying3
      obtain rfl : args = #[.slice p0 a0.length q0, .int .i64 a1] := by cases args; simp_all
      exact made_walk W p0 a0 q0 r0 d0 a1 b1

theorem ReplayMade_holds : Rows.ReplayMadeSaid :=
  OpenClaim.holds_of_wide 4 Try.f4 rfl rfl rfl rfl rfl rfl rfl ⟨rfl, rfl, rfl, rfl, rfl⟩ rfl rfl rfl rfl rfl (by kernel_rfl) Try.func4 (by kernel_rfl)
    (of_decide_eq_true (by kernel_rfl)) (by unfold Func.isWrapper; first | (rw [if_pos (by decide +kernel)]; kernel_rfl) | (rw [if_neg (by decide +kernel)]; exact ⟨rfl, rfl⟩))
    (fun os started H enc _ => replayMade_lifted os started H enc)
#print axioms ReplayMade_holds
end Go.Proofs.Ytnlhcfhngdahlaa
