/- For every input the law ConditionGrows returns true: no condition holds with fewer persons than are needed at least, and own members never help. -/
import Derived.Test.YtejdaeonknpgeaaRows
import Derived.Test.YtejdaeonknpgeaaLaw
import Derived.Test.YtejdaeonknpgeaaCndGW
namespace Go.Proofs.Ytejdaeonknpgeaa
open Go.RowKit
theorem conditionLeast_lifted (os : Os) (started : os.Started) (H : Type) (enc : TypeId × Value → H) :
    ReturnsInHanded {} Try.checked os 4 .any (Rows.conditionLeastSpec.pre6 enc Try.prog Try.f4 Rows.conditionLeastRow.domain false) (Rows.conditionLeastSpec.post enc Try.prog Try.f4 false true false false) :=
  law_lifted (C := Try.checked) (by kernel_rfl) started (by kernel_rfl) Try.func4
    (ChangeSpec.witness6 (enc := enc) (C := Try.checked) false ⟨#[], #[.slice none 0 0], []⟩ 8 (by kernel_rfl) (by kernel_rfl) (by kernel_rfl) (by kernel_rfl))
    rfl (fun ds h => by match ds, h with | [_], _ => rfl) rfl Try.underlying4 (by kernel_rfl) (by kernel_rfl) fun W args n h => by
      rw [Try.params4] at h
      obtain ⟨v0, l0, n0, m0, e0, e10, h0, h⟩ := h.cons
      obtain rfl := h.nil
      obtain ⟨p0, a0, q0, rfl, r0, b0, d0, c0⟩ := h0.ints Try.underlying22 Try.underlying3 (by kernel_rfl) (by kernel_rfl)
      obtain rfl : args = #[.slice p0 a0.length q0] := by cases args; simp_all
      exact grows17_walk W p0 a0 q0 r0 d0

theorem ConditionGrows_holds : Rows.ConditionGrowsSaid :=
  OpenClaim.holds_of_wide 4 Try.f4 rfl rfl rfl rfl rfl rfl rfl ⟨rfl, rfl, rfl, rfl, rfl⟩ rfl rfl rfl rfl rfl (by kernel_rfl) Try.func4 (by kernel_rfl)
    (of_decide_eq_true (by kernel_rfl)) (by unfold Func.isWrapper; first | (rw [if_pos (by decide +kernel)]; kernel_rfl) | (rw [if_neg (by decide +kernel)]; exact ⟨rfl, rfl⟩))
    (fun os started H enc _ => conditionLeast_lifted os started H enc)
#print axioms ConditionGrows_holds
end Go.Proofs.Ytejdaeonknpgeaa
