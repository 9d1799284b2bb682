/- For every input the law ConditionJoins returns true: all of two conditions hold if both do, one of them if one does, and the weaker one holds where the other one does. -/
import Derived.Test.YtejdaeonknpgeaaRows
import Derived.Test.YtejdaeonknpgeaaLaw
import Derived.Test.YtejdaeonknpgeaaGCndJW
namespace Go.Proofs.Ytejdaeonknpgeaa
open Go.RowKit
theorem conditionJoins_lifted (os : Os) (started : os.Started) (H : Type) (enc : TypeId × Value → H) :
    ReturnsInHanded {} Try.checked os 6 .any (Rows.conditionJoinsSpec.pre6 enc Try.prog Try.f6 Rows.conditionJoinsRow.domain false) (Rows.conditionJoinsSpec.post enc Try.prog Try.f6 false true false false) :=
  law_lifted (C := Try.checked) (by kernel_rfl) started (by kernel_rfl) Try.func6
    (ChangeSpec.witness6 (enc := enc) (C := Try.checked) false ⟨#[], #[.slice none 0 0], []⟩ 8 (by kernel_rfl) (by kernel_rfl) (by kernel_rfl) (by kernel_rfl))
    rfl (fun ds h => by match ds, h with | [_], _ => rfl) rfl Try.underlying4 (by kernel_rfl) (by kernel_rfl) fun W args n h => by
      rw [Try.params6] at h
      obtain ⟨v0, l0, n0, m0, e0, e10, h0, h⟩ := h.cons
      obtain rfl := h.nil
      obtain ⟨p0, a0, q0, rfl, r0, b0, d0, c0⟩ := h0.ints Try.underlying22 Try.underlying3 (by kernel_rfl) (by kernel_rfl)
      obtain rfl : args = #[.slice p0 a0.length q0] := by cases args; simp_all
      exact joins17_walk W p0 a0 q0 r0 d0

theorem ConditionJoins_holds : Rows.ConditionJoinsSaid :=
  OpenClaim.holds_of_wide 6 Try.f6 rfl rfl rfl rfl rfl rfl rfl ⟨rfl, rfl, rfl, rfl, rfl⟩ rfl rfl rfl rfl rfl (by kernel_rfl) Try.func6 (by kernel_rfl)
    (of_decide_eq_true (by kernel_rfl)) (by unfold Func.isWrapper; first | (rw [if_pos (by decide +kernel)]; kernel_rfl) | (rw [if_neg (by decide +kernel)]; exact ⟨rfl, rfl⟩))
    (fun os started H enc _ => conditionJoins_lifted os started H enc)
#print axioms ConditionJoins_holds
end Go.Proofs.Ytejdaeonknpgeaa
