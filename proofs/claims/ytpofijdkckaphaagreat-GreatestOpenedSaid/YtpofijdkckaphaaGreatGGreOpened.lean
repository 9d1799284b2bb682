/- For every input the law GreatestOpened returns true: opened seats are in the set, opening the whole set changes nothing, and seats that need nothing all open. -/
import Derived.Test.YtpofijdkckaphaaGreatRows
import Derived.Test.YtpofijdkckaphaaGreatLaw
import Derived.Test.YtpofijdkckaphaaGreatGGreOW
namespace Go.Proofs.YtpofijdkckaphaaGreat
open Go.RowKit
theorem greatestOpened_lifted (os : Os) (started : os.Started) (H : Type) (enc : TypeId × Value → H) :
    ReturnsInHanded {} Tryz.checked os 4 .any (Rows.greatestOpenedSpec.pre6 enc Tryz.prog Tryz.f4 Rows.greatestOpenedRow.domain false) (Rows.greatestOpenedSpec.post enc Tryz.prog Tryz.f4 false true false false) :=
  law_lifted (C := Tryz.checked) (by kernel_rfl) started (by kernel_rfl) Tryz.func4
    (ChangeSpec.witness6 (enc := enc) (C := Tryz.checked) false ⟨#[], #[.slice none 0 0], []⟩ 8 (by kernel_rfl) (by kernel_rfl) (by kernel_rfl) (by kernel_rfl))
    rfl (fun ds h => by match ds, h with | [_], _ => rfl) rfl Tryz.underlying4 (by kernel_rfl) (by kernel_rfl) fun W args n h => by
      rw [Tryz.params4] at h
      obtain ⟨v0, l0, n0, m0, e0, e10, h0, h⟩ := h.cons
      obtain rfl := h.nil
      obtain ⟨p0, a0, q0, rfl, r0, b0, d0, c0⟩ := h0.ints Tryz.underlying22 Tryz.underlying3 (by kernel_rfl) (by kernel_rfl)
      obtain rfl : args = #[.slice p0 a0.length q0] := by cases args; simp_all
      exact opened_walk W p0 a0 q0 r0 d0

theorem GreatestOpened_holds : Rows.GreatestOpenedSaid :=
  OpenClaim.holds_of_wide 4 Tryz.f4 rfl rfl rfl rfl rfl rfl rfl ⟨rfl, rfl, rfl, rfl, rfl⟩ rfl rfl rfl rfl rfl (by kernel_rfl) Tryz.func4 (by kernel_rfl)
    (of_decide_eq_true (by kernel_rfl)) (by unfold Func.isWrapper; first | (rw [if_pos (by decide +kernel)]; kernel_rfl) | (rw [if_neg (by decide +kernel)]; exact ⟨rfl, rfl⟩))
    (fun os started H enc _ => greatestOpened_lifted os started H enc)
#print axioms GreatestOpened_holds
end Go.Proofs.YtpofijdkckaphaaGreat
