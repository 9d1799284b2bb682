/- For every input the law CustodyLimit returns true: what becomes of about the greatest number of records; without condition. -/
import Derived.Test.YtgjjpijcakafhaaRows
import Derived.Test.YtgjjpijcakafhaaLaw
import Derived.Test.YtgjjpijcakafhaaCustodyLimitW
namespace Go.Proofs.Ytgjjpijcakafhaa
open Go.RowKit
theorem u8_nat {n : Int} (h : (Lit.int .u8 n).wf = true) : ∃ m : Nat, n = (m : Int) ∧ m < 256 := by
  simp only [Lit.wf, Bool.and_eq_true, decide_eq_true_eq] at h
  have h1 : IntKind.u8.min = 0 := rfl
  have h2 : IntKind.u8.max = 255 := rfl
  exact ⟨n.toNat, by omega, by omega⟩
theorem limit_law (W : World) (n : Int) (hn : (Lit.int .u8 n).wf = true) :
    Calls Try.prog 3 #[.int .u8 n] W fun e w' => e = .returned (.bool true) ∧ Below W.heap.size W w' := by
  obtain ⟨m, rfl, hm⟩ := u8_nat hn
  exact limit_walk W m hm
theorem custodyLimit_lifted (os : Os) (started : os.Started) (H : Type) (enc : TypeId × Value → H) :
    ReturnsInHanded {} Try.checked os 3 .any (Rows.custodyLimitSpec.pre6 enc Try.prog Try.f3 Rows.custodyLimitRow.domain false) (Rows.custodyLimitSpec.post enc Try.prog Try.f3 false true false false) :=
  law_lifted (C := Try.checked) (by kernel_rfl) started (by kernel_rfl) Try.func3
    (ChangeSpec.witness6 (enc := enc) (C := Try.checked) false ⟨#[], #[.int .u8 0], []⟩ 8 (by kernel_rfl) (by kernel_rfl) (by kernel_rfl) (by kernel_rfl))
    rfl (fun ds h => by match ds, h with | [_], _ => rfl) rfl Try.underlying4 (by kernel_rfl) (by kernel_rfl) fun W args n h => by
      rw [Try.params3] at h
      obtain ⟨v0, l0, n0, m0, e0, e10, h0, h⟩ := h.cons
      obtain rfl := h.nil
      obtain ⟨a0, rfl, b0⟩ := h0.int Try.underlying5
      obtain rfl : args = #[.int .u8 a0] := by cases args; simp_all
      exact limit_law W a0 b0

theorem CustodyLimit_holds : Rows.CustodyLimitSaid :=
  OpenClaim.holds_of_wide 3 Try.f3 rfl rfl rfl rfl rfl rfl rfl ⟨rfl, rfl, rfl, rfl, rfl⟩ rfl rfl rfl rfl rfl (by kernel_rfl) Try.func3 (by kernel_rfl)
    (of_decide_eq_true (by kernel_rfl)) (by unfold Func.isWrapper; first | (rw [if_pos (by decide +kernel)]; kernel_rfl) | (rw [if_neg (by decide +kernel)]; exact ⟨rfl, rfl⟩))
    (fun os started H enc _ => custodyLimit_lifted os started H enc)
#print axioms CustodyLimit_holds
end Go.Proofs.Ytgjjpijcakafhaa
