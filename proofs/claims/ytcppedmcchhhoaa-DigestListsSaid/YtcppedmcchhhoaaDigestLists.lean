/- For every input the law DigestLists returns true: the sums of pairs and lists. -/
import Derived.Test.YtcppedmcchhhoaaLaw
import Derived.Test.YtcppedmcchhhoaaDigestListsW
namespace Go.Proofs.Ytcppedmcchhhoaa
open Go.RowKit

theorem digestLists_lifted (os : Os) (started : os.Started) (H : Type) (enc : TypeId × Value → H) :
    ReturnsInHanded {} Try.checked os 10 .any (Rows.digestListsSpec.pre6 enc Try.prog Try.f10 Rows.digestListsRow.domain false) (Rows.digestListsSpec.post enc Try.prog Try.f10 false true false false) :=
  law_lifted (C := Try.checked) (by kernel_rfl) started (by kernel_rfl) Try.func10
    (ChangeSpec.witness6 (enc := enc) (C := Try.checked) false ⟨#[], #[.string ByteArray.empty, .string ByteArray.empty, .slice none 0 0], []⟩ 8 (by kernel_rfl) (by kernel_rfl) (by kernel_rfl) (by kernel_rfl))
    rfl (fun ds h => by match ds, h with | [_, _, _], _ => rfl) rfl Try.underlying4 (by kernel_rfl) (by kernel_rfl) fun W args n h => by
      rw [Try.params10] at h
      obtain ⟨v0, l0, n0, m0, e0, e10, h0, h⟩ := h.cons
      obtain ⟨v1, l1, n1, m1, rfl, e11, h1, h⟩ := h.cons
      obtain ⟨v2, l2, n2, m2, rfl, e12, h2, h⟩ := h.cons
      obtain rfl := h.nil
      obtain ⟨a0, rfl, b0, c0⟩ := h0.string Try.underlying9
      obtain ⟨a1, rfl, b1, c1⟩ := h1.string Try.underlying9
      obtain ⟨p2, a2, q2, rfl, r2, b2, d2, c2⟩ := h2.strs Try.underlying30 Try.underlying9 (by kernel_rfl) (by kernel_rfl)
      obtain rfl : args = #[.string ⟨a0.toArray⟩, .string ⟨a1.toArray⟩, .slice p2 a2.length q2] := by cases args; simp_all
      exact lists_walk W a0 b0 a1 b1 p2 a2 q2 r2 b2 d2

theorem DigestLists_holds : Rows.DigestListsSaid :=
  OpenClaim.holds_of_wide 10 Try.f10 rfl rfl rfl rfl rfl rfl rfl ⟨rfl, rfl, rfl, rfl, rfl⟩ rfl rfl rfl rfl rfl (by kernel_rfl) Try.func10 (by kernel_rfl)
    (of_decide_eq_true (by kernel_rfl)) (by unfold Func.isWrapper; first | (rw [if_pos (by decide +kernel)]; kernel_rfl) | (rw [if_neg (by decide +kernel)]; exact ⟨rfl, rfl⟩))
    (fun os started H enc _ => digestLists_lifted os started H enc)
#print axioms DigestLists_holds
end Go.Proofs.Ytcppedmcchhhoaa
