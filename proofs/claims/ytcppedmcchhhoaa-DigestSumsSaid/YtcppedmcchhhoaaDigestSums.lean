/- For every input the law DigestSums returns true: the sum of any string, also about the ends of blocks, and how it is written. -/
import Derived.Test.YtcppedmcchhhoaaLaw
import Derived.Test.YtcppedmcchhhoaaDigestSumsW
namespace Go.Proofs.Ytcppedmcchhhoaa
open Go.RowKit

theorem u16_bd {n : Int} (h : (Lit.int .u16 n).wf = true) : 0 ≤ n ∧ n < 65536 := by
  simp only [Lit.wf, Bool.and_eq_true, decide_eq_true_eq] at h
  have h1 : IntKind.u16.min = 0 := rfl
  have h2 : IntKind.u16.max = 65535 := rfl
  omega
theorem sums_law (W : World) (s : List UInt8) (hs : s.length ≤ 140737488351232) (more : Int) (h : (Lit.int .u16 more).wf = true) :
    Calls Try.prog 9 #[.string ⟨s.toArray⟩, .int .u16 more] W fun e w' => e = .returned (.bool true) ∧ Below W.heap.size W w' :=
  sums_walk W s hs more (u16_bd h).1 (u16_bd h).2
theorem digestSums_lifted (os : Os) (started : os.Started) (H : Type) (enc : TypeId × Value → H) :
    ReturnsInHanded {} Try.checked os 9 .any (Rows.digestSumsSpec.pre6 enc Try.prog Try.f9 Rows.digestSumsRow.domain false) (Rows.digestSumsSpec.post enc Try.prog Try.f9 false true false false) :=
  law_lifted (C := Try.checked) (by kernel_rfl) started (by kernel_rfl) Try.func9
    (ChangeSpec.witness6 (enc := enc) (C := Try.checked) false ⟨#[], #[.string ByteArray.empty, .int .u16 0], []⟩ 8 (by kernel_rfl) (by kernel_rfl) (by kernel_rfl) (by kernel_rfl))
    rfl (fun ds h => by match ds, h with | [_, _], _ => rfl) rfl Try.underlying4 (by kernel_rfl) (by kernel_rfl) fun W args n h => by
      rw [Try.params9] at h
      obtain ⟨v0, l0, n0, m0, e0, e10, h0, h⟩ := h.cons
      obtain ⟨v1, l1, n1, m1, rfl, e11, h1, h⟩ := h.cons
      obtain rfl := h.nil
      obtain ⟨a0, rfl, b0, c0⟩ := h0.string Try.underlying9
      obtain ⟨a1, rfl, b1⟩ := h1.int Try.underlying48
      obtain rfl : args = #[.string ⟨a0.toArray⟩, .int .u16 a1] := by cases args; simp_all
      exact sums_law W a0 b0 a1 b1

theorem DigestSums_holds : Rows.DigestSumsSaid :=
  OpenClaim.holds_of_wide 9 Try.f9 rfl rfl rfl rfl rfl rfl rfl ⟨rfl, rfl, rfl, rfl, rfl⟩ rfl rfl rfl rfl rfl (by kernel_rfl) Try.func9 (by kernel_rfl)
    (of_decide_eq_true (by kernel_rfl)) (by unfold Func.isWrapper; first | (rw [if_pos (by decide +kernel)]; kernel_rfl) | (rw [if_neg (by decide +kernel)]; exact ⟨rfl, rfl⟩))
    (fun os started H enc _ => digestSums_lifted os started H enc)
#print axioms DigestSums_holds
end Go.Proofs.Ytcppedmcchhhoaa
