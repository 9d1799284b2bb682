/- For every input of bulk at most 1048576 the law CodecApart returns true: different lists have different bytes, and neither is the beginning of the other one. -/
import Derived.Test.YtcppedmcchhhoaaRows
import Derived.Test.YtcppedmcchhhoaaCodecApartW
namespace Go.Proofs.Ytcppedmcchhhoaa
open Go.RowKit

theorem codecApart_lifted (os : Os) (started : os.Started) (H : Type) (enc : TypeId × Value → H) (F : Stop.Interp) :
    ReturnsInHanded {} Try.checked os 5 .any ((Rows.OpenSpec.upto Rows.codecApartSpec).pre6 enc Try.prog Try.f5 Rows.codecApartUptoRow.domain false) (((Rows.OpenSpec.upto Rows.codecApartSpec).at F).post enc Try.prog Try.f5 false true false false) :=
  upto_lifted (C := Try.checked) (by kernel_rfl) started (by kernel_rfl) Try.func5
    (OpenSpec.witness (enc := enc) (C := Try.checked) (s := Rows.OpenSpec.upto Rows.codecApartSpec) (k := Rows.uptoSmall) rfl false ⟨#[], #[.slice none 0 0, .slice none 0 0, .slice none 0 0, .slice none 0 0], []⟩ 8 (by kernel_rfl) (by kernel_rfl) (by kernel_rfl) (x := ([.nil, .nil, .nil, .nil], [], [])) (by kernel_rfl) rfl (by kernel_rfl))
    rfl (fun ds h => by match ds, h with | [_, _, _, _], _ => rfl) rfl Try.underlying4 (by kernel_rfl) (by kernel_rfl) fun W args n hn h => by
      rw [Try.params5] at h
      obtain ⟨v0, l0, n0, m0, e0, e10, h0, h⟩ := h.cons
      obtain ⟨v1, l1, n1, m1, rfl, e11, h1, h⟩ := h.cons
      obtain ⟨v2, l2, n2, m2, rfl, e12, h2, h⟩ := h.cons
      obtain ⟨v3, l3, n3, m3, rfl, e13, h3, h⟩ := h.cons
      obtain rfl := h.nil
      obtain ⟨p0, a0, q0, rfl, r0, b0, d0, c0⟩ := h0.ints Try.underlying29 Try.underlying3 (by kernel_rfl) (by kernel_rfl)
      obtain ⟨p1, a1, q1, rfl, r1, b1, d1, c1⟩ := h1.ints Try.underlying29 Try.underlying3 (by kernel_rfl) (by kernel_rfl)
      obtain ⟨p2, a2, q2, rfl, r2, b2, d2, c2⟩ := h2.strs Try.underlying30 Try.underlying9 (by kernel_rfl) (by kernel_rfl)
      obtain ⟨p3, a3, q3, rfl, r3, b3, d3, c3⟩ := h3.strs Try.underlying30 Try.underlying9 (by kernel_rfl) (by kernel_rfl)
      obtain rfl : args = #[.slice p0 a0.length q0, .slice p1 a1.length q1, .slice p2 a2.length q2, .slice p3 a3.length q3] := by cases args; simp_all
      exact apart_walk W p0 a0 q0 r0 b0 d0 (by omega) p1 a1 q1 r1 b1 d1 (by omega) p2 a2 q2 r2 b2 d2 (by omega) p3 a3 q3 r3 b3 d3 (by omega)

theorem CodecApart_holds : Rows.CodecApartUptoSaid :=
  OpenClaim.holds_of_cond 5 Try.f5 rfl rfl rfl rfl rfl rfl rfl ⟨rfl, rfl, rfl, rfl, rfl⟩ rfl rfl rfl rfl rfl (by kernel_rfl) Try.func5 (by kernel_rfl)
    (of_decide_eq_true (by kernel_rfl)) (by unfold Func.isWrapper; first | (rw [if_pos (by decide +kernel)]; kernel_rfl) | (rw [if_neg (by decide +kernel)]; exact ⟨rfl, rfl⟩))
    (fun os started H enc _ F => codecApart_lifted os started H enc F)
#print axioms CodecApart_holds
end Go.Proofs.Ytcppedmcchhhoaa
