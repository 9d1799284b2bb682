/- For every input of bulk at most 1048576 the law CodecBack returns true: what was written, one after the other, is read again, whatever stands before and behind. -/
import Derived.Test.YtcppedmcchhhoaaRows
import Derived.Test.YtcppedmcchhhoaaCodecBackW
namespace Go.Proofs.Ytcppedmcchhhoaa
open Go.RowKit

theorem codecBack_lifted (os : Os) (started : os.Started) (H : Type) (enc : TypeId × Value → H) (F : Stop.Interp) :
    ReturnsInHanded {} Try.checked os 8 .any ((Rows.OpenSpec.upto Rows.codecBackSpec).pre6 enc Try.prog Try.f8 Rows.codecBackUptoRow.domain false) (((Rows.OpenSpec.upto Rows.codecBackSpec).at F).post enc Try.prog Try.f8 false true false false) :=
  upto_lifted (C := Try.checked) (by kernel_rfl) started (by kernel_rfl) Try.func8
    (OpenSpec.witness (enc := enc) (C := Try.checked) (s := Rows.OpenSpec.upto Rows.codecBackSpec) (k := Rows.uptoSmall) rfl false ⟨#[], #[.string ByteArray.empty, .int .i64 0, .string ByteArray.empty, .slice none 0 0, .slice none 0 0, .string ByteArray.empty], []⟩ 8 (by kernel_rfl) (by kernel_rfl) (by kernel_rfl) (x := ([.lit (.string []), .lit (.int .i64 0), .lit (.string []), .nil, .nil, .lit (.string [])], [], [])) (by kernel_rfl) rfl (by kernel_rfl))
    rfl (fun ds h => by match ds, h with | [_, _, _, _, _, _], _ => rfl) rfl Try.underlying4 (by kernel_rfl) (by kernel_rfl) fun W args n hn h => by
      rw [Try.params8] at h
      obtain ⟨v0, l0, n0, m0, e0, e10, h0, h⟩ := h.cons
      obtain ⟨v1, l1, n1, m1, rfl, e11, h1, h⟩ := h.cons
      obtain ⟨v2, l2, n2, m2, rfl, e12, h2, h⟩ := h.cons
      obtain ⟨v3, l3, n3, m3, rfl, e13, h3, h⟩ := h.cons
      obtain ⟨v4, l4, n4, m4, rfl, e14, h4, h⟩ := h.cons
      obtain ⟨v5, l5, n5, m5, rfl, e15, h5, h⟩ := h.cons
      obtain rfl := h.nil
      obtain ⟨a0, rfl, b0, c0⟩ := h0.string Try.underlying9
      obtain ⟨a1, rfl, b1⟩ := h1.i64 Try.underlying3
      obtain ⟨a2, rfl, b2, c2⟩ := h2.string Try.underlying9
      obtain ⟨p3, a3, q3, rfl, r3, b3, d3, c3⟩ := h3.ints Try.underlying29 Try.underlying3 (by kernel_rfl) (by kernel_rfl)
      obtain ⟨p4, a4, q4, rfl, r4, b4, d4, c4⟩ := h4.strs Try.underlying30 Try.underlying9 (by kernel_rfl) (by kernel_rfl)
      obtain ⟨a5, rfl, b5, c5⟩ := h5.string Try.underlying9
      obtain rfl : args = #[.string ⟨a0.toArray⟩, .int .i64 a1, .string ⟨a2.toArray⟩, .slice p3 a3.length q3, .slice p4 a4.length q4, .string ⟨a5.toArray⟩] := by cases args; simp_all
      exact back_walk W a0 b0 (by omega) a1 b1 a2 b2 (by omega) p3 a3 q3 r3 b3 d3 (by omega) p4 a4 q4 r4 b4 d4 (by omega) a5 b5 (by omega)

theorem CodecBack_holds : Rows.CodecBackUptoSaid :=
  OpenClaim.holds_of_cond 8 Try.f8 rfl rfl rfl rfl rfl rfl rfl ⟨rfl, rfl, rfl, rfl, rfl⟩ rfl rfl rfl rfl rfl (by kernel_rfl) Try.func8 (by kernel_rfl)
    (of_decide_eq_true (by kernel_rfl)) (by unfold Func.isWrapper; first | (rw [if_pos (by decide +kernel)]; kernel_rfl) | (rw [if_neg (by decide +kernel)]; exact ⟨rfl, rfl⟩))
    (fun os started H enc _ F => codecBack_lifted os started H enc F)
#print axioms CodecBack_holds
end Go.Proofs.Ytcppedmcchhhoaa
