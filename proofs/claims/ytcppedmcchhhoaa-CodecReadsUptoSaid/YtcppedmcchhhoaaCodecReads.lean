/- For every input of bulk at most 1048576 the law CodecReads returns true: what begins at any position of any bytes, or the error. -/
import Derived.Test.YtcppedmcchhhoaaRows
import Derived.Test.YtcppedmcchhhoaaCodecReadsW
namespace Go.Proofs.Ytcppedmcchhhoaa
open Go.RowKit

theorem codecReads_lifted (os : Os) (started : os.Started) (H : Type) (enc : TypeId × Value → H) (F : Stop.Interp) :
    ReturnsInHanded {} Try.checked os 6 .any ((Rows.OpenSpec.upto Rows.codecReadsSpec).pre6 enc Try.prog Try.f6 Rows.codecReadsUptoRow.domain false) (((Rows.OpenSpec.upto Rows.codecReadsSpec).at F).post enc Try.prog Try.f6 false true false false) :=
  upto_lifted (C := Try.checked) (by kernel_rfl) started (by kernel_rfl) Try.func6
    (OpenSpec.witness (enc := enc) (C := Try.checked) (s := Rows.OpenSpec.upto Rows.codecReadsSpec) (k := Rows.uptoSmall) rfl false ⟨#[], #[.string ByteArray.empty, .int .i64 0, .int .i64 0, .slice none 0 0, .slice none 0 0], []⟩ 8 (by kernel_rfl) (by kernel_rfl) (by kernel_rfl) (x := ([.lit (.string []), .lit (.int .i64 0), .lit (.int .i64 0), .nil, .nil], [], [])) (by kernel_rfl) rfl (by kernel_rfl))
    rfl (fun ds h => by match ds, h with | [_, _, _, _, _], _ => rfl) rfl Try.underlying4 (by kernel_rfl) (by kernel_rfl) fun W args n hn h => by
      rw [Try.params6] at h
      obtain ⟨v0, l0, n0, m0, e0, e10, h0, h⟩ := h.cons
      obtain ⟨v1, l1, n1, m1, rfl, e11, h1, h⟩ := h.cons
      obtain ⟨v2, l2, n2, m2, rfl, e12, h2, h⟩ := h.cons
      obtain ⟨v3, l3, n3, m3, rfl, e13, h3, h⟩ := h.cons
      obtain ⟨v4, l4, n4, m4, rfl, e14, h4, h⟩ := h.cons
      obtain rfl := h.nil
      obtain ⟨a0, rfl, b0, c0⟩ := h0.string Try.underlying9
      obtain ⟨a1, rfl, b1⟩ := h1.i64 Try.underlying3
      obtain ⟨a2, rfl, b2⟩ := h2.i64 Try.underlying3
      obtain ⟨p3, a3, q3, rfl, r3, b3, d3, c3⟩ := h3.ints Try.underlying29 Try.underlying3 (by kernel_rfl) (by kernel_rfl)
      obtain ⟨p4, a4, q4, rfl, r4, b4, d4, c4⟩ := h4.strs Try.underlying30 Try.underlying9 (by kernel_rfl) (by kernel_rfl)
      obtain rfl : args = #[.string ⟨a0.toArray⟩, .int .i64 a1, .int .i64 a2, .slice p3 a3.length q3, .slice p4 a4.length q4] := by cases args; simp_all
      exact reads_walk W a0 b0 (by omega) a1 b1 a2 b2 p3 a3 q3 r3 b3 d3 (by omega) p4 a4 q4 r4 b4 d4 (by omega)

theorem CodecReads_holds : Rows.CodecReadsUptoSaid :=
  OpenClaim.holds_of_cond 6 Try.f6 rfl rfl rfl rfl rfl rfl rfl ⟨rfl, rfl, rfl, rfl, rfl⟩ rfl rfl rfl rfl rfl (by kernel_rfl) Try.func6 (by kernel_rfl)
    (of_decide_eq_true (by kernel_rfl)) (by unfold Func.isWrapper; first | (rw [if_pos (by decide +kernel)]; kernel_rfl) | (rw [if_neg (by decide +kernel)]; exact ⟨rfl, rfl⟩))
    (fun os started H enc _ F => codecReads_lifted os started H enc F)
#print axioms CodecReads_holds
end Go.Proofs.Ytcppedmcchhhoaa
