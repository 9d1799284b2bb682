/- For every input of bulk at most 1048576 the law CustodyActs returns true: digests, what is added, which chains are right, and heads. -/
import Derived.Test.YtgjjpijcakafhaaRows
import Derived.Test.YtgjjpijcakafhaaGLawRec
import Derived.Test.YtgjjpijcakafhaaGCustodyActsW
namespace Go.Proofs.Ytgjjpijcakafhaa
open Go.RowKit
theorem custodyActs_lifted (os : Os) (started : os.Started) (H : Type) (enc : TypeId × Value → H) (F : Stop.Interp) :
    ReturnsInHanded {} Try.checked os 5 .any ((Rows.OpenSpec.upto Rows.custodyActsSpec).pre6 enc Try.prog Try.f5 Rows.custodyActsUptoRow.domain false) (((Rows.OpenSpec.upto Rows.custodyActsSpec).at F).post enc Try.prog Try.f5 false true false false) :=
  upto_lifted (C := Try.checked) (by kernel_rfl) started (by kernel_rfl) Try.func5
    (OpenSpec.witness (enc := enc) (C := Try.checked) (s := Rows.OpenSpec.upto Rows.custodyActsSpec) (k := Rows.uptoSmall) rfl false ⟨#[], #[.slice none 0 0, .slice none 0 0, .int .i64 0, .int .i64 0, .string ByteArray.empty], []⟩ 8 (by kernel_rfl) (by kernel_rfl) (by kernel_rfl) (x := ([.nil, .nil, .lit (.int .i64 0), .lit (.int .i64 0), .lit (.string [])], [], [])) (by kernel_rfl) rfl (by kernel_rfl))
    rfl (fun ds h => by match ds, h with | [_, _, _, _, _], _ => rfl) rfl Try.underlying4 (by kernel_rfl) (by kernel_rfl) fun W args n hn h => by
      rw [Try.params5] at h
      obtain ⟨v0, l0, n0, m0, e0, e10, h0, h⟩ := h.cons
      obtain ⟨v1, l1, n1, m1, rfl, e11, h1, h⟩ := h.cons
      obtain ⟨v2, l2, n2, m2, rfl, e12, h2, h⟩ := h.cons
      obtain ⟨v3, l3, n3, m3, rfl, e13, h3, h⟩ := h.cons
      obtain ⟨v4, l4, n4, m4, rfl, e14, h4, h⟩ := h.cons
      obtain rfl := h.nil
      obtain ⟨p0, a0, q0, rfl, r0, b0, d0, c0⟩ := h0.ints Try.underlying33 Try.underlying3 (by kernel_rfl) (by kernel_rfl)
      obtain ⟨p1, a1, q1, rfl, r1, b1, d1, c1, f1⟩ := h1.recs
      obtain ⟨a2, rfl, b2⟩ := h2.i64 Try.underlying3
      obtain ⟨a3, rfl, b3⟩ := h3.i64 Try.underlying3
      obtain ⟨a4, rfl, b4, c4⟩ := h4.string Try.underlying9
      obtain rfl : args = #[.slice p0 a0.length q0, .slice p1 a1.length q1, .int .i64 a2, .int .i64 a3, .string ⟨a4.toArray⟩] := by cases args; simp_all
      exact acts_walk W p0 a0 q0 r0 (by omega) p1 a1 q1 ⟨r1, by omega, d1, b1, fun r hr => by have := c1 r hr; omega⟩ a2 a3 a4 (by omega)

theorem CustodyActs_holds : Rows.CustodyActsUptoSaid :=
  OpenClaim.holds_of_cond 5 Try.f5 rfl rfl rfl rfl rfl rfl rfl ⟨rfl, rfl, rfl, rfl, rfl⟩ rfl rfl rfl rfl rfl (by kernel_rfl) Try.func5 (by kernel_rfl)
    (of_decide_eq_true (by kernel_rfl)) (by unfold Func.isWrapper; first | (rw [if_pos (by decide +kernel)]; kernel_rfl) | (rw [if_neg (by decide +kernel)]; exact ⟨rfl, rfl⟩))
    (fun os started H enc _ F => custodyActs_lifted os started H enc F)
#print axioms CustodyActs_holds
end Go.Proofs.Ytgjjpijcakafhaa
