/- For every input the law ReplayRaw returns true: what all functions return for any guards of few rows, and any requests. -/
import Derived.Test.YtnlhcfhngdahlaaRows
import Derived.Test.YtnlhcfhngdahlaaLawKept
import Derived.Test.YtnlhcfhngdahlaaReplayRawW
namespace Go.Proofs.Ytnlhcfhngdahlaa
open Go.RowKit
theorem replayRaw_lifted (os : Os) (started : os.Started) (H : Type) (enc : TypeId × Value → H) :
    ReturnsInHanded {} Try.checked os 3 .any (Rows.replayRawSpec.pre6 enc Try.prog Try.f3 Rows.replayRawRow.domain false) (Rows.replayRawSpec.post enc Try.prog Try.f3 false true false false) :=
  law_lifted (C := Try.checked) (by kernel_rfl) started (by kernel_rfl) Try.func3
    (ChangeSpec.witness6 (enc := enc) (C := Try.checked) false ⟨#[], #[.agg #[.slice none 0 0], .agg #[.int .i64 0, .int .i64 0, .string ByteArray.empty], .string ByteArray.empty], []⟩ 8 (by kernel_rfl) (by kernel_rfl) (by kernel_rfl) (by kernel_rfl))
    rfl (fun ds h => by match ds, h with | [_, _, _], _ => rfl) rfl Try.underlying4 (by kernel_rfl) (by kernel_rfl) fun W args n h => by
      rw [Try.params3] at h
      obtain ⟨v0, l0, n0, m0, e0, e10, h0, h⟩ := h.cons
      obtain ⟨v1, l1, n1, m1, rfl, e11, h1, h⟩ := h.cons
      obtain ⟨v2, l2, n2, m2, rfl, e12, h2, h⟩ := h.cons
      obtain rfl := h.nil
      obtain ⟨p0, a0, q0, rfl, r0, b0⟩ := h0.guard
      obtain ⟨a1, rfl, b1, c1⟩ := h1.rq
      obtain ⟨a2, rfl, b2, c2⟩ := h2.string Try.underlying9
      obtain rfl : args = #[.agg #[.slice p0 a0.length q0], .agg #[.int .i64 a1.sen, .int .i64 a1.cnt, .string ⟨a1.body.toArray⟩], .string ⟨a2.toArray⟩] := by cases args; simp_all
      exact raw_walk W p0 a0 q0 r0 a1 b1 c1 a2

theorem ReplayRaw_holds : Rows.ReplayRawSaid :=
  OpenClaim.holds_of_wide 3 Try.f3 rfl rfl rfl rfl rfl rfl rfl ⟨rfl, rfl, rfl, rfl, rfl⟩ rfl rfl rfl rfl rfl (by kernel_rfl) Try.func3 (by kernel_rfl)
    (of_decide_eq_true (by kernel_rfl)) (by unfold Func.isWrapper; first | (rw [if_pos (by decide +kernel)]; kernel_rfl) | (rw [if_neg (by decide +kernel)]; exact ⟨rfl, rfl⟩))
    (fun os started H enc _ => replayRaw_lifted os started H enc)
#print axioms ReplayRaw_holds
end Go.Proofs.Ytnlhcfhngdahlaa
