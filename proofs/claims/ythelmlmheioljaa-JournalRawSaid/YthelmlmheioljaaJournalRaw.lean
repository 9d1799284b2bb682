/- For every input the law JournalRaw returns true: what all functions return for any small disks and records; without condition. -/
import Derived.Test.YthelmlmheioljaaRows
import Derived.Test.YthelmlmheioljaaLawS
import Derived.Test.YthelmlmheioljaaJournalW
namespace Go.Proofs.Ythelmlmheioljaa
open Go.RowKit
theorem journalRaw_lifted (os : Os) (started : os.Started) (H : Type) (enc : TypeId × Value → H) :
    ReturnsInHanded {} Try.checked os 3 .any (Rows.journalRawSpec.pre6 enc Try.prog Try.f3 Rows.journalRawRow.domain false) (Rows.journalRawSpec.post enc Try.prog Try.f3 false true false false) :=
  law_lifted (C := Try.checked) (by kernel_rfl) started (by kernel_rfl) Try.func3
    (ChangeSpec.witness6 (enc := enc) (C := Try.checked) false ⟨#[], #[.agg #[.string ByteArray.empty, .int .i64 0, .bool false], .string ByteArray.empty, .int .i64 0], []⟩ 8 (by kernel_rfl) (by kernel_rfl) (by kernel_rfl) (by kernel_rfl))
    rfl (fun ds h => by match ds, h with | [_, _, _], _ => rfl) rfl Try.underlying4 (by kernel_rfl) (by kernel_rfl) fun W args n h => by
      rw [Try.params3] at h
      obtain ⟨v0, l0, n0, m0, e0, e10, h0, h⟩ := h.cons
      obtain ⟨v1, l1, n1, m1, rfl, e11, h1, h⟩ := h.cons
      obtain ⟨v2, l2, n2, m2, rfl, e12, h2, h⟩ := h.cons
      obtain rfl := h.nil
      obtain ⟨a0, f0, x0, rfl, b0, g0⟩ := h0.sib Try.underlying23 (by kernel_rfl) (by kernel_rfl) Try.underlying9 Try.underlying3 Try.underlying4
      obtain ⟨a1, rfl, b1, c1⟩ := h1.string Try.underlying9
      obtain ⟨a2, rfl, b2⟩ := h2.i64 Try.underlying3
      obtain rfl : args = #[.agg #[.string ⟨a0.toArray⟩, .int .i64 f0, .bool x0], .string ⟨a1.toArray⟩, .int .i64 a2] := by cases args; simp_all
      exact raw35_walk W a0 b0 f0 g0 x0 a1 b1 a2 b2

theorem JournalRaw_holds : Rows.JournalRawSaid :=
  OpenClaim.holds_of_wide 3 Try.f3 rfl rfl rfl rfl rfl rfl rfl ⟨rfl, rfl, rfl, rfl, rfl⟩ rfl rfl rfl rfl rfl (by kernel_rfl) Try.func3 (by kernel_rfl)
    (of_decide_eq_true (by kernel_rfl)) (by unfold Func.isWrapper; first | (rw [if_pos (by decide +kernel)]; kernel_rfl) | (rw [if_neg (by decide +kernel)]; exact ⟨rfl, rfl⟩))
    (fun os started H enc _ => journalRaw_lifted os started H enc)
#print axioms JournalRaw_holds
end Go.Proofs.Ythelmlmheioljaa
