/- For every input the law JournalCrash returns true: whatever the fuses were, after each start the records are those whose Append had no error, and possibly the one that was torn, if its whole frame was written; without condition. -/
import Derived.Test.YthelmlmheioljaaRows
import Derived.Test.YthelmlmheioljaaLaw
import Derived.Test.YthelmlmheioljaaJournalCrashW
namespace Go.Proofs.Ythelmlmheioljaa
open Go.RowKit
theorem crash_law (W : World) (p : Option Addr) (l : List Int) (cap : Nat) (hR : Rd W p (ints l)) (_ : ∀ x ∈ l, I64 x) (hl : l.length ≤ 17592186043904) :
    Calls Try.prog 5 #[.slice p l.length cap] W fun e w' => e = .returned (.bool true) ∧ Below W.heap.size W w' := crash_walk W p l cap hR hl
theorem journalCrash_lifted (os : Os) (started : os.Started) (H : Type) (enc : TypeId × Value → H) :
    ReturnsInHanded {} Try.checked os 5 .any (Rows.journalCrashSpec.pre6 enc Try.prog Try.f5 Rows.journalCrashRow.domain false) (Rows.journalCrashSpec.post enc Try.prog Try.f5 false true false false) :=
  law_lifted (C := Try.checked) (by kernel_rfl) started (by kernel_rfl) Try.func5
    (ChangeSpec.witness6 (enc := enc) (C := Try.checked) false ⟨#[], #[.slice none 0 0], []⟩ 8 (by kernel_rfl) (by kernel_rfl) (by kernel_rfl) (by kernel_rfl))
    rfl (fun ds h => by match ds, h with | [_], _ => rfl) rfl Try.underlying4 (by kernel_rfl) (by kernel_rfl) fun W args n h => by
      rw [Try.params5] at h
      obtain ⟨v0, l0, n0, m0, e0, e10, h0, h⟩ := h.cons
      obtain rfl := h.nil
      obtain ⟨p0, a0, q0, rfl, r0, b0, d0, c0⟩ := h0.ints Try.underlying26 Try.underlying3 (by kernel_rfl) (by kernel_rfl)
      obtain rfl : args = #[.slice p0 a0.length q0] := by cases args; simp_all
      exact crash_law W p0 a0 q0 r0 b0 d0

theorem JournalCrash_holds : Rows.JournalCrashSaid :=
  OpenClaim.holds_of_wide 5 Try.f5 rfl rfl rfl rfl rfl rfl rfl ⟨rfl, rfl, rfl, rfl, rfl⟩ rfl rfl rfl rfl rfl (by kernel_rfl) Try.func5 (by kernel_rfl)
    (of_decide_eq_true (by kernel_rfl)) (by unfold Func.isWrapper; first | (rw [if_pos (by decide +kernel)]; kernel_rfl) | (rw [if_neg (by decide +kernel)]; exact ⟨rfl, rfl⟩))
    (fun os started H enc _ => journalCrash_lifted os started H enc)
#print axioms JournalCrash_holds
end Go.Proofs.Ythelmlmheioljaa
