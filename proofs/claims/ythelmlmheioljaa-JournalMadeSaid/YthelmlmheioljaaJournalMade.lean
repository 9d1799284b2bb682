/- For every input the law JournalMade returns true: what all functions return for disks with records, in which a byte was changed or not, and for records and disks at their limits; without condition. -/
import Derived.Test.YthelmlmheioljaaRows
import Derived.Test.YthelmlmheioljaaLawS
import Derived.Test.YthelmlmheioljaaJournalMadeW
namespace Go.Proofs.Ythelmlmheioljaa
open Go.RowKit
theorem made_walk2 (W : World) (p : Option Addr) (l : List Int) (cap : Nat) (hR : Rd W p (ints l)) (_ : ∀ x ∈ l, I64 x) (hl : l.length ≤ 17592186043904) (n : Int) (hn : I64 n) :
    Calls Try.prog 4 #[.slice p l.length cap, .int .i64 n] W fun e w' => e = .returned (.bool true) ∧ Below W.heap.size W w' := made35_walk W p l cap hR hl n hn
theorem journalMade_lifted (os : Os) (started : os.Started) (H : Type) (enc : TypeId × Value → H) :
    ReturnsInHanded {} Try.checked os 4 .any (Rows.journalMadeSpec.pre6 enc Try.prog Try.f4 Rows.journalMadeRow.domain false) (Rows.journalMadeSpec.post enc Try.prog Try.f4 false true false false) :=
  law_lifted (C := Try.checked) (by kernel_rfl) started (by kernel_rfl) Try.func4
    (ChangeSpec.witness6 (enc := enc) (C := Try.checked) false ⟨#[], #[.slice none 0 0, .int .i64 0], []⟩ 8 (by kernel_rfl) (by kernel_rfl) (by kernel_rfl) (by kernel_rfl))
    rfl (fun ds h => by match ds, h with | [_, _], _ => rfl) rfl Try.underlying4 (by kernel_rfl) (by kernel_rfl) fun W args n h => by
      rw [Try.params4] at h
      obtain ⟨v0, l0, n0, m0, e0, e10, h0, h⟩ := h.cons
      obtain ⟨v1, l1, n1, m1, rfl, e11, h1, h⟩ := h.cons
      obtain rfl := h.nil
      obtain ⟨p0, a0, q0, rfl, r0, b0, d0, c0⟩ := h0.ints Try.underlying26 Try.underlying3 (by kernel_rfl) (by kernel_rfl)
      obtain ⟨a1, rfl, b1⟩ := h1.i64 Try.underlying3
      obtain rfl : args = #[.slice p0 a0.length q0, .int .i64 a1] := by cases args; simp_all
      exact made_walk2 W p0 a0 q0 r0 b0 d0 a1 b1

theorem JournalMade_holds : Rows.JournalMadeSaid :=
  OpenClaim.holds_of_wide 4 Try.f4 rfl rfl rfl rfl rfl rfl rfl ⟨rfl, rfl, rfl, rfl, rfl⟩ rfl rfl rfl rfl rfl (by kernel_rfl) Try.func4 (by kernel_rfl)
    (of_decide_eq_true (by kernel_rfl)) (by unfold Func.isWrapper; first | (rw [if_pos (by decide +kernel)]; kernel_rfl) | (rw [if_neg (by decide +kernel)]; exact ⟨rfl, rfl⟩))
    (fun os started H enc _ => journalMade_lifted os started H enc)
#print axioms JournalMade_holds
end Go.Proofs.Ythelmlmheioljaa
