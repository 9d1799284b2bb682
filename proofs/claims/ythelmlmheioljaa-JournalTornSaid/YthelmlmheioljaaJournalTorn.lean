/- For every input the law JournalTorn returns true: a record behind good ones is there after a torn write exactly if all bytes of its frame were written; without condition. -/
import Derived.Test.YthelmlmheioljaaRows
import Derived.Test.YthelmlmheioljaaLawS
import Derived.Test.YthelmlmheioljaaJournalTornX
namespace Go.Proofs.Ythelmlmheioljaa
open Go.RowKit
theorem u8_nat {n : Int} (h : (Lit.int .u8 n).wf = true) : ∃ m : Nat, n = (m : Int) ∧ m < 256 := by
  simp only [Lit.wf, Bool.and_eq_true, decide_eq_true_eq] at h
  have h1 : IntKind.u8.min = 0 := rfl
  have h2 : IntKind.u8.max = 255 := rfl
  exact ⟨n.toNat, by omega, by omega⟩
theorem torn_walk2 (W : World) (s : List UInt8) (hs : s.length ≤ 140737488351232) (F : Int) (hF : (Lit.int .u8 F).wf = true) (n : Int) (hn : (Lit.int .u8 n).wf = true) :
    Calls Try.prog 6 #[.string ⟨s.toArray⟩, .int .u8 F, .int .u8 n] W fun e w' => e = .returned (.bool true) ∧ Below W.heap.size W w' := by
  obtain ⟨a, rfl, ha⟩ := u8_nat hF
  obtain ⟨b, rfl, hb⟩ := u8_nat hn
  exact torn_walk W s hs a ha b hb
theorem journalTorn_lifted (os : Os) (started : os.Started) (H : Type) (enc : TypeId × Value → H) :
    ReturnsInHanded {} Try.checked os 6 .any (Rows.journalTornSpec.pre6 enc Try.prog Try.f6 Rows.journalTornRow.domain false) (Rows.journalTornSpec.post enc Try.prog Try.f6 false true false false) :=
  law_lifted (C := Try.checked) (by kernel_rfl) started (by kernel_rfl) Try.func6
    (ChangeSpec.witness6 (enc := enc) (C := Try.checked) false ⟨#[], #[.string ByteArray.empty, .int .u8 0, .int .u8 0], []⟩ 8 (by kernel_rfl) (by kernel_rfl) (by kernel_rfl) (by kernel_rfl))
    rfl (fun ds h => by match ds, h with | [_, _, _], _ => rfl) rfl Try.underlying4 (by kernel_rfl) (by kernel_rfl) fun W args n h => by
      rw [Try.params6] at h
      obtain ⟨v0, l0, n0, m0, e0, e10, h0, h⟩ := h.cons
      obtain ⟨v1, l1, n1, m1, rfl, e11, h1, h⟩ := h.cons
      obtain ⟨v2, l2, n2, m2, rfl, e12, h2, h⟩ := h.cons
      obtain rfl := h.nil
      obtain ⟨a0, rfl, b0, c0⟩ := h0.string Try.underlying9
      obtain ⟨a1, rfl, b1⟩ := h1.int Try.underlying5
      obtain ⟨a2, rfl, b2⟩ := h2.int Try.underlying5
      obtain rfl : args = #[.string ⟨a0.toArray⟩, .int .u8 a1, .int .u8 a2] := by cases args; simp_all
      exact torn_walk2 W a0 b0 a1 b1 a2 b2

theorem JournalTorn_holds : Rows.JournalTornSaid :=
  OpenClaim.holds_of_wide 6 Try.f6 rfl rfl rfl rfl rfl rfl rfl ⟨rfl, rfl, rfl, rfl, rfl⟩ rfl rfl rfl rfl rfl (by kernel_rfl) Try.func6 (by kernel_rfl)
    (of_decide_eq_true (by kernel_rfl)) (by unfold Func.isWrapper; first | (rw [if_pos (by decide +kernel)]; kernel_rfl) | (rw [if_neg (by decide +kernel)]; exact ⟨rfl, rfl⟩))
    (fun os started H enc _ => journalTorn_lifted os started H enc)
#print axioms JournalTorn_holds
end Go.Proofs.Ythelmlmheioljaa
