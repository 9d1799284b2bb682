/- For every input the law DigestElements returns true: elements of strings, and streams of numbers. -/
import Derived.Test.YtcppedmcchhhoaaLaw
import Derived.Test.YtcppedmcchhhoaaDigestElementsW
namespace Go.Proofs.Ytcppedmcchhhoaa
open Go.RowKit

theorem u8_nat {n : Int} (h : (Lit.int .u8 n).wf = true) : ∃ m : Nat, n = (m : Int) ∧ m < 256 := by
  simp only [Lit.wf, Bool.and_eq_true, decide_eq_true_eq] at h
  have h1 : IntKind.u8.min = 0 := rfl
  have h2 : IntKind.u8.max = 255 := rfl
  exact ⟨n.toNat, by omega, by omega⟩
theorem elements_law (W : World) (p : Option Addr) (l : List Int) (cap : Nat) (hR : Rd W p (ints l)) (_ : ∀ x ∈ l, I64 x) (hl : l.length ≤ 17592186043904) (s : List UInt8) (hs : s.length ≤ 140737488351232) (n : Int) (hn : (Lit.int .u8 n).wf = true) :
    Calls Try.prog 11 #[.slice p l.length cap, .string ⟨s.toArray⟩, .int .u8 n] W fun e w' => e = .returned (.bool true) ∧ Below W.heap.size W w' := by
  obtain ⟨m, rfl, hm⟩ := u8_nat hn
  exact elements_walk W p l cap hR hl s hs m hm
theorem digestElements_lifted (os : Os) (started : os.Started) (H : Type) (enc : TypeId × Value → H) :
    ReturnsInHanded {} Try.checked os 11 .any (Rows.digestElementsSpec.pre6 enc Try.prog Try.f11 Rows.digestElementsRow.domain false) (Rows.digestElementsSpec.post enc Try.prog Try.f11 false true false false) :=
  law_lifted (C := Try.checked) (by kernel_rfl) started (by kernel_rfl) Try.func11
    (ChangeSpec.witness6 (enc := enc) (C := Try.checked) false ⟨#[], #[.slice none 0 0, .string ByteArray.empty, .int .u8 0], []⟩ 8 (by kernel_rfl) (by kernel_rfl) (by kernel_rfl) (by kernel_rfl))
    rfl (fun ds h => by match ds, h with | [_, _, _], _ => rfl) rfl Try.underlying4 (by kernel_rfl) (by kernel_rfl) fun W args n h => by
      rw [Try.params11] at h
      obtain ⟨v0, l0, n0, m0, e0, e10, h0, h⟩ := h.cons
      obtain ⟨v1, l1, n1, m1, rfl, e11, h1, h⟩ := h.cons
      obtain ⟨v2, l2, n2, m2, rfl, e12, h2, h⟩ := h.cons
      obtain rfl := h.nil
      obtain ⟨p0, a0, q0, rfl, r0, b0, d0, c0⟩ := h0.ints Try.underlying29 Try.underlying3 (by kernel_rfl) (by kernel_rfl)
      obtain ⟨a1, rfl, b1, c1⟩ := h1.string Try.underlying9
      obtain ⟨a2, rfl, b2⟩ := h2.int Try.underlying5
      obtain rfl : args = #[.slice p0 a0.length q0, .string ⟨a1.toArray⟩, .int .u8 a2] := by cases args; simp_all
      exact elements_law W p0 a0 q0 r0 b0 d0 a1 b1 a2 b2

theorem DigestElements_holds : Rows.DigestElementsSaid :=
  OpenClaim.holds_of_wide 11 Try.f11 rfl rfl rfl rfl rfl rfl rfl ⟨rfl, rfl, rfl, rfl, rfl⟩ rfl rfl rfl rfl rfl (by kernel_rfl) Try.func11 (by kernel_rfl)
    (of_decide_eq_true (by kernel_rfl)) (by unfold Func.isWrapper; first | (rw [if_pos (by decide +kernel)]; kernel_rfl) | (rw [if_neg (by decide +kernel)]; exact ⟨rfl, rfl⟩))
    (fun os started H enc _ => digestElements_lifted os started H enc)
#print axioms DigestElements_holds
end Go.Proofs.Ytcppedmcchhhoaa
