/- For every input the law DigestStreams returns true: shorter streams are the beginning of longer ones, all numbers are elements, and elements of strings are not 0. -/
import Derived.Test.YtcppedmcchhhoaaLaw
import Derived.Test.YtcppedmcchhhoaaDigestStreamsW
namespace Go.Proofs.Ytcppedmcchhhoaa
open Go.RowKit

theorem u8_nat {n : Int} (h : (Lit.int .u8 n).wf = true) : ∃ m : Nat, n = (m : Int) ∧ m < 256 := by
  simp only [Lit.wf, Bool.and_eq_true, decide_eq_true_eq] at h
  have h1 : IntKind.u8.min = 0 := rfl
  have h2 : IntKind.u8.max = 255 := rfl
  exact ⟨n.toNat, by omega, by omega⟩
theorem streams_law (W : World) (p : Option Addr) (l : List Int) (cap : Nat) (hR : Rd W p (ints l)) (_ : ∀ x ∈ l, I64 x) (hl : l.length ≤ 17592186043904) (s : List UInt8) (hs : s.length ≤ 140737488351232) (m : Int) (hm : (Lit.int .u8 m).wf = true) (n : Int) (hn : (Lit.int .u8 n).wf = true) :
    Calls Try.prog 12 #[.slice p l.length cap, .string ⟨s.toArray⟩, .int .u8 m, .int .u8 n] W fun e w' => e = .returned (.bool true) ∧ Below W.heap.size W w' := by
  obtain ⟨a, rfl, ha⟩ := u8_nat hm
  obtain ⟨b, rfl, hb⟩ := u8_nat hn
  exact streams_walk W p l cap hR hl s hs a b ha hb
theorem digestStreams_lifted (os : Os) (started : os.Started) (H : Type) (enc : TypeId × Value → H) :
    ReturnsInHanded {} Try.checked os 12 .any (Rows.digestStreamsSpec.pre6 enc Try.prog Try.f12 Rows.digestStreamsRow.domain false) (Rows.digestStreamsSpec.post enc Try.prog Try.f12 false true false false) :=
  law_lifted (C := Try.checked) (by kernel_rfl) started (by kernel_rfl) Try.func12
    (ChangeSpec.witness6 (enc := enc) (C := Try.checked) false ⟨#[], #[.slice none 0 0, .string ByteArray.empty, .int .u8 0, .int .u8 0], []⟩ 8 (by kernel_rfl) (by kernel_rfl) (by kernel_rfl) (by kernel_rfl))
    rfl (fun ds h => by match ds, h with | [_, _, _, _], _ => rfl) rfl Try.underlying4 (by kernel_rfl) (by kernel_rfl) fun W args n h => by
      rw [Try.params12] at h
      obtain ⟨v0, l0, n0, m0, e0, e10, h0, h⟩ := h.cons
      obtain ⟨v1, l1, n1, m1, rfl, e11, h1, h⟩ := h.cons
      obtain ⟨v2, l2, n2, m2, rfl, e12, h2, h⟩ := h.cons
      obtain ⟨v3, l3, n3, m3, rfl, e13, h3, h⟩ := h.cons
      obtain rfl := h.nil
      obtain ⟨p0, a0, q0, rfl, r0, b0, d0, c0⟩ := h0.ints Try.underlying29 Try.underlying3 (by kernel_rfl) (by kernel_rfl)
      obtain ⟨a1, rfl, b1, c1⟩ := h1.string Try.underlying9
      obtain ⟨a2, rfl, b2⟩ := h2.int Try.underlying5
      obtain ⟨a3, rfl, b3⟩ := h3.int Try.underlying5
      obtain rfl : args = #[.slice p0 a0.length q0, .string ⟨a1.toArray⟩, .int .u8 a2, .int .u8 a3] := by cases args; simp_all
      exact streams_law W p0 a0 q0 r0 b0 d0 a1 b1 a2 b2 a3 b3

theorem DigestStreams_holds : Rows.DigestStreamsSaid :=
  OpenClaim.holds_of_wide 12 Try.f12 rfl rfl rfl rfl rfl rfl rfl ⟨rfl, rfl, rfl, rfl, rfl⟩ rfl rfl rfl rfl rfl (by kernel_rfl) Try.func12 (by kernel_rfl)
    (of_decide_eq_true (by kernel_rfl)) (by unfold Func.isWrapper; first | (rw [if_pos (by decide +kernel)]; kernel_rfl) | (rw [if_neg (by decide +kernel)]; exact ⟨rfl, rfl⟩))
    (fun os started H enc _ => digestStreams_lifted os started H enc)
#print axioms DigestStreams_holds
end Go.Proofs.Ytcppedmcchhhoaa
