/- For every input the law CodecCut returns true: a value of which something is missing is not read; without condition. -/
import Derived.Test.YtcppedmcchhhoaaRows
import Derived.Test.YtcppedmcchhhoaaCodecL
import Derived.Test.YtcppedmcchhhoaaCodecQ
namespace Go.Proofs.Ytcppedmcchhhoaa
open Go.RowKit

set_option maxRecDepth 100000 in
set_option maxHeartbeats 1000000 in
theorem cut_walk (w : World) (s : List UInt8) (hs : s.length ≤ 140737488351232) (la : Option Addr) (l : List Int) (lc : Nat) (hr : Rd w la (ints l)) (hx : ∀ x ∈ l, I64 x) (hl : l.length ≤ 17592186043904) (cut : Int) (_ : I64 cut) :
    Calls Try.prog 7 #[.string ⟨s.toArray⟩, .slice la l.length lc, .int .i64 cut] w fun e w' => e = .returned (.bool true) ∧ Below w.heap.size w w' := by
  by_cases h1 : 300 < s.length
  · go_enter Try.func7, Try.ntmps7
    go_wp2_with (go_at_call 13; refine (awake4 _).mono ?_; rintro e w1 ⟨rfl, hb1⟩)
    go_ret
    exact ⟨rfl, hb1⟩
  · by_cases h2 : 60 < l.length
    · go_enter Try.func7, Try.ntmps7
      go_wp2_with (go_at_call 13; refine (awake4 _).mono ?_; rintro e w1 ⟨rfl, hb1⟩)
      go_ret
      exact ⟨rfl, hb1⟩
    · have a1 := putText_len (s := s) (by omega)
      have a2 := putText_pos s
      have b1 := putInts_len hx (by omega)
      have b2 := putInts_pos l
      obtain ⟨K, hK, -, HK⟩ := mod_ex cut (putText s).length (by omega) (by omega)
      obtain ⟨J, hJ, -, HJ⟩ := mod_ex cut (putInts l).length (by omega) (by omega)
      have g1 : getText ((putText s).take K) 0 = ([], 0, 5) := by simpa using getText_cut [] s K (by omega) hK (p := 0) rfl
      have g2 := getInts_cut l J 2048 hx (by omega) (by omega) hJ
      have G1 := Lib.hid g1
      have G2 := Lib.hid g2
      clear g1 g2
      have n1 : ¬ putText s = [] := by rintro e; rw [e] at a2; simp at a2
      have n2 : ¬ putInts l = [] := by rintro e; rw [e] at b2; simp at b2
      have n3 : (((putText s).length : Int) == 0) = false := by rw [beq_eq_false_iff_ne]; omega
      have n4 : (((putInts l).length : Int) == 0) = false := by rw [beq_eq_false_iff_ne]; omega
      go_enter Try.func7, Try.ntmps7
      go_wp2_with (first
        | (go_at_call 18; refine (putText_nil s _ (by omega)).mono ?_; rintro e w1 ⟨rfl, hb1⟩)
        | (go_at_call 20; refine (putInts_any [] la lc l _ (by simp) (hr.keep hb1) (by omega) hx (by omega)).mono ?_; rintro e w2 ⟨rfl, hb2⟩)
        | (go_at_call 14; (with_reducible refine (HK.out _).mono ?_); rintro e w' ⟨rfl, rfl⟩)
        | (go_at_call 14; (with_reducible refine (HJ.out _).mono ?_); rintro e w' ⟨rfl, rfl⟩)
        | (go_at_call 26; (with_reducible refine (text_at G1.out _ (by simp; omega)).mono ?_); rintro e w' ⟨rfl, rfl⟩)
        | (go_at_call 28; refine (ints_walk ((putInts l).take J) 0 _ (by simp; omega)).mono ?_; rw [G2.out]; rintro e w3 ⟨c3, k3, rfl, -, -, hb3⟩)
        | (go_at_call 13; refine (awake4 _).mono ?_; rintro e w4 ⟨rfl, hb4⟩))
      go_ret
      exact ⟨rfl, below_tr hb1 (below_tr hb2 (below_tr hb3 hb4))⟩

theorem codecCut_lifted (os : Os) (started : os.Started) (H : Type) (enc : TypeId × Value → H) :
    ReturnsInHanded {} Try.checked os 7 .any (Rows.codecCutSpec.pre6 enc Try.prog Try.f7 Rows.codecCutRow.domain false) (Rows.codecCutSpec.post enc Try.prog Try.f7 false true false false) :=
  law_lifted (C := Try.checked) (by kernel_rfl) started (by kernel_rfl) Try.func7
    (ChangeSpec.witness6 (enc := enc) (C := Try.checked) false ⟨#[], #[.string ByteArray.empty, .slice none 0 0, .int .i64 0], []⟩ 8 (by kernel_rfl) (by kernel_rfl) (by kernel_rfl) (by kernel_rfl))
    rfl (fun ds h => by match ds, h with | [_, _, _], _ => rfl) rfl Try.underlying4 (by kernel_rfl) (by kernel_rfl) fun W args n h => by
      rw [Try.params7] at h
      obtain ⟨v0, l0, n0, m0, e0, e10, h0, h⟩ := h.cons
      obtain ⟨v1, l1, n1, m1, rfl, e11, h1, h⟩ := h.cons
      obtain ⟨v2, l2, n2, m2, rfl, e12, h2, h⟩ := h.cons
      obtain rfl := h.nil
      obtain ⟨a0, rfl, b0, c0⟩ := h0.string Try.underlying9
      obtain ⟨p1, a1, q1, rfl, r1, b1, d1, c1⟩ := h1.ints Try.underlying29 Try.underlying3 (by kernel_rfl) (by kernel_rfl)
      obtain ⟨a2, rfl, b2⟩ := h2.i64 Try.underlying3
      obtain rfl : args = #[.string ⟨a0.toArray⟩, .slice p1 a1.length q1, .int .i64 a2] := by cases args; simp_all
      exact cut_walk W a0 b0 p1 a1 q1 r1 b1 d1 a2 b2

theorem CodecCut_holds : Rows.CodecCutSaid :=
  OpenClaim.holds_of_wide 7 Try.f7 rfl rfl rfl rfl rfl rfl rfl ⟨rfl, rfl, rfl, rfl, rfl⟩ rfl rfl rfl rfl rfl (by kernel_rfl) Try.func7 (by kernel_rfl)
    (of_decide_eq_true (by kernel_rfl)) (by unfold Func.isWrapper; first | (rw [if_pos (by decide +kernel)]; kernel_rfl) | (rw [if_neg (by decide +kernel)]; exact ⟨rfl, rfl⟩))
    (fun os started H enc _ => codecCut_lifted os started H enc)
#print axioms CodecCut_holds
end Go.Proofs.Ytcppedmcchhhoaa
