/- Conditions: the program's Term, Holds and Persons. -/
import Derived.Test.YtpofijdkckaphaaGreatGCndF
namespace Go.Proofs.YtpofijdkckaphaaGreat
open Go.RowKit
theorem termF_at (wi : Int → Int → Int → Bool) (T : List Trm) (n : Int) (M : List Mem) (me : Int) : termF wi T n M me = match atM M me with
    | none => false
    | some m => rightC T && (decide (0 ≤ n ∧ n < (T.length : Int)) && holdsT wi T m (othF M m) T.length n.toNat) := by
  unfold termF atM
  split
  · rfl
  · rfl
theorem persF_at (M : List Mem) (me : Int) : persF M me = match atM M me with
    | none => 0
    | some m => 1 + (dst ((othF M m).map Mem.person) : Int) := by
  unfold persF atM
  split
  · rfl
  · rfl
/-- where a condition and members lie -/
structure CM (w : World) (ta : Option Addr) (T : List Trm) (la : Option Addr) (M : List Mem) : Prop where
  t : RdT w ta T
  m : RdM w la M
theorem CM.keep {w w' : World} {ta : Option Addr} {T : List Trm} {la : Option Addr} {M : List Mem} (h : CM w ta T la M) (hb : Below w.heap.size w w') : CM w' ta T la M := ⟨h.t.keep hb, h.m.keep hb⟩
set_option maxRecDepth 100000 in
set_option maxHeartbeats 1000000 in
theorem cterm_walk (T : List Trm) (ta : Option Addr) (tc : Nat) (n : Int) (M : List Mem) (la : Option Addr) (lc : Nat) (me : Int) (w : World) (hC : CM w ta T la M) (hT : T.length ≤ 9223372036854775807) (hM : M.length ≤ 1000000000) :
    Calls Tryz.prog 50 #[.agg #[.slice ta T.length tc], .int .i64 n, .slice la M.length lc, .int .i64 me] w fun e w' => e = .returned (.bool (termF wiF T n M me)) ∧ Below w.heap.size w w' := by
  have he := termF_at wiF T n M me
  have b1 := (Below.refl w.heap.size w).alloc (Nat.le_refl _) (.cells #[.slice ta T.length tc] 34)
  have h1 := Bx.new w 34 [.slice ta T.length tc]
  change Bx (w.alloc (.cells #[.slice ta T.length tc] 34)) _ _ _ at h1
  have KL := Lib.hid (look_walk T ta tc M la lc me _ (hC.t.keep b1) (hC.m.keep b1) hM)
  have HC := Lib.hid hC
  obtain ⟨g1, hg1⟩ : ∃ g, g = w.heap.size := ⟨_, rfl⟩
  have hbw : w.heap.size = g1 := hg1.symm
  rw [← hg1] at h1
  have HB := Lib.hid b1
  clear hg1 hC b1
  generalize termF wiF T n M me = R at *
  go_enter Tryz.func50, Tryz.ntmps50
  go_upto_region 1 with (fail)
  generalize w.alloc (.cells #[.slice ta T.length tc] 34) = w1 at *
  clear hbw
  have c0 := h1.cell 0 rfl
  cases hat : atM M me with
  | none =>
    rw [hat] at he KL
    have HR := Lib.hid he
    clear he hat
    go_wp2_with (go_at_call 53; (with_reducible refine KL.out.mono ?_); (first | rintro e w2 ⟨rfl, hb2⟩ | rintro e w2 rfl hb2))
    go_ret
    exact ⟨ret_bool HR.out.symm, below_tr HB.out hb2⟩
  | some m =>
    rw [hat] at he KL
    have he2 : R = (rightC T && (decide (0 ≤ n ∧ n < (T.length : Int)) && holdsT wiF T m (othF M m) T.length n.toNat)) := he
    have HR := Lib.hid he2
    clear he he2 hat
    go_upto_region 2 with (go_at_call 53; (with_reducible refine KL.out.mono ?_); (first | rintro e w2 ⟨⟨g, oa, oc, rfl, hV⟩, hb2⟩ | rintro e w2 g oa oc rfl hV hb2))
    have c2 := (h1.keep hb2).cell 0 rfl
    have hb3 := below_tr HB.out hb2
    have KV := Lib.hid (cvalid_walk T ta tc w2 hV.t hT)
    have HV := Lib.hid hV
    have HB2 := Lib.hid hb3
    have HX := Lib.hid (h1.keep hb2)
    clear c0 hV hb2 hb3 KL h1 HB
    cases hrt : rightC T with
    | false =>
      rw [hrt] at KV
      have HRT := Lib.hid hrt
      clear hrt
      go_wp2_with (go_at_call 54; (with_reducible refine KV.out.mono ?_); (first | rintro e w3 ⟨rfl, hb3⟩ | rintro e w3 rfl hb3))
      go_ret
      exact ⟨ret_bool (by rw [HR.out, HRT.out]; rfl), HB2.out.trans (hb3.mono HB2.out.size)⟩
    | true =>
    rw [hrt] at KV
    obtain ⟨hl1, hl2, hseg⟩ := right_all hrt
    have HS := Lib.hid hseg
    have HRT := Lib.hid hrt
    clear hrt hseg
    by_cases h0 : 0 ≤ n
    rotate_left
    · have d1 : decide (n ≥ 0) = false := decide_eq_false h0
      have hR2 : Hid (R = false) := Lib.hid (by rw [HR.out, decide_eq_false (show ¬ (0 ≤ n ∧ n < (T.length : Int)) from fun h => h0 h.1)]; simp)
      clear h0
      go_wp2_with (go_at_call 54; (with_reducible refine KV.out.mono ?_); (first | rintro e w3 ⟨rfl, hb3⟩ | rintro e w3 rfl hb3))
      go_ret
      exact ⟨ret_bool hR2.out.symm, HB2.out.trans (hb3.mono HB2.out.size)⟩
    have d1 : decide (n ≥ 0) = true := decide_eq_true h0
    by_cases h2 : n < (T.length : Int)
    rotate_left
    · have d2 : decide (n < (T.length : Int)) = false := decide_eq_false h2
      have hR2 : Hid (R = false) := Lib.hid (by rw [HR.out, decide_eq_false (show ¬ (0 ≤ n ∧ n < (T.length : Int)) from fun h => h2 h.2)]; simp)
      clear h2 h0
      go_wp2_with (go_at_call 54; (with_reducible refine KV.out.mono ?_); (first | rintro e w3 ⟨rfl, hb3⟩ | rintro e w3 rfl hb3); have q0 := (HX.out.keep hb3).cell 0 rfl)
      go_ret
      exact ⟨ret_bool hR2.out.symm, HB2.out.trans (hb3.mono HB2.out.size)⟩
    have d2 : decide (n < (T.length : Int)) = true := decide_eq_true h2
    obtain ⟨k, rfl⟩ : ∃ k : Nat, n = (k : Int) := ⟨n.toNat, by omega⟩
    have hR2 : Hid (R = holdsT wiF T m (othF M m) T.length k) := Lib.hid (by rw [HR.out, HRT.out, decide_eq_true (show 0 ≤ (k : Int) ∧ (k : Int) < (T.length : Int) from ⟨h0, h2⟩), Int.toNat_natCast]; simp)
    have KH := Lib.hid (fun V (hV : View V g ta T tc m oa (othF M m) oc) => holds_walk T ta tc HS.out m (othF M m) (by have := othF_len M m; omega) g oa oc T.length k V (by omega) (by omega) hV)
    have d3 : decide (k < T.length) = true := decide_eq_true (by omega)
    have d4 : k < T.length := by omega
    clear h2 h0 hl1 hl2 d1
    go_wp2_with (first | (go_at_call 54; (with_reducible refine KV.out.mono ?_); (first | rintro e w3 ⟨rfl, hb3⟩ | rintro e w3 rfl hb3); have q0 := (HX.out.keep hb3).cell 0 rfl) | (go_at_call 55; (with_reducible refine (KH.out _ (HV.out.keep hb3)).mono ?_); (first | rintro e w4 ⟨rfl, hb4⟩ | rintro e w4 rfl hb4)))
    go_ret
    exact ⟨ret_bool hR2.out.symm, HB2.out.trans ((below_tr hb3 hb4).mono HB2.out.size)⟩
set_option maxRecDepth 100000 in
theorem cholds_walk (T : List Trm) (ta : Option Addr) (tc : Nat) (M : List Mem) (la : Option Addr) (lc : Nat) (me : Int) (w : World) (hC : CM w ta T la M) (hT : T.length ≤ 9223372036854775807) (hM : M.length ≤ 1000000000) :
    Calls Tryz.prog 40 #[.agg #[.slice ta T.length tc], .slice la M.length lc, .int .i64 me] w fun e w' => e = .returned (.bool (termF wiF T 0 M me)) ∧ Below w.heap.size w w' := by
  have b1 := (Below.refl w.heap.size w).alloc (Nat.le_refl _) (.cells #[.slice ta T.length tc] 34)
  have h1 := Bx.new w 34 [.slice ta T.length tc]
  change Bx (w.alloc (.cells #[.slice ta T.length tc] 34)) _ _ _ at h1
  have KT := Lib.hid (cterm_walk T ta tc 0 M la lc me _ (hC.keep b1) hT hM)
  obtain ⟨g1, hg1⟩ : ∃ g, g = w.heap.size := ⟨_, rfl⟩
  have hbw : w.heap.size = g1 := hg1.symm
  rw [← hg1] at h1
  have HB := Lib.hid b1
  clear hg1 hC b1
  generalize termF wiF T 0 M me = R at *
  go_enter Tryz.func40, Tryz.ntmps40
  go_upto_region 1 with (fail)
  generalize w.alloc (.cells #[.slice ta T.length tc] 34) = w1 at *
  clear hbw
  have c0 := h1.cell 0 rfl
  clear h1
  go_wp2_with (go_at_call 50; (with_reducible refine KT.out.mono ?_); (first | rintro e w2 ⟨rfl, hb2⟩ | rintro e w2 rfl hb2))
  go_ret
  exact ⟨rfl, below_tr HB.out hb2⟩
end Go.Proofs.YtpofijdkckaphaaGreat
