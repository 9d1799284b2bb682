/- Conditions: whether two are the same, term by term: the reference's. -/
import Derived.Test.YtejdaeonknpgeaaDoorGCndRD
import Derived.Test.YtejdaeonknpgeaaDoorGCndYP
namespace Go.Proofs.YtejdaeonknpgeaaDoor
open Go.RowKit
/-- the terms at a number are the same -/
def Pk (A B : List Trm) (j : Nat) : Prop := ∃ t x, A[j]? = some t ∧ B[j]? = some x ∧ headEq t x = true ∧ t.args = x.args
theorem map_zero (l : List Int) : l.map (· - ((0 : Nat) : Int)) = l := by
  have : (fun n : Int => n - ((0 : Nat) : Int)) = id := by funext z; simp
  rw [this, List.map_id]
theorem same0_true {A B : List Trm} (hl : A.length = B.length) (h : ∀ j, j < A.length → Pk A B j) : sameSeg A 0 A.length B = true := by
  rw [sameSeg_iff]
  refine ⟨by omega, fun i hi => ?_⟩
  obtain ⟨t, x, h1, h2, h3, h4⟩ := h i (by omega)
  exact ⟨t, x, by rwa [Nat.zero_add], h2, h3, by rw [map_zero]; exact h4⟩
theorem same0_len {A B : List Trm} (hl : A.length ≠ B.length) : sameSeg A 0 A.length B = false := by
  rw [Bool.eq_false_iff]
  intro h
  have := ((sameSeg_iff ..).1 h).1
  omega
theorem same0_no {A B : List Trm} {i : Nat} {t x : Trm} (ht : Hid (A[i]? = some t)) (hx : Hid (B[i]? = some x)) (h : headEq t x = true → t.args = x.args → False) : sameSeg A 0 A.length B = false := by
  rw [Bool.eq_false_iff]
  intro hs
  obtain ⟨t', x', h1, h2, h3, h4⟩ := ((sameSeg_iff ..).1 hs).2 i (List.getElem?_eq_some_iff.1 hx.out).1
  rw [Nat.zero_add, ht.out] at h1
  rw [hx.out] at h2
  obtain rfl := Option.some.inj h1
  obtain rfl := Option.some.inj h2
  rw [map_zero] at h4
  exact h h3 h4
theorem head_iff (t x : Trm) : headEq t x = true ↔ t.kind = x.kind ∧ t.number = x.number ∧ t.years = x.years ∧ t.field = x.field ∧ t.text = x.text ∧ t.args.length = x.args.length := by
  simp only [headEq, Bool.and_eq_true, decide_eq_true_eq]
set_option maxRecDepth 100000 in
set_option maxHeartbeats 8000000 in
theorem rsame16_walk (A B : List Trm) (a b : Option Addr) (ac bc : Nat) (w : World) (hAl : A.length ≤ 1000000) (hRA : RdT w a A) (hRB : RdT w b B) :
    Calls Tryd.prog 24 #[.agg #[.slice a A.length ac], .agg #[.slice b B.length bc]] w fun e w' => e = .returned (.bool (sameSeg A 0 A.length B)) ∧ Below w.heap.size w w' := by
  have hF := fun (i : Nat) (t x : Trm) (ht : Hid (A[i]? = some t)) (hx : Hid (B[i]? = some x)) (h : headEq t x = true → t.args = x.args → False) => same0_no ht hx h
  have hF1 := fun (h : A.length ≠ B.length) => same0_len h
  have hF2 := fun (hl : A.length = B.length) (h : ∀ j, j < A.length → Pk A B j) => same0_true hl h
  generalize sameSeg A 0 A.length B = R at *
  have b1 := (Below.refl w.heap.size w).alloc (Nat.le_refl _) (.cells #[.slice a A.length ac] 29)
  have x1 := Bx.new w 29 [.slice a A.length ac]
  change Bx (w.alloc (.cells #[.slice a A.length ac] 29)) _ _ _ at x1
  have b2 := b1.alloc b1.size (.cells #[.slice b B.length bc] 29)
  have x2 := Bx.new (w.alloc (.cells #[.slice a A.length ac] 29)) 29 [.slice b B.length bc]
  change Bx ((w.alloc (.cells #[.slice a A.length ac] 29)).alloc (.cells #[.slice b B.length bc] 29)) _ _ _ at x2
  have x1' := x1.alloc (.cells #[.slice b B.length bc] 29)
  have HF := Lib.hid hF
  have HF1 := Lib.hid hF1
  have HF2 := Lib.hid hF2
  have HRA := Lib.hid (hRA.keep b2)
  have HRB := Lib.hid (hRB.keep b2)
  have hz : (w.alloc (.cells #[.slice a A.length ac] 29)).heap.size = w.heap.size + 1 := by simp
  rw [hz] at x2
  clear hF hF1 hF2 x1 b1 hRA hRB hz
  go_enter Tryd.func24, Tryd.ntmps24
  go_upto_region 1 with (fail)
  generalize (w.alloc (.cells #[.slice a A.length ac] 29)).alloc (.cells #[.slice b B.length bc] 29) = w1 at *
  generalize w.heap.size + 1 = g3 at *
  generalize hg1 : w.heap.size = g2 at *
  have HB := Lib.hid (show Below w.heap.size w w1 by rw [hg1]; exact b2)
  have X1 := Lib.hid x1'
  have X2 := Lib.hid x2
  have y1 := x1'.cell 0 rfl
  have y2 := x2.cell 0 rfl
  clear hg1 b2 x1' x2
  by_cases hl : A.length = B.length
  rotate_left
  · have HR : Hid (R = false) := Lib.hid (HF1.out hl)
    have e1 : ((A.length : Int) != (B.length : Int)) = true := by rw [bne_iff_ne]; omega
    have e2 : ((A.length : Int) == (B.length : Int)) = false := by rw [beq_eq_false_iff_ne]; omega
    have e3 : (A.length == B.length) = false := by rw [beq_eq_false_iff_ne]; omega
    have e4 : (A.length != B.length) = true := by rw [bne_iff_ne]; omega
    clear HF HF1 HF2
    go_wp2
    go_ret
    exact ⟨ret_bool HR.out.symm, HB.out⟩
  have e1 : ((A.length : Int) != (B.length : Int)) = false := by rw [bne_eq_false_iff_eq]; omega
  have e2 : ((A.length : Int) == (B.length : Int)) = true := by rw [beq_iff_eq]; omega
  have e3 : (A.length == B.length) = true := by rw [beq_iff_eq]; omega
  have e4 : (A.length != B.length) = false := by rw [bne_eq_false_iff_eq]; omega
  have HL := Lib.hid hl
  clear HF1 hl
  go_wp2_with fail
  clear e1 e2 e3 e4 y1 y2
  go_loopw [20] (fun v wr => ∃ i : Nat, i ≤ A.length ∧ v = .int .i64 (i : Int) ∧ Below w1.heap.size w1 wr ∧ Hid (∀ j, j < i → Pk A B j)) (fun v _ => A.length - (intOf v).toNat)
  case atStart => exact ⟨0, Nat.zero_le _, rfl, Below.refl _ _, Lib.hid (fun j h => by omega)⟩
  case round =>
    obtain ⟨i, hi, rfl, hB, hP⟩ := hrel
    by_cases hit : i < A.length
    rotate_left
    · have hil : ¬ (i : Int) < (A.length : Int) := by omega
      obtain rfl : i = A.length := by omega
      have HR : Hid (R = true) := Lib.hid (HF2.out HL.out hP.out)
      clear HF HF2 hP
      go_wp2
      go_ret
      exact ⟨ret_bool HR.out.symm, below_tr HB.out hB⟩
    have hil : (i : Int) < (A.length : Int) := by omega
    have hil2 : (i : Int) < (B.length : Int) := by have := HL.out; omega
    obtain ⟨ga, oa, t, rfl, ht, ⟨c0, c1, c2, c3, c4, c5⟩, hta, hti⟩ := (HRA.out.keep hB).trm (k := i) hit
    obtain ⟨gb, ob, x, rfl, hx, ⟨d0, d1, d2, d3, d4, d5⟩, hxa, hxi⟩ := (HRB.out.keep hB).trm (k := i) (by omega)
    have HN := Lib.hid (HF.out i t x ht hx)
    have HP2 : Hid (headEq t x = true → t.args = x.args → ∀ j, j < i + 1 → Pk A B j) := Lib.hid (fun h1 h2 j hj => by
      by_cases e : j = i
      · subst e; exact ⟨t, x, ht.out, hx.out, h1, h2⟩
      · exact hP.out j (by omega))
    have hq1 := (Below.refl wr.heap.size wr).alloc (Nat.le_refl _) (.cells #[.int .i64 t.kind, .int .i64 t.number, .int .i64 t.years, .string ⟨t.field.toArray⟩, .string ⟨t.text.toArray⟩, .slice t.aa t.args.length t.ac] 47)
    have hL1 := Bx.new wr 47 [.int .i64 t.kind, .int .i64 t.number, .int .i64 t.years, .string ⟨t.field.toArray⟩, .string ⟨t.text.toArray⟩, .slice t.aa t.args.length t.ac]
    change Bx (wr.alloc (.cells #[.int .i64 t.kind, .int .i64 t.number, .int .i64 t.years, .string ⟨t.field.toArray⟩, .string ⟨t.text.toArray⟩, .slice t.aa t.args.length t.ac] 47)) _ _ _ at hL1
    have y2 := (X2.out.keep (hB.trans (hq1.mono hB.size))).cell 0 rfl
    have f0 := cell_keep hq1 d0
    have f1 := cell_keep hq1 d1
    have f2 := cell_keep hq1 d2
    have f3 := cell_keep hq1 d3
    have f4 := cell_keep hq1 d4
    have f5 := cell_keep hq1 d5
    have HTA := Lib.hid (hta.keep hq1)
    have HXA := Lib.hid (hxa.keep hq1)
    have hB1 := hB.trans (hq1.mono hB.size)
    have hal : t.args.length ≤ 9223372036854775807 := Nat.le_trans hti.2.2.2.2.2 (by decide)
    have hbl : x.args.length ≤ 9223372036854775807 := Nat.le_trans hxi.2.2.2.2.2 (by decide)
    clear d0 d1 d2 d3 d4 d5 ht hx hP hq1 hta hxa hB hti hxi
    go_upto_region 6 with (fail)
    generalize wr.alloc (.cells #[.int .i64 t.kind, .int .i64 t.number, .int .i64 t.years, .string ⟨t.field.toArray⟩, .string ⟨t.text.toArray⟩, .slice t.aa t.args.length t.ac] 47) = w2 at *
    generalize wr.heap.size = g6 at *
    clear c0 c1 c2 c3 c4 c5
    have hq2 := (Below.refl w2.heap.size w2).alloc (Nat.le_refl _) (.cells #[.int .i64 x.kind, .int .i64 x.number, .int .i64 x.years, .string ⟨x.field.toArray⟩, .string ⟨x.text.toArray⟩, .slice x.aa x.args.length x.ac] 47)
    have hL2 := Bx.new w2 47 [.int .i64 x.kind, .int .i64 x.number, .int .i64 x.years, .string ⟨x.field.toArray⟩, .string ⟨x.text.toArray⟩, .slice x.aa x.args.length x.ac]
    change Bx (w2.alloc (.cells #[.int .i64 x.kind, .int .i64 x.number, .int .i64 x.years, .string ⟨x.field.toArray⟩, .string ⟨x.text.toArray⟩, .slice x.aa x.args.length x.ac] 47)) _ _ _ at hL2
    have hB2 := hB1.trans (hq2.mono hB1.size)
    have hL1' := hL1.keep hq2
    have HTA2 := Lib.hid (HTA.out.keep hq2)
    have HXA2 := Lib.hid (HXA.out.keep hq2)
    clear hq2 hL1 hB1 HTA HXA
    go_upto_region 7 with (fail)
    generalize w2.alloc (.cells #[.int .i64 x.kind, .int .i64 x.number, .int .i64 x.years, .string ⟨x.field.toArray⟩, .string ⟨x.text.toArray⟩, .slice x.aa x.args.length x.ac] 47) = w3 at *
    generalize w2.heap.size = g7 at *
    clear f0 f1 f2 f3 f4 f5 y2
    have c0 := hL1'.cell 0 rfl
    have c1 := hL1'.cell 1 rfl
    have c2 := hL1'.cell 2 rfl
    have c3 := hL1'.cell 3 rfl
    have c4 := hL1'.cell 4 rfl
    have c5 := hL1'.cell 5 rfl
    have d0 := hL2.cell 0 rfl
    have d1 := hL2.cell 1 rfl
    have d2 := hL2.cell 2 rfl
    have d3 := hL2.cell 3 rfl
    have d4 := hL2.cell 4 rfl
    have d5 := hL2.cell 5 rfl
    have HB2 := Lib.hid hB2
    have HL1 := Lib.hid hL1'
    have HL2 := Lib.hid hL2
    clear hB2 hL1' hL2
    by_cases q0 : t.kind = x.kind
    rotate_left
    · have HR : Hid (R = false) := Lib.hid (HN.out (fun h _ => q0 ((head_iff t x).1 h).1))
      have r0 : (t.kind != x.kind) = true := by rw [bne_iff_ne]; exact q0
      have s0 : (t.kind == x.kind) = false := by rw [beq_eq_false_iff_ne]; exact q0
      clear HN HP2 HF HF2
      go_wp2
      go_ret
      exact ⟨ret_bool HR.out.symm, below_tr HB.out HB2.out⟩
    have r0 : (t.kind != x.kind) = false := by rw [bne_eq_false_iff_eq]; exact q0
    have s0 : (t.kind == x.kind) = true := by rw [beq_iff_eq]; exact q0
    by_cases q1 : t.number = x.number
    rotate_left
    · have HR : Hid (R = false) := Lib.hid (HN.out (fun h _ => q1 ((head_iff t x).1 h).2.1))
      have r1 : (t.number != x.number) = true := by rw [bne_iff_ne]; exact q1
      have s1 : (t.number == x.number) = false := by rw [beq_eq_false_iff_ne]; exact q1
      clear HN HP2 HF HF2
      go_wp2
      go_ret
      exact ⟨ret_bool HR.out.symm, below_tr HB.out HB2.out⟩
    have r1 : (t.number != x.number) = false := by rw [bne_eq_false_iff_eq]; exact q1
    have s1 : (t.number == x.number) = true := by rw [beq_iff_eq]; exact q1
    by_cases q2 : t.years = x.years
    rotate_left
    · have HR : Hid (R = false) := Lib.hid (HN.out (fun h _ => q2 ((head_iff t x).1 h).2.2.1))
      have r2 : (t.years != x.years) = true := by rw [bne_iff_ne]; exact q2
      have s2 : (t.years == x.years) = false := by rw [beq_eq_false_iff_ne]; exact q2
      clear HN HP2 HF HF2
      go_wp2
      go_ret
      exact ⟨ret_bool HR.out.symm, below_tr HB.out HB2.out⟩
    have r2 : (t.years != x.years) = false := by rw [bne_eq_false_iff_eq]; exact q2
    have s2 : (t.years == x.years) = true := by rw [beq_iff_eq]; exact q2
    by_cases q3 : t.field = x.field
    rotate_left
    · have HR : Hid (R = false) := Lib.hid (HN.out (fun h _ => q3 ((head_iff t x).1 h).2.2.2.1))
      have r3 : (t.field != x.field) = true := by rw [bne_iff_ne]; exact q3
      have s3 : (t.field == x.field) = false := by rw [beq_eq_false_iff_ne]; exact q3
      clear HN HP2 HF HF2
      go_wp2
      go_ret
      exact ⟨ret_bool HR.out.symm, below_tr HB.out HB2.out⟩
    have r3 : (t.field != x.field) = false := by rw [bne_eq_false_iff_eq]; exact q3
    have s3 : (t.field == x.field) = true := by rw [beq_iff_eq]; exact q3
    by_cases q4 : t.text = x.text
    rotate_left
    · have HR : Hid (R = false) := Lib.hid (HN.out (fun h _ => q4 ((head_iff t x).1 h).2.2.2.2.1))
      have r4 : (t.text != x.text) = true := by rw [bne_iff_ne]; exact q4
      have s4 : (t.text == x.text) = false := by rw [beq_eq_false_iff_ne]; exact q4
      clear HN HP2 HF HF2
      go_wp2
      go_ret
      exact ⟨ret_bool HR.out.symm, below_tr HB.out HB2.out⟩
    have r4 : (t.text != x.text) = false := by rw [bne_eq_false_iff_eq]; exact q4
    have s4 : (t.text == x.text) = true := by rw [beq_iff_eq]; exact q4
    by_cases q5 : t.args.length = x.args.length
    rotate_left
    · have HR : Hid (R = false) := Lib.hid (HN.out (fun h _ => q5 ((head_iff t x).1 h).2.2.2.2.2))
      have r5 : (t.args.length != x.args.length) = true := by rw [bne_iff_ne]; exact q5
      have s5 : (t.args.length == x.args.length) = false := by rw [beq_eq_false_iff_ne]; exact q5
      have r5c : ((t.args.length : Int) != (x.args.length : Int)) = true := by rw [bne_iff_ne]; omega
      have s5c : ((t.args.length : Int) == (x.args.length : Int)) = false := by rw [beq_eq_false_iff_ne]; omega
      clear HN HP2 HF HF2
      go_wp2
      go_ret
      exact ⟨ret_bool HR.out.symm, below_tr HB.out HB2.out⟩
    have r5 : (t.args.length != x.args.length) = false := by rw [bne_eq_false_iff_eq]; exact q5
    have s5 : (t.args.length == x.args.length) = true := by rw [beq_iff_eq]; exact q5
    have r5c : ((t.args.length : Int) != (x.args.length : Int)) = false := by rw [bne_eq_false_iff_eq]; omega
    have s5c : ((t.args.length : Int) == (x.args.length : Int)) = true := by rw [beq_iff_eq]; omega
    have HH : Hid (headEq t x = true) := Lib.hid ((head_iff t x).2 ⟨q0, q1, q2, q3, q4, q5⟩)
    have HQ := Lib.hid q5
    replace HN := Lib.hid (fun (h : t.args = x.args → False) => HN.out (fun _ => h))
    replace HP2 := Lib.hid (HP2.out HH.out)
    clear q0 q1 q2 q3 q4 q5
    go_wp2_with fail
    clear c0 c1 c2 c3 c4 c5 d0 d1 d2 d3 d4 d5 r0 s0 r1 s1 r2 s2 r3 s3 r4 s4 r5 s5 r5c s5c
    go_loopw [75] (fun v wx => ∃ k : Nat, k ≤ t.args.length ∧ v = .int .i64 (k : Int) ∧ Below w3.heap.size w3 wx ∧ Hid (∀ j, j < k → t.args[j]? = x.args[j]?)) (fun v _ => t.args.length - (intOf v).toNat)
    case atStart => exact ⟨0, Nat.zero_le _, rfl, Below.refl _ _, Lib.hid (fun j h => by omega)⟩
    case round =>
      obtain ⟨k, hk, rfl, hB3, hK⟩ := hrel
      by_cases hkt : k < t.args.length
      rotate_left
      · have hkl : ¬ (k : Int) < (t.args.length : Int) := by omega
        obtain rfl : k = t.args.length := by omega
        have HP3 := Lib.hid (HP2.out (List.ext_getElem? fun j => by
          by_cases hj : j < t.args.length
          · exact hK.out j hj
          · rw [List.getElem?_eq_none (by omega), List.getElem?_eq_none (by have := HQ.out; omega)]))
        clear HN HP2 hK
        go_wp2_with fail
        go_roundw
        case rel => exact ⟨i + 1, by omega, by go_num, below_tr HB2.out hB3, HP3⟩
        case measure => simp [intOf]; omega
      have hkl : (k : Int) < (t.args.length : Int) := by omega
      have hkl2 : (k : Int) < (x.args.length : Int) := by have := HQ.out; omega
      have z5 := (HL2.out.keep hB3).cell 5 rfl
      obtain ⟨gx, ox, r, hga, m0, hr⟩ := (HTA2.out.keep hB3).int (k := k) hkt
      obtain ⟨gy, oy, s, hgb, n0, hs⟩ := (HXA2.out.keep hB3).int (k := k) (by have := HQ.out; omega)
      rw [hgb] at z5
      rw [hga]
      by_cases hrs : s = r
      · subst hrs
        have HK2 : Hid (∀ j, j < k + 1 → t.args[j]? = x.args[j]?) := Lib.hid (fun j hj => by
          by_cases e : j = k
          · subst e; rw [hr.out, hs.out]
          · exact hK.out j (by omega))
        clear HN HP2 hK hr hs
        go_wp2_with fail
        go_roundw
        case rel => exact ⟨k + 1, by omega, by go_num, hB3, HK2⟩
        case measure => simp [intOf]; omega
      · have e1 : (s != r) = true := by rw [bne_iff_ne]; exact hrs
        have e2 : (s == r) = false := by rw [beq_eq_false_iff_ne]; exact hrs
        have HR : Hid (R = false) := Lib.hid (HN.out (fun e => by
          have h1 := hr.out
          rw [e, hs.out] at h1
          exact hrs (Option.some.inj h1)))
        clear HN HP2 hK hr hs HF HF2
        go_wp2
        go_ret
        exact ⟨ret_bool HR.out.symm, below_tr (below_tr HB.out HB2.out) hB3⟩
end Go.Proofs.YtejdaeonknpgeaaDoor
