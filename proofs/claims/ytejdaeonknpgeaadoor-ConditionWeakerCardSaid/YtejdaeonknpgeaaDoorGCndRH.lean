/- Conditions: which one is weaker: the reference's, walked. -/
import Derived.Test.YtejdaeonknpgeaaDoorGCndRG
namespace Go.Proofs.YtejdaeonknpgeaaDoor
open Go.RowKit
structure Wk2 (w : World) (g2 g3 : Nat) (a : Option Addr) (ac : Nat) (A : List Trm) (b : Option Addr) (bc : Nat) (B : List Trm) : Prop where
  x1 : Bx w g2 29 [.slice a A.length ac]
  x2 : Bx w g3 29 [.slice b B.length bc]
  ca : Cn w a ac A
  cb : Cn w b bc B
  sp : Spc w
theorem Wk2.keep {w w' : World} {g2 g3 : Nat} {a : Option Addr} {ac : Nat} {A : List Trm} {b : Option Addr} {bc : Nat} {B : List Trm} (h : Wk2 w g2 g3 a ac A b bc B) (hb : Below w.heap.size w w') : Wk2 w' g2 g3 a ac A b bc B := ⟨h.x1.keep hb, h.x2.keep hb, h.ca.keep hb, h.cb.keep hb, h.sp.keep hb⟩
theorem kind_at {k : Int} {T : List Trm} {t : Trm} (h : T[0]? = some t) : (t.kind == k) = kindF k T := by
  unfold kindF; rw [h]; dsimp only; rw [Bool.eq_iff_iff]; simp
set_option maxRecDepth 100000 in
set_option maxHeartbeats 8000000 in
theorem rweaker_walk (A B : List Trm) (a b : Option Addr) (ac bc : Nat) (w : World) (hA : Cn w a ac A) (hB : Cn w b bc B) (hS : Spc w) :
    Calls Tryd.prog 11 #[.agg #[.slice a A.length ac], .agg #[.slice b B.length bc]] w fun e w' => e = .returned (.bool (weakF A B)) ∧ Below w.heap.size w w' := by
  rw [weakR_eq]
  have HE : Hid (weakR A B = ((rightC A && rightC B) && (sameSeg A 0 A.length B || ((kindF 2 B && hasF B A) || (kindF 1 A && hasF A B))))) := Lib.hid rfl
  generalize weakR A B = R at *
  have b1 := (Below.refl w.heap.size w).alloc (Nat.le_refl _) (.cells #[.slice a A.length ac] 29)
  have x1 := Bx.new w 29 [.slice a A.length ac]
  change Bx (w.alloc (.cells #[.slice a A.length ac] 29)) _ _ _ at x1
  have b2 := b1.alloc b1.size (.cells #[.slice b B.length bc] 29)
  have x2 := Bx.new (w.alloc (.cells #[.slice a A.length ac] 29)) 29 [.slice b B.length bc]
  change Bx ((w.alloc (.cells #[.slice a A.length ac] 29)).alloc (.cells #[.slice b B.length bc] 29)) _ _ _ at x2
  have x1' := x1.alloc (.cells #[.slice b B.length bc] 29)
  have hz : (w.alloc (.cells #[.slice a A.length ac] 29)).heap.size = w.heap.size + 1 := by simp
  rw [hz] at x2
  have hW : Wk2 ((w.alloc (.cells #[.slice a A.length ac] 29)).alloc (.cells #[.slice b B.length bc] 29)) w.heap.size (w.heap.size + 1) a ac A b bc B := ⟨x1', x2, hA.keep b2, hB.keep b2, hS.keep b2⟩
  clear x1 b1 hz hA hB hS x1' x2
  go_enter Tryd.func11, Tryd.ntmps11
  go_upto_region 1 with (fail)
  generalize (w.alloc (.cells #[.slice a A.length ac] 29)).alloc (.cells #[.slice b B.length bc] 29) = w1 at *
  generalize w.heap.size + 1 = g3 at *
  generalize hg1 : w.heap.size = g2 at *
  have HB := Lib.hid (show Below w.heap.size w w1 by rw [hg1]; exact b2)
  have HW := Lib.hid hW
  have p1 := hW.x1.cell 0 rfl
  clear hg1 b2 hW
  have KA : Hid (∀ V, Wk2 V g2 g3 a ac A b bc B → Calls Tryd.prog 23 #[.agg #[.slice a A.length ac]] V fun e w' => e = .returned (.bool (rightC A)) ∧ Below V.heap.size V w') := Lib.hid (fun V hV => rvalid_walk A a ac V hV.ca.l hV.ca.r hV.sp)
  have KB : Hid (∀ V, Wk2 V g2 g3 a ac A b bc B → Calls Tryd.prog 23 #[.agg #[.slice b B.length bc]] V fun e w' => e = .returned (.bool (rightC B)) ∧ Below V.heap.size V w') := Lib.hid (fun V hV => rvalid_walk B b bc V hV.cb.l hV.cb.r hV.sp)
  have KS : Hid (∀ V, Wk2 V g2 g3 a ac A b bc B → Calls Tryd.prog 24 #[.agg #[.slice a A.length ac], .agg #[.slice b B.length bc]] V fun e w' => e = .returned (.bool (sameSeg A 0 A.length B)) ∧ Below V.heap.size V w') := Lib.hid (fun V hV => rsame16_walk A B a b ac bc V (by have := hV.ca.l; omega) hV.ca.r hV.cb.r)
  have KH1 : Hid (rightC B = true → ∀ V, Wk2 V g2 g3 a ac A b bc B → Calls Tryd.prog 25 #[.agg #[.slice b B.length bc], .agg #[.slice a A.length ac]] V fun e w' => e = .returned (.bool (hasF B A)) ∧ Below V.heap.size V w') := Lib.hid (fun hB V hV => rhas_walk B A b a bc ac V hV.cb hV.ca hB)
  have KH2 : Hid (rightC A = true → ∀ V, Wk2 V g2 g3 a ac A b bc B → Calls Tryd.prog 25 #[.agg #[.slice a A.length ac], .agg #[.slice b B.length bc]] V fun e w' => e = .returned (.bool (hasF A B)) ∧ Below V.heap.size V w') := Lib.hid (fun hA V hV => rhas_walk A B a b ac bc V hV.ca hV.cb hA)
  have HA0 : Hid (rightC A = true → 0 < A.length) := Lib.hid (fun h => (right_all h).2.1)
  have HB0 : Hid (rightC B = true → 0 < B.length) := Lib.hid (fun h => (right_all h).2.1)
  generalize rightC A = vA at *
  generalize rightC B = vB at *
  generalize sameSeg A 0 A.length B = s at *
  generalize hasF B A = h1 at *
  generalize hasF A B = h2 at *
  cases vA with
  | false =>
    have HR : Hid (R = false) := Lib.hid (by rw [HE.out]; rfl)
    clear HE KB KS KH1 KH2 HA0 HB0
    go_wp2_with (go_at_call 23; (with_reducible refine (KA.out _ HW.out).mono ?_); (first | rintro e w2 rfl hb2 | rintro e w2 ⟨rfl, hb2⟩))
    go_ret
    exact ⟨ret_bool HR.out.symm, below_tr HB.out hb2⟩
  | true =>
  cases vB with
  | false =>
    have HR : Hid (R = false) := Lib.hid (by rw [HE.out]; rfl)
    clear HE KS KH1 KH2 HA0 HB0
    go_wp2_with (first
      | (go_at_call 23; (with_reducible refine (KA.out _ HW.out).mono ?_); (first | rintro e w2 rfl hb2 | rintro e w2 ⟨rfl, hb2⟩); have H2 := Lib.hid (HW.out.keep hb2); have HB2 := Lib.hid (below_tr HB.out hb2); have p2 := H2.out.x2.cell 0 rfl; clear hb2 KA)
      | (go_at_call 23; (with_reducible refine (KB.out _ H2.out).mono ?_); (first | rintro e w3 rfl hb3 | rintro e w3 ⟨rfl, hb3⟩)))
    go_ret
    exact ⟨ret_bool HR.out.symm, below_tr HB2.out hb3⟩
  | true =>
  replace HE : Hid (R = (s || ((kindF 2 B && h1) || (kindF 1 A && h2)))) := Lib.hid (by rw [HE.out]; rfl)
  replace KH1 := Lib.hid (KH1.out rfl)
  replace KH2 := Lib.hid (KH2.out rfl)
  replace HA0 := HA0.out rfl
  replace HB0 := HB0.out rfl
  obtain ⟨ga, oa, ta, hga, hta, -, -, -⟩ := HW.out.ca.r.trm (k := 0) HA0
  obtain ⟨gb, ob, tb, hgb, htb, -, -, -⟩ := HW.out.cb.r.trm (k := 0) HB0
  have HKA : Hid (∀ V, Wk2 V g2 g3 a ac A b bc B → V.cell? ⟨ga, oa, none⟩ = some (.int .i64 ta.kind)) := Lib.hid (fun V hV => by
    obtain ⟨g, o, t, e1, e2, ⟨c0, -⟩, -, -⟩ := hV.ca.r.trm (k := 0) HA0
    rw [hga] at e1
    cases e1
    obtain rfl := Option.some.inj (e2.out.symm.trans hta.out)
    rwa [Nat.zero_mul, Nat.add_zero] at c0)
  have HKB : Hid (∀ V, Wk2 V g2 g3 a ac A b bc B → V.cell? ⟨gb, ob, none⟩ = some (.int .i64 tb.kind)) := Lib.hid (fun V hV => by
    obtain ⟨g, o, t, e1, e2, ⟨c0, -⟩, -, -⟩ := hV.cb.r.trm (k := 0) HB0
    rw [hgb] at e1
    cases e1
    obtain rfl := Option.some.inj (e2.out.symm.trans htb.out)
    rwa [Nat.zero_mul, Nat.add_zero] at c0)
  have hka := kind_at (k := 1) hta.out
  have hkb := kind_at (k := 2) htb.out
  have hza : (0 : Int) < (A.length : Int) := by omega
  have hzb : (0 : Int) < (B.length : Int) := by omega
  subst hga hgb
  generalize kindF 2 B = kB at *
  generalize kindF 1 A = kA at *
  clear hta htb
  cases s with
  | true =>
    go_wp2_with (first
        | (go_at_call 23; (with_reducible refine (KA.out _ HW.out).mono ?_); (first | rintro e w2 rfl hb2 | rintro e w2 ⟨rfl, hb2⟩); have H2 := Lib.hid (HW.out.keep hb2); have HB2 := Lib.hid (below_tr HB.out hb2); have p2 := H2.out.x2.cell 0 rfl; clear hb2 KA)
        | (go_at_call 23; (with_reducible refine (KB.out _ H2.out).mono ?_); (first | rintro e w3 rfl hb3 | rintro e w3 ⟨rfl, hb3⟩); have H3 := Lib.hid (H2.out.keep hb3); have HB3 := Lib.hid (below_tr HB2.out hb3); have p3 := H3.out.x2.cell 0 rfl; have q3 := H3.out.x1.cell 0 rfl; clear hb3 KB H2 HB2 p2)
        | (go_at_call 24; (with_reducible refine (KS.out _ H3.out).mono ?_); (first | rintro e w4 rfl hb4 | rintro e w4 ⟨rfl, hb4⟩); have H4 := Lib.hid (H3.out.keep hb4); have HB4 := Lib.hid (below_tr HB3.out hb4); have p4 := H4.out.x2.cell 0 rfl; have q4 := H4.out.x1.cell 0 rfl; have r4 := HKA.out _ H4.out; have s4 := HKB.out _ H4.out; clear hb4 KS H3 p3 q3)
        | (go_at_call 25; (with_reducible refine (KH1.out _ H4.out).mono ?_); (first | rintro e w5 rfl hb5 | rintro e w5 ⟨rfl, hb5⟩); have H5 := Lib.hid (H4.out.keep hb5); have HB5 := Lib.hid (below_tr HB4.out hb5); have p5 := H5.out.x2.cell 0 rfl; have q5 := H5.out.x1.cell 0 rfl; have r5 := HKA.out _ H5.out; clear hb5 KH1)
        | (go_at_call 25; (with_reducible refine (KH2.out _ H4.out).mono ?_); (first | rintro e w6 rfl hb6 | rintro e w6 ⟨rfl, hb6⟩); have HB6 := Lib.hid (below_tr HB4.out hb6); clear hb6 KH2))
    go_ret
    exact ⟨ret_bool (by rw [HE.out]; rfl), HB4.out⟩
  | false =>
  cases kB with
  | true =>
    cases h1 with
    | true =>
      go_wp2_with (first
          | (go_at_call 23; (with_reducible refine (KA.out _ HW.out).mono ?_); (first | rintro e w2 rfl hb2 | rintro e w2 ⟨rfl, hb2⟩); have H2 := Lib.hid (HW.out.keep hb2); have HB2 := Lib.hid (below_tr HB.out hb2); have p2 := H2.out.x2.cell 0 rfl; clear hb2 KA)
          | (go_at_call 23; (with_reducible refine (KB.out _ H2.out).mono ?_); (first | rintro e w3 rfl hb3 | rintro e w3 ⟨rfl, hb3⟩); have H3 := Lib.hid (H2.out.keep hb3); have HB3 := Lib.hid (below_tr HB2.out hb3); have p3 := H3.out.x2.cell 0 rfl; have q3 := H3.out.x1.cell 0 rfl; clear hb3 KB H2 HB2 p2)
          | (go_at_call 24; (with_reducible refine (KS.out _ H3.out).mono ?_); (first | rintro e w4 rfl hb4 | rintro e w4 ⟨rfl, hb4⟩); have H4 := Lib.hid (H3.out.keep hb4); have HB4 := Lib.hid (below_tr HB3.out hb4); have p4 := H4.out.x2.cell 0 rfl; have q4 := H4.out.x1.cell 0 rfl; have r4 := HKA.out _ H4.out; have s4 := HKB.out _ H4.out; clear hb4 KS H3 p3 q3)
          | (go_at_call 25; (with_reducible refine (KH1.out _ H4.out).mono ?_); (first | rintro e w5 rfl hb5 | rintro e w5 ⟨rfl, hb5⟩); have H5 := Lib.hid (H4.out.keep hb5); have HB5 := Lib.hid (below_tr HB4.out hb5); have p5 := H5.out.x2.cell 0 rfl; have q5 := H5.out.x1.cell 0 rfl; have r5 := HKA.out _ H5.out; clear hb5 KH1)
          | (go_at_call 25; (with_reducible refine (KH2.out _ H5.out).mono ?_); (first | rintro e w6 rfl hb6 | rintro e w6 ⟨rfl, hb6⟩); have HB6 := Lib.hid (below_tr HB5.out hb6); clear hb6 KH2))
      go_ret
      exact ⟨ret_bool (by rw [HE.out]; rfl), HB5.out⟩
    | false =>
      cases kA with
      | true =>
        go_wp2_with (first
            | (go_at_call 23; (with_reducible refine (KA.out _ HW.out).mono ?_); (first | rintro e w2 rfl hb2 | rintro e w2 ⟨rfl, hb2⟩); have H2 := Lib.hid (HW.out.keep hb2); have HB2 := Lib.hid (below_tr HB.out hb2); have p2 := H2.out.x2.cell 0 rfl; clear hb2 KA)
            | (go_at_call 23; (with_reducible refine (KB.out _ H2.out).mono ?_); (first | rintro e w3 rfl hb3 | rintro e w3 ⟨rfl, hb3⟩); have H3 := Lib.hid (H2.out.keep hb3); have HB3 := Lib.hid (below_tr HB2.out hb3); have p3 := H3.out.x2.cell 0 rfl; have q3 := H3.out.x1.cell 0 rfl; clear hb3 KB H2 HB2 p2)
            | (go_at_call 24; (with_reducible refine (KS.out _ H3.out).mono ?_); (first | rintro e w4 rfl hb4 | rintro e w4 ⟨rfl, hb4⟩); have H4 := Lib.hid (H3.out.keep hb4); have HB4 := Lib.hid (below_tr HB3.out hb4); have p4 := H4.out.x2.cell 0 rfl; have q4 := H4.out.x1.cell 0 rfl; have r4 := HKA.out _ H4.out; have s4 := HKB.out _ H4.out; clear hb4 KS H3 p3 q3)
            | (go_at_call 25; (with_reducible refine (KH1.out _ H4.out).mono ?_); (first | rintro e w5 rfl hb5 | rintro e w5 ⟨rfl, hb5⟩); have H5 := Lib.hid (H4.out.keep hb5); have HB5 := Lib.hid (below_tr HB4.out hb5); have p5 := H5.out.x2.cell 0 rfl; have q5 := H5.out.x1.cell 0 rfl; have r5 := HKA.out _ H5.out; clear hb5 KH1)
            | (go_at_call 25; (with_reducible refine (KH2.out _ H5.out).mono ?_); (first | rintro e w6 rfl hb6 | rintro e w6 ⟨rfl, hb6⟩); have HB6 := Lib.hid (below_tr HB5.out hb6); clear hb6 KH2))
        go_ret
        exact ⟨ret_bool (by rw [HE.out]; rfl), HB6.out⟩
      | false =>
        go_wp2_with (first
            | (go_at_call 23; (with_reducible refine (KA.out _ HW.out).mono ?_); (first | rintro e w2 rfl hb2 | rintro e w2 ⟨rfl, hb2⟩); have H2 := Lib.hid (HW.out.keep hb2); have HB2 := Lib.hid (below_tr HB.out hb2); have p2 := H2.out.x2.cell 0 rfl; clear hb2 KA)
            | (go_at_call 23; (with_reducible refine (KB.out _ H2.out).mono ?_); (first | rintro e w3 rfl hb3 | rintro e w3 ⟨rfl, hb3⟩); have H3 := Lib.hid (H2.out.keep hb3); have HB3 := Lib.hid (below_tr HB2.out hb3); have p3 := H3.out.x2.cell 0 rfl; have q3 := H3.out.x1.cell 0 rfl; clear hb3 KB H2 HB2 p2)
            | (go_at_call 24; (with_reducible refine (KS.out _ H3.out).mono ?_); (first | rintro e w4 rfl hb4 | rintro e w4 ⟨rfl, hb4⟩); have H4 := Lib.hid (H3.out.keep hb4); have HB4 := Lib.hid (below_tr HB3.out hb4); have p4 := H4.out.x2.cell 0 rfl; have q4 := H4.out.x1.cell 0 rfl; have r4 := HKA.out _ H4.out; have s4 := HKB.out _ H4.out; clear hb4 KS H3 p3 q3)
            | (go_at_call 25; (with_reducible refine (KH1.out _ H4.out).mono ?_); (first | rintro e w5 rfl hb5 | rintro e w5 ⟨rfl, hb5⟩); have H5 := Lib.hid (H4.out.keep hb5); have HB5 := Lib.hid (below_tr HB4.out hb5); have p5 := H5.out.x2.cell 0 rfl; have q5 := H5.out.x1.cell 0 rfl; have r5 := HKA.out _ H5.out; clear hb5 KH1)
            | (go_at_call 25; (with_reducible refine (KH2.out _ H5.out).mono ?_); (first | rintro e w6 rfl hb6 | rintro e w6 ⟨rfl, hb6⟩); have HB6 := Lib.hid (below_tr HB5.out hb6); clear hb6 KH2))
        go_ret
        exact ⟨ret_bool (by rw [HE.out]; rfl), HB5.out⟩
  | false =>
    cases kA with
    | true =>
      go_wp2_with (first
          | (go_at_call 23; (with_reducible refine (KA.out _ HW.out).mono ?_); (first | rintro e w2 rfl hb2 | rintro e w2 ⟨rfl, hb2⟩); have H2 := Lib.hid (HW.out.keep hb2); have HB2 := Lib.hid (below_tr HB.out hb2); have p2 := H2.out.x2.cell 0 rfl; clear hb2 KA)
          | (go_at_call 23; (with_reducible refine (KB.out _ H2.out).mono ?_); (first | rintro e w3 rfl hb3 | rintro e w3 ⟨rfl, hb3⟩); have H3 := Lib.hid (H2.out.keep hb3); have HB3 := Lib.hid (below_tr HB2.out hb3); have p3 := H3.out.x2.cell 0 rfl; have q3 := H3.out.x1.cell 0 rfl; clear hb3 KB H2 HB2 p2)
          | (go_at_call 24; (with_reducible refine (KS.out _ H3.out).mono ?_); (first | rintro e w4 rfl hb4 | rintro e w4 ⟨rfl, hb4⟩); have H4 := Lib.hid (H3.out.keep hb4); have HB4 := Lib.hid (below_tr HB3.out hb4); have p4 := H4.out.x2.cell 0 rfl; have q4 := H4.out.x1.cell 0 rfl; have r4 := HKA.out _ H4.out; have s4 := HKB.out _ H4.out; clear hb4 KS H3 p3 q3)
          | (go_at_call 25; (with_reducible refine (KH1.out _ H4.out).mono ?_); (first | rintro e w5 rfl hb5 | rintro e w5 ⟨rfl, hb5⟩); have H5 := Lib.hid (H4.out.keep hb5); have HB5 := Lib.hid (below_tr HB4.out hb5); have p5 := H5.out.x2.cell 0 rfl; have q5 := H5.out.x1.cell 0 rfl; have r5 := HKA.out _ H5.out; clear hb5 KH1)
          | (go_at_call 25; (with_reducible refine (KH2.out _ H4.out).mono ?_); (first | rintro e w6 rfl hb6 | rintro e w6 ⟨rfl, hb6⟩); have HB6 := Lib.hid (below_tr HB4.out hb6); clear hb6 KH2))
      go_ret
      exact ⟨ret_bool (by rw [HE.out]; rfl), HB6.out⟩
    | false =>
      go_wp2_with (first
          | (go_at_call 23; (with_reducible refine (KA.out _ HW.out).mono ?_); (first | rintro e w2 rfl hb2 | rintro e w2 ⟨rfl, hb2⟩); have H2 := Lib.hid (HW.out.keep hb2); have HB2 := Lib.hid (below_tr HB.out hb2); have p2 := H2.out.x2.cell 0 rfl; clear hb2 KA)
          | (go_at_call 23; (with_reducible refine (KB.out _ H2.out).mono ?_); (first | rintro e w3 rfl hb3 | rintro e w3 ⟨rfl, hb3⟩); have H3 := Lib.hid (H2.out.keep hb3); have HB3 := Lib.hid (below_tr HB2.out hb3); have p3 := H3.out.x2.cell 0 rfl; have q3 := H3.out.x1.cell 0 rfl; clear hb3 KB H2 HB2 p2)
          | (go_at_call 24; (with_reducible refine (KS.out _ H3.out).mono ?_); (first | rintro e w4 rfl hb4 | rintro e w4 ⟨rfl, hb4⟩); have H4 := Lib.hid (H3.out.keep hb4); have HB4 := Lib.hid (below_tr HB3.out hb4); have p4 := H4.out.x2.cell 0 rfl; have q4 := H4.out.x1.cell 0 rfl; have r4 := HKA.out _ H4.out; have s4 := HKB.out _ H4.out; clear hb4 KS H3 p3 q3)
          | (go_at_call 25; (with_reducible refine (KH1.out _ H4.out).mono ?_); (first | rintro e w5 rfl hb5 | rintro e w5 ⟨rfl, hb5⟩); have H5 := Lib.hid (H4.out.keep hb5); have HB5 := Lib.hid (below_tr HB4.out hb5); have p5 := H5.out.x2.cell 0 rfl; have q5 := H5.out.x1.cell 0 rfl; have r5 := HKA.out _ H5.out; clear hb5 KH1)
          | (go_at_call 25; (with_reducible refine (KH2.out _ H4.out).mono ?_); (first | rintro e w6 rfl hb6 | rintro e w6 ⟨rfl, hb6⟩); have HB6 := Lib.hid (below_tr HB4.out hb6); clear hb6 KH2))
      go_ret
      exact ⟨ret_bool (by rw [HE.out]; rfl), HB4.out⟩
end Go.Proofs.YtejdaeonknpgeaaDoor
