/- Conditions: how terms and members lie in memory; whether a term is right by itself: the program's. -/
import Derived.Test.YtpofijdkckaphaaGreatDoorGSlStr
import Derived.Test.YtpofijdkckaphaaGreatDoorGRowsC
import Derived.Test.YtpofijdkckaphaaGreatDoorGCndP
import Derived.Test.YtpofijdkckaphaaGreatDoorShelf
namespace Go.Proofs.YtpofijdkckaphaaGreatDoor
open Go.RowKit
/-- a term's cells -/
def trC (t : Trm) : List Value := [.int .i64 t.kind, .int .i64 t.number, .int .i64 t.years, .string ⟨t.field.toArray⟩, .string ⟨t.text.toArray⟩, .slice t.aa t.args.length t.ac]
theorem trC_len (t : Trm) : (trC t).length = 6 := rfl
/-- a term as a value -/
def trV (t : Trm) : Value := .agg (trC t).toArray
/-- what a term's strings and Args may be -/
def Trm.In (t : Trm) : Prop := (I64 t.kind ∧ I64 t.number ∧ I64 t.years) ∧ t.field.length ≤ 140737488351232 ∧ t.text.length ≤ 140737488351232 ∧ (∀ a ∈ t.args, I64 a) ∧ t.args.length ≤ t.ac ∧ t.args.length ≤ 281474976710656
/-- the terms of a condition are read at a -/
structure RdT (w : World) (a : Option Addr) (T : List Trm) : Prop where
  rows : Rd w a (rowsC trC T)
  args : ∀ t ∈ T, Rd w t.aa (ints t.args)
  ok : ∀ t ∈ T, t.In
theorem RdT.keep {w w' : World} {a : Option Addr} {T : List Trm} (h : RdT w a T) (hb : Below w.heap.size w w') : RdT w' a T :=
  ⟨h.rows.keep hb, fun t ht => (h.args t ht).keep hb, h.ok⟩
theorem RdT.trm {w : World} {a : Option Addr} {T : List Trm} (h : RdT w a T) {k : Nat} (hk : k < T.length) :
    ∃ g off t, a = some ⟨g, off, none⟩ ∧ Hid (T[k]? = some t) ∧ (w.cell? ⟨g, off + k * 6, none⟩ = some (.int .i64 t.kind) ∧ w.cell? ⟨g, off + k * 6 + 1, none⟩ = some (.int .i64 t.number) ∧ w.cell? ⟨g, off + k * 6 + 2, none⟩ = some (.int .i64 t.years) ∧ w.cell? ⟨g, off + k * 6 + 3, none⟩ = some (.string ⟨t.field.toArray⟩) ∧ w.cell? ⟨g, off + k * 6 + 4, none⟩ = some (.string ⟨t.text.toArray⟩) ∧ w.cell? ⟨g, off + k * 6 + 5, none⟩ = some (.slice t.aa t.args.length t.ac)) ∧ Rd w t.aa (ints t.args) ∧ t.In := by
  obtain ⟨g, off, t, ha, ht, hc⟩ := h.rows.rows (f := trC) (k := 6) trC_len (by decide) hk
  have d0 := hc 0 _ rfl
  rw [Nat.add_zero] at d0
  have hm := mem_at ht
  exact ⟨g, off, t, ha, ht, ⟨d0, hc 1 _ rfl, hc 2 _ rfl, hc 3 _ rfl, hc 4 _ rfl, hc 5 _ rfl⟩, h.args t hm, h.ok t hm⟩
set_option maxRecDepth 100000 in
theorem between_walk (n top : Int) (w : World) :
    Calls Tryz.prog 144 #[.int .i64 n, .int .i64 top] w fun e w' => e = .returned (.bool (decide (1 ≤ n ∧ n ≤ top))) ∧ w = w' := by
  go_enter Tryz.func144, Tryz.ntmps144
  by_cases h1 : 1 ≤ n
  · have d1 : decide (n ≥ 1) = true := decide_eq_true h1
    by_cases h2 : n ≤ top
    · have d2 : decide (n ≤ top) = true := decide_eq_true h2
      go_wp2
      go_ret
      exact ⟨ret_bool (by rw [decide_eq_true ⟨h1, h2⟩]), rfl⟩
    · have d2 : decide (n ≤ top) = false := decide_eq_false h2
      go_wp2
      go_ret
      exact ⟨rfl, rfl⟩
  · have d1 : decide (n ≥ 1) = false := decide_eq_false h1
    go_wp2
    go_ret
    exact ⟨rfl, rfl⟩
set_option maxRecDepth 100000 in
theorem several_walk (k : Int) (w : World) :
    Calls Tryz.prog 138 #[.int .i64 k] w fun e w' => e = .returned (.bool (sevB k)) ∧ w = w' := by
  have HE : Hid (sevB k = decide (k = 1 ∨ k = 2)) := Lib.hid rfl
  go_enter Tryz.func138, Tryz.ntmps138
  by_cases h1 : k = 1
  · subst h1
    go_wp2
    go_ret
    exact ⟨ret_bool (by rw [HE.out]; rfl), rfl⟩
  · have b1 : (k == 1) = false := by rw [beq_eq_false_iff_ne]; exact h1
    by_cases h2 : k = 2
    · subst h2
      go_wp2
      go_ret
      exact ⟨ret_bool (by rw [HE.out]; rfl), rfl⟩
    · have b2 : (k == 2) = false := by rw [beq_eq_false_iff_ne]; exact h2
      go_wp2
      go_ret
      exact ⟨ret_bool (by rw [HE.out, decide_eq_false (fun h => h.elim h1 h2)]), rfl⟩
/-- the two boxes that a look at a term makes -/
structure Bare (w : World) (g1 g2 : Nat) (k n y : Int) (f x : List UInt8) (a : Value) : Prop where
  t : Bx w g1 50 [.int .i64 k, .int .i64 n, .int .i64 y, .string ⟨f.toArray⟩, .string ⟨x.toArray⟩, a]
  x : Bx w g2 50 [.int .i64 k, .int .i64 n, .int .i64 y, .string ⟨f.toArray⟩, .string ⟨x.toArray⟩, .slice none 0 0]
theorem Bare.keep {w w' : World} {g1 g2 : Nat} {k n y : Int} {f x : List UInt8} {a : Value} (h : Bare w g1 g2 k n y f x a) (hb : Below w.heap.size w w') : Bare w' g1 g2 k n y f x a := ⟨h.t.keep hb, h.x.keep hb⟩
set_option maxRecDepth 100000 in
set_option maxHeartbeats 1000000 in
theorem bare1_walk (g1 g2 : Nat) (k n y : Int) (f x : List UInt8) (a : Value) (k0 n0 y0 : Int) (w : World) (hw : Bare w g1 g2 k n y f x a) :
    Calls Tryz.prog 143 #[.agg #[.int .i64 k0, .int .i64 n0, .int .i64 y0, .string ⟨#[]⟩, .string ⟨#[]⟩, .slice none 0 0], .pointer (some ⟨g1, 0, none⟩), .pointer (some ⟨g2, 0, none⟩)] w fun e w' => e = .returned (.bool ((n == n0 && y == y0) && (f.isEmpty && x.isEmpty))) ∧ Below w.heap.size w w' := by
  have hb0 := (Below.refl w.heap.size w).alloc (Nat.le_refl _) (.cells #[.int .i64 k0, .int .i64 n0, .int .i64 y0, .string ⟨#[]⟩, .string ⟨#[]⟩, .slice none 0 0] 50)
  have hW := Bx.new w 50 [.int .i64 k0, .int .i64 n0, .int .i64 y0, .string ⟨#[]⟩, .string ⟨#[]⟩, .slice none 0 0]
  have l1 := hw.t.lt
  have l2 := hw.x.lt
  replace hw := hw.keep hb0
  change Bx (w.alloc (.cells #[.int .i64 k0, .int .i64 n0, .int .i64 y0, .string ⟨#[]⟩, .string ⟨#[]⟩, .slice none 0 0] 50)) _ _ _ at hW
  go_enter Tryz.func143, Tryz.ntmps143
  go_upto_region 1 with (fail)
  generalize w.alloc (.cells #[.int .i64 k0, .int .i64 n0, .int .i64 y0, .string ⟨#[]⟩, .string ⟨#[]⟩, .slice none 0 0] 50) = w1 at *
  obtain ⟨g3, hg3⟩ : ∃ g, g = w.heap.size := ⟨_, rfl⟩
  rw [← hg3] at hW l1 l2 ⊢
  have hb1 := hb0.setCell (p := ⟨g3, 0, none⟩) (by rw [hg3]; exact Nat.le_refl _) (.int .i64 k)
  have hW1 := hW.set 0 (.int .i64 k)
  have hw1 : Bare (w1.setCell ⟨g3, 0, none⟩ (.int .i64 k)) g1 g2 k n y f x a := ⟨hw.t.other (by omega) 0 _, hw.x.other (by omega) 0 _⟩
  change Bx _ _ _ [.int .i64 k, .int .i64 n0, .int .i64 y0, .string ⟨#[]⟩, .string ⟨#[]⟩, .slice none 0 0] at hW1
  have c0 := hw.t.cell 0 rfl
  have e0 := hW.cell 0 rfl
  have e1 := hW.free 0
  clear hW hw hb0 hg3
  go_upto_region 2 with (fail)
  clear c0 e0 e1
  generalize w1.setCell ⟨g3, 0, none⟩ (.int .i64 k) = w2 at *
  have c1 := hw1.x.cell 1 rfl
  have c2 := hw1.x.cell 2 rfl
  have c3 := hw1.x.cell 3 rfl
  have c4 := hw1.x.cell 4 rfl
  have d1 := hW1.cell 1 rfl
  have d2 := hW1.cell 2 rfl
  have d3 := hW1.cell 3 rfl
  have d4 := hW1.cell 4 rfl
  have HB := Lib.hid hb1
  clear hw1 hW1 hb1 l1 l2
  cases hn : (n == n0) with
  | false =>
    go_wp2
    go_ret
    exact ⟨ret_bool (by simp [hn]), HB.out⟩
  | true =>
  cases hy : (y == y0) with
  | false =>
    go_wp2
    go_ret
    exact ⟨ret_bool (by simp [hy]), HB.out⟩
  | true =>
  cases f with
  | cons c f =>
    have hf : (c :: f == ([] : List UInt8)) = false := rfl
    go_wp2
    go_ret
    exact ⟨ret_bool (by simp), HB.out⟩
  | nil =>
  cases x with
  | cons c f =>
    have hf : (c :: f == ([] : List UInt8)) = false := rfl
    go_wp2
    go_ret
    exact ⟨ret_bool (by simp), HB.out⟩
  | nil =>
    go_wp2
    go_ret
    exact ⟨ret_bool (by simp [hn, hy]), HB.out⟩
theorem has_byte (l : List UInt8) (c : UInt8) : decide (0 ≤ Lib.indexByte l c) = decide (c ∈ l) := by
  have h1 := Lib.indexByte_ge l c
  by_cases h : 0 ≤ Lib.indexByte l c
  · obtain ⟨o, ho⟩ : ∃ o : Nat, Lib.indexByte l c = (o : Int) := ⟨(Lib.indexByte l c).toNat, by omega⟩
    rw [decide_eq_true h, decide_eq_true (List.mem_of_getElem? (Lib.indexByte_some ho).1)]
  · rw [decide_eq_false h, decide_eq_false]
    intro hm
    obtain ⟨j, hj, e⟩ := List.getElem_of_mem hm
    exact Lib.indexByte_none (show Lib.indexByte l c = -1 by omega) j (by rw [List.getElem?_eq_getElem hj, e])
set_option maxRecDepth 100000 in
set_option maxHeartbeats 2000000 in
theorem bare_walk (t : Trm) (w : World) (hf : t.field.length ≤ 281474976710656) (hx : t.text.length ≤ 281474976710656) :
    Calls Tryz.prog 137 #[.agg #[.int .i64 t.kind, .int .i64 t.number, .int .i64 t.years, .string ⟨t.field.toArray⟩, .string ⟨t.text.toArray⟩, .slice t.aa t.args.length t.ac]] w fun e w' => e = .returned (.bool (bareF t)) ∧ Below w.heap.size w w' := by
  obtain ⟨k, n, y, f, x, ar, aa, ac⟩ := t
  dsimp only at hf hx ⊢
  have he : bareF ⟨k, n, y, f, x, ar, aa, ac⟩ = if k = 1 ∨ k = 2 ∨ k = 6 ∨ k = 8 then (n == 0 && y == 0) && (f.isEmpty && x.isEmpty)
    else if k = 3 ∨ k = 4 then (countB n && y == 0) && (f.isEmpty && x.isEmpty)
    else if k = 5 then (countB n && decide (0 ≤ y ∧ y ≤ 100)) && (f.isEmpty && x.isEmpty)
    else if k = 7 then (countB n && nameF f) && (decide (1 ≤ x.length ∧ x.length ≤ 256) && (!(decide ((34 : UInt8) ∈ x)) && y == 0))
    else false := rfl
  generalize bareF ⟨k, n, y, f, x, ar, aa, ac⟩ = R at *
  have HE := Lib.hid he
  clear he
  obtain ⟨g1, hg1⟩ : ∃ g, g = w.heap.size := ⟨_, rfl⟩
  have HG := Lib.hid hg1
  have hbw : w.heap.size = g1 := hg1.symm
  have hb0 := (Below.refl w.heap.size w).alloc (Nat.le_refl _) (.cells #[.int .i64 k, .int .i64 n, .int .i64 y, .string ⟨f.toArray⟩, .string ⟨x.toArray⟩, .slice aa ar.length ac] 50)
  have h1 := Bx.new w 50 [.int .i64 k, .int .i64 n, .int .i64 y, .string ⟨f.toArray⟩, .string ⟨x.toArray⟩, .slice aa ar.length ac]
  change Bx (w.alloc (.cells #[.int .i64 k, .int .i64 n, .int .i64 y, .string ⟨f.toArray⟩, .string ⟨x.toArray⟩, .slice aa ar.length ac] 50)) _ _ _ at h1
  have z1 : (w.alloc (.cells #[.int .i64 k, .int .i64 n, .int .i64 y, .string ⟨f.toArray⟩, .string ⟨x.toArray⟩, .slice aa ar.length ac] 50)).heap.size = g1 + 1 := by rw [hg1]; simp
  rw [← hg1] at h1 hb0
  clear hg1
  go_enter Tryz.func137, Tryz.ntmps137
  go_upto_region 1 with (fail)
  generalize w.alloc (.cells #[.int .i64 k, .int .i64 n, .int .i64 y, .string ⟨f.toArray⟩, .string ⟨x.toArray⟩, .slice aa ar.length ac] 50) = w1 at *
  have c0 := h1.cell 0 rfl
  have c1 := h1.cell 1 rfl
  have c2 := h1.cell 2 rfl
  have c3 := h1.cell 3 rfl
  have c4 := h1.cell 4 rfl
  have c5 := h1.cell 5 rfl
  have h2 := Bx.new w1 50 [.int .i64 k, .int .i64 n, .int .i64 y, .string ⟨f.toArray⟩, .string ⟨x.toArray⟩, .slice aa ar.length ac]
  change Bx (w1.alloc (.cells #[.int .i64 k, .int .i64 n, .int .i64 y, .string ⟨f.toArray⟩, .string ⟨x.toArray⟩, .slice aa ar.length ac] 50)) _ _ _ at h2
  rw [z1] at h2
  have hb1 := hb0.alloc (by rw [z1]; omega) (.cells #[.int .i64 k, .int .i64 n, .int .i64 y, .string ⟨f.toArray⟩, .string ⟨x.toArray⟩, .slice aa ar.length ac] 50)
  have h3 := h1.alloc (.cells #[.int .i64 k, .int .i64 n, .int .i64 y, .string ⟨f.toArray⟩, .string ⟨x.toArray⟩, .slice aa ar.length ac] 50)
  go_upto_region 2 with (fail)
  clear c0 c1 c2 c3 c4 c5 h1 hb0
  generalize w1.alloc (.cells #[.int .i64 k, .int .i64 n, .int .i64 y, .string ⟨f.toArray⟩, .string ⟨x.toArray⟩, .slice aa ar.length ac] 50) = w2 at *
  obtain ⟨g2, hg2⟩ : ∃ g, g = g1 + 1 := ⟨_, rfl⟩
  rw [← hg2] at h2 ⊢
  have l1 : g1 < g2 := by omega
  clear hg2 z1 hbw
  have c5 := h2.cell 5 rfl
  have f5 := h2.free 5
  replace hb1 := hb1.setCell (p := ⟨g2, 5, none⟩) (by show g1 ≤ g2; omega) (.slice none 0 0)
  have hBr : Bare (w2.setCell ⟨g2, 5, none⟩ (.slice none 0 0)) g1 g2 k n y f x (.slice aa ar.length ac) := ⟨h3.other (by omega) 5 _, h2.set 5 _⟩
  go_upto_region 3 with (fail)
  generalize w2.setCell ⟨g2, 5, none⟩ (.slice none 0 0) = w3 at *
  rw [HG.out] at hb1
  have HB := Lib.hid hb1
  have KS := Lib.hid (fun n0 y0 (V : World) (hV : Bare V g1 g2 k n y f x (.slice aa ar.length ac)) => bare1_walk g1 g2 k n y f x _ 0 n0 y0 V hV)
  have KB : Hid (∀ V, Calls Tryz.prog 144 #[.int .i64 n, .int .i64 64] V fun e w' => e = .returned (.bool (countB n)) ∧ V = w') := Lib.hid (fun V => between_walk n 64 V)
  clear h2 h3 c5 f5 hb1 l1 HG
  have t0 := hBr.t.cell 0 rfl
  have t1 := hBr.t.cell 1 rfl
  have t2 := hBr.t.cell 2 rfl
  have t3 := hBr.t.cell 3 rfl
  have t4 := hBr.t.cell 4 rfl
  generalize hcb : countB n = cb at *
  go_upto_region 4 with (fail)
  have hB5 : ∀ V, Below w3.heap.size w3 V → Below w.heap.size w V := fun V hV => below_tr HB.out hV
  have HB5 := Lib.hid hB5
  clear hB5
  by_cases k1 : k = 1 ∨ k = 2 ∨ k = 6 ∨ k = 8
  · have hR : R = ((n == 0 && y == 0) && (f.isEmpty && x.isEmpty)) := by rw [HE.out, if_pos k1]
    have HR := Lib.hid hR
    clear hR HE
    rcases k1 with rfl | rfl | rfl | rfl
    all_goals
      go_wp2_with (first | (go_at_call 144; (with_reducible refine (KB.out _).mono ?_); (try rintro e w4 ⟨rfl, rfl⟩)) | ((with_reducible refine (KS.out 0 0 _ hBr).mono ?_); (first | rintro e w5 rfl hb5 | rintro e w5 ⟨rfl, hb5⟩)))
      go_ret
      exact ⟨ret_bool HR.out.symm, HB5.out _ hb5⟩
  by_cases k2 : k = 3 ∨ k = 4
  · have hR : R = ((cb && y == 0) && (f.isEmpty && x.isEmpty)) := by rw [HE.out, if_neg k1, if_pos k2]
    have HR := Lib.hid hR
    clear hR HE k1
    cases cb with
    | false =>
      rcases k2 with rfl | rfl
      all_goals
        go_wp2_with (first | (go_at_call 144; (with_reducible refine (KB.out _).mono ?_); (try rintro e w4 ⟨rfl, rfl⟩)))
        go_ret
        exact ⟨ret_bool HR.out.symm, HB.out⟩
    | true =>
      rcases k2 with rfl | rfl
      all_goals
        go_wp2_with (first | (go_at_call 144; (with_reducible refine (KB.out _).mono ?_); (try rintro e w4 ⟨rfl, rfl⟩)) | ((with_reducible refine (KS.out n 0 _ hBr).mono ?_); (first | rintro e w5 rfl hb5 | rintro e w5 ⟨rfl, hb5⟩)))
        go_ret
        exact ⟨ret_bool (by rw [HR.out]; simp), HB5.out _ hb5⟩
  by_cases k3 : k = 5
  · have hR : R = ((cb && decide (0 ≤ y ∧ y ≤ 100)) && (f.isEmpty && x.isEmpty)) := by rw [HE.out, if_neg k1, if_neg k2, if_pos k3]
    have HR := Lib.hid hR
    clear hR HE k1 k2
    subst k3
    cases cb with
    | false =>
      go_wp2_with (first | (go_at_call 144; (with_reducible refine (KB.out _).mono ?_); (try rintro e w4 ⟨rfl, rfl⟩)))
      go_ret
      exact ⟨ret_bool HR.out.symm, HB.out⟩
    | true =>
      by_cases h0 : 0 ≤ y
      · have d0 : decide (y ≥ 0) = true := decide_eq_true h0
        by_cases h1 : y ≤ 100
        · have d1 : decide (y ≤ 100) = true := decide_eq_true h1
          go_wp2_with (first | (go_at_call 144; (with_reducible refine (KB.out _).mono ?_); (try rintro e w4 ⟨rfl, rfl⟩)) | ((with_reducible refine (KS.out n y _ hBr).mono ?_); (first | rintro e w5 rfl hb5 | rintro e w5 ⟨rfl, hb5⟩)))
          go_ret
          exact ⟨ret_bool (by rw [HR.out, decide_eq_true (show 0 ≤ y ∧ y ≤ 100 from ⟨h0, h1⟩)]; simp), HB5.out _ hb5⟩
        · have d1 : decide (y ≤ 100) = false := decide_eq_false h1
          have hR2 : R = false := by rw [HR.out, decide_eq_false (show ¬ (0 ≤ y ∧ y ≤ 100) from fun h => h1 h.2)]; simp
          have HR2 := Lib.hid hR2
          clear hR2 HR
          go_wp2_with (first | (go_at_call 144; (with_reducible refine (KB.out _).mono ?_); (try rintro e w4 ⟨rfl, rfl⟩)))
          go_ret
          exact ⟨ret_bool HR2.out.symm, HB.out⟩
      · have d0 : decide (y ≥ 0) = false := decide_eq_false h0
        have hR2 : R = false := by rw [HR.out, decide_eq_false (show ¬ (0 ≤ y ∧ y ≤ 100) from fun h => h0 h.1)]; simp
        have HR2 := Lib.hid hR2
        clear hR2 HR
        go_wp2_with (first | (go_at_call 144; (with_reducible refine (KB.out _).mono ?_); (try rintro e w4 ⟨rfl, rfl⟩)))
        go_ret
        exact ⟨ret_bool HR2.out.symm, HB.out⟩
  have b1 : (k == 1) = false := by rw [beq_eq_false_iff_ne]; omega
  have b2 : (k == 2) = false := by rw [beq_eq_false_iff_ne]; omega
  have b3 : (k == 3) = false := by rw [beq_eq_false_iff_ne]; omega
  have b4 : (k == 4) = false := by rw [beq_eq_false_iff_ne]; omega
  have b5 : (k == 5) = false := by rw [beq_eq_false_iff_ne]; omega
  have b6 : (k == 6) = false := by rw [beq_eq_false_iff_ne]; omega
  have b8 : (k == 8) = false := by rw [beq_eq_false_iff_ne]; omega
  by_cases k4 : k = 7
  rotate_left
  · have b7 : (k == 7) = false := by rw [beq_eq_false_iff_ne]; exact k4
    have hR : R = false := by rw [HE.out, if_neg k1, if_neg k2, if_neg k3, if_neg k4]
    have HR := Lib.hid hR
    clear hR HE k1 k2 k3 k4
    go_wp2_with (first | (go_at_call 144; (with_reducible refine (KB.out _).mono ?_); (try rintro e w4 ⟨rfl, rfl⟩)))
    go_ret
    exact ⟨ret_bool HR.out.symm, HB.out⟩
  have hR : R = ((cb && nameF f) && (decide (1 ≤ x.length ∧ x.length ≤ 256) && (!(decide ((34 : UInt8) ∈ x)) && y == 0))) := by rw [HE.out, if_neg k1, if_neg k2, if_neg k3, if_pos k4]
  have HR := Lib.hid hR
  clear hR HE k1 k2 k3 b1 b2 b3 b4 b5 b6 b8
  subst k4
  have KN := Lib.hid (fun V => name_walk f V hf)
  have KB2 := Lib.hid (fun V => (show Calls Tryz.prog 144 #[.int .i64 (x.length : Int), .int .i64 256] V fun e w' => e = .returned (.bool (decide (1 ≤ x.length ∧ x.length ≤ 256))) ∧ V = w' by
    have := between_walk (x.length : Int) 256 V
    rwa [show decide (1 ≤ (x.length : Int) ∧ (x.length : Int) ≤ 256) = decide (1 ≤ x.length ∧ x.length ≤ 256) by rw [decide_eq_decide]; omega] at this))
  have KC := Lib.hid (fun V => (show Calls Tryz.prog 146 #[.string ⟨x.toArray⟩, .int .i32 34] V fun e w' => e = .returned (.bool (decide ((34 : UInt8) ∈ x))) ∧ w' = V by
    have := Tryz.strings_ContainsRune_ascii ⟨x.toArray⟩ 34 V (by decide) (by decide)
    rw [show decide (0 ≤ Lib.indexByte (ByteArray.mk x.toArray).data.toList (34 : Int).toNat.toUInt8) = decide ((34 : UInt8) ∈ x) from has_byte x 34] at this
    exact this))
  generalize nameF f = b1 at *
  generalize decide (1 ≤ x.length ∧ x.length ≤ 256) = b2 at *
  generalize decide ((34 : UInt8) ∈ x) = b3 at *
  clear KS
  cases cb with
  | false =>
    go_wp2_with (first | (go_at_call 144; (with_reducible refine (KB.out _).mono ?_); (try rintro e w4 ⟨rfl, rfl⟩)))
    go_ret
    exact ⟨ret_bool HR.out.symm, HB.out⟩
  | true =>
  cases b1 with
  | false =>
    go_wp2_with (first | (go_at_call 144; (first | (with_reducible refine (KB.out _).mono ?_) | (with_reducible refine (KB2.out _).mono ?_)); (try rintro e w4 ⟨rfl, rfl⟩)) | (go_at_call 145; (with_reducible refine (KN.out _).mono ?_); (first | rintro e w5 rfl hb5 | rintro e w5 ⟨rfl, hb5⟩); have hB := HB5.out _ hb5; have q4 := (hBr.t.keep hb5).cell 4 rfl; have q2 := (hBr.t.keep hb5).cell 2 rfl) | (go_at_call 146; (with_reducible refine (KC.out _).mono ?_); (try rintro e w7 ⟨rfl, rfl⟩)))
    go_ret
    exact ⟨ret_bool HR.out.symm, hB⟩
  | true =>
  cases b2 with
  | false =>
    go_wp2_with (first | (go_at_call 144; (first | (with_reducible refine (KB.out _).mono ?_) | (with_reducible refine (KB2.out _).mono ?_)); (try rintro e w4 ⟨rfl, rfl⟩)) | (go_at_call 145; (with_reducible refine (KN.out _).mono ?_); (first | rintro e w5 rfl hb5 | rintro e w5 ⟨rfl, hb5⟩); have hB := HB5.out _ hb5; have q4 := (hBr.t.keep hb5).cell 4 rfl; have q2 := (hBr.t.keep hb5).cell 2 rfl) | (go_at_call 146; (with_reducible refine (KC.out _).mono ?_); (try rintro e w7 ⟨rfl, rfl⟩)))
    go_ret
    exact ⟨ret_bool HR.out.symm, hB⟩
  | true =>
  cases b3 with
  | true =>
    go_wp2_with (first | (go_at_call 144; (first | (with_reducible refine (KB.out _).mono ?_) | (with_reducible refine (KB2.out _).mono ?_)); (try rintro e w4 ⟨rfl, rfl⟩)) | (go_at_call 145; (with_reducible refine (KN.out _).mono ?_); (first | rintro e w5 rfl hb5 | rintro e w5 ⟨rfl, hb5⟩); have hB := HB5.out _ hb5; have q4 := (hBr.t.keep hb5).cell 4 rfl; have q2 := (hBr.t.keep hb5).cell 2 rfl) | (go_at_call 146; (with_reducible refine (KC.out _).mono ?_); (try rintro e w7 ⟨rfl, rfl⟩)))
    go_ret
    exact ⟨ret_bool HR.out.symm, hB⟩
  | false =>
    go_wp2_with (first | (go_at_call 144; (first | (with_reducible refine (KB.out _).mono ?_) | (with_reducible refine (KB2.out _).mono ?_)); (try rintro e w4 ⟨rfl, rfl⟩)) | (go_at_call 145; (with_reducible refine (KN.out _).mono ?_); (first | rintro e w5 rfl hb5 | rintro e w5 ⟨rfl, hb5⟩); have hB := HB5.out _ hb5; have q4 := (hBr.t.keep hb5).cell 4 rfl; have q2 := (hBr.t.keep hb5).cell 2 rfl) | (go_at_call 146; (with_reducible refine (KC.out _).mono ?_); (try rintro e w7 ⟨rfl, rfl⟩)))
    go_ret
    exact ⟨ret_bool HR.out.symm, hB⟩
end Go.Proofs.YtpofijdkckaphaaGreatDoor
