/- Conditions: the closures over members and answers; how many persons, how many departments: the program's. -/
import Derived.Test.YtpofijdkckaphaaGreatDoorGCndC
import Derived.Test.YtpofijdkckaphaaGreatDoorGCalC
import Derived.Test.YtpofijdkckaphaaGreatDoorGCndP
namespace Go.Proofs.YtpofijdkckaphaaGreatDoor
open Go.RowKit
/-- what a Below-extension keeps, from one world on -/
theorem Bx.from {W w : World} {g : Nat} {t : TypeId} {cs : List Value} (h : Bx W g t cs) (hb : Below W.heap.size W w) : Bx w g t cs := h.keep hb
set_option maxRecDepth 100000 in
theorem any_clo (y : Mem) (w : World) :
    Calls Tryz.prog 100 #[.agg #[.string ⟨y.person.toArray⟩, .int .i64 y.number, .int .i64 y.dept, .int .i64 y.day, .slice y.aa y.ans.length y.ac]] w fun e w' => e = .returned (.bool true) ∧ Below w.heap.size w w' := by
  have hb := Lib.hid ((Below.refl w.heap.size w).alloc (Nat.le_refl _) (.cells #[.string ⟨y.person.toArray⟩, .int .i64 y.number, .int .i64 y.dept, .int .i64 y.day, .slice y.aa y.ans.length y.ac] 39))
  go_enter Tryz.func100, Tryz.ntmps100
  go_wp2
  go_ret
  exact ⟨rfl, hb.out⟩
/-- what the closure over years reads: the view, the term -/
structure EnvW (w : World) (gv g gt : Nat) (m : Mem) (years : Int) (v0 v5 v6 k n f x a : Value) : Prop where
  p : Bx w gv 102 [.pointer (some ⟨g, 0, none⟩)]
  v : Bx w g 121 [v0, .string ⟨m.person.toArray⟩, .int .i64 m.number, .int .i64 m.dept, .int .i64 m.day, v5, v6]
  t : Bx w gt 50 [k, n, .int .i64 years, f, x, a]
theorem EnvW.keep {w w' : World} {gv g gt : Nat} {m : Mem} {years : Int} {v0 v5 v6 k n f x a : Value} (h : EnvW w gv g gt m years v0 v5 v6 k n f x a) (hb : Below w.heap.size w w') : EnvW w' gv g gt m years v0 v5 v6 k n f x a := ⟨h.p.keep hb, h.v.keep hb, h.t.keep hb⟩
set_option maxRecDepth 100000 in
set_option maxHeartbeats 1000000 in
theorem within_clo (y : Mem) {gv g gt : Nat} {m : Mem} {years : Int} {v0 v5 v6 k n f x a : Value} (w : World) (hE : EnvW w gv g gt m years v0 v5 v6 k n f x a) :
    Calls Tryz.prog 102 #[.agg #[.string ⟨y.person.toArray⟩, .int .i64 y.number, .int .i64 y.dept, .int .i64 y.day, .slice y.aa y.ans.length y.ac], .pointer (some ⟨gv, 0, none⟩), .pointer (some ⟨gt, 0, none⟩)] w fun e w' => e = .returned (.bool (wiF m.day y.day years)) ∧ Below w.heap.size w w' := by
  have KW := Lib.hid (fun V => within_walk m.day y.day years V)
  have hb := (Below.refl w.heap.size w).alloc (Nat.le_refl _) (.cells #[.string ⟨y.person.toArray⟩, .int .i64 y.number, .int .i64 y.dept, .int .i64 y.day, .slice y.aa y.ans.length y.ac] 39)
  have hN := Bx.new w 39 [.string ⟨y.person.toArray⟩, .int .i64 y.number, .int .i64 y.dept, .int .i64 y.day, .slice y.aa y.ans.length y.ac]
  change Bx (w.alloc (.cells #[.string ⟨y.person.toArray⟩, .int .i64 y.number, .int .i64 y.dept, .int .i64 y.day, .slice y.aa y.ans.length y.ac] 39)) _ _ _ at hN
  replace hE := hE.keep hb
  obtain ⟨g0, hg0⟩ : ∃ g, g = w.heap.size := ⟨_, rfl⟩
  have hbw : w.heap.size = g0 := hg0.symm
  rw [← hg0] at hN
  have HB := Lib.hid hb
  clear hg0 hb
  go_enter Tryz.func102, Tryz.ntmps102
  go_upto_region 1 with (fail)
  generalize w.alloc (.cells #[.string ⟨y.person.toArray⟩, .int .i64 y.number, .int .i64 y.dept, .int .i64 y.day, .slice y.aa y.ans.length y.ac] 39) = w1 at *
  clear hbw
  have c0 := hE.p.cell 0 rfl
  have c1 := hE.v.cell 4 rfl
  have c2 := hE.t.cell 2 rfl
  have c3 := hN.cell 3 rfl
  have u0 := fun d os => cell_regrown c0 d os
  have u1 := fun d os => cell_regrown c1 d os
  have u2 := fun d os => cell_regrown c2 d os
  have u3 := fun d os => cell_regrown c3 d os
  refine wp_region_quiet_below (by kernel_rfl) (by kernel_rfl) ?_
  repeat (go_big_quiet_step (first | (go_at_call 103; with_reducible exact Calls.regrown_of (KW.out _))))
  refine wpQuiet_nil ?_
  rintro w7 ⟨p2, hw7⟩
  have hq := (show Below w1.heap.size w1 w7 by first | (rw [hw7]; exact below_regrown w1 p2.d p2.os) | (rw [← hw7]; exact below_regrown w1 p2.d p2.os))
  clear hw7
  have HQ := Lib.hid (below_tr HB.out hq)
  clear u0 u1 u2 u3 c0 c1 c2 c3 hq
  go_wp2
  go_ret
  exact ⟨rfl, HQ.out⟩
/-- what the closures over answers read: a field, a text -/
structure EnvA (w : World) (gf gx : Nat) (f x : List UInt8) : Prop where
  f : Bx w gf 9 [.string ⟨f.toArray⟩]
  x : Bx w gx 9 [.string ⟨x.toArray⟩]
theorem EnvA.keep {w w' : World} {gf gx : Nat} {f x : List UInt8} (h : EnvA w gf gx f x) (hb : Below w.heap.size w w') : EnvA w' gf gx f x := ⟨h.f.keep hb, h.x.keep hb⟩
set_option maxRecDepth 100000 in
set_option maxHeartbeats 1000000 in
theorem ans11_clo (y : Ans) {gf gx : Nat} {f x : List UInt8} (w : World) (hE : EnvA w gf gx f x) :
    Calls Tryz.prog 121 #[.agg #[.string ⟨y.field.toArray⟩, .string ⟨y.text.toArray⟩, .int .i64 y.number], .pointer (some ⟨gf, 0, none⟩), .pointer (some ⟨gx, 0, none⟩)] w fun e w' => e = .returned (.bool (decide (y.field = f) && decide (y.text = x))) ∧ Below w.heap.size w w' := by
  have hb := (Below.refl w.heap.size w).alloc (Nat.le_refl _) (.cells #[.string ⟨y.field.toArray⟩, .string ⟨y.text.toArray⟩, .int .i64 y.number] 83)
  have hN := Bx.new w 83 [.string ⟨y.field.toArray⟩, .string ⟨y.text.toArray⟩, .int .i64 y.number]
  change Bx (w.alloc (.cells #[.string ⟨y.field.toArray⟩, .string ⟨y.text.toArray⟩, .int .i64 y.number] 83)) _ _ _ at hN
  replace hE := hE.keep hb
  obtain ⟨g0, hg0⟩ : ∃ g, g = w.heap.size := ⟨_, rfl⟩
  have hbw : w.heap.size = g0 := hg0.symm
  rw [← hg0] at hN
  have HB := Lib.hid hb
  clear hg0 hb
  have e1 : (y.field == f) = decide (y.field = f) := by rw [Bool.eq_iff_iff]; simp
  have e2 : (y.text == x) = decide (y.text = x) := by rw [Bool.eq_iff_iff]; simp
  generalize decide (y.field = f) = b1 at *
  generalize decide (y.text = x) = b2 at *
  go_enter Tryz.func121, Tryz.ntmps121
  go_upto_region 1 with (fail)
  generalize w.alloc (.cells #[.string ⟨y.field.toArray⟩, .string ⟨y.text.toArray⟩, .int .i64 y.number] 83) = w1 at *
  clear hbw
  have c0 := hE.f.cell 0 rfl
  have c1 := hE.x.cell 0 rfl
  have c2 := hN.cell 0 rfl
  have c3 := hN.cell 1 rfl
  cases b1 with
  | false =>
    go_wp2
    go_ret
    exact ⟨rfl, HB.out⟩
  | true =>
    cases b2 with
    | false =>
      go_wp2
      go_ret
      exact ⟨rfl, HB.out⟩
    | true =>
      go_wp2
      go_ret
      exact ⟨rfl, HB.out⟩
/-- the place of the first for which a test holds, or -1 -/
def idxL {α : Type} (f : α → Bool) (l : List α) : Int := match l.findIdx? f with
  | some k => (k : Int)
  | none => -1
theorem idxL_at {α : Type} {f : α → Bool} {l : List α} {k : Nat} {r : α} (hr : l[k]? = some r) (hf : f r = true) (h : ∀ (j : Nat) (x : α), j < k → l[j]? = some x → f x = false) : idxL f l = (k : Int) := by
  obtain ⟨hk, rfl⟩ := List.getElem?_eq_some_iff.1 hr
  have : l.findIdx? f = some k := List.findIdx?_eq_some_iff_getElem.2 ⟨hk, hf, fun j hj => by rw [h j l[j] hj (List.getElem?_eq_getElem (by omega))]; simp⟩
  rw [idxL, this]
theorem idxL_none {α : Type} {f : α → Bool} {l : List α} (h : ∀ (j : Nat) (x : α), j < l.length → l[j]? = some x → f x = false) : idxL f l = -1 := by
  have : l.findIdx? f = none := List.findIdx?_eq_none_iff.2 fun x hx => by
    obtain ⟨j, hj, rfl⟩ := List.getElem_of_mem hx
    exact h j l[j] hj (List.getElem?_eq_getElem hj)
  rw [idxL, this]
theorem idxL_any {α : Type} (f : α → Bool) (l : List α) : decide (idxL f l ≥ 0) = l.any f := by
  cases h : l.findIdx? f with
  | some k =>
    obtain ⟨hk, hp, -⟩ := List.findIdx?_eq_some_iff_getElem.1 h
    rw [idxL, h, decide_eq_true (by show (k : Int) ≥ 0; omega), List.any_eq_true.2 ⟨l[k], List.getElem_mem hk, hp⟩]
  | none =>
    rw [idxL, h, decide_eq_false (by decide)]
    symm
    rw [List.any_eq_false]
    intro x hx
    have := List.findIdx?_eq_none_iff.1 h x hx
    simp [this]
theorem Rd.ans {w : World} {a : Option Addr} {l : List Ans} (h : Rd w a (rowsC anC l)) {k : Nat} (hk : k < l.length) :
    ∃ g off r, a = some ⟨g, off, none⟩ ∧ Hid (l[k]? = some r) ∧ w.cell? ⟨g, off + k * 3, none⟩ = some (.string ⟨r.field.toArray⟩) ∧ w.cell? ⟨g, off + k * 3 + 1, none⟩ = some (.string ⟨r.text.toArray⟩) ∧ w.cell? ⟨g, off + k * 3 + 2, none⟩ = some (.int .i64 r.number) := by
  obtain ⟨g, off, r, ha, hr, hcell⟩ := h.rows (f := anC) (k := 3) anC_len (by decide) hk
  have d0 := hcell 0 _ rfl
  rw [Nat.add_zero] at d0
  exact ⟨g, off, r, ha, hr, d0, hcell 1 _ rfl, hcell 2 _ rfl⟩
set_option maxRecDepth 100000 in
set_option maxHeartbeats 1000000 in
theorem ans11_idx {gf gx : Nat} {f x : List UInt8} (a : Option Addr) (l : List Ans) (c : Nat) (w : World) (hE : EnvA w gf gx f x) (hR : Rd w a (rowsC anC l)) (hl : l.length ≤ 281474976710656) :
    Calls Tryz.prog 133 #[.slice a l.length c, .func (.func 121) #[] #[.pointer (some ⟨gf, 0, none⟩), .pointer (some ⟨gx, 0, none⟩)]] w fun e w' => e = .returned (.int .i64 (idxL (fun y : Ans => decide (y.field = f) && decide (y.text = x)) l)) ∧ Below w.heap.size w w' := by
  have HE := Lib.hid hE
  have HR0 := Lib.hid hR
  clear hE
  go_enter Tryz.func133, Tryz.ntmps133
  go_wp2_with fail
  go_loopw [8] (fun i wr => ∃ k : Nat, k ≤ l.length ∧ i = .int .i64 (k : Int) ∧ Hid (∀ (j : Nat) (r : Ans), j < k → l[j]? = some r → (fun y : Ans => decide (y.field = f) && decide (y.text = x)) r = false) ∧ Below w.heap.size w wr) (fun i _ => l.length - (intOf i).toNat)
  case atStart => exact ⟨0, Nat.zero_le _, rfl, Lib.hid (fun j r h => by omega), Below.refl _ _⟩
  case round =>
    obtain ⟨k, hk, rfl, hA, hB'⟩ := hrel
    by_cases hkt : k < l.length
    · obtain ⟨gx0, off, r, rfl, hr, d0, d1, d2⟩ := (HR0.out.keep hB').ans (k := k) hkt
      have hkl : (k : Int) < (l.length : Int) := by omega
      have K1 := Lib.hid (ans11_clo r wr (HE.out.keep hB'))
      have HT : Hid ((fun y : Ans => decide (y.field = f) && decide (y.text = x)) r = false → ∀ (j : Nat) (r : Ans), j < k + 1 → l[j]? = some r → (fun y : Ans => decide (y.field = f) && decide (y.text = x)) r = false) := Lib.hid fun h j x hj hx => by
        by_cases e : j = k
        · subst e; rw [hr.out] at hx; cases hx; exact h
        · exact hA.out j x (by omega) hx
      have HF : Hid ((fun y : Ans => decide (y.field = f) && decide (y.text = x)) r = true → idxL (fun y : Ans => decide (y.field = f) && decide (y.text = x)) l = (k : Int)) := Lib.hid fun h => idxL_at hr.out h hA.out
      clear hA hr
      have hz0 : (decide (r.field = f) && decide (r.text = x)) = (fun y : Ans => decide (y.field = f) && decide (y.text = x)) r := rfl
      cases hz : (fun y : Ans => decide (y.field = f) && decide (y.text = x)) r with
      | false =>
        rw [hz0.trans hz] at K1
        replace HT := Lib.hid (HT.out hz)
        clear hz hz0 HF
        go_wp2_with ((with_reducible refine K1.out.mono ?_); (first | rintro e w1 rfl hb1 | rintro e w1 ⟨rfl, hb1⟩))
        go_roundw
        case rel => exact ⟨k + 1, by omega, by go_num, HT, below_tr hB' hb1⟩
        case measure => simp [intOf]; omega
      | true =>
        rw [hz0.trans hz] at K1
        replace HF := Lib.hid (HF.out hz)
        clear hz hz0 HT
        go_wp2_with ((with_reducible refine K1.out.mono ?_); (first | rintro e w1 rfl hb1 | rintro e w1 ⟨rfl, hb1⟩))
        go_ret
        exact ⟨ret_int HF.out.symm, below_tr hB' hb1⟩
    · have hkl : ¬ (k : Int) < (l.length : Int) := by omega
      obtain rfl : k = l.length := by omega
      have HN := Lib.hid (idxL_none (f := fun y : Ans => decide (y.field = f) && decide (y.text = x)) hA.out)
      clear hA
      go_wp2
      go_ret
      exact ⟨ret_int HN.out.symm, hB'⟩
set_option maxRecDepth 100000 in
theorem ans11_any {gf gx : Nat} {f x : List UInt8} (a : Option Addr) (l : List Ans) (c : Nat) (w : World) (hE : EnvA w gf gx f x) (hR : Rd w a (rowsC anC l)) (hl : l.length ≤ 281474976710656) :
    Calls Tryz.prog 120 #[.slice a l.length c, .func (.func 121) #[] #[.pointer (some ⟨gf, 0, none⟩), .pointer (some ⟨gx, 0, none⟩)]] w fun e w' => e = .returned (.bool (l.any (fun y : Ans => decide (y.field = f) && decide (y.text = x)))) ∧ Below w.heap.size w w' := by
  have K1 := Lib.hid (ans11_idx  a l c w hE hR hl)
  have HE := Lib.hid (idxL_any (fun y : Ans => decide (y.field = f) && decide (y.text = x)) l)
  generalize idxL (fun y : Ans => decide (y.field = f) && decide (y.text = x)) l = i at *
  generalize l.any (fun y : Ans => decide (y.field = f) && decide (y.text = x)) = b at *
  clear hE hR
  go_enter Tryz.func120, Tryz.ntmps120
  go_wp2_with (go_at_call 133; (with_reducible refine K1.out.mono ?_); (first | rintro e w1 rfl hb1 | rintro e w1 ⟨rfl, hb1⟩))
  go_ret
  exact ⟨ret_bool (by rw [← HE.out]), hb1⟩
set_option maxRecDepth 100000 in
set_option maxHeartbeats 1000000 in
theorem ans1_clo (y : Mem) {gf gx : Nat} {f x : List UInt8} (w : World) (hE : EnvA w gf gx f x) (hA : Rd w y.aa (rowsC anC y.ans)) (hl : y.ans.length ≤ 281474976710656) :
    Calls Tryz.prog 119 #[.agg #[.string ⟨y.person.toArray⟩, .int .i64 y.number, .int .i64 y.dept, .int .i64 y.day, .slice y.aa y.ans.length y.ac], .pointer (some ⟨gf, 0, none⟩), .pointer (some ⟨gx, 0, none⟩)] w fun e w' => e = .returned (.bool (saysB f x y)) ∧ Below w.heap.size w w' := by
  have hb := (Below.refl w.heap.size w).alloc (Nat.le_refl _) (.cells #[.string ⟨y.person.toArray⟩, .int .i64 y.number, .int .i64 y.dept, .int .i64 y.day, .slice y.aa y.ans.length y.ac] 39)
  have hN := Bx.new w 39 [.string ⟨y.person.toArray⟩, .int .i64 y.number, .int .i64 y.dept, .int .i64 y.day, .slice y.aa y.ans.length y.ac]
  change Bx (w.alloc (.cells #[.string ⟨y.person.toArray⟩, .int .i64 y.number, .int .i64 y.dept, .int .i64 y.day, .slice y.aa y.ans.length y.ac] 39)) _ _ _ at hN
  have K1 := Lib.hid (ans11_any y.aa y.ans y.ac _ (hE.keep hb) (hA.keep hb) hl)
  obtain ⟨g0, hg0⟩ : ∃ g, g = w.heap.size := ⟨_, rfl⟩
  have hbw : w.heap.size = g0 := hg0.symm
  rw [← hg0] at hN
  have HB := Lib.hid hb
  have hsb : saysB f x y = y.ans.any (fun a => decide (a.field = f) && decide (a.text = x)) := rfl
  rw [← hsb] at K1
  generalize saysB f x y = R at *
  clear hg0 hb hsb hE hA
  go_enter Tryz.func119, Tryz.ntmps119
  go_upto_region 1 with (fail)
  generalize w.alloc (.cells #[.string ⟨y.person.toArray⟩, .int .i64 y.number, .int .i64 y.dept, .int .i64 y.day, .slice y.aa y.ans.length y.ac] 39) = w1 at *
  clear hbw
  have c0 := hN.cell 4 rfl
  clear hN
  go_wp2_with (go_at_call 120; (with_reducible refine K1.out.mono ?_); (first | rintro e w2 rfl hb1 | rintro e w2 ⟨rfl, hb1⟩))
  go_ret
  exact ⟨rfl, below_tr HB.out hb1⟩
/-- the persons for whom a test holds -/
def perL (p : Mem → Bool) (O : List Mem) : List (List UInt8) := (O.filter p).map Mem.person
theorem perL_no {p : Mem → Bool} {O : List Mem} {j : Nat} {y : Mem} (hy : Hid (O[j]? = some y)) (h : p y = false) : perL p (O.take (j + 1)) = perL p (O.take j) := by
  rw [take_at hy, perL, List.filter_append, List.map_append, List.filter_cons_of_neg (by rw [h]; decide)]
  simp [perL]
theorem perL_yes {p : Mem → Bool} {O : List Mem} {j : Nat} {y : Mem} (hy : Hid (O[j]? = some y)) (h : p y = true) : perL p (O.take (j + 1)) = perL p (O.take j) ++ [y.person] := by
  rw [take_at hy, perL, List.filter_append, List.map_append, List.filter_cons_of_pos h]
  rfl
set_option maxRecDepth 100000 in
set_option maxHeartbeats 2000000 in
theorem pers_any  {ga : Nat} {ta : Option Addr} {T : List Trm} {tc : Nat} {me : Mem} {oa : Option Addr} {O : List Mem} {oc : Nat} (w : World) (hE : True) (hV : View w ga ta T tc me oa O oc) (hl : O.length ≤ 1000000000) :
    Calls Tryz.prog 99 #[.pointer (some ⟨ga, 0, none⟩), .func (.func 100) #[] #[]] w fun e w' => e = .returned (.int .i64 (dst (perL (fun _ : Mem => true) O) : Int)) ∧ Below w.heap.size w w' := by
  have HE := Lib.hid hE
  have HV := Lib.hid hV
  have y6 := hV.v.cell 6 rfl
  clear hE hV
  have hm0 := MpS.new w
  have hbm := (Below.refl w.heap.size w).alloc (Nat.le_refl _) (.map #[] 0)
  have y7 := cell_alloc hbm y6
  have hmk : ∀ V, (Instr.makeMap 129 none).run Tryz.prog V = .ok (.map (some V.heap.size)) (V.alloc (.map #[] 0)) := fun V => rfl
  go_enter Tryz.func99, Tryz.ntmps99
  go_upto_region 2 with (fail)
  generalize w.alloc (.map #[] 0) = w1 at *
  obtain ⟨gm, hgm⟩ : ∃ g, g = w.heap.size := ⟨_, rfl⟩
  rw [← hgm] at hm0 ⊢
  have HG := Lib.hid hgm
  clear hgm y6
  go_wp2_with fail
  go_loopw [14] (fun i wr => ∃ j : Nat, j ≤ O.length ∧ i = .int .i64 (j : Int) ∧ Below w.heap.size w wr ∧ MpS wr gm j (perL (fun _ : Mem => true) (O.take j))) (fun i _ => O.length - (intOf i).toNat)
  case atStart => exact ⟨0, Nat.zero_le _, rfl, hbm, hm0⟩
  case round =>
    clear hbm hm0 y7
    obtain ⟨j, hj, rfl, hb, hM⟩ := hrel
    by_cases hjt : j < O.length
    rotate_left
    · have hjl : ¬ (j : Int) < (O.length : Int) := by omega
      obtain rfl : j = O.length := by omega
      rw [List.take_length] at hM
      have hown : World.ownsMap wr Tryz.prog 9 bElem gm O.length _ := hM
      have HS := Lib.hid (MpS.size (L := perL (fun _ : Mem => true) O))
      have HB := Lib.hid hb
      clear hb hM
      go_wp2_with (at_len; refine wpList_len_own _ rfl _ 129 rfl 9 4 Tryz.underlying129 _ gm _ _ rfl hown ?_)
      go_ret
      exact ⟨ret_int (by rw [HS.out]), HB.out⟩
    have hjl : (j : Int) < (O.length : Int) := by omega
    obtain ⟨g', o', y, rfl, hy, ⟨x0, x1, x2, x3, x4⟩, hA, hIn⟩ := (HV.out.o.keep hb).mem (k := j) hjt
    have hbL := (Below.refl wr.heap.size wr).alloc (Nat.le_refl _) (.cells #[.string ⟨y.person.toArray⟩, .int .i64 y.number, .int .i64 y.dept, .int .i64 y.day, .slice y.aa y.ans.length y.ac] 39)
    have hL := Bx.new wr 39 [.string ⟨y.person.toArray⟩, .int .i64 y.number, .int .i64 y.dept, .int .i64 y.day, .slice y.aa y.ans.length y.ac]
    change Bx (wr.alloc (.cells #[.string ⟨y.person.toArray⟩, .int .i64 y.number, .int .i64 y.dept, .int .i64 y.day, .slice y.aa y.ans.length y.ac] 39)) _ _ _ at hL
    have hM1 := hM.keep hbL
    have hb1 := hb.trans (hbL.mono hb.size)
    have hA1 := hA.keep hbL
    clear hM hb hA hbL
    go_upto_region 5 with (fail)
    generalize wr.alloc (.cells #[.string ⟨y.person.toArray⟩, .int .i64 y.number, .int .i64 y.dept, .int .i64 y.day, .slice y.aa y.ans.length y.ac] 39) = w2 at *
    generalize wr.heap.size = gy at *
    clear x0 x1 x2 x3 x4
    have z0 := hL.cell 0 rfl
    have z1 := hL.cell 1 rfl
    have z2 := hL.cell 2 rfl
    have z3 := hL.cell 3 rfl
    have z4 := hL.cell 4 rfl
    obtain ⟨b, hbp⟩ : ∃ b, (fun _ : Mem => true) y = b := ⟨_, rfl⟩
    have K1 : Hid (Calls Tryz.prog 100 #[.agg #[.string ⟨y.person.toArray⟩, .int .i64 y.number, .int .i64 y.dept, .int .i64 y.day, .slice y.aa y.ans.length y.ac]] w2 fun e w' => e = .returned (.bool b) ∧ Below w2.heap.size w2 w') := Lib.hid (by rw [← hbp]; exact any_clo y w2)
    have HNO : Hid (b = false → perL (fun _ : Mem => true) (O.take (j + 1)) = perL (fun _ : Mem => true) (O.take j)) := Lib.hid (fun h => perL_no hy (hbp.trans h))
    have HYE : Hid (b = true → perL (fun _ : Mem => true) (O.take (j + 1)) = perL (fun _ : Mem => true) (O.take j) ++ [y.person]) := Lib.hid (fun h => perL_yes hy (hbp.trans h))
    have HM1 := Lib.hid hM1
    have HB1 := Lib.hid hb1
    have HL1 := Lib.hid hL
    have hkey := key_s (s := y.person) (by have := hIn.1; omega)
    clear hbp hy hM1 hb1 hA1 hIn hL
    cases b with
    | false =>
      go_wp2_with ((with_reducible refine K1.out.mono ?_); (first | rintro e w3 rfl hb3 | rintro e w3 ⟨rfl, hb3⟩))
      have hM3 : MpS w3 gm (j + 1) (perL (fun _ : Mem => true) (O.take (j + 1))) := by
        rw [HNO.out (by first | rfl | trivial)]
        exact World.ownsMap.mono (HM1.out.keep hb3) (Nat.le_succ j)
      have HM3 := Lib.hid hM3
      have HB3 := Lib.hid (HB1.out.trans (hb3.mono HB1.out.size))
      clear hM3 hb3
      go_roundw
      case rel => exact ⟨j + 1, by omega, by go_num, HB3.out, HM3.out⟩
      case measure => simp [intOf]; omega
    | true =>
      go_wp2_with (first
        | ((with_reducible refine K1.out.mono ?_); (first | rintro e w3 rfl hb3 | rintro e w3 ⟨rfl, hb3⟩); have q0 := (HL1.out.keep hb3).cell 0 rfl; have hown : World.ownsMap w3 Tryz.prog 9 bElem gm j _ := HM1.out.keep hb3)
        | (at_mapUpdate; refine wpList_mapUpdate_own _ rfl _ _ _ 129 rfl 9 4 keyed_s Tryz.underlying129 bElem gm j _ rfl hown (by unfold maxLen; omega) _ _ _ rfl rfl hkey _ [] (plainElem_bool Tryz.underlying4 true) ?_; intro w4 hown1 hgrow1))
      have hM3 : MpS w4 gm (j + 1) (perL (fun _ : Mem => true) (O.take (j + 1))) := by
        rw [HYE.out (by first | rfl | trivial)]
        show World.ownsMap _ _ _ _ _ _ _
        rw [gset_snoc]; exact hown1
      have hb4 := HB1.out.trans (hb3.mono HB1.out.size)
      have HB3 := Lib.hid (hb4.grown hgrow1 hb4.size (fun j hj => by cases hj; rw [HG.out]; exact Nat.le_refl _))
      have HM3 := Lib.hid hM3
      clear hM3 hb3 hb4 hown hown1 hgrow1 q0
      go_roundw
      case rel => exact ⟨j + 1, by omega, by go_num, HB3.out, HM3.out⟩
      case measure => simp [intOf]; omega
set_option maxRecDepth 100000 in
set_option maxHeartbeats 2000000 in
theorem pers_within {gv gt : Nat} {m : Mem} {years : Int} {g : Nat} {v0 v5 v6 k n f x a : Value} {ga : Nat} {ta : Option Addr} {T : List Trm} {tc : Nat} {me : Mem} {oa : Option Addr} {O : List Mem} {oc : Nat} (w : World) (hE : EnvW w gv g gt m years v0 v5 v6 k n f x a) (hV : View w ga ta T tc me oa O oc) (hl : O.length ≤ 1000000000) :
    Calls Tryz.prog 99 #[.pointer (some ⟨ga, 0, none⟩), .func (.func 102) #[] #[.pointer (some ⟨gv, 0, none⟩), .pointer (some ⟨gt, 0, none⟩)]] w fun e w' => e = .returned (.int .i64 (dst (perL (fun y : Mem => wiF m.day y.day years) O) : Int)) ∧ Below w.heap.size w w' := by
  have HE := Lib.hid hE
  have HV := Lib.hid hV
  have y6 := hV.v.cell 6 rfl
  clear hE hV
  have hm0 := MpS.new w
  have hbm := (Below.refl w.heap.size w).alloc (Nat.le_refl _) (.map #[] 0)
  have y7 := cell_alloc hbm y6
  have hmk : ∀ V, (Instr.makeMap 129 none).run Tryz.prog V = .ok (.map (some V.heap.size)) (V.alloc (.map #[] 0)) := fun V => rfl
  go_enter Tryz.func99, Tryz.ntmps99
  go_upto_region 2 with (fail)
  generalize w.alloc (.map #[] 0) = w1 at *
  obtain ⟨gm, hgm⟩ : ∃ g, g = w.heap.size := ⟨_, rfl⟩
  rw [← hgm] at hm0 ⊢
  have HG := Lib.hid hgm
  clear hgm y6
  go_wp2_with fail
  go_loopw [14] (fun i wr => ∃ j : Nat, j ≤ O.length ∧ i = .int .i64 (j : Int) ∧ Below w.heap.size w wr ∧ MpS wr gm j (perL (fun y : Mem => wiF m.day y.day years) (O.take j))) (fun i _ => O.length - (intOf i).toNat)
  case atStart => exact ⟨0, Nat.zero_le _, rfl, hbm, hm0⟩
  case round =>
    clear hbm hm0 y7
    obtain ⟨j, hj, rfl, hb, hM⟩ := hrel
    by_cases hjt : j < O.length
    rotate_left
    · have hjl : ¬ (j : Int) < (O.length : Int) := by omega
      obtain rfl : j = O.length := by omega
      rw [List.take_length] at hM
      have hown : World.ownsMap wr Tryz.prog 9 bElem gm O.length _ := hM
      have HS := Lib.hid (MpS.size (L := perL (fun y : Mem => wiF m.day y.day years) O))
      have HB := Lib.hid hb
      clear hb hM
      go_wp2_with (at_len; refine wpList_len_own _ rfl _ 129 rfl 9 4 Tryz.underlying129 _ gm _ _ rfl hown ?_)
      go_ret
      exact ⟨ret_int (by rw [HS.out]), HB.out⟩
    have hjl : (j : Int) < (O.length : Int) := by omega
    obtain ⟨g', o', y, rfl, hy, ⟨x0, x1, x2, x3, x4⟩, hA, hIn⟩ := (HV.out.o.keep hb).mem (k := j) hjt
    have hbL := (Below.refl wr.heap.size wr).alloc (Nat.le_refl _) (.cells #[.string ⟨y.person.toArray⟩, .int .i64 y.number, .int .i64 y.dept, .int .i64 y.day, .slice y.aa y.ans.length y.ac] 39)
    have hL := Bx.new wr 39 [.string ⟨y.person.toArray⟩, .int .i64 y.number, .int .i64 y.dept, .int .i64 y.day, .slice y.aa y.ans.length y.ac]
    change Bx (wr.alloc (.cells #[.string ⟨y.person.toArray⟩, .int .i64 y.number, .int .i64 y.dept, .int .i64 y.day, .slice y.aa y.ans.length y.ac] 39)) _ _ _ at hL
    have hM1 := hM.keep hbL
    have hb1 := hb.trans (hbL.mono hb.size)
    have hA1 := hA.keep hbL
    clear hM hb hA hbL
    go_upto_region 5 with (fail)
    generalize wr.alloc (.cells #[.string ⟨y.person.toArray⟩, .int .i64 y.number, .int .i64 y.dept, .int .i64 y.day, .slice y.aa y.ans.length y.ac] 39) = w2 at *
    generalize wr.heap.size = gy at *
    clear x0 x1 x2 x3 x4
    have z0 := hL.cell 0 rfl
    have z1 := hL.cell 1 rfl
    have z2 := hL.cell 2 rfl
    have z3 := hL.cell 3 rfl
    have z4 := hL.cell 4 rfl
    obtain ⟨b, hbp⟩ : ∃ b, (fun y : Mem => wiF m.day y.day years) y = b := ⟨_, rfl⟩
    have K1 : Hid (Calls Tryz.prog 102 #[.agg #[.string ⟨y.person.toArray⟩, .int .i64 y.number, .int .i64 y.dept, .int .i64 y.day, .slice y.aa y.ans.length y.ac], .pointer (some ⟨gv, 0, none⟩), .pointer (some ⟨gt, 0, none⟩)] w2 fun e w' => e = .returned (.bool b) ∧ Below w2.heap.size w2 w') := Lib.hid (by rw [← hbp]; exact within_clo y w2 (HE.out.keep hb1))
    have HNO : Hid (b = false → perL (fun y : Mem => wiF m.day y.day years) (O.take (j + 1)) = perL (fun y : Mem => wiF m.day y.day years) (O.take j)) := Lib.hid (fun h => perL_no hy (hbp.trans h))
    have HYE : Hid (b = true → perL (fun y : Mem => wiF m.day y.day years) (O.take (j + 1)) = perL (fun y : Mem => wiF m.day y.day years) (O.take j) ++ [y.person]) := Lib.hid (fun h => perL_yes hy (hbp.trans h))
    have HM1 := Lib.hid hM1
    have HB1 := Lib.hid hb1
    have HL1 := Lib.hid hL
    have hkey := key_s (s := y.person) (by have := hIn.1; omega)
    clear hbp hy hM1 hb1 hA1 hIn hL
    cases b with
    | false =>
      go_wp2_with ((with_reducible refine K1.out.mono ?_); (first | rintro e w3 rfl hb3 | rintro e w3 ⟨rfl, hb3⟩))
      have hM3 : MpS w3 gm (j + 1) (perL (fun y : Mem => wiF m.day y.day years) (O.take (j + 1))) := by
        rw [HNO.out (by first | rfl | trivial)]
        exact World.ownsMap.mono (HM1.out.keep hb3) (Nat.le_succ j)
      have HM3 := Lib.hid hM3
      have HB3 := Lib.hid (HB1.out.trans (hb3.mono HB1.out.size))
      clear hM3 hb3
      go_roundw
      case rel => exact ⟨j + 1, by omega, by go_num, HB3.out, HM3.out⟩
      case measure => simp [intOf]; omega
    | true =>
      go_wp2_with (first
        | ((with_reducible refine K1.out.mono ?_); (first | rintro e w3 rfl hb3 | rintro e w3 ⟨rfl, hb3⟩); have q0 := (HL1.out.keep hb3).cell 0 rfl; have hown : World.ownsMap w3 Tryz.prog 9 bElem gm j _ := HM1.out.keep hb3)
        | (at_mapUpdate; refine wpList_mapUpdate_own _ rfl _ _ _ 129 rfl 9 4 keyed_s Tryz.underlying129 bElem gm j _ rfl hown (by unfold maxLen; omega) _ _ _ rfl rfl hkey _ [] (plainElem_bool Tryz.underlying4 true) ?_; intro w4 hown1 hgrow1))
      have hM3 : MpS w4 gm (j + 1) (perL (fun y : Mem => wiF m.day y.day years) (O.take (j + 1))) := by
        rw [HYE.out (by first | rfl | trivial)]
        show World.ownsMap _ _ _ _ _ _ _
        rw [gset_snoc]; exact hown1
      have hb4 := HB1.out.trans (hb3.mono HB1.out.size)
      have HB3 := Lib.hid (hb4.grown hgrow1 hb4.size (fun j hj => by cases hj; rw [HG.out]; exact Nat.le_refl _))
      have HM3 := Lib.hid hM3
      clear hM3 hb3 hb4 hown hown1 hgrow1 q0
      go_roundw
      case rel => exact ⟨j + 1, by omega, by go_num, HB3.out, HM3.out⟩
      case measure => simp [intOf]; omega
set_option maxRecDepth 100000 in
set_option maxHeartbeats 2000000 in
theorem pers_says {gf gx : Nat} {f x : List UInt8} {ga : Nat} {ta : Option Addr} {T : List Trm} {tc : Nat} {me : Mem} {oa : Option Addr} {O : List Mem} {oc : Nat} (w : World) (hE : EnvA w gf gx f x) (hV : View w ga ta T tc me oa O oc) (hl : O.length ≤ 1000000000) :
    Calls Tryz.prog 99 #[.pointer (some ⟨ga, 0, none⟩), .func (.func 119) #[] #[.pointer (some ⟨gf, 0, none⟩), .pointer (some ⟨gx, 0, none⟩)]] w fun e w' => e = .returned (.int .i64 (dst (perL (fun y : Mem => saysB f x y) O) : Int)) ∧ Below w.heap.size w w' := by
  have HE := Lib.hid hE
  have HV := Lib.hid hV
  have y6 := hV.v.cell 6 rfl
  clear hE hV
  have hm0 := MpS.new w
  have hbm := (Below.refl w.heap.size w).alloc (Nat.le_refl _) (.map #[] 0)
  have y7 := cell_alloc hbm y6
  have hmk : ∀ V, (Instr.makeMap 129 none).run Tryz.prog V = .ok (.map (some V.heap.size)) (V.alloc (.map #[] 0)) := fun V => rfl
  go_enter Tryz.func99, Tryz.ntmps99
  go_upto_region 2 with (fail)
  generalize w.alloc (.map #[] 0) = w1 at *
  obtain ⟨gm, hgm⟩ : ∃ g, g = w.heap.size := ⟨_, rfl⟩
  rw [← hgm] at hm0 ⊢
  have HG := Lib.hid hgm
  clear hgm y6
  go_wp2_with fail
  go_loopw [14] (fun i wr => ∃ j : Nat, j ≤ O.length ∧ i = .int .i64 (j : Int) ∧ Below w.heap.size w wr ∧ MpS wr gm j (perL (fun y : Mem => saysB f x y) (O.take j))) (fun i _ => O.length - (intOf i).toNat)
  case atStart => exact ⟨0, Nat.zero_le _, rfl, hbm, hm0⟩
  case round =>
    clear hbm hm0 y7
    obtain ⟨j, hj, rfl, hb, hM⟩ := hrel
    by_cases hjt : j < O.length
    rotate_left
    · have hjl : ¬ (j : Int) < (O.length : Int) := by omega
      obtain rfl : j = O.length := by omega
      rw [List.take_length] at hM
      have hown : World.ownsMap wr Tryz.prog 9 bElem gm O.length _ := hM
      have HS := Lib.hid (MpS.size (L := perL (fun y : Mem => saysB f x y) O))
      have HB := Lib.hid hb
      clear hb hM
      go_wp2_with (at_len; refine wpList_len_own _ rfl _ 129 rfl 9 4 Tryz.underlying129 _ gm _ _ rfl hown ?_)
      go_ret
      exact ⟨ret_int (by rw [HS.out]), HB.out⟩
    have hjl : (j : Int) < (O.length : Int) := by omega
    obtain ⟨g', o', y, rfl, hy, ⟨x0, x1, x2, x3, x4⟩, hA, hIn⟩ := (HV.out.o.keep hb).mem (k := j) hjt
    have hbL := (Below.refl wr.heap.size wr).alloc (Nat.le_refl _) (.cells #[.string ⟨y.person.toArray⟩, .int .i64 y.number, .int .i64 y.dept, .int .i64 y.day, .slice y.aa y.ans.length y.ac] 39)
    have hL := Bx.new wr 39 [.string ⟨y.person.toArray⟩, .int .i64 y.number, .int .i64 y.dept, .int .i64 y.day, .slice y.aa y.ans.length y.ac]
    change Bx (wr.alloc (.cells #[.string ⟨y.person.toArray⟩, .int .i64 y.number, .int .i64 y.dept, .int .i64 y.day, .slice y.aa y.ans.length y.ac] 39)) _ _ _ at hL
    have hM1 := hM.keep hbL
    have hb1 := hb.trans (hbL.mono hb.size)
    have hA1 := hA.keep hbL
    clear hM hb hA hbL
    go_upto_region 5 with (fail)
    generalize wr.alloc (.cells #[.string ⟨y.person.toArray⟩, .int .i64 y.number, .int .i64 y.dept, .int .i64 y.day, .slice y.aa y.ans.length y.ac] 39) = w2 at *
    generalize wr.heap.size = gy at *
    clear x0 x1 x2 x3 x4
    have z0 := hL.cell 0 rfl
    have z1 := hL.cell 1 rfl
    have z2 := hL.cell 2 rfl
    have z3 := hL.cell 3 rfl
    have z4 := hL.cell 4 rfl
    obtain ⟨b, hbp⟩ : ∃ b, (fun y : Mem => saysB f x y) y = b := ⟨_, rfl⟩
    have K1 : Hid (Calls Tryz.prog 119 #[.agg #[.string ⟨y.person.toArray⟩, .int .i64 y.number, .int .i64 y.dept, .int .i64 y.day, .slice y.aa y.ans.length y.ac], .pointer (some ⟨gf, 0, none⟩), .pointer (some ⟨gx, 0, none⟩)] w2 fun e w' => e = .returned (.bool b) ∧ Below w2.heap.size w2 w') := Lib.hid (by rw [← hbp]; exact ans1_clo y w2 (HE.out.keep hb1) hA1 (by have := hIn.2.2.2; omega))
    have HNO : Hid (b = false → perL (fun y : Mem => saysB f x y) (O.take (j + 1)) = perL (fun y : Mem => saysB f x y) (O.take j)) := Lib.hid (fun h => perL_no hy (hbp.trans h))
    have HYE : Hid (b = true → perL (fun y : Mem => saysB f x y) (O.take (j + 1)) = perL (fun y : Mem => saysB f x y) (O.take j) ++ [y.person]) := Lib.hid (fun h => perL_yes hy (hbp.trans h))
    have HM1 := Lib.hid hM1
    have HB1 := Lib.hid hb1
    have HL1 := Lib.hid hL
    have hkey := key_s (s := y.person) (by have := hIn.1; omega)
    clear hbp hy hM1 hb1 hA1 hIn hL
    cases b with
    | false =>
      go_wp2_with ((with_reducible refine K1.out.mono ?_); (first | rintro e w3 rfl hb3 | rintro e w3 ⟨rfl, hb3⟩))
      have hM3 : MpS w3 gm (j + 1) (perL (fun y : Mem => saysB f x y) (O.take (j + 1))) := by
        rw [HNO.out (by first | rfl | trivial)]
        exact World.ownsMap.mono (HM1.out.keep hb3) (Nat.le_succ j)
      have HM3 := Lib.hid hM3
      have HB3 := Lib.hid (HB1.out.trans (hb3.mono HB1.out.size))
      clear hM3 hb3
      go_roundw
      case rel => exact ⟨j + 1, by omega, by go_num, HB3.out, HM3.out⟩
      case measure => simp [intOf]; omega
    | true =>
      go_wp2_with (first
        | ((with_reducible refine K1.out.mono ?_); (first | rintro e w3 rfl hb3 | rintro e w3 ⟨rfl, hb3⟩); have q0 := (HL1.out.keep hb3).cell 0 rfl; have hown : World.ownsMap w3 Tryz.prog 9 bElem gm j _ := HM1.out.keep hb3)
        | (at_mapUpdate; refine wpList_mapUpdate_own _ rfl _ _ _ 129 rfl 9 4 keyed_s Tryz.underlying129 bElem gm j _ rfl hown (by unfold maxLen; omega) _ _ _ rfl rfl hkey _ [] (plainElem_bool Tryz.underlying4 true) ?_; intro w4 hown1 hgrow1))
      have hM3 : MpS w4 gm (j + 1) (perL (fun y : Mem => saysB f x y) (O.take (j + 1))) := by
        rw [HYE.out (by first | rfl | trivial)]
        show World.ownsMap _ _ _ _ _ _ _
        rw [gset_snoc]; exact hown1
      have hb4 := HB1.out.trans (hb3.mono HB1.out.size)
      have HB3 := Lib.hid (hb4.grown hgrow1 hb4.size (fun j hj => by cases hj; rw [HG.out]; exact Nat.le_refl _))
      have HM3 := Lib.hid hM3
      clear hM3 hb3 hb4 hown hown1 hgrow1 q0
      go_roundw
      case rel => exact ⟨j + 1, by omega, by go_num, HB3.out, HM3.out⟩
      case measure => simp [intOf]; omega
end Go.Proofs.YtpofijdkckaphaaGreatDoor
