/- Conditions: which condition is weaker: the program's. -/
import Derived.Test.YtejdaeonknpgeaaDoorGCndJ
namespace Go.Proofs.YtejdaeonknpgeaaDoor
open Go.RowKit
set_option maxRecDepth 100000 in
set_option maxHeartbeats 1000000 in
theorem wk1_idx {p : Int → Bool} {gv gw : Nat} (a : Option Addr) (l : List Int) (c : Nat) (w : World) (hE : ∀ V, Below w.heap.size w V → ∀ r ∈ l, Calls Tryd.prog 21 #[.int .i64 r, .pointer (some ⟨gv, 0, none⟩), .pointer (some ⟨gw, 0, none⟩)] V fun e w1 => e = .returned (.bool (p r)) ∧ Below V.heap.size V w1) (hR : Rd w a (ints l)) (hl : l.length ≤ 281474976710656) :
    Calls Tryd.prog 30 #[.slice a l.length c, .func (.func 21) #[] #[.pointer (some ⟨gv, 0, none⟩), .pointer (some ⟨gw, 0, none⟩)]] w fun e w' => e = .returned (.int .i64 (idxL (p) l)) ∧ Below w.heap.size w w' := by
  have HE := Lib.hid hE
  have HR0 := Lib.hid hR
  clear hE
  go_enter Tryd.func30, Tryd.ntmps30
  go_wp2_with fail
  go_loopw [8] (fun i wr => ∃ k : Nat, k ≤ l.length ∧ i = .int .i64 (k : Int) ∧ Hid (∀ (j : Nat) (r : Int), j < k → l[j]? = some r → (p) r = false) ∧ Below w.heap.size w wr) (fun i _ => l.length - (intOf i).toNat)
  case atStart => exact ⟨0, Nat.zero_le _, rfl, Lib.hid (fun j r h => by omega), Below.refl _ _⟩
  case round =>
    obtain ⟨k, hk, rfl, hA, hB'⟩ := hrel
    by_cases hkt : k < l.length
    · obtain ⟨gx0, off, r, rfl, d0, hr⟩ := (HR0.out.keep hB').int (k := k) hkt
      have hkl : (k : Int) < (l.length : Int) := by omega
      have K1 := Lib.hid (HE.out wr hB' r (mem_at hr))
      have HT : Hid ((p) r = false → ∀ (j : Nat) (r : Int), j < k + 1 → l[j]? = some r → (p) r = false) := Lib.hid fun h j x hj hx => by
        by_cases e : j = k
        · subst e; rw [hr.out] at hx; cases hx; exact h
        · exact hA.out j x (by omega) hx
      have HF : Hid ((p) r = true → idxL (p) l = (k : Int)) := Lib.hid fun h => idxL_at hr.out h hA.out
      clear hA hr
      have hz0 : p r = (p) r := rfl
      cases hz : (p) r with
      | false =>
        rw [hz0.trans hz] at K1
        replace HT := Lib.hid (HT.out hz)
        clear hz hz0 HF
        go_wp2_with ((with_reducible refine K1.out.mono ?_); (first | rintro e w1 rfl hb1 | rintro e w1 ⟨rfl, hb1⟩))
        go_roundw
        case rel => exact ⟨k + 1, by omega, by go_num, HT, below_tr hB' hb1⟩
        case measure => simp [intOf]; omega
      | true =>
        rw [hz0.trans hz] at K1
        replace HF := Lib.hid (HF.out hz)
        clear hz hz0 HT
        go_wp2_with ((with_reducible refine K1.out.mono ?_); (first | rintro e w1 rfl hb1 | rintro e w1 ⟨rfl, hb1⟩))
        go_ret
        exact ⟨ret_int HF.out.symm, below_tr hB' hb1⟩
    · have hkl : ¬ (k : Int) < (l.length : Int) := by omega
      obtain rfl : k = l.length := by omega
      have HN := Lib.hid (idxL_none (f := p) hA.out)
      clear hA
      go_wp2
      go_ret
      exact ⟨ret_int HN.out.symm, hB'⟩
set_option maxRecDepth 100000 in
theorem wk1_any {p : Int → Bool} {gv gw : Nat} (a : Option Addr) (l : List Int) (c : Nat) (w : World) (hE : ∀ V, Below w.heap.size w V → ∀ r ∈ l, Calls Tryd.prog 21 #[.int .i64 r, .pointer (some ⟨gv, 0, none⟩), .pointer (some ⟨gw, 0, none⟩)] V fun e w1 => e = .returned (.bool (p r)) ∧ Below V.heap.size V w1) (hR : Rd w a (ints l)) (hl : l.length ≤ 281474976710656) :
    Calls Tryd.prog 20 #[.slice a l.length c, .func (.func 21) #[] #[.pointer (some ⟨gv, 0, none⟩), .pointer (some ⟨gw, 0, none⟩)]] w fun e w' => e = .returned (.bool (l.any (p))) ∧ Below w.heap.size w w' := by
  have K1 := Lib.hid (wk1_idx  a l c w hE hR hl)
  have HE := Lib.hid (idxL_any (p) l)
  generalize idxL (p) l = i at *
  generalize l.any (p) = b at *
  clear hE hR
  go_enter Tryd.func20, Tryd.ntmps20
  go_wp2_with (go_at_call 30; (with_reducible refine K1.out.mono ?_); (first | rintro e w1 rfl hb1 | rintro e w1 ⟨rfl, hb1⟩))
  go_ret
  exact ⟨ret_bool (by rw [← HE.out]), hb1⟩
set_option maxRecDepth 100000 in
set_option maxHeartbeats 1000000 in
theorem wk2_idx {p : Int → Bool} {gv gw : Nat} (a : Option Addr) (l : List Int) (c : Nat) (w : World) (hE : ∀ V, Below w.heap.size w V → ∀ r ∈ l, Calls Tryd.prog 22 #[.int .i64 r, .pointer (some ⟨gv, 0, none⟩), .pointer (some ⟨gw, 0, none⟩)] V fun e w1 => e = .returned (.bool (p r)) ∧ Below V.heap.size V w1) (hR : Rd w a (ints l)) (hl : l.length ≤ 281474976710656) :
    Calls Tryd.prog 30 #[.slice a l.length c, .func (.func 22) #[] #[.pointer (some ⟨gv, 0, none⟩), .pointer (some ⟨gw, 0, none⟩)]] w fun e w' => e = .returned (.int .i64 (idxL (p) l)) ∧ Below w.heap.size w w' := by
  have HE := Lib.hid hE
  have HR0 := Lib.hid hR
  clear hE
  go_enter Tryd.func30, Tryd.ntmps30
  go_wp2_with fail
  go_loopw [8] (fun i wr => ∃ k : Nat, k ≤ l.length ∧ i = .int .i64 (k : Int) ∧ Hid (∀ (j : Nat) (r : Int), j < k → l[j]? = some r → (p) r = false) ∧ Below w.heap.size w wr) (fun i _ => l.length - (intOf i).toNat)
  case atStart => exact ⟨0, Nat.zero_le _, rfl, Lib.hid (fun j r h => by omega), Below.refl _ _⟩
  case round =>
    obtain ⟨k, hk, rfl, hA, hB'⟩ := hrel
    by_cases hkt : k < l.length
    · obtain ⟨gx0, off, r, rfl, d0, hr⟩ := (HR0.out.keep hB').int (k := k) hkt
      have hkl : (k : Int) < (l.length : Int) := by omega
      have K1 := Lib.hid (HE.out wr hB' r (mem_at hr))
      have HT : Hid ((p) r = false → ∀ (j : Nat) (r : Int), j < k + 1 → l[j]? = some r → (p) r = false) := Lib.hid fun h j x hj hx => by
        by_cases e : j = k
        · subst e; rw [hr.out] at hx; cases hx; exact h
        · exact hA.out j x (by omega) hx
      have HF : Hid ((p) r = true → idxL (p) l = (k : Int)) := Lib.hid fun h => idxL_at hr.out h hA.out
      clear hA hr
      have hz0 : p r = (p) r := rfl
      cases hz : (p) r with
      | false =>
        rw [hz0.trans hz] at K1
        replace HT := Lib.hid (HT.out hz)
        clear hz hz0 HF
        go_wp2_with ((with_reducible refine K1.out.mono ?_); (first | rintro e w1 rfl hb1 | rintro e w1 ⟨rfl, hb1⟩))
        go_roundw
        case rel => exact ⟨k + 1, by omega, by go_num, HT, below_tr hB' hb1⟩
        case measure => simp [intOf]; omega
      | true =>
        rw [hz0.trans hz] at K1
        replace HF := Lib.hid (HF.out hz)
        clear hz hz0 HT
        go_wp2_with ((with_reducible refine K1.out.mono ?_); (first | rintro e w1 rfl hb1 | rintro e w1 ⟨rfl, hb1⟩))
        go_ret
        exact ⟨ret_int HF.out.symm, below_tr hB' hb1⟩
    · have hkl : ¬ (k : Int) < (l.length : Int) := by omega
      obtain rfl : k = l.length := by omega
      have HN := Lib.hid (idxL_none (f := p) hA.out)
      clear hA
      go_wp2
      go_ret
      exact ⟨ret_int HN.out.symm, hB'⟩
set_option maxRecDepth 100000 in
theorem wk2_any {p : Int → Bool} {gv gw : Nat} (a : Option Addr) (l : List Int) (c : Nat) (w : World) (hE : ∀ V, Below w.heap.size w V → ∀ r ∈ l, Calls Tryd.prog 22 #[.int .i64 r, .pointer (some ⟨gv, 0, none⟩), .pointer (some ⟨gw, 0, none⟩)] V fun e w1 => e = .returned (.bool (p r)) ∧ Below V.heap.size V w1) (hR : Rd w a (ints l)) (hl : l.length ≤ 281474976710656) :
    Calls Tryd.prog 20 #[.slice a l.length c, .func (.func 22) #[] #[.pointer (some ⟨gv, 0, none⟩), .pointer (some ⟨gw, 0, none⟩)]] w fun e w' => e = .returned (.bool (l.any (p))) ∧ Below w.heap.size w w' := by
  have K1 := Lib.hid (wk2_idx  a l c w hE hR hl)
  have HE := Lib.hid (idxL_any (p) l)
  generalize idxL (p) l = i at *
  generalize l.any (p) = b at *
  clear hE hR
  go_enter Tryd.func20, Tryd.ntmps20
  go_wp2_with (go_at_call 30; (with_reducible refine K1.out.mono ?_); (first | rintro e w1 rfl hb1 | rintro e w1 ⟨rfl, hb1⟩))
  go_ret
  exact ⟨ret_bool (by rw [← HE.out]), hb1⟩
set_option maxRecDepth 100000 in
theorem weak1_clo {gv gw : Nat} {r : Int} {v1 v2 : Value} {b : Bool} (w : World) (h1 : Bx w gv 29 [v1]) (h2 : Bx w gw 29 [v2])
    (hK : Calls Tryd.prog 19 #[.agg #[v1], .agg #[v2], .int .i64 0, .int .i64 r] w fun e w1 => e = .returned (.bool b) ∧ Below w.heap.size w w1) :
    Calls Tryd.prog 21 #[.int .i64 r, .pointer (some ⟨gv, 0, none⟩), .pointer (some ⟨gw, 0, none⟩)] w fun e w1 => e = .returned (.bool b) ∧ Below w.heap.size w w1 := by
  have K1 := Lib.hid hK
  have c0 := h1.cell 0 rfl
  have c1 := h2.cell 0 rfl
  clear hK h1 h2
  go_enter Tryd.func21, Tryd.ntmps21
  go_wp2_with (go_at_call 19; (with_reducible refine K1.out.mono ?_); (first | rintro e w1 rfl hb1 | rintro e w1 ⟨rfl, hb1⟩))
  go_ret
  exact ⟨rfl, hb1⟩
set_option maxRecDepth 100000 in
theorem weak2_clo {gv gw : Nat} {r : Int} {v1 v2 : Value} {b : Bool} (w : World) (h1 : Bx w gv 29 [v1]) (h2 : Bx w gw 29 [v2])
    (hK : Calls Tryd.prog 19 #[.agg #[v1], .agg #[v2], .int .i64 r, .int .i64 0] w fun e w1 => e = .returned (.bool b) ∧ Below w.heap.size w w1) :
    Calls Tryd.prog 22 #[.int .i64 r, .pointer (some ⟨gv, 0, none⟩), .pointer (some ⟨gw, 0, none⟩)] w fun e w1 => e = .returned (.bool b) ∧ Below w.heap.size w w1 := by
  have K1 := Lib.hid hK
  have c0 := h1.cell 0 rfl
  have c1 := h2.cell 0 rfl
  clear hK h1 h2
  go_enter Tryd.func22, Tryd.ntmps22
  go_wp2_with (go_at_call 19; (with_reducible refine K1.out.mono ?_); (first | rintro e w1 rfl hb1 | rintro e w1 ⟨rfl, hb1⟩))
  go_ret
  exact ⟨rfl, hb1⟩
theorem Sd.held0 {w' : World} {g4 g5 g1 o1 g2 o2 : Nat} {A : List Trm} {tc : Nat} {B : List Trm} {td : Nat} (h : Sd w' g4 g5 (some ⟨g1, o1, none⟩) A tc (some ⟨g2, o2, none⟩) B td) {x y : Trm} (hx : Hid (A[0]? = some x)) (hy : Hid (B[0]? = some y)) :
    w'.cell? ⟨g4, 0, none⟩ = some (.slice (some ⟨g1, o1, none⟩) A.length tc) ∧ w'.cell? ⟨g5, 0, none⟩ = some (.slice (some ⟨g2, o2, none⟩) B.length td) ∧ w'.cell? ⟨g1, o1, none⟩ = some (.int .i64 x.kind) ∧ w'.cell? ⟨g1, o1 + 1, none⟩ = some (.int .i64 x.number) ∧ w'.cell? ⟨g1, o1 + 2, none⟩ = some (.int .i64 x.years) ∧ w'.cell? ⟨g1, o1 + 3, none⟩ = some (.string ⟨x.field.toArray⟩) ∧ w'.cell? ⟨g1, o1 + 4, none⟩ = some (.string ⟨x.text.toArray⟩) ∧ w'.cell? ⟨g1, o1 + 5, none⟩ = some (.slice x.aa x.args.length x.ac) ∧ w'.cell? ⟨g2, o2, none⟩ = some (.int .i64 y.kind) ∧ w'.cell? ⟨g2, o2 + 1, none⟩ = some (.int .i64 y.number) ∧ w'.cell? ⟨g2, o2 + 2, none⟩ = some (.int .i64 y.years) ∧ w'.cell? ⟨g2, o2 + 3, none⟩ = some (.string ⟨y.field.toArray⟩) ∧ w'.cell? ⟨g2, o2 + 4, none⟩ = some (.string ⟨y.text.toArray⟩) ∧ w'.cell? ⟨g2, o2 + 5, none⟩ = some (.slice y.aa y.args.length y.ac) := by
  have := h.held hx hy
  simpa only [Nat.zero_mul, Nat.add_zero] using this
set_option maxRecDepth 100000 in
set_option maxHeartbeats 2000000 in
theorem weaker_walk (A B : List Trm) (ta tb : Option Addr) (tc td : Nat) (w : World) (hRA : RdT w ta A) (hRB : RdT w tb B) (hA : A.length ≤ 9223372036854775807) (hB : B.length ≤ 9223372036854775807) :
    Calls Tryd.prog 10 #[.agg #[.slice ta A.length tc], .agg #[.slice tb B.length td]] w fun e w' => e = .returned (.bool (weakF A B)) ∧ Below w.heap.size w w' := by
  have he : weakF A B = ((rightC A && rightC B) && (sameT A B 24 0 0 || (firstAny 2 B (fun k => sameT A B 24 0 k.toNat) || firstAny 1 A (fun k => sameT A B 24 k.toNat 0)))) := rfl
  generalize weakF A B = R at *
  have b1 := (Below.refl w.heap.size w).alloc (Nat.le_refl _) (.cells #[.slice ta A.length tc] 29)
  have b2 := b1.alloc b1.size (.cells #[.slice tb B.length td] 29)
  have h4 := (Bx.new w 29 [.slice ta A.length tc]).alloc (.cells #[.slice tb B.length td] 29)
  change Bx ((w.alloc (.cells #[.slice ta A.length tc] 29)).alloc (.cells #[.slice tb B.length td] 29)) _ _ _ at h4
  have h5 := Bx.new (w.alloc (.cells #[.slice ta A.length tc] 29)) 29 [.slice tb B.length td]
  change Bx ((w.alloc (.cells #[.slice ta A.length tc] 29)).alloc (.cells #[.slice tb B.length td] 29)) _ _ _ at h5
  have hz : (w.alloc (.cells #[.slice ta A.length tc] 29)).heap.size = w.heap.size + 1 := by simp
  rw [hz] at h5
  have hSd : Sd _ w.heap.size (w.heap.size + 1) ta A tc tb B td := ⟨h4, h5, hRA.keep b2, hRB.keep b2⟩
  have HE := Lib.hid he
  have KVA := Lib.hid (fun V (hV : RdT V ta A) => cvalid_walk A ta tc V hV hA)
  have KVB := Lib.hid (fun V (hV : RdT V tb B) => cvalid_walk B tb td V hV hB)
  clear hz h4 h5 b1 he hRA hRB
  go_enter Tryd.func10, Tryd.ntmps10
  go_upto_region 1 with (fail)
  generalize (w.alloc (.cells #[.slice ta A.length tc] 29)).alloc (.cells #[.slice tb B.length td] 29) = w1 at *
  generalize hg5 : w.heap.size + 1 = g5 at *
  generalize hg4 : w.heap.size = g4 at *
  have HG := Lib.hid hg4
  clear hg5 hg4
  have HB0 : Hid (Below w.heap.size w w1) := Lib.hid (by rw [HG.out]; exact b2)
  have HS0 := Lib.hid hSd
  have c4 := hSd.c.cell 0 rfl
  have c5 := hSd.d.cell 0 rfl
  clear b2 hSd
  cases hra : rightC A with
  | false =>
    rw [hra] at KVA
    have HR : Hid (R = false) := Lib.hid (by rw [HE.out, hra]; rfl)
    clear hra HE
    go_wp2_with (go_at_call 18; (with_reducible refine (KVA.out _ HS0.out.ra).mono ?_); (first | rintro e w2 rfl hb2 | rintro e w2 ⟨rfl, hb2⟩))
    go_ret
    exact ⟨ret_bool HR.out.symm, HB0.out.trans (hb2.mono HB0.out.size)⟩
  | true =>
  cases hrb : rightC B with
  | false =>
    rw [hra] at KVA
    rw [hrb] at KVB
    have HR : Hid (R = false) := Lib.hid (by rw [HE.out, hrb, Bool.and_false, Bool.false_and])
    clear hra hrb HE
    go_wp2_with (first
      | (go_at_call 18; (with_reducible refine (KVA.out _ HS0.out.ra).mono ?_); (first | rintro e w2 rfl hb2 | rintro e w2 ⟨rfl, hb2⟩); have HS2 := Lib.hid (HS0.out.keep hb2); have HB2 := Lib.hid (HB0.out.trans (hb2.mono HB0.out.size)); have c6 := HS2.out.d.cell 0 rfl; clear hb2)
      | (go_at_call 18; (with_reducible refine (KVB.out _ HS2.out.rb).mono ?_); (first | rintro e w3 rfl hb3 | rintro e w3 ⟨rfl, hb3⟩)))
    go_ret
    exact ⟨ret_bool HR.out.symm, HB2.out.trans (hb3.mono HB2.out.size)⟩
  | true =>
  obtain ⟨a24, a0, sa⟩ := right_all hra
  obtain ⟨-, b0, sb⟩ := right_all hrb
  have hla := right_len hra
  rw [hra] at KVA
  rw [hrb] at KVB
  have he2 : R = (sameT A B 24 0 0 || (firstAny 2 B (fun k => sameT A B 24 0 k.toNat) || firstAny 1 A (fun k => sameT A B 24 k.toNat 0))) := by rw [HE.out, hra, hrb]; simp
  have KS : Hid (∀ (i k : Nat), i < A.length → k < B.length → ∀ V, Sd V g4 g5 ta A tc tb B td → Calls Tryd.prog 19 #[.agg #[.slice ta A.length tc], .agg #[.slice tb B.length td], .int .i64 (i : Int), .int .i64 (k : Int)] V fun e w' => e = .returned (.bool (sameT A B 24 i k)) ∧ Below V.heap.size V w') :=
    Lib.hid (fun i k hi hk V hV => same_walk A B ta tb tc td sa sb a24 hla 24 i k V hi hk (by omega) hV.ra hV.rb)
  have K00 : Hid (∀ V, Sd V g4 g5 ta A tc tb B td → Calls Tryd.prog 19 #[.agg #[.slice ta A.length tc], .agg #[.slice tb B.length td], .int .i64 0, .int .i64 0] V fun e w' => e = .returned (.bool (sameT A B 24 0 0)) ∧ Below V.heap.size V w') := Lib.hid (fun V hV => KS.out 0 0 a0 b0 V hV)
  clear HE hra hrb
  obtain ⟨x, hx, -, hargx⟩ := sa 0 (Nat.zero_le _) a0
  obtain ⟨y, hy, -, hargy⟩ := sb 0 (Nat.zero_le _) b0
  have hxl : x.args.length ≤ 24 := Nat.le_trans (hla _ _ hx) a24
  have e1 : firstAny 2 B (fun k => sameT A B 24 0 k.toNat) = (decide (y.kind = 2) && y.args.any (fun k => sameT A B 24 0 k.toNat)) := by unfold firstAny; rw [hy]
  have e2 : firstAny 1 A (fun k => sameT A B 24 k.toNat 0) = (decide (x.kind = 1) && x.args.any (fun k => sameT A B 24 k.toNat 0)) := by unfold firstAny; rw [hx]
  rw [e1, e2] at he2
  have HY : Hid (∀ a ∈ y.args, (0 : Int) < a ∧ a < (B.length : Int)) := Lib.hid hargy
  have HX : Hid (∀ a ∈ x.args, (0 : Int) < a ∧ a < (A.length : Int)) := Lib.hid hargx
  have KC1 : Hid (∀ V, Sd V g4 g5 ta A tc tb B td → Calls Tryd.prog 20 #[.slice y.aa y.args.length y.ac, .func (.func 21) #[] #[.pointer (some ⟨g4, 0, none⟩), .pointer (some ⟨g5, 0, none⟩)]] V fun e w' => e = .returned (.bool (y.args.any (fun k => sameT A B 24 0 k.toNat))) ∧ Below V.heap.size V w') := Lib.hid fun V hV => by
    obtain ⟨_, _, y', -, hy', -, hr, hin⟩ := hV.rb.trm (k := 0) b0
    obtain rfl := Option.some.inj (hy'.out.symm.trans hy)
    exact wk1_any (p := fun k => sameT A B 24 0 k.toNat) (gv := g4) (gw := g5) y'.aa y'.args y'.ac V (fun V2 hV2 r hr2 => by
      have h1 := HY.out r hr2
      have h2 := KS.out 0 r.toNat a0 (by omega) V2 (hV.keep hV2)
      rw [show ((r.toNat : Nat) : Int) = r by omega] at h2
      exact weak1_clo V2 (hV.keep hV2).c (hV.keep hV2).d h2) hr hin.2.2.2.2.2
  have KC2 : Hid (∀ V, Sd V g4 g5 ta A tc tb B td → Calls Tryd.prog 20 #[.slice x.aa x.args.length x.ac, .func (.func 22) #[] #[.pointer (some ⟨g4, 0, none⟩), .pointer (some ⟨g5, 0, none⟩)]] V fun e w' => e = .returned (.bool (x.args.any (fun k => sameT A B 24 k.toNat 0))) ∧ Below V.heap.size V w') := Lib.hid fun V hV => by
    obtain ⟨_, _, x', -, hx', -, hr, hin⟩ := hV.ra.trm (k := 0) a0
    obtain rfl := Option.some.inj (hx'.out.symm.trans hx)
    exact wk2_any (p := fun k => sameT A B 24 k.toNat 0) (gv := g4) (gw := g5) x'.aa x'.args x'.ac V (fun V2 hV2 r hr2 => by
      have h1 := HX.out r hr2
      have h2 := KS.out r.toNat 0 (by omega) b0 V2 (hV.keep hV2)
      rw [show ((r.toNat : Nat) : Int) = r by omega] at h2
      exact weak2_clo V2 (hV.keep hV2).c (hV.keep hV2).d h2) hr hin.2.2.2.2.2
  have hx := Lib.hid hx
  have hy := Lib.hid hy
  generalize y.args.any (fun k => sameT A B 24 0 k.toNat) = C1 at *
  generalize x.args.any (fun k => sameT A B 24 k.toNat 0) = C2 at *
  generalize sameT A B 24 0 0 = S00 at *
  have HE := Lib.hid he2
  have haI : (0 : Int) < (A.length : Int) := by omega
  have hbI : (0 : Int) < (B.length : Int) := by omega
  clear KS he2 e1 e2 sa sb hla hargx hargy
  go_upto_region 3 with (first
      | (go_at_call 18; (with_reducible refine (KVA.out _ HS0.out.ra).mono ?_); (first | rintro e w2 rfl hb2 | rintro e w2 ⟨rfl, hb2⟩); have HS2 := Lib.hid (HS0.out.keep hb2); have HB2 := Lib.hid (HB0.out.trans (hb2.mono HB0.out.size)); have c6 := HS2.out.d.cell 0 rfl; clear hb2)
      | (go_at_call 18; (with_reducible refine (KVB.out _ HS2.out.rb).mono ?_); (first | rintro e w3 rfl hb3 | rintro e w3 ⟨rfl, hb3⟩); have HS3 := Lib.hid (HS2.out.keep hb3); have HB3 := Lib.hid (HB2.out.trans (hb3.mono HB2.out.size)); have c7 := HS3.out.c.cell 0 rfl; have c8 := HS3.out.d.cell 0 rfl; clear hb3))
  cases S00 with
  | true =>
    have HR : Hid (R = true) := Lib.hid (by rw [HE.out]; rfl)
    go_wp2_with (go_at_call 19; (with_reducible refine (K00.out _ HS3.out).mono ?_); (first | rintro e w4 rfl hb4 | rintro e w4 ⟨rfl, hb4⟩))
    go_ret
    exact ⟨ret_bool HR.out.symm, HB3.out.trans (hb4.mono HB3.out.size)⟩
  | false =>
  go_upto_region 5 with (go_at_call 19; (with_reducible refine (K00.out _ HS3.out).mono ?_); (first | rintro e w4 rfl hb4 | rintro e w4 ⟨rfl, hb4⟩); have HS4 := Lib.hid (HS3.out.keep hb4); have HB4 := Lib.hid (HB3.out.trans (hb4.mono HB3.out.size)); clear hb4)
  have hSd := HS4.out
  have HBD := HB4.out.drew
  clear HS0 HS2 HS3 HS4 HB0 HB2 HB3 HB4 c4 c5 c6 c7 c8 KVA KVB K00
  obtain ⟨g1, o1, x', rfl, -, -, -, -⟩ := hSd.ra.trm (k := 0) a0
  obtain ⟨g2, o2, y', rfl, -, -, -, -⟩ := hSd.rb.trm (k := 0) b0
  generalize hw5 : w4 = w5 at *
  clear hw5
  go_cut [5, 6] (fun v9 v10 wx => ∃ g9 g10 : Nat, v9 = .pointer (some ⟨g9, 0, none⟩) ∧ v10 = .pointer (some ⟨g10, 0, none⟩) ∧ Sf w wx g4 g5 (some ⟨g1, o1, none⟩) A tc (some ⟨g2, o2, none⟩) B td g9 g10 x y)
  case first =>
    refine wp_region_held_drew (S := fun w' => w'.cell? ⟨g4, 0, none⟩ = some (.slice (some ⟨g1, o1, none⟩) A.length tc) ∧ w'.cell? ⟨g5, 0, none⟩ = some (.slice (some ⟨g2, o2, none⟩) B.length td) ∧ w'.cell? ⟨g1, o1, none⟩ = some (.int .i64 x.kind) ∧ w'.cell? ⟨g1, o1 + 1, none⟩ = some (.int .i64 x.number) ∧ w'.cell? ⟨g1, o1 + 2, none⟩ = some (.int .i64 x.years) ∧ w'.cell? ⟨g1, o1 + 3, none⟩ = some (.string ⟨x.field.toArray⟩) ∧ w'.cell? ⟨g1, o1 + 4, none⟩ = some (.string ⟨x.text.toArray⟩) ∧ w'.cell? ⟨g1, o1 + 5, none⟩ = some (.slice x.aa x.args.length x.ac) ∧ w'.cell? ⟨g2, o2, none⟩ = some (.int .i64 y.kind) ∧ w'.cell? ⟨g2, o2 + 1, none⟩ = some (.int .i64 y.number) ∧ w'.cell? ⟨g2, o2 + 2, none⟩ = some (.int .i64 y.years) ∧ w'.cell? ⟨g2, o2 + 3, none⟩ = some (.string ⟨y.field.toArray⟩) ∧ w'.cell? ⟨g2, o2 + 4, none⟩ = some (.string ⟨y.text.toArray⟩) ∧ w'.cell? ⟨g2, o2 + 5, none⟩ = some (.slice y.aa y.args.length y.ac)) (by kernel_rfl) ((hSd.keep (Below.refl _ _).drew).held0 hx hy) (fun hHeld => ?_)
    simp only [List.size_toArray, List.length_cons, List.length_nil]
    replace hSd := hSd.keep (Below.refl _ _).drew
    generalize w5.drew = d at *
    obtain ⟨zx, zy, zb⟩ := z_two d
    have hZ := z_there (by rfl) zx zy
    have hSf := Sf.made (W := w) (x := x) (y := y) hSd HBD rfl (by rfl) zx zy zb
    have hH1 := Lib.hid ((hSd.keep ((Below.refl _ _).alloc (Nat.le_refl _) (.cells #[.int .i64 0, .int .i64 0, .int .i64 0, .string ⟨#[]⟩, .string ⟨#[]⟩, .slice none 0 0] 47))).held0 hx hy)
    have hH2 := Lib.hid ((hSd.keep zb).held0 hx hy)
    have hH3 := Lib.hid ((hSd.keep (below_setCells zb (g := d.heap.size) (Nat.le_refl _) zb.size 0 (trC x))).held0 hx hy)
    have hH4 := Lib.hid ((hSd.keep (below_setCells zb (g := d.heap.size + 1) (by omega) zb.size 0 (trC x))).held0 hx hy)
    replace hZ := Lib.hid hZ
    replace hSf := Lib.hid hSf
    clear zx zy zb
    replace hHeld := id hHeld
    refine held_take (0) (v := ?_) rfl (by kernel_rfl) (by kernel_rfl) (by kernel_rfl) (fun _ _ _ h => h) (Or.inl ⟨by rfl, ?_⟩) (by assumption) ?_
    rotate_left
    · intro w hSw
      try dsimp only at hSw
      go_simp
      with_reducible rfl
    try simp only [Act.put, List.setIfInBounds_toArray, List.set_cons_zero, List.set_cons_succ]
    refine held_take (1) (v := ?_) rfl (by kernel_rfl) (by kernel_rfl) (by kernel_rfl) (fun _ _ _ h => h) (Or.inl ⟨by rfl, ?_⟩) (by assumption) ?_
    rotate_left
    · intro w hSw
      try dsimp only at hSw
      go_simp
      with_reducible rfl
    try simp only [Act.put, List.setIfInBounds_toArray, List.set_cons_zero, List.set_cons_succ]
    refine held_take (2) (v := ?_) rfl (by kernel_rfl) (by kernel_rfl) (by kernel_rfl) (fun _ _ _ h => h) (Or.inl ⟨by rfl, ?_⟩) (by assumption) ?_
    rotate_left
    · intro w hSw
      try dsimp only at hSw
      go_simp
      with_reducible rfl
    try simp only [Act.put, List.setIfInBounds_toArray, List.set_cons_zero, List.set_cons_succ]
    refine held_take (3) (v := ?_) rfl (by kernel_rfl) (by kernel_rfl) (by kernel_rfl) (fun _ _ _ h => h) (Or.inl ⟨by rfl, ?_⟩) (by assumption) ?_
    rotate_left
    · intro w hSw
      try dsimp only at hSw
      go_simp
      with_reducible rfl
    try simp only [Act.put, List.setIfInBounds_toArray, List.set_cons_zero, List.set_cons_succ]
    refine held_take (4) (v := ?_) rfl (by kernel_rfl) (by kernel_rfl) (by kernel_rfl) (fun _ _ _ h => h) (Or.inl ⟨by rfl, ?_⟩) (by assumption) ?_
    rotate_left
    · intro w hSw
      try dsimp only at hSw
      go_simp
      with_reducible rfl
    try simp only [Act.put, List.setIfInBounds_toArray, List.set_cons_zero, List.set_cons_succ]
    refine held_take (5) (v := ?_) rfl (by kernel_rfl) (by kernel_rfl) (by kernel_rfl) (fun _ _ _ h => h) (Or.inl ⟨by rfl, ?_⟩) (by assumption) ?_
    rotate_left
    · intro w hSw
      try dsimp only at hSw
      go_simp
      with_reducible rfl
    try simp only [Act.put, List.setIfInBounds_toArray, List.set_cons_zero, List.set_cons_succ]
    refine held_take (6) (v := ?_) rfl (by kernel_rfl) (by kernel_rfl) (by kernel_rfl) (fun _ _ _ h => h) (Or.inl ⟨by rfl, ?_⟩) (by assumption) ?_
    rotate_left
    · intro w hSw
      try dsimp only at hSw
      go_simp
      with_reducible rfl
    try simp only [Act.put, List.setIfInBounds_toArray, List.set_cons_zero, List.set_cons_succ]
    refine held_take (7) (v := ?_) rfl (by kernel_rfl) (by kernel_rfl) (by kernel_rfl) (fun _ _ _ h => h) (Or.inl ⟨by rfl, ?_⟩) (by assumption) ?_
    rotate_left
    · intro w hSw
      try dsimp only at hSw
      go_simp
      with_reducible rfl
    try simp only [Act.put, List.setIfInBounds_toArray, List.set_cons_zero, List.set_cons_succ]
    refine wpAnyH_ready (rs := [8, 9]) (by kernel_rfl) (by simp) ?_
    refine held_cons rfl (fun K hK => ?_) ?_
    · skip
      go_simp
      refine hK.out _ _ hH1.out (fun hHeld => ?_)
      clear hK K
      try simp only [Act.put, List.setIfInBounds_toArray, List.set_cons_zero, List.set_cons_succ]
      refine wpAnyH_ready (rs := [9]) (by kernel_rfl) (by simp) ?_
      refine held_cons rfl (fun K hK => ?_) AllReadyH.nil
      go_simp
      refine hK.out _ _ hH2.out (fun hHeld => ?_)
      clear hK K
      try simp only [Act.put, List.setIfInBounds_toArray, List.set_cons_zero, List.set_cons_succ]
      refine wpAnyH_ready (rs := [10]) (by kernel_rfl) (by simp) ?_
      refine held_cons rfl (fun K hK => ?_) AllReadyH.nil
      refine step_store_row rfl 47 (.tmp 5) (.tmp 21) rfl d.heap.size 0 6 (trC x) rfl rfl rfl hZ.out.1 tr_six (tr_one x) ?_
      refine hK.out _ _ hH3.out (fun hHeld => ?_)
      clear hK K
      try simp only [Act.put]
      refine wpAnyH_ready (rs := [11]) (by kernel_rfl) (by simp) ?_
      refine held_cons rfl (fun K hK => ?_) AllReadyH.nil
      have hz3 := (hZ.out.2.2 x).1
      have hf3 := hSf.out.1
      clear hZ hSf hH1 hH2 hH3 hH4 hHeld
      generalize ((d.alloc (.cells #[.int .i64 0, .int .i64 0, .int .i64 0, .string ⟨#[]⟩, .string ⟨#[]⟩, .slice none 0 0] 47)).alloc (.cells #[.int .i64 0, .int .i64 0, .int .i64 0, .string ⟨#[]⟩, .string ⟨#[]⟩, .slice none 0 0] 47)).setCells d.heap.size 0 (trC x) = w3 at *
      refine step_store_row rfl 47 (.tmp 6) (.tmp 25) rfl (d.heap.size + 1) 0 6 (trC y) rfl rfl rfl hz3 tr_six (tr_one y) ?_
      refine hK.out _ _ (hf3.s.held0 hx hy) (fun hHeld => ?_)
      clear hK K
      try simp only [Act.put]
      refine wpAnyH_done (by kernel_rfl) ?_ _
      generalize w3.setCells (d.heap.size + 1) 0 (trC y) = w9 at *
      clear hz3 hHeld
      go_simp
      go_wp2_with fail
      go_meet
      exact ⟨_, _, rfl, rfl, hf3⟩
    · refine held_cons rfl (fun K hK => ?_) AllReadyH.nil
      go_simp
      refine hK.out _ _ hH1.out (fun hHeld => ?_)
      clear hK K
      try simp only [Act.put, List.setIfInBounds_toArray, List.set_cons_zero, List.set_cons_succ]
      refine wpAnyH_ready (rs := [8]) (by kernel_rfl) (by simp) ?_
      refine held_cons rfl (fun K hK => ?_) AllReadyH.nil
      go_simp
      refine hK.out _ _ hH2.out (fun hHeld => ?_)
      clear hK K
      try simp only [Act.put, List.setIfInBounds_toArray, List.set_cons_zero, List.set_cons_succ]
      refine wpAnyH_ready (rs := [10]) (by kernel_rfl) (by simp) ?_
      refine held_cons rfl (fun K hK => ?_) AllReadyH.nil
      refine step_store_row rfl 47 (.tmp 5) (.tmp 21) rfl (d.heap.size + 1) 0 6 (trC x) rfl rfl rfl hZ.out.2.1 tr_six (tr_one x) ?_
      refine hK.out _ _ hH4.out (fun hHeld => ?_)
      clear hK K
      try simp only [Act.put]
      refine wpAnyH_ready (rs := [11]) (by kernel_rfl) (by simp) ?_
      refine held_cons rfl (fun K hK => ?_) AllReadyH.nil
      have hz3 := (hZ.out.2.2 x).2
      have hf3 := hSf.out.2
      clear hZ hSf hH1 hH2 hH3 hH4 hHeld
      generalize ((d.alloc (.cells #[.int .i64 0, .int .i64 0, .int .i64 0, .string ⟨#[]⟩, .string ⟨#[]⟩, .slice none 0 0] 47)).alloc (.cells #[.int .i64 0, .int .i64 0, .int .i64 0, .string ⟨#[]⟩, .string ⟨#[]⟩, .slice none 0 0] 47)).setCells (d.heap.size + 1) 0 (trC x) = w3 at *
      refine step_store_row rfl 47 (.tmp 6) (.tmp 25) rfl d.heap.size 0 6 (trC y) rfl rfl rfl hz3 tr_six (tr_one y) ?_
      refine hK.out _ _ (hf3.s.held0 hx hy) (fun hHeld => ?_)
      clear hK K
      try simp only [Act.put]
      refine wpAnyH_done (by kernel_rfl) ?_ _
      generalize w3.setCells d.heap.size 0 (trC y) = w9 at *
      clear hz3 hHeld
      go_simp
      go_wp2_with fail
      go_meet
      exact ⟨_, _, rfl, rfl, hf3⟩
  case rest =>
    obtain ⟨g9, g10, rfl, rfl, hS⟩ := hcut
    clear hSd HBD
    have x0 := hS.x.cell 0 rfl
    have x5 := hS.x.cell 5 rfl
    have y0 := hS.y.cell 0 rfl
    have y5 := hS.y.cell 5 rfl
    have HS := Lib.hid hS
    clear hS
    cases hky : decide (y.kind = 2) with
    | false =>
      have hkf := of_decide_eq_false hky
      have e1 : (y.kind == 2) = false := by rw [beq_eq_false_iff_ne]; exact hkf
      rw [hky] at HE
      clear hkf
      cases hkx : decide (x.kind = 1) with
      | false =>
        have hkf := of_decide_eq_false hkx
        have e2 : (x.kind == 1) = false := by rw [beq_eq_false_iff_ne]; exact hkf
        rw [hkx] at HE
        have HR : Hid (R = false) := Lib.hid (by rw [HE.out]; rfl)
        clear HE hkf
        go_wp2
        go_ret
        exact ⟨ret_bool HR.out.symm, HS.out.b⟩
      | true =>
        have hkf := of_decide_eq_true hkx
        have e2 : (x.kind == 1) = true := by rw [beq_iff_eq]; exact hkf
        rw [hkx] at HE
        have HR : Hid (R = C2) := Lib.hid (by rw [HE.out]; simp)
        clear HE hkf
        go_wp2_with (go_at_call 20; (with_reducible refine (KC2.out _ HS.out.s).mono ?_); (first | rintro e w7 rfl hb7 | rintro e w7 ⟨rfl, hb7⟩))
        go_ret
        exact ⟨ret_bool HR.out.symm, HS.out.b.trans (hb7.mono HS.out.b.size)⟩
    | true =>
      have hkf := of_decide_eq_true hky
      have e1 : (y.kind == 2) = true := by rw [beq_iff_eq]; exact hkf
      rw [hky] at HE
      clear hkf
      cases C1 with
      | true =>
        have HR : Hid (R = true) := Lib.hid (by rw [HE.out]; rfl)
        clear HE
        go_wp2_with (go_at_call 20; (with_reducible refine (KC1.out _ HS.out.s).mono ?_); (first | rintro e w7 rfl hb7 | rintro e w7 ⟨rfl, hb7⟩))
        go_ret
        exact ⟨ret_bool HR.out.symm, HS.out.b.trans (hb7.mono HS.out.b.size)⟩
      | false =>
      cases hkx : decide (x.kind = 1) with
      | false =>
        have hkf := of_decide_eq_false hkx
        have e2 : (x.kind == 1) = false := by rw [beq_eq_false_iff_ne]; exact hkf
        rw [hkx] at HE
        have HR : Hid (R = false) := Lib.hid (by rw [HE.out]; rfl)
        clear HE hkf
        go_wp2_with (go_at_call 20; (with_reducible refine (KC1.out _ HS.out.s).mono ?_); (first | rintro e w7 rfl hb7 | rintro e w7 ⟨rfl, hb7⟩); have x0 := (HS.out.keep hb7).x.cell 0 rfl)
        go_ret
        exact ⟨ret_bool HR.out.symm, HS.out.b.trans (hb7.mono HS.out.b.size)⟩
      | true =>
        have hkf := of_decide_eq_true hkx
        have e2 : (x.kind == 1) = true := by rw [beq_iff_eq]; exact hkf
        rw [hkx] at HE
        have HR : Hid (R = C2) := Lib.hid (by rw [HE.out]; simp)
        clear HE hkf
        go_wp2_with (first
          | (go_at_call 20; (with_reducible refine (KC1.out _ HS.out.s).mono ?_); (first | rintro e w7 rfl hb7 | rintro e w7 ⟨rfl, hb7⟩); have HS7 := Lib.hid (HS.out.keep hb7); clear hb7 x0 x5; have x0 := HS7.out.x.cell 0 rfl; have x5 := HS7.out.x.cell 5 rfl)
          | (go_at_call 20; (with_reducible refine (KC2.out _ HS7.out.s).mono ?_); (first | rintro e w8 rfl hb8 | rintro e w8 ⟨rfl, hb8⟩)))
        go_ret
        exact ⟨ret_bool HR.out.symm, HS7.out.b.trans (hb8.mono HS7.out.b.size)⟩
end Go.Proofs.YtejdaeonknpgeaaDoor
