/- Rolls: what a person signs, who is found: the reference's; the program's claim. -/
import Derived.Test.YtnahkfchcminpaaGreatDoorGEnrA
import Derived.Test.YtnahkfchcminpaaGreatDoorGNum
import Derived.Test.YtnahkfchcminpaaGreatDoorGPutR
import Derived.Test.YtnahkfchcminpaaGreatDoorGRowsC
namespace Go.Proofs.YtnahkfchcminpaaGreatDoor
open Go.RowKit
theorem clmF_len {id dep : Int} (h1 : I64 id) (h2 : I64 dep) : (clmF id dep).length ≤ 100 := by
  have l1 := putInt_ten h1
  have l2 := putInt_ten h2
  simp only [clmF, List.length_append, List.length_cons, List.length_nil]
  omega
set_option maxRecDepth 100000 in
theorem eclaim_walk (id dep : Int) (w : World) (h1 : I64 id) (h2 : I64 dep) :
    Calls Tryz.prog 11 #[.int .i64 id, .int .i64 dep] w fun e w' => e = .returned (.string ⟨(clmF id dep).toArray⟩) ∧ Below w.heap.size w w' := by
  have l1 := putInt_ten h1
  have k1 : ∀ V, Calls Tryz.prog 26 #[.string ⟨#[101, 110, 114, 111, 108]⟩, .int .i64 id] V fun e w' => e = .returned (.string ⟨([101, 110, 114, 111, 108] ++ putInt id).toArray⟩) ∧ Below V.heap.size V w' := fun V => putInt_any [101, 110, 114, 111, 108] id V h1 (by simp)
  have k2 : ∀ V, Calls Tryz.prog 26 #[.string ⟨([101, 110, 114, 111, 108] ++ putInt id).toArray⟩, .int .i64 dep] V fun e w' => e = .returned (.string ⟨(clmF id dep).toArray⟩) ∧ Below V.heap.size V w' := fun V => putInt_any _ dep V h2 (by simp only [List.length_append, List.length_cons, List.length_nil]; omega)
  generalize clmF id dep = s2 at *
  generalize [101, 110, 114, 111, 108] ++ putInt id = s1 at *
  have K1 := Lib.hid k1
  have K2 := Lib.hid k2
  clear k1 k2 l1
  go_enter Tryz.func11, Tryz.ntmps11
  go_wp2_with (first
    | (go_at_call 26; ((with_reducible refine (K1.out _).mono ?_)); rintro e w1 ⟨rfl, hb1⟩)
    | (go_at_call 26; ((with_reducible refine (K2.out _).mono ?_)); rintro e w2 ⟨rfl, hb2⟩))
  go_ret
  exact ⟨rfl, below_tr hb1 hb2⟩
set_option maxRecDepth 100000 in
theorem reclaim_walk (id dep : Int) (w : World) (h1 : I64 id) (h2 : I64 dep) :
    Calls Tryz.prog 20 #[.int .i64 id, .int .i64 dep] w fun e w' => e = .returned (.string ⟨(clmF id dep).toArray⟩) ∧ Below w.heap.size w w' := by
  have l1 := putInt_ten h1
  have k1 : ∀ V, Calls Tryz.prog 46 #[.string ⟨#[101, 110, 114, 111, 108]⟩, .int .i64 id] V fun e w' => e = .returned (.string ⟨([101, 110, 114, 111, 108] ++ putInt id).toArray⟩) ∧ Below V.heap.size V w' := fun V => rputInt_walk [101, 110, 114, 111, 108] id V h1 (by simp)
  have k2 : ∀ V, Calls Tryz.prog 46 #[.string ⟨([101, 110, 114, 111, 108] ++ putInt id).toArray⟩, .int .i64 dep] V fun e w' => e = .returned (.string ⟨(clmF id dep).toArray⟩) ∧ Below V.heap.size V w' := fun V => rputInt_walk _ dep V h2 (by simp only [List.length_append, List.length_cons, List.length_nil]; omega)
  generalize clmF id dep = s2 at *
  generalize [101, 110, 114, 111, 108] ++ putInt id = s1 at *
  have K1 := Lib.hid k1
  have K2 := Lib.hid k2
  clear k1 k2 l1
  go_enter Tryz.func20, Tryz.ntmps20
  go_wp2_with (first
    | (go_at_call 46; ((with_reducible refine (K1.out _).mono ?_)); rintro e w1 ⟨rfl, hb1⟩)
    | (go_at_call 46; ((with_reducible refine (K2.out _).mono ?_)); rintro e w2 ⟨rfl, hb2⟩))
  go_ret
  exact ⟨rfl, below_tr hb1 hb2⟩
/-- a person and a Bool that are returned -/
theorem Bx.prs {fn : Func} {t u : Tmp} (h : fn.results = #[.cell t 43, .tmp u]) (tmps : Array Value) {w : World} {g : Nat} {r : Prs} (ht : tmps.getD t undef = .pointer (some ⟨g, 0, none⟩)) (hD : Bx w g 43 (prC r)) :
    (results fn tmps).run Tryz.prog w = .ok (.tuple #[prV r, tmps.getD u undef]) w := by
  have c0 := hD.cell 0 (v := .int .i64 r.id) rfl
  have c1 := hD.cell 1 (v := .int .i64 r.key) rfl
  have c2 := hD.cell 2 (v := .int .i64 r.dep) rfl
  have ht' : tmps[t]?.getD undef = .pointer (some ⟨g, 0, none⟩) := by simpa using ht
  simp [results, h, ht', go_sem, c0, c1, c2]
set_option maxRecDepth 100000 in
set_option maxHeartbeats 1000000 in
theorem rfind_walk (p : Int) (a : Option Addr) (l : List Prs) (c : Nat) (z : Int) (w : World) (hR : Rd w a (rowsC prC l)) (hn : l.length ≤ 281474976710656) :
    Calls Tryz.prog 40 #[.agg #[.int .i64 p, .slice a l.length c], .int .i64 z] w fun e w' => e = .returned (.tuple #[prV ((fstP Prs.id l z).getD Prs.zero), .bool (fstP Prs.id l z).isSome]) ∧ Below w.heap.size w w' := by
  obtain ⟨w0, hw0⟩ : ∃ w0, w0 = (w.alloc (.cells #[.int .i64 p, .slice a l.length c] 30)).alloc (.cells #[.int .i64 0, .int .i64 0, .int .i64 0] 43) := ⟨_, rfl⟩
  have hb0 : Below w.heap.size w w0 := by rw [hw0]; exact ((Below.refl w.heap.size w).alloc (Nat.le_refl _) _).alloc (by simp) _
  obtain ⟨gb, hgb⟩ : ∃ g, g = w.heap.size := ⟨_, rfl⟩
  have hG : Bx w0 gb 30 [.int .i64 p, .slice a l.length c] := by rw [hw0, hgb]; exact (Bx.new w 30 [.int .i64 p, .slice a l.length c]).alloc _
  have hZ : Bx w0 (gb + 1) 43 (prC Prs.zero) := by
    rw [hw0, hgb]
    have := Bx.new (w.alloc (.cells #[.int .i64 p, .slice a l.length c] 30)) 43 (prC Prs.zero)
    simpa [prC, Prs.zero] using this
  have hR0 := hR.keep hb0
  have hbw : w.heap.size = gb := hgb.symm
  have HB := Lib.hid hb0
  clear hgb hR hb0
  go_enter Tryz.func40, Tryz.ntmps40
  go_upto_region 1 with (fail)
  rw [← hw0]
  clear hw0
  go_wp2_with fail
  go_loopw [6] (fun i wr => ∃ k : Nat, k ≤ l.length ∧ i = .int .i64 (k : Int) ∧ (∀ (j : Nat) (x : Prs), j < k → l[j]? = some x → x.id ≠ z) ∧ Below w0.heap.size w0 wr) (fun i _ => l.length - (intOf i).toNat)
  case atStart => exact ⟨0, Nat.zero_le _, rfl, fun j x h => by omega, Below.refl _ _⟩
  case round =>
    obtain ⟨k, hk, rfl, hno, hB⟩ := hrel
    have HNO := Lib.hid hno
    clear hno
    replace hG := hG.keep hB
    replace hZ := hZ.keep hB
    have hbb := HB.out.trans (hB.mono HB.out.size)
    have c1 := hG.cell 1 (v := .slice a l.length c) rfl
    have z0 := hZ.cell 0 (v := .int .i64 0) rfl
    have z1 := hZ.cell 1 (v := .int .i64 0) rfl
    have z2 := hZ.cell 2 (v := .int .i64 0) rfl
    have f0 := hZ.free 0
    have f1 := hZ.free 1
    have f2 := hZ.free 2
    by_cases hkt : k < l.length
    rotate_left
    · have hkl : ¬ ((k : Int) < (l.length : Int)) := by omega
      have HF := Lib.hid (fstP_none (f := Prs.id) (l := l) (z := z) fun j x hj => HNO.out j x (by omega))
      have HX := Lib.hid (((hZ.set 0 (.int .i64 0)).set 1 (.int .i64 0)).set 2 (.int .i64 0))
      have HBB := Lib.hid (((hbb.setCell (p := ⟨gb + 1, 0, none⟩) (by show _ ≤ gb + 1; omega) (.int .i64 0)).setCell (p := ⟨gb + 1, 1, none⟩) (by show _ ≤ gb + 1; omega) (.int .i64 0)).setCell (p := ⟨gb + 1, 2, none⟩) (by show _ ≤ gb + 1; omega) (.int .i64 0))
      clear hG hZ hbb hB HNO
      go_wp2
      exact bodyPost_ret (Bx.prs (t := 4) (u := 5) (r := Prs.zero) rfl _ rfl HX.out) rfl ⟨by rw [HF.out]; rfl, hbw ▸ HBB.out⟩
    obtain ⟨g, off, r, rfl, hr, hcell⟩ := (hR0.keep hB).rows (f := prC) (k := 3) prC_len (by decide) hkt
    have d0 := hcell 0 (.int .i64 r.id) rfl
    have d1 := hcell 1 (.int .i64 r.key) rfl
    have d2 := hcell 2 (.int .i64 r.dep) rfl
    rw [Nat.add_zero] at d0
    have hkl : (k : Int) < (l.length : Int) := by omega
    clear hcell
    by_cases he : r.id = z
    · have t1 : (r.id == z) = true := by rw [beq_iff_eq]; exact he
      have HF := Lib.hid (fstP_at hr.out he HNO.out)
      have HX := Lib.hid (((hZ.set 0 (.int .i64 r.id)).set 1 (.int .i64 r.key)).set 2 (.int .i64 r.dep))
      have HBB := Lib.hid (((hbb.setCell (p := ⟨gb + 1, 0, none⟩) (by show _ ≤ gb + 1; omega) (.int .i64 r.id)).setCell (p := ⟨gb + 1, 1, none⟩) (by show _ ≤ gb + 1; omega) (.int .i64 r.key)).setCell (p := ⟨gb + 1, 2, none⟩) (by show _ ≤ gb + 1; omega) (.int .i64 r.dep))
      clear hG hZ hbb hB HNO he hr
      go_wp2
      exact bodyPost_ret (Bx.prs (t := 4) (u := 5) (r := r) rfl _ rfl HX.out) rfl ⟨by rw [HF.out]; rfl, hbw ▸ HBB.out⟩
    · have t1 : (r.id == z) = false := by rw [beq_eq_false_iff_ne]; exact he
      have HS : Hid (∀ (j : Nat) (x : Prs), j < k + 1 → l[j]? = some x → x.id ≠ z) := Lib.hid fun j x hj hx => by
        by_cases e : j = k
        · subst e; rw [hr.out] at hx; cases hx; exact he
        · exact HNO.out j x (by omega) hx
      clear hG hZ hbb HNO he hr
      go_wp2
      go_roundw
      case rel => exact ⟨k + 1, by omega, by go_num, HS.out, hB⟩
      case measure => simp [intOf]; omega
set_option maxRecDepth 100000 in
set_option maxHeartbeats 1000000 in
theorem rby_walk (p : Int) (a : Option Addr) (l : List Prs) (c : Nat) (z : Int) (w : World) (hR : Rd w a (rowsC prC l)) (hn : l.length ≤ 281474976710656) :
    Calls Tryz.prog 42 #[.agg #[.int .i64 p, .slice a l.length c], .int .i64 z] w fun e w' => e = .returned (.tuple #[prV ((fstP Prs.key l z).getD Prs.zero), .bool (fstP Prs.key l z).isSome]) ∧ Below w.heap.size w w' := by
  obtain ⟨w0, hw0⟩ : ∃ w0, w0 = (w.alloc (.cells #[.int .i64 p, .slice a l.length c] 30)).alloc (.cells #[.int .i64 0, .int .i64 0, .int .i64 0] 43) := ⟨_, rfl⟩
  have hb0 : Below w.heap.size w w0 := by rw [hw0]; exact ((Below.refl w.heap.size w).alloc (Nat.le_refl _) _).alloc (by simp) _
  obtain ⟨gb, hgb⟩ : ∃ g, g = w.heap.size := ⟨_, rfl⟩
  have hG : Bx w0 gb 30 [.int .i64 p, .slice a l.length c] := by rw [hw0, hgb]; exact (Bx.new w 30 [.int .i64 p, .slice a l.length c]).alloc _
  have hZ : Bx w0 (gb + 1) 43 (prC Prs.zero) := by
    rw [hw0, hgb]
    have := Bx.new (w.alloc (.cells #[.int .i64 p, .slice a l.length c] 30)) 43 (prC Prs.zero)
    simpa [prC, Prs.zero] using this
  have hR0 := hR.keep hb0
  have hbw : w.heap.size = gb := hgb.symm
  have HB := Lib.hid hb0
  clear hgb hR hb0
  go_enter Tryz.func42, Tryz.ntmps42
  go_upto_region 1 with (fail)
  rw [← hw0]
  clear hw0
  go_wp2_with fail
  go_loopw [6] (fun i wr => ∃ k : Nat, k ≤ l.length ∧ i = .int .i64 (k : Int) ∧ (∀ (j : Nat) (x : Prs), j < k → l[j]? = some x → x.key ≠ z) ∧ Below w0.heap.size w0 wr) (fun i _ => l.length - (intOf i).toNat)
  case atStart => exact ⟨0, Nat.zero_le _, rfl, fun j x h => by omega, Below.refl _ _⟩
  case round =>
    obtain ⟨k, hk, rfl, hno, hB⟩ := hrel
    have HNO := Lib.hid hno
    clear hno
    replace hG := hG.keep hB
    replace hZ := hZ.keep hB
    have hbb := HB.out.trans (hB.mono HB.out.size)
    have c1 := hG.cell 1 (v := .slice a l.length c) rfl
    have z0 := hZ.cell 0 (v := .int .i64 0) rfl
    have z1 := hZ.cell 1 (v := .int .i64 0) rfl
    have z2 := hZ.cell 2 (v := .int .i64 0) rfl
    have f0 := hZ.free 0
    have f1 := hZ.free 1
    have f2 := hZ.free 2
    by_cases hkt : k < l.length
    rotate_left
    · have hkl : ¬ ((k : Int) < (l.length : Int)) := by omega
      have HF := Lib.hid (fstP_none (f := Prs.key) (l := l) (z := z) fun j x hj => HNO.out j x (by omega))
      have HX := Lib.hid (((hZ.set 0 (.int .i64 0)).set 1 (.int .i64 0)).set 2 (.int .i64 0))
      have HBB := Lib.hid (((hbb.setCell (p := ⟨gb + 1, 0, none⟩) (by show _ ≤ gb + 1; omega) (.int .i64 0)).setCell (p := ⟨gb + 1, 1, none⟩) (by show _ ≤ gb + 1; omega) (.int .i64 0)).setCell (p := ⟨gb + 1, 2, none⟩) (by show _ ≤ gb + 1; omega) (.int .i64 0))
      clear hG hZ hbb hB HNO
      go_wp2
      exact bodyPost_ret (Bx.prs (t := 4) (u := 5) (r := Prs.zero) rfl _ rfl HX.out) rfl ⟨by rw [HF.out]; rfl, hbw ▸ HBB.out⟩
    obtain ⟨g, off, r, rfl, hr, hcell⟩ := (hR0.keep hB).rows (f := prC) (k := 3) prC_len (by decide) hkt
    have d0 := hcell 0 (.int .i64 r.id) rfl
    have d1 := hcell 1 (.int .i64 r.key) rfl
    have d2 := hcell 2 (.int .i64 r.dep) rfl
    rw [Nat.add_zero] at d0
    have hkl : (k : Int) < (l.length : Int) := by omega
    clear hcell
    by_cases he : r.key = z
    · have t1 : (r.key == z) = true := by rw [beq_iff_eq]; exact he
      have HF := Lib.hid (fstP_at hr.out he HNO.out)
      have HX := Lib.hid (((hZ.set 0 (.int .i64 r.id)).set 1 (.int .i64 r.key)).set 2 (.int .i64 r.dep))
      have HBB := Lib.hid (((hbb.setCell (p := ⟨gb + 1, 0, none⟩) (by show _ ≤ gb + 1; omega) (.int .i64 r.id)).setCell (p := ⟨gb + 1, 1, none⟩) (by show _ ≤ gb + 1; omega) (.int .i64 r.key)).setCell (p := ⟨gb + 1, 2, none⟩) (by show _ ≤ gb + 1; omega) (.int .i64 r.dep))
      clear hG hZ hbb hB HNO he hr
      go_wp2
      exact bodyPost_ret (Bx.prs (t := 4) (u := 5) (r := r) rfl _ rfl HX.out) rfl ⟨by rw [HF.out]; rfl, hbw ▸ HBB.out⟩
    · have t1 : (r.key == z) = false := by rw [beq_eq_false_iff_ne]; exact he
      have HS : Hid (∀ (j : Nat) (x : Prs), j < k + 1 → l[j]? = some x → x.key ≠ z) := Lib.hid fun j x hj hx => by
        by_cases e : j = k
        · subst e; rw [hr.out] at hx; cases hx; exact he
        · exact HNO.out j x (by omega) hx
      clear hG hZ hbb HNO he hr
      go_wp2
      go_roundw
      case rel => exact ⟨k + 1, by omega, by go_num, HS.out, hB⟩
      case measure => simp [intOf]; omega
end Go.Proofs.YtnahkfchcminpaaGreatDoor
