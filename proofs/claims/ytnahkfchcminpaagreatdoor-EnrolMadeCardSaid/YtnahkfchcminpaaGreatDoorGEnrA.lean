/- Rolls: which are right, who is found, what a person signs: plain. No program in sight. -/
import Derived.Test.YtnahkfchcminpaaGreatDoorGRowsC
import Derived.Test.YtnahkfchcminpaaGreatDoorGGrp
import Derived.Test.YtnahkfchcminpaaGreatDoorGNum
import Derived.Lib.QuietBelow
import Derived.Test.YtnahkfchcminpaaGreatDoorGCopyK
import Derived.Lib.SliceRun
namespace Go.Proofs.YtnahkfchcminpaaGreatDoor
open Go.RowKit
theorem prC_one (r : Prs) : ∀ u ∈ prC r, u.oneCell' = true := by
  intro u hu
  simp [prC] at hu
  rcases hu with rfl | rfl | rfl <;> rfl
abbrev prV (r : Prs) : Value := .agg #[.int .i64 r.id, .int .i64 r.key, .int .i64 r.dep]
def Prs.zero : Prs := ⟨0, 0, 0⟩
/-- person i is right behind those before them -/
def pOk (p : Nat) (l : List Prs) (i : Nat) (r : Prs) : Prop :=
  (1 ≤ r.id ∧ r.id ≤ 1048576) ∧ (∀ x, 0 < i → l[i - 1]? = some x → x.id < r.id) ∧ memZ p r.key = true ∧ r.key ≠ 1 ∧ (0 ≤ r.dep ∧ r.dep ≤ 63) ∧ ∀ (j : Nat) (x : Prs), j < i → l[j]? = some x → x.key ≠ r.key
/-- the first k people are right -/
def PGood (p : Nat) (l : List Prs) (k : Nat) : Prop := ∀ i r, i < k → l[i]? = some r → pOk p l i r
theorem PGood.zero (p : Nat) (l : List Prs) : PGood p l 0 := fun i r h => by omega
theorem PGood.succ {p : Nat} {l : List Prs} {k : Nat} {r : Prs} (h : PGood p l k) (hr : l[k]? = some r) (hf : pOk p l k r) : PGood p l (k + 1) := fun i x hi hx => by
  by_cases hik : i = k
  · subst hik; rw [hr] at hx; cases hx; exact hf
  · exact h i x (by omega) hx
open Classical in
/-- what is wrong with a roll -/
noncomputable def chkP (p : Int) (l : List Prs) : Int := if safeP p = true ∧ l.length ≤ 64 ∧ PGood p.toNat l l.length then 0 else 40
theorem chkP_ok {p : Int} {l : List Prs} (h0 : safeP p = true) (h1 : l.length ≤ 64) (h : PGood p.toNat l l.length) : chkP p l = 0 := if_pos ⟨h0, h1, h⟩
theorem chkP_no {p : Int} {l : List Prs} (h : ¬ (safeP p = true ∧ l.length ≤ 64 ∧ PGood p.toNat l l.length)) : chkP p l = 40 := if_neg h
theorem chkP_bad {p : Int} {l : List Prs} {k : Nat} {r : Prs} (hr : l[k]? = some r) (h : ¬ pOk p.toNat l k r) : chkP p l = 40 :=
  chkP_no fun ⟨_, _, hg⟩ => h (hg k r (List.getElem?_eq_some_iff.1 hr).1 hr)
theorem chkP_long {p : Int} {l : List Prs} (h : 64 < l.length) : chkP p l = 40 := chkP_no fun ⟨_, h1, _⟩ => by omega
theorem chkP_unsafe {p : Int} {l : List Prs} (h : safeP p = false) : chkP p l = 40 := chkP_no fun ⟨h1, _⟩ => by rw [h] at h1; cases h1
theorem chkP_cases (p : Int) (l : List Prs) : (chkP p l = 0 ∧ safeP p = true ∧ l.length ≤ 64 ∧ PGood p.toNat l l.length) ∨ chkP p l = 40 := by
  unfold chkP; split
  · next h => exact .inl ⟨rfl, h⟩
  · exact .inr rfl
/-- the first person of whom a number is asked -/
def fstP (f : Prs → Int) (l : List Prs) (z : Int) : Option Prs := l.find? fun r => f r == z
theorem fstP_at {f : Prs → Int} {l : List Prs} {z : Int} {k : Nat} {r : Prs} (hr : l[k]? = some r) (hf : f r = z) (h : ∀ (j : Nat) (x : Prs), j < k → l[j]? = some x → f x ≠ z) : fstP f l z = some r := by
  obtain ⟨hk, rfl⟩ := List.getElem?_eq_some_iff.1 hr
  refine List.find?_eq_some_iff_getElem.2 ⟨by simpa using hf, k, hk, rfl, fun j hj => ?_⟩
  have := h j l[j] hj (List.getElem?_eq_getElem (by omega))
  simpa using this
theorem fstP_none {f : Prs → Int} {l : List Prs} {z : Int} (h : ∀ (j : Nat) (x : Prs), j < l.length → l[j]? = some x → f x ≠ z) : fstP f l z = none := by
  refine List.find?_eq_none.2 fun x hx => ?_
  obtain ⟨j, hj, rfl⟩ := List.getElem_of_mem hx
  have := h j l[j] hj (List.getElem?_eq_getElem hj)
  simpa using this
/-- what a person signs -/
def clmF (id dep : Int) : List UInt8 := [101, 110, 114, 111, 108] ++ putInt id ++ putInt dep
/-- two rolls are equal -/
def eqR (p q : Int) (l m : List Prs) : Bool := decide (p = q ∧ l = m)
end Go.Proofs.YtnahkfchcminpaaGreatDoor
/- Rolls: whether two are equal: the reference's. -/
namespace Go.Proofs.YtnahkfchcminpaaGreatDoor
open Go.RowKit
theorem Rd.prs {w : World} {a : Option Addr} {l : List Prs} (h : Rd w a (rowsC prC l)) {k : Nat} (hk : k < l.length) :
    ∃ g off r, a = some ⟨g, off, none⟩ ∧ Hid (l[k]? = some r) ∧ w.cell? ⟨g, off + k * 3, none⟩ = some (.int .i64 r.id) ∧ w.cell? ⟨g, off + k * 3 + 1, none⟩ = some (.int .i64 r.key) ∧ w.cell? ⟨g, off + k * 3 + 2, none⟩ = some (.int .i64 r.dep) := by
  obtain ⟨g, off, r, ha, hr, hcell⟩ := h.rows (f := prC) (k := 3) prC_len (by decide) hk
  have d0 := hcell 0 (.int .i64 r.id) rfl
  have d1 := hcell 1 (.int .i64 r.key) rfl
  have d2 := hcell 2 (.int .i64 r.dep) rfl
  rw [Nat.add_zero] at d0
  exact ⟨g, off, r, ha, hr, d0, d1, d2⟩
theorem prs_first {a b : Prs} (h : a ≠ b) : ((a.id == b.id) = false) ∨ (a.id = b.id ∧ (a.key == b.key) = false) ∨ (a.id = b.id ∧ a.key = b.key ∧ (a.dep == b.dep) = false) := by
  obtain ⟨a0, a1, a2⟩ := a
  obtain ⟨b0, b1, b2⟩ := b
  dsimp only
  simp only [beq_eq_false_iff_ne]
  by_cases e0 : a0 = b0
  · by_cases e1 : a1 = b1
    · refine .inr (.inr ⟨e0, e1, fun e2 => h ?_⟩)
      subst e0; subst e1; subst e2; rfl
    · exact .inr (.inl ⟨e0, e1⟩)
  · exact .inl e0
theorem eqR_true {p : Int} {l : List Prs} : eqR p p l l = true := decide_eq_true ⟨rfl, rfl⟩
theorem eqR_p {p q : Int} {l m : List Prs} (h : p ≠ q) : eqR p q l m = false := decide_eq_false fun e => h e.1
theorem eqR_l {p q : Int} {l m : List Prs} (h : l ≠ m) : eqR p q l m = false := decide_eq_false fun e => h e.2
set_option maxRecDepth 100000 in
set_option maxHeartbeats 2000000 in
theorem rsame_walk (p q : Int) (a : Option Addr) (l : List Prs) (c : Nat) (b : Option Addr) (m : List Prs) (d : Nat) (w : World) (hR : Rd w a (rowsC prC l)) (hS : Rd w b (rowsC prC m)) (hn : l.length ≤ 1000000) :
    Calls Tryz.prog 14 #[.agg #[.int .i64 p, .slice a l.length c], .agg #[.int .i64 q, .slice b m.length d]] w fun e w' => e = .returned (.bool (eqR p q l m)) ∧ Below w.heap.size w w' := by
  obtain ⟨gb, hgb⟩ : ∃ g, g = w.heap.size := ⟨_, rfl⟩
  obtain ⟨w0, hw0⟩ : ∃ w0, w0 = (w.alloc (.cells #[.int .i64 p, .slice a l.length c] 30)).alloc (.cells #[.int .i64 q, .slice b m.length d] 30) := ⟨_, rfl⟩
  have hb0 : Below w.heap.size w w0 := by rw [hw0]; exact ((Below.refl w.heap.size w).alloc (Nat.le_refl _) _).alloc (by simp) _
  have hG : Bx w0 gb 30 [.int .i64 p, .slice a l.length c] := by rw [hw0, hgb]; exact (Bx.new w 30 [.int .i64 p, .slice a l.length c]).alloc _
  have hZ : Bx w0 (gb + 1) 30 [.int .i64 q, .slice b m.length d] := by
    rw [hw0, hgb]
    have := Bx.new (w.alloc (.cells #[.int .i64 p, .slice a l.length c] 30)) 30 [.int .i64 q, .slice b m.length d]
    simpa using this
  have hR0 := hR.keep hb0
  have hS0 := hS.keep hb0
  have hbw : w.heap.size = gb := hgb.symm
  have HB := Lib.hid hb0
  clear hgb hR hS hb0
  go_enter Tryz.func14, Tryz.ntmps14
  go_upto_region 1 with (fail)
  rw [← hw0]
  clear hw0
  have HG := Lib.hid hG
  have HZ := Lib.hid hZ
  have c0 := hG.cell 0 (v := .int .i64 p) rfl
  have c1 := hG.cell 1 (v := .slice a l.length c) rfl
  have e0 := hZ.cell 0 (v := .int .i64 q) rfl
  have e1 := hZ.cell 1 (v := .slice b m.length d) rfl
  clear hG hZ
  by_cases hpq : p = q
  rotate_left
  · have n0 : (p != q) = true := by simpa using hpq
    have HF := Lib.hid (eqR_p (l := l) (m := m) hpq)
    clear hpq hR0 hS0
    go_wp2
    go_ret
    exact ⟨ret_bool HF.out.symm, hbw ▸ HB.out⟩
  subst hpq
  have n0 : (p != p) = false := by simp
  by_cases hlm : l.length = m.length
  rotate_left
  · have n1 : ((l.length : Int) != (m.length : Int)) = true := by simp; omega
    have HF := Lib.hid (eqR_l (p := p) (q := p) (l := l) (m := m) (fun e => hlm (by rw [e])))
    clear hlm hR0 hS0
    go_wp2
    go_ret
    exact ⟨ret_bool HF.out.symm, hbw ▸ HB.out⟩
  have HL := Lib.hid hlm
  have n1 : ((l.length : Int) != (m.length : Int)) = false := by simp; omega
  clear hlm
  go_wp2_with fail
  clear c0 c1 e0 e1 n0 n1
  go_loopw [5] (fun i wr => ∃ k : Nat, k ≤ l.length ∧ i = .int .i64 (k : Int) ∧ (∀ j : Nat, j < k → l[j]? = m[j]?) ∧ Below w0.heap.size w0 wr) (fun i _ => l.length - (intOf i).toNat)
  case atStart => exact ⟨0, Nat.zero_le _, rfl, fun j h => by omega, Below.refl _ _⟩
  case round =>
    obtain ⟨k, hk, rfl, heq, hB⟩ := hrel
    have HEQ := Lib.hid heq
    clear heq
    have hG := HG.out.keep hB
    have hZ := HZ.out.keep hB
    have c1 := hG.cell 1 (v := .slice a l.length c) rfl
    have e1 := hZ.cell 1 (v := .slice b m.length d) rfl
    have HBB := Lib.hid (HB.out.trans (hB.mono HB.out.size))
    clear hG hZ
    by_cases hkt : k < l.length
    rotate_left
    · have hkl : ¬ ((k : Int) < (l.length : Int)) := by omega
      have HF := Lib.hid (show eqR p p l m = true by
        have : l = m := List.ext_getElem? fun j => by
          by_cases hj : j < k
          · exact HEQ.out j hj
          · rw [List.getElem?_eq_none (by omega), List.getElem?_eq_none (by have := HL.out; omega)]
        rw [this]; exact eqR_true)
      go_wp2
      go_ret
      exact ⟨ret_bool HF.out.symm, hbw ▸ HBB.out⟩
    have hkm : k < m.length := by have := HL.out; omega
    obtain ⟨g, off, r, rfl, hr, d0, d1, d2⟩ := (hR0.keep hB).prs hkt
    obtain ⟨g', off', r', rfl, hr', f0, f1, f2⟩ := (hS0.keep hB).prs hkm
    have hkl : (k : Int) < (l.length : Int) := by omega
    have hkl' : (k : Int) < (m.length : Int) := by omega
    have HT : Hid (r = r' → ∀ j : Nat, j < k + 1 → l[j]? = m[j]?) := Lib.hid fun e j hj => by
      by_cases h : j = k
      · subst h; rw [hr.out, hr'.out, e]
      · exact HEQ.out j (by omega)
    have HN : Hid (r ≠ r' → eqR p p l m = false) := Lib.hid fun e => eqR_l fun h => e (by
      have h1 := hr.out
      rw [h, hr'.out] at h1
      exact (Option.some.inj h1).symm)
    clear hr hr' HEQ
    go_upto_region 6 with (fail)
    have x3 := fun d os => cell_regrown c1 d os
    have y3 := fun d os => cell_regrown e1 d os
    have x0 := fun d os => cell_regrown d0 d os
    have x1 := fun d os => cell_regrown d1 d os
    have x2 := fun d os => cell_regrown d2 d os
    have y0 := fun d os => cell_regrown f0 d os
    have y1 := fun d os => cell_regrown f1 d os
    have y2 := fun d os => cell_regrown f2 d os
    clear c1 e1 d0 d1 d2 f0 f1 f2
    by_cases hrr : r = r'
    · subst hrr
      have HTT := Lib.hid (HT.out rfl)
      clear HT HN
      refine wp_region_quiet_below (by kernel_rfl) (by kernel_rfl) ?_
      repeat (go_big_quiet_step (fail))
      refine wpQuiet_nil ?_
      rintro w3 ⟨p2, rfl⟩
      have hb3 := hB.trans ((below_regrown wr p2.d p2.os).mono hB.size)
      clear x0 x1 x2 x3 y0 y1 y2 y3
      go_wp2
      go_roundw
      case rel => exact ⟨k + 1, by omega, by go_num, HTT.out, hb3⟩
      case measure => simp [intOf]; omega
    · have HF := Lib.hid (HN.out hrr)
      have hd := prs_first hrr
      clear HT HN hrr
      rcases hd with t0 | ⟨t0, t1⟩ | ⟨t0, t1, t2⟩
      all_goals
        (try rw [t0] at x0)
        (try rw [t1] at x1)
        refine wp_region_quiet_below (by kernel_rfl) (by kernel_rfl) ?_
        repeat (go_big_quiet_step (fail))
        refine wpQuiet_nil ?_
        rintro w3 ⟨p2, rfl⟩
        have hb3 := HBB.out.trans ((below_regrown wr p2.d p2.os).mono HBB.out.size)
        clear x0 x1 x2 x3 y0 y1 y2 y3
        go_wp2
        go_ret
        exact ⟨ret_bool HF.out.symm, hbw ▸ hb3⟩
end Go.Proofs.YtnahkfchcminpaaGreatDoor
/- Rolls: the people's list copied (slices.Clone). -/
namespace Go.Proofs.YtnahkfchcminpaaGreatDoor
open Go.RowKit
theorem el_ps : ElemOf Tryz.prog 28 43 (.agg #[.int .i64 0, .int .i64 0, .int .i64 0]) 3 24 := ⟨Tryz.underlying28, by kernel_rfl, rfl, by decide, by decide⟩
theorem Ow.empty (w : World) (e : TypeId) (size : Nat) : Ow (w.alloc (.cells #[] e)) w.heap.size size (some ⟨w.heap.size, 0, none⟩) 0 0 [] :=
  ⟨by simp, Nat.le_refl _, Nat.zero_le _, .inr ⟨_, _, rfl, Nat.le_refl _, by simp, fun j u hj => by simp at hj, fun j hj => by omega⟩⟩
set_option maxRecDepth 100000 in
set_option maxHeartbeats 1000000 in
theorem eclone_walk (a : Option Addr) (l : List Prs) (cap : Nat) (w : World) (hR : Rd w a (rowsC prC l)) (hn : l.length ≤ 1000000) :
    Calls Tryz.prog 32 #[.slice a l.length cap] w fun e w' => ∃ a' cap', e = .returned (.slice a' l.length cap') ∧ Ow w' w.heap.size 3 a' l.length cap' (rowsC prC l) ∧ Below w.heap.size w w' := by
  cases a with
  | none =>
    have h0 : l = [] := by
      cases l with
      | nil => rfl
      | cons r l =>
        obtain ⟨g, off, ha, _⟩ := hR 0 (.int .i64 r.id) rfl
        cases ha
    subst h0
    have he := Lib.run_eql_slice_nil (P := Tryz.prog) w 28 43 none 0 cap 0 0 Tryz.underlying28
    rw [List.length_nil]
    go_enter Tryz.func32, Tryz.ntmps32
    go_wp2
    go_ret
    exact ⟨none, 0, rfl, Ow.nil _ _ _, Below.refl _ _⟩
  | some p =>
    have hw1 := (Below.refl w.heap.size w).alloc (Nat.le_refl _) (.cells #[] 43)
    have hO := Ow.empty w 43 3
    have hR1 := hR.keep hw1
    have hrl := rowsC_length prC_len l
    have he := Lib.run_eql_slice_nil (P := Tryz.prog) w 28 43 (some p) l.length cap 0 0 Tryz.underlying28
    go_enter Tryz.func32, Tryz.ntmps32
    go_wp2_with (at_builtin; refine wpList_apps (w0 := w) (B := w.heap.size) rfl _ _ _ _ rfl el_ps rfl hO hw1 (Nat.le_refl _) hw1.size rfl (Src.slice Tryz.underlying28 hrl hR1 (rowsC_one prC_one l)) (by omega) ?_)
    intro a' cap' w2 hO2 hb2 _
    go_wp2
    go_ret
    exact ⟨a', cap', rfl, hO2, hb2⟩
theorem Bx.rd {w : World} {g : Nat} {t : TypeId} {cs : List Value} (h : Bx w g t cs) : Rd w (some ⟨g, 0, none⟩) cs := Rd.mk fun j u hj => by rw [Nat.zero_add]; exact h.cell j hj
theorem Bx.shape {w : World} {g : Nat} {t : TypeId} {cs : List Value} (h : Bx w g t cs) : w.shape? g = some (t, cs.length) := by unfold World.shape?; rw [show w.heap[g]? = _ from h]; rfl
theorem Ow.shape {w : World} {base size g off n cap : Nat} {xs : List Value} (h : Ow w base size (some ⟨g, off, none⟩) n cap xs) (h0 : 0 < cap * size) : ∃ t k, w.shape? g = some (t, k) ∧ k ≠ 0 := by
  obtain ⟨hl, hc, hm, ⟨h1, _⟩ | ⟨g', off', ha, hb, hgs, hx, hf⟩⟩ := h
  · simp at h1
  simp only [Option.some.injEq, Addr.mk.injEq, and_true] at ha
  obtain ⟨rfl, rfl⟩ := ha
  have h1 := (hf 0 h0).1
  unfold World.cell? at h1
  unfold World.shape?
  split at h1
  · rename_i c t e heq
    refine ⟨t, c.size, by rw [heq], ?_⟩
    intro hz
    simp at h1
    omega
  · simp at h1
end Go.Proofs.YtnahkfchcminpaaGreatDoor
