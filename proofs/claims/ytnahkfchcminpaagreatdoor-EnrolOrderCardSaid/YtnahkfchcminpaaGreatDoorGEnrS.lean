/- Rolls: whether two are equal: the reference's. -/
import Derived.Test.YtnahkfchcminpaaGreatDoorGGrp
import Derived.Test.YtnahkfchcminpaaGreatDoorGRowsC
import Derived.Lib.QuietBelow
import Derived.Test.YtnahkfchcminpaaGreatDoorGHandG
namespace Go.Proofs.YtnahkfchcminpaaGreatDoor
open Go.RowKit
theorem Rd.prs {w : World} {a : Option Addr} {l : List Prs} (h : Rd w a (rowsC prC l)) {k : Nat} (hk : k < l.length) :
    ∃ g off r, a = some ⟨g, off, none⟩ ∧ Hid (l[k]? = some r) ∧ w.cell? ⟨g, off + k * 3, none⟩ = some (.int .i64 r.id) ∧ w.cell? ⟨g, off + k * 3 + 1, none⟩ = some (.int .i64 r.key) ∧ w.cell? ⟨g, off + k * 3 + 2, none⟩ = some (.int .i64 r.dep) := by
  obtain ⟨g, off, r, ha, hr, hcell⟩ := h.rows (f := prC) (k := 3) prC_len (by decide) hk
  have d0 := hcell 0 (.int .i64 r.id) rfl
  have d1 := hcell 1 (.int .i64 r.key) rfl
  have d2 := hcell 2 (.int .i64 r.dep) rfl
  rw [Nat.add_zero] at d0
  exact ⟨g, off, r, ha, hr, d0, d1, d2⟩
theorem prs_first {a b : Prs} (h : a ≠ b) : ((a.id == b.id) = false) ∨ (a.id = b.id ∧ (a.key == b.key) = false) ∨ (a.id = b.id ∧ a.key = b.key ∧ (a.dep == b.dep) = false) := by
  obtain ⟨a0, a1, a2⟩ := a
  obtain ⟨b0, b1, b2⟩ := b
  dsimp only
  simp only [beq_eq_false_iff_ne]
  by_cases e0 : a0 = b0
  · by_cases e1 : a1 = b1
    · refine .inr (.inr ⟨e0, e1, fun e2 => h ?_⟩)
      subst e0; subst e1; subst e2; rfl
    · exact .inr (.inl ⟨e0, e1⟩)
  · exact .inl e0
theorem eqR_true {p : Int} {l : List Prs} : eqR p p l l = true := decide_eq_true ⟨rfl, rfl⟩
theorem eqR_p {p q : Int} {l m : List Prs} (h : p ≠ q) : eqR p q l m = false := decide_eq_false fun e => h e.1
theorem eqR_l {p q : Int} {l m : List Prs} (h : l ≠ m) : eqR p q l m = false := decide_eq_false fun e => h e.2
set_option maxRecDepth 100000 in
set_option maxHeartbeats 2000000 in
theorem rsame_walk (p q : Int) (a : Option Addr) (l : List Prs) (c : Nat) (b : Option Addr) (m : List Prs) (d : Nat) (w : World) (hR : Rd w a (rowsC prC l)) (hS : Rd w b (rowsC prC m)) (hn : l.length ≤ 1000000) :
    Calls Tryz.prog 14 #[.agg #[.int .i64 p, .slice a l.length c], .agg #[.int .i64 q, .slice b m.length d]] w fun e w' => e = .returned (.bool (eqR p q l m)) ∧ Below w.heap.size w w' := by
  obtain ⟨gb, hgb⟩ : ∃ g, g = w.heap.size := ⟨_, rfl⟩
  obtain ⟨w0, hw0⟩ : ∃ w0, w0 = (w.alloc (.cells #[.int .i64 p, .slice a l.length c] 30)).alloc (.cells #[.int .i64 q, .slice b m.length d] 30) := ⟨_, rfl⟩
  have hb0 : Below w.heap.size w w0 := by rw [hw0]; exact ((Below.refl w.heap.size w).alloc (Nat.le_refl _) _).alloc (by simp) _
  have hG : Bx w0 gb 30 [.int .i64 p, .slice a l.length c] := by rw [hw0, hgb]; exact (Bx.new w 30 [.int .i64 p, .slice a l.length c]).alloc _
  have hZ : Bx w0 (gb + 1) 30 [.int .i64 q, .slice b m.length d] := by
    rw [hw0, hgb]
    have := Bx.new (w.alloc (.cells #[.int .i64 p, .slice a l.length c] 30)) 30 [.int .i64 q, .slice b m.length d]
    simpa using this
  have hR0 := hR.keep hb0
  have hS0 := hS.keep hb0
  have hbw : w.heap.size = gb := hgb.symm
  have HB := Lib.hid hb0
  clear hgb hR hS hb0
  go_enter Tryz.func14, Tryz.ntmps14
  go_upto_region 1 with (fail)
  rw [← hw0]
  clear hw0
  have HG := Lib.hid hG
  have HZ := Lib.hid hZ
  have c0 := hG.cell 0 (v := .int .i64 p) rfl
  have c1 := hG.cell 1 (v := .slice a l.length c) rfl
  have e0 := hZ.cell 0 (v := .int .i64 q) rfl
  have e1 := hZ.cell 1 (v := .slice b m.length d) rfl
  clear hG hZ
  by_cases hpq : p = q
  rotate_left
  · have n0 : (p != q) = true := by simpa using hpq
    have HF := Lib.hid (eqR_p (l := l) (m := m) hpq)
    clear hpq hR0 hS0
    go_wp2
    go_ret
    exact ⟨ret_bool HF.out.symm, hbw ▸ HB.out⟩
  subst hpq
  have n0 : (p != p) = false := by simp
  by_cases hlm : l.length = m.length
  rotate_left
  · have n1 : ((l.length : Int) != (m.length : Int)) = true := by simp; omega
    have HF := Lib.hid (eqR_l (p := p) (q := p) (l := l) (m := m) (fun e => hlm (by rw [e])))
    clear hlm hR0 hS0
    go_wp2
    go_ret
    exact ⟨ret_bool HF.out.symm, hbw ▸ HB.out⟩
  have HL := Lib.hid hlm
  have n1 : ((l.length : Int) != (m.length : Int)) = false := by simp; omega
  clear hlm
  go_wp2_with fail
  clear c0 c1 e0 e1 n0 n1
  go_loopw [5] (fun i wr => ∃ k : Nat, k ≤ l.length ∧ i = .int .i64 (k : Int) ∧ (∀ j : Nat, j < k → l[j]? = m[j]?) ∧ Below w0.heap.size w0 wr) (fun i _ => l.length - (intOf i).toNat)
  case atStart => exact ⟨0, Nat.zero_le _, rfl, fun j h => by omega, Below.refl _ _⟩
  case round =>
    obtain ⟨k, hk, rfl, heq, hB⟩ := hrel
    have HEQ := Lib.hid heq
    clear heq
    have hG := HG.out.keep hB
    have hZ := HZ.out.keep hB
    have c1 := hG.cell 1 (v := .slice a l.length c) rfl
    have e1 := hZ.cell 1 (v := .slice b m.length d) rfl
    have HBB := Lib.hid (HB.out.trans (hB.mono HB.out.size))
    clear hG hZ
    by_cases hkt : k < l.length
    rotate_left
    · have hkl : ¬ ((k : Int) < (l.length : Int)) := by omega
      have HF := Lib.hid (show eqR p p l m = true by
        have : l = m := List.ext_getElem? fun j => by
          by_cases hj : j < k
          · exact HEQ.out j hj
          · rw [List.getElem?_eq_none (by omega), List.getElem?_eq_none (by have := HL.out; omega)]
        rw [this]; exact eqR_true)
      go_wp2
      go_ret
      exact ⟨ret_bool HF.out.symm, hbw ▸ HBB.out⟩
    have hkm : k < m.length := by have := HL.out; omega
    obtain ⟨g, off, r, rfl, hr, d0, d1, d2⟩ := (hR0.keep hB).prs hkt
    obtain ⟨g', off', r', rfl, hr', f0, f1, f2⟩ := (hS0.keep hB).prs hkm
    have hkl : (k : Int) < (l.length : Int) := by omega
    have hkl' : (k : Int) < (m.length : Int) := by omega
    have HT : Hid (r = r' → ∀ j : Nat, j < k + 1 → l[j]? = m[j]?) := Lib.hid fun e j hj => by
      by_cases h : j = k
      · subst h; rw [hr.out, hr'.out, e]
      · exact HEQ.out j (by omega)
    have HN : Hid (r ≠ r' → eqR p p l m = false) := Lib.hid fun e => eqR_l fun h => e (by
      have h1 := hr.out
      rw [h, hr'.out] at h1
      exact (Option.some.inj h1).symm)
    clear hr hr' HEQ
    go_upto_region 6 with (fail)
    have x3 := fun d os => cell_regrown c1 d os
    have y3 := fun d os => cell_regrown e1 d os
    have x0 := fun d os => cell_regrown d0 d os
    have x1 := fun d os => cell_regrown d1 d os
    have x2 := fun d os => cell_regrown d2 d os
    have y0 := fun d os => cell_regrown f0 d os
    have y1 := fun d os => cell_regrown f1 d os
    have y2 := fun d os => cell_regrown f2 d os
    clear c1 e1 d0 d1 d2 f0 f1 f2
    by_cases hrr : r = r'
    · subst hrr
      have HTT := Lib.hid (HT.out rfl)
      clear HT HN
      refine wp_region_quiet_below (by kernel_rfl) (by kernel_rfl) ?_
      repeat (go_big_quiet_step (fail))
      refine wpQuiet_nil ?_
      rintro w3 ⟨p2, rfl⟩
      have hb3 := hB.trans ((below_regrown wr p2.d p2.os).mono hB.size)
      clear x0 x1 x2 x3 y0 y1 y2 y3
      go_wp2
      go_roundw
      case rel => exact ⟨k + 1, by omega, by go_num, HTT.out, hb3⟩
      case measure => simp [intOf]; omega
    · have HF := Lib.hid (HN.out hrr)
      have hd := prs_first hrr
      clear HT HN hrr
      rcases hd with t0 | ⟨t0, t1⟩ | ⟨t0, t1, t2⟩
      all_goals
        (try rw [t0] at x0)
        (try rw [t1] at x1)
        refine wp_region_quiet_below (by kernel_rfl) (by kernel_rfl) ?_
        repeat (go_big_quiet_step (fail))
        refine wpQuiet_nil ?_
        rintro w3 ⟨p2, rfl⟩
        have hb3 := HBB.out.trans ((below_regrown wr p2.d p2.os).mono HBB.out.size)
        clear x0 x1 x2 x3 y0 y1 y2 y3
        go_wp2
        go_ret
        exact ⟨ret_bool HF.out.symm, hbw ▸ hb3⟩
end Go.Proofs.YtnahkfchcminpaaGreatDoor
/- Rolls: who is added, and who leaves: plain; the boxes of Add; what Add and Leave give back. -/
namespace Go.Proofs.YtnahkfchcminpaaGreatDoor
open Go.RowKit
/-! ### Plain -/
/-- what Add says -/
noncomputable def addE (p : Int) (l : List Prs) (x : Prs) (ok : Bool) : Int :=
  if chkP p l ≠ 0 then 40 else if ¬ ((1 ≤ x.id ∧ x.id ≤ 1048576) ∧ (0 ≤ x.dep ∧ x.dep ≤ 63)) then 2 else if (x.key != 1 && memZ p.toNat x.key) = false then 41
  else if (l.any fun r => r.id == x.id || r.key == x.key) = true then 6 else if ok = false then 47 else if 64 ≤ l.length then 3 else 0
/-- how many have a lower number -/
def lowN : List Prs → Int → Nat
  | [], _ => 0
  | r :: l, z => if r.id < z then lowN l z + 1 else 0
/-- a person in the place of the number -/
def insP (x : Prs) (l : List Prs) : List Prs := l.take (lowN l x.id) ++ x :: l.drop (lowN l x.id)
def addP (e : Int) (x : Prs) (l : List Prs) : List Prs := if e = 0 then insP x l else []
def addQ (e p : Int) : Int := if e = 0 then p else 0
/-- what Leave says -/
noncomputable def lvE (p : Int) (l : List Prs) (z : Int) : Int := if chkP p l ≠ 0 then 40 else if (fstP Prs.id l z).isSome = false then 41 else 0
def lvP (e z : Int) (l : List Prs) : List Prs := if e = 0 then l.filter (fun r => r.id != z) else []
theorem lowN_le : ∀ (l : List Prs) (z : Int), lowN l z ≤ l.length
  | [], _ => Nat.le_refl _
  | r :: l, z => by
    unfold lowN
    have := lowN_le l z
    split <;> simp <;> omega
theorem lowN_lt : ∀ (l : List Prs) (z : Int) (j : Nat) (r : Prs), j < lowN l z → l[j]? = some r → r.id < z
  | [], _, j, r, h, _ => by simp [lowN] at h
  | q :: l, z, j, r, h, hr => by
    unfold lowN at h
    split at h
    · next hq =>
      cases j with
      | zero => simp at hr; subst hr; exact hq
      | succ j => exact lowN_lt l z j r (by omega) (by simpa using hr)
    · omega
theorem lowN_at : ∀ (l : List Prs) (z : Int) (r : Prs), l[lowN l z]? = some r → ¬ r.id < z
  | [], _, r, h => by simp at h
  | q :: l, z, r, h => by
    unfold lowN at h
    split at h
    · exact lowN_at l z r (by simpa using h)
    · next hq => simp at h; subst h; exact hq
theorem lowN_eq {l : List Prs} {z : Int} {k : Nat} (hk : k ≤ l.length) (h : ∀ (j : Nat) (r : Prs), j < k → l[j]? = some r → r.id < z) (h2 : ∀ r, l[k]? = some r → ¬ r.id < z) : k = lowN l z := by
  rcases Nat.lt_trichotomy k (lowN l z) with h3 | h3 | h3
  · have hl := lowN_le l z
    exact absurd (lowN_lt l z k _ h3 (List.getElem?_eq_getElem (by omega))) (h2 _ (List.getElem?_eq_getElem (by omega)))
  · exact h3
  · exact absurd (h _ _ h3 (List.getElem?_eq_getElem (by omega))) (lowN_at l z _ (List.getElem?_eq_getElem (by omega)))
theorem insP_len (x : Prs) (l : List Prs) : (insP x l).length = l.length + 1 := by
  have := lowN_le l x.id
  simp [insP]; omega
section
variable {p : Int} {l : List Prs} {x : Prs} {ok : Bool}
theorem addE_roll (h : chkP p l ≠ 0) : addE p l x ok = 40 := if_pos h
theorem addE_range (h : chkP p l = 0) (h1 : ¬ ((1 ≤ x.id ∧ x.id ≤ 1048576) ∧ (0 ≤ x.dep ∧ x.dep ≤ 63))) : addE p l x ok = 2 := by
  rw [addE, if_neg (by rw [h]; simp), if_pos h1]
theorem addE_key (h : chkP p l = 0) (h1 : (1 ≤ x.id ∧ x.id ≤ 1048576) ∧ (0 ≤ x.dep ∧ x.dep ≤ 63)) (h2 : (x.key != 1 && memZ p.toNat x.key) = false) : addE p l x ok = 41 := by
  rw [addE, if_neg (by rw [h]; simp), if_neg (fun k => k h1), if_pos h2]
theorem addE_in (h : chkP p l = 0) (h1 : (1 ≤ x.id ∧ x.id ≤ 1048576) ∧ (0 ≤ x.dep ∧ x.dep ≤ 63)) (h2 : (x.key != 1 && memZ p.toNat x.key) = true) (h3 : (l.any fun r => r.id == x.id || r.key == x.key) = true) : addE p l x ok = 6 := by
  rw [addE, if_neg (by rw [h]; simp), if_neg (fun k => k h1), if_neg (by rw [h2]; simp), if_pos h3]
theorem addE_sig (h : chkP p l = 0) (h1 : (1 ≤ x.id ∧ x.id ≤ 1048576) ∧ (0 ≤ x.dep ∧ x.dep ≤ 63)) (h2 : (x.key != 1 && memZ p.toNat x.key) = true) (h3 : (l.any fun r => r.id == x.id || r.key == x.key) = false) (h4 : ok = false) : addE p l x ok = 47 := by
  rw [addE, if_neg (by rw [h]; simp), if_neg (fun k => k h1), if_neg (by rw [h2]; simp), if_neg (by rw [h3]; simp), if_pos h4]
theorem addE_full (h : chkP p l = 0) (h1 : (1 ≤ x.id ∧ x.id ≤ 1048576) ∧ (0 ≤ x.dep ∧ x.dep ≤ 63)) (h2 : (x.key != 1 && memZ p.toNat x.key) = true) (h3 : (l.any fun r => r.id == x.id || r.key == x.key) = false) (h4 : ok = true) (h5 : 64 ≤ l.length) : addE p l x ok = 3 := by
  rw [addE, if_neg (by rw [h]; simp), if_neg (fun k => k h1), if_neg (by rw [h2]; simp), if_neg (by rw [h3]; simp), if_neg (by rw [h4]; simp), if_pos h5]
theorem addE_ok (h : chkP p l = 0) (h1 : (1 ≤ x.id ∧ x.id ≤ 1048576) ∧ (0 ≤ x.dep ∧ x.dep ≤ 63)) (h2 : (x.key != 1 && memZ p.toNat x.key) = true) (h3 : (l.any fun r => r.id == x.id || r.key == x.key) = false) (h4 : ok = true) (h5 : l.length < 64) : addE p l x ok = 0 := by
  rw [addE, if_neg (by rw [h]; simp), if_neg (fun k => k h1), if_neg (by rw [h2]; simp), if_neg (by rw [h3]; simp), if_neg (by rw [h4]; simp), if_neg (by omega)]
end
/-- the first of a number and the first of a key: whether one is there -/
theorem any_two (l : List Prs) (x : Prs) : (l.any fun r => r.id == x.id || r.key == x.key) = ((fstP Prs.id l x.id).isSome || (fstP Prs.key l x.key).isSome) := by
  rw [fstP, fstP]
  induction l with
  | nil => rfl
  | cons r l ih =>
    rw [List.any_cons, ih, List.find?_cons, List.find?_cons]
    cases (r.id == x.id) <;> cases (r.key == x.key) <;> simp
/-! ### What Add and Leave give back -/
def RollRes (W : World) (q e : Int) (m : List Prs) (en : Ending) (w' : World) : Prop :=
  ∃ a' c', en = .returned (.tuple #[.agg #[.int .i64 q, .slice a' m.length c'], .int .i64 e]) ∧ m.length ≤ c' ∧ Rd w' a' (rowsC prC m) ∧ (∀ j, rowOf a' = some j → W.heap.size ≤ j) ∧ Below W.heap.size W w'
theorem RollRes.no {W w' : World} {e : Int} (h : Below W.heap.size W w') : RollRes W 0 e [] (.returned (.tuple #[.agg #[.int .i64 0, .slice none 0 0], .int .i64 e])) w' :=
  ⟨none, 0, rfl, Nat.le_refl _, Rd.nil _ _, fun j h => by simp [rowOf] at h, h⟩
theorem RollB.ret {fn : Func} {t u : Tmp} (h : fn.results = #[.cell t 30, .tmp u]) (tmps : Array Value) {w : World} {g : Nat} {v0 v1 : Value} (ht : tmps.getD t undef = .pointer (some ⟨g, 0, none⟩)) (hD : Bx w g 30 [v0, v1]) :
    (results fn tmps).run Tryz.prog w = .ok (.tuple #[.agg #[v0, v1], tmps.getD u undef]) w := by
  have c0 := hD.cell 0 (v := v0) rfl
  have c1 := hD.cell 1 (v := v1) rfl
  have ht' : tmps[t]?.getD undef = .pointer (some ⟨g, 0, none⟩) := by simpa using ht
  simp [results, h, ht', go_sem, c0, c1]
theorem set_grown (w : World) (b i : Nat) (v : Value) : w.grownBy (w.setCell ⟨b, i, none⟩ v) (some b) :=
  ⟨rfl, rfl, rfl, by simp, fun k _ hk => heap_setCell_other w ⟨b, i, none⟩ k v (fun e => hk (by simp [e]))⟩
/-! ### The boxes of Add -/
structure Ra (W w : World) (gb : Nat) (p : Int) (a : Option Addr) (n c : Nat) (L : List Prs) (x : Prs) (R S : Int) : Prop where
  g : Bx w gb 30 [.int .i64 p, .slice a n c]
  x : Bx w (gb + 1) 43 (prC x)
  s : Bx w (gb + 2) 34 [.int .i64 R, .int .i64 S]
  z : Bx w (gb + 3) 30 [.int .i64 0, .slice none 0 0]
  r : Rd w a (rowsC prC L)
  b : Below gb W w
section
variable {W w w' : World} {gb : Nat} {p : Int} {a : Option Addr} {n c : Nat} {L : List Prs} {x : Prs} {R S : Int}
theorem Ra.keep (h : Ra W w gb p a n c L x R S) (hb : Below w.heap.size w w') : Ra W w' gb p a n c L x R S :=
  ⟨h.g.keep hb, h.x.keep hb, h.s.keep hb, h.z.keep hb, h.r.keep hb, h.b.trans (hb.mono (Nat.le_of_lt h.g.lt))⟩
theorem Ra.far {N : Nat} {row : Option Nat} (h : Ra W w gb p a n c L x R S) (hg : w.grownBy w' row) (h1 : gb + 3 < N) (h2 : ∀ j, rowOf a = some j → j < N) (hr : ∀ j, row = some j → N ≤ j) : Ra W w' gb p a n c L x R S := by
  have hx : ∀ j, j < N → some j ≠ row := fun j hj e => by have := hr j e.symm; omega
  exact ⟨h.g.grown hg (hx _ (by omega)), h.x.grown hg (hx _ (by omega)), h.s.grown hg (hx _ (by omega)), h.z.grown hg (hx _ (by omega)), h.r.grown hg (fun g off e => hx _ (h2 _ (by rw [e]; rfl))), h.b.grown hg (Nat.le_of_lt h.g.lt) (fun k hk => by have := hr k hk; omega)⟩
theorem Ra.held (h : Ra W w gb p a n c L x R S) :
    w.cell? ⟨gb, 0, none⟩ = some (.int .i64 p) ∧ w.cell? ⟨gb, 1, none⟩ = some (.slice a n c) ∧ w.cell? ⟨gb + 1, 0, none⟩ = some (.int .i64 x.id) ∧ w.cell? ⟨gb + 1, 1, none⟩ = some (.int .i64 x.key) ∧ w.cell? ⟨gb + 1, 2, none⟩ = some (.int .i64 x.dep) ∧ w.cell? ⟨gb + 2, 0, none⟩ = some (.int .i64 R) ∧ w.cell? ⟨gb + 2, 1, none⟩ = some (.int .i64 S) :=
  ⟨h.g.cell 0 rfl, h.g.cell 1 rfl, h.x.cell 0 rfl, h.x.cell 1 rfl, h.x.cell 2 rfl, h.s.cell 0 rfl, h.s.cell 1 rfl⟩
theorem Ra.res (h : Ra W w gb p a n c L x R S) :
    (w.cell? ⟨gb + 3, 0, none⟩ = some (.int .i64 0) ∧ w.cell? ⟨gb + 3, 1, none⟩ = some (.slice none 0 0)) ∧ (w.frozen? ⟨gb + 3, 0, none⟩ = false ∧ w.frozen? ⟨gb + 3, 1, none⟩ = false) :=
  ⟨⟨h.z.cell 0 rfl, h.z.cell 1 rfl⟩, h.z.free 0, h.z.free 1⟩
theorem Ra.fin (h : Ra W w gb p a n c L x R S) (v0 v1 : Value) :
    Bx ((w.setCell ⟨gb + 3, 0, none⟩ v0).setCell ⟨gb + 3, 1, none⟩ v1) (gb + 3) 30 [v0, v1] ∧ Below gb W ((w.setCell ⟨gb + 3, 0, none⟩ v0).setCell ⟨gb + 3, 1, none⟩ v1) :=
  ⟨(h.z.set 0 v0).set 1 v1, (h.b.setCell (p := ⟨gb + 3, 0, none⟩) (by show _ ≤ gb + 3; omega) v0).setCell (p := ⟨gb + 3, 1, none⟩) (by show _ ≤ gb + 3; omega) v1⟩
theorem Ra.mk0 (W : World) (p : Int) (a : Option Addr) (n c : Nat) (L : List Prs) (x : Prs) (R S : Int) (hR : Rd W a (rowsC prC L)) :
    Ra W ((((W.alloc (.cells #[.int .i64 p, .slice a n c] 30)).alloc (.cells #[.int .i64 x.id, .int .i64 x.key, .int .i64 x.dep] 43)).alloc (.cells #[.int .i64 R, .int .i64 S] 34)).alloc (.cells #[.int .i64 0, .slice none 0 0] 30)) W.heap.size p a n c L x R S := by
  have b1 := (Below.refl W.heap.size W).alloc (Nat.le_refl _) (.cells #[.int .i64 p, .slice a n c] 30)
  have e1 := Bx.new W 30 [.int .i64 p, .slice a n c]
  change Bx (W.alloc (.cells #[.int .i64 p, .slice a n c] 30)) _ _ _ at e1
  have z1 : (W.alloc (.cells #[.int .i64 p, .slice a n c] 30)).heap.size = W.heap.size + 1 := by simp
  generalize W.alloc (.cells #[.int .i64 p, .slice a n c] 30) = w1 at *
  have b2 := b1.alloc b1.size (.cells #[.int .i64 x.id, .int .i64 x.key, .int .i64 x.dep] 43)
  have e2 := Bx.new w1 43 (prC x)
  change Bx (w1.alloc (.cells #[.int .i64 x.id, .int .i64 x.key, .int .i64 x.dep] 43)) _ _ _ at e2
  have z2 : (w1.alloc (.cells #[.int .i64 x.id, .int .i64 x.key, .int .i64 x.dep] 43)).heap.size = w1.heap.size + 1 := by simp
  replace e1 := e1.alloc (.cells #[.int .i64 x.id, .int .i64 x.key, .int .i64 x.dep] 43)
  generalize w1.alloc (.cells #[.int .i64 x.id, .int .i64 x.key, .int .i64 x.dep] 43) = w2 at *
  have b3 := b2.alloc b2.size (.cells #[.int .i64 R, .int .i64 S] 34)
  have e3 := Bx.new w2 34 [.int .i64 R, .int .i64 S]
  change Bx (w2.alloc (.cells #[.int .i64 R, .int .i64 S] 34)) _ _ _ at e3
  have z3 : (w2.alloc (.cells #[.int .i64 R, .int .i64 S] 34)).heap.size = w2.heap.size + 1 := by simp
  replace e1 := e1.alloc (.cells #[.int .i64 R, .int .i64 S] 34)
  replace e2 := e2.alloc (.cells #[.int .i64 R, .int .i64 S] 34)
  generalize w2.alloc (.cells #[.int .i64 R, .int .i64 S] 34) = w3 at *
  have b4 := b3.alloc b3.size (.cells #[.int .i64 0, .slice none 0 0] 30)
  have e4 := Bx.new w3 30 [.int .i64 0, .slice none 0 0]
  change Bx (w3.alloc (.cells #[.int .i64 0, .slice none 0 0] 30)) _ _ _ at e4
  have q1 : w1.heap.size = W.heap.size + 1 := z1
  have q2 : w2.heap.size = W.heap.size + 2 := by omega
  have q3 : w3.heap.size = W.heap.size + 3 := by omega
  rw [q1] at e2
  rw [q2] at e3
  rw [q3] at e4
  exact ⟨e1.alloc _, e2.alloc _, e3.alloc _, e4, hR.keep b4, b4⟩
end
end Go.Proofs.YtnahkfchcminpaaGreatDoor
