/- Offices: what becomes of an issue: the program's Issue. -/
import Derived.Test.YtekhepklaokaiaaDoorGTokF
import Derived.Test.YtekhepklaokaiaaDoorRegion
namespace Go.Proofs.YtekhepklaokaiaaDoor
open Go.RowKit
/-- what an issue gives -/
def IssRes (w : World) (p key quota : Int) (r : List Iss × Int × Int) : Ending → World → Prop := fun en w' =>
  ∃ a' cap', en = .returned (.tuple #[.agg #[.int .i64 p, .int .i64 key, .int .i64 quota, .slice a' r.1.length cap'], .int .i64 r.2.1, .int .i64 r.2.2]) ∧ Ow w' w.heap.size 3 a' r.1.length cap' (rowsC isC r.1) ∧ Below w.heap.size w w'
theorem Off.ret {fn : Func} {t u v : Tmp} (h : fn.results = #[.cell t 35, .tmp u, .tmp v]) (tmps : Array Value) {w : World} {g : Nat} {x0 x1 x2 x3 : Value} (ht : tmps.getD t undef = .pointer (some ⟨g, 0, none⟩)) (hD : Bx w g 35 [x0, x1, x2, x3]) :
    (results fn tmps).run Tryd.prog w = .ok (.tuple #[.agg #[x0, x1, x2, x3], tmps.getD u undef, tmps.getD v undef]) w := by
  have c0 := hD.cell 0 (v := x0) rfl
  have c1 := hD.cell 1 (v := x1) rfl
  have c2 := hD.cell 2 (v := x2) rfl
  have c3 := hD.cell 3 (v := x3) rfl
  have ht' : tmps[t]?.getD undef = .pointer (some ⟨g, 0, none⟩) := by simpa using ht
  simp [results, h, ht', go_sem, c0, c1, c2, c3]
/-- the boxes of Issue, and the rows -/
structure Di (W w : World) (b : Nat) (p key quota : Int) (a : Option Addr) (n c : Nat) (L : List Iss) : Prop where
  g : Bx w b 35 (offC p key quota (.slice a n c))
  z : Bx w (b + 1) 35 (offC 0 0 0 (.slice none 0 0))
  o : Ow w (b + 2) 3 a n c (rowsC isC L)
  b : Below b W w
section
variable {W w : World} {b : Nat} {p key quota : Int} {a : Option Addr} {n c : Nat} {L : List Iss}
theorem Di.keep {w' : World} (h : Di W w b p key quota a n c L) (hb : Below w.heap.size w w') : Di W w' b p key quota a n c L :=
  ⟨h.g.keep hb, h.z.keep hb, h.o.keep hb, h.b.trans (hb.mono (Nat.le_of_lt h.g.lt))⟩
theorem Di.drew (h : Di W w b p key quota a n c L) : Di W w.drew b p key quota a n c L := h.keep (Below.refl _ _).drew
/-- the result is stored -/
theorem Di.fin (h : Di W w b p key quota a n c L) (x0 x1 x2 x3 : Value) :
    Bx ((((w.setCell ⟨b + 1, 0, none⟩ x0).setCell ⟨b + 1, 1, none⟩ x1).setCell ⟨b + 1, 2, none⟩ x2).setCell ⟨b + 1, 3, none⟩ x3) (b + 1) 35 [x0, x1, x2, x3] ∧
    Ow ((((w.setCell ⟨b + 1, 0, none⟩ x0).setCell ⟨b + 1, 1, none⟩ x1).setCell ⟨b + 1, 2, none⟩ x2).setCell ⟨b + 1, 3, none⟩ x3) b 3 a n c (rowsC isC L) ∧
    Below b W ((((w.setCell ⟨b + 1, 0, none⟩ x0).setCell ⟨b + 1, 1, none⟩ x1).setCell ⟨b + 1, 2, none⟩ x2).setCell ⟨b + 1, 3, none⟩ x3) := by
  have hg : w.grownBy ((((w.setCell ⟨b + 1, 0, none⟩ x0).setCell ⟨b + 1, 1, none⟩ x1).setCell ⟨b + 1, 2, none⟩ x2).setCell ⟨b + 1, 3, none⟩ x3) (some (b + 1)) := grownBy_setCells w (b + 1) 0 [x0, x1, x2, x3]
  refine ⟨(((h.z.set 0 x0).set 1 x1).set 2 x2).set 3 x3, (h.o.kept hg ?_).lower (by omega), (((h.b.setCell (p := ⟨b + 1, 0, none⟩) (by dsimp only; omega) x0).setCell (p := ⟨b + 1, 1, none⟩) (by dsimp only; omega) x1).setCell (p := ⟨b + 1, 2, none⟩) (by dsimp only; omega) x2).setCell (p := ⟨b + 1, 3, none⟩) (by dsimp only; omega) x3⟩
  by_cases e : rowOf a = some (b + 1)
  · have := h.o.row _ e; omega
  · exact .inr e
/-- the rows turn -/
theorem Di.turn {w' : World} {a' : Option Addr} {n' c' : Nat} {L' : List Iss} (h : Di W w b p key quota a n c L) (hg : w.grownBy w' (rowOf a)) (hO : Ow w' (b + 2) 3 a' n' c' (rowsC isC L')) :
    Bx w' b 35 (offC p key quota (.slice a n c)) ∧ Di W (w'.setCell ⟨b, 3, none⟩ (.slice a' n' c')) b p key quota a' n' c' L' := by
  have hr := h.o.row
  have hx : ∀ j, j < b + 2 → some j ≠ rowOf a := fun j hj e => by have := hr j e.symm; omega
  have g1 := h.g.grown hg (hx _ (by omega))
  have hg2 : w'.grownBy (w'.setCell ⟨b, 3, none⟩ (.slice a' n' c')) (some b) := grownBy_setCells w' b 3 [.slice a' n' c']
  refine ⟨g1, g1.set 3 _, (h.z.grown hg (hx _ (by omega))).other (by omega) 3 _, hO.kept hg2 ?_, (h.b.grown hg (Nat.le_of_lt h.g.lt) (fun k hk => by have := hr k hk; omega)).setCell (p := ⟨b, 3, none⟩) (Nat.le_refl _) _⟩
  by_cases e : rowOf a' = some b
  · have := hO.row _ e; omega
  · exact .inr e
theorem Di.row {w' : World} {L' : List Iss} (h : Di W w b p key quota a n c L) (hg : w.grownBy w' (rowOf a)) (hO : Ow w' (b + 2) 3 a n c (rowsC isC L')) : Di W w' b p key quota a n c L' := by
  have hr := h.o.row
  have hx : ∀ j, j < b + 2 → some j ≠ rowOf a := fun j hj e => by have := hr j e.symm; omega
  exact ⟨h.g.grown hg (hx _ (by omega)), h.z.grown hg (hx _ (by omega)), hO, h.b.grown hg (Nat.le_of_lt h.g.lt) (fun k hk => by have := hr k hk; omega)⟩
/-- what the boxes hold -/
theorem Di.held (h : Di W w b p key quota a n c L) :
    w.cell? ⟨b, 0, none⟩ = some (.int .i64 p) ∧ w.cell? ⟨b, 1, none⟩ = some (.int .i64 key) ∧ w.cell? ⟨b, 2, none⟩ = some (.int .i64 quota) ∧ w.cell? ⟨b, 3, none⟩ = some (.slice a n c) :=
  ⟨h.g.cell 0 rfl, h.g.cell 1 rfl, h.g.cell 2 rfl, h.g.cell 3 rfl⟩
theorem Di.res (h : Di W w b p key quota a n c L) :
    (w.cell? ⟨b + 1, 0, none⟩ = some (.int .i64 0) ∧ w.cell? ⟨b + 1, 1, none⟩ = some (.int .i64 0) ∧ w.cell? ⟨b + 1, 2, none⟩ = some (.int .i64 0) ∧ w.cell? ⟨b + 1, 3, none⟩ = some (.slice none 0 0)) ∧
    (w.frozen? ⟨b + 1, 0, none⟩ = false ∧ w.frozen? ⟨b + 1, 1, none⟩ = false ∧ w.frozen? ⟨b + 1, 2, none⟩ = false ∧ w.frozen? ⟨b + 1, 3, none⟩ = false) :=
  ⟨⟨h.z.cell 0 rfl, h.z.cell 1 rfl, h.z.cell 2 rfl, h.z.cell 3 rfl⟩, ⟨h.z.free 0, h.z.free 1, h.z.free 2, h.z.free 3⟩⟩
end
theorem Di.spot {W w : World} {b : Nat} {p key quota : Int} {g off n c : Nat} {L : List Iss} (h : Di W w b p key quota (some ⟨g, off, none⟩) n c L) {k : Nat} {x : Iss} (hx : L[k]? = some x) :
    w.cell? ⟨g, off + k * 3 + 2, none⟩ = some (.int .i64 x.cnt) ∧ w.frozen? ⟨g, off + k * 3 + 2, none⟩ = false := by
  have hk := (List.getElem?_eq_some_iff.1 hx).1
  obtain ⟨g', off', x', e, hx', c0, c1, c2⟩ := h.o.rd.is hk
  cases e
  rw [hx'.out] at hx
  cases hx
  have hb := h.o.both
  have hl := h.o.1
  have hc := h.o.2.1
  rw [rowsC_length isC_len] at hl
  exact ⟨c2, (hb.2 (k * 3 + 2) (by omega)).2⟩
theorem Ow.setAt {w : World} {base g off n cap i : Nat} {l : List Iss} (h : Ow w base 3 (some ⟨g, off, none⟩) n cap (rowsC isC l)) {r : Iss} (hi : l[i]? = some r) (v : Int) :
    Ow (w.setCell ⟨g, off + i * 3 + 2, none⟩ (.int .i64 v)) base 3 (some ⟨g, off, none⟩) n cap (rowsC isC (l.set i ⟨r.per, r.prd, v⟩)) ∧ w.grownBy (w.setCell ⟨g, off + i * 3 + 2, none⟩ (.int .i64 v)) (some g) := by
  have hs := h.stored (i * 3 + 2) (.int .i64 v)
  have hil := (List.getElem?_eq_some_iff.1 hi).1
  have e : (rowsC isC l).set (i * 3 + 2) (.int .i64 v) = rowsC isC (l.set i ⟨r.per, r.prd, v⟩) := by
    apply List.ext_getElem?
    intro j
    by_cases hj : j = i * 3 + 2
    · subst hj
      rw [List.getElem?_set_self (by rw [rowsC_length isC_len]; omega)]
      have hx : (l.set i ⟨r.per, r.prd, v⟩)[i]? = some ⟨r.per, r.prd, v⟩ := List.getElem?_set_self hil
      rw [rowsC_get isC_len hx (by decide)]; rfl
    · rw [List.getElem?_set_ne (fun e => hj e.symm)]
      by_cases hjl : j < l.length * 3
      · obtain ⟨y, hx⟩ : ∃ y, l[j / 3]? = some y := ⟨_, List.getElem?_eq_getElem (by omega)⟩
        have hjj : j / 3 * 3 + j % 3 = j := by omega
        have hm : j % 3 < 3 := by omega
        have e1 := rowsC_get isC_len hx hm
        rw [hjj] at e1
        rw [e1]
        by_cases hij : j / 3 = i
        · have hy : (l.set i ⟨r.per, r.prd, v⟩)[j / 3]? = some ⟨r.per, r.prd, v⟩ := by rw [hij]; exact List.getElem?_set_self hil
          have e2 := rowsC_get isC_len hy hm
          rw [hjj] at e2
          rw [e2]
          rw [hij, hi] at hx
          cases hx
          have : j % 3 = 0 ∨ j % 3 = 1 := by omega
          rcases this with e | e <;> rw [e] <;> rfl
        · have hy : (l.set i ⟨r.per, r.prd, v⟩)[j / 3]? = some y := by rw [List.getElem?_set_ne (fun e => hij e.symm)]; exact hx
          have e2 := rowsC_get isC_len hy hm
          rw [hjj] at e2
          rw [e2]
      · rw [List.getElem?_eq_none (by rw [rowsC_length isC_len]; omega), List.getElem?_eq_none (by rw [rowsC_length isC_len, List.length_set]; omega)]
  rw [e, ← Nat.add_assoc] at hs
  exact hs
theorem Di.more {W w : World} {b : Nat} {p key quota : Int} {g off n c : Nat} {L : List Iss} (h : Di W w b p key quota (some ⟨g, off, none⟩) n c L) {k : Nat} {r : Iss} (hr : L[k]? = some r) (v : Int) :
    Di W (w.setCell ⟨g, off + k * 3 + 2, none⟩ (.int .i64 v)) b p key quota (some ⟨g, off, none⟩) n c (L.set k ⟨r.per, r.prd, v⟩) := by
  have hS := h.o.setAt hr v
  exact h.row hS.2 hS.1
set_option maxRecDepth 100000 in
set_option maxHeartbeats 4000000 in
theorem tissue_walk (p key quota : Int) (q : Option Addr) (l : List Iss) (cap : Nat) (a b x : Int) (w : World) (hB : Bases w) (hR : Rd w q (rowsC isC l)) (hn : l.length ≤ 1000000) :
    Calls Tryd.prog 12 #[.agg #[.int .i64 p, .int .i64 key, .int .i64 quota, .slice q l.length cap], .int .i64 a, .int .i64 b, .int .i64 x] w (IssRes w p key quota (issF p key quota l a b x)) := by
  obtain ⟨gb, hgb⟩ : ∃ g, g = w.heap.size := ⟨_, rfl⟩
  obtain ⟨w0, hw0⟩ : ∃ w0, w0 = (w.alloc (.cells #[.int .i64 p, .int .i64 key, .int .i64 quota, .slice q l.length cap] 35)).alloc (.cells #[.int .i64 0, .int .i64 0, .int .i64 0, .slice none 0 0] 35) := ⟨_, rfl⟩
  have hb0 : Below w.heap.size w w0 := by rw [hw0]; exact ((Below.refl w.heap.size w).alloc (Nat.le_refl _) _).alloc (by simp) _
  have hG : Bx w0 gb 35 (offC p key quota (.slice q l.length cap)) := by rw [hw0, hgb]; exact (Bx.new w 35 (offC p key quota (.slice q l.length cap))).alloc _
  have hZ : Bx w0 (gb + 1) 35 (offC 0 0 0 (.slice none 0 0)) := by
    rw [hw0, hgb]
    have := Bx.new (w.alloc (.cells #[.int .i64 p, .int .i64 key, .int .i64 quota, .slice q l.length cap] 35)) 35 (offC 0 0 0 (.slice none 0 0))
    simpa using this
  have hs0 : w0.heap.size = gb + 2 := by rw [hw0, hgb]; simp
  have hR0 := hR.keep hb0
  have hB0 := hB.keep hb0
  have HB := Lib.hid hgb
  have hbw : w.heap.size = gb := hgb.symm
  clear hgb
  go_enter Tryd.func12, Tryd.ntmps12
  go_wp2_with fail
  rw [← hw0]
  have K1 := Lib.hid (iclone_walk q l cap w0 hR0 hn)
  have c3 := hG.cell 3 (v := .slice q l.length cap) rfl
  clear hw0 hR
  go_wp2_with (go_at_call 26; (with_reducible refine K1.out.mono ?_))
  rintro e w1 ⟨a1, c1, rfl, hO1, hb1⟩
  have hG1 := hG.keep hb1
  have hD : Di w (w1.setCell ⟨gb, 3, none⟩ (.slice a1 l.length c1)) gb p key quota a1 l.length c1 l := by
    have hg2 : w1.grownBy (w1.setCell ⟨gb, 3, none⟩ (.slice a1 l.length c1)) (some gb) := grownBy_setCells w1 gb 3 [.slice a1 l.length c1]
    rw [hs0] at hO1
    refine ⟨hG1.set 3 _, (hZ.keep hb1).other (by omega) 3 _, hO1.kept hg2 ?_, ((HB.out ▸ hb0).trans (hb1.mono (by omega))).setCell (p := ⟨gb, 3, none⟩) (Nat.le_refl _) _⟩
    by_cases e : rowOf a1 = some gb
    · have := hO1.row _ e; omega
    · exact .inr e
  have g0 := hG1.cell 3 (v := .slice q l.length cap) rfl
  have g1 := hG1.free 3
  clear hG hZ hb0 K1 hO1 hb1 hR0 hs0 hG1 c3 hB0
  go_upto_region 2 with (fail)
  generalize w1.setCell ⟨gb, 3, none⟩ (.slice a1 l.length c1) = w2 at *
  clear g0 g1
  have HBA := Lib.hid (fun V (h : Di w V gb p key quota a1 l.length c1 l) => hB.keep (HB.out ▸ h.b))
  have K2 := Lib.hid (icheck_walk p key quota a1 l c1 w2 (HBA.out _ hD) hD.o.rd (by omega))
  clear hB
  obtain ⟨g0, g1, g2, g3⟩ := hD.held
  rcases chkI_cases p key quota l with ⟨hc, hoff, hl, hgood⟩ | hc
  rotate_left
  · rw [hc] at K2
    have HL := Lib.hid (issF_bad (a := a) (b := b) (x := x) (show chkI p key quota l ≠ 0 by rw [hc]; decide))
    clear hc
    go_wp2_with (go_at_call 14; (with_reducible refine K2.out.mono ?_))
    rintro e w3 ⟨rfl, hb3⟩
    replace hD := hD.keep hb3
    clear g0 g1 g2 g3 hb3 K2
    obtain ⟨g0, g1, g2, g3⟩ := hD.held
    obtain ⟨⟨z0, z1, z2, z3⟩, ⟨f0, f1, f2, f3⟩⟩ := hD.res
    have hF := hD.fin (.int .i64 p) (.int .i64 key) (.int .i64 quota) (.slice a1 l.length c1)
    go_wp2_with fail
    refine bodyPost_ret (Off.ret (t := 8) (u := 9) (v := 10) rfl _ rfl hF.1) rfl ?_
    rw [HL.out]
    exact ⟨a1, c1, rfl, HB.out ▸ hF.2.1, HB.out ▸ hF.2.2⟩
  rw [hc] at K2
  have HC := Lib.hid hc
  have HOF := Lib.hid hoff
  have HGD := Lib.hid hgood
  obtain ⟨h3, h30, -⟩ := safeP_bd hoff.1
  clear hc hoff hgood
  go_wp2_with (go_at_call 14; (with_reducible refine K2.out.mono ?_))
  rintro e w3 ⟨rfl, hb3⟩
  replace hD := hD.keep hb3
  clear g0 g1 g2 g3 hb3 K2
  obtain ⟨g0, g1, g2, g3⟩ := hD.held
  by_cases h1 : 1 ≤ a ∧ a ≤ 1048576
  rotate_left
  · have HL := Lib.hid (issF_range (x := x) HC.out (fun h => h1 h.1) (b := b))
    have KA := Lib.hid (fun V : World => in_no (n := a) (lo := 1) (hi := 1048576) V h1)
    clear h1
    go_wp2_with (go_at_call 27; (with_reducible refine (KA.out _).mono ?_))
    rintro e w4 ⟨rfl, rfl⟩
    obtain ⟨⟨z0, z1, z2, z3⟩, ⟨f0, f1, f2, f3⟩⟩ := hD.res
    have hF := hD.fin (.int .i64 p) (.int .i64 key) (.int .i64 quota) (.slice a1 l.length c1)
    go_wp2_with fail
    refine bodyPost_ret (Off.ret (t := 8) (u := 9) (v := 10) rfl _ rfl hF.1) rfl ?_
    rw [HL.out]
    exact ⟨a1, c1, rfl, HB.out ▸ hF.2.1, HB.out ▸ hF.2.2⟩
  have KA := Lib.hid (fun V : World => in_yes (n := a) (lo := 1) (hi := 1048576) V h1)
  by_cases h2 : 0 ≤ b ∧ b ≤ 1099511627776
  rotate_left
  · have HL := Lib.hid (issF_range (x := x) HC.out (fun h => h2 h.2) (a := a))
    have KB := Lib.hid (fun V : World => in_no (n := b) (lo := 0) (hi := 1099511627776) V h2)
    clear h1 h2
    go_wp2_with (go_at_call 27; (with_reducible refine (KA.out _).mono ?_))
    rintro e w4 ⟨rfl, rfl⟩
    go_wp2_with (go_at_call 27; (with_reducible refine (KB.out _).mono ?_))
    rintro e w4 ⟨rfl, rfl⟩
    obtain ⟨⟨z0, z1, z2, z3⟩, ⟨f0, f1, f2, f3⟩⟩ := hD.res
    have hF := hD.fin (.int .i64 p) (.int .i64 key) (.int .i64 quota) (.slice a1 l.length c1)
    go_wp2_with fail
    refine bodyPost_ret (Off.ret (t := 8) (u := 9) (v := 10) rfl _ rfl hF.1) rfl ?_
    rw [HL.out]
    exact ⟨a1, c1, rfl, HB.out ▸ hF.2.1, HB.out ▸ hF.2.2⟩
  have KB := Lib.hid (fun V : World => in_yes (n := b) (lo := 0) (hi := 1099511627776) V h2)
  have HAB := Lib.hid (And.intro h1 h2)
  have hsm : small a b := ⟨by omega, by omega⟩
  clear h1 h2
  go_wp2_with (go_at_call 27; (with_reducible refine (KA.out _).mono ?_))
  rintro e w4 ⟨rfl, rfl⟩
  go_wp2_with (go_at_call 27; (with_reducible refine (KB.out _).mono ?_))
  rintro e w4 ⟨rfl, rfl⟩
  clear KA KB
  have KM := Lib.hid (fun V h => hMember_any p x V h HOF.out.1)
  have KLE := Lib.hid (fun V (h : Rd V a1 (rowsC isC l)) => ileft_walk p key quota a1 l c1 a b V h hn HGD.out hsm HOF.out.2.2)
  have KPL := Lib.hid (fun V (h : Rd V a1 (rowsC isC l)) => iplace_walk p key quota a1 l c1 a b V h hn HGD.out hsm)
  clear hsm
  by_cases hx1 : x = 1
  · have HL := Lib.hid (issF_member HC.out HAB.out (.inl hx1))
    have t1 : (x == 1) = true := by rw [beq_iff_eq]; exact hx1
    clear hx1
    obtain ⟨⟨z0, z1, z2, z3⟩, ⟨f0, f1, f2, f3⟩⟩ := hD.res
    have hF := hD.fin (.int .i64 p) (.int .i64 key) (.int .i64 quota) (.slice a1 l.length c1)
    go_wp2_with fail
    refine bodyPost_ret (Off.ret (t := 8) (u := 9) (v := 10) rfl _ rfl hF.1) rfl ?_
    rw [HL.out]
    exact ⟨a1, c1, rfl, HB.out ▸ hF.2.1, HB.out ▸ hF.2.2⟩
  have t1 : (x == 1) = false := by rw [beq_eq_false_iff_ne]; exact hx1
  cases hm : memZ p.toNat x with
  | false =>
    have HL := Lib.hid (issF_member HC.out HAB.out (.inr hm))
    rw [hm] at KM
    clear hx1 hm
    go_wp2_with (go_at_call 28; (with_reducible refine (KM.out _ (HBA.out _ hD)).mono ?_))
    rintro e w4 ⟨rfl, hb4⟩
    replace hD := hD.keep hb4
    clear g0 g1 g2 g3 hb4
    obtain ⟨g0, g1, g2, g3⟩ := hD.held
    obtain ⟨⟨z0, z1, z2, z3⟩, ⟨f0, f1, f2, f3⟩⟩ := hD.res
    have hF := hD.fin (.int .i64 p) (.int .i64 key) (.int .i64 quota) (.slice a1 l.length c1)
    go_wp2_with fail
    refine bodyPost_ret (Off.ret (t := 8) (u := 9) (v := 10) rfl _ rfl hF.1) rfl ?_
    rw [HL.out]
    exact ⟨a1, c1, rfl, HB.out ▸ hF.2.1, HB.out ▸ hF.2.2⟩
  | true =>
    have HX := Lib.hid (show ¬ (x = 1 ∨ memZ p.toNat x = false) from fun h => h.elim hx1 (fun h => by rw [hm] at h; cases h))
    have hxb := memZ_bd hm
    rw [hm] at KM
    clear hx1 hm
    go_wp2_with (go_at_call 28; (with_reducible refine (KM.out _ (HBA.out _ hD)).mono ?_))
    rintro e w4 ⟨rfl, hb4⟩
    replace hD := hD.keep hb4
    clear g0 g1 g2 g3 hb4 KM t1
    obtain ⟨g0, g1, g2, g3⟩ := hD.held
    obtain ⟨le, hle⟩ : ∃ y, y = leftI quota l a b := ⟨_, rfl⟩
    rw [← hle] at KLE
    by_cases hl0 : le = 0
    · have HL := Lib.hid (issF_spent HC.out HAB.out HX.out (by rw [← hle]; exact hl0))
      have t1 : (le == 0) = true := by rw [beq_iff_eq]; exact hl0
      clear hle hl0
      go_wp2_with (go_at_call 11; (with_reducible refine (KLE.out _ hD.o.rd).mono ?_))
      rintro e w5 ⟨rfl, hb5⟩
      replace hD := hD.keep hb5
      clear g0 g1 g2 g3 hb5
      obtain ⟨g0, g1, g2, g3⟩ := hD.held
      obtain ⟨⟨z0, z1, z2, z3⟩, ⟨f0, f1, f2, f3⟩⟩ := hD.res
      have hF := hD.fin (.int .i64 p) (.int .i64 key) (.int .i64 quota) (.slice a1 l.length c1)
      go_wp2_with fail
      refine bodyPost_ret (Off.ret (t := 8) (u := 9) (v := 10) rfl _ rfl hF.1) rfl ?_
      rw [HL.out]
      exact ⟨a1, c1, rfl, HB.out ▸ hF.2.1, HB.out ▸ hF.2.2⟩
    have t1 : (le == 0) = false := by rw [beq_eq_false_iff_ne]; exact hl0
    have HLE := Lib.hid (show leftI quota l a b ≠ 0 by rw [← hle]; exact hl0)
    clear hle hl0
    go_wp2_with (go_at_call 11; (with_reducible refine (KLE.out _ hD.o.rd).mono ?_))
    rintro e w5 ⟨rfl, hb5⟩
    replace hD := hD.keep hb5
    clear g0 g1 g2 g3 hb5 KLE
    obtain ⟨g0, g1, g2, g3⟩ := hD.held
    have hkl := posI_le l a b
    obtain ⟨P, hP⟩ : ∃ P : Nat, p = (P : Int) := ⟨p.toNat, by omega⟩
    obtain ⟨X, hX⟩ : ∃ X : Nat, x = (X : Int) := ⟨x.toNat, by omega⟩
    obtain ⟨y, hy⟩ : ∃ y : Int, y = ((gpw p.toNat x.toNat key : Nat) : Int) := ⟨_, rfl⟩
    have KPW : Hid (∀ V, Calls Tryd.prog 21 #[.int .i64 p, .int .i64 x, .int .i64 key] V fun r w' => r = .returned (.int .i64 y) ∧ Below V.heap.size V w') := Lib.hid fun V => by
      rw [hy, hP, hX, Int.toNat_natCast, Int.toNat_natCast]; exact hPower_walk P X key V (by omega) (by omega) (by omega)
    have HY := Lib.hid hy
    clear hP hX hy hxb
    cases ho : hasI l a b with
    | false =>
      rw [ho] at KPL
      by_cases hfull : 1024 ≤ l.length
      · have HL := Lib.hid (issF_full HC.out HAB.out HX.out HLE.out ho hfull)
        have t3 : decide ((l.length : Int) ≥ 1024) = true := decide_eq_true (by omega)
        clear hfull ho
        go_wp2_with (go_at_call 25; (with_reducible refine (KPL.out _ hD.o.rd).mono ?_))
        rintro e w6 ⟨rfl, hb6⟩
        replace hD := hD.keep hb6
        clear g0 g1 g2 g3 hb6
        obtain ⟨g0, g1, g2, g3⟩ := hD.held
        obtain ⟨⟨z0, z1, z2, z3⟩, ⟨f0, f1, f2, f3⟩⟩ := hD.res
        have hF := hD.fin (.int .i64 p) (.int .i64 key) (.int .i64 quota) (.slice a1 l.length c1)
        go_wp2_with fail
        refine bodyPost_ret (Off.ret (t := 8) (u := 9) (v := 10) rfl _ rfl hF.1) rfl ?_
        rw [HL.out]
        exact ⟨a1, c1, rfl, HB.out ▸ hF.2.1, HB.out ▸ hF.2.2⟩
      have t3 : decide ((l.length : Int) ≥ 1024) = false := decide_eq_false (by omega)
      have HL := Lib.hid (issF_new HC.out HAB.out HX.out HLE.out ho (by omega))
      clear ho
      obtain ⟨k, hk⟩ : ∃ k, k = posI l a b := ⟨_, rfl⟩
      rw [← hk] at hkl KPL HL
      clear hk
      go_wp2_with (go_at_call 25; (with_reducible refine (KPL.out _ hD.o.rd).mono ?_))
      rintro e w6 ⟨rfl, hb6⟩
      replace hD := hD.keep hb6
      clear g0 g1 g2 g3 hb6 KPL
      obtain ⟨g0, g1, g2, g3⟩ := hD.held
      have hlen2 := ins_length (z := (⟨a, b, 1⟩ : Iss)) hkl
      obtain ⟨z, hz⟩ : ∃ z : Iss, z = ⟨a, b, 0⟩ := ⟨_, rfl⟩
      have hbA := (Below.refl w6.heap.size w6).alloc (Nat.le_refl _) (.cells #[.int .i64 a, .int .i64 b, .int .i64 0] 57)
      have hDA := hD.keep hbA
      have hv : Bx (w6.alloc (.cells #[.int .i64 a, .int .i64 b, .int .i64 0] 57)) w6.heap.size 57 (isC z) := by rw [hz]; exact Bx.new w6 _ _
      have hsz := hD.z.lt
      have K5 := Lib.hid (iinsert_walk (gb + 2) a1 l c1 k w6.heap.size z _ hDA.o (by simp; omega) hn hkl hv (fun e => by have := hD.o.row _ e; omega))
      go_upto_region 14 with (fail)
      go_wp2_with (go_at_call 29; (with_reducible refine K5.out.mono ?_))
      rintro e w7 ⟨a2, c2, rfl, hO6, hg6⟩
      obtain ⟨hG6, hD6⟩ := hDA.turn hg6 hO6
      clear hD hDA hbA hv K5 hO6 hg6 g0 g1 g2 g3
      have g0 := hG6.cell 3 (v := .slice a1 l.length c1) rfl
      have g1 := hG6.free 3
      go_upto_region 15 with (fail)
      generalize w7.setCell ⟨gb, 3, none⟩ (.slice a2 (l.length + 1) c2) = w8 at *
      clear g0 g1 hG6
      have hlen := ins_length (z := z) hkl
      obtain ⟨g, off, x0, rfl, hx0, -, -, -⟩ := hD6.o.rd.is (k := k) (by omega)
      have hzx : x0 = z := by
        have := hx0.out
        rw [List.getElem?_append_right (by rw [List.length_take]; omega), List.length_take, Nat.min_eq_left hkl, Nat.sub_self] at this
        exact (Option.some.inj this).symm
      have hset : (l.take k ++ z :: l.drop k).set k ⟨x0.per, x0.prd, x0.cnt + 1⟩ = l.take k ++ ⟨a, b, 1⟩ :: l.drop k := by
        rw [List.set_append_right _ _ (by rw [List.length_take]; omega), List.length_take, Nat.min_eq_left hkl, Nat.sub_self, List.set_cons_zero, hzx, hz]; rfl
      have hcn : x0.cnt = 0 := by rw [hzx, hz]
      generalize l.take k ++ z :: l.drop k = LL at *
      obtain ⟨g0, g1, g2, g3⟩ := hD6.held
      obtain ⟨sp, sf⟩ := hD6.spot hx0.out
      have hD := hD6.more hx0.out (x0.cnt + 1)
      have hk4 : (k : Int) < (l.length : Int) + 1 := by omega
      have hwc : IntKind.i64.wrap (x0.cnt + 1) = x0.cnt + 1 := by rw [IntKind.wrap_i64]; omega
      clear hD6 hzx hz hcn
      go_upto_region 16 with (fail)
      generalize w8.setCell ⟨g, off + k * 3 + 2, none⟩ (.int .i64 (x0.cnt + 1)) = w9 at *
      clear g0 g1 g2 g3 sp sf
      have s0 := hD.drew.held
      obtain ⟨⟨z0, z1, z2, z3⟩, ⟨f0, f1, f2, f3⟩⟩ := hD.res
      go_region_held3 (fun w' => w'.cell? ⟨gb, 0, none⟩ = some (.int .i64 p) ∧ w'.cell? ⟨gb, 1, none⟩ = some (.int .i64 key) ∧ w'.cell? ⟨gb, 2, none⟩ = some (.int .i64 quota) ∧ w'.cell? ⟨gb, 3, none⟩ = some (.slice (some ⟨g, off, none⟩) (l.length + 1) c2)) (first | (with_reducible assumption) | (go_keep; done)) (first | (go_at_call 21; (with_reducible refine (KPW.out _).mono ?_); rintro e wD ⟨rfl, hbD⟩; have hDD := hD.drew.keep hbD; have sD := hDD.held; obtain ⟨⟨y0, y1, y2, y3⟩, ⟨e0, e1, e2, e3⟩⟩ := hDD.res; have hF := hDD.fin (.int .i64 p) (.int .i64 key) (.int .i64 quota) (.slice (some ⟨g, off, none⟩) (l.length + 1) c2); have sF : _ ∧ _ ∧ _ ∧ _ := ⟨sD.1, sD.2.1, sD.2.2.1, sD.2.2.2⟩))
      clear s0 z0 z1 z2 z3 f0 f1 f2 f3 hDD sD y0 y1 y2 y3 e0 e1 e2 e3 sF hbD
      generalize (((wD.setCell ⟨gb + 1, 0, none⟩ (.int .i64 p)).setCell ⟨gb + 1, 1, none⟩ (.int .i64 key)).setCell ⟨gb + 1, 2, none⟩ (.int .i64 quota)).setCell ⟨gb + 1, 3, none⟩ (.slice (some ⟨g, off, none⟩) (l.length + 1) c2) = wE at *
      go_wp2_with fail
      refine bodyPost_ret (Off.ret (t := 8) (u := 9) (v := 10) rfl _ rfl hF.1) rfl ?_
      rw [HL.out]
      exact ⟨some ⟨g, off, none⟩, c2, by dsimp only; rw [hlen2, ← HY.out]; rfl, by dsimp only; rw [hlen2, ← hset]; exact HB.out ▸ hF.2.1, HB.out ▸ hF.2.2⟩
    | true =>
      obtain ⟨r, hr, hr1, hr2⟩ := hasI_some ho
      have HL := Lib.hid (issF_more HC.out HAB.out HX.out HLE.out hr ⟨hr1, hr2⟩)
      rw [ho] at KPL
      obtain ⟨k, hk⟩ : ∃ k, k = posI l a b := ⟨_, rfl⟩
      rw [← hk] at hr KPL HL
      clear hk ho hkl
      have hkl2 := (List.getElem?_eq_some_iff.1 hr).1
      have hcn := (HGD.out _ r hkl2 hr).2.2.1
      have HR := Lib.hid hr
      go_wp2_with (go_at_call 25; (with_reducible refine (KPL.out _ hD.o.rd).mono ?_))
      rintro e w6 ⟨rfl, hb6⟩
      replace hD := hD.keep hb6
      clear g0 g1 g2 g3 hb6 KPL hr
      obtain ⟨g, off, x0, rfl, hx0, -, -, -⟩ := hD.o.rd.is (k := k) hkl2
      obtain rfl := same_at HR hx0
      have hlen2 : (l.set k ⟨a, b, x0.cnt + 1⟩).length = l.length := List.length_set
      have hset : l.set k ⟨x0.per, x0.prd, x0.cnt + 1⟩ = l.set k ⟨a, b, x0.cnt + 1⟩ := by rw [hr1, hr2]
      obtain ⟨g0, g1, g2, g3⟩ := hD.held
      obtain ⟨sp, sf⟩ := hD.spot hx0.out
      replace hD := hD.more hx0.out (x0.cnt + 1)
      have hk4 : (k : Int) < (l.length : Int) := by omega
      have hwc : IntKind.i64.wrap (x0.cnt + 1) = x0.cnt + 1 := by rw [IntKind.wrap_i64]; omega
      clear hr1 hr2 hcn HR
      go_upto_region 15 with (fail)
      go_upto_region 16 with (fail)
      generalize w6.setCell ⟨g, off + k * 3 + 2, none⟩ (.int .i64 (x0.cnt + 1)) = w9 at *
      clear g0 g1 g2 g3 sp sf
      have s0 := hD.drew.held
      obtain ⟨⟨z0, z1, z2, z3⟩, ⟨f0, f1, f2, f3⟩⟩ := hD.res
      go_region_held3 (fun w' => w'.cell? ⟨gb, 0, none⟩ = some (.int .i64 p) ∧ w'.cell? ⟨gb, 1, none⟩ = some (.int .i64 key) ∧ w'.cell? ⟨gb, 2, none⟩ = some (.int .i64 quota) ∧ w'.cell? ⟨gb, 3, none⟩ = some (.slice (some ⟨g, off, none⟩) l.length c1)) (first | (with_reducible assumption) | (go_keep; done)) (first | (go_at_call 21; (with_reducible refine (KPW.out _).mono ?_); rintro e wD ⟨rfl, hbD⟩; have hDD := hD.drew.keep hbD; have sD := hDD.held; obtain ⟨⟨y0, y1, y2, y3⟩, ⟨e0, e1, e2, e3⟩⟩ := hDD.res; have hF := hDD.fin (.int .i64 p) (.int .i64 key) (.int .i64 quota) (.slice (some ⟨g, off, none⟩) l.length c1); have sF : _ ∧ _ ∧ _ ∧ _ := ⟨sD.1, sD.2.1, sD.2.2.1, sD.2.2.2⟩))
      clear s0 z0 z1 z2 z3 f0 f1 f2 f3 hDD sD y0 y1 y2 y3 e0 e1 e2 e3 sF hbD
      generalize (((wD.setCell ⟨gb + 1, 0, none⟩ (.int .i64 p)).setCell ⟨gb + 1, 1, none⟩ (.int .i64 key)).setCell ⟨gb + 1, 2, none⟩ (.int .i64 quota)).setCell ⟨gb + 1, 3, none⟩ (.slice (some ⟨g, off, none⟩) l.length c1) = wE at *
      go_wp2_with fail
      refine bodyPost_ret (Off.ret (t := 8) (u := 9) (v := 10) rfl _ rfl hF.1) rfl ?_
      rw [HL.out]
      exact ⟨some ⟨g, off, none⟩, c1, by dsimp only; rw [hlen2, ← HY.out]; rfl, by dsimp only; rw [hlen2, ← hset]; exact HB.out ▸ hF.2.1, HB.out ▸ hF.2.2⟩
end Go.Proofs.YtekhepklaokaiaaDoor
