/- Guards: what carries a request out: the program's Done. -/
import Derived.Test.YtnlhcfhngdahlaaReplayI
import Derived.Test.YtnlhcfhngdahlaaAppStep
import Derived.Test.YtnlhcfhngdahlaaRegion
namespace Go.Proofs.Ytnlhcfhngdahlaa
open Go.RowKit
/-- what Done gives -/
def DoneRes (w : World) (l : List Kpt) (e : Int) : Ending → World → Prop := fun en w' =>
  ∃ a' cap', en = .returned (.tuple #[.agg #[.slice a' l.length cap'], .int .i64 e]) ∧ Ow w' w.heap.size 4 a' l.length cap' (rowsC kpC l) ∧ Below w.heap.size w w'
theorem doneF_err {l : List Kpt} {r : Rq} {a : List UInt8} (h : (lookF l r).2.2 ≠ 0) : doneF l r a = (l, (lookF l r).2.2) := by rw [doneF, if_pos h]
theorem doneF_old {l : List Kpt} {r : Rq} {a : List UInt8} (h : (lookF l r).2.2 = 0) (h2 : (lookF l r).2.1 = false) : doneF l r a = (l, 55) := by rw [doneF, if_neg (by simp [h]), if_pos h2]
theorem doneF_full {l : List Kpt} {r : Rq} {a : List UInt8} (h : (lookF l r).2.2 = 0) (h2 : (lookF l r).2.1 = true) (h3 : 16384 < a.length ∨ (hasF l r.sen = false ∧ 64 ≤ l.length)) : doneF l r a = (l, 3) := by rw [doneF, if_neg (by simp [h]), if_neg (by simp [h2]), if_pos h3]
theorem doneF_set {l : List Kpt} {r : Rq} {a : List UInt8} (h : (lookF l r).2.2 = 0) (h2 : (lookF l r).2.1 = true) (h3 : a.length ≤ 16384) (h4 : hasF l r.sen = true) : doneF l r a = (l.set (posF l r.sen) (newK r a), 0) := by
  rw [doneF, if_neg (by simp [h]), if_neg (by simp [h2]), if_neg (by simp [h4]; omega), if_pos h4]
theorem doneF_ins {l : List Kpt} {r : Rq} {a : List UInt8} (h : (lookF l r).2.2 = 0) (h2 : (lookF l r).2.1 = true) (h3 : a.length ≤ 16384) (h4 : hasF l r.sen = false) (h5 : l.length < 64) : doneF l r a = (l.take (posF l r.sen) ++ newK r a :: l.drop (posF l r.sen), 0) := by
  rw [doneF, if_neg (by simp [h]), if_neg (by simp [h2]), if_neg (by omega), if_neg (by simp [h4])]
  simp
theorem look_good {l : List Kpt} {r : Rq} (h : (lookF l r).2.2 = 0) : l.length ≤ 64 ∧ Good l l.length ∧ okRq r := by
  unfold lookF at h
  split at h
  · simp at h
  · rename_i hh
    rcases chkG_cases l with ⟨h0, h1, h2⟩ | h0
    · exact ⟨h1, h2, Classical.byContradiction fun hn => hh (.inr hn)⟩
    · exact absurd (.inl (by rw [h0]; decide)) hh
theorem Guard.ret {fn : Func} {t u : Tmp} (h : fn.results = #[.cell t 24, .tmp u]) (tmps : Array Value) {w : World} {g : Nat} {v : Value} (ht : tmps.getD t undef = .pointer (some ⟨g, 0, none⟩)) (hD : Bx w g 24 [v]) :
    (results fn tmps).run Try.prog w = .ok (.tuple #[.agg #[v], tmps.getD u undef]) w := by
  have c0 := hD.cell 0 (v := v) rfl
  have ht' : tmps[t]?.getD undef = .pointer (some ⟨g, 0, none⟩) := by simpa using ht
  simp [results, h, ht', go_sem, c0]
/-- the boxes of Done, and the rows -/
structure Dn (W w : World) (b : Nat) (r : Rq) (a : Option Addr) (n c : Nat) (L : List Kpt) (zv : Value) : Prop where
  g : Bx w b 24 [.slice a n c]
  q : Bx w (b + 1) 26 [.int .i64 r.sen, .int .i64 r.cnt, .string ⟨r.body.toArray⟩]
  z : Bx w (b + 1 + 1) 24 [zv]
  o : Ow w (b + 3) 4 a n c (rowsC kpC L)
  b : Below b W w
theorem Dn.keep {W w w' : World} {b : Nat} {r : Rq} {a : Option Addr} {n c : Nat} {L : List Kpt} {zv : Value} (h : Dn W w b r a n c L zv) (hb : Below w.heap.size w w') : Dn W w' b r a n c L zv :=
  ⟨h.g.keep hb, h.q.keep hb, h.z.keep hb, h.o.keep hb, h.b.trans (hb.mono (Nat.le_of_lt h.g.lt))⟩
theorem Dn.drew {W w : World} {b : Nat} {r : Rq} {a : Option Addr} {n c : Nat} {L : List Kpt} {zv : Value} (h : Dn W w b r a n c L zv) : Dn W w.drew b r a n c L zv := h.keep (Below.refl _ _).drew
/-- the result is stored -/
theorem Dn.fin {W w : World} {b : Nat} {r : Rq} {a : Option Addr} {n c : Nat} {L : List Kpt} {zv : Value} (h : Dn W w b r a n c L zv) (v : Value) : Bx (w.setCell ⟨b + 1 + 1, 0, none⟩ v) (b + 1 + 1) 24 [v] ∧ Ow (w.setCell ⟨b + 1 + 1, 0, none⟩ v) b 4 a n c (rowsC kpC L) ∧ Below b W (w.setCell ⟨b + 1 + 1, 0, none⟩ v) := by
  have hg : w.grownBy (w.setCell ⟨b + 1 + 1, 0, none⟩ v) (some (b + 1 + 1)) := grownBy_setCells w (b + 1 + 1) 0 [v]
  refine ⟨h.z.set 0 v, (h.o.kept hg ?_).lower (by omega), h.b.setCell (p := ⟨b + 1 + 1, 0, none⟩) (by dsimp only; omega) v⟩
  by_cases e : rowOf a = some (b + 1 + 1)
  · have := h.o.row _ e; omega
  · exact .inr e
/-- the rows turn -/
theorem Dn.turn {W w w' : World} {b : Nat} {r : Rq} {a a' : Option Addr} {n c n' c' : Nat} {L L' : List Kpt} {zv : Value} (h : Dn W w b r a n c L zv) (hg : w.grownBy w' (rowOf a)) (hO : Ow w' (b + 3) 4 a' n' c' (rowsC kpC L')) :
    Bx w' b 24 [.slice a n c] ∧ Dn W (w'.setCell ⟨b, 0, none⟩ (.slice a' n' c')) b r a' n' c' L' zv := by
  have hr := h.o.row
  have hx : ∀ j, j < b + 3 → some j ≠ rowOf a := fun j hj e => by have := hr j e.symm; omega
  have g1 := h.g.grown hg (hx _ (by omega))
  have hg2 : w'.grownBy (w'.setCell ⟨b, 0, none⟩ (.slice a' n' c')) (some b) := grownBy_setCells w' b 0 [.slice a' n' c']
  refine ⟨g1, g1.set 0 _, (h.q.grown hg (hx _ (by omega))).other (by omega) 0 _, (h.z.grown hg (hx _ (by omega))).other (by omega) 0 _, hO.kept hg2 ?_, (h.b.grown hg (Nat.le_of_lt h.g.lt) (fun k hk => by have := hr k hk; omega)).setCell (p := ⟨b, 0, none⟩) (Nat.le_refl _) _⟩
  by_cases e : rowOf a' = some b
  · have := hO.row _ e; omega
  · exact .inr e
theorem Dn.row {W w w' : World} {b : Nat} {r : Rq} {a : Option Addr} {n c : Nat} {L L' : List Kpt} {zv : Value} (h : Dn W w b r a n c L zv) (hg : w.grownBy w' (rowOf a)) (hO : Ow w' (b + 3) 4 a n c (rowsC kpC L')) : Dn W w' b r a n c L' zv := by
  have hr := h.o.row
  have hx : ∀ j, j < b + 3 → some j ≠ rowOf a := fun j hj e => by have := hr j e.symm; omega
  exact ⟨h.g.grown hg (hx _ (by omega)), h.q.grown hg (hx _ (by omega)), h.z.grown hg (hx _ (by omega)), hO, h.b.grown hg (Nat.le_of_lt h.g.lt) (fun k hk => by have := hr k hk; omega)⟩
/-- what the boxes hold -/
theorem Dn.held {W w : World} {b : Nat} {r : Rq} {a : Option Addr} {n c : Nat} {L : List Kpt} {zv : Value} (h : Dn W w b r a n c L zv) :
    w.cell? ⟨b, 0, none⟩ = some (.slice a n c) ∧ w.cell? ⟨b + 1, 0, none⟩ = some (.int .i64 r.sen) ∧ w.cell? ⟨b + 1, 1, none⟩ = some (.int .i64 r.cnt) ∧ w.cell? ⟨b + 1, 2, none⟩ = some (.string ⟨r.body.toArray⟩) :=
  ⟨h.g.cell 0 rfl, h.q.cell 0 rfl, h.q.cell 1 rfl, h.q.cell 2 rfl⟩
theorem Dn.spot {W w : World} {b : Nat} {r : Rq} {g off n c : Nat} {L : List Kpt} {zv : Value} (h : Dn W w b r (some ⟨g, off, none⟩) n c L zv) {k : Nat} {x : Kpt} (hx : L[k]? = some x) :
    w.cell? ⟨g, off + k * 4, none⟩ = some (.int .i64 x.sen) ∧ w.cell? ⟨g, off + k * 4 + 1, none⟩ = some (.int .i64 x.cnt) ∧ w.cell? ⟨g, off + k * 4 + 2, none⟩ = some (.string ⟨x.mark.toArray⟩) ∧ w.cell? ⟨g, off + k * 4 + 3, none⟩ = some (.string ⟨x.ans.toArray⟩) ∧
      w.frozen? ⟨g, off + k * 4, none⟩ = false ∧ w.frozen? ⟨g, off + k * 4 + 1, none⟩ = false ∧ w.frozen? ⟨g, off + k * 4 + 2, none⟩ = false ∧ w.frozen? ⟨g, off + k * 4 + 3, none⟩ = false := by
  have hk := (List.getElem?_eq_some_iff.1 hx).1
  obtain ⟨g', off', x', e, hx', c0, c1, c2, c3⟩ := h.o.rd.kp hk
  cases e
  rw [hx'.out] at hx
  cases hx
  have hb := h.o.both
  have hl := h.o.1
  have hc := h.o.2.1
  rw [rowsC_length kpC_len] at hl
  have q : ∀ j, j < 4 → w.frozen? ⟨g, off + (k * 4 + j), none⟩ = false := fun j hj => (hb.2 _ (by omega)).2
  exact ⟨c0, c1, c2, c3, q 0 (by omega), q 1 (by omega), q 2 (by omega), q 3 (by omega)⟩
theorem Dn.stored {W w : World} {b : Nat} {r : Rq} {g off n c : Nat} {L : List Kpt} {zv : Value} (h : Dn W w b r (some ⟨g, off, none⟩) n c L zv) {k : Nat} (hk : k < L.length) (y : Kpt) :
    Dn W ((((w.setCell ⟨g, off + k * 4, none⟩ (.int .i64 y.sen)).setCell ⟨g, off + k * 4 + 1, none⟩ (.int .i64 y.cnt)).setCell ⟨g, off + k * 4 + 2, none⟩ (.string ⟨y.mark.toArray⟩)).setCell ⟨g, off + k * 4 + 3, none⟩ (.string ⟨y.ans.toArray⟩)) b r (some ⟨g, off, none⟩) n c (L.set k y) zv := by
  have hS := h.o.setRow kpC_len hk y
  exact h.row hS.2 hS.1
set_option maxRecDepth 100000 in
set_option maxHeartbeats 4000000 in
theorem kdone_walk (a : Option Addr) (l : List Kpt) (cap : Nat) (r : Rq) (ans : List UInt8) (w : World) (hR : Rd w a (rowsC kpC l)) (hn : l.length ≤ 1000000) (h1 : I64 r.sen) (h2 : I64 r.cnt) (hal : ans.length ≤ 281474976710656) :
    Calls Try.prog 15 #[.agg #[.slice a l.length cap], .agg #[.int .i64 r.sen, .int .i64 r.cnt, .string ⟨r.body.toArray⟩], .string ⟨ans.toArray⟩] w (DoneRes w (doneF l r ans).1 (doneF l r ans).2) := by
  obtain ⟨b, hb⟩ : ∃ b, b = w.heap.size := ⟨_, rfl⟩
  obtain ⟨w0, hw0⟩ : ∃ w0, w0 = ((w.alloc (.cells #[.slice a l.length cap] 24)).alloc (rqB r)).alloc (.cells #[.slice none 0 0] 24) := ⟨_, rfl⟩
  have hb0 : Below w.heap.size w w0 := by rw [hw0]; exact ((((Below.refl w.heap.size w).alloc (Nat.le_refl _) _).alloc (by simp) _).alloc (by simp; omega) _)
  have hG : Bx w0 b 24 [.slice a l.length cap] := by rw [hw0, hb]; exact ((Bx.new w 24 [.slice a l.length cap]).alloc _).alloc _
  have hQ : Bx w0 (b + 1) 26 [.int .i64 r.sen, .int .i64 r.cnt, .string ⟨r.body.toArray⟩] := by
    rw [hw0, hb]
    have := (Bx.new (w.alloc (.cells #[.slice a l.length cap] 24)) 26 [.int .i64 r.sen, .int .i64 r.cnt, .string ⟨r.body.toArray⟩]).alloc (.cells #[.slice none 0 0] 24)
    simpa using this
  have hZ : Bx w0 (b + 1 + 1) 24 [.slice none 0 0] := by
    rw [hw0, hb]
    have := Bx.new ((w.alloc (.cells #[.slice a l.length cap] 24)).alloc (rqB r)) 24 [.slice none 0 0]
    simpa using this
  have hs0 : w0.heap.size = b + 3 := by rw [hw0, hb]; simp
  have hR0 := hR.keep hb0
  have HB := Lib.hid hb
  have hbw : w.heap.size = b := hb.symm
  clear hb
  go_enter Try.func15, Try.ntmps15
  go_wp2_with fail
  rw [← hw0]
  have K1 := Lib.hid (kclone_walk a l cap w0 hR0 hn)
  clear hw0 hR
  go_wp2_with (go_at_call 30; (with_reducible refine K1.out.mono ?_))
  rintro e w1 ⟨a1, c1, rfl, hO1, hb1⟩
  have hG1 := hG.keep hb1
  have hD : Dn w (w1.setCell ⟨b, 0, none⟩ (.slice a1 l.length c1)) b r a1 l.length c1 l (.slice none 0 0) := by
    have hg2 : w1.grownBy (w1.setCell ⟨b, 0, none⟩ (.slice a1 l.length c1)) (some b) := grownBy_setCells w1 b 0 [.slice a1 l.length c1]
    rw [hs0] at hO1
    refine ⟨hG1.set 0 _, (hQ.keep hb1).other (by omega) 0 _, (hZ.keep hb1).other (by omega) 0 _, hO1.kept hg2 ?_, ((HB.out ▸ hb0).trans (hb1.mono (by omega))).setCell (p := ⟨b, 0, none⟩) (Nat.le_refl _) _⟩
    by_cases e : rowOf a1 = some b
    · have := hO1.row _ e; omega
    · exact .inr e
  have g0 := hG1.cell 0 (v := .slice a l.length cap) rfl
  have g1 := hG1.free 0
  clear hG hQ hZ hb0 K1 hO1 hb1 hR0 hs0 hG1
  go_upto_region 2 with (fail)
  generalize w1.setCell ⟨b, 0, none⟩ (.slice a1 l.length c1) = w2 at *
  clear g0 g1
  obtain ⟨le, hle⟩ : ∃ x, x = (lookF l r).2.2 := ⟨_, rfl⟩
  obtain ⟨lf, hlf⟩ : ∃ x, x = (lookF l r).2.1 := ⟨_, rfl⟩
  obtain ⟨la, hla⟩ : ∃ x, x = (lookF l r).1 := ⟨_, rfl⟩
  have K2 : Hid (Calls Try.prog 14 #[.agg #[.slice a1 l.length c1], .agg #[.int .i64 r.sen, .int .i64 r.cnt, .string ⟨r.body.toArray⟩]] w2 fun e w' => e = .returned (.tuple #[.string ⟨la.toArray⟩, .bool lf, .int .i64 le]) ∧ Below w2.heap.size w2 w') := by
    rw [hle, hlf, hla]; exact klook_walk a1 l c1 r w2 hD.o.rd hn h1 h2
  have g0 := hD.g.cell 0 (v := .slice a1 l.length c1) rfl
  have q0 := hD.q.cell 0 (v := .int .i64 r.sen) rfl
  have q1 := hD.q.cell 1 (v := .int .i64 r.cnt) rfl
  have q2 := hD.q.cell 2 (v := .string ⟨r.body.toArray⟩) rfl
  go_wp2_with (go_at_call 14; (with_reducible refine K2.out.mono ?_))
  rintro e w3 ⟨rfl, hb3⟩
  replace hD := hD.keep hb3
  clear g0 q0 q1 q2 K2 hb3 hla
  have g0 := hD.g.cell 0 (v := .slice a1 l.length c1) rfl
  have z0 := hD.z.cell 0 (v := .slice none 0 0) rfl
  have z1 := hD.z.free 0
  have hF := hD.fin (.slice a1 l.length c1)
  by_cases hz : le = 0
  rotate_left
  · have t1 : (le != 0) = true := by rw [bne_iff_ne]; exact hz
    have HL := Lib.hid (doneF_err (l := l) (r := r) (a := ans) (by rw [← hle]; exact hz))
    have HLE := Lib.hid hle
    clear hz hle hlf
    go_wp2_with fail
    refine bodyPost_ret (Guard.ret (t := 6) (u := 7) rfl _ rfl hF.1) rfl ?_
    rw [HL.out]
    exact ⟨a1, c1, by rw [← HLE.out]; rfl, HB.out ▸ hF.2.1, HB.out ▸ hF.2.2⟩
  have t1 : (le != 0) = false := by rw [bne_eq_false_iff_eq]; exact hz
  obtain ⟨hl64, hgood, hokr⟩ := look_good (show (lookF l r).2.2 = 0 by rw [← hle]; exact hz)
  have HLE := Lib.hid (show (lookF l r).2.2 = 0 by rw [← hle]; exact hz)
  have HLF := Lib.hid hlf
  obtain ⟨k, hk⟩ : ∃ k, k = posF l r.sen := ⟨_, rfl⟩
  obtain ⟨o, ho⟩ : ∃ o, o = hasF l r.sen := ⟨_, rfl⟩
  have hkl := posF_le l r.sen
  rw [← hk] at hkl
  have K3 : Hid (∀ V, Rd V a1 (rowsC kpC l) → Calls Try.prog 29 #[.agg #[.slice a1 l.length c1], .int .i64 r.sen] V fun e w' => e = .returned (.tuple #[.int .i64 (k : Int), .bool o]) ∧ Below V.heap.size V w') := Lib.hid fun V hV => by
    rw [hk, ho]; exact krow_walk a1 l c1 r.sen V hV hn hgood
  have hbl := hokr.2.2
  have KM : Hid (∀ V, Calls Try.prog 18 #[.agg #[.int .i64 r.sen, .int .i64 r.cnt, .string ⟨r.body.toArray⟩]] V fun e w' => e = .returned (.string ⟨(markF r).toArray⟩) ∧ Below V.heap.size V w') := Lib.hid fun V => kmark_walk r V h1 h2 (by omega)
  have HK := Lib.hid hk
  have HO := Lib.hid ho
  obtain ⟨m, hm⟩ : ∃ m, m = markF r := ⟨_, rfl⟩
  rw [← hm] at KM
  have HM := Lib.hid hm
  clear hz hle hlf hk ho hgood hokr h1 h2 hm hF
  have q0 := hD.q.cell 0 (v := .int .i64 r.sen) rfl
  go_wp2_with (go_at_call 29; (with_reducible refine (K3.out _ hD.o.rd).mono ?_))
  rintro e w4 ⟨rfl, hb4⟩
  replace hD := hD.keep hb4
  clear g0 z0 z1 q0 hb4 K3
  have g0 := hD.g.cell 0 (v := .slice a1 l.length c1) rfl
  have z0 := hD.z.cell 0 (v := .slice none 0 0) rfl
  have z1 := hD.z.free 0
  have hF := hD.fin (.slice a1 l.length c1)
  cases lf with
  | false =>
    have HL := Lib.hid (doneF_old (a := ans) HLE.out HLF.out.symm)
    go_wp2_with fail
    refine bodyPost_ret (Guard.ret (t := 6) (u := 7) rfl _ rfl hF.1) rfl ?_
    rw [HL.out]
    exact ⟨a1, c1, rfl, HB.out ▸ hF.2.1, HB.out ▸ hF.2.2⟩
  | true =>
    by_cases hal2 : 16384 < ans.length
    · have t2 : decide ((ans.length : Int) > 16384) = true := decide_eq_true (by omega)
      have HL := Lib.hid (doneF_full HLE.out HLF.out.symm (.inl hal2))
      clear hal2
      go_wp2_with fail
      refine bodyPost_ret (Guard.ret (t := 6) (u := 7) rfl _ rfl hF.1) rfl ?_
      rw [HL.out]
      exact ⟨a1, c1, rfl, HB.out ▸ hF.2.1, HB.out ▸ hF.2.2⟩
    have t2 : decide ((ans.length : Int) > 16384) = false := decide_eq_false (by omega)
    cases o with
    | false =>
      by_cases hl63 : 64 ≤ l.length
      · have t3 : decide ((l.length : Int) ≥ 64) = true := decide_eq_true (by omega)
        have HL := Lib.hid (doneF_full (a := ans) HLE.out HLF.out.symm (.inr ⟨HO.out.symm, hl63⟩))
        clear hl63
        go_wp2_with fail
        refine bodyPost_ret (Guard.ret (t := 6) (u := 7) rfl _ rfl hF.1) rfl ?_
        rw [HL.out]
        exact ⟨a1, c1, rfl, HB.out ▸ hF.2.1, HB.out ▸ hF.2.2⟩
      have t3 : decide ((l.length : Int) ≥ 64) = false := decide_eq_false (by omega)
      have HL := Lib.hid (doneF_ins (a := ans) HLE.out HLF.out.symm (by omega) HO.out.symm (by omega))
      rw [← HK.out] at HL
      have hlen2 := ins_length (z := newK r ans) hkl
      obtain ⟨z, hz⟩ : ∃ z : Kpt, z = ⟨0, 0, [], []⟩ := ⟨_, rfl⟩
      have hbA := (Below.refl w4.heap.size w4).alloc (Nat.le_refl _) (.cells #[.int .i64 0, .int .i64 0, .string ⟨#[]⟩, .string ⟨#[]⟩] 37)
      have hDA := hD.keep hbA
      have hv : Bx (w4.alloc (.cells #[.int .i64 0, .int .i64 0, .string ⟨#[]⟩, .string ⟨#[]⟩] 37)) w4.heap.size 37 (kpC z) := by rw [hz]; exact Bx.new w4 _ _
      have hsz := hD.z.lt
      have K5 := Lib.hid (kinsert_walk (b + 3) a1 l c1 k w4.heap.size z _ hDA.o (by simp; omega) hn hkl hv (fun e => by have := hD.o.row _ e; omega))
      go_upto_region 11 with (fail)
      go_wp2_with (go_at_call 31; (with_reducible refine K5.out.mono ?_))
      rintro e w6 ⟨a2, c2, rfl, hO6, hg6⟩
      obtain ⟨hG6, hD6⟩ := hDA.turn hg6 hO6
      clear hD hDA hbA hv K5 hO6 hg6 g0 z0 z1 hF
      have g0 := hG6.cell 0 (v := .slice a1 l.length c1) rfl
      have g1 := hG6.free 0
      go_upto_region 12 with (fail)
      generalize w6.setCell ⟨b, 0, none⟩ (.slice a2 (l.length + 1) c2) = w7 at *
      clear g0 g1 hG6
      have hlen := ins_length (z := z) hkl
      obtain ⟨g, off, x, rfl, -, -⟩ := hD6.o.rd.kp (k := k) (by omega)
      have hset : (l.take k ++ z :: l.drop k).set k ⟨r.sen, r.cnt, m, ans⟩ = l.take k ++ newK r ans :: l.drop k := by
        rw [newK, ← HM.out, List.set_append_right _ _ (by rw [List.length_take]; omega), List.length_take, Nat.min_eq_left hkl, Nat.sub_self, List.set_cons_zero]
      generalize l.take k ++ z :: l.drop k = L at *
      have hD := hD6
      clear hD6
      go_wp2_with fail
      have hk4 : (k : Int) < (l.length : Int) + 1 := by omega
      have s0 := hD.drew.held
      obtain ⟨x0, hx0⟩ : ∃ x, L[k]? = some x := ⟨_, List.getElem?_eq_getElem (by omega)⟩
      go_region_held3 (fun w' => w'.cell? ⟨b, 0, none⟩ = some (.slice (some ⟨g, off, none⟩) (l.length + 1) c2) ∧ w'.cell? ⟨b + 1, 0, none⟩ = some (.int .i64 r.sen) ∧ w'.cell? ⟨b + 1, 1, none⟩ = some (.int .i64 r.cnt) ∧ w'.cell? ⟨b + 1, 2, none⟩ = some (.string ⟨r.body.toArray⟩)) (first | (with_reducible assumption) | (go_keep; done)) (first | (go_at_call 18; (with_reducible refine (KM.out _).mono ?_); rintro e wD ⟨rfl, hbD⟩; have hDD := hD.drew.keep hbD; have sD := hDD.held; obtain ⟨p0, p1, p2, p3, p4, p5, p6, p7⟩ := hDD.spot hx0; have hDS := hDD.stored (k := k) (by omega) (newK r ans); simp only [newK, ← HM.out] at hDS; have sS := hDS.held))
      generalize ((((wD.setCell ⟨g, off + k * 4, none⟩ (.int .i64 r.sen)).setCell ⟨g, off + k * 4 + 1, none⟩ (.int .i64 r.cnt)).setCell ⟨g, off + k * 4 + 2, none⟩ (.string ⟨m.toArray⟩)).setCell ⟨g, off + k * 4 + 3, none⟩ (.string ⟨ans.toArray⟩)) = w8 at *
      clear p0 p1 p2 p3 p4 p5 p6 p7 s0 sD sS hDD hD hbD
      have g9 := hDS.g.cell 0 (v := .slice (some ⟨g, off, none⟩) (l.length + 1) c2) rfl
      have z9 := hDS.z.cell 0 (v := .slice none 0 0) rfl
      have z8 := hDS.z.free 0
      have hF := hDS.fin (.slice (some ⟨g, off, none⟩) (l.length + 1) c2)
      go_wp2_with fail
      refine bodyPost_ret (Guard.ret (t := 6) (u := 7) rfl _ rfl hF.1) rfl ?_
      rw [HL.out]
      exact ⟨some ⟨g, off, none⟩, c2, by rw [hlen2]; rfl, by rw [hlen2, ← hset]; exact HB.out ▸ hF.2.1, HB.out ▸ hF.2.2⟩
    | true =>
      have HL := Lib.hid (doneF_set (a := ans) HLE.out HLF.out.symm (by omega) HO.out.symm)
      obtain ⟨x, hx, hs⟩ := hasF_some HO.out.symm
      rw [← HK.out] at hx
      have hkl2 := (List.getElem?_eq_some_iff.1 hx).1
      obtain ⟨g, off, x', rfl, -, -⟩ := hD.o.rd.kp (k := k) hkl2
      clear hx hs hF g0 z0 z1
      rw [← HK.out] at HL
      have hlen2 : (l.set k (newK r ans)).length = l.length := List.length_set
      have hset : l.set k ⟨r.sen, r.cnt, m, ans⟩ = l.set k (newK r ans) := by rw [newK, ← HM.out]
      go_upto_region 12 with (fail)
      go_wp2_with fail
      have hk4 : (k : Int) < (l.length : Int) := by omega
      have s0 := hD.drew.held
      obtain ⟨x0, hx0⟩ : ∃ x, l[k]? = some x := ⟨_, List.getElem?_eq_getElem (by omega)⟩
      go_region_held3 (fun w' => w'.cell? ⟨b, 0, none⟩ = some (.slice (some ⟨g, off, none⟩) l.length c1) ∧ w'.cell? ⟨b + 1, 0, none⟩ = some (.int .i64 r.sen) ∧ w'.cell? ⟨b + 1, 1, none⟩ = some (.int .i64 r.cnt) ∧ w'.cell? ⟨b + 1, 2, none⟩ = some (.string ⟨r.body.toArray⟩)) (first | (with_reducible assumption) | (go_keep; done)) (first | (go_at_call 18; (with_reducible refine (KM.out _).mono ?_); rintro e wD ⟨rfl, hbD⟩; have hDD := hD.drew.keep hbD; have sD := hDD.held; obtain ⟨p0, p1, p2, p3, p4, p5, p6, p7⟩ := hDD.spot hx0; have hDS := hDD.stored (k := k) (by omega) (newK r ans); simp only [newK, ← HM.out] at hDS; have sS := hDS.held))
      generalize ((((wD.setCell ⟨g, off + k * 4, none⟩ (.int .i64 r.sen)).setCell ⟨g, off + k * 4 + 1, none⟩ (.int .i64 r.cnt)).setCell ⟨g, off + k * 4 + 2, none⟩ (.string ⟨m.toArray⟩)).setCell ⟨g, off + k * 4 + 3, none⟩ (.string ⟨ans.toArray⟩)) = w8 at *
      clear p0 p1 p2 p3 p4 p5 p6 p7 s0 sD sS hDD hD hbD
      have g9 := hDS.g.cell 0 (v := .slice (some ⟨g, off, none⟩) l.length c1) rfl
      have z9 := hDS.z.cell 0 (v := .slice none 0 0) rfl
      have z8 := hDS.z.free 0
      have hF := hDS.fin (.slice (some ⟨g, off, none⟩) l.length c1)
      go_wp2_with fail
      refine bodyPost_ret (Guard.ret (t := 6) (u := 7) rfl _ rfl hF.1) rfl ?_
      rw [HL.out]
      exact ⟨some ⟨g, off, none⟩, c1, by rw [hlen2]; rfl, by rw [hlen2, ← hset]; exact HB.out ▸ hF.2.1, HB.out ▸ hF.2.2⟩
end Go.Proofs.Ytnlhcfhngdahlaa
