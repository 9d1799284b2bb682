/- Guards: what carries a request out: the reference's Done. -/
import Derived.Test.YtnlhcfhngdahlaaReplayJ
import Derived.Test.YtnlhcfhngdahlaaRegionL
namespace Go.Proofs.Ytnlhcfhngdahlaa
open Go.RowKit
theorem Dn.grow {W w w' : World} {b : Nat} {r : Rq} {a : Option Addr} {n c : Nat} {L : List Kpt} {zv : Value} {row : Option Nat} (h : Dn W w b r a n c L zv) (hg : w.grownBy w' row) (hr : ∀ j, row = some j → b + 1 + 1 < j) (hr2 : row = none ∨ rowOf a ≠ row) : Dn W w' b r a n c L zv := by
  have hx : ∀ j, j ≤ b + 1 + 1 → some j ≠ row := fun j hj e => by have := hr j e.symm; omega
  refine ⟨h.g.grown hg (hx _ (by omega)), h.q.grown hg (hx _ (by omega)), h.z.grown hg (hx _ (by omega)), h.o.kept hg ?_, h.b.grown hg (Nat.le_of_lt h.g.lt) (fun k hk => by have := hr k hk; omega)⟩
  rcases hr2 with rfl | h2
  · cases rowOf a <;> simp
  · exact .inr h2
theorem Dn.other {W w : World} {b g : Nat} {r : Rq} {a : Option Addr} {n c : Nat} {L : List Kpt} {zv : Value} (h : Dn W w b r a n c L zv) (h1 : b + 1 + 1 < g) (h2 : rowOf a ≠ some g) (o : Nat) (v : Value) : Dn W (w.setCell ⟨g, o, none⟩ v) b r a n c L zv :=
  h.grow (grownBy_setCells w g o [v]) (fun j hj => by cases hj; exact h1) (.inr h2)
theorem Dn.alloc {W w : World} {b : Nat} {r : Rq} {a : Option Addr} {n c : Nat} {L : List Kpt} {zv : Value} (h : Dn W w b r a n c L zv) (o : Obj) : Dn W (w.alloc o) b r a n c L zv := h.keep ((Below.refl _ _).alloc (Nat.le_refl _) o)
theorem Dn.new {W w : World} {b : Nat} {r : Rq} {a : Option Addr} {n c : Nat} {L : List Kpt} {zv : Value} (h : Dn W w b r a n c L zv) : b + 1 + 1 < w.heap.size ∧ rowOf a ≠ some w.heap.size :=
  ⟨h.z.lt, fun e => by have := h.o.row _ e; omega⟩
/-- the boxes, and the box of a new row -/
structure Rn (W w : World) (b : Nat) (r : Rq) (a : Option Addr) (n c : Nat) (L : List Kpt) (zv : Value) (gx : Nat) (y : Kpt) : Prop where
  d : Dn W w b r a n c L zv
  x : Bx w gx 37 (kpC y)
  h1 : b + 1 + 1 < gx
  h2 : rowOf a ≠ some gx
theorem Rn.grow {W w w' : World} {b : Nat} {r : Rq} {a : Option Addr} {n c : Nat} {L : List Kpt} {zv : Value} {gx : Nat} {y : Kpt} {row : Option Nat} (h : Rn W w b r a n c L zv gx y) (hg : w.grownBy w' row) (hr : ∀ j, row = some j → w.heap.size ≤ j ∨ (b + 1 + 1 < j ∧ rowOf a ≠ row ∧ some gx ≠ row)) : Rn W w' b r a n c L zv gx y := by
  have hxl := h.x.lt
  have hzl := h.d.z.lt
  refine ⟨h.d.grow hg (fun j hj => by rcases hr j hj with h1 | h1 <;> omega) ?_, h.x.grown hg ?_, h.h1, h.h2⟩
  · cases row with
    | none => exact .inl rfl
    | some j =>
      rcases hr j rfl with h1 | h1
      · exact .inr (fun e => by have := h.d.o.row _ e; omega)
      · exact .inr h1.2.1
  · cases row with
    | none => simp
    | some j =>
      rcases hr j rfl with h1 | h1
      · simp; omega
      · exact h1.2.2
theorem Rn.far {W w w' : World} {b N : Nat} {r : Rq} {a : Option Addr} {n c : Nat} {L : List Kpt} {zv : Value} {gx : Nat} {y : Kpt} {row : Option Nat} (h : Rn W w b r a n c L zv gx y) (hg : w.grownBy w' row) (h1 : b + 1 + 1 < N) (h2 : ∀ j, rowOf a = some j → j < N) (h3 : gx < N) (hr : ∀ j, row = some j → N ≤ j) : Rn W w' b r a n c L zv gx y :=
  h.grow hg (fun j hj => .inr (by
    have := hr j hj
    subst hj
    exact ⟨by omega, fun e => by have := h2 j e; omega, by simp; omega⟩))
theorem Rn.keep {W w w' : World} {b : Nat} {r : Rq} {a : Option Addr} {n c : Nat} {L : List Kpt} {zv : Value} {gx : Nat} {y : Kpt} (h : Rn W w b r a n c L zv gx y) (hb : Below w.heap.size w w') : Rn W w' b r a n c L zv gx y := ⟨h.d.keep hb, h.x.keep hb, h.h1, h.h2⟩
theorem Bx.kp4 {w : World} {gx : Nat} {y : Kpt} (h : Bx w gx 37 (kpC y)) :
    w.cell? ⟨gx, 0, none⟩ = some (.int .i64 y.sen) ∧ w.cell? ⟨gx, 1, none⟩ = some (.int .i64 y.cnt) ∧ w.cell? ⟨gx, 2, none⟩ = some (.string ⟨y.mark.toArray⟩) ∧ w.cell? ⟨gx, 3, none⟩ = some (.string ⟨y.ans.toArray⟩) :=
  ⟨h.cell 0 rfl, h.cell 1 rfl, h.cell 2 rfl, h.cell 3 rfl⟩
theorem Rn.held {W w : World} {b : Nat} {r : Rq} {a : Option Addr} {n c : Nat} {L : List Kpt} {zv : Value} {gx : Nat} {y : Kpt} (h : Rn W w b r a n c L zv gx y) :
    w.cell? ⟨gx, 0, none⟩ = some (.int .i64 y.sen) ∧ w.cell? ⟨gx, 1, none⟩ = some (.int .i64 y.cnt) ∧ w.cell? ⟨gx, 2, none⟩ = some (.string ⟨y.mark.toArray⟩) ∧ w.cell? ⟨gx, 3, none⟩ = some (.string ⟨y.ans.toArray⟩) :=
  ⟨h.x.cell 0 rfl, h.x.cell 1 rfl, h.x.cell 2 rfl, h.x.cell 3 rfl⟩
theorem Dn.req {W w : World} {b : Nat} {r : Rq} {a : Option Addr} {n c : Nat} {L : List Kpt} {zv : Value} (h : Dn W w b r a n c L zv) :
    w.cell? ⟨b + 1, 0, none⟩ = some (.int .i64 r.sen) ∧ w.cell? ⟨b + 1, 1, none⟩ = some (.int .i64 r.cnt) ∧ w.cell? ⟨b + 1, 2, none⟩ = some (.string ⟨r.body.toArray⟩) :=
  ⟨h.q.cell 0 rfl, h.q.cell 1 rfl, h.q.cell 2 rfl⟩
theorem Dn.other4 {W w : World} {b g : Nat} {r : Rq} {a : Option Addr} {n c : Nat} {L : List Kpt} {zv : Value} (h : Dn W w b r a n c L zv) (h1 : b + 1 + 1 < g) (h2 : rowOf a ≠ some g) (v0 v1 v2 v3 : Value) : Dn W ((((w.setCell ⟨g, 0, none⟩ v0).setCell ⟨g, 1, none⟩ v1).setCell ⟨g, 2, none⟩ v2).setCell ⟨g, 3, none⟩ v3) b r a n c L zv :=
  (((h.other h1 h2 0 v0).other h1 h2 1 v1).other h1 h2 2 v2).other h1 h2 3 v3
theorem Bx.four {w : World} {g : Nat} {t : TypeId} {u0 u1 u2 u3 : Value} (h : Bx w g t [u0, u1, u2, u3]) (v0 v1 v2 v3 : Value) : Bx ((((w.setCell ⟨g, 0, none⟩ v0).setCell ⟨g, 1, none⟩ v1).setCell ⟨g, 2, none⟩ v2).setCell ⟨g, 3, none⟩ v3) g t [v0, v1, v2, v3] :=
  (((h.set 0 v0).set 1 v1).set 2 v2).set 3 v3
abbrev zeroK : Obj := .cells #[.int .i64 0, .int .i64 0, .string ⟨#[]⟩, .string ⟨#[]⟩] 37
set_option maxRecDepth 100000 in
set_option maxHeartbeats 4000000 in
theorem rkdone_walk (a : Option Addr) (l : List Kpt) (cap : Nat) (r : Rq) (ans : List UInt8) (w : World) (hR : Rd w a (rowsC kpC l)) (hn : l.length ≤ 1000000) (h1 : I64 r.sen) (h2 : I64 r.cnt) (hal : ans.length ≤ 281474976710656) :
    Calls Try.prog 20 #[.agg #[.slice a l.length cap], .agg #[.int .i64 r.sen, .int .i64 r.cnt, .string ⟨r.body.toArray⟩], .string ⟨ans.toArray⟩] w (DoneRes w (doneF l r ans).1 (doneF l r ans).2) := by
  obtain ⟨b, hb⟩ : ∃ b, b = w.heap.size := ⟨_, rfl⟩
  obtain ⟨w0, hw0⟩ : ∃ w0, w0 = ((w.alloc (.cells #[.slice a l.length cap] 24)).alloc (rqB r)).alloc (.cells #[.slice none 0 0] 24) := ⟨_, rfl⟩
  have hb0 : Below w.heap.size w w0 := by rw [hw0]; exact ((((Below.refl w.heap.size w).alloc (Nat.le_refl _) _).alloc (by simp) _).alloc (by simp; omega) _)
  have hG : Bx w0 b 24 [.slice a l.length cap] := by rw [hw0, hb]; exact ((Bx.new w 24 [.slice a l.length cap]).alloc _).alloc _
  have hQ : Bx w0 (b + 1) 26 [.int .i64 r.sen, .int .i64 r.cnt, .string ⟨r.body.toArray⟩] := by
    rw [hw0, hb]
    have := (Bx.new (w.alloc (.cells #[.slice a l.length cap] 24)) 26 [.int .i64 r.sen, .int .i64 r.cnt, .string ⟨r.body.toArray⟩]).alloc (.cells #[.slice none 0 0] 24)
    simpa using this
  have hZ : Bx w0 (b + 1 + 1) 24 [.slice none 0 0] := by
    rw [hw0, hb]
    have := Bx.new ((w.alloc (.cells #[.slice a l.length cap] 24)).alloc (rqB r)) 24 [.slice none 0 0]
    simpa using this
  have hs0 : w0.heap.size = b + 3 := by rw [hw0, hb]; simp
  have hR0 := hR.keep hb0
  have HB := Lib.hid hb
  have hbw : w.heap.size = b := hb.symm
  have hrl := rowsC_length kpC_len l
  have g00 := hG.cell 0 (v := .slice a l.length cap) rfl
  clear hb
  go_enter Try.func20, Try.ntmps20
  go_upto_region 1 with (fail)
  rw [← hw0]
  clear hw0 hR
  go_upto_region 2 with ((at_builtin; refine wpList_apps (w0 := w0) (B := w0.heap.size) (base := b + 3) rfl _ _ _ _ rfl el_kp rfl (Ow.nil _ _ _) (Below.refl _ _) (by omega) (by omega) rfl (Src.slice Try.underlying22 hrl hR0 (rowsC_one kpC_one l)) (by omega) ?_; intro a1 c1 w1 hO1 hb1 _; rw [Nat.zero_add, List.nil_append] at hO1; rw [Nat.zero_add]; have g0 := (hG.keep hb1).cell 0 (v := .slice a l.length cap) rfl; have g1 := (hG.keep hb1).free 0))
  have hD : Dn w (w1.setCell ⟨b, 0, none⟩ (.slice a1 l.length c1)) b r a1 l.length c1 l (.slice none 0 0) := by
    have hg2 : w1.grownBy (w1.setCell ⟨b, 0, none⟩ (.slice a1 l.length c1)) (some b) := grownBy_setCells w1 b 0 [.slice a1 l.length c1]
    refine ⟨(hG.keep hb1).set 0 _, (hQ.keep hb1).other (by omega) 0 _, (hZ.keep hb1).other (by omega) 0 _, hO1.kept hg2 ?_, ((HB.out ▸ hb0).trans (hb1.mono (by omega))).setCell (p := ⟨b, 0, none⟩) (Nat.le_refl _) _⟩
    by_cases e : rowOf a1 = some b
    · have := hO1.row _ e; omega
    · exact .inr e
  generalize w1.setCell ⟨b, 0, none⟩ (.slice a1 l.length c1) = w2 at *
  clear hG hQ hZ hb0 hO1 hb1 hR0 hs0 g00 hrl g0 g1
  obtain ⟨le, hle⟩ : ∃ x, x = (lookF l r).2.2 := ⟨_, rfl⟩
  obtain ⟨lf, hlf⟩ : ∃ x, x = (lookF l r).2.1 := ⟨_, rfl⟩
  obtain ⟨la, hla⟩ : ∃ x, x = (lookF l r).1 := ⟨_, rfl⟩
  have K2 : Hid (Calls Try.prog 19 #[.agg #[.slice a1 l.length c1], .agg #[.int .i64 r.sen, .int .i64 r.cnt, .string ⟨r.body.toArray⟩]] w2 fun e w' => e = .returned (.tuple #[.string ⟨la.toArray⟩, .bool lf, .int .i64 le]) ∧ Below w2.heap.size w2 w') := by
    rw [hle, hlf, hla]; exact rklook_walk a1 l c1 r w2 hD.o.rd hn h1 h2
  have g0 := hD.g.cell 0 (v := .slice a1 l.length c1) rfl
  have q0 := hD.q.cell 0 (v := .int .i64 r.sen) rfl
  have q1 := hD.q.cell 1 (v := .int .i64 r.cnt) rfl
  have q2 := hD.q.cell 2 (v := .string ⟨r.body.toArray⟩) rfl
  go_wp2_with (go_at_call 19; (with_reducible refine K2.out.mono ?_))
  rintro e w3 ⟨rfl, hb3⟩
  replace hD := hD.keep hb3
  clear g0 q0 q1 q2 K2 hb3 hla
  have g0 := hD.g.cell 0 (v := .slice a1 l.length c1) rfl
  have z0 := hD.z.cell 0 (v := .slice none 0 0) rfl
  have z1 := hD.z.free 0
  have hF := hD.fin (.slice a1 l.length c1)
  by_cases hz : le = 0
  rotate_left
  · have t1 : (le != 0) = true := by rw [bne_iff_ne]; exact hz
    have HL := Lib.hid (doneF_err (l := l) (r := r) (a := ans) (by rw [← hle]; exact hz))
    have HLE := Lib.hid hle
    clear hz hle hlf
    go_wp2_with fail
    refine bodyPost_ret (Guard.ret (t := 6) (u := 7) rfl _ rfl hF.1) rfl ?_
    rw [HL.out]
    exact ⟨a1, c1, by rw [← HLE.out]; rfl, HB.out ▸ hF.2.1, HB.out ▸ hF.2.2⟩
  have t1 : (le != 0) = false := by rw [bne_eq_false_iff_eq]; exact hz
  obtain ⟨hl64, hgood, hokr⟩ := look_good (show (lookF l r).2.2 = 0 by rw [← hle]; exact hz)
  have HLE := Lib.hid (show (lookF l r).2.2 = 0 by rw [← hle]; exact hz)
  have HLF := Lib.hid hlf
  obtain ⟨k, hk⟩ : ∃ k, k = posF l r.sen := ⟨_, rfl⟩
  obtain ⟨o, ho⟩ : ∃ o, o = hasF l r.sen := ⟨_, rfl⟩
  have hkl := posF_le l r.sen
  rw [← hk] at hkl
  have K3 : Hid (∀ V, Rd V a1 (rowsC kpC l) → Calls Try.prog 37 #[.agg #[.slice a1 l.length c1], .int .i64 r.sen] V fun e w' => e = .returned (.tuple #[.int .i64 (k : Int), .bool o]) ∧ Below V.heap.size V w') := Lib.hid fun V hV => by
    rw [hk, ho]; exact kfind_walk a1 l c1 r.sen V hV (by omega)
  have hbl := hokr.2.2
  obtain ⟨m, hm⟩ : ∃ m, m = markF r := ⟨_, rfl⟩
  have KM : Hid (∀ V, Calls Try.prog 12 #[.agg #[.int .i64 r.sen, .int .i64 r.cnt, .string ⟨r.body.toArray⟩]] V fun e w' => e = .returned (.string ⟨m.toArray⟩) ∧ Below V.heap.size V w') := Lib.hid fun V => by rw [hm]; exact rkmark_walk r V h1 h2 (by omega)
  have HK := Lib.hid hk
  have HO := Lib.hid ho
  have HM := Lib.hid hm
  clear hz hle hlf hk ho hgood hokr h1 h2 hm
  cases lf with
  | false =>
    have HL := Lib.hid (doneF_old (a := ans) HLE.out HLF.out.symm)
    go_wp2_with fail
    refine bodyPost_ret (Guard.ret (t := 6) (u := 7) rfl _ rfl hF.1) rfl ?_
    rw [HL.out]
    exact ⟨a1, c1, rfl, HB.out ▸ hF.2.1, HB.out ▸ hF.2.2⟩
  | true =>
    clear hF
    have q0 := hD.q.cell 0 (v := .int .i64 r.sen) rfl
    go_wp2_with (go_at_call 37; (with_reducible refine (K3.out _ hD.o.rd).mono ?_))
    rintro e w4 ⟨rfl, hb4⟩
    replace hD := hD.keep hb4
    clear g0 z0 z1 q0 hb4 K3
    have g0 := hD.g.cell 0 (v := .slice a1 l.length c1) rfl
    have z0 := hD.z.cell 0 (v := .slice none 0 0) rfl
    have z1 := hD.z.free 0
    have hF := hD.fin (.slice a1 l.length c1)
    by_cases hal2 : 16384 < ans.length
    · have t2 : decide ((ans.length : Int) > 16384) = true := decide_eq_true (by omega)
      have HL := Lib.hid (doneF_full HLE.out HLF.out.symm (.inl hal2))
      clear hal2
      go_wp2_with fail
      refine bodyPost_ret (Guard.ret (t := 6) (u := 7) rfl _ rfl hF.1) rfl ?_
      rw [HL.out]
      exact ⟨a1, c1, rfl, HB.out ▸ hF.2.1, HB.out ▸ hF.2.2⟩
    have t2 : decide ((ans.length : Int) > 16384) = false := decide_eq_false (by omega)
    by_cases hfull : o = false ∧ 64 ≤ l.length
    · obtain ⟨rfl, hl63⟩ := hfull
      have t3 : ((l.length : Int) == 64) = true := by rw [beq_iff_eq]; omega
      have HL := Lib.hid (doneF_full (a := ans) HLE.out HLF.out.symm (.inr ⟨HO.out.symm, hl63⟩))
      clear hl63
      go_wp2_with fail
      refine bodyPost_ret (Guard.ret (t := 6) (u := 7) rfl _ rfl hF.1) rfl ?_
      rw [HL.out]
      exact ⟨a1, c1, rfl, HB.out ▸ hF.2.1, HB.out ▸ hF.2.2⟩
    have HFU := Lib.hid hfull
    have hnot : o = true ∨ (o = false ∧ ((l.length : Int) == 64) = false) := by
      cases o with
      | true => exact .inl rfl
      | false => exact .inr ⟨rfl, by rw [beq_eq_false_iff_ne]; intro h; exact hfull ⟨rfl, by omega⟩⟩
    clear hfull HFU
    rcases hnot with rfl | ⟨rfl, t3⟩
    · have HL := Lib.hid (doneF_set (a := ans) HLE.out HLF.out.symm (by omega) HO.out.symm)
      rw [← HK.out] at HL
      obtain ⟨x, hx, hs⟩ := hasF_some HO.out.symm
      rw [← HK.out] at hx
      have hkl2 := (List.getElem?_eq_some_iff.1 hx).1
      clear hs
      have hDz := (hD.alloc zeroK).drew
      have hZz : Bx (w4.alloc zeroK).drew w4.heap.size 37 [.int .i64 0, .int .i64 0, .string ⟨#[]⟩, .string ⟨#[]⟩] := (Bx.new w4 37 [.int .i64 0, .int .i64 0, .string ⟨#[]⟩, .string ⟨#[]⟩]).drew
      obtain ⟨hw1, hw2⟩ := hD.new
      have s0 := hD.drew.req
      have sz := hDz.req
      go_upto_region 10 with (fail)
      go_cut [13] (fun v wx => ∃ gx, v = .pointer (some ⟨gx, 0, none⟩) ∧ Rn w wx b r a1 l.length c1 l (.slice none 0 0) gx (newK r ans))
      case first =>
        go_region_held3 (fun w' => w'.cell? ⟨b + 1, 0, none⟩ = some (.int .i64 r.sen) ∧ w'.cell? ⟨b + 1, 1, none⟩ = some (.int .i64 r.cnt) ∧ w'.cell? ⟨b + 1, 2, none⟩ = some (.string ⟨r.body.toArray⟩)) (first | (with_reducible assumption) | (go_keep; done)) (first | (go_at_call 12; (with_reducible refine (KM.out _).mono ?_); rintro e wD ⟨rfl, hbD⟩; (first | (have hDD := hDz.keep hbD; have hZD := hZz.keep hbD; have zc0 : wD.cell? ⟨_, 0, none⟩ = some (.int .i64 0) := hZD.cell 0 rfl; have zc1 : wD.cell? ⟨_, 1, none⟩ = some (.int .i64 0) := hZD.cell 1 rfl; have zc2 : wD.cell? ⟨_, 2, none⟩ = some (.string ⟨#[]⟩) := hZD.cell 2 rfl; have zc3 : wD.cell? ⟨_, 3, none⟩ = some (.string ⟨#[]⟩) := hZD.cell 3 rfl; have zf0 := hZD.free 0; have zf1 := hZD.free 1; have zf2 := hZD.free 2; have zf3 := hZD.free 3; have sS := (hDD.other4 hw1 hw2 (.int .i64 r.sen) (.int .i64 r.cnt) (.string ⟨m.toArray⟩) (.string ⟨ans.toArray⟩)).req) | (have hDD := hD.drew.keep hbD; have sS := (hDD.alloc (.cells #[.int .i64 r.sen, .int .i64 r.cnt, .string ⟨m.toArray⟩, .string ⟨ans.toArray⟩] 37)).req)); have sD := hDD.req; have sE := (hDD.alloc zeroK).req))
        all_goals (go_wp2_with fail; go_meet)
        all_goals
          case rel =>
            first
              | exact ⟨w4.heap.size, rfl, hDD.other4 hw1 hw2 (.int .i64 r.sen) (.int .i64 r.cnt) (.string ⟨m.toArray⟩) (.string ⟨ans.toArray⟩), HM.out ▸ hZD.four (.int .i64 r.sen) (.int .i64 r.cnt) (.string ⟨m.toArray⟩) (.string ⟨ans.toArray⟩), hw1, hw2⟩
              | exact ⟨wD.heap.size, rfl, hDD.alloc _, HM.out ▸ Bx.new wD 37 [.int .i64 r.sen, .int .i64 r.cnt, .string ⟨m.toArray⟩, .string ⟨ans.toArray⟩], hDD.new.1, hDD.new.2⟩
      case rest =>
        obtain ⟨gx, rfl, hRn⟩ := hcut
        clear hDz hZz s0 sz hw1 hw2 hD hF g0 z0 z1
        have hD := hRn.d
        obtain ⟨g, off, x', rfl, -, -⟩ := hD.o.rd.kp (k := k) hkl2
        obtain ⟨p0, p1, p2, p3, p4, p5, p6, p7⟩ := hD.spot hx
        obtain ⟨y0, y1, y2, y3⟩ := hRn.held
        simp only [newK, ← HM.out] at y0 y1 y2 y3
        have g0 := hD.g.cell 0 (v := .slice (some ⟨g, off, none⟩) l.length c1) rfl
        have hk4 : (k : Int) < (l.length : Int) := by omega
        have hDS := hD.stored (k := k) hkl2 (newK r ans)
        simp only [newK, ← HM.out] at hDS
        have hlen2 : (l.set k (newK r ans)).length = l.length := List.length_set
        have hset : l.set k ⟨r.sen, r.cnt, m, ans⟩ = l.set k (newK r ans) := by rw [newK, ← HM.out]
        clear hx hRn hD
        go_upto_region 14 with (fail)
        generalize ((((wc.setCell ⟨g, off + k * 4, none⟩ (.int .i64 r.sen)).setCell ⟨g, off + k * 4 + 1, none⟩ (.int .i64 r.cnt)).setCell ⟨g, off + k * 4 + 2, none⟩ (.string ⟨m.toArray⟩)).setCell ⟨g, off + k * 4 + 3, none⟩ (.string ⟨ans.toArray⟩)) = w8 at *
        clear p0 p1 p2 p3 p4 p5 p6 p7 y0 y1 y2 y3 g0
        have g9 := hDS.g.cell 0 (v := .slice (some ⟨g, off, none⟩) l.length c1) rfl
        have z9 := hDS.z.cell 0 (v := .slice none 0 0) rfl
        have z8 := hDS.z.free 0
        have hF := hDS.fin (.slice (some ⟨g, off, none⟩) l.length c1)
        go_wp2_with fail
        refine bodyPost_ret (Guard.ret (t := 6) (u := 7) rfl _ rfl hF.1) rfl ?_
        rw [HL.out]
        exact ⟨some ⟨g, off, none⟩, c1, by rw [hlen2]; rfl, by rw [hlen2, ← hset]; exact HB.out ▸ hF.2.1, HB.out ▸ hF.2.2⟩
    · have HL := Lib.hid (doneF_ins (a := ans) HLE.out HLF.out.symm (by omega) HO.out.symm (by have : ¬ 64 ≤ l.length := fun h => (by have := t3; rw [beq_eq_false_iff_ne] at this; omega); omega))
      rw [← HK.out] at HL
      have hlen2 := ins_length (z := newK r ans) hkl
      have hDz := (hD.alloc zeroK).drew
      have hZz : Bx (w4.alloc zeroK).drew w4.heap.size 37 [.int .i64 0, .int .i64 0, .string ⟨#[]⟩, .string ⟨#[]⟩] := (Bx.new w4 37 [.int .i64 0, .int .i64 0, .string ⟨#[]⟩, .string ⟨#[]⟩]).drew
      obtain ⟨hw1, hw2⟩ := hD.new
      have s0 := hD.drew.req
      have sz := hDz.req
      go_upto_region 10 with (fail)
      go_cut [13] (fun v wx => ∃ gx, v = .pointer (some ⟨gx, 0, none⟩) ∧ Rn w wx b r a1 l.length c1 l (.slice none 0 0) gx (newK r ans))
      case first =>
        go_region_held3 (fun w' => w'.cell? ⟨b + 1, 0, none⟩ = some (.int .i64 r.sen) ∧ w'.cell? ⟨b + 1, 1, none⟩ = some (.int .i64 r.cnt) ∧ w'.cell? ⟨b + 1, 2, none⟩ = some (.string ⟨r.body.toArray⟩)) (first | (with_reducible assumption) | (go_keep; done)) (first | (go_at_call 12; (with_reducible refine (KM.out _).mono ?_); rintro e wD ⟨rfl, hbD⟩; (first | (have hDD := hDz.keep hbD; have hZD := hZz.keep hbD; have zc0 : wD.cell? ⟨_, 0, none⟩ = some (.int .i64 0) := hZD.cell 0 rfl; have zc1 : wD.cell? ⟨_, 1, none⟩ = some (.int .i64 0) := hZD.cell 1 rfl; have zc2 : wD.cell? ⟨_, 2, none⟩ = some (.string ⟨#[]⟩) := hZD.cell 2 rfl; have zc3 : wD.cell? ⟨_, 3, none⟩ = some (.string ⟨#[]⟩) := hZD.cell 3 rfl; have zf0 := hZD.free 0; have zf1 := hZD.free 1; have zf2 := hZD.free 2; have zf3 := hZD.free 3; have sS := (hDD.other4 hw1 hw2 (.int .i64 r.sen) (.int .i64 r.cnt) (.string ⟨m.toArray⟩) (.string ⟨ans.toArray⟩)).req) | (have hDD := hD.drew.keep hbD; have sS := (hDD.alloc (.cells #[.int .i64 r.sen, .int .i64 r.cnt, .string ⟨m.toArray⟩, .string ⟨ans.toArray⟩] 37)).req)); have sD := hDD.req; have sE := (hDD.alloc zeroK).req))
        all_goals (go_wp2_with fail; go_meet)
        all_goals
          case rel =>
            first
              | exact ⟨w4.heap.size, rfl, hDD.other4 hw1 hw2 (.int .i64 r.sen) (.int .i64 r.cnt) (.string ⟨m.toArray⟩) (.string ⟨ans.toArray⟩), HM.out ▸ hZD.four (.int .i64 r.sen) (.int .i64 r.cnt) (.string ⟨m.toArray⟩) (.string ⟨ans.toArray⟩), hw1, hw2⟩
              | exact ⟨wD.heap.size, rfl, hDD.alloc _, HM.out ▸ Bx.new wD 37 [.int .i64 r.sen, .int .i64 r.cnt, .string ⟨m.toArray⟩, .string ⟨ans.toArray⟩], hDD.new.1, hDD.new.2⟩
      case rest =>
        obtain ⟨gx, rfl, hRn⟩ := hcut
        clear hDz hZz s0 sz hw1 hw2 hD hF g0 z0 z1
        have hRy : Rn w wc b r a1 l.length c1 l (.slice none 0 0) gx ⟨r.sen, r.cnt, m, ans⟩ := by
          have := hRn
          rw [newK, ← HM.out] at this
          exact this
        have hcc := hRy.d.o.2.1
        have s1 := fun V => slice_to (P := Try.prog) (size := 4) Try.underlying22 (fun _ => by kernel_rfl) a1 l.length c1 k (by omega) V
        have s2 := fun V => slice_from (P := Try.prog) (size := 4) Try.underlying22 (fun _ => by kernel_rfl) a1 l.length c1 k hkl V
        generalize hsf : sfrom a1 4 k c1 = af at s2
        obtain ⟨N, hN⟩ : ∃ N, N = wc.heap.size := ⟨_, rfl⟩
        have hN1 : b + 1 + 1 < N := by rw [hN]; exact hRy.d.z.lt
        have hN2 : ∀ j, rowOf a1 = some j → j < N := fun j hj => by rw [hN]; exact (hRy.d.o.row j hj).2
        have hN3 : gx < N := by rw [hN]; exact hRy.x.lt
        have hNd : N ≤ wc.drew.heap.size := by rw [hN]; exact Nat.le_refl _
        have hNa : N ≤ ((wc.alloc (.cells #[.int .i64 r.sen, .int .i64 r.cnt, .string ⟨m.toArray⟩, .string ⟨ans.toArray⟩] 37)).drew).heap.size := by rw [hN]; simp
        have htl : (rowsC kpC (l.take k)).length = k * 4 := by rw [rowsC_length kpC_len, List.length_take, Nat.min_eq_left hkl]
        have hdl : (rowsC kpC (l.drop k)).length = (l.length - k) * 4 := by rw [rowsC_length kpC_len, List.length_drop]
        have hll := rowsC_length kpC_len l
        have H1 := Lib.hid (hRy.keep (Below.refl wc.heap.size wc).drew)
        have H2 := Lib.hid (hRy.keep ((Below.refl wc.heap.size wc).alloc (Nat.le_refl _) (.cells #[.int .i64 r.sen, .int .i64 r.cnt, .string ⟨m.toArray⟩, .string ⟨ans.toArray⟩] 37)).drew)
        have HY : Hid (Rd ((wc.alloc (.cells #[.int .i64 r.sen, .int .i64 r.cnt, .string ⟨m.toArray⟩, .string ⟨ans.toArray⟩] 37)).drew) (some ⟨wc.heap.size, 0, none⟩) (kpC ⟨r.sen, r.cnt, m, ans⟩)) := Lib.hid (Bx.rd (t := 37) ((Bx.new wc 37 [.int .i64 r.sen, .int .i64 r.cnt, .string ⟨m.toArray⟩, .string ⟨ans.toArray⟩]).drew))
        have hbN : b ≤ N := by omega
        have hgxb : gx ≠ b := by have := hRy.h1; omega
        have x1 := H1.out.held
        have x2 := H2.out.held
        have g1 := H1.out.d.g.cell 0 (v := .slice a1 l.length c1) rfl
        have g2 := H2.out.d.g.cell 0 (v := .slice a1 l.length c1) rfl
        have hby1 : (0 + k) * 48 ≤ 140737488355328 := by omega
        have hby2 : (k + 1) * 48 ≤ 140737488355328 := by omega
        have hby3 : (k + 1 + (l.length - k)) * 48 ≤ 140737488355328 := by omega
        have HSF : Hid (∀ V, Rd V a1 (rowsC kpC l) → Rd V af (rowsC kpC (l.drop k))) := Lib.hid (fun V hV => by rw [← hsf, rowsC_drop kpC_len]; exact hV.sfrom (size := 4) hll hcc)
        clear hRn hRy hsf
        dsimp only at x1 x2
        go_upto_region 13 with (fail)
        refine cut_last (fun KL hKL => ?_)
        refine wp_region_held_last' (S := fun w' => w'.cell? ⟨gx, 0, none⟩ = some (.int .i64 r.sen) ∧ w'.cell? ⟨gx, 1, none⟩ = some (.int .i64 r.cnt) ∧ w'.cell? ⟨gx, 2, none⟩ = some (.string ⟨m.toArray⟩) ∧ w'.cell? ⟨gx, 3, none⟩ = some (.string ⟨ans.toArray⟩) ∧ w'.cell? ⟨b, 0, none⟩ = some (.slice a1 l.length c1)) 14 rfl (by kernel_rfl) (by kernel_rfl) (by kernel_rfl) ⟨x1.1, x1.2.1, x1.2.2.1, x1.2.2.2, g1⟩ (fun hHeld => ?_)
        dsimp only [List.dropLast, List.replicate] at hHeld ⊢
        refine held_take (0 ) (v := ?_) rfl (by kernel_rfl) (by kernel_rfl) (by kernel_rfl) (fun _ _ _ h => h) (Or.inl ⟨by rfl, ?_⟩) (by assumption) ?_
        rotate_left
        · intro w hSw
          try dsimp only at hSw
          go_simp
          with_reducible rfl
        try simp only [Act.put, List.setIfInBounds_toArray, List.set_cons_zero, List.set_cons_succ]
        refine held_take (1 ) (v := ?_) rfl (by kernel_rfl) (by kernel_rfl) (by kernel_rfl) (fun _ _ _ h => h) (Or.inl ⟨by rfl, ?_⟩) (by assumption) ?_
        rotate_left
        · intro w hSw
          try dsimp only at hSw
          go_simp
          with_reducible rfl
        try simp only [Act.put, List.setIfInBounds_toArray, List.set_cons_zero, List.set_cons_succ]
        refine held_take (2 ) (v := ?_) rfl (by kernel_rfl) (by kernel_rfl) (by kernel_rfl) (fun _ _ _ h => h) (Or.inl ⟨by rfl, ?_⟩) (by assumption) ?_
        rotate_left
        · intro w hSw
          try dsimp only at hSw
          go_simp
          with_reducible rfl
        try simp only [Act.put, List.setIfInBounds_toArray, List.set_cons_zero, List.set_cons_succ]
        refine held_take (3 ) (v := ?_) rfl (by kernel_rfl) (by kernel_rfl) (by kernel_rfl) (fun _ _ _ h => h) (Or.inl ⟨by rfl, ?_⟩) (by assumption) ?_
        rotate_left
        · intro w hSw
          try dsimp only at hSw
          go_simp
          with_reducible rfl
        try simp only [Act.put, List.setIfInBounds_toArray, List.set_cons_zero, List.set_cons_succ]
        refine held_take (5 ) (v := ?_) rfl (by kernel_rfl) (by kernel_rfl) (by kernel_rfl) (fun _ _ _ h => h) (Or.inl ⟨by rfl, ?_⟩) (by assumption) ?_
        rotate_left
        · intro w hSw
          try dsimp only at hSw
          go_simp
          with_reducible rfl
        try simp only [Act.put, List.setIfInBounds_toArray, List.set_cons_zero, List.set_cons_succ]
        refine held_take (8 ) (v := ?_) rfl (by kernel_rfl) (by kernel_rfl) (by kernel_rfl) (fun _ _ _ h => h) (Or.inl ⟨by rfl, ?_⟩) (by assumption) ?_
        rotate_left
        · intro w hSw
          try dsimp only at hSw
          go_simp
          with_reducible rfl
        try simp only [Act.put, List.setIfInBounds_toArray, List.set_cons_zero, List.set_cons_succ]
        refine held_take (9 ) (v := ?_) rfl (by kernel_rfl) (by kernel_rfl) (by kernel_rfl) (fun _ _ _ h => h) (Or.inl ⟨by rfl, ?_⟩) (by assumption) ?_
        rotate_left
        · intro w hSw
          try dsimp only at hSw
          go_simp
          with_reducible rfl
        try simp only [Act.put, List.setIfInBounds_toArray, List.set_cons_zero, List.set_cons_succ]
        refine held_take (10 ) (v := ?_) rfl (by kernel_rfl) (by kernel_rfl) (by kernel_rfl) (fun _ _ _ h => h) (Or.inl ⟨by rfl, ?_⟩) (by assumption) ?_
        rotate_left
        · intro w hSw
          try dsimp only at hSw
          go_simp
          with_reducible rfl
        try simp only [Act.put, List.setIfInBounds_toArray, List.set_cons_zero, List.set_cons_succ]
        refine held_take (11 ) (v := ?_) rfl (by kernel_rfl) (by kernel_rfl) (by kernel_rfl) (fun _ _ _ h => h) (Or.inl ⟨by rfl, ?_⟩) (by assumption) ?_
        rotate_left
        · intro w hSw
          try dsimp only at hSw
          go_simp
          with_reducible rfl
        try simp only [Act.put, List.setIfInBounds_toArray, List.set_cons_zero, List.set_cons_succ]
        refine wpAnyH_ready (rs := [4, 6]) (by kernel_rfl) (by simp) ?_
        refine held_cons rfl (fun K hK => ?_) ?_
        · -- append first
          refine step_apps (w0 := w) (B := b) (base := N) (sa := none) (n := 0) (cap := 0) (xs := []) rfl _ _ _ _ rfl el_kp rfl (Ow.nil _ _ _) H1.out.d.b hbN hNd rfl (Src.slice Try.underlying22 htl (H1.out.d.o.rd.rowsTake kpC_len k) (rowsC_one kpC_one _)) hby1 ?_
          intro a7 c7 w7 hO7 hB7 hgr7
          rw [Nat.zero_add, List.nil_append] at hO7
          rw [Nat.zero_add]
          have h7 := H1.out.far hgr7 hN1 hN2 hN3 (by simp [rowOf])
          have h7a := h7.keep ((Below.refl w7.heap.size w7).alloc (Nat.le_refl _) (.cells #[.int .i64 r.sen, .int .i64 r.cnt, .string ⟨m.toArray⟩, .string ⟨ans.toArray⟩] 37))
          have x7 := h7.held
          have x7a := h7a.held
          have g7 := h7.d.g.cell 0 (v := .slice a1 l.length c1) rfl
          have g7a := h7a.d.g.cell 0 (v := .slice a1 l.length c1) rfl
          have hs7 : N ≤ w7.heap.size := Nat.le_trans hNd hgr7.size
          have hs7a : N ≤ (w7.alloc (.cells #[.int .i64 r.sen, .int .i64 r.cnt, .string ⟨m.toArray⟩, .string ⟨ans.toArray⟩] 37)).heap.size := by (simp; omega)
          refine hK.out _ _ ⟨x7.1, x7.2.1, x7.2.2.1, x7.2.2.2, g7⟩ (fun hHeld => ?_)
          clear hK K
          try simp only [Act.put, List.setIfInBounds_toArray, List.set_cons_zero, List.set_cons_succ]
          refine wpAnyH_ready (rs := [6]) (by kernel_rfl) (by simp) ?_
          refine held_cons rfl (fun K hK => ?_) AllReadyH.nil
          go_simp
          refine hK.out _ _ ⟨x7a.1, x7a.2.1, x7a.2.2.1, x7a.2.2.2, g7a⟩ (fun hHeld => ?_)
          clear hK K
          try simp only [Act.put, List.setIfInBounds_toArray, List.set_cons_zero, List.set_cons_succ]
          refine wpAnyH_ready (rs := [7]) (by kernel_rfl) (by simp) ?_
          refine held_cons rfl (fun K hK => ?_) AllReadyH.nil
          refine step_apps (w0 := w) (B := b) rfl _ _ _ _ rfl el_kp rfl (hO7.keep ((Below.refl _ _).alloc (Nat.le_refl _) _)) h7a.d.b hbN hs7a rfl (Src.slice (m := 1) Try.underlying22 (by rfl) (Bx.rd (Bx.new w7 37 (kpC ⟨r.sen, r.cnt, m, ans⟩))) (kpC_one _)) hby2 ?_
          intro a8 c8 w8 hO8 hB8 hgr8
          have h8 := h7a.far hgr8 hN1 hN2 hN3 (fun j hj => (hO7.row j hj).1)
          have x8 := h8.held
          have g8 := h8.d.g.cell 0 (v := .slice a1 l.length c1) rfl
          have hs8 : N ≤ w8.heap.size := Nat.le_trans hs7a hgr8.size
          refine hK.out _ _ ⟨x8.1, x8.2.1, x8.2.2.1, x8.2.2.2, g8⟩ (fun hHeld => ?_)
          clear hK K
          try simp only [Act.put, List.setIfInBounds_toArray, List.set_cons_zero, List.set_cons_succ]
          refine wpAnyH_ready (rs := [12]) (by kernel_rfl) (by simp) ?_
          refine held_cons rfl (fun K hK => ?_) AllReadyH.nil
          refine step_apps (w0 := w) (B := b) rfl _ _ _ _ rfl el_kp rfl hO8 h8.d.b hbN hs8 rfl (Src.slice Try.underlying22 hdl (HSF.out _ h8.d.o.rd) (rowsC_one kpC_one _)) hby3 ?_
          intro a9 c9 w9 hO9 hB9 hgr9
          have h9 := h8.far hgr9 hN1 hN2 hN3 (fun j hj => (hO8.row j hj).1)
          have x9 := h9.held
          have g9 := h9.d.g.cell 0 (v := .slice a1 l.length c1) rfl
          have f9 := h9.d.g.free 0
          refine hK.out _ _ ⟨x9.1, x9.2.1, x9.2.2.1, x9.2.2.2, g9⟩ (fun hHeld => ?_)
          clear hK K
          try simp only [Act.put, List.setIfInBounds_toArray, List.set_cons_zero, List.set_cons_succ]
          refine held_take (13) (v := ?_) rfl (by kernel_rfl) (by kernel_rfl) (by kernel_rfl) (fun _ _ _ h => h) (Or.inl ⟨by rfl, ?_⟩) (by assumption) ?_
          rotate_left
          · intro w hSw
            try dsimp only at hSw
            go_simp
            with_reducible rfl
          try simp only [Act.put, List.setIfInBounds_toArray, List.set_cons_zero, List.set_cons_succ]
          refine wpAnyH_done (by kernel_rfl) ?_ _
          dsimp only [Behind]
          go_simp
          have hO10 : Ow w9 (b + 3) 4 a9 (k + 1 + (l.length - k)) c9 (rowsC kpC (l.take k ++ ⟨r.sen, r.cnt, m, ans⟩ :: l.drop k)) := by
            have := hO9.lower (show b + 3 ≤ N by omega)
            rwa [List.append_assoc, ← rowsC_cons, ← rowsC_append] at this
          have hT := (h9.d.turn (World.grownBy.refl _ _) hO10).2
          have hlen3 : k + 1 + (l.length - k) = l.length + 1 := by omega
          refine hKL.out _ _ ?_
          generalize k + 1 + (l.length - k) = n9 at *
          subst hlen3
          generalize w9.setCell ⟨b, 0, none⟩ (.slice a9 (l.length + 1) c9) = w10 at *
          have g10 := hT.g.cell 0 (v := .slice a9 (l.length + 1) c9) rfl
          have z10 := hT.z.cell 0 (v := .slice none 0 0) rfl
          have z11 := hT.z.free 0
          have hF := hT.fin (.slice a9 (l.length + 1) c9)
          have e9 : (⟨r.sen, r.cnt, m, ans⟩ : Kpt) = newK r ans := by rw [newK, ← HM.out]
          dsimp only [Exit.then]
          go_wp2_with fail
          refine bodyPost_ret (Guard.ret (t := 6) (u := 7) rfl _ rfl hF.1) rfl ?_
          rw [HL.out]
          exact ⟨a9, c9, by rw [hlen2]; rfl, by rw [hlen2, ← e9]; exact HB.out ▸ hF.2.1, HB.out ▸ hF.2.2⟩
        · refine held_cons rfl (fun K hK => ?_) AllReadyH.nil
          go_simp
          refine hK.out _ _ ⟨x2.1, x2.2.1, x2.2.2.1, x2.2.2.2, g2⟩ (fun hHeld => ?_)
          clear hK K
          try simp only [Act.put, List.setIfInBounds_toArray, List.set_cons_zero, List.set_cons_succ]
          refine wpAnyH_ready (rs := [4]) (by kernel_rfl) (by simp) ?_
          refine held_cons rfl (fun K hK => ?_) AllReadyH.nil
          refine step_apps (w0 := w) (B := b) (base := N) (sa := none) (n := 0) (cap := 0) (xs := []) rfl _ _ _ _ rfl el_kp rfl (Ow.nil _ _ _) H2.out.d.b hbN hNa rfl (Src.slice Try.underlying22 htl (H2.out.d.o.rd.rowsTake kpC_len k) (rowsC_one kpC_one _)) hby1 ?_
          intro a7 c7 w7 hO7 hB7 hgr7
          rw [Nat.zero_add, List.nil_append] at hO7
          rw [Nat.zero_add]
          have h7 := H2.out.far hgr7 hN1 hN2 hN3 (by simp [rowOf])
          have hy7 := HY.out.grown hgr7 (by simp [rowOf])
          have x7 := h7.held
          have g7 := h7.d.g.cell 0 (v := .slice a1 l.length c1) rfl
          have hs7 : N ≤ w7.heap.size := Nat.le_trans hNa hgr7.size
          refine hK.out _ _ ⟨x7.1, x7.2.1, x7.2.2.1, x7.2.2.2, g7⟩ (fun hHeld => ?_)
          clear hK K
          try simp only [Act.put, List.setIfInBounds_toArray, List.set_cons_zero, List.set_cons_succ]
          refine wpAnyH_ready (rs := [7]) (by kernel_rfl) (by simp) ?_
          refine held_cons rfl (fun K hK => ?_) AllReadyH.nil
          refine step_apps (w0 := w) (B := b) rfl _ _ _ _ rfl el_kp rfl hO7 h7.d.b hbN hs7 rfl (Src.slice (m := 1) Try.underlying22 (by rfl) hy7 (kpC_one _)) hby2 ?_
          intro a8 c8 w8 hO8 hB8 hgr8
          have h8 := h7.far hgr8 hN1 hN2 hN3 (fun j hj => (hO7.row j hj).1)
          have x8 := h8.held
          have g8 := h8.d.g.cell 0 (v := .slice a1 l.length c1) rfl
          have hs8 : N ≤ w8.heap.size := Nat.le_trans hs7 hgr8.size
          refine hK.out _ _ ⟨x8.1, x8.2.1, x8.2.2.1, x8.2.2.2, g8⟩ (fun hHeld => ?_)
          clear hK K
          try simp only [Act.put, List.setIfInBounds_toArray, List.set_cons_zero, List.set_cons_succ]
          refine wpAnyH_ready (rs := [12]) (by kernel_rfl) (by simp) ?_
          refine held_cons rfl (fun K hK => ?_) AllReadyH.nil
          refine step_apps (w0 := w) (B := b) rfl _ _ _ _ rfl el_kp rfl hO8 h8.d.b hbN hs8 rfl (Src.slice Try.underlying22 hdl (HSF.out _ h8.d.o.rd) (rowsC_one kpC_one _)) hby3 ?_
          intro a9 c9 w9 hO9 hB9 hgr9
          have h9 := h8.far hgr9 hN1 hN2 hN3 (fun j hj => (hO8.row j hj).1)
          have x9 := h9.held
          have g9 := h9.d.g.cell 0 (v := .slice a1 l.length c1) rfl
          have f9 := h9.d.g.free 0
          refine hK.out _ _ ⟨x9.1, x9.2.1, x9.2.2.1, x9.2.2.2, g9⟩ (fun hHeld => ?_)
          clear hK K
          try simp only [Act.put, List.setIfInBounds_toArray, List.set_cons_zero, List.set_cons_succ]
          refine held_take (13) (v := ?_) rfl (by kernel_rfl) (by kernel_rfl) (by kernel_rfl) (fun _ _ _ h => h) (Or.inl ⟨by rfl, ?_⟩) (by assumption) ?_
          rotate_left
          · intro w hSw
            try dsimp only at hSw
            go_simp
            with_reducible rfl
          try simp only [Act.put, List.setIfInBounds_toArray, List.set_cons_zero, List.set_cons_succ]
          refine wpAnyH_done (by kernel_rfl) ?_ _
          dsimp only [Behind]
          go_simp
          have hO10 : Ow w9 (b + 3) 4 a9 (k + 1 + (l.length - k)) c9 (rowsC kpC (l.take k ++ ⟨r.sen, r.cnt, m, ans⟩ :: l.drop k)) := by
            have := hO9.lower (show b + 3 ≤ N by omega)
            rwa [List.append_assoc, ← rowsC_cons, ← rowsC_append] at this
          have hT := (h9.d.turn (World.grownBy.refl _ _) hO10).2
          have hlen3 : k + 1 + (l.length - k) = l.length + 1 := by omega
          refine hKL.out _ _ ?_
          generalize k + 1 + (l.length - k) = n9 at *
          subst hlen3
          generalize w9.setCell ⟨b, 0, none⟩ (.slice a9 (l.length + 1) c9) = w10 at *
          have g10 := hT.g.cell 0 (v := .slice a9 (l.length + 1) c9) rfl
          have z10 := hT.z.cell 0 (v := .slice none 0 0) rfl
          have z11 := hT.z.free 0
          have hF := hT.fin (.slice a9 (l.length + 1) c9)
          have e9 : (⟨r.sen, r.cnt, m, ans⟩ : Kpt) = newK r ans := by rw [newK, ← HM.out]
          dsimp only [Exit.then]
          go_wp2_with fail
          refine bodyPost_ret (Guard.ret (t := 6) (u := 7) rfl _ rfl hF.1) rfl ?_
          rw [HL.out]
          exact ⟨a9, c9, by rw [hlen2]; rfl, by rw [hlen2, ← e9]; exact HB.out ▸ hF.2.1, HB.out ▸ hF.2.2⟩
end Go.Proofs.Ytnlhcfhngdahlaa
