/- The walk of the law JournalCrash. -/
import Derived.Test.YthelmlmheioljaaJournalCrashP
import Derived.Test.YthelmlmheioljaaJournalN
import Derived.Test.YthelmlmheioljaaAppStep
import Derived.BigRegion
import Derived.Deep.RegionLaw
namespace Go.Proofs.Ythelmlmheioljaa
open Go.RowKit
/-- what a round of the journal's theorem keeps: the dice, the disk's box, the list of what is wanted -/
structure Crash (W w : World) (db : Nat) (p : Option Addr) (l : List Int) (cap q xb : Nat) (L : List (List UInt8)) (f : Int) (wa : Option Addr) (wc : Nat) (c : Nat) : Prop where
  env : Env W w db p l cap q
  dk : Dk w xb (framesF L 0) f false
  own : Ow w (xb + 1) 1 wa L.length wc (strs L)
  good : Good L c
  f0 : 0 ≤ f
  f1 : f ≤ 65536
theorem Crash.keep {W w w' : World} {db : Nat} {p : Option Addr} {l : List Int} {cap q xb : Nat} {L : List (List UInt8)} {f : Int} {wa : Option Addr} {wc c : Nat} (h : Crash W w db p l cap q xb L f wa wc c) (hb : Below w.heap.size w w') : Crash W w' db p l cap q xb L f wa wc c :=
  ⟨h.env.keep hb, h.dk.keep hb, h.own.keep hb, h.good, h.f0, h.f1⟩
theorem Crash.grown {W w w' : World} {db : Nat} {p : Option Addr} {l : List Int} {cap q q' xb : Nat} {L : List (List UInt8)} {f : Int} {wa : Option Addr} {wc c : Nat} (h : Crash W w db p l cap q xb L f wa wc c) (hne : 0 < l.length → ∀ g off, p = some ⟨g, off, none⟩ → g ≠ db) (hdb : W.heap.size ≤ db) (hdx : db < xb)
    (hD : Dice w' db p l cap q') (hg : w.grownBy w' (some db)) : Crash W w' db p l cap q' xb L f wa wc c := by
  refine ⟨h.env.grown hne hdb hD hg, h.dk.grown hg (by simp; omega), h.own.kept hg ?_, h.good, h.f0, h.f1⟩
  cases hr : rowOf wa with
  | none => exact .inl rfl
  | some k => have := (h.own.row k hr).1; exact .inr (by simp; omega)
theorem alloc2_0 (W : World) (A B : Obj) : ((W.alloc A).alloc B).heap[W.heap.size]? = some A := (Lib.alloc_old _ B _ (by simp)).trans (heap_alloc_new W A)
theorem alloc2_1 (W : World) (A B : Obj) : ((W.alloc A).alloc B).heap[W.heap.size + 1]? = some B := by
  have h : (W.alloc A).heap.size = W.heap.size + 1 := by simp
  rw [← h]
  exact heap_alloc_new _ B
theorem grown1 (w : World) (g o : Nat) (v : Value) : w.grownBy (w.setCell ⟨g, o, none⟩ v) (some g) := ⟨rfl, rfl, rfl, by simp, fun k _ hk => heap_setCell_other w ⟨g, o, none⟩ k v (fun e => hk (by simp [e]))⟩
/-- a store into another box -/
theorem Crash.other {W w : World} {db : Nat} {p : Option Addr} {l : List Int} {cap q xb : Nat} {L : List (List UInt8)} {f : Int} {wa : Option Addr} {wc c : Nat} (h : Crash W w db p l cap q xb L f wa wc c) (hR : Rd W p (ints l)) (g o : Nat) (v : Value) (hg : xb < g) (hdx : db < xb) (hdb : W.heap.size ≤ db) (hrow : rowOf wa ≠ some g) :
    Crash W (w.setCell ⟨g, o, none⟩ v) db p l cap q xb L f wa wc c :=
  ⟨h.env.set g o v (by omega) (by omega) (rd_ne hR (by omega)), h.dk.other (by omega) o v, h.own.kept (grown1 w g o v) (.inr hrow), h.good, h.f0, h.f1⟩
/-- stores of a whole disk into the box -/
theorem Crash.store3 {W w : World} {db : Nat} {p : Option Addr} {l : List Int} {cap q xb : Nat} {D : List UInt8} {b : Bool} {L' : List (List UInt8)} {f f' : Int} {wa : Option Addr} {wc c : Nat} (hE : Env W w db p l cap q) (hX : Dk w xb D f b) (hO : Ow w (xb + 1) 1 wa L'.length wc (strs L')) (hG : Good L' c) (hR : Rd W p (ints l)) (hdx : db < xb) (hdb : W.heap.size ≤ db) (h0 : 0 ≤ f') (h1 : f' ≤ 65536) :
    Crash W (((w.setCell ⟨xb, 0, none⟩ (.string ⟨(framesF L' 0).toArray⟩)).setCell ⟨xb, 1, none⟩ (.int .i64 f')).setCell ⟨xb, 2, none⟩ (.bool false)) db p l cap q xb L' f' wa wc c := by
  have hne : rowOf wa ≠ some xb := fun e => by have := (hO.row xb e).1; omega
  have hp := rd_ne hR (show W.heap.size ≤ xb by omega)
  refine ⟨((hE.set xb 0 _ (by omega) (by omega) hp).set xb 1 _ (by omega) (by omega) hp).set xb 2 _ (by omega) (by omega) hp, hX.store (framesF L' 0) f' false, ?_, hG, h0, h1⟩
  exact ((hO.kept (grown1 w xb 0 _) (.inr hne)).kept (grown1 _ xb 1 _) (.inr hne)).kept (grown1 _ xb 2 _) (.inr hne)
theorem Crash.rowlt {W w : World} {db : Nat} {p : Option Addr} {l : List Int} {cap q xb : Nat} {L : List (List UInt8)} {f : Int} {wa : Option Addr} {wc c : Nat} (h : Crash W w db p l cap q xb L f wa wc c) {Y : Nat} (hY : w.heap.size ≤ Y) : rowOf wa ≠ some Y := fun e => by
  have := (h.own.row Y e).2; omega
/-- stores of a whole disk into another box -/
theorem Crash.box {W w : World} {db : Nat} {p : Option Addr} {l : List Int} {cap q xb : Nat} {L : List (List UInt8)} {f : Int} {wa : Option Addr} {wc c : Nat} (h : Crash W w db p l cap q xb L f wa wc c) (hR : Rd W p (ints l)) (hdx : db < xb) (hdb : W.heap.size ≤ db) {Y : Nat} {E : List UInt8} {g : Int} {b : Bool} (hY : Dk w Y E g b) (hxy : xb < Y) (hrow : rowOf wa ≠ some Y) (E' : List UInt8) (g' : Int) (b' : Bool) :
    Dk (((w.setCell ⟨Y, 0, none⟩ (.string ⟨E'.toArray⟩)).setCell ⟨Y, 1, none⟩ (.int .i64 g')).setCell ⟨Y, 2, none⟩ (.bool b')) Y E' g' b' ∧ Crash W (((w.setCell ⟨Y, 0, none⟩ (.string ⟨E'.toArray⟩)).setCell ⟨Y, 1, none⟩ (.int .i64 g')).setCell ⟨Y, 2, none⟩ (.bool b')) db p l cap q xb L f wa wc c :=
  ⟨hY.store E' g' b', ((h.other hR Y 0 _ hxy hdx hdb hrow).other hR Y 1 _ hxy hdx hdb hrow).other hR Y 2 _ hxy hdx hdb hrow⟩
theorem Env.row {W w w' : World} {db : Nat} {p : Option Addr} {l : List Int} {cap k : Nat} (h : Env W w db p l cap k) {row : Option Nat} (hg : w.grownBy w' row) (hr : ∀ j, row = some j → db < j) (hdb : W.heap.size ≤ db) (hR : Rd W p (ints l)) : Env W w' db p l cap k := by
  refine ⟨h.dice.grown hg (fun e => by have := hr _ e.symm; omega), ?_, h.below.grown hg h.below.size (fun j hj => by have := hr j hj; omega)⟩
  by_cases h0 : 0 < l.length
  · refine h.rd.grown hg (fun g off hp e => ?_)
    have := hr _ e.symm
    exact rd_ne hR (show W.heap.size ≤ g by omega) h0 g off hp rfl
  · have : l = [] := List.eq_nil_of_length_eq_zero (by omega)
    subst this
    exact Rd.nil _ _
/-- behind a torn write: the disk's box (D) and another one (E) -/
structure Cr (W w : World) (db : Nat) (p : Option Addr) (l : List Int) (cap q xb : Nat) (D : List UInt8) (f : Int) (b : Bool) (Y : Nat) (E : List UInt8) (g : Int) (e : Bool) (L : List (List UInt8)) (wa : Option Addr) (wc : Nat) : Prop where
  env : Env W w db p l cap q
  dx : Dk w xb D f b
  dy : Dk w Y E g e
  own : Ow w (xb + 1) 1 wa L.length wc (strs L)
  hy : xb < Y
  row : rowOf wa ≠ some Y
theorem Cr.keep {W w w' : World} {db : Nat} {p : Option Addr} {l : List Int} {cap q xb : Nat} {D : List UInt8} {f : Int} {b : Bool} {Y : Nat} {E : List UInt8} {g : Int} {e : Bool} {L : List (List UInt8)} {wa : Option Addr} {wc : Nat} (h : Cr W w db p l cap q xb D f b Y E g e L wa wc) (hb : Below w.heap.size w w') : Cr W w' db p l cap q xb D f b Y E g e L wa wc :=
  ⟨h.env.keep hb, h.dx.keep hb, h.dy.keep hb, h.own.keep hb, h.hy, h.row⟩
/-- a torn disk is stored, a box for it stands -/
theorem Crash.torn {W w : World} {db : Nat} {p : Option Addr} {l : List Int} {cap q xb : Nat} {L : List (List UInt8)} {f : Int} {wa : Option Addr} {wc c : Nat} (h : Crash W w db p l cap q xb L f wa wc c) (hR : Rd W p (ints l)) (hdx : db < xb) (hdb : W.heap.size ≤ db) (D : List UInt8) (g : Int) (b : Bool) (E : List UInt8) (g' : Int) (b' : Bool) :
    Cr W ((((w.setCell ⟨xb, 0, none⟩ (.string ⟨D.toArray⟩)).setCell ⟨xb, 1, none⟩ (.int .i64 g)).setCell ⟨xb, 2, none⟩ (.bool b)).alloc (.cells #[.string ⟨E.toArray⟩, .int .i64 g', .bool b'] 23)) db p l cap q xb D g b w.heap.size E g' b' L wa wc := by
  have hne : rowOf wa ≠ some xb := fun e => by have := (h.own.row xb e).1; omega
  have hp := rd_ne hR (show W.heap.size ≤ xb by omega)
  have hE := ((h.env.set xb 0 (.string ⟨D.toArray⟩) (by omega) (by omega) hp).set xb 1 (.int .i64 g) (by omega) (by omega) hp).set xb 2 (.bool b) (by omega) (by omega) hp
  have hO := ((h.own.kept (grown1 w xb 0 (.string ⟨D.toArray⟩)) (.inr hne)).kept (grown1 _ xb 1 (.int .i64 g)) (.inr hne)).kept (grown1 _ xb 2 (.bool b)) (.inr hne)
  have hX := h.dk.store D g b
  have hY := Dk.new (((w.setCell ⟨xb, 0, none⟩ (.string ⟨D.toArray⟩)).setCell ⟨xb, 1, none⟩ (.int .i64 g)).setCell ⟨xb, 2, none⟩ (.bool b)) E g' b'
  simp only [World.size_setCell] at hY
  exact ⟨hE.alloc _, hX.alloc _, hY, hO.keep ((Below.refl _ _).alloc (Nat.le_refl _) _), h.dk.lt, h.rowlt (Nat.le_refl _)⟩
/-- the other box is stored to -/
theorem Cr.setY {W w : World} {db : Nat} {p : Option Addr} {l : List Int} {cap q xb : Nat} {D : List UInt8} {f : Int} {b : Bool} {Y : Nat} {E : List UInt8} {g : Int} {e : Bool} {L : List (List UInt8)} {wa : Option Addr} {wc : Nat} (h : Cr W w db p l cap q xb D f b Y E g e L wa wc) (hR : Rd W p (ints l)) (hdx : db < xb) (hdb : W.heap.size ≤ db) (E' : List UInt8) (g' : Int) (e' : Bool) :
    Cr W (((w.setCell ⟨Y, 0, none⟩ (.string ⟨E'.toArray⟩)).setCell ⟨Y, 1, none⟩ (.int .i64 g')).setCell ⟨Y, 2, none⟩ (.bool e')) db p l cap q xb D f b Y E' g' e' L wa wc := by
  have hy := h.hy
  have hne := h.row
  have hp := rd_ne hR (show W.heap.size ≤ Y by omega)
  exact ⟨((h.env.set Y 0 _ (by omega) (by omega) hp).set Y 1 _ (by omega) (by omega) hp).set Y 2 _ (by omega) (by omega) hp, ((h.dx.other (by omega) 0 _).other (by omega) 1 _).other (by omega) 2 _, h.dy.store E' g' e', ((h.own.kept (grown1 w Y 0 _) (.inr hne)).kept (grown1 _ Y 1 _) (.inr hne)).kept (grown1 _ Y 2 _) (.inr hne), hy, hne⟩
theorem sameTexts_n (la : Option Addr) (l : List (List UInt8)) (n lc : Nat) (ma : Option Addr) (mc : Nat) (w : World) (hn : n = l.length) (hr : Rd w la (strs l)) (hrm : Rd w ma (strs l)) (hl : n ≤ 17592186043904) :
    Calls Try.prog 21 #[.slice la n lc, .slice ma n mc] w fun e w' => e = .returned (.bool true) ∧ w = w' := by
  subst hn; exact sameTexts_walk la l lc ma mc w hr hrm hl
theorem own_snoc {w : World} {xb : Nat} {L : List (List UInt8)} {s : List UInt8} {wa : Option Addr} {wc : Nat} (h : Ow w (xb + 1) 1 wa (L.length + 1) wc (strs L ++ [.string ⟨s.toArray⟩])) : Ow w (xb + 1) 1 wa (L ++ [s]).length wc (strs (L ++ [s])) := by
  rw [← strs_snoc, List.length_append]; exact h
set_option maxRecDepth 100000 in
set_option maxHeartbeats 8000000 in
theorem crash_walk (W : World) (p : Option Addr) (l : List Int) (cap : Nat) (hR : Rd W p (ints l)) (hl : l.length ≤ 17592186043904) :
    Calls Try.prog 5 #[.slice p l.length cap] W fun e w' => e = .returned (.bool true) ∧ Below W.heap.size W w' := by
  go_enter Try.func5, Try.ntmps5
  go_wp2_with (go_at_call 9; (with_reducible refine (light_walk _ _ _ _ (by omega)).mono ?_))
  rintro e w1 ⟨rfl, rfl⟩
  by_cases h5 : 500 < l.length
  · have hd : decide (l.length ≤ 500) = false := by simp; omega
    rw [hd]
    go_wp2_with (go_at_call 7; (with_reducible refine (awake35_walk _).mono ?_))
    rintro e w1 ⟨rfl, hb1⟩
    go_wp2
    go_ret
    exact ⟨rfl, hb1⟩
  have hd5 : decide (l.length ≤ 500) = true := by simp; omega
  rw [hd5]
  go_wp2_with (go_at_call 10; (with_reducible refine (roll_walk _ _ _ _).mono ?_))
  rintro e w1 ⟨rfl, hD, hb1⟩
  have hE : Env W w1 W.heap.size p l cap 0 := ⟨hD, hR.keep hb1, hb1⟩
  have hne := rd_ne hR (Nat.le_refl W.heap.size)
  have hl2 : l.length ≤ 281474976710656 := by omega
  have HRW := Lib.hid hR
  clear hD hb1 h5 hR
  obtain ⟨db, hdb⟩ : ∃ db, db = W.heap.size := ⟨_, rfl⟩
  have hdb0 : W.heap.size ≤ db := by omega
  rw [← hdb] at hE hne ⊢
  have HNE := Lib.hid hne
  clear hdb hne
  have hX := Dk.new w1 [] 0 false
  have hE2 := hE.alloc (.cells #[.string ⟨#[]⟩, .int .i64 0, .bool false] 23)
  have hdl := hE.dice.lt
  have hx0 := hE.below.size
  generalize hxb : w1.heap.size = xb at *
  go_wp2_with (go_at_call 11; (with_reducible refine (next_walk db p l cap 0 20 _ hE2.dice hE2.rd HNE.out hl2 (by omega) (by omega)).mono ?_))
  rintro e w2 ⟨rfl, hD2, hg2⟩
  replace hX := hX.grown hg2 (by simp; omega)
  replace hE := hE2.grown HNE.out hdb0 hD2 hg2
  have y1 := dnum_lo l 0 (n := 20) (by omega)
  have y2 := dnum_hi l 0 (n := 20) (by omega)
  obtain ⟨m, hm⟩ : ∃ m : Nat, dnum l 0 20 = (m : Int) := ⟨(dnum l 0 20).toNat, by omega⟩
  rw [hm] at y1 y2 ⊢
  have hm20 : m < 20 := by omega
  generalize dnxt l 0 = q0 at *
  clear hE2 hD2 hg2 hm y1 y2
  go_wp2
  go_loopw [5, 6] (fun u i wr => ∃ (j c q wk : Nat) (L : List (List UInt8)) (f : Int) (wa : Option Addr), j + c = 20 ∧ i = .int .i64 (j : Int) ∧ u = .slice wa L.length wk ∧ Crash W wr db p l cap q xb L f wa wk c) (fun _ i _ => (intOf i).toNat)
  case atStart => exact ⟨m, 20 - m, q0, 0, [], 0, none, by omega, rfl, rfl, hE, hX, Ow.nil _ _ _, ⟨by simp, by simp [endF]⟩, Int.le_refl _, by omega⟩
  case round =>
    clear hE hX
    obtain ⟨j, c, q, wk, L, f, wa, hjc, rfl, rfl, hC⟩ := hrel
    by_cases hj0 : j = 0
    · subst hj0
      have x0 := hC.dk.c0
      have x1 := hC.dk.c1
      have x2 := hC.dk.c2
      have hDl := framesF_length L 0
      have hDb := hC.good.bound
      have hrd := hC.good.read (by omega) hC.f0 hC.f1
      have hck := hC.good.chk (by omega) hC.f0 hC.f1
      have hLl := hC.good.len
      have hL40 : L.length ≤ 100 := by omega
      obtain ⟨D, hD⟩ : ∃ D, D = framesF L 0 := ⟨_, rfl⟩
      rw [← hD] at hDl hrd hck
      have k3 : ∀ V, Calls Try.prog 20 #[.agg #[.string ⟨(framesF L 0).toArray⟩, .int .i64 f, .bool false]] V fun e w' => ∃ a cap, e = .returned (.tuple #[.slice a L.length cap, .int .i64 (D.length : Int), .int .i64 0]) ∧ Rd w' a (strs L) ∧ Below V.heap.size V w' := fun V => by
        have := jread_walk D f false V (by omega)
        rw [hrd, hck, ← hDl, hD] at this; rw [hD]; exact this
      have K3 := Lib.hid k3
      have HD := Lib.hid hD
      clear k3 hrd hck hDl hDb hLl hD
      go_wp2_with (go_at_call 20; (with_reducible refine (K3.out _).mono ?_))
      rintro e w3 ⟨ra, rc, rfl, hRd, hb3⟩
      replace hC := hC.keep hb3
      clear hb3 x0 x1 x2 K3
      go_wp2_with (go_at_call 7; (with_reducible refine (awake35_walk _).mono ?_))
      rintro e w4 ⟨rfl, hb4⟩
      replace hC := hC.keep hb4
      replace hRd := hRd.keep hb4
      clear hb4
      have x0 := hC.dk.c0
      rw [← HD.out] at x0
      go_wp2_with (go_at_call 21; (with_reducible refine (sameTexts_walk _ _ _ _ _ _ hRd hC.own.rd (by omega)).mono ?_))
      rintro e w5 ⟨rfl, rfl⟩
      go_wp2
      go_ret
      exact ⟨rfl, hC.env.below⟩
    · have hjd : decide ((j : Int) > 0) = true := decide_eq_true (by omega)
      have hjd2 : decide (0 < j) = true := decide_eq_true (by omega)
      go_upto_if 32 with (go_at_call 14; (with_reducible refine (one_walk db p l cap q 4 _ hC.env.dice hC.env.rd HNE.out hl2 (by omega) (by omega)).mono ?_))
      rintro e w3 ⟨rfl, hD3, hg3⟩
      replace hC := hC.grown HNE.out hdb0 hdl hD3 hg3
      generalize (dnum l q 4 == 4 - 1) = bz at *
      generalize dnxt l q = q3 at *
      clear hD3 hg3
      go_upto_if 32 with fail
      go_cut [7, 8] (fun _ _ wx => ∃ (q' : Nat) (f' : Int), Crash W wx db p l cap q' xb L f' wa wk c)
      case first =>
        cases bz with
        | false =>
          go_wp2_with fail
          go_meet
          exact ⟨_, _, hC⟩
        | true =>
          obtain ⟨gv, hgv⟩ : ∃ gv : Int, dnum l q3 60 = gv := ⟨_, rfl⟩
          have hg0 : 0 ≤ gv := by rw [← hgv]; exact dnum_lo l q3 (by omega)
          have hg1 : gv < 60 := by rw [← hgv]; exact dnum_hi l q3 (by omega)
          have hgood := hC.good
          have hrw : ∀ Y, w3.heap.size ≤ Y → rowOf wa ≠ some Y := fun Y hY e => by have := (hC.own.row Y e).2; omega
          have hC1 := hC.keep (show Below w3.heap.size w3 w3.drew from (Below.refl _ _).drew)
          have hC2 := hC.keep (show Below w3.heap.size w3 (w3.alloc (.cells #[.string ⟨#[]⟩, .int .i64 0, .bool false] 23)).drew from ((Below.refl _ _).alloc (Nat.le_refl _) _).drew)
          have x0 := hC.dk.c0
          have x1 := hC.dk.c1
          have x2 := hC.dk.c2
          have xl := hC.dk.lt
          have hdw := hC.env.dice.lt
          have hDl := framesF_length L 0
          have hDb := hC.good.bound
          have hA : armF (framesF L 0) f false gv = (framesF L 0, gv, false, 0) := by
            rw [armF, if_pos (hC.good.chk (by omega) hC.f0 hC.f1), if_neg (by simp), if_pos (by omega)]
          have harm : ∀ V, Calls Try.prog 17 #[.agg #[.string ⟨(framesF L 0).toArray⟩, .int .i64 f, .bool false], .int .i64 gv] V fun e w' => e = .returned (.tuple #[.agg #[.string ⟨(framesF L 0).toArray⟩, .int .i64 gv, .bool false], .int .i64 0]) ∧ Below V.heap.size V w' := fun V => by
            have := jarm_walk (framesF L 0) f false gv V (by omega)
            rw [hA] at this; exact this
          have HARM := Lib.hid harm
          have HGV := Lib.hid hgv
          clear harm hA hDl hDb hgv
          go_wp2_with fail
          go_cut [7, 8] (fun y e wx => ∃ (Y : Nat), y = .pointer (some ⟨Y, 0, none⟩) ∧ e = .int .i64 0 ∧ xb < Y ∧ rowOf wa ≠ some Y ∧ Dk wx Y (framesF L 0) gv false ∧ Crash W wx db p l cap (dnxt l q3) xb L f wa wk c)
          case first =>
            go_region_with (first
              | (go_at_call 11; refine (next_walk db p l cap q3 60 _ (by first | exact hC1.env.dice | exact hC2.env.dice) (by first | exact hC1.env.rd | exact hC2.env.rd) HNE.out hl2 (by omega) (by omega)).mono ?_; rintro e wN ⟨rfl, hDN, hgN⟩; rw [HGV.out]; (first | (have hCN := hC1.grown HNE.out hdb0 hdl hDN hgN) | (have hCN := hC2.grown HNE.out hdb0 hdl hDN hgN; have hYN := (Dk.drew (Dk.new w3 [] 0 false)).grown hgN (by simp; omega))); have z0 := hCN.dk.c0; have z1 := hCN.dk.c1; have z2 := hCN.dk.c2; have zl := hCN.dk.lt)
              | (go_at_call 17; refine (HARM.out _).mono ?_; rintro e wA ⟨rfl, hbA⟩; (first | (have hCA := hCN.keep hbA; try (have hYA := hYN.keep hbA)) | (have hCA := (hCN.keep ((Below.refl _ _).alloc (Nat.le_refl _) _)).keep hbA; have hYA := (Dk.new wN [] 0 false).keep hbA)); (try (have e0 := hYA.c0; have e1 := hYA.c1; have e2 := hYA.c2; have f0 := hYA.free 0; have f1 := hYA.free 1; have f2 := hYA.free 2)); have hxA := hCA.dk.lt))
            all_goals (go_wp2_with fail; go_meet)
            all_goals first
              | exact ⟨_, rfl, rfl, hxA, hCA.rowlt (Nat.le_refl _), Dk.new _ _ _ _, hCA.keep ((Below.refl _ _).alloc (Nat.le_refl _) _)⟩
              | exact ⟨_, rfl, rfl, zl, hCN.rowlt (Nat.le_refl _), hCA.box HRW.out hdl hdb0 hYA zl (hCN.rowlt (Nat.le_refl _)) _ _ _⟩
              | exact ⟨_, rfl, rfl, xl, hC.rowlt (Nat.le_refl _), hCA.box HRW.out hdl hdb0 hYA xl (hC.rowlt (Nat.le_refl _)) _ _ _⟩
          case rest =>
            clear hC hC1 hC2 x0 x1 x2 xl hdw HARM HGV
            obtain ⟨Y, rfl, rfl, hxy, hrow, hY, hC⟩ := hcut
            have x0 := hC.dk.c0
            have x1 := hC.dk.c1
            have x2 := hC.dk.c2
            have i0 := hC.dk.free 0
            have i1 := hC.dk.free 1
            have i2 := hC.dk.free 2
            have e0 := hY.c0
            have e1 := hY.c1
            have e2 := hY.c2
            have hxy2 : xb ≠ Y := by omega
            have hyx2 : Y ≠ xb := by omega
            go_wp2_with fail
            go_meet
            exact ⟨dnxt l q3, gv, Crash.store3 hC.env hC.dk hC.own hC.good HRW.out hdl hdb0 hg0 (by omega)⟩
      case rest =>
        clear hC
        obtain ⟨q4, f4, hC⟩ := hcut
        obtain ⟨w4, hw4⟩ : ∃ w4, w4 = wc := ⟨_, rfl⟩
        subst hw4
        clear bz q3
        go_wp2_with fail
        go_cut [9] (fun sv wx => ∃ (q' : Nat) (s : List UInt8), sv = .string ⟨s.toArray⟩ ∧ s.length ≤ 28 ∧ Crash W wx db p l cap q' xb L f4 wa wk c)
        case first =>
          obtain ⟨z, hz⟩ : ∃ z : Nat, dnum l q4 20 = (z : Int) := ⟨(dnum l q4 20).toNat, by have := dnum_lo l q4 (n := 20) (by omega); omega⟩
          have hz20 : z < 20 := by have := dnum_hi l q4 (n := 20) (by omega); omega
          obtain ⟨b, hb⟩ := byte_of (x := IntKind.u8.wrap (j : Int)) (wrap_u8_bd _).1 (wrap_u8_bd _).2
          obtain ⟨B1, hB1⟩ : ∃ B1, B1 = [b] := ⟨_, rfl⟩
          obtain ⟨zs, hzs⟩ : ∃ zs, zs = List.replicate z (0 : UInt8) := ⟨_, rfl⟩
          have mA : ∀ V, (Instr.makeSlice 34 (.int .i64 (z : Int)) (.int .i64 (z : Int))).run Try.prog V = _ := fun V => mk_run V mel8 rfl .i64 z (by omega)
          have cB : ∀ V g, V.cell? ⟨g, 0, none⟩ = some (.int .u8 (IntKind.u8.wrap (j : Int))) → (convert 34 9 (.slice (some ⟨g, 0, none⟩) 1 1)).run Try.prog V = .ok (.string ⟨B1.toArray⟩) V := fun V g h => by
            refine run_bytes_str V _ _ _ Try.underlying34 Try.underlying5 Try.underlying9 (by rw [hB1]; rfl) (Rd.mk fun i u hi => ?_)
            rw [hB1] at hi
            cases i with
            | zero => simp [u8s] at hi; rw [← hi, ← hb]; exact h
            | succ i => simp [u8s] at hi
          have cZ := fun (V : World) (g : Nat) (h : V.heap[g]? = some (.cells (madeCells #[.int .u8 0] z) 5 (0, 0))) => mk_str (P := Try.prog) V 34 9 5 Try.underlying34 Try.underlying5 Try.underlying9 g z h
          rw [← hzs] at cZ
          have hzl : zs.length = z := by rw [hzs, List.length_replicate]
          have hBl : B1.length = 1 := by rw [hB1]; rfl
          have hlim : ¬ (9223372036854775807 < B1.length + zs.length) := by omega
          have HZ := Lib.hid hz
          have CZ := Lib.hid cZ
          clear hz hzs hB1 cZ hb
          have hC1 := hC.keep (show Below w4.heap.size w4 w4.drew from (Below.refl _ _).drew)
          have hC2 := hC.keep (show Below w4.heap.size w4 (w4.alloc (.cells #[.int .u8 (IntKind.u8.wrap (j : Int))] 5)).drew from ((Below.refl _ _).alloc (Nat.le_refl _) _).drew)
          have hdw := hC.env.dice.lt
          go_region_with (first
            | (go_at_call 11; refine (next_walk db p l cap q4 20 _ (by first | exact hC1.env.dice | exact hC2.env.dice) (by first | exact hC1.env.rd | exact hC2.env.rd) HNE.out hl2 (by omega) (by omega)).mono ?_; rintro e wN ⟨rfl, hDN, hgN⟩; rw [HZ.out]; (first | (have hCN := hC1.grown HNE.out hdb0 hdl hDN hgN) | (have hCN := hC2.grown HNE.out hdb0 hdl hDN hgN; have hBN := hgN.cell (a := ⟨w4.heap.size, 0, none⟩) (v := .int .u8 (IntKind.u8.wrap (j : Int))) (by simp [World.cell?_alloc_at]) (by simp; omega); have hBL := World.block_lt_of_cell? wN _ hBN)); have m1 := CZ.out (wN.alloc (.cells (madeCells #[.int .u8 0] z) 5)) wN.heap.size (heap_alloc_new _ _); have m2 := CZ.out ((wN.alloc (.cells (madeCells #[.int .u8 0] z) 5)).alloc (.cells #[.int .u8 (IntKind.u8.wrap (j : Int))] 5)) wN.heap.size (alloc2_0 _ _ _); have m3 := CZ.out ((wN.alloc (.cells #[.int .u8 (IntKind.u8.wrap (j : Int))] 5)).alloc (.cells (madeCells #[.int .u8 0] z) 5)) (wN.heap.size + 1) (alloc2_1 _ _ _)))
          all_goals (go_wp2_with fail; go_meet)
          all_goals
            refine ⟨dnxt l q4, B1 ++ zs, rfl, by rw [List.length_append]; omega, hCN.keep ?_⟩
            first
              | exact (Below.refl _ _).alloc (Nat.le_refl _) _
              | exact ((Below.refl _ _).alloc (Nat.le_refl _) _).alloc (by simp) _
        case rest =>
          clear hC
          obtain ⟨q5, s, rfl, hs, hC⟩ := hcut
          obtain ⟨w5, hw5⟩ : ∃ w5, w5 = wc := ⟨_, rfl⟩
          subst hw5
          have x0 := hC.dk.c0
          have x1 := hC.dk.c1
          have x2 := hC.dk.c2
          have hDl := framesF_length L 0
          have hDb := hC.good.bound
          have hLl := hC.good.len
          have hL40 : L.length ≤ 100 := by omega
          by_cases hf : 0 < f4 ∧ f4 ≤ ((12 + s.length : Nat) : Int)
          · obtain ⟨E, hEl, hap, hch, hst, hG⟩ := app_off hC.good (by omega) hs hf
            obtain ⟨L', hL'⟩ : ∃ L', L' = nextL L f4 s := ⟨_, rfl⟩
            rw [← hL'] at hst hG
            have hcase : L' = L ∨ L' = L ++ [s] := by
              rw [hL', nextL]; split
              · exact .inl rfl
              · exact .inr rfl
            obtain ⟨D', hD'⟩ : ∃ D', D' = framesF L' 0 := ⟨_, rfl⟩
            rw [← hD'] at hst
            have hDl' := framesF_length L' 0
            have hDb' := hG.bound
            have hrd := hG.read (by omega) (Int.le_refl 0) (by omega)
            have hck := hG.chk (by omega) (Int.le_refl 0) (by omega)
            rw [← hD'] at hrd hck hDl'
            have k1 : ∀ V, Calls Try.prog 18 #[.agg #[.string ⟨(framesF L 0).toArray⟩, .int .i64 f4, .bool false], .string ⟨s.toArray⟩] V fun e w' => e = .returned (.tuple #[.agg #[.string ⟨E.toArray⟩, .int .i64 0, .bool true], .int .i64 54]) ∧ Below V.heap.size V w' := fun V => by
              have := jappend_walk (framesF L 0) f4 false s V (by omega) (by omega)
              rw [hap, dres_eq] at this; exact this
            have k2 : ∀ V, Calls Try.prog 19 #[.agg #[.string ⟨E.toArray⟩, .int .i64 0, .bool true]] V fun e w' => e = .returned (.tuple #[.agg #[.string ⟨D'.toArray⟩, .int .i64 0, .bool false], .int .i64 0]) ∧ Below V.heap.size V w' := fun V => by
              have := jstart_walk E 0 true V (by omega)
              rw [hst, hch] at this; exact this
            obtain ⟨n, hn⟩ : ∃ n, n = L'.length := ⟨_, rfl⟩
            have k3 : ∀ V, Calls Try.prog 20 #[.agg #[.string ⟨D'.toArray⟩, .int .i64 0, .bool false]] V fun e w' => ∃ a cap, e = .returned (.tuple #[.slice a n cap, .int .i64 (endF L' : Int), .int .i64 0]) ∧ Rd w' a (strs L') ∧ Below V.heap.size V w' ∧ ∀ g off, a = some ⟨g, off, none⟩ → V.heap.size ≤ g := fun V => by
              have := jread_fresh D' 0 false V (by omega)
              rw [hrd, hck, ← hn] at this; exact this
            have K1 := Lib.hid k1
            have K2 := Lib.hid k2
            have K3 := Lib.hid k3
            have HD := Lib.hid hD'
            generalize endF L' = en at *
            clear k1 k2 k3 hap hch hst hrd hck hDl' hDb' hDl hDb hf hD' hL' hLl hEl
            go_wp2_with (go_at_call 18; (with_reducible refine (K1.out _).mono ?_))
            rintro e w6 ⟨rfl, hb6⟩
            replace hC := hC.keep hb6
            clear hb6 x0 x1 x2
            have x0 := hC.dk.c0
            have x1 := hC.dk.c1
            have x2 := hC.dk.c2
            have i0 := hC.dk.free 0
            have i1 := hC.dk.free 1
            have i2 := hC.dk.free 2
            have xl := hC.dk.lt
            go_wp2_with (go_at_call 19; (with_reducible refine (K2.out _).mono ?_))
            rintro e w7 ⟨rfl, hb7⟩
            have hT := (hC.torn HRW.out hdl hdb0 E 0 true E 0 true).keep hb7
            clear hb7 x0 x1 x2 i0 i1 i2 xl hC
            generalize w6.heap.size = Y at *
            have e0 := hT.dy.c0
            have e1 := hT.dy.c1
            have e2 := hT.dy.c2
            have j0 := hT.dy.free 0
            have j1 := hT.dy.free 1
            have j2 := hT.dy.free 2
            go_wp2_with (go_at_call 20; (with_reducible refine (K3.out _).mono ?_))
            rintro e w8 ⟨ra, rc, rfl, hRd, hb8, hfr⟩
            have hrl : ∀ k, rowOf wa = some k → k < w7.heap.size := fun k hk => (hT.own.row k hk).2
            replace hT := (hT.setY HRW.out hdl hdb0 D' 0 false).keep hb8
            clear hb8 e0 e1 e2 j0 j1 j2 K1 K2 K3
            have e0 := hT.dy.c0
            have e1 := hT.dy.c1
            have e2 := hT.dy.c2
            have x0 := hT.dx.c0
            have x1 := hT.dx.c1
            have x2 := hT.dx.c2
            have i0 := hT.dx.free 0
            have i1 := hT.dx.free 1
            have i2 := hT.dx.free 2
            have hxy := hT.hy
            have hxy2 : xb ≠ Y := by omega
            have hyx2 : Y ≠ xb := by omega
            rcases hcase with hcase | hcase
            · subst hcase
              subst hn
              go_wp2_with (go_at_call 21; (with_reducible refine (sameTexts_walk _ _ _ _ _ _ hRd hT.own.rd (by omega)).mono ?_))
              rintro e w9 ⟨rfl, rfl⟩
              go_wp2_with fail
              go_roundw
              case rel => exact ⟨j - 1, c + 1, q5, wk, L', 0, wa, by omega, by go_num, rfl, by rw [HD.out]; exact Crash.store3 hT.env hT.dx hT.own hG HRW.out hdl hdb0 (Int.le_refl _) (by omega)⟩
              case measure => simp [intOf]; omega
            · have hn1 : n = L.length + 1 := by rw [hn, hcase, List.length_append]; rfl
              have HN := Lib.hid hn
              have HL := Lib.hid hcase
              have hsz : xb + 1 ≤ w8.heap.size := hT.dx.lt
              clear hcase hn
              subst hn1
              go_wp2_with (at_builtin; refine wpList_app1 (w0 := w8) (B := xb + 1) rfl _ _ _ rfl jel_str rfl hT.own (Below.refl _ _) (Nat.le_refl _) hsz (cs := [_]) rfl rfl (one1 rfl) (by omega) ?_)
              intro a2 cap2 w9 hown2 hbel2 hgr
              have hX9 := hT.dx.grown hgr (fun e => by have := (hT.own.row xb e.symm).1; omega)
              have hY9 := hT.dy.grown hgr (fun e => hT.row e.symm)
              have hE9 := hT.env.row hgr (fun k hk => by have := (hT.own.row k hk).1; omega) hdb0 HRW.out
              have hO9 := own_snoc hown2
              have hRd9 : Rd w9 ra (strs L') := hRd.grown hgr (fun g off hg e => by have h1 := hfr g off hg; have h2 := hrl g e.symm; simp at h1; omega)
              clear e0 e1 e2 x0 x1 x2 i0 i1 i2 hT hown2 hbel2 hgr hRd
              have e0 := hY9.c0
              have e1 := hY9.c1
              have e2 := hY9.c2
              have x0 := hX9.c0
              have x1 := hX9.c1
              have x2 := hX9.c2
              have i0 := hX9.free 0
              have i1 := hX9.free 1
              have i2 := hX9.free 2
              go_wp2_with (go_at_call 21; (with_reducible refine (sameTexts_n _ L' _ _ _ _ _ HN.out hRd9 (by rw [HL.out]; exact hO9.rd) (by omega)).mono ?_))
              rintro e w10 ⟨rfl, rfl⟩
              go_wp2_with fail
              go_roundw
              case rel => exact ⟨j - 1, c + 1, q5, cap2, L', 0, a2, by omega, by go_num, by rw [← HN.out], by rw [HD.out]; exact Crash.store3 hE9 hX9 (by rw [HL.out]; exact hO9) hG HRW.out hdl hdb0 (Int.le_refl _) (by omega)⟩
              case measure => simp [intOf]; omega
          · obtain ⟨g, hg0, hg1, hap⟩ := app_on hC.good (by omega) hs hC.f0 hC.f1 hf
            obtain ⟨D', hD'⟩ : ∃ D', D' = framesF (L ++ [s]) 0 := ⟨_, rfl⟩
            rw [← hD'] at hap
            have hG := hC.good.snoc hs
            have k1 : ∀ V, Calls Try.prog 18 #[.agg #[.string ⟨(framesF L 0).toArray⟩, .int .i64 f4, .bool false], .string ⟨s.toArray⟩] V fun e w' => e = .returned (.tuple #[.agg #[.string ⟨D'.toArray⟩, .int .i64 g, .bool false], .int .i64 0]) ∧ Below V.heap.size V w' := fun V => by
              have := jappend_walk (framesF L 0) f4 false s V (by omega) (by omega)
              rw [hap, dres_eq] at this; exact this
            have K1 := Lib.hid k1
            have HD := Lib.hid hD'
            clear k1 hap hD' hDl hDb hf hLl
            go_wp2_with (go_at_call 18; (with_reducible refine (K1.out _).mono ?_))
            rintro e w6 ⟨rfl, hb6⟩
            replace hC := hC.keep hb6
            clear hb6 x0 x1 x2 K1
            go_wp2_with fail
            have hY := Dk.new w6 D' g false
            have hrow := hC.rowlt (Nat.le_refl _)
            have hxy := hC.dk.lt
            replace hC := hC.keep (show Below w6.heap.size w6 (w6.alloc (.cells #[.string ⟨D'.toArray⟩, .int .i64 g, .bool false] 23)) from (Below.refl _ _).alloc (Nat.le_refl _) _)
            have hsz : xb + 1 ≤ (w6.alloc (.cells #[.string ⟨D'.toArray⟩, .int .i64 g, .bool false] 23)).heap.size := hC.dk.lt
            generalize w6.alloc (.cells #[.string ⟨D'.toArray⟩, .int .i64 g, .bool false] 23) = w7 at *
            generalize w6.heap.size = Y at *
            have hxy2 : xb ≠ Y := by omega
            have hyx2 : Y ≠ xb := by omega
            have e0 := hY.c0
            have e1 := hY.c1
            have e2 := hY.c2
            replace hC := hC.keep (show Below w7.heap.size w7 w7.drew from (Below.refl _ _).drew)
            have hYl : Y < w7.heap.size := hY.lt
            replace hY := Dk.drew hY
            have hO : Ow w7.drew (xb + 1) 1 wa L.length wk (strs L) := hC.own
            have hbel : Below (xb + 1) w7 w7.drew := (Below.refl _ _).drew
            go_region_law (refine step_appn (w0 := w7) (B := xb + 1) rfl _ _ _ rfl jel_str rfl hO hbel (Nat.le_refl _) hsz (m := 1) (cs := [_]) rfl rfl ?one ?bytes ?_; (case one => exact one1 rfl); (case bytes => omega); intro a2 cap2 w8 hown2 hbel2 hgr; have hX8 := hC.dk.grown hgr (fun e => by have := (hC.own.row xb e.symm).1; omega); have hY8 := hY.grown hgr (fun e => hrow e.symm); have z0 := hY8.c0; have z1 := hY8.c1; have z2 := hY8.c2; have x0 := hX8.c0; have x1 := hX8.c1; have x2 := hX8.c2; have i0 := hX8.free 0; have i1 := hX8.free 1; have i2 := hX8.free 2)
            all_goals
              have hE8 := hC.env.row hgr (fun k hk => by have := (hC.own.row k hk).1; omega) hdb0 HRW.out
              have hO8 := own_snoc hown2
              clear hown2 hbel2 hgr
              go_wp2_with fail
              go_roundw
              case rel => exact ⟨j - 1, c + 1, q5, cap2, L ++ [s], g, a2, by omega, by go_num, by rw [List.length_append]; rfl, by rw [HD.out]; exact Crash.store3 hE8 hX8 hO8 hG HRW.out hdl hdb0 hg0 hg1⟩
              case measure => simp [intOf]; omega
end Go.Proofs.Ythelmlmheioljaa
