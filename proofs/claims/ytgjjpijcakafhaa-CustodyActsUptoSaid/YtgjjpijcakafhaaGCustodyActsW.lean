/- The walk of the law CustodyActs. -/
import Derived.Test.YtgjjpijcakafhaaGCustodyV3
namespace Go.Proofs.Ytgjjpijcakafhaa
open Go.RowKit
theorem follows_kind {l : List Rec} {r : Rec} (h : followsF l r = 0) : 1 ≤ r.kind ∧ r.kind ≤ 7 := by
  unfold followsF at h
  split at h
  · omega
  · split at h
    · omega
    · split at h
      · omega
      · split at h
        · omega
        · omega
theorem kit_rec {L : List Rec} {m : Nat} {t : Int} (hK : Kit L m t) (hm : m ≤ 1000) : ∀ (k : Nat) (r : Rec), L[k]? = some r → r.In ∧ (-4611686018427387904 ≤ r.num ∧ r.num ≤ 4611686018427387904) ∧ (-4611686018427387904 ≤ r.time ∧ r.time ≤ 4611686018427387904) ∧ (0 ≤ r.kind ∧ r.kind ≤ 100) ∧ r.body.length ≤ 16384 ∧ r.before.length ≤ 32 := fun k r hr => by
  have hkl : k < L.length := (List.getElem?_eq_some_iff.1 hr).1
  have hf := hK.right k r hkl hr
  have h1 := follows_short hf
  have h2 := follows_kind hf
  have h3 := hK.num
  have h4 : (L.take k).length = k := by rw [List.length_take]; omega
  rw [h4] at h1
  exact ⟨hK.ins r (List.mem_of_getElem? hr), by omega, by omega, by omega, by omega, by omega⟩
theorem Ow.frees {w : World} {base g off n cap k : Nat} {xs : List Value} (h : Ow w base 5 (some ⟨g, off, none⟩) n cap xs) (hk : k < n) :
    w.frozen? ⟨g, off + k * 5, none⟩ = false ∧ w.frozen? ⟨g, off + k * 5 + 1, none⟩ = false ∧ w.frozen? ⟨g, off + k * 5 + 2, none⟩ = false ∧ w.frozen? ⟨g, off + k * 5 + 3, none⟩ = false ∧ w.frozen? ⟨g, off + k * 5 + 4, none⟩ = false := by
  obtain ⟨hl, hc, hm, ⟨h1, _⟩ | ⟨g', off', ha, hb, hgs, hx, hf⟩⟩ := h
  · simp at h1
  · simp only [Option.some.injEq, Addr.mk.injEq, and_true] at ha
    obtain ⟨rfl, rfl⟩ := ha
    have q : ∀ j, j < 5 → w.frozen? ⟨g, off + (k * 5 + j), none⟩ = false := fun j hj => (hf (k * 5 + j) (by omega)).2
    exact ⟨q 0 (by omega), q 1 (by omega), q 2 (by omega), q 3 (by omega), q 4 (by omega)⟩
theorem recs_drop (l : List Rec) (k : Nat) : recs (l.drop k) = (recs l).drop (k * 5) := by
  induction l generalizing k with
  | nil => simp [recs]
  | cons x l ih =>
    cases k with
    | zero => simp
    | succ k =>
      rw [List.drop_succ_cons, ih, show (k + 1) * 5 = k * 5 + 1 + 1 + 1 + 1 + 1 by omega]
      rfl
theorem Rd.recDrop {w : World} {g off : Nat} {l : List Rec} (h : Rd w (some ⟨g, off, none⟩) (recs l)) (k : Nat) : Rd w (some ⟨g, off + k * 5, none⟩) (recs (l.drop k)) := Rd.mk fun j u hj => by
  rw [recs_drop, List.getElem?_drop] at hj
  obtain ⟨g', off', ha, hc⟩ := h _ u hj
  cases ha
  rw [← Nat.add_assoc] at hc
  exact hc
theorem Ow.storeRec {w : World} {base g off n cap k : Nat} {l : List Rec} (h : Ow w base 5 (some ⟨g, off, none⟩) n cap (recs l)) (hk : k < l.length) (r : Rec) :
    Ow (((((w.setCell ⟨g, off + k * 5, none⟩ (.int .i64 r.num)).setCell ⟨g, off + k * 5 + 1, none⟩ (.int .i64 r.time)).setCell ⟨g, off + k * 5 + 2, none⟩ (.int .i64 r.kind)).setCell ⟨g, off + k * 5 + 3, none⟩ (.string ⟨r.body.toArray⟩)).setCell ⟨g, off + k * 5 + 4, none⟩ (.string ⟨r.before.toArray⟩)) base 5 (some ⟨g, off, none⟩) n cap (recs (l.set k r))
    ∧ w.grownBy (((((w.setCell ⟨g, off + k * 5, none⟩ (.int .i64 r.num)).setCell ⟨g, off + k * 5 + 1, none⟩ (.int .i64 r.time)).setCell ⟨g, off + k * 5 + 2, none⟩ (.int .i64 r.kind)).setCell ⟨g, off + k * 5 + 3, none⟩ (.string ⟨r.body.toArray⟩)).setCell ⟨g, off + k * 5 + 4, none⟩ (.string ⟨r.before.toArray⟩)) (some g) := by
  rw [recs_set hk]
  have s0 := h.stored (k * 5) (.int .i64 r.num)
  have s1 := s0.1.stored (k * 5 + 1) (.int .i64 r.time)
  have s2 := s1.1.stored (k * 5 + 2) (.int .i64 r.kind)
  have s3 := s2.1.stored (k * 5 + 3) (.string ⟨r.body.toArray⟩)
  have s4 := s3.1.stored (k * 5 + 4) (.string ⟨r.before.toArray⟩)
  exact ⟨s4.1, grown_tr (grown_tr (grown_tr (grown_tr s0.2 s1.2) s2.2) s3.2) s4.2⟩
theorem Fine.copy {w w' : World} {a b : Option Addr} {l : List Rec} {c d : Nat} (h : Fine w b l d) (hR : Rd w' a (recs l)) (hc : l.length ≤ c) : Fine w' a l c := ⟨hR, h.len, hc, h.ins, h.short⟩
theorem Fine.set {w w' : World} {a b : Option Addr} {l : List Rec} {c d k : Nat} {r : Rec} (h : Fine w b l d) (hR : Rd w' a (recs (l.set k r))) (hc : l.length ≤ c) (hI : r.In) (hs : r.body.length + r.before.length ≤ 2000000) : Fine w' a (l.set k r) c := by
  refine ⟨hR, by rw [List.length_set]; exact h.len, by rw [List.length_set]; exact hc, fun x hx => ?_, fun x hx => ?_⟩
  · rcases List.mem_or_eq_of_mem_set hx with h1 | rfl
    · exact h.ins x h1
    · exact hI
  · rcases List.mem_or_eq_of_mem_set hx with h1 | rfl
    · exact h.short x h1
    · exact hs
theorem Fine.nil (w : World) (a : Option Addr) (c : Nat) : Fine w a [] c := ⟨Rd.nil _ _, Nat.zero_le _, Nat.zero_le _, by simp, by simp⟩
theorem Fine.drop {w : World} {g off : Nat} {l : List Rec} {c : Nat} (h : Fine w (some ⟨g, off, none⟩) l c) (k : Nat) : Fine w (some ⟨g, off + k * 5, none⟩) (l.drop k) (c - k) := by
  have h1 := h.len
  have h2 := h.cap
  refine ⟨h.rd.recDrop k, by rw [List.length_drop]; omega, by rw [List.length_drop]; omega, fun x hx => h.ins x (List.mem_of_mem_drop hx), fun x hx => h.short x (List.mem_of_mem_drop hx)⟩
theorem addL_len (l : List Rec) (t k : Int) (body : List UInt8) : (addL l t k body).length ≤ l.length + 1 := by
  unfold addL
  split <;> simp
theorem rk5 {w : World} {g : Nat} {r : Rec} (h : Rk w g r) :
    w.cell? ⟨g, 0, none⟩ = some (.int .i64 r.num) ∧ w.cell? ⟨g, 1, none⟩ = some (.int .i64 r.time) ∧ w.cell? ⟨g, 2, none⟩ = some (.int .i64 r.kind) ∧ w.cell? ⟨g, 3, none⟩ = some (.string ⟨r.body.toArray⟩) ∧ w.cell? ⟨g, 4, none⟩ = some (.string ⟨r.before.toArray⟩) := ⟨h.c0, h.c1, h.c2, h.c3, h.c4⟩
/-- the block of the law's three chains -/
structure Three (w : World) (db gs : Nat) : Prop where
  all : ∀ j, j < 3 → ∃ b Y d, Rd w (some ⟨gs, j, none⟩) [.slice b Y.length d] ∧ Fine w b Y d ∧ (0 < Y.length → ∀ g, rowOf b = some g → g ≠ db)
  ne : gs ≠ db
theorem Three.keep {w w' : World} {db gs : Nat} (h : Three w db gs) (hb : Below w.heap.size w w') : Three w' db gs := ⟨fun j hj => by
  obtain ⟨b, Y, d, h1, h2, h3⟩ := h.all j hj
  exact ⟨b, Y, d, h1.keep hb, h2.keep hb, h3⟩, h.ne⟩
theorem Three.grown {w w' : World} {db gs : Nat} (h : Three w db gs) (hg : w.grownBy w' (some db)) : Three w' db gs := ⟨fun j hj => by
  obtain ⟨b, Y, d, h1, h2, h3⟩ := h.all j hj
  exact ⟨b, Y, d, h1.grown hg (fun g off e => by cases e; simpa using h.ne), h2.grown hg (fun h0 g e => by simpa using h3 h0 g e), h3⟩, h.ne⟩
theorem Three.at {w : World} {db gs : Nat} (h : Three w db gs) {j : Nat} (hj : j < 3) : ∃ b Y d, w.cell? ⟨gs, j, none⟩ = some (.slice b Y.length d) ∧ Fine w b Y d ∧ Hid (0 < Y.length → ∀ g, rowOf b = some g → g ≠ db) := by
  obtain ⟨b, Y, d, h1, h2, h3⟩ := h.all j hj
  obtain ⟨g, off, e, hc⟩ := h1 0 _ rfl
  cases e
  exact ⟨b, Y, d, hc, h2, Lib.hid h3⟩
/-- the loop over them -/
structure Cu (W w : World) (db : Nat) (p : Option Addr) (l : List Int) (cap q : Nat) (la : Option Addr) (L : List Rec) (lc : Nat) (b : Option Addr) (Y : List Rec) (d gs : Nat) : Prop where
  env : Env W w db p l cap q
  fl : Fine w la L lc
  fy : Fine w b Y d
  three : Three w db gs
theorem Cu.keep {W w w' : World} {db : Nat} {p : Option Addr} {l : List Int} {cap q : Nat} {la : Option Addr} {L : List Rec} {lc : Nat} {b : Option Addr} {Y : List Rec} {d gs : Nat} (h : Cu W w db p l cap q la L lc b Y d gs) (hb : Below w.heap.size w w') : Cu W w' db p l cap q la L lc b Y d gs :=
  ⟨h.env.keep hb, h.fl.keep hb, h.fy.keep hb, h.three.keep hb⟩
theorem Cu.next {W w w' : World} {db : Nat} {p : Option Addr} {l : List Int} {cap q q' : Nat} {la : Option Addr} {L : List Rec} {lc : Nat} {b : Option Addr} {Y : List Rec} {d gs : Nat} (h : Cu W w db p l cap q la L lc b Y d gs) (hne : 0 < l.length → ∀ g off, p = some ⟨g, off, none⟩ → g ≠ W.heap.size) (hY : 0 < Y.length → ∀ g, rowOf b = some g → g ≠ db) (hL : 0 < L.length → ∀ g, rowOf la = some g → g ≠ db) (hdb : db = W.heap.size) (hD : Dice w' db p l cap q') (hg : w.grownBy w' (some db)) : Cu W w' db p l cap q' la L lc b Y d gs :=
  ⟨h.env.grown (by rw [hdb]; exact hne) (by omega) hD hg, h.fl.grown hg (fun h0 g e => by simpa using hL h0 g e), h.fy.grown hg (fun h0 g e => by simpa using hY h0 g e), h.three.grown hg⟩
set_option maxRecDepth 100000 in
set_option maxHeartbeats 4000000 in
theorem acts_walk (W : World) (p : Option Addr) (l : List Int) (cap : Nat) (hR : Rd W p (ints l)) (hl : l.length ≤ 17592186043904) (ra : Option Addr) (X : List Rec) (rc : Nat) (hX : Fine W ra X rc) (time kind : Int) (body : List UInt8) (hbl : body.length ≤ 1048576) :
    Calls Try.prog 5 #[.slice p l.length cap, .slice ra X.length rc, .int .i64 time, .int .i64 kind, .string ⟨body.toArray⟩] W fun e w' => e = .returned (.bool true) ∧ Below W.heap.size W w' := by
  have hXl := hX.len
  go_enter Try.func5, Try.ntmps5
  go_wp2_with (go_at_call 10; (with_reducible refine (light_walk _ _ _ _ (by omega)).mono ?_))
  rintro e w1 ⟨rfl, rfl⟩
  by_cases hq : 500 < l.length ∨ 12 < X.length ∨ 300 < body.length
  · have hq2 : (decide (l.length ≤ 500) = false) ∨ (decide (l.length ≤ 500) = true ∧ (12 : Int) < (X.length : Int)) ∨ (decide (l.length ≤ 500) = true ∧ ¬ (12 : Int) < (X.length : Int) ∧ (300 : Int) < (body.length : Int)) := by
      by_cases a : 500 < l.length
      · exact .inl (by simp; omega)
      · by_cases b : 12 < X.length
        · exact .inr (.inl ⟨by simp; omega, by omega⟩)
        · exact .inr (.inr ⟨by simp; omega, by omega, by omega⟩)
    clear hq
    rcases hq2 with h1 | ⟨h1, h2⟩ | ⟨h1, h2, h3⟩
    · go_wp2_with (go_at_call 9; (with_reducible refine (awake20_walk _).mono ?_))
      rintro e w1 ⟨rfl, hb1⟩
      go_wp2
      go_ret
      exact ⟨rfl, hb1⟩
    · go_wp2_with (go_at_call 9; (with_reducible refine (awake20_walk _).mono ?_))
      rintro e w1 ⟨rfl, hb1⟩
      go_wp2
      go_ret
      exact ⟨rfl, hb1⟩
    · go_wp2_with (go_at_call 9; (with_reducible refine (awake20_walk _).mono ?_))
      rintro e w1 ⟨rfl, hb1⟩
      go_wp2
      go_ret
      exact ⟨rfl, hb1⟩
  have hd5 : decide (l.length ≤ 500) = true := by simp; omega
  have hx12 : ¬ (12 : Int) < (X.length : Int) := by omega
  have hb3 : ¬ (300 : Int) < (body.length : Int) := by omega
  clear hq
  go_wp2_with (go_at_call 11; (with_reducible refine (roll_walk _ _ _ _).mono ?_))
  rintro e w1 ⟨rfl, hD, hb1⟩
  have hE : Env W w1 W.heap.size p l cap 0 := ⟨hD, hR.keep hb1, hb1⟩
  have HXo : Hid (0 < X.length → ∀ g, rowOf ra = some g → g ≠ W.heap.size) := Lib.hid (fun h0 g hg e => by
    have := hX.old h0 g hg
    omega)
  replace hX := hX.keep hb1
  clear hD hb1
  have kch := chain_walk W _ p l cap 0 8 _ hE hR (Nat.le_refl _) (by omega) (by omega)
  rw [show ((8 : Nat) : Int) = 8 from rfl] at kch
  have KCH := Lib.hid kch
  clear kch
  go_wp2_with (go_at_call 12; (with_reducible refine KCH.out.mono ?_))
  rintro e w2 ⟨L, la, lc, tm, q2, rfl, hK, hO, hE2, hg2⟩
  have hL := fine_chain hK hO.rd hO.2.1
  have hK8 := Lib.hid hK
  have hwl := hE.dice.lt
  have hL8 := hK.num
  have hLW : ∀ g, rowOf la = some g → w1.heap.size ≤ g ∧ g < w2.heap.size := fun g h => hO.row g h
  have hw12 := hg2.size
  have hXo := HXo.out
  clear HXo
  replace hX := hX.grown hg2 (fun h0 g hg e => hXo h0 g hg (by simpa using e))
  have HXO := Lib.hid hXo
  have HLW := Lib.hid hLW
  have hne := rd_ne hR (Nat.le_refl _)
  have HNE := Lib.hid hne
  have HR := Lib.hid hR
  clear hK hO hg2 KCH hd5 hx12 hb3 hE hne hR hXo hLW
  go_wp2_with (at_builtin; refine wpList_apps (w0 := w2) (B := w2.heap.size) rfl _ _ _ _ rfl el_rec rfl (Ow.nil w2 w2.heap.size 5) (Below.refl _ _) (Nat.le_refl _) (Nat.le_refl _) rfl (Src.slice el_rec.u (recs_length L) hL.rd (recs_one _)) (by omega) ?_)
  intro a3 c3 w3 hO3 hb3 hg3
  have HX2 := Lib.hid hX.old
  replace hE2 := hE2.keep hb3
  replace hL := hL.keep hb3
  replace hX := hX.keep hb3
  have hd3 := hE2.dice.lt
  have hw3 := hb3.size
  have HKR := Lib.hid (kit_rec hK8.out (by omega))
  clear hg3
  have hF3 := hL.copy hO3.rd hO3.2.1
  go_upto_if 59 with fail
  go_cut [13] (fun v wX => ∃ (a : Option Addr) (n c : Nat) (Z : List Rec) (q : Nat), v = .slice a n c ∧ Z.length = n ∧ Fine wX a Z c ∧ Hid (0 < Z.length → ∀ g, rowOf a = some g → g ≠ W.heap.size) ∧ Env W wX W.heap.size p l cap q ∧ Fine wX la L lc ∧ Fine wX ra X rc)
  case first =>
    by_cases h0 : 0 < L.length
    · have h0i : (0 : Int) < (L.length : Int) := by omega
      obtain ⟨k, hk, hkl⟩ : ∃ k : Nat, dnum l q2 (L.length : Int) = (k : Int) ∧ k < L.length := by
        have a1 := dnum_lo l q2 (n := (L.length : Int)) (by omega)
        have a2 := dnum_hi l q2 (n := (L.length : Int)) (by omega)
        exact ⟨(dnum l q2 (L.length : Int)).toNat, by omega, by omega⟩
      have hki : (k : Int) < (L.length : Int) := by omega
      have K1 := Lib.hid (next_walk W.heap.size p l cap q2 (L.length : Int) w3 hE2.dice hE2.rd HNE.out (by omega) (by omega) (by omega))
      have hnX : 0 < X.length → ∀ g, rowOf ra = some g → some g ≠ some W.heap.size := fun h g hg e => HXO.out h g hg (by simpa using e)
      have hnL : 0 < L.length → ∀ g, rowOf la = some g → some g ≠ some W.heap.size := fun h g hg e => by
        have := HLW.out g hg
        simp at e
        omega
      have hn3 : rowOf a3 = none ∨ rowOf a3 ≠ some W.heap.size := .inr (fun e => by have := hO3.row _ e; omega)
      have HNX := Lib.hid hnX
      have HNL := Lib.hid hnL
      have HN3 := Lib.hid hn3
      have HHK := Lib.hid hk
      clear hnX hnL hn3 hk
      go_wp2_with (go_at_call 13; (with_reducible refine K1.out.mono ?_))
      rintro e w4 ⟨rfl, hD4, hg4⟩
      rw [HHK.out]
      replace hE2 := hE2.grown HNE.out (Nat.le_refl _) hD4 hg4
      replace hL := hL.grown hg4 HNL.out
      replace hX := hX.grown hg4 HNX.out
      replace hO3 := hO3.kept hg4 HN3.out
      obtain ⟨g, off, r, rfl, hLr, c0, c1, c2, c3, c4⟩ := hO3.rd.rec hkl
      obtain ⟨hIr, hnr, htr, hkr, hbr, hfr⟩ := HKR.out k r hLr.out
      have hw4 := hg4.size
      have K2 := Lib.hid (odd_walk W W.heap.size p l cap _ r w4 hE2 HR.out (Nat.le_refl _) (by omega) hIr hnr htr hkr (by omega))
      clear hF3 K1 hD4 hg4 HHK hIr hnr htr hkr
      go_wp2_with (go_at_call 17; (with_reducible refine K2.out.mono ?_))
      rintro e w5 ⟨r', q5, rfl, hok, hE5, hg5⟩
      clear hE2 K2 c0 c1 c2 c3 c4
      replace hL := hL.grown hg5 HNL.out
      replace hX := hX.grown hg5 HNX.out
      replace hO3 := hO3.kept hg5 HN3.out
      have hw5 := hg5.size
      clear hg5
      obtain ⟨f0, f1, f2, f3, f4⟩ := hO3.frees hkl
      have hgr := hO3.row g rfl
      obtain ⟨g', off', r2, hg', hLr2, e0, e1, e2, e3, e4⟩ := hO3.rd.rec hkl
      cases hg'
      have hst := hO3.storeRec hkl r'
      go_wp2_with fail
      generalize (((((w5.setCell ⟨g, off + k * 5, none⟩ (.int .i64 r'.num)).setCell ⟨g, off + k * 5 + 1, none⟩ (.int .i64 r'.time)).setCell ⟨g, off + k * 5 + 2, none⟩ (.int .i64 r'.kind)).setCell ⟨g, off + k * 5 + 3, none⟩ (.string ⟨r'.body.toArray⟩)).setCell ⟨g, off + k * 5 + 4, none⟩ (.string ⟨r'.before.toArray⟩)) = w6 at *
      obtain ⟨hO6, hg6⟩ := hst
      have hE6 := hE5.row hg6 (fun j hj => by cases hj; omega) (Nat.le_refl _) HR.out
      have hF6 := hL.set hO6.rd hO3.2.1 hok.ins (by have := hok.body; have := hok.before; omega)
      replace hL := hL.grown hg6 (fun _ g' h e => by have := HLW.out g' h; cases e; omega)
      replace hX := hX.grown hg6 (fun h0 g' h e => by have := HX2.out h0 g' h; cases e; omega)
      have hgd : W.heap.size < g := by omega
      have hcc := hO3.2.1
      have hcm := hO3.2.2.1
      clear hE5 hO3 hO6 e0 e1 e2 e3 e4 f0 f1 f2 f3 f4 hLr2 hg6 hok hLr hbr hfr
      have hZ : (L.set k r').length = L.length := List.length_set
      generalize L.set k r' = Z at *
      have K3 := Lib.hid (next_walk W.heap.size p l cap q5 4 w6 hE6.dice hE6.rd HNE.out (by omega) (by omega) (by omega))
      refine K3.out.mono ?_
      rintro e w7 ⟨rfl, hD7, hg7⟩
      clear K3
      replace hE6 := hE6.grown HNE.out (Nat.le_refl _) hD7 hg7
      replace hL := hL.grown hg7 HNL.out
      replace hX := hX.grown hg7 HNX.out
      have hF7 := hF6.grown hg7 (fun _ g' h e => by simp [rowOf] at h; simp at e; omega)
      clear hF6 hD7 hg7
      generalize dnxt l q5 = q7 at *
      generalize dnum l q5 4 = d4 at *
      by_cases hd0 : d4 = 0
      · subst hd0
        obtain ⟨j, hj, hj2⟩ : ∃ j : Nat, dnum l q7 2 = (j : Int) ∧ j < 2 := by
          have a1 := dnum_lo l q7 (n := 2) (by omega)
          have a2 := dnum_hi l q7 (n := 2) (by omega)
          exact ⟨(dnum l q7 2).toNat, by omega, by omega⟩
        have HJ := Lib.hid hj
        have K4 := Lib.hid (next_walk W.heap.size p l cap q7 2 w7 hE6.dice hE6.rd HNE.out (by omega) (by omega) (by omega))
        clear hj
        go_wp2_with (go_at_call 13; (with_reducible refine K4.out.mono ?_))
        rintro e w8 ⟨rfl, hD8, hg8⟩
        rw [HJ.out]
        clear K4
        replace hE6 := hE6.grown HNE.out (Nat.le_refl _) hD8 hg8
        replace hL := hL.grown hg8 HNL.out
        replace hX := hX.grown hg8 HNX.out
        have hF8 := hF7.grown hg8 (fun _ g' h e => by simp [rowOf] at h; simp at e; omega)
        have hjl : (j : Int) ≤ (L.length : Int) := by omega
        have hjl2 : j ≤ L.length := by omega
        have hjc : j ≤ c3 := by omega
        clear hF7 hD8 hg8
        by_cases hcj : c3 = j
        · go_wp2_with fail
          go_meet
          exact ⟨_, _, _, [], _, rfl, by simp; omega, Fine.nil _ _ _, Lib.hid (fun h0 => absurd h0 (by simp)), hE6, hL, hX⟩
        · have hZl : Z.length - j = (Z.drop j).length := by rw [List.length_drop]
          go_wp2_with fail
          go_meet
          exact ⟨_, _, _, _, _, rfl, by rw [List.length_drop, hZ], hF8.drop j, Lib.hid (fun _ g' h e => by simp [rowOf] at h; omega), hE6, hL, hX⟩
      · have hd0' : (d4 == 0) = false := by simp [hd0]
        go_wp2_with fail
        go_meet
        exact ⟨_, _, _, _, _, rfl, hZ, hF7, Lib.hid (fun _ g' h e => by simp [rowOf] at h; omega), hE6, hL, hX⟩
    · have h0i : ¬ (0 : Int) < (L.length : Int) := by omega
      go_wp2_with fail
      go_meet
      exact ⟨_, _, _, _, _, rfl, rfl, hF3, Lib.hid (fun h => absurd h h0), hE2, hL, hX⟩
  case rest =>
    clear hF3 hO3 hE2 hL hX hb3 hd3 hw3
    obtain ⟨a, n, c, Z, q, rfl, rfl, hZ, HZN, hE, hL, hX⟩ := hcut
    obtain ⟨w5, hw5⟩ : ∃ w5, w5 = wc := ⟨_, rfl⟩
    subst hw5
    go_wp2_with fail
    have hb6 := (Below.refl w5.heap.size w5).alloc (Nat.le_refl _) (.cells #[.slice la L.length lc, .slice a Z.length c, .slice ra X.length rc] 22)
    have hS : Rd (w5.alloc (.cells #[.slice la L.length lc, .slice a Z.length c, .slice ra X.length rc] 22)) (some ⟨w5.heap.size, 0, none⟩) [.slice la L.length lc, .slice a Z.length c, .slice ra X.length rc] := Rd.mk fun j u hj => by
      rcases j with _ | _ | _ | j <;> simp at hj <;> subst hj <;> simp [World.cell?_alloc_at]
    have hd5 := hE.dice.lt
    replace hE := hE.keep hb6
    replace hL := hL.keep hb6
    replace hX := hX.keep hb6
    replace hZ := hZ.keep hb6
    generalize w5.alloc (.cells #[.slice la L.length lc, .slice a Z.length c, .slice ra X.length rc] 22) = w6 at *
    generalize w5.heap.size = gs at *
    have hT : Three w6 W.heap.size gs := by
      refine ⟨fun j hj => ?_, by omega⟩
      have q : ∀ v, [Value.slice la L.length lc, .slice a Z.length c, .slice ra X.length rc][j]? = some v → Rd w6 (some ⟨gs, j, none⟩) [v] := fun v hv i u hu => by
        obtain ⟨g, off, e, hc⟩ := hS j v hv
        cases e
        rcases i with _ | i
        · simp at hu
          subst hu
          exact ⟨_, _, rfl, by simpa using hc⟩
        · simp at hu
      rcases (show j = 0 ∨ j = 1 ∨ j = 2 by omega) with rfl | rfl | rfl
      · exact ⟨la, L, lc, q _ rfl, hL, fun h g e => by have := HLW.out g e; omega⟩
      · exact ⟨a, Z, c, q _ rfl, hZ, HZN.out⟩
      · exact ⟨ra, X, rc, q _ rfl, hX, HXO.out⟩
    clear hb6 hS hZ hX
    go_loopw [85] (fun i wr => ∃ j q : Nat, j ≤ 3 ∧ i = .int .i64 (j : Int) ∧ Env W wr W.heap.size p l cap q ∧ Fine wr la L lc ∧ Three wr W.heap.size gs) (fun i _ => 3 - (intOf i).toNat)
    case atStart => exact ⟨0, _, by omega, rfl, hE, hL, hT⟩
    case round =>
      clear hE hL hT
      obtain ⟨j, q, hj, rfl, hE, hL, hT⟩ := hrel
      by_cases hj3 : j < 3
      · have hji : (j : Int) < 3 := by omega
        obtain ⟨b, Y, d, hcell, hY, HYN⟩ := hT.at hj3
        have hC : Cu W _ W.heap.size p l cap q la L lc b Y d gs := ⟨hE, hL, hY, hT⟩
        have hyl := hY.len
        clear hE hL hY hT
        go_wp2_with (go_at_call 7; (with_reducible refine (ccheck_walk b Y d _ hC.fy.rd (by omega) hC.fy.cap hC.fy.ins).mono ?_))
        rintro e v1 ⟨rfl, hv⟩
        replace hC := hC.keep hv
        clear hv
        go_wp2_with (go_at_call 18; (with_reducible refine (rcheck_walk b Y d _ hC.fy.rd (by omega) hC.fy.ins).mono ?_))
        rintro e v2 ⟨rfl, hv⟩
        replace hC := hC.keep hv
        clear hv
        go_wp2_with (go_at_call 14; (with_reducible refine (head_walk b Y d _ hC.fy.rd (by omega) hC.fy.cap hC.fy.ins).mono ?_))
        rintro e v3 ⟨rfl, hv⟩
        replace hC := (hC.keep hv).keep ((Below.refl v3.heap.size v3).alloc (Nat.le_refl _) (.cells #[.int .i64 (headF Y).count, .string ⟨(headF Y).last.toArray⟩, .string ⟨(headF Y).root.toArray⟩, .int .i64 (headF Y).time] 40))
        clear hv
        have hk3 : Hk (v3.alloc (.cells #[.int .i64 (headF Y).count, .string ⟨(headF Y).last.toArray⟩, .string ⟨(headF Y).root.toArray⟩, .int .i64 (headF Y).time] 40)) v3.heap.size (headF Y) := heap_alloc_new v3 _
        go_wp2_with (go_at_call 19; (with_reducible refine (rhead_walk b Y d _ hC.fy.rd (by omega) hC.fy.ins).mono ?_))
        rintro e v4 ⟨rfl, hv⟩
        replace hk3 := (hk3.keep hv).keep ((Below.refl v4.heap.size v4).alloc (Nat.le_refl _) (.cells #[.int .i64 (headF Y).count, .string ⟨(headF Y).last.toArray⟩, .string ⟨(headF Y).root.toArray⟩, .int .i64 (headF Y).time] 40))
        replace hC := (hC.keep hv).keep ((Below.refl v4.heap.size v4).alloc (Nat.le_refl _) (.cells #[.int .i64 (headF Y).count, .string ⟨(headF Y).last.toArray⟩, .string ⟨(headF Y).root.toArray⟩, .int .i64 (headF Y).time] 40))
        clear hv
        have hk4 : Hk (v4.alloc (.cells #[.int .i64 (headF Y).count, .string ⟨(headF Y).last.toArray⟩, .string ⟨(headF Y).root.toArray⟩, .int .i64 (headF Y).time] 40)) v4.heap.size (headF Y) := heap_alloc_new v4 _
        generalize v3.heap.size = g3 at *
        have c0 := hk3.c0
        have c1 := hk3.c1
        have c2 := hk3.c2
        have c3 := hk3.c3
        have d0 := hk4.c0
        have d1 := hk4.c1
        have d2 := hk4.c2
        have d3 := hk4.c3
        go_wp2_with (go_at_call 20; (with_reducible refine (extends_walk la L L.length lc b Y Y.length d _ rfl rfl hC.fl.rd hC.fy.rd (by omega) (by omega) hC.fl.cap hC.fy.cap hC.fl.ins hC.fy.ins).mono ?_))
        (first | rintro e v5 ⟨rfl, hv⟩ | rintro e v5 rfl hv)
        replace hC := hC.keep hv
        clear hv hk3 hk4 c0 c1 c2 c3 d0 d1 d2 d3
        go_wp2_with (go_at_call 21; (with_reducible refine (rextends_walk la L L.length lc b Y Y.length d _ rfl rfl hC.fl.rd hC.fy.rd (by omega) (by omega) hC.fl.ins hC.fy.ins).mono ?_))
        (first | rintro e v6 ⟨rfl, hv⟩ | rintro e v6 rfl hv)
        replace hC := hC.keep hv
        clear hv
        go_wp2_with (go_at_call 20; (with_reducible refine (extends_walk b Y Y.length d la L L.length lc _ rfl rfl hC.fy.rd hC.fl.rd (by omega) (by omega) hC.fy.cap hC.fl.cap hC.fy.ins hC.fl.ins).mono ?_))
        (first | rintro e v7 ⟨rfl, hv⟩ | rintro e v7 rfl hv)
        replace hC := hC.keep hv
        clear hv
        go_wp2_with (go_at_call 21; (with_reducible refine (rextends_walk b Y Y.length d la L L.length lc _ rfl rfl hC.fy.rd hC.fl.rd (by omega) (by omega) hC.fy.ins hC.fl.ins).mono ?_))
        (first | rintro e v8 ⟨rfl, hv⟩ | rintro e v8 rfl hv)
        replace hC := hC.keep hv
        clear hv
        have K1 := Lib.hid (next_walk W.heap.size p l cap q 9 v8 hC.env.dice hC.env.rd HNE.out (by omega) (by omega) (by omega))
        go_wp2_with (go_at_call 13; (with_reducible refine K1.out.mono ?_))
        rintro e v9 ⟨rfl, hD, hg⟩
        replace hC := hC.next HNE.out HYN.out (fun h g e => by have := HLW.out g e; omega) rfl hD hg
        clear K1 hD hg
        obtain ⟨m9, hm9, hm9a, hm9b⟩ : ∃ m : Int, dnum l q 9 = m ∧ 0 ≤ m ∧ m < 9 := ⟨_, rfl, dnum_lo l q (by omega), dnum_hi l q (by omega)⟩
        rw [hm9]
        clear hm9
        generalize dnxt l q = q9 at *
        obtain ⟨m7, hm7, hm7a, hm7b⟩ : ∃ m : Int, dnum l q9 7 = m ∧ 0 ≤ m ∧ m < 7 := ⟨_, rfl, dnum_lo l q9 (by omega), dnum_hi l q9 (by omega)⟩
        have HM7 := Lib.hid hm7
        clear hm7
        have wr9 : IntKind.i64.wrap (20 + m9) = 20 + m9 := by rw [IntKind.wrap_i64]; omega
        have wr7 : IntKind.i64.wrap (1 + m7) = 1 + m7 := by rw [IntKind.wrap_i64]; omega
        have K1 := Lib.hid (next_walk W.heap.size p l cap q9 7 v9 hC.env.dice hC.env.rd HNE.out (by omega) (by omega) (by omega))
        go_wp2_with (go_at_call 13; (with_reducible refine K1.out.mono ?_))
        rintro e v10 ⟨rfl, hD, hg⟩
        rw [HM7.out]
        replace hC := hC.next HNE.out HYN.out (fun h g e => by have := HLW.out g e; omega) rfl hD hg
        clear K1 hD hg HM7
        generalize dnxt l q9 = q10 at *
        obtain ⟨t1, ht1⟩ : ∃ t1, t1 = 20 + m9 := ⟨_, rfl⟩
        obtain ⟨k1, hk1⟩ : ∃ k1, k1 = 1 + m7 := ⟨_, rfl⟩
        rw [← ht1] at wr9
        rw [← hk1] at wr7
        rw [ht1] at wr9
        rw [hk1] at wr7
        clear hm9a hm9b hm7a hm7b
        go_wp2_with fail
        have hP : Rd (v10.alloc (.cells #[.int .i64 time, .int .i64 kind, .int .i64 (20 + m9), .int .i64 (1 + m7)] 46)) (some ⟨v10.heap.size, 0, none⟩) [.int .i64 time, .int .i64 kind, .int .i64 (20 + m9), .int .i64 (1 + m7)] := Rd.mk fun j u hj => by
          rcases j with _ | _ | _ | _ | j <;> simp at hj <;> subst hj <;> simp [World.cell?_alloc_at]
        replace hC := hC.keep ((Below.refl v10.heap.size v10).alloc (Nat.le_refl _) (.cells #[.int .i64 time, .int .i64 kind, .int .i64 (20 + m9), .int .i64 (1 + m7)] 46))
        generalize v10.alloc (.cells #[.int .i64 time, .int .i64 kind, .int .i64 (20 + m9), .int .i64 (1 + m7)] 46) = v11 at *
        generalize v10.heap.size = gt at *
        generalize 20 + m9 = tt at *
        generalize 1 + m7 = kk at *
        clear wr9 wr7 ht1 hk1
        go_loopw [157] (fun i wq => ∃ z : Nat, z ≤ 2 ∧ i = .int .i64 (z : Int) ∧ Cu W wq W.heap.size p l cap q10 la L lc b Y d gs ∧ Rd wq (some ⟨gt, 0, none⟩) [.int .i64 time, .int .i64 kind, .int .i64 tt, .int .i64 kk]) (fun i _ => 2 - (intOf i).toNat)
        case atStart => exact ⟨0, by omega, rfl, hC, hP⟩
        case round =>
          clear hC hP
          obtain ⟨z, hz, rfl, hC, hP⟩ := hrel
          by_cases hz2 : z < 2
          · have hzi : (z : Int) < 2 := by omega
            obtain ⟨t, k, e0, e1⟩ : ∃ t k, wr.cell? ⟨gt, z * 2, none⟩ = some (.int .i64 t) ∧ wr.cell? ⟨gt, z * 2 + 1, none⟩ = some (.int .i64 k) := by
              have q : ∀ i v, [Value.int .i64 time, .int .i64 kind, .int .i64 tt, .int .i64 kk][i]? = some v → wr.cell? ⟨gt, i, none⟩ = some v := fun i v hv => by
                obtain ⟨g, off, e, hc⟩ := hP i v hv
                cases e
                simpa using hc
              rcases (show z = 0 ∨ z = 1 by omega) with rfl | rfl
              · exact ⟨time, kind, q 0 _ rfl, q 1 _ rfl⟩
              · exact ⟨tt, kk, q 2 _ rfl, q 3 _ rfl⟩
            have hb := (Below.refl wr.heap.size wr).alloc (Nat.le_refl _) (.cells #[.int .i64 t, .int .i64 k] 46)
            have hbx : Rd (wr.alloc (.cells #[.int .i64 t, .int .i64 k] 46)) (some ⟨wr.heap.size, 0, none⟩) [.int .i64 t, .int .i64 k] := Rd.mk fun j u hj => by
              rcases j with _ | _ | j <;> simp at hj <;> subst hj <;> simp [World.cell?_alloc_at]
            replace hC := hC.keep hb
            replace hP := hP.keep hb
            clear hb
            go_wp2_with (go_at_call 8; (with_reducible refine (add_walk' b Y d t k body _ hC.fy.rd (by omega) hC.fy.cap hC.fy.ins).mono ?_))
            rintro e v12 ⟨a1, n1, rfl, hO1, hv⟩
            replace hC := hC.keep hv
            replace hP := hP.keep hv
            replace hbx := hbx.keep hv
            clear hv e0 e1
            generalize wr.heap.size = gx at *
            obtain ⟨x0, x1⟩ : v12.cell? ⟨gx, 0, none⟩ = some (.int .i64 t) ∧ v12.cell? ⟨gx, 1, none⟩ = some (.int .i64 k) := by
              constructor
              · obtain ⟨g, off, e, hc⟩ := hbx 0 _ rfl
                cases e
                exact hc
              · obtain ⟨g, off, e, hc⟩ := hbx 1 _ rfl
                cases e
                exact hc
            go_wp2_with (go_at_call 22; (with_reducible refine (radd_walk b Y d t k body _ hC.fy.rd (by omega) hC.fy.ins).mono ?_))
            rintro e v13 ⟨a2, n2, rfl, hO2, hv⟩
            replace hC := hC.keep hv
            replace hP := hP.keep hv
            replace hO1 := hO1.keep hv
            clear hv x0 x1 hbx
            have hQ := addL_len Y t k body
            go_wp2_with (go_at_call 15; (with_reducible refine (rsame_walk a1 (addL Y t k body) n1 a2 (addL Y t k body) _ n2 _ hO1.rd hO2.rd (by omega) rfl).mono ?_))
            rw [eqL_iff.2 rfl]
            rintro e v14 ⟨rfl, hv⟩
            replace hC := hC.keep hv
            replace hP := hP.keep hv
            clear hv hO1 hO2
            go_wp2_with fail
            exact ⟨⟨z + 1, by omega, by go_num, hC, hP⟩, by simp [intOf]; omega⟩
          · have hzi : ¬ (z : Int) < 2 := by omega
            obtain rfl : z = 2 := by omega
            clear hP
            go_wp2_with fail
            go_loopw [193] (fun i wq => ∃ k : Nat, k ≤ Y.length ∧ i = .int .i64 (k : Int) ∧ Cu W wq W.heap.size p l cap q10 la L lc b Y d gs) (fun i _ => Y.length - (intOf i).toNat)
            case atStart => exact ⟨0, by omega, rfl, hC⟩
            case round =>
              clear hC
              obtain ⟨k, hk, rfl, hC⟩ := hrel
              by_cases hkl : k < Y.length
              · have hki : (k : Int) < (Y.length : Int) := by omega
                obtain ⟨gy, oy, r, rfl, hr, c0, c1, c2, c3, c4⟩ := hC.fy.rd.rec hkl
                have hrm := List.mem_of_getElem? hr.out
                have hI := hC.fy.ins r hrm
                have hsh := hC.fy.short r hrm
                have hbx : Rk (wr.alloc (.cells #[.int .i64 r.num, .int .i64 r.time, .int .i64 r.kind, .string ⟨r.body.toArray⟩, .string ⟨r.before.toArray⟩] 24)) wr.heap.size r := heap_alloc_new _ _
                replace hC := hC.keep ((Below.refl wr.heap.size wr).alloc (Nat.le_refl _) (.cells #[.int .i64 r.num, .int .i64 r.time, .int .i64 r.kind, .string ⟨r.body.toArray⟩, .string ⟨r.before.toArray⟩] 24))
                go_wp2_with fail
                generalize wr.alloc (.cells #[.int .i64 r.num, .int .i64 r.time, .int .i64 r.kind, .string ⟨r.body.toArray⟩, .string ⟨r.before.toArray⟩] 24) = v15 at *
                generalize wr.heap.size = gz at *
                have hbd : Rk v15.drew gz r := hbx.keep ((Below.refl _ _).drew)
                have hCd := hC.keep (show Below v15.heap.size v15 v15.drew from (Below.refl _ _).drew)
                have s0 := rk5 hbd
                have k1 := fun V => dig_walk r V hI (by omega)
                have k2 := fun V => rdig_walk r V hI (by omega)
                have K1 := Lib.hid k1
                have K2 := Lib.hid k2
                clear k1 k2 c0 c1 c2 c3 c4
                go_region_held3 (fun w' => w'.cell? ⟨gz, 0, none⟩ = some (.int .i64 r.num) ∧ w'.cell? ⟨gz, 1, none⟩ = some (.int .i64 r.time) ∧ w'.cell? ⟨gz, 2, none⟩ = some (.int .i64 r.kind) ∧ w'.cell? ⟨gz, 3, none⟩ = some (.string ⟨r.body.toArray⟩) ∧ w'.cell? ⟨gz, 4, none⟩ = some (.string ⟨r.before.toArray⟩)) (first | (with_reducible assumption) | (go_keep; done)) (first | (go_at_call 16; (with_reducible refine (K1.out _).mono ?_); rintro e wA ⟨rfl, hA⟩; (first | (have bA := bB.keep hA; have CA := CB.keep hA) | (have bA := hbd.keep hA; have CA := hCd.keep hA)); have sA := rk5 bA) | (go_at_call 6; (with_reducible refine (K2.out _).mono ?_); rintro e wB ⟨rfl, hB⟩; (first | (have bB := bA.keep hB; have CB := CA.keep hB) | (have bB := hbd.keep hB; have CB := hCd.keep hB)); have sB := rk5 bB))
                all_goals (go_wp2_with fail)
                all_goals (first | exact ⟨⟨k + 1, by omega, by go_num, CA⟩, by simp [intOf]; omega⟩ | exact ⟨⟨k + 1, by omega, by go_num, CB⟩, by simp [intOf]; omega⟩)
              · have hki : ¬ (k : Int) < (Y.length : Int) := by omega
                go_wp2_with fail
                exact ⟨⟨j + 1, _, by omega, by go_num, hC.env, hC.fl, hC.three⟩, by simp [intOf]; omega⟩
      · have hji : ¬ (j : Int) < 3 := by omega
        have hB := hE.below
        clear hE hL hT
        go_wp2_with (go_at_call 23; (with_reducible refine (cbegin_walk time _).mono ?_))
        rintro e v1 rfl hv
        replace hB := hB.trans (hv.mono hB.size)
        have hk1 : Hk (v1.alloc (.cells #[.int .i64 (beginF time).count, .string ⟨(beginF time).last.toArray⟩, .string ⟨(beginF time).root.toArray⟩, .int .i64 (beginF time).time] 40)) v1.heap.size (beginF time) := heap_alloc_new v1 _
        replace hB := hB.trans (((Below.refl v1.heap.size v1).alloc (Nat.le_refl _) (.cells #[.int .i64 (beginF time).count, .string ⟨(beginF time).last.toArray⟩, .string ⟨(beginF time).root.toArray⟩, .int .i64 (beginF time).time] 40)).mono hB.size)
        clear hv
        go_wp2_with (go_at_call 24; (with_reducible refine (rcbegin_walk time _).mono ?_))
        (first | rintro e v2 rfl hv | rintro e v2 ⟨rfl, hv⟩)
        replace hk1 := (hk1.keep hv).keep ((Below.refl v2.heap.size v2).alloc (Nat.le_refl _) (.cells #[.int .i64 (beginF time).count, .string ⟨(beginF time).last.toArray⟩, .string ⟨(beginF time).root.toArray⟩, .int .i64 (beginF time).time] 40))
        have hk2 : Hk (v2.alloc (.cells #[.int .i64 (beginF time).count, .string ⟨(beginF time).last.toArray⟩, .string ⟨(beginF time).root.toArray⟩, .int .i64 (beginF time).time] 40)) v2.heap.size (beginF time) := heap_alloc_new v2 _
        replace hB := hB.trans (hv.mono hB.size)
        replace hB := hB.trans (((Below.refl v2.heap.size v2).alloc (Nat.le_refl _) (.cells #[.int .i64 (beginF time).count, .string ⟨(beginF time).last.toArray⟩, .string ⟨(beginF time).root.toArray⟩, .int .i64 (beginF time).time] 40)).mono hB.size)
        generalize v1.heap.size = g1 at *
        have c0 := hk1.c0
        have c1 := hk1.c1
        have c2 := hk1.c2
        have c3 := hk1.c3
        go_wp2_with (go_at_call 9; (with_reducible refine (awake20_walk _).mono ?_))
        (first | rintro e v3 ⟨rfl, hv⟩ | rintro e v3 rfl hv)
        replace hB := hB.trans (hv.mono hB.size)
        go_wp2
        go_ret
        exact ⟨rfl, hB⟩
end Go.Proofs.Ytgjjpijcakafhaa
