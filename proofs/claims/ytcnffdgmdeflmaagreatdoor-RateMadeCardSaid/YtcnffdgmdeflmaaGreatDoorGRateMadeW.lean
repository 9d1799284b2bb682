/- The walk of the law RateMade. -/
import Derived.Test.YtcnffdgmdeflmaaGreatDoorGRateRI
namespace Go.Proofs.YtcnffdgmdeflmaaGreatDoor
open Go.RowKit
/-- what a play of rings keeps: the dice, the keys, the random numbers -/
structure Rk (W w : World) (db : Nat) (p : Option Addr) (l : List Int) (cap q : Nat) (ka : Option Addr) (kc : Nat) (keys : List Int) (ra : Option Addr) (rc : Nat) (rnd : List Int) : Prop where
  env : Env W w db p l cap q
  k : Ow w (db + 1) 1 ka keys.length kc (ints keys)
  r : Ow w (db + 1) 1 ra rnd.length rc (ints rnd)
theorem Rk.keep {W w w' : World} {db : Nat} {p : Option Addr} {l : List Int} {cap q : Nat} {ka : Option Addr} {kc : Nat} {keys : List Int} {ra : Option Addr} {rc : Nat} {rnd : List Int} (h : Rk W w db p l cap q ka kc keys ra rc rnd) (hb : Below w.heap.size w w') : Rk W w' db p l cap q ka kc keys ra rc rnd :=
  ⟨h.env.keep hb, h.k.keep hb, h.r.keep hb⟩
theorem Ow.skip {w w' : World} {db size : Nat} {a : Option Addr} {n cap : Nat} {xs : List Value} (h : Ow w (db + 1) size a n cap xs) (hg : w.grownBy w' (some db)) : Ow w' (db + 1) size a n cap xs :=
  h.kept hg (by cases hr : rowOf a with | none => exact .inl rfl | some x => exact .inr (fun e => by have := (h.row x hr).1; have := Option.some.inj e; omega))
theorem Rk.next {W w w' : World} {db : Nat} {p : Option Addr} {l : List Int} {cap q q' : Nat} {ka : Option Addr} {kc : Nat} {keys : List Int} {ra : Option Addr} {rc : Nat} {rnd : List Int} (h : Rk W w db p l cap q ka kc keys ra rc rnd) (hne : 0 < l.length → ∀ g off, p = some ⟨g, off, none⟩ → g ≠ db) (hdb : W.heap.size ≤ db) (hD : Dice w' db p l cap q') (hg : w.grownBy w' (some db)) : Rk W w' db p l cap q' ka kc keys ra rc rnd :=
  ⟨h.env.grown hne hdb hD hg, h.k.skip hg, h.r.skip hg⟩
/-- what the last comparison is asked about -/
structure Fin (W w : World) (go : Nat) (kx : Option Addr) (Kx : List Int) (rx : Option Addr) (rcx : Nat) (Rx : List Int) (a1 : Option Addr) (e1 : Nat) (Cx : List Int) (a2 : Option Addr) (e2 : Nat) (Zx : List Int) (tx : List UInt8) : Prop where
  t : tx.length ≤ 1000
  kl : Kx.length ≤ 1000
  rl : Rx.length ≤ 1000
  rc : Rx.length ≤ rcx
  cl : Cx.length ≤ 1000
  zl : Zx.length ≤ 1000
  k : Rd w kx (ints Kx)
  r : Rd w rx (ints Rx)
  c : Rd w a1 (ints Cx)
  z : Rd w a2 (ints Zx)
  o : Bx w go 30 [.slice a1 Cx.length e1, .slice a2 Zx.length e2]
  b : Below W.heap.size W w
section
variable {W w : World} {db : Nat} {p : Option Addr} {l : List Int} {cap q : Nat} {ka : Option Addr} {kc : Nat} {keys : List Int} {ra : Option Addr} {rc : Nat} {rnd : List Int} {B go : Nat} {a1 a2 : Option Addr} {C : List Int} {e1 g off : Nat} {Z : List Int} {e2 : Nat} {text : List UInt8}
theorem fin_of (hS : Rk W w db p l cap q ka kc keys ra rc rnd) (hO : Odd w B go a1 C e1 a2 Z e2) (ht : text.length ≤ 1000) (hk : keys.length ≤ 1000) (hr : rnd.length ≤ 1000) (hc : C.length ≤ 1000) (hz : Z.length ≤ 1000) : Fin W w go ka keys ra rc rnd a1 e1 C a2 e2 Z text :=
  ⟨ht, hk, hr, hS.r.2.1, hc, hz, hS.k.rd, hS.r.rd, hO.c.rd, hO.z.rd, hO.o, hS.env.below⟩
theorem fin_setC (hS : Rk W w db p l cap q ka kc keys ra rc rnd) (hO : Odd w B go (some ⟨g, off, none⟩) C e1 a2 Z e2) (hW : W.heap.size ≤ B) (hK : ∀ g, rowOf ka = some g → g < B) (hR : ∀ g, rowOf ra = some g → g < B) (ht : text.length ≤ 1000) (hk : keys.length ≤ 1000) (hr : rnd.length ≤ 1000) (hc : C.length ≤ 1000) (hz : Z.length ≤ 1000) (k : Nat) (y : Int) :
    Fin W (w.setCell ⟨g, off + k, none⟩ (.int .i64 y)) go ka keys ra rc rnd (some ⟨g, off, none⟩) e1 (C.set k y) a2 e2 Z text := by
  obtain ⟨h1, hB⟩ := hO.setC k y
  exact ⟨ht, hk, hr, hS.r.2.1, by rw [List.length_set]; exact hc, hz, (hS.k.other (fun x h e => by have := hK x h; omega) _ _).rd, (hS.r.other (fun x h e => by have := hR x h; omega) _ _).rd, h1.c.rd, h1.z.rd, h1.o, hS.env.below.setCell (p := ⟨g, off + k, none⟩) (by show W.heap.size ≤ g; omega) _⟩
theorem fin_setZ (hS : Rk W w db p l cap q ka kc keys ra rc rnd) (hO : Odd w B go a1 C e1 (some ⟨g, off, none⟩) Z e2) (hW : W.heap.size ≤ B) (hK : ∀ g, rowOf ka = some g → g < B) (hR : ∀ g, rowOf ra = some g → g < B) (ht : text.length ≤ 1000) (hk : keys.length ≤ 1000) (hr : rnd.length ≤ 1000) (hc : C.length ≤ 1000) (hz : Z.length ≤ 1000) (k : Nat) (y : Int) :
    Fin W (w.setCell ⟨g, off + k, none⟩ (.int .i64 y)) go ka keys ra rc rnd a1 e1 C (some ⟨g, off, none⟩) e2 (Z.set k y) text := by
  obtain ⟨h1, hB⟩ := hO.setZ k y
  exact ⟨ht, hk, hr, hS.r.2.1, hc, by rw [List.length_set]; exact hz, (hS.k.other (fun x h e => by have := hK x h; omega) _ _).rd, (hS.r.other (fun x h e => by have := hR x h; omega) _ _).rd, h1.c.rd, h1.z.rd, h1.o, hS.env.below.setCell (p := ⟨g, off + k, none⟩) (by show W.heap.size ≤ g; omega) _⟩
theorem Ow.cellAt {base cp : Nat} {X : List Int} (h : Ow w base 1 (some ⟨g, off, none⟩) X.length cp (ints X)) {k : Nat} (hk : k < X.length) : w.cell? ⟨g, off + k, none⟩ = some (.int .i64 (X.getD k 0)) ∧ w.frozen? ⟨g, off + k, none⟩ = false := by
  obtain ⟨-, hnc, -, ⟨h, -⟩ | ⟨g', o', e, -, -, hx, hf⟩⟩ := h
  · cases h
  · cases e; exact ⟨hx k _ (ints_get hk), (hf k (by omega)).2⟩
end
theorem of4 (d : Nat) (p : Option Addr) (l : List Int) (cap k g : Nat) (x0 x1 x2 x3 : Int) (w : World) (hD : Dice w d p l cap k) (hR : Rd w p (ints l)) (hne : 0 < l.length → ∀ g off, p = some ⟨g, off, none⟩ → g ≠ d) (hlen : l.length ≤ 281474976710656) (hX : Rd w (some ⟨g, 0, none⟩) (ints [x0, x1, x2, x3])) (hgd : g ≠ d) :
    Calls Tryz.prog 19 #[.pointer (some ⟨d, 0, none⟩), .slice (some ⟨g, 0, none⟩) 4 4] w fun e w' => e = .returned (.int .i64 (ofF l k [x0, x1, x2, x3])) ∧ (Dice w' d p l cap (dnxt l k) ∧ w.grownBy w' (some d)) :=
  of_walk d p l cap k g [x0, x1, x2, x3] 4 w hD hR hne hlen hX hgd (by simp) (by simp)
theorem of5 (d : Nat) (p : Option Addr) (l : List Int) (cap k g : Nat) (x0 x1 x2 x3 x4 : Int) (w : World) (hD : Dice w d p l cap k) (hR : Rd w p (ints l)) (hne : 0 < l.length → ∀ g off, p = some ⟨g, off, none⟩ → g ≠ d) (hlen : l.length ≤ 281474976710656) (hX : Rd w (some ⟨g, 0, none⟩) (ints [x0, x1, x2, x3, x4])) (hgd : g ≠ d) :
    Calls Tryz.prog 19 #[.pointer (some ⟨d, 0, none⟩), .slice (some ⟨g, 0, none⟩) 5 5] w fun e w' => e = .returned (.int .i64 (ofF l k [x0, x1, x2, x3, x4])) ∧ (Dice w' d p l cap (dnxt l k) ∧ w.grownBy w' (some d)) :=
  of_walk d p l cap k g [x0, x1, x2, x3, x4] 5 w hD hR hne hlen hX hgd (by simp) (by simp)
set_option maxRecDepth 100000 in
set_option maxHeartbeats 8000000 in
theorem rmade_walk (W : World) (hB : Bases W) (p : Option Addr) (l : List Int) (cap : Nat) (hR : Rd W p (ints l)) (hl : l.length ≤ 17592186043904) (text : List UInt8) (ht : text.length ≤ 281474976710656) (nn : Int) :
    Calls Tryz.prog 4 #[.slice p l.length cap, .string ⟨text.toArray⟩, .int .i64 nn] W fun e w' => e = .returned (.bool true) ∧ Below W.heap.size W w' := by
  go_enter Tryz.func4, Tryz.ntmps4
  go_wp2_with (go_at_call 5; (with_reducible refine (light_walk _ _ _ _ (by omega)).mono ?_))
  rintro e w1 ⟨rfl, rfl⟩
  rcases Nat.lt_or_ge 500 l.length with h5 | h5
  · have hd5 : decide (l.length ≤ 500) = false := by simp; omega
    go_wp2_with (go_at_call 6; (with_reducible refine (awake25_walk _ hB).mono ?_))
    rintro e w1 ⟨rfl, hb1⟩
    go_wp2
    go_ret
    exact ⟨rfl, hb1⟩
  have hd5 : decide (l.length ≤ 500) = true := by simp; omega
  rcases Nat.lt_or_ge 100 text.length with h6 | h6
  · have hd6 : decide ((text.length : Int) > 100) = true := decide_eq_true (by omega)
    have hd7 : (100 : Int) < (text.length : Int) := by omega
    go_wp2_with (go_at_call 6; (with_reducible refine (awake25_walk _ hB).mono ?_))
    rintro e w1 ⟨rfl, hb1⟩
    go_wp2
    go_ret
    exact ⟨rfl, hb1⟩
  have hd6 : decide ((text.length : Int) > 100) = false := decide_eq_false (by omega)
  have hd7 : ¬ (100 : Int) < (text.length : Int) := by omega
  go_wp2_with (go_at_call 7; (with_reducible refine (roll_walk _ _ _ _).mono ?_))
  rintro e w1 ⟨rfl, hD, hb1⟩
  have hE : Env W w1 W.heap.size p l cap 0 := ⟨hD, hR.keep hb1, hb1⟩
  have HNE := Lib.hid (rd_ne hR (Nat.le_refl _))
  clear hD hb1
  go_wp2_with (go_at_call 14; (with_reducible refine (psafe_walk _ p l cap 0 W _ hE hR (Nat.le_refl _) (by omega)).mono ?_))
  rintro e w2 ⟨rfl, hE2⟩
  have hmem := ofF_mem l 0 safesL (by decide)
  obtain ⟨P, hP, hgrp, hsafe, h11, hbig⟩ := safes_good _ hmem
  have hrs := rsafe_prime _ hmem
  rw [hP] at hrs ⊢
  generalize dnxt l 0 = q1 at *
  clear hP hE hmem
  obtain ⟨db, hdb⟩ : ∃ db, db = W.heap.size := ⟨_, rfl⟩
  rw [← hdb] at hE2 HNE ⊢
  have HDB := Lib.hid (Nat.le_of_eq hdb.symm)
  have HRW := Lib.hid hR
  have HBW := Lib.hid hB
  clear hdb hR hB
  have KRO : Hid (Calls Tryz.prog 15 #[.pointer (some ⟨db, 0, none⟩), .int .i64 (P : Int), .int .i64 4] w2 (RollRes W w2 db p l cap P 4)) := Lib.hid (proll_walk W db p l cap q1 P 4 w2 hE2 HRW.out HDB.out (by omega) (by omega) (by omega) (by omega))
  go_wp2_with (go_at_call 15; (with_reducible refine KRO.out.mono ?_))
  (first | rintro e w3 ⟨n, pa, pc, L, q2, rfl, hn4, hL, hRp, hE3⟩ | rintro e w3 n pa pc L q2 rfl hn4 hL hRp hE3)
  go_upto_region 6 with (fail)
  have hbx := (Below.refl w3.heap.size w3).alloc (Nat.le_refl _) (.cells #[.int .i64 (P : Int), .slice pa n pc] 39)
  have hG := Bx.new w3 39 [.int .i64 (P : Int), .slice pa n pc]
  change Bx (w3.alloc (.cells #[.int .i64 (P : Int), .slice pa n pc] 39)) _ _ _ at hG
  have hE4 := hE3.keep hbx
  replace hRp := hRp.keep hbx
  generalize w3.alloc (.cells #[.int .i64 (P : Int), .slice pa n pc] 39) = w4 at *
  generalize w3.heap.size = gq at *
  have g0 := hG.cell 0 (v := .int .i64 (P : Int)) rfl
  have g1 := hG.cell 1 (v := .slice pa n pc) rfl
  have KK := Lib.hid (rkeys_walk (P : Int) pa n pc L w4 hRp hL.1 (by omega))
  have HLK := Lib.hid hL.2
  clear hE2 hE3 hbx hRp hG hL KRO
  go_wp2_with (go_at_call 16; (with_reducible refine KK.out.mono ?_))
  (first | rintro e w5 ⟨ka, kc, rfl, hKo, hb5⟩ | rintro e w5 ka kc rfl hKo hb5)
  rw [HLK.out] at hKo
  have hdb4 := hE4.dice.lt
  replace hKo := hKo.lower (show db + 1 ≤ w4.heap.size by omega)
  have hE5 := hE4.keep hb5
  clear hE4 hb5 KK HLK g0 g1 hdb4
  go_wp2_with (go_at_call 9; (with_reducible refine (next_walk _ p l cap q2 ((n : Int) + 1) _ hE5.dice hE5.rd HNE.out (by omega) (by omega) (by omega)).mono ?_))
  (first | rintro e w6 rfl hD hg | rintro e w6 ⟨rfl, hD, hg⟩)
  have hE6 := hE5.grown HNE.out HDB.out hD hg
  have hK6 := hKo.skip hg
  have b1 := dnum_lo l q2 (n := (n : Int) + 1) (by omega)
  have b2 := dnum_hi l q2 (n := (n : Int) + 1) (by omega)
  obtain ⟨me, hme⟩ : ∃ me : Nat, dnum l q2 ((n : Int) + 1) = (me : Int) := ⟨(dnum l q2 ((n : Int) + 1)).toNat, by omega⟩
  rw [hme] at b1 b2 ⊢
  generalize dnxt l q2 = q3 at *
  clear hD hg hE5 hKo hme
  go_wp2_with (go_at_call 9; (with_reducible refine (next_walk _ p l cap q3 100 _ hE6.dice hE6.rd HNE.out (by omega) (by omega) (by omega)).mono ?_))
  (first | rintro e w7 rfl hD hg | rintro e w7 ⟨rfl, hD, hg⟩)
  have hE7 := hE6.grown HNE.out HDB.out hD hg
  have hK7 := hK6.skip hg
  generalize dnum l q3 100 = seed at *
  generalize dnxt l q3 = q4 at *
  clear hD hg hE6 hK6
  obtain ⟨N, hN⟩ : ∃ N : Nat, N = 2 * n - 1 := ⟨_, rfl⟩
  have hmx : max (0 : Int) (2 * (n : Int) - 1) = (N : Int) := by omega
  have kF : ∀ V, Calls Tryz.prog 11 #[.int .i64 (P : Int), .int .i64 seed, .int .i64 (N : Int)] V fun e w' => ∃ a c, e = .returned (.slice a N c) ∧ Ow w' V.heap.size 1 a N c (ints (fillL P seed N)) ∧ Below V.heap.size V w' := fun V => fill_walk (P : Int) seed N V (by omega) (by omega) (by omega)
  have hfl := fillL_length (P : Int) seed N
  generalize fillL (P : Int) seed N = rnd at *
  have KF := Lib.hid kF
  have HFL := Lib.hid hfl
  have hN8 : N ≤ 8 := by omega
  clear kF hfl hN
  go_wp2_with (go_at_call 11; (with_reducible refine (KF.out _).mono ?_))
  (first | rintro e w8 ⟨ra, rc, rfl, hOr, hb8⟩ | rintro e w8 ra rc rfl hOr hb8)
  have hdb7 := hE7.dice.lt
  have HAP : Hid (Apart2 ka ra) := fun g h1 h2 => by have := (hK7.row g h1).2; have := (hOr.row g h2).1; omega
  replace hOr := hOr.lower (show db + 1 ≤ w7.heap.size by omega)
  have hkl := keyL_length P n
  generalize keyL P n = keys at *
  subst hkl
  have hfl := HFL.out
  subst hfl
  have hS : Rk W w8 db p l cap q4 ka kc keys ra rc rnd := ⟨hE7.keep hb8, hK7.keep hb8, hOr⟩
  clear hE7 hK7 hOr hb8 hdb7 KF hmx HFL
  have KP := Lib.hid (fun V h2 h3 => rrprove_walk P ka keys kc (me : Int) ((me : Int) + 2) text ra rnd rc V hrs h2 (by omega) h3 (by omega) (by omega))
  have hpl : (proveF P keys (me : Int) ((me : Int) + 2) text rnd).1.1.length ≤ 4 ∧ (proveF P keys (me : Int) ((me : Int) + 2) text rnd).1.1.length = (proveF P keys (me : Int) ((me : Int) + 2) text rnd).1.2.length := by
    unfold proveF
    split
    · exact ⟨by simp, rfl⟩
    · split
      · exact ⟨by simp, rfl⟩
      · exact ⟨by simp [cL_length]; omega, by simp [cL_length, zL_length]⟩
  generalize proveF P keys (me : Int) ((me : Int) + 2) text rnd = X at *
  obtain ⟨⟨C, Z⟩, X3⟩ := X
  dsimp only at KP hpl
  obtain ⟨hC4, hCZ⟩ := hpl
  have hZ4 : Z.length ≤ 4 := by omega
  have HCZ := Lib.hid hCZ
  clear hCZ
  go_wp2_with (go_at_call 17; (with_reducible refine (KP.out _ hS.k.rd hS.r.rd).mono ?_))
  (first | rintro e w9 ⟨ca, cd, za, zd, rfl, r1, r2, f1, f2, hb9⟩ | rintro e w9 ca cd za zd rfl r1 r2 f1 f2 hb9)
  have hdb8 : db < w8.heap.size := hS.env.dice.lt
  have HF1 : Hid (∀ g off, ca = some ⟨g, off, none⟩ → some g ≠ some db) := fun g off h e => by have := f1 g off h; have := Option.some.inj e; omega
  have HF2 : Hid (∀ g off, za = some ⟨g, off, none⟩ → some g ≠ some db) := fun g off h e => by have := f2 g off h; have := Option.some.inj e; omega
  replace hS := hS.keep hb9
  clear hb9 f1 f2 hdb8 KP
  go_upto_region 10 with (fail)
  have hbx := (Below.refl w9.heap.size w9).alloc (Nat.le_refl _) (.cells #[.slice ca C.length cd, .slice za Z.length zd] 30)
  have hG : Bx (w9.alloc (.cells #[.slice ca C.length cd, .slice za Z.length zd] 30)) w9.heap.size 30 [.slice ca C.length cd, .slice za Z.length zd] := Bx.new w9 _ _
  have hgr : w9.heap.size ≠ db := by have := hS.env.dice.lt; omega
  replace r1 := r1.keep hbx
  replace r2 := r2.keep hbx
  replace hS := hS.keep hbx
  clear hbx
  generalize w9.alloc (.cells #[.slice ca C.length cd, .slice za Z.length zd] 30) = w10 at *
  generalize w9.heap.size = gr at *
  have KAG := Lib.hid (fun V (me s : Int) hB h1 h2 h3 h4 => agree_walk P ka keys kc me s text ra rnd rc ca C cd za Z zd V hB hsafe hrs h1 (by omega) h2 (by omega) hS.r.2.1 h3 (by omega) h4 (by omega) (by omega))
  go_cut [82] (fun v wx => ∃ q : Nat, v = .bool false ∧ Rk W wx db p l cap q ka kc keys ra rc rnd ∧ Rd wx ca (ints C) ∧ Rd wx za (ints Z) ∧ Bx wx gr 30 [.slice ca C.length cd, .slice za Z.length zd])
  case first =>
    have g0 := hG.cell 0 (v := .slice ca C.length cd) rfl
    have g1 := hG.cell 1 (v := .slice za Z.length zd) rfl
    replace hS := hS.keep (Below.refl w10.heap.size w10).drew
    replace r1 := r1.keep (Below.refl w10.heap.size w10).drew
    replace r2 := r2.keep (Below.refl w10.heap.size w10).drew
    replace hG := hG.drew
    go_region_held3 (fun w' => w'.cell? ⟨gr, 0, none⟩ = some (.slice ca C.length cd) ∧ w'.cell? ⟨gr, 1, none⟩ = some (.slice za Z.length zd)) (exact ⟨hG.cell 0 rfl, hG.cell 1 rfl⟩) (first
      | (go_at_call 18; (with_reducible refine (KAG.out _ _ _ (HBW.out.keep hS.env.below) hS.k.rd hS.r.rd r1 r2).mono ?_); (first | rintro e wa rfl hba | rintro e wa ⟨rfl, hba⟩); replace r1 := r1.keep hba; replace r2 := r2.keep hba; replace hG := hG.keep hba; replace hS := hS.keep hba; clear g0 g1 hba; have g0 := hG.cell 0 (v := .slice ca C.length cd) rfl; have g1 := hG.cell 1 (v := .slice za Z.length zd) rfl)
      | (go_at_call 9; (with_reducible refine (next_walk _ p l cap _ _ _ hS.env.dice hS.env.rd HNE.out (by omega) (by decide) (by decide)).mono ?_); (first | rintro e wn rfl hD hg | rintro e wn ⟨rfl, hD, hg⟩); replace r1 := r1.grown hg HF1.out; replace r2 := r2.grown hg HF2.out; replace hG := hG.grown hg (fun e => hgr (Option.some.inj e)); replace hS := hS.next HNE.out HDB.out hD hg; clear g0 g1 hD hg; have g0 := hG.cell 0 (v := .slice ca C.length cd) rfl; have g1 := hG.cell 1 (v := .slice za Z.length zd) rfl))
    all_goals
      go_wp2_with fail
      go_meet
      case rel => exact ⟨_, rfl, hS, r1, r2, hG⟩
  case rest =>
    obtain ⟨q5, rfl, hS5, r15, r25, hG5⟩ := hcut
    clear hS r1 r2 hG
    go_upto_region 12 with (fail)
    obtain ⟨wp, hwp⟩ : ∃ wp, wp = wc := ⟨_, rfl⟩
    subst hwp
    have hX1 : C.length ≤ 1000 := by omega
    have hX2 : Z.length ≤ 1000 := by omega
    go_cut [15] (fun v wx => ∃ (go : Nat) (a1 : Option Addr) (e1 : Nat) (a2 : Option Addr) (e2 : Nat), v = .pointer (some ⟨go, 0, none⟩) ∧ Below wp.heap.size wp wx ∧ Odd wx wp.heap.size go a1 C e1 a2 Z e2)
    case first =>
      refine wp_region_held_last' (S := fun w' => w'.cell? ⟨gr, 0, none⟩ = some (.slice ca C.length cd) ∧ w'.cell? ⟨gr, 1, none⟩ = some (.slice za Z.length zd)) 8 rfl (by kernel_rfl) (by kernel_rfl) (by kernel_rfl) ⟨(hG5.keep (Below.refl _ _).drew).cell 0 rfl, (hG5.keep (Below.refl _ _).drew).cell 1 rfl⟩ (fun hHeld => ?_)
      dsimp only [List.dropLast, List.replicate] at hHeld ⊢
      have hb9 : Below wp.heap.size wp wp.drew := (Below.refl _ _).drew
      generalize wp.drew = wL at *
      refine held_take (0) (v := ?_) rfl (by kernel_rfl) (by kernel_rfl) (by kernel_rfl) (fun _ _ _ h => h) (Or.inl ⟨by rfl, ?_⟩) (by assumption) ?_
      rotate_left
      · intro w hSw
        try dsimp only at hSw
        go_simp
        with_reducible rfl
      try simp only [Act.put, List.setIfInBounds_toArray, List.set_cons_zero, List.set_cons_succ]
      refine held_take (1) (v := ?_) rfl (by kernel_rfl) (by kernel_rfl) (by kernel_rfl) (fun _ _ _ h => h) (Or.inl ⟨by rfl, ?_⟩) (by assumption) ?_
      rotate_left
      · intro w hSw
        try dsimp only at hSw
        go_simp
        with_reducible rfl
      try simp only [Act.put, List.setIfInBounds_toArray, List.set_cons_zero, List.set_cons_succ]
      refine held_take (3) (v := ?_) rfl (by kernel_rfl) (by kernel_rfl) (by kernel_rfl) (fun _ _ _ h => h) (Or.inl ⟨by rfl, ?_⟩) (by assumption) ?_
      rotate_left
      · intro w hSw
        try dsimp only at hSw
        go_simp
        with_reducible rfl
      try simp only [Act.put, List.setIfInBounds_toArray, List.set_cons_zero, List.set_cons_succ]
      refine held_take (4) (v := ?_) rfl (by kernel_rfl) (by kernel_rfl) (by kernel_rfl) (fun _ _ _ h => h) (Or.inl ⟨by rfl, ?_⟩) (by assumption) ?_
      rotate_left
      · intro w hSw
        try dsimp only at hSw
        go_simp
        with_reducible rfl
      try simp only [Act.put, List.setIfInBounds_toArray, List.set_cons_zero, List.set_cons_succ]
      refine wpAnyH_ready (rs := [2, 7]) (by kernel_rfl) (by simp) ?_
      refine held_cons rfl (fun K hK => ?_) ?_
      · skip
        have hB9 := hb9.size
        refine step_copyn rfl _ _ _ _ rfl elI4 rfl rfl (Src.slice Tryz.underlying22 (by rw [ints_length, Nat.mul_one]) (r15.keep hb9) (ints_one C)) (by omega) (B := wp.heap.size) hB9 ?_
        intro a1 e1 wL1 hC hbN hrN
        replace hb9 := hb9.trans (hbN.mono hb9.size)
        clear hbN hrN hB9
        refine hK.out _ _ ⟨(hG5.keep hb9).cell 0 rfl, (hG5.keep hb9).cell 1 rfl⟩ (fun hHeld => ?_)
        clear hK K
        try simp only [Act.put, List.setIfInBounds_toArray, List.set_cons_zero, List.set_cons_succ]
        refine wpAnyH_ready (rs := [5, 7]) (by kernel_rfl) (by simp) ?_
        refine held_cons rfl (fun K hK => ?_) ?_
        · skip
          have hB9 := hb9.size
          have xC := hC.row
          refine step_copyn rfl _ _ _ _ rfl elI4 rfl rfl (Src.slice Tryz.underlying22 (by rw [ints_length, Nat.mul_one]) (r25.keep hb9) (ints_one Z)) (by omega) (B := wp.heap.size) hB9 ?_
          intro a2 e2 wL2 hZ hbN hrN
          have hap : Apart2 a1 a2 := (apart_new xC hrN).symm
          replace hC := hC.keep hbN
          replace hb9 := hb9.trans (hbN.mono hb9.size)
          clear hbN hrN hB9 xC
          refine hK.out _ _ ⟨(hG5.keep hb9).cell 0 rfl, (hG5.keep hb9).cell 1 rfl⟩ (fun hHeld => ?_)
          clear hK K
          try simp only [Act.put, List.setIfInBounds_toArray, List.set_cons_zero, List.set_cons_succ]
          refine held_take (6) (v := ?_) rfl (by kernel_rfl) (by kernel_rfl) (by kernel_rfl) (fun _ _ _ h => h) (Or.inl ⟨by rfl, ?_⟩) (by assumption) ?_
          rotate_left
          · intro w hSw
            try dsimp only at hSw
            go_simp
            with_reducible rfl
          try simp only [Act.put, List.setIfInBounds_toArray, List.set_cons_zero, List.set_cons_succ]
          refine wpAnyH_ready (rs := [7]) (by kernel_rfl) (by simp) ?_
          refine held_cons rfl (fun K hK => ?_) AllReadyH.nil
          have hB9 := hb9.size
          have xC := hC.row
          have xZ := hZ.row
          have hlo : wp.heap.size ≤ wL2.heap.size := hb9.size
          clear hB9
          go_simp
          have hbN : Below wL2.heap.size wL2 (wL2.alloc (.cells #[.slice none 0 0, .slice none 0 0] 30)) := (Below.refl _ _).alloc (Nat.le_refl _) (.cells #[.slice none 0 0, .slice none 0 0] 30)
          have hO : Bx (wL2.alloc (.cells #[.slice none 0 0, .slice none 0 0] 30)) wL2.heap.size 30 [.slice none 0 0, .slice none 0 0] := Bx.new wL2 30 [.slice none 0 0, .slice none 0 0]
          have n1 := row_old xC
          have n2 := row_old xZ
          replace hC := hC.keep hbN
          replace hZ := hZ.keep hbN
          replace hb9 := hb9.trans (hbN.mono hb9.size)
          clear hbN xC xZ
          generalize wL2.heap.size = go at *
          generalize wL2.alloc (.cells #[.slice none 0 0, .slice none 0 0] 30) = wL3 at *
          refine hK.out _ _ ⟨(hG5.keep hb9).cell 0 rfl, (hG5.keep hb9).cell 1 rfl⟩ (fun hHeld => ?_)
          clear hK K
          try simp only [Act.put, List.setIfInBounds_toArray, List.set_cons_zero, List.set_cons_succ]
          refine wpAnyH_done (by kernel_rfl) ?_ _
          dsimp only [Behind]
          have z0 := hO.free 0
          have z1 := hO.free 1
          have y0 := hO.cell 0 (v := .slice none 0 0) rfl
          have y1 := hO.cell 1 (v := .slice none 0 0) rfl
          go_simp
          go_wp2_with fail
          go_meet
          case rel =>
            exact ⟨go, a1, e1, a2, e2, rfl, (hb9.setCell (p := ⟨go, 0, none⟩) hlo _).setCell (p := ⟨go, 1, none⟩) hlo _, ⟨(hO.set 0 _).set 1 _, (hC.other n1 _ _).other n1 _ _, (hZ.other n2 _ _).other n2 _ _, hap, n1, n2, hlo⟩⟩
        · refine held_cons rfl (fun K hK => ?_) AllReadyH.nil
          have hB9 := hb9.size
          have xC := hC.row
          have hlo : wp.heap.size ≤ wL1.heap.size := hb9.size
          clear hB9
          go_simp
          have hbN : Below wL1.heap.size wL1 (wL1.alloc (.cells #[.slice none 0 0, .slice none 0 0] 30)) := (Below.refl _ _).alloc (Nat.le_refl _) (.cells #[.slice none 0 0, .slice none 0 0] 30)
          have hO : Bx (wL1.alloc (.cells #[.slice none 0 0, .slice none 0 0] 30)) wL1.heap.size 30 [.slice none 0 0, .slice none 0 0] := Bx.new wL1 30 [.slice none 0 0, .slice none 0 0]
          have n1 := row_old xC
          replace hC := hC.keep hbN
          replace hb9 := hb9.trans (hbN.mono hb9.size)
          clear hbN xC
          generalize wL1.heap.size = go at *
          generalize wL1.alloc (.cells #[.slice none 0 0, .slice none 0 0] 30) = wL2 at *
          refine hK.out _ _ ⟨(hG5.keep hb9).cell 0 rfl, (hG5.keep hb9).cell 1 rfl⟩ (fun hHeld => ?_)
          clear hK K
          try simp only [Act.put, List.setIfInBounds_toArray, List.set_cons_zero, List.set_cons_succ]
          refine wpAnyH_ready (rs := [5]) (by kernel_rfl) (by simp) ?_
          refine held_cons rfl (fun K hK => ?_) AllReadyH.nil
          have hB9 := hb9.size
          have xC := hC.row
          have xO := hO.lt
          refine step_copyn rfl _ _ _ _ rfl elI4 rfl rfl (Src.slice Tryz.underlying22 (by rw [ints_length, Nat.mul_one]) (r25.keep hb9) (ints_one Z)) (by omega) (B := wp.heap.size) hB9 ?_
          intro a2 e2 wL3 hZ hbN hrN
          have hap : Apart2 a1 a2 := (apart_new xC hrN).symm
          have n2 := row_new xO hrN
          replace hC := hC.keep hbN
          replace hO := hO.keep hbN
          replace hb9 := hb9.trans (hbN.mono hb9.size)
          clear hbN hrN hB9 xC xO
          refine hK.out _ _ ⟨(hG5.keep hb9).cell 0 rfl, (hG5.keep hb9).cell 1 rfl⟩ (fun hHeld => ?_)
          clear hK K
          try simp only [Act.put, List.setIfInBounds_toArray, List.set_cons_zero, List.set_cons_succ]
          refine held_take (6) (v := ?_) rfl (by kernel_rfl) (by kernel_rfl) (by kernel_rfl) (fun _ _ _ h => h) (Or.inl ⟨by rfl, ?_⟩) (by assumption) ?_
          rotate_left
          · intro w hSw
            try dsimp only at hSw
            go_simp
            with_reducible rfl
          try simp only [Act.put, List.setIfInBounds_toArray, List.set_cons_zero, List.set_cons_succ]
          refine wpAnyH_done (by kernel_rfl) ?_ _
          dsimp only [Behind]
          have z0 := hO.free 0
          have z1 := hO.free 1
          have y0 := hO.cell 0 (v := .slice none 0 0) rfl
          have y1 := hO.cell 1 (v := .slice none 0 0) rfl
          go_simp
          go_wp2_with fail
          go_meet
          case rel =>
            exact ⟨go, a1, e1, a2, e2, rfl, (hb9.setCell (p := ⟨go, 0, none⟩) hlo _).setCell (p := ⟨go, 1, none⟩) hlo _, ⟨(hO.set 0 _).set 1 _, (hC.other n1 _ _).other n1 _ _, (hZ.other n2 _ _).other n2 _ _, hap, n1, n2, hlo⟩⟩
      · refine held_cons rfl (fun K hK => ?_) AllReadyH.nil
        have hB9 := hb9.size
        have hlo : wp.heap.size ≤ wL.heap.size := hb9.size
        clear hB9
        go_simp
        have hbN : Below wL.heap.size wL (wL.alloc (.cells #[.slice none 0 0, .slice none 0 0] 30)) := (Below.refl _ _).alloc (Nat.le_refl _) (.cells #[.slice none 0 0, .slice none 0 0] 30)
        have hO : Bx (wL.alloc (.cells #[.slice none 0 0, .slice none 0 0] 30)) wL.heap.size 30 [.slice none 0 0, .slice none 0 0] := Bx.new wL 30 [.slice none 0 0, .slice none 0 0]
        replace hb9 := hb9.trans (hbN.mono hb9.size)
        clear hbN
        generalize wL.heap.size = go at *
        generalize wL.alloc (.cells #[.slice none 0 0, .slice none 0 0] 30) = wL1 at *
        refine hK.out _ _ ⟨(hG5.keep hb9).cell 0 rfl, (hG5.keep hb9).cell 1 rfl⟩ (fun hHeld => ?_)
        clear hK K
        try simp only [Act.put, List.setIfInBounds_toArray, List.set_cons_zero, List.set_cons_succ]
        refine wpAnyH_ready (rs := [2]) (by kernel_rfl) (by simp) ?_
        refine held_cons rfl (fun K hK => ?_) AllReadyH.nil
        have hB9 := hb9.size
        have xO := hO.lt
        refine step_copyn rfl _ _ _ _ rfl elI4 rfl rfl (Src.slice Tryz.underlying22 (by rw [ints_length, Nat.mul_one]) (r15.keep hb9) (ints_one C)) (by omega) (B := wp.heap.size) hB9 ?_
        intro a1 e1 wL2 hC hbN hrN
        have n1 := row_new xO hrN
        replace hO := hO.keep hbN
        replace hb9 := hb9.trans (hbN.mono hb9.size)
        clear hbN hrN hB9 xO
        refine hK.out _ _ ⟨(hG5.keep hb9).cell 0 rfl, (hG5.keep hb9).cell 1 rfl⟩ (fun hHeld => ?_)
        clear hK K
        try simp only [Act.put, List.setIfInBounds_toArray, List.set_cons_zero, List.set_cons_succ]
        refine wpAnyH_ready (rs := [5]) (by kernel_rfl) (by simp) ?_
        refine held_cons rfl (fun K hK => ?_) AllReadyH.nil
        have hB9 := hb9.size
        have xC := hC.row
        have xO := hO.lt
        refine step_copyn rfl _ _ _ _ rfl elI4 rfl rfl (Src.slice Tryz.underlying22 (by rw [ints_length, Nat.mul_one]) (r25.keep hb9) (ints_one Z)) (by omega) (B := wp.heap.size) hB9 ?_
        intro a2 e2 wL3 hZ hbN hrN
        have hap : Apart2 a1 a2 := (apart_new xC hrN).symm
        have n2 := row_new xO hrN
        replace hC := hC.keep hbN
        replace hO := hO.keep hbN
        replace hb9 := hb9.trans (hbN.mono hb9.size)
        clear hbN hrN hB9 xC xO
        refine hK.out _ _ ⟨(hG5.keep hb9).cell 0 rfl, (hG5.keep hb9).cell 1 rfl⟩ (fun hHeld => ?_)
        clear hK K
        try simp only [Act.put, List.setIfInBounds_toArray, List.set_cons_zero, List.set_cons_succ]
        refine held_take (6) (v := ?_) rfl (by kernel_rfl) (by kernel_rfl) (by kernel_rfl) (fun _ _ _ h => h) (Or.inl ⟨by rfl, ?_⟩) (by assumption) ?_
        rotate_left
        · intro w hSw
          try dsimp only at hSw
          go_simp
          with_reducible rfl
        try simp only [Act.put, List.setIfInBounds_toArray, List.set_cons_zero, List.set_cons_succ]
        refine wpAnyH_done (by kernel_rfl) ?_ _
        dsimp only [Behind]
        have z0 := hO.free 0
        have z1 := hO.free 1
        have y0 := hO.cell 0 (v := .slice none 0 0) rfl
        have y1 := hO.cell 1 (v := .slice none 0 0) rfl
        go_simp
        go_wp2_with fail
        go_meet
        case rel =>
          exact ⟨go, a1, e1, a2, e2, rfl, (hb9.setCell (p := ⟨go, 0, none⟩) hlo _).setCell (p := ⟨go, 1, none⟩) hlo _, ⟨(hO.set 0 _).set 1 _, (hC.other n1 _ _).other n1 _ _, (hZ.other n2 _ _).other n2 _ _, hap, n1, n2, hlo⟩⟩
    case rest =>
      obtain ⟨go, a1, e1, a2, e2, rfl, hb9, hOd⟩ := hcut
      have hS := hS5.keep hb9
      have hdB : db < wp.heap.size := hS5.env.dice.lt
      have HKB : Hid (∀ g, rowOf ka = some g → g < wp.heap.size) := fun g h => (hS5.k.row g h).2
      have HRB : Hid (∀ g, rowOf ra = some g → g < wp.heap.size) := fun g h => (hS5.r.row g h).2
      generalize wp.heap.size = B at *
      clear hS5 r15 r25 hG5 hb9 KAG
      have g0 := hOd.o.cell 0 (v := .slice a1 C.length e1) rfl
      have g1 := hOd.o.cell 1 (v := .slice a2 Z.length e2) rfl
      have HFIN := Lib.hid (show Fin W wc go ka keys ra rc rnd a1 e1 C a2 e2 Z text from ⟨by omega, by omega, by omega, hS.r.2.1, hX1, hX2, hS.k.rd, hS.r.rd, hOd.c.rd, hOd.z.rd, hOd.o, hS.env.below⟩)
      have HAG := Lib.hid (fun V kx (Kx : List Int) kcx (me s : Int) rx (Rx : List Int) rcx (tx : List UInt8) a1 e1 (Cx : List Int) a2 e2 (Zx : List Int) hB h1 h2 h3 h4 l1 l2 l3 l4 l5 l6 => agree_walk P kx Kx kcx me s tx rx Rx rcx a1 Cx e1 a2 Zx e2 V hB hsafe hrs h1 l1 h2 l2 l6 h3 l3 h4 l4 l5)
      clear hsafe hrs
      go_upto_if 93 with (fail)
      go_cut [1, 10, 12] (fun v1 v10 v12 wx => ∃ (tx : List UInt8) (kx : Option Addr) (kcx : Nat) (Kx : List Int) (rx : Option Addr) (rcx : Nat) (Rx : List Int) (b1 : Option Addr) (d1 : Nat) (Cx : List Int) (b2 : Option Addr) (d2 : Nat) (Zx : List Int), v1 = .string ⟨tx.toArray⟩ ∧ v10 = .slice kx Kx.length kcx ∧ v12 = .slice rx Rx.length rcx ∧ Fin W wx go kx Kx rx rcx Rx b1 d1 Cx b2 d2 Zx tx)
      case first =>
        clear HAG
        by_cases hC0 : C.length = 0
        · have hCn : ¬ (0 : Int) < (C.length : Int) := by omega
          go_wp2_with fail
          go_meet
          case rel => exact ⟨text, ka, kc, keys, ra, rc, rnd, a1, e1, C, a2, e2, Z, rfl, rfl, rfl, HFIN.out⟩
        · have hCp : (0 : Int) < (C.length : Int) := by omega
          clear HFIN
          go_wp2_with (go_at_call 9; (with_reducible refine (next_walk _ p l cap q5 6 _ hS.env.dice hS.env.rd HNE.out (by omega) (by omega) (by omega)).mono ?_))
          (first | rintro e w13 rfl hD hg | rintro e w13 ⟨rfl, hD, hg⟩)
          replace hS := hS.next HNE.out HDB.out hD hg
          replace hOd := hOd.grown hg hdB
          have b1 := dnum_lo l q5 (n := 6) (by omega)
          have b2 := dnum_hi l q5 (n := 6) (by omega)
          generalize dnum l q5 6 = x at *
          generalize dnxt l q5 = q6 at *
          clear hD hg g0 g1
          have hWB : W.heap.size ≤ B := by have := HDB.out; omega
          have hx6 : x = 0 ∨ x = 1 ∨ x = 2 ∨ x = 3 ∨ x = 4 ∨ x = 5 := by omega
          clear b1 b2
          rcases hx6 with rfl | rfl | rfl | rfl | rfl | rfl
          · obtain ⟨gs, os, x0, ha, -, -⟩ := hOd.c.rd.int (k := 0) (by omega)
            subst ha
            go_upto_region 17 with (fail)
            refine wp_region_held_last' (S := fun w' => w'.cell? ⟨go, 0, none⟩ = some (.slice (some ⟨gs, os, none⟩) C.length e1)) 13 rfl (by kernel_rfl) (by kernel_rfl) (by kernel_rfl) (hOd.drew.o.cell 0 rfl) (fun hHeld => ?_)
            dsimp only [List.dropLast, List.replicate] at hHeld ⊢
            replace hS := hS.keep (Below.refl _ _).drew
            replace hOd := hOd.drew
            generalize w13.drew = wS at *
            refine held_take (0) (v := ?_) rfl (by kernel_rfl) (by kernel_rfl) (by kernel_rfl) (fun _ _ _ h => h) (Or.inl ⟨by rfl, ?_⟩) (by assumption) ?_
            rotate_left
            · intro w hSw
              try dsimp only at hSw
              go_simp
              with_reducible rfl
            try simp only [Act.put, List.setIfInBounds_toArray, List.set_cons_zero, List.set_cons_succ]
            refine held_take (1) (v := ?_) rfl (by kernel_rfl) (by kernel_rfl) (by kernel_rfl) (fun _ _ _ h => h) (Or.inl ⟨by rfl, ?_⟩) (by assumption) ?_
            rotate_left
            · intro w hSw
              try dsimp only at hSw
              go_simp
              with_reducible rfl
            try simp only [Act.put, List.setIfInBounds_toArray, List.set_cons_zero, List.set_cons_succ]
            refine held_take (2) (v := ?_) rfl (by kernel_rfl) (by kernel_rfl) (by kernel_rfl) (fun _ _ _ h => h) (Or.inl ⟨by rfl, ?_⟩) (by assumption) ?_
            rotate_left
            · intro w hSw
              try dsimp only at hSw
              go_simp
              with_reducible rfl
            try simp only [Act.put, List.setIfInBounds_toArray, List.set_cons_zero, List.set_cons_succ]
            refine held_take (3) (v := ?_) rfl (by kernel_rfl) (by kernel_rfl) (by kernel_rfl) (fun _ _ _ h => h) (Or.inl ⟨by rfl, ?_⟩) (by assumption) ?_
            rotate_left
            · intro w hSw
              try dsimp only at hSw
              go_simp
              with_reducible rfl
            try simp only [Act.put, List.setIfInBounds_toArray, List.set_cons_zero, List.set_cons_succ]
            refine held_take (4) (v := ?_) rfl (by kernel_rfl) (by kernel_rfl) (by kernel_rfl) (fun _ _ _ h => h) (Or.inl ⟨by rfl, ?_⟩) (by assumption) ?_
            rotate_left
            · intro w hSw
              try dsimp only at hSw
              go_simp
              with_reducible rfl
            try simp only [Act.put, List.setIfInBounds_toArray, List.set_cons_zero, List.set_cons_succ]
            refine held_take (5) (v := ?_) rfl (by kernel_rfl) (by kernel_rfl) (by kernel_rfl) (fun _ _ _ h => h) (Or.inl ⟨by rfl, ?_⟩) (by assumption) ?_
            rotate_left
            · intro w hSw
              try dsimp only at hSw
              go_simp
              with_reducible rfl
            try simp only [Act.put, List.setIfInBounds_toArray, List.set_cons_zero, List.set_cons_succ]
            refine held_take (7) (v := ?_) rfl (by kernel_rfl) (by kernel_rfl) (by kernel_rfl) (fun _ _ _ h => h) (Or.inl ⟨by rfl, ?_⟩) (by assumption) ?_
            rotate_left
            · intro w hSw
              try dsimp only at hSw
              go_simp
              with_reducible rfl
            try simp only [Act.put, List.setIfInBounds_toArray, List.set_cons_zero, List.set_cons_succ]
            refine held_take (8) (v := ?_) rfl (by kernel_rfl) (by kernel_rfl) (by kernel_rfl) (fun _ _ _ h => h) (Or.inl ⟨by rfl, ?_⟩) (by assumption) ?_
            rotate_left
            · intro w hSw
              try dsimp only at hSw
              go_simp
              with_reducible rfl
            try simp only [Act.put, List.setIfInBounds_toArray, List.set_cons_zero, List.set_cons_succ]
            refine held_take (9) (v := ?_) rfl (by kernel_rfl) (by kernel_rfl) (by kernel_rfl) (fun _ _ _ h => h) (Or.inl ⟨by rfl, ?_⟩) (by assumption) ?_
            rotate_left
            · intro w hSw
              try dsimp only at hSw
              go_simp
              with_reducible rfl
            try simp only [Act.put, List.setIfInBounds_toArray, List.set_cons_zero, List.set_cons_succ]
            refine wpAnyH_ready (rs := [6, 10]) (by kernel_rfl) (by simp) ?_
            refine held_cons rfl (fun K hK => ?_) ?_
            · skip
              go_simp
              go_at_call 9
              (with_reducible refine (next_walk _ p l cap _ (C.length : Int) _ hS.env.dice hS.env.rd HNE.out (by omega) (by omega) (by omega)).mono ?_)
              first | rintro e wN rfl hD hg | rintro e wN ⟨rfl, hD, hg⟩
              go_wp2_with fail
              replace hS := hS.next HNE.out HDB.out hD hg
              replace hOd := hOd.grown hg hdB
              have b1 := dnum_lo l q6 (n := (C.length : Int)) (by omega)
              have b2 := dnum_hi l q6 (n := (C.length : Int)) (by omega)
              obtain ⟨k, hk⟩ : ∃ k : Nat, dnum l q6 (C.length : Int) = (k : Int) := ⟨(dnum l q6 (C.length : Int)).toNat, by omega⟩
              rw [hk] at b1 b2 ⊢
              have hkX : k < C.length := by omega
              generalize dnxt l q6 = q7 at *
              clear hD hg hk
              refine hK.out _ _ (hOd.o.cell 0 rfl) (fun hHeld => ?_)
              clear hK K
              try simp only [Act.put, List.setIfInBounds_toArray, List.set_cons_zero, List.set_cons_succ]
              refine wpAnyH_ready (rs := [10]) (by kernel_rfl) (by simp) ?_
              refine held_cons rfl (fun K hK => ?_) AllReadyH.nil
              go_simp
              have hbL := (Below.refl wN.heap.size wN).alloc (Nat.le_refl _) (.cells #[.int .i64 0, .int .i64 1, .int .i64 (P : Int), .int .i64 nn] 3)
              have hRl : Rd (wN.alloc (.cells #[.int .i64 0, .int .i64 1, .int .i64 (P : Int), .int .i64 nn] 3)) (some ⟨wN.heap.size, 0, none⟩) (ints [0, 1, (P : Int), nn]) := (Bx.new wN 3 [.int .i64 0, .int .i64 1, .int .i64 (P : Int), .int .i64 nn]).rdd
              have hgl : wN.heap.size ≠ db := by have := hS.env.dice.lt; omega
              replace hS := hS.keep hbL
              replace hOd := hOd.keep hbL
              clear hbL
              generalize wN.alloc (.cells #[.int .i64 0, .int .i64 1, .int .i64 (P : Int), .int .i64 nn] 3) = wL at *
              generalize wN.heap.size = gl at *
              refine hK.out _ _ (hOd.o.cell 0 rfl) (fun hHeld => ?_)
              clear hK K
              try simp only [Act.put, List.setIfInBounds_toArray, List.set_cons_zero, List.set_cons_succ]
              refine wpAnyH_ready (rs := [11]) (by kernel_rfl) (by simp) ?_
              refine held_cons rfl (fun K hK => ?_) AllReadyH.nil
              go_simp
              go_at_call 19
              (with_reducible refine (of4 db p l cap _ gl _ _ _ _ _ hS.env.dice hS.env.rd HNE.out (by omega) hRl hgl).mono ?_)
              first | rintro e wO rfl hD hg | rintro e wO ⟨rfl, hD, hg⟩
              go_wp2_with fail
              replace hS := hS.next HNE.out HDB.out hD hg
              replace hOd := hOd.grown hg hdB
              clear hD hg hRl
              generalize ofF l _ [0, 1, (P : Int), nn] = y at *
              refine hK.out _ _ (hOd.o.cell 0 rfl) (fun hHeld => ?_)
              clear hK K
              try simp only [Act.put, List.setIfInBounds_toArray, List.set_cons_zero, List.set_cons_succ]
              refine held_take (12) (v := ?_) rfl (by kernel_rfl) (by kernel_rfl) (by kernel_rfl) (fun _ _ _ h => h) (Or.inl ⟨by rfl, ?_⟩) (by assumption) ?_
              rotate_left
              · intro w hSw
                try dsimp only at hSw
                go_simp
                with_reducible rfl
              try simp only [Act.put, List.setIfInBounds_toArray, List.set_cons_zero, List.set_cons_succ]
              refine wpAnyH_done (by kernel_rfl) ?_ _
              dsimp only [Behind]
              obtain ⟨v1, v2⟩ := hOd.c.cellAt hkX
              have hF := Lib.hid (fin_setC (text := text) hS hOd hWB HKB.out HRB.out (by omega) (by omega) (by omega) hX1 hX2 k y)
              clear hS hOd
              go_simp
              go_wp2_with fail
              go_meet
              case rel => exact ⟨text, ka, kc, keys, ra, rc, rnd, some ⟨gs, os, none⟩, e1, C.set k y, a2, e2, Z, rfl, rfl, rfl, hF.out⟩
            · refine held_cons rfl (fun K hK => ?_) AllReadyH.nil
              go_simp
              have hbL := (Below.refl wS.heap.size wS).alloc (Nat.le_refl _) (.cells #[.int .i64 0, .int .i64 1, .int .i64 (P : Int), .int .i64 nn] 3)
              have hRl : Rd (wS.alloc (.cells #[.int .i64 0, .int .i64 1, .int .i64 (P : Int), .int .i64 nn] 3)) (some ⟨wS.heap.size, 0, none⟩) (ints [0, 1, (P : Int), nn]) := (Bx.new wS 3 [.int .i64 0, .int .i64 1, .int .i64 (P : Int), .int .i64 nn]).rdd
              have hgl : wS.heap.size ≠ db := by have := hS.env.dice.lt; omega
              replace hS := hS.keep hbL
              replace hOd := hOd.keep hbL
              clear hbL
              generalize wS.alloc (.cells #[.int .i64 0, .int .i64 1, .int .i64 (P : Int), .int .i64 nn] 3) = wL at *
              generalize wS.heap.size = gl at *
              refine hK.out _ _ (hOd.o.cell 0 rfl) (fun hHeld => ?_)
              clear hK K
              try simp only [Act.put, List.setIfInBounds_toArray, List.set_cons_zero, List.set_cons_succ]
              refine wpAnyH_ready (rs := [6]) (by kernel_rfl) (by simp) ?_
              refine held_cons rfl (fun K hK => ?_) AllReadyH.nil
              go_simp
              go_at_call 9
              (with_reducible refine (next_walk _ p l cap _ (C.length : Int) _ hS.env.dice hS.env.rd HNE.out (by omega) (by omega) (by omega)).mono ?_)
              first | rintro e wN rfl hD hg | rintro e wN ⟨rfl, hD, hg⟩
              go_wp2_with fail
              replace hS := hS.next HNE.out HDB.out hD hg
              replace hOd := hOd.grown hg hdB
              replace hRl := hRl.grown hg (fun g off h e => by cases h; exact hgl (Option.some.inj e))
              have b1 := dnum_lo l q6 (n := (C.length : Int)) (by omega)
              have b2 := dnum_hi l q6 (n := (C.length : Int)) (by omega)
              obtain ⟨k, hk⟩ : ∃ k : Nat, dnum l q6 (C.length : Int) = (k : Int) := ⟨(dnum l q6 (C.length : Int)).toNat, by omega⟩
              rw [hk] at b1 b2 ⊢
              have hkX : k < C.length := by omega
              generalize dnxt l q6 = q7 at *
              clear hD hg hk
              refine hK.out _ _ (hOd.o.cell 0 rfl) (fun hHeld => ?_)
              clear hK K
              try simp only [Act.put, List.setIfInBounds_toArray, List.set_cons_zero, List.set_cons_succ]
              refine wpAnyH_ready (rs := [11]) (by kernel_rfl) (by simp) ?_
              refine held_cons rfl (fun K hK => ?_) AllReadyH.nil
              go_simp
              go_at_call 19
              (with_reducible refine (of4 db p l cap _ gl _ _ _ _ _ hS.env.dice hS.env.rd HNE.out (by omega) hRl hgl).mono ?_)
              first | rintro e wO rfl hD hg | rintro e wO ⟨rfl, hD, hg⟩
              go_wp2_with fail
              replace hS := hS.next HNE.out HDB.out hD hg
              replace hOd := hOd.grown hg hdB
              clear hD hg hRl
              generalize ofF l _ [0, 1, (P : Int), nn] = y at *
              refine hK.out _ _ (hOd.o.cell 0 rfl) (fun hHeld => ?_)
              clear hK K
              try simp only [Act.put, List.setIfInBounds_toArray, List.set_cons_zero, List.set_cons_succ]
              refine held_take (12) (v := ?_) rfl (by kernel_rfl) (by kernel_rfl) (by kernel_rfl) (fun _ _ _ h => h) (Or.inl ⟨by rfl, ?_⟩) (by assumption) ?_
              rotate_left
              · intro w hSw
                try dsimp only at hSw
                go_simp
                with_reducible rfl
              try simp only [Act.put, List.setIfInBounds_toArray, List.set_cons_zero, List.set_cons_succ]
              refine wpAnyH_done (by kernel_rfl) ?_ _
              dsimp only [Behind]
              obtain ⟨v1, v2⟩ := hOd.c.cellAt hkX
              have hF := Lib.hid (fin_setC (text := text) hS hOd hWB HKB.out HRB.out (by omega) (by omega) (by omega) hX1 hX2 k y)
              clear hS hOd
              go_simp
              go_wp2_with fail
              go_meet
              case rel => exact ⟨text, ka, kc, keys, ra, rc, rnd, some ⟨gs, os, none⟩, e1, C.set k y, a2, e2, Z, rfl, rfl, rfl, hF.out⟩
          · have hZp : 0 < Z.length := by have := HCZ.out; omega
            obtain ⟨gs, os, x0, ha, -, -⟩ := hOd.z.rd.int (k := 0) hZp
            subst ha
            go_upto_region 19 with (fail)
            refine wp_region_held_last' (S := fun w' => w'.cell? ⟨go, 1, none⟩ = some (.slice (some ⟨gs, os, none⟩) Z.length e2)) 13 rfl (by kernel_rfl) (by kernel_rfl) (by kernel_rfl) (hOd.drew.o.cell 1 rfl) (fun hHeld => ?_)
            dsimp only [List.dropLast, List.replicate] at hHeld ⊢
            replace hS := hS.keep (Below.refl _ _).drew
            replace hOd := hOd.drew
            generalize w13.drew = wS at *
            refine held_take (0) (v := ?_) rfl (by kernel_rfl) (by kernel_rfl) (by kernel_rfl) (fun _ _ _ h => h) (Or.inl ⟨by rfl, ?_⟩) (by assumption) ?_
            rotate_left
            · intro w hSw
              try dsimp only at hSw
              go_simp
              with_reducible rfl
            try simp only [Act.put, List.setIfInBounds_toArray, List.set_cons_zero, List.set_cons_succ]
            refine held_take (1) (v := ?_) rfl (by kernel_rfl) (by kernel_rfl) (by kernel_rfl) (fun _ _ _ h => h) (Or.inl ⟨by rfl, ?_⟩) (by assumption) ?_
            rotate_left
            · intro w hSw
              try dsimp only at hSw
              go_simp
              with_reducible rfl
            try simp only [Act.put, List.setIfInBounds_toArray, List.set_cons_zero, List.set_cons_succ]
            refine held_take (2) (v := ?_) rfl (by kernel_rfl) (by kernel_rfl) (by kernel_rfl) (fun _ _ _ h => h) (Or.inl ⟨by rfl, ?_⟩) (by assumption) ?_
            rotate_left
            · intro w hSw
              try dsimp only at hSw
              go_simp
              with_reducible rfl
            try simp only [Act.put, List.setIfInBounds_toArray, List.set_cons_zero, List.set_cons_succ]
            refine held_take (3) (v := ?_) rfl (by kernel_rfl) (by kernel_rfl) (by kernel_rfl) (fun _ _ _ h => h) (Or.inl ⟨by rfl, ?_⟩) (by assumption) ?_
            rotate_left
            · intro w hSw
              try dsimp only at hSw
              go_simp
              with_reducible rfl
            try simp only [Act.put, List.setIfInBounds_toArray, List.set_cons_zero, List.set_cons_succ]
            refine held_take (4) (v := ?_) rfl (by kernel_rfl) (by kernel_rfl) (by kernel_rfl) (fun _ _ _ h => h) (Or.inl ⟨by rfl, ?_⟩) (by assumption) ?_
            rotate_left
            · intro w hSw
              try dsimp only at hSw
              go_simp
              with_reducible rfl
            try simp only [Act.put, List.setIfInBounds_toArray, List.set_cons_zero, List.set_cons_succ]
            refine held_take (5) (v := ?_) rfl (by kernel_rfl) (by kernel_rfl) (by kernel_rfl) (fun _ _ _ h => h) (Or.inl ⟨by rfl, ?_⟩) (by assumption) ?_
            rotate_left
            · intro w hSw
              try dsimp only at hSw
              go_simp
              with_reducible rfl
            try simp only [Act.put, List.setIfInBounds_toArray, List.set_cons_zero, List.set_cons_succ]
            refine held_take (7) (v := ?_) rfl (by kernel_rfl) (by kernel_rfl) (by kernel_rfl) (fun _ _ _ h => h) (Or.inl ⟨by rfl, ?_⟩) (by assumption) ?_
            rotate_left
            · intro w hSw
              try dsimp only at hSw
              go_simp
              with_reducible rfl
            try simp only [Act.put, List.setIfInBounds_toArray, List.set_cons_zero, List.set_cons_succ]
            refine held_take (8) (v := ?_) rfl (by kernel_rfl) (by kernel_rfl) (by kernel_rfl) (fun _ _ _ h => h) (Or.inl ⟨by rfl, ?_⟩) (by assumption) ?_
            rotate_left
            · intro w hSw
              try dsimp only at hSw
              go_simp
              with_reducible rfl
            try simp only [Act.put, List.setIfInBounds_toArray, List.set_cons_zero, List.set_cons_succ]
            refine held_take (9) (v := ?_) rfl (by kernel_rfl) (by kernel_rfl) (by kernel_rfl) (fun _ _ _ h => h) (Or.inl ⟨by rfl, ?_⟩) (by assumption) ?_
            rotate_left
            · intro w hSw
              try dsimp only at hSw
              go_simp
              with_reducible rfl
            try simp only [Act.put, List.setIfInBounds_toArray, List.set_cons_zero, List.set_cons_succ]
            refine wpAnyH_ready (rs := [6, 10]) (by kernel_rfl) (by simp) ?_
            refine held_cons rfl (fun K hK => ?_) ?_
            · skip
              go_simp
              go_at_call 9
              (with_reducible refine (next_walk _ p l cap _ (Z.length : Int) _ hS.env.dice hS.env.rd HNE.out (by omega) (by omega) (by omega)).mono ?_)
              first | rintro e wN rfl hD hg | rintro e wN ⟨rfl, hD, hg⟩
              go_wp2_with fail
              replace hS := hS.next HNE.out HDB.out hD hg
              replace hOd := hOd.grown hg hdB
              have b1 := dnum_lo l q6 (n := (Z.length : Int)) (by omega)
              have b2 := dnum_hi l q6 (n := (Z.length : Int)) (by omega)
              obtain ⟨k, hk⟩ : ∃ k : Nat, dnum l q6 (Z.length : Int) = (k : Int) := ⟨(dnum l q6 (Z.length : Int)).toNat, by omega⟩
              rw [hk] at b1 b2 ⊢
              have hkX : k < Z.length := by omega
              generalize dnxt l q6 = q7 at *
              clear hD hg hk
              refine hK.out _ _ (hOd.o.cell 1 rfl) (fun hHeld => ?_)
              clear hK K
              try simp only [Act.put, List.setIfInBounds_toArray, List.set_cons_zero, List.set_cons_succ]
              refine wpAnyH_ready (rs := [10]) (by kernel_rfl) (by simp) ?_
              refine held_cons rfl (fun K hK => ?_) AllReadyH.nil
              go_simp
              have hbL := (Below.refl wN.heap.size wN).alloc (Nat.le_refl _) (.cells #[.int .i64 0, .int .i64 1, .int .i64 (P : Int), .int .i64 (-1), .int .i64 nn] 3)
              have hRl : Rd (wN.alloc (.cells #[.int .i64 0, .int .i64 1, .int .i64 (P : Int), .int .i64 (-1), .int .i64 nn] 3)) (some ⟨wN.heap.size, 0, none⟩) (ints [0, 1, (P : Int), -1, nn]) := (Bx.new wN 3 [.int .i64 0, .int .i64 1, .int .i64 (P : Int), .int .i64 (-1), .int .i64 nn]).rdd
              have hgl : wN.heap.size ≠ db := by have := hS.env.dice.lt; omega
              replace hS := hS.keep hbL
              replace hOd := hOd.keep hbL
              clear hbL
              generalize wN.alloc (.cells #[.int .i64 0, .int .i64 1, .int .i64 (P : Int), .int .i64 (-1), .int .i64 nn] 3) = wL at *
              generalize wN.heap.size = gl at *
              refine hK.out _ _ (hOd.o.cell 1 rfl) (fun hHeld => ?_)
              clear hK K
              try simp only [Act.put, List.setIfInBounds_toArray, List.set_cons_zero, List.set_cons_succ]
              refine wpAnyH_ready (rs := [11]) (by kernel_rfl) (by simp) ?_
              refine held_cons rfl (fun K hK => ?_) AllReadyH.nil
              go_simp
              go_at_call 19
              (with_reducible refine (of5 db p l cap _ gl _ _ _ _ _ _ hS.env.dice hS.env.rd HNE.out (by omega) hRl hgl).mono ?_)
              first | rintro e wO rfl hD hg | rintro e wO ⟨rfl, hD, hg⟩
              go_wp2_with fail
              replace hS := hS.next HNE.out HDB.out hD hg
              replace hOd := hOd.grown hg hdB
              clear hD hg hRl
              generalize ofF l _ [0, 1, (P : Int), -1, nn] = y at *
              refine hK.out _ _ (hOd.o.cell 1 rfl) (fun hHeld => ?_)
              clear hK K
              try simp only [Act.put, List.setIfInBounds_toArray, List.set_cons_zero, List.set_cons_succ]
              refine held_take (12) (v := ?_) rfl (by kernel_rfl) (by kernel_rfl) (by kernel_rfl) (fun _ _ _ h => h) (Or.inl ⟨by rfl, ?_⟩) (by assumption) ?_
              rotate_left
              · intro w hSw
                try dsimp only at hSw
                go_simp
                with_reducible rfl
              try simp only [Act.put, List.setIfInBounds_toArray, List.set_cons_zero, List.set_cons_succ]
              refine wpAnyH_done (by kernel_rfl) ?_ _
              dsimp only [Behind]
              obtain ⟨v1, v2⟩ := hOd.z.cellAt hkX
              have hF := Lib.hid (fin_setZ (text := text) hS hOd hWB HKB.out HRB.out (by omega) (by omega) (by omega) hX1 hX2 k y)
              clear hS hOd
              go_simp
              go_wp2_with fail
              go_meet
              case rel => exact ⟨text, ka, kc, keys, ra, rc, rnd, a1, e1, C, some ⟨gs, os, none⟩, e2, Z.set k y, rfl, rfl, rfl, hF.out⟩
            · refine held_cons rfl (fun K hK => ?_) AllReadyH.nil
              go_simp
              have hbL := (Below.refl wS.heap.size wS).alloc (Nat.le_refl _) (.cells #[.int .i64 0, .int .i64 1, .int .i64 (P : Int), .int .i64 (-1), .int .i64 nn] 3)
              have hRl : Rd (wS.alloc (.cells #[.int .i64 0, .int .i64 1, .int .i64 (P : Int), .int .i64 (-1), .int .i64 nn] 3)) (some ⟨wS.heap.size, 0, none⟩) (ints [0, 1, (P : Int), -1, nn]) := (Bx.new wS 3 [.int .i64 0, .int .i64 1, .int .i64 (P : Int), .int .i64 (-1), .int .i64 nn]).rdd
              have hgl : wS.heap.size ≠ db := by have := hS.env.dice.lt; omega
              replace hS := hS.keep hbL
              replace hOd := hOd.keep hbL
              clear hbL
              generalize wS.alloc (.cells #[.int .i64 0, .int .i64 1, .int .i64 (P : Int), .int .i64 (-1), .int .i64 nn] 3) = wL at *
              generalize wS.heap.size = gl at *
              refine hK.out _ _ (hOd.o.cell 1 rfl) (fun hHeld => ?_)
              clear hK K
              try simp only [Act.put, List.setIfInBounds_toArray, List.set_cons_zero, List.set_cons_succ]
              refine wpAnyH_ready (rs := [6]) (by kernel_rfl) (by simp) ?_
              refine held_cons rfl (fun K hK => ?_) AllReadyH.nil
              go_simp
              go_at_call 9
              (with_reducible refine (next_walk _ p l cap _ (Z.length : Int) _ hS.env.dice hS.env.rd HNE.out (by omega) (by omega) (by omega)).mono ?_)
              first | rintro e wN rfl hD hg | rintro e wN ⟨rfl, hD, hg⟩
              go_wp2_with fail
              replace hS := hS.next HNE.out HDB.out hD hg
              replace hOd := hOd.grown hg hdB
              replace hRl := hRl.grown hg (fun g off h e => by cases h; exact hgl (Option.some.inj e))
              have b1 := dnum_lo l q6 (n := (Z.length : Int)) (by omega)
              have b2 := dnum_hi l q6 (n := (Z.length : Int)) (by omega)
              obtain ⟨k, hk⟩ : ∃ k : Nat, dnum l q6 (Z.length : Int) = (k : Int) := ⟨(dnum l q6 (Z.length : Int)).toNat, by omega⟩
              rw [hk] at b1 b2 ⊢
              have hkX : k < Z.length := by omega
              generalize dnxt l q6 = q7 at *
              clear hD hg hk
              refine hK.out _ _ (hOd.o.cell 1 rfl) (fun hHeld => ?_)
              clear hK K
              try simp only [Act.put, List.setIfInBounds_toArray, List.set_cons_zero, List.set_cons_succ]
              refine wpAnyH_ready (rs := [11]) (by kernel_rfl) (by simp) ?_
              refine held_cons rfl (fun K hK => ?_) AllReadyH.nil
              go_simp
              go_at_call 19
              (with_reducible refine (of5 db p l cap _ gl _ _ _ _ _ _ hS.env.dice hS.env.rd HNE.out (by omega) hRl hgl).mono ?_)
              first | rintro e wO rfl hD hg | rintro e wO ⟨rfl, hD, hg⟩
              go_wp2_with fail
              replace hS := hS.next HNE.out HDB.out hD hg
              replace hOd := hOd.grown hg hdB
              clear hD hg hRl
              generalize ofF l _ [0, 1, (P : Int), -1, nn] = y at *
              refine hK.out _ _ (hOd.o.cell 1 rfl) (fun hHeld => ?_)
              clear hK K
              try simp only [Act.put, List.setIfInBounds_toArray, List.set_cons_zero, List.set_cons_succ]
              refine held_take (12) (v := ?_) rfl (by kernel_rfl) (by kernel_rfl) (by kernel_rfl) (fun _ _ _ h => h) (Or.inl ⟨by rfl, ?_⟩) (by assumption) ?_
              rotate_left
              · intro w hSw
                try dsimp only at hSw
                go_simp
                with_reducible rfl
              try simp only [Act.put, List.setIfInBounds_toArray, List.set_cons_zero, List.set_cons_succ]
              refine wpAnyH_done (by kernel_rfl) ?_ _
              dsimp only [Behind]
              obtain ⟨v1, v2⟩ := hOd.z.cellAt hkX
              have hF := Lib.hid (fin_setZ (text := text) hS hOd hWB HKB.out HRB.out (by omega) (by omega) (by omega) hX1 hX2 k y)
              clear hS hOd
              go_simp
              go_wp2_with fail
              go_meet
              case rel => exact ⟨text, ka, kc, keys, ra, rc, rnd, a1, e1, C, some ⟨gs, os, none⟩, e2, Z.set k y, rfl, rfl, rfl, hF.out⟩
          · have hZp : 0 < Z.length := by have := HCZ.out; omega
            have hze := hOd.z.2.1
            have s1 : ∀ V, (Instr.slice 22 (.slice a2 Z.length e2) (some (.int .i64 1)) none none).run Tryz.prog V = .ok (.slice (sfrom a2 1 1 e2) (Z.length - 1) (e2 - 1)) V := fun V => slice_from (P := Tryz.prog) (size := 1) Tryz.underlying22 (fun _ => by kernel_rfl) a2 Z.length e2 1 (by omega) V
            have hrd1 : Rd w13 (sfrom a2 1 1 e2) (ints (Z.drop 1)) := by
              have := hOd.z.rd.sfrom (size := 1) (k := 1) (by rw [ints_length, Nat.mul_one]) hze
              rw [ints, List.map_drop]
              exact this
            have g1 := hOd.o.cell 1 (v := .slice a2 Z.length e2) rfl
            have v2 := hOd.o.free 1
            have hdl : (Z.drop 1).length = Z.length - 1 := List.length_drop
            have hF : Hid (Fin W (w13.setCell ⟨go, 1, none⟩ (.slice (sfrom a2 1 1 e2) (Z.length - 1) (e2 - 1))) go ka keys ra rc rnd a1 e1 C (sfrom a2 1 1 e2) (e2 - 1) (Z.drop 1) text) := by
              have hlo := hOd.lo
              refine ⟨by omega, by omega, by omega, hS.r.2.1, hX1, by rw [hdl]; omega, (hS.k.other (fun x h e => by have := HKB.out x h; omega) _ _).rd, (hS.r.other (fun x h e => by have := HRB.out x h; omega) _ _).rd, (hOd.c.other hOd.n1 _ _).rd, ?_, ?_, hS.env.below.setCell (p := ⟨go, 1, none⟩) (by show W.heap.size ≤ go; omega) _⟩
              · have := (hOd.z.other hOd.n2 1 (.slice (sfrom a2 1 1 e2) (Z.length - 1) (e2 - 1))).rd.sfrom (size := 1) (k := 1) (by rw [ints_length, Nat.mul_one]) hze
                rw [ints, List.map_drop]
                exact this
              · rw [hdl]; exact hOd.o.set 1 _
            rw [← hdl] at s1 hF
            have HD := Lib.hid hdl
            generalize Z.drop 1 = Z1 at *
            generalize sfrom a2 1 1 e2 = a3 at *
            clear hS hOd hrd1 hdl
            go_wp2_with fail
            go_meet
            case rel => exact ⟨text, ka, kc, keys, ra, rc, rnd, a1, e1, C, a3, e2 - 1, Z1, rfl, rfl, rfl, hF.out⟩
          · have hF := Lib.hid (fin_of (text := text ++ [120]) hS hOd (by rw [List.length_append]; simp; omega) (by omega) (by omega) hX1 hX2)
            clear hS hOd
            go_wp2_with fail
            go_meet
            case rel => exact ⟨text ++ [120], ka, kc, keys, ra, rc, rnd, a1, e1, C, a2, e2, Z, congrArg Value.string (by apply ByteArray.ext; simp), rfl, rfl, hF.out⟩
          · have h13 := hS.env.dice.lt
            have hWs := hS.env.below.size
            go_wp2_with (at_builtin; refine wpList_apps (w0 := W) (B := W.heap.size) (base := w13.heap.size) rfl _ _ _ _ rfl elI4 rfl (Ow.nil _ _ _) hS.env.below hWs (Nat.le_refl _) rfl (Src.slice Tryz.underlying22 (by rw [ints_length, Nat.mul_one]) hS.k.rd (ints_one keys)) (by omega) ?_)
            intro ka' kc' w14 hO14 hb14 hg14
            have hbx : Below w13.heap.size w13 w14 := ⟨hg14.os, hg14.tape, hg14.output, hg14.size, fun k hk => hg14.block k hk (by simp [rowOf])⟩
            have HL1 : Hid (∀ g, rowOf a1 = some g → g < w13.heap.size) := fun g h => (hOd.c.row g h).2
            have HL2 : Hid (∀ g, rowOf a2 = some g → g < w13.heap.size) := fun g h => (hOd.z.row g h).2
            have hL3 := hOd.o.lt
            have HL4 : Hid (∀ g, rowOf ra = some g → g < w13.heap.size) := fun g h => (hS.r.row g h).2
            have HB2 : Hid (w13.heap.size ≤ w14.heap.size) := hg14.size
            replace hS := hS.keep hbx
            replace hOd := hOd.keep hbx
            clear hb14 hg14 hbx hWs
            generalize w13.heap.size = B2 at *
            have hbL := (Below.refl w14.heap.size w14).alloc (Nat.le_refl _) (.cells #[.int .i64 1, .int .i64 4, .int .i64 0, .int .i64 nn] 3)
            have hRl : Rd (w14.alloc (.cells #[.int .i64 1, .int .i64 4, .int .i64 0, .int .i64 nn] 3)) (some ⟨w14.heap.size, 0, none⟩) (ints [1, 4, 0, nn]) := (Bx.new w14 3 [.int .i64 1, .int .i64 4, .int .i64 0, .int .i64 nn]).rdd
            have hgl : w14.heap.size ≠ db := by have := hS.env.dice.lt; omega
            replace hS := hS.keep hbL
            replace hOd := hOd.keep hbL
            replace hO14 := hO14.keep hbL
            clear hbL
            go_wp2_with (go_at_call 19; (with_reducible refine (of4 db p l cap _ w14.heap.size _ _ _ _ _ hS.env.dice hS.env.rd HNE.out (by omega) hRl hgl).mono ?_))
            (first | rintro e w15 rfl hD hg | rintro e w15 ⟨rfl, hD, hg⟩)
            replace hS := hS.next HNE.out HDB.out hD hg
            replace hOd := hOd.grown hg hdB
            replace hO14 := hO14.kept hg (by cases hr : rowOf ka' with | none => exact .inl rfl | some x => exact .inr (fun e => by have := (hO14.row x hr).1; have := Option.some.inj e; omega))
            generalize ofF l q6 [1, 4, 0, nn] = y at *
            have h15 : B2 ≤ w15.heap.size := by have h1 := hg.size; have h2 := HB2.out; rw [World.size_alloc] at h1; omega
            clear hD hg hRl hgl
            go_wp2_with (at_builtin; refine wpList_app1 (w0 := w15) (B := B2) rfl _ _ _ rfl elI4 rfl hO14 (Below.refl _ _) (Nat.le_refl _) h15 rfl (by rfl) (one1 rfl) (by omega) ?_)
            intro ka2 kc2 w16 hO16 hb16 hg16
            rw [ints_snoc] at hO16
            have hF : Hid (Fin W w16 go ka2 (keys ++ [y]) ra rc rnd a1 e1 C a2 e2 Z text) := by
              refine ⟨by omega, by rw [List.length_append]; simp; omega, by omega, hS.r.2.1, hX1, hX2, ?_, ?_, ?_, ?_, ?_, ?_⟩
              · exact hO16.rd
              · exact hS.r.rd.grown hg16 (fun g off h e => by have := HL4.out g (by rw [h]; rfl); have := (hO14.row g e.symm).1; omega)
              · exact hOd.c.rd.grown hg16 (fun g off h e => by have := HL1.out g (by rw [h]; rfl); have := (hO14.row g e.symm).1; omega)
              · exact hOd.z.rd.grown hg16 (fun g off h e => by have := HL2.out g (by rw [h]; rfl); have := (hO14.row g e.symm).1; omega)
              · exact hOd.o.grown hg16 (fun e => by have := (hO14.row go e.symm).1; omega)
              · exact (hS.env.row hg16 (fun g h => by have := (hO14.row g h).1; omega) HDB.out HRW.out).below
            have hkl : keys.length + 1 = (keys ++ [y]).length := by rw [List.length_append]; rfl
            rw [hkl]
            generalize keys ++ [y] = keys2 at *
            clear hS hOd hO14 hO16 hb16 hg16
            go_wp2_with fail
            go_meet
            case rel => exact ⟨text, ka2, kc2, keys2, ra, rc, rnd, a1, e1, C, a2, e2, Z, rfl, rfl, rfl, hF.out⟩
          · have h13 := hS.env.dice.lt
            have hWs := hS.env.below
            have hlo := hOd.lo
            go_wp2_with (at_builtin; refine wpList_app1 (w0 := W) (B := W.heap.size) rfl _ _ _ rfl elI4 rfl hS.r hWs (by have := HDB.out; omega) (by omega) rfl (by rfl) (one1 rfl) (by omega) ?_)
            intro ra2 rc2 w14 hO14 hb14 hg14
            rw [ints_snoc] at hO14
            have hF : Hid (Fin W w14 go ka keys ra2 rc2 (rnd ++ [nn]) a1 e1 C a2 e2 Z text) := by
              refine ⟨by omega, by omega, by rw [List.length_append]; simp; omega, by rw [List.length_append]; exact hO14.2.1, hX1, hX2, ?_, ?_, ?_, ?_, ?_, ?_⟩
              · exact (hS.k.kept hg14 HAP.out.symm.keep).rd
              · exact hO14.rd
              · exact hOd.c.rd.grown hg14 (fun g off h e => by have := (hOd.c.row g (by rw [h]; rfl)).1; have := HRB.out g e.symm; omega)
              · exact hOd.z.rd.grown hg14 (fun g off h e => by have := (hOd.z.row g (by rw [h]; rfl)).1; have := HRB.out g e.symm; omega)
              · exact hOd.o.grown hg14 (fun e => by have := HRB.out go e.symm; omega)
              · exact hb14
            have hrl : rnd.length + 1 = (rnd ++ [nn]).length := by rw [List.length_append]; rfl
            rw [hrl]
            generalize rnd ++ [nn] = rnd2 at *
            clear hS hOd hO14 hb14 hg14 hWs
            go_wp2_with fail
            go_meet
            case rel => exact ⟨text, ka, kc, keys, ra2, rc2, rnd2, a1, e1, C, a2, e2, Z, rfl, rfl, rfl, hF.out⟩
      case rest =>
        obtain ⟨tx, kx, kcx, Kx, rx, rcx, Rx, b1, d1, Cx, b2, d2, Zx, rfl, rfl, rfl, hF⟩ := hcut
        clear HFIN hS hOd g0 g1
        have hBf := HBW.out.keep hF.b
        have KA := Lib.hid (fun V hV => awake25_walk V hV)
        go_wp2_with (go_at_call 6; (with_reducible refine (KA.out _ hBf).mono ?_))
        (first | rintro e w20 rfl hb20 | rintro e w20 ⟨rfl, hb20⟩)
        have h0 := (hF.o.keep hb20).cell 0 (v := .slice b1 Cx.length d1) rfl
        have h1 := (hF.o.keep hb20).cell 1 (v := .slice b2 Zx.length d2) rfl
        have hbW := hF.b.trans (hb20.mono hF.b.size)
        have KF := Lib.hid (fun me s => HAG.out w20 kx Kx kcx me s rx Rx rcx tx b1 d1 Cx b2 d2 Zx (HBW.out.keep hbW) (hF.k.keep hb20) (hF.r.keep hb20) (hF.c.keep hb20) (hF.z.keep hb20) (by have := hF.kl; omega) (by have := hF.rl; omega) (by have := hF.cl; omega) (by have := hF.zl; omega) (by have := hF.t; omega) hF.rc)
        have HB := Lib.hid hbW
        clear hF hb20 hBf HAG hbW
        go_wp2_with (go_at_call 18; (with_reducible refine (KF.out _ _).mono ?_))
        (first | rintro e w21 rfl hb21 | rintro e w21 ⟨rfl, hb21⟩)
        have HB2 := Lib.hid (HB.out.trans (hb21.mono HB.out.size))
        clear hb21 h0 h1
        go_wp2
        go_ret
        exact ⟨rfl, HB2.out⟩
end Go.Proofs.YtcnffdgmdeflmaaGreatDoor
