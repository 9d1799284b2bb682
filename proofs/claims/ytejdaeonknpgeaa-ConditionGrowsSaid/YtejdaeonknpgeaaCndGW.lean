/- The law ConditionGrows walked. -/
import Derived.Test.YtejdaeonknpgeaaCndSW
import Derived.Test.YtejdaeonknpgeaaCndGO
namespace Go.Proofs.Ytejdaeonknpgeaa
open Go.RowKit
/-- what stands behind the dice: the condition, the members, and more of them -/
structure Cg (W w : World) (db : Nat) (p : Option Addr) (l : List Int) (cap q g : Nat) (ta : Option Addr) (tc : Nat) (T : List Trm) (a : Option Addr) (M : List Mem) (b : Option Addr) (N : List Mem) : Prop where
  e : Env W w db p l cap q
  c : Bx w g 29 [.slice ta T.length tc]
  gd : db < g
  t : Cd w db ta T
  m : Md w db a M
  n : Md w db b N
  wd : W.heap.size ≤ db
  rp : Rd W p (ints l)
section
variable {W w w' : World} {db : Nat} {p : Option Addr} {l : List Int} {cap q q' g : Nat} {ta : Option Addr} {tc : Nat} {T : List Trm} {a : Option Addr} {M : List Mem} {b : Option Addr} {N : List Mem}
theorem Cg.keep (h : Cg W w db p l cap q g ta tc T a M b N) (hb : Below w.heap.size w w') : Cg W w' db p l cap q g ta tc T a M b N :=
  ⟨h.e.keep hb, h.c.keep hb, h.gd, h.t.keep hb, h.m.keep hb, h.n.keep hb, h.wd, h.rp⟩
theorem Cg.next (h : Cg W w db p l cap q g ta tc T a M b N) (hE : Env W w' db p l cap q') (hg : w.grownBy w' (some db)) : Cg W w' db p l cap q' g ta tc T a M b N := by
  have hk : Kp (fun j => j = db) w w' := Kp.of_grown hg (fun j e => (Option.some.inj e).symm)
  have := h.gd
  exact ⟨hE, h.c.kp hk (by omega), h.gd, h.t.kp hk, h.m.kp hk, h.n.kp hk, h.wd, h.rp⟩
theorem Cg.kp (h : Cg W w db p l cap q g ta tc T a M b N) (hk : Kp (fun j => j = db) w w') (hE : Env W w' db p l cap q') : Cg W w' db p l cap q' g ta tc T a M b N := by
  have := h.gd
  exact ⟨hE, h.c.kp hk (by omega), h.gd, h.t.kp hk, h.m.kp hk, h.n.kp hk, h.wd, h.rp⟩
theorem Cg.co (h : Cg W w db p l cap q g ta tc T a M b N) : Co W w g ta tc T a M := ⟨h.e.below, h.c, h.t.r, h.m.r⟩
theorem Cg.dicec (h : Cg W w db p l cap q g ta tc T a M b N) (hl : l.length ≤ 281474976710656) (n : Int) (h1 : 1 ≤ n) (h2 : n ≤ 4611686018427387904) :
    Calls Try.prog 13 #[.pointer (some ⟨db, 0, none⟩), .int .i64 n] w fun e w' => e = .returned (.int .i64 (dnum l q n)) ∧ (Env W w' db p l cap (dnxt l q) ∧ w.grownBy w' (some db)) := by
  refine (next_walk db p l cap q n w h.e.dice h.e.rd (rd_ne h.rp h.wd) hl h1 h2).mono ?_
  rintro e w' ⟨he, hD, hg⟩
  exact ⟨he, h.e.grown (rd_ne h.rp h.wd) h.wd hD hg, hg⟩
end
/-- with the greater set -/
structure Ch (W w : World) (g : Nat) (ta : Option Addr) (tc : Nat) (T : List Trm) (a : Option Addr) (M : List Mem) (a2 : Option Addr) (L : List Mem) : Prop where
  o : Co W w g ta tc T a M
  m : RdM w a2 L
section
variable {W w w' : World} {g : Nat} {ta : Option Addr} {tc : Nat} {T : List Trm} {a : Option Addr} {M : List Mem} {a2 : Option Addr} {L : List Mem}
theorem Ch.keep (h : Ch W w g ta tc T a M a2 L) (hb : Below w.heap.size w w') : Ch W w' g ta tc T a M a2 L := ⟨h.o.keep hb, h.m.keep hb⟩
theorem Ch.cell (h : Ch W w g ta tc T a M a2 L) : w.cell? ⟨g, 0, none⟩ = some (.slice ta T.length tc) := h.o.c.cell 0 rfl
theorem Ch.big (h : Ch W w g ta tc T a M a2 L) (c : Nat) (i : Int) (hT : T.length ≤ 1000) (hM : L.length ≤ 1000) :
    Calls Try.prog 12 #[.agg #[.slice ta T.length tc], .slice a2 L.length c, .int .i64 i] w fun e w' => e = .returned (.bool (termF wiF T 0 L i)) ∧ Below w.heap.size w w' :=
  cholds_walk T ta tc L a2 c i w ⟨h.o.t, h.m⟩ (by omega) (by omega)
theorem Ch.persb (h : Ch W w g ta tc T a M a2 L) (c : Nat) (i : Int) (hM : L.length ≤ 1000) :
    Calls Try.prog 14 #[.slice a2 L.length c, .int .i64 i] w fun e w' => e = .returned (.int .i64 (persF L i)) ∧ Below w.heap.size w w' := cpersons_walk L a2 c i w h.m (by omega)
end
theorem mm_len (M : List Mem) : (rowsC mmC M).length = M.length * 5 := rowsC_length mmC_len M
theorem mm_one1 (y : Mem) : ∀ v ∈ mmC y, v.oneCell' = true := by intro v hv; simp [mmC] at hv; rcases hv with rfl | rfl | rfl | rfl | rfl <;> rfl
theorem mm_one {M : List Mem} : ∀ u ∈ rowsC mmC M, u.oneCell' = true := by
  intro u hu
  obtain ⟨m, -, hm⟩ := List.mem_flatMap.1 hu
  simp [mmC] at hm
  rcases hm with rfl | rfl | rfl | rfl | rfl <;> rfl
set_option maxRecDepth 100000 in
set_option maxHeartbeats 8000000 in
theorem grows17_walk (W : World) (p : Option Addr) (l : List Int) (cap : Nat) (hR : Rd W p (ints l)) (hl : l.length ≤ 17592186043904) :
    Calls Try.prog 4 #[.slice p l.length cap] W fun e w' => e = .returned (.bool true) ∧ Below W.heap.size W w' := by
  have KA := Lib.hid (fun V => awake17 V)
  go_enter Try.func4, Try.ntmps4
  go_wp2_with (go_at_call 7; (with_reducible refine (light_walk _ _ _ _ (by omega)).mono ?_))
  (first | rintro e w1 rfl rfl | rintro e w1 ⟨rfl, rfl⟩)
  by_cases hq : l.length ≤ 500
  rotate_left
  · have hd5 : decide (l.length ≤ 500) = false := decide_eq_false hq
    clear hq
    go_wp2_with (go_at_call 8; (with_reducible refine (KA.out _).mono ?_))
    (first | rintro e w1 rfl hb1 | rintro e w1 ⟨rfl, hb1⟩)
    go_wp2
    go_ret
    exact ⟨rfl, hb1⟩
  have hd5 : decide (l.length ≤ 500) = true := decide_eq_true hq
  have HR := Lib.hid hR
  have hl48 : l.length ≤ 281474976710656 := by omega
  obtain ⟨db, hdb⟩ : ∃ db, db = W.heap.size := ⟨_, rfl⟩
  have HDB := Lib.hid hdb
  go_wp2_with (go_at_call 9; (with_reducible refine (roll_walk _ _ _ _).mono ?_))
  (first | rintro e w1 rfl hD hb1 | rintro e w1 ⟨rfl, hD, hb1⟩)
  rw [← HDB.out] at hD ⊢
  have hE : Env W w1 db p l cap 0 := ⟨hD, hR.keep hb1, hb1⟩
  clear hdb hR hD hb1 hq hl hd5
  have KC : Hid (Calls Try.prog 10 #[.pointer (some ⟨db, 0, none⟩), .int .i64 4] w1 _) := Lib.hid (kcond_walk W db p l cap 0 4 w1 hl48 (by omega) (by omega) hE (by rw [HDB.out]; exact Nat.le_refl _) HR.out)
  go_upto_region 5 with (go_at_call 10; (with_reducible refine KC.out.mono ?_); (first | rintro e w2 ⟨T, ta, tc, q2, rfl, -, hTl, hE2, hC2, -⟩ | rintro e w2 T ta tc q2 rfl - hTl hE2 hC2 -))
  have hTn : T.length ≤ 1000 := Nat.le_trans hTl.2 szK4
  have bA := (Below.refl w2.heap.size w2).alloc (Nat.le_refl _) (.cells #[.slice ta T.length tc] 29)
  have hB3 := Bx.new w2 29 [.slice ta T.length tc]
  change Bx (w2.alloc (.cells #[.slice ta T.length tc] 29)) _ _ _ at hB3
  have hE3 := hE2.keep bA
  have hC3 := hC2.keep bA
  have hdl := hE2.dice.lt
  clear bA hE2 hC2 hTl hE KC
  generalize w2.alloc (.cells #[.slice ta T.length tc] 29) = w3 at *
  generalize w2.heap.size = g4 at *
  have hg4 : db < g4 := hdl
  have hWd : W.heap.size ≤ db := by rw [HDB.out]; exact Nat.le_refl _
  have KM : Hid (Calls Try.prog 11 #[.pointer (some ⟨db, 0, none⟩), .int .i64 6] w3 (MemRes W w3 db p l cap 6)) := Lib.hid (kmems_walk W db p l cap q2 6 w3 hl48 (by omega) hE3 hWd HR.out)
  go_upto_region 6 with (first
    | (go_at_call 11; (with_reducible refine KM.out.mono ?_); (first | rintro e w4 ⟨M, a, c, q4, rfl, hMl, hE4, hM4, hk4⟩ | rintro e w4 M a c q4 rfl hMl hE4 hM4 hk4); clear KM; have KN : Hid (Calls Try.prog 11 #[.pointer (some ⟨db, 0, none⟩), .int .i64 4] w4 (MemRes W w4 db p l cap 4)) := Lib.hid (kmems_walk W db p l cap q4 4 w4 hl48 (by omega) hE4 hWd HR.out))
    | (go_at_call 11; (with_reducible refine KN.out.mono ?_); (first | rintro e w5 ⟨N, b, cb, q5, rfl, hNl, hE5, hN5, hk5⟩ | rintro e w5 N b cb q5 rfl hNl hE5 hN5 hk5)))
  have hG : Cg W w5 db p l cap q5 g4 ta tc T a M b N := ⟨hE5, (hB3.kp hk4 (by omega)).kp hk5 (by omega), hg4, (hC3.kp hk4).kp hk5, hM4.kp hk5, hN5, hWd, HR.out⟩
  have HMl := Lib.hid hMl
  have HNl := Lib.hid hNl
  have HTN := Lib.hid hTn
  clear KN hE3 hB3 hC3 hE4 hM4 hk4 hE5 hN5 hk5 hdl
  by_cases h0 : M.length = 0
  · have h00 : decide ((M.length : Int) = 0) = true := decide_eq_true (by omega)
    have h01 : ((M.length : Int) == 0) = true := by rw [beq_iff_eq]; omega
    have HB := Lib.hid hG.e.below
    clear hG
    go_wp2_with (go_at_call 8; (with_reducible refine (KA.out _).mono ?_); (first | rintro e w6 rfl hb6 | rintro e w6 ⟨rfl, hb6⟩))
    go_ret
    exact ⟨rfl, HB.out.trans (hb6.mono HB.out.size)⟩
  have hn0 : decide ((M.length : Int) = 0) = false := decide_eq_false (by omega)
  have hn1 : ((M.length : Int) == 0) = false := by rw [beq_eq_false_iff_ne]; omega
  have K8 := Lib.hid (hG.dicec hl48 (M.length : Int) (by omega) (by omega))
  have za := dnum_lo l q5 (n := (M.length : Int)) (by omega)
  have zb := dnum_hi l q5 (n := (M.length : Int)) (by omega)
  generalize dnum l q5 (M.length : Int) = z at *
  generalize dnxt l q5 = q6 at *
  obtain ⟨me, rfl⟩ : ∃ me : Nat, z = (me : Int) := ⟨z.toNat, by omega⟩
  have hme : me < M.length := by omega
  clear za zb
  go_upto_region 9 with (go_at_call 13; (with_reducible refine K8.out.mono ?_); (first | rintro e w6 rfl hEN hgN | rintro e w6 rfl ⟨hEN, hgN⟩ | rintro e w6 ⟨rfl, hEN, hgN⟩))
  replace hG := hG.next hEN hgN
  clear hEN hgN K8
  obtain ⟨wL, hwL⟩ : ∃ wL, wL = w6 := ⟨_, rfl⟩
  have hS0 : Below wL.heap.size wL w6 := by rw [hwL]; exact Below.refl _ _
  rw [← hwL] at hG
  have HG := Lib.hid hG
  clear hwL hG
  go_upto_region 10 with (first
    | (at_builtin; refine wpList_apps_at (w0 := wL) (B := wL.heap.size) (base := wL.heap.size) rfl _ _ _ _ rfl elMem rfl (Ow.nil _ _ _) hS0 (Nat.le_refl _) hS0.size rfl (Src.slice elMem.u (mm_len M) (HG.out.keep hS0).m.r.rows mm_one) (by have := HMl.out; omega) ?_; intro a1 c1 w7 hO7 hb7 hg7 hat7; clear hg7 hat7; rw [Nat.zero_add] at hO7 ⊢; rw [List.nil_append] at hO7)
    | (at_builtin; refine wpList_apps_at (w0 := wL) (B := wL.heap.size) (base := wL.heap.size) rfl _ _ _ _ rfl elMem rfl hO7 hb7 (Nat.le_refl _) hb7.size rfl (Src.slice elMem.u (mm_len N) (HG.out.keep hb7).n.r.rows mm_one) (by have := HMl.out; have := HNl.out; omega) ?_; intro a2 c2 w8 hO8 hb8 hg8 hat8; clear hg8 hat8))
  rw [← rowsC_append] at hO8
  have hGW := HG.out.keep hb8
  have hlen8 : (M ++ N).length = M.length + N.length := List.length_append ..
  have hsM : ∀ m ∈ M, m.person.length ≤ 1 := HG.out.m.s
  have HLL := Lib.hid hlen8
  have hme8 : Hid ((M ++ N)[me]? = M[me]?) := Lib.hid (List.getElem?_append_left hme)
  clear hlen8 hO7 hb7 hS0
  go_upto_region 12 with (fail)
  go_loopw [9, 10, 11, 39] (fun av _ _ iv wr => ∃ (i at' q : Nat) (L : List Mem), i ≤ M.length + N.length ∧ iv = .int .i64 (i : Int) ∧ av = .int .i64 (at' : Int) ∧ Hid (L.length = M.length + N.length) ∧ Hid (L[at']? = M[me]?) ∧ Hid (∀ z ∈ M ++ N, z ∈ L) ∧ Hid (∀ z ∈ L, z ∈ M ++ N) ∧ Ow wr wL.heap.size 5 a2 (M.length + N.length) c2 (rowsC mmC L) ∧ Env W wr db p l cap q ∧ Kp (fun j => j = db) wL wr) (fun _ _ _ iv _ => M.length + N.length - (intOf iv).toNat)
  case atStart => exact ⟨0, me, q6, M ++ N, Nat.zero_le _, rfl, rfl, HLL, hme8, Lib.hid (fun z h => h), Lib.hid (fun z h => h), hO8, hGW.e, Kp.of_below hb8 _⟩
  case round =>
    clear hO8 hb8 hGW
    obtain ⟨i, at', q, L, hi, rfl, rfl, HLn, Hat, HS1, HS2, hO, hE, hk⟩ := hrel
    have hP := HG.out.kp hk hE
    have HKp := Lib.hid hk
    have hrb : ∀ j, rowOf a2 = some j → db < j := fun j hj => by have := (hO.row j hj).1; have := HG.out.e.dice.lt; omega
    clear hE hk
    by_cases hit : i < M.length + N.length
    rotate_left
    · have hil : ¬ (i : Int) < ((M.length + N.length : Nat) : Int) := by omega
      have hil2 : ¬ (i : Int) < (M.length : Int) + (N.length : Int) := by omega
      have hCh : Ch W wr g4 ta tc T a M a2 L := ⟨hP.co, ⟨hO.rd, fun z hz => (List.mem_append.1 (HS2.out z hz)).elim (hP.m.r.ans z) (hP.n.r.ans z), fun z hz => (List.mem_append.1 (HS2.out z hz)).elim (hP.m.r.ok z) (hP.n.r.ok z)⟩⟩
      obtain ⟨m, hm⟩ : ∃ m, M[me]? = some m := ⟨_, List.getElem?_eq_getElem hme⟩
      have hsub : ∀ z ∈ M, z ∈ L := fun z hz => HS1.out z (List.mem_append_left _ hz)
      have ht := term_mono (wi := wiF) (T := T) hm (Hat.out.trans hm) hsub
      have hp := pers_mono hm (Hat.out.trans hm) hsub
      have hln := HLn.out
      have K1 := Lib.hid (fun V (hV : Ch W V g4 ta tc T a M a2 L) => hV.o.holds c (me : Int) HTN.out (by have := HMl.out; omega))
      have K2 := Lib.hid (fun V (hV : Ch W V g4 ta tc T a M a2 L) => hV.big c2 (at' : Int) HTN.out (by have := HMl.out; have := HNl.out; omega))
      have K3 := Lib.hid (fun V (hV : Ch W V g4 ta tc T a M a2 L) => hV.o.persons c (me : Int) (by have := HMl.out; omega))
      have K4 := Lib.hid (fun V (hV : Ch W V g4 ta tc T a M a2 L) => hV.persb c2 (at' : Int) (by have := HMl.out; have := HNl.out; omega))
      rw [hln] at K2 K4
      generalize termF wiF T 0 M (me : Int) = R1 at *
      generalize termF wiF T 0 L (at' : Int) = R2 at *
      generalize persF M (me : Int) = P1 at *
      generalize persF L (at' : Int) = P2 at *
      have hge : decide (P2 ≥ P1) = true := decide_eq_true hp
      have hge2 : P2 ≥ P1 := hp
      have y0 := hCh.cell
      have HCh := Lib.hid hCh
      clear hp hsub hm hCh hP hO HKp hrb HLn Hat HS1 HS2 hln hi
      cases R1 with
      | false =>
        clear ht
        go_wp2_with (first
          | (go_at_call 12; (with_reducible refine (K1.out _ HCh.out).mono ?_); (first | rintro e v1 rfl hb1 | rintro e v1 ⟨rfl, hb1⟩); have H1 := Lib.hid (HCh.out.keep hb1))
          | (go_at_call 14; (with_reducible refine (K4.out _ H1.out).mono ?_); (first | rintro e v2 rfl hb2 | rintro e v2 ⟨rfl, hb2⟩); have H2 := Lib.hid (H1.out.keep hb2))
          | (go_at_call 14; (with_reducible refine (K3.out _ H2.out).mono ?_); (first | rintro e v3 rfl hb3 | rintro e v3 ⟨rfl, hb3⟩); have H3 := Lib.hid (H2.out.keep hb3))
          | (go_at_call 8; (with_reducible refine (KA.out _).mono ?_); (first | rintro e v4 rfl hb4 | rintro e v4 ⟨rfl, hb4⟩)))
        go_ret
        exact ⟨rfl, H3.out.o.b.trans (hb4.mono H3.out.o.b.size)⟩
      | true =>
        obtain rfl : R2 = true := ht rfl
        clear ht
        go_wp2_with (first
          | (go_at_call 12; (with_reducible refine (K1.out _ HCh.out).mono ?_); (first | rintro e v1 rfl hb1 | rintro e v1 ⟨rfl, hb1⟩); have H1 := Lib.hid (HCh.out.keep hb1); have y1 := H1.out.cell)
          | (go_at_call 12; (with_reducible refine (K2.out _ H1.out).mono ?_); (first | rintro e v5 rfl hb5 | rintro e v5 ⟨rfl, hb5⟩); have H5 := Lib.hid (H1.out.keep hb5))
          | (go_at_call 14; (with_reducible refine (K4.out _ H5.out).mono ?_); (first | rintro e v2 rfl hb2 | rintro e v2 ⟨rfl, hb2⟩); have H2 := Lib.hid (H5.out.keep hb2))
          | (go_at_call 14; (with_reducible refine (K3.out _ H2.out).mono ?_); (first | rintro e v3 rfl hb3 | rintro e v3 ⟨rfl, hb3⟩); have H3 := Lib.hid (H2.out.keep hb3))
          | (go_at_call 8; (with_reducible refine (KA.out _).mono ?_); (first | rintro e v4 rfl hb4 | rintro e v4 ⟨rfl, hb4⟩)))
        go_ret
        exact ⟨rfl, H3.out.o.b.trans (hb4.mono H3.out.o.b.size)⟩
    · have hil : (i : Int) < ((M.length + N.length : Nat) : Int) := by omega
      have hil2 : (i : Int) < (M.length : Int) + (N.length : Int) := by omega
      have hwi : IntKind.i64.wrap ((i : Int) + 1) = (i : Int) + 1 := by rw [IntKind.wrap_i64]; have := HMl.out; have := HNl.out; omega
      have K9 := Lib.hid (hP.dicec hl48 ((i : Int) + 1) (by omega) (by have := HMl.out; have := HNl.out; omega))
      have za := dnum_lo l q (n := (i : Int) + 1) (by omega)
      have zb := dnum_hi l q (n := (i : Int) + 1) (by omega)
      generalize dnum l q ((i : Int) + 1) = z at *
      generalize dnxt l q = q7 at *
      obtain ⟨k, rfl⟩ : ∃ k : Nat, z = (k : Int) := ⟨z.toNat, by omega⟩
      have hki : k ≤ i := by omega
      clear za zb
      go_upto_region 15 with (go_at_call 13; (with_reducible refine K9.out.mono ?_); (first | rintro e w9 rfl hEN hgN | rintro e w9 rfl ⟨hEN, hgN⟩ | rintro e w9 ⟨rfl, hEN, hgN⟩))
      have hO9 := hO.kept hgN (by
        cases hr : rowOf a2 with
        | none => exact .inl rfl
        | some x => exact .inr (fun e => by have := hrb x hr; have := Option.some.inj e; omega))
      have hk9 : Hid (Kp (fun j => j = db) wL w9) := Lib.hid (HKp.out.trans (Kp.of_grown hgN (S := fun j => j = db) (fun j e => (Option.some.inj e).symm)) (fun _ _ e => e))
      clear K9 hP hO hgN HKp
      obtain ⟨g', o', x, rfl, hx, hcx⟩ := hO9.rd.rows (f := mmC) (k := 5) mmC_len (by decide) (show i < L.length by have := HLn.out; omega)
      obtain ⟨ga, oa, y, hga, hy, hcy⟩ := hO9.rd.rows (f := mmC) (k := 5) mmC_len (by decide) (show k < L.length by have := HLn.out; omega)
      obtain ⟨rfl, rfl⟩ : g' = ga ∧ o' = oa := by simpa using hga
      have hkl : (k : Int) < ((M.length + N.length : Nat) : Int) := by omega
      have hkl2 : (k : Int) < (M.length : Int) + (N.length : Int) := by omega
      have hOd := hO9.keep (Below.refl _ _).drew
      have hsw := Lib.hid (hOd.swapM hx.out hy.out)
      have ht1 := hOd.there (f := mmC) mmC_len (i := i) (by have := HLn.out; omega)
      have ht2 := (Ow.setRow (f := mmC) mmC_len hOd (show i < L.length by have := HLn.out; omega) y).1.there (f := mmC) mmC_len (i := k) (by rw [List.length_set]; have := HLn.out; omega)
      clear hga
      refine wp_region_held_drew (S := fun w' => True) (by kernel_rfl) trivial (fun hHeld => ?_)
      simp only [List.size_toArray, List.length_cons, List.length_nil]
      refine held_take (0) (v := ?_) rfl (by kernel_rfl) (by kernel_rfl) (by kernel_rfl) (fun _ _ _ h => h) (Or.inl ⟨by rfl, ?_⟩) (by assumption) ?_
      rotate_left
      · intro w hSw
        try dsimp only at hSw
        go_simp
        with_reducible rfl
      try simp only [Act.put, List.setIfInBounds_toArray, List.set_cons_zero, List.set_cons_succ]
      refine held_take (1) (v := ?_) rfl (by kernel_rfl) (by kernel_rfl) (by kernel_rfl) (fun _ _ _ h => h) (Or.inl ⟨by rfl, ?_⟩) (by assumption) ?_
      rotate_left
      · intro w hSw
        try dsimp only at hSw
        go_simp
        with_reducible rfl
      try simp only [Act.put, List.setIfInBounds_toArray, List.set_cons_zero, List.set_cons_succ]
      refine held_take (2) (v := ?_) rfl (by kernel_rfl) (by kernel_rfl) (by kernel_rfl) (fun _ _ _ h => h) (Or.inl ⟨by rfl, ?_⟩) (by assumption) ?_
      rotate_left
      · intro w hSw
        try dsimp only at hSw
        go_simp
        with_reducible rfl
      try simp only [Act.put, List.setIfInBounds_toArray, List.set_cons_zero, List.set_cons_succ]
      refine held_take (3) (v := ?_) rfl (by kernel_rfl) (by kernel_rfl) (by kernel_rfl) (fun _ _ _ h => h) (Or.inl ⟨by rfl, ?_⟩) (by assumption) ?_
      rotate_left
      · intro w hSw
        try dsimp only at hSw
        go_simp
        with_reducible rfl
      try simp only [Act.put, List.setIfInBounds_toArray, List.set_cons_zero, List.set_cons_succ]
      refine held_take (4) (v := ?_) rfl (by kernel_rfl) (by kernel_rfl) (by kernel_rfl) (fun _ _ _ h => h) (Or.inl ⟨by rfl, ?_⟩) (by assumption) ?_
      rotate_left
      · intro w hSw
        try dsimp only at hSw
        go_simp
        with_reducible rfl
      try simp only [Act.put, List.setIfInBounds_toArray, List.set_cons_zero, List.set_cons_succ]
      refine held_take (5) (v := ?_) rfl (by kernel_rfl) (by kernel_rfl) (by kernel_rfl) (fun _ _ _ h => h) (Or.inl ⟨by rfl, ?_⟩) (by assumption) ?_
      rotate_left
      · intro w hSw
        try dsimp only at hSw
        go_simp
        with_reducible rfl
      try simp only [Act.put, List.setIfInBounds_toArray, List.set_cons_zero, List.set_cons_succ]
      refine held_take (6) (v := ?_) rfl (by kernel_rfl) (by kernel_rfl) (by kernel_rfl) (fun _ _ _ h => h) (Or.inl ⟨by rfl, ?_⟩) (by assumption) ?_
      rotate_left
      · intro w hSw
        try dsimp only at hSw
        go_simp
        with_reducible rfl
      try simp only [Act.put, List.setIfInBounds_toArray, List.set_cons_zero, List.set_cons_succ]
      refine held_take (8) (v := ?_) rfl (by kernel_rfl) (by kernel_rfl) (by kernel_rfl) (fun _ _ _ h => h) (Or.inl ⟨by rfl, ?_⟩) (by assumption) ?_
      rotate_left
      · intro w hSw
        try dsimp only at hSw
        go_simp
        with_reducible rfl
      try simp only [Act.put, List.setIfInBounds_toArray, List.set_cons_zero, List.set_cons_succ]
      refine held_take (9) (v := ?_) rfl (by kernel_rfl) (by kernel_rfl) (by kernel_rfl) (fun _ _ _ h => h) (Or.inl ⟨by rfl, ?_⟩) (by assumption) ?_
      rotate_left
      · intro w hSw
        try dsimp only at hSw
        go_simp
        with_reducible rfl
      try simp only [Act.put, List.setIfInBounds_toArray, List.set_cons_zero, List.set_cons_succ]
      refine held_take (10) (v := ?_) rfl (by kernel_rfl) (by kernel_rfl) (by kernel_rfl) (fun _ _ _ h => h) (Or.inl ⟨by rfl, ?_⟩) (by assumption) ?_
      rotate_left
      · intro w hSw
        try dsimp only at hSw
        go_simp
        with_reducible rfl
      try simp only [Act.put, List.setIfInBounds_toArray, List.set_cons_zero, List.set_cons_succ]
      refine wpAnyH_ready (rs := [7, 11]) (by kernel_rfl) (by simp) ?_
      refine held_cons rfl (fun K hK => ?_) ?_
      · skip
        have x0 := hcy 0 _ rfl
        have x1 := hcy 1 _ rfl
        have x2 := hcy 2 _ rfl
        have x3 := hcy 3 _ rfl
        have x4 := hcy 4 _ rfl
        change _ = some _ at x0
        change _ = some _ at x1
        change _ = some _ at x2
        change _ = some _ at x3
        change _ = some _ at x4
        rw [Nat.add_zero] at x0
        go_simp
        clear x0 x1 x2 x3 x4
        refine hK.out _ _ trivial (fun hHeld => ?_)
        clear hK K
        try simp only [Act.put, List.setIfInBounds_toArray, List.set_cons_zero, List.set_cons_succ]
        refine wpAnyH_ready (rs := [11]) (by kernel_rfl) (by simp) ?_
        refine held_cons rfl (fun K hK => ?_) AllReadyH.nil
        have x0 := hcx 0 _ rfl
        have x1 := hcx 1 _ rfl
        have x2 := hcx 2 _ rfl
        have x3 := hcx 3 _ rfl
        have x4 := hcx 4 _ rfl
        change _ = some _ at x0
        change _ = some _ at x1
        change _ = some _ at x2
        change _ = some _ at x3
        change _ = some _ at x4
        rw [Nat.add_zero] at x0
        go_simp
        clear x0 x1 x2 x3 x4
        refine hK.out _ _ trivial (fun hHeld => ?_)
        clear hK K
        try simp only [Act.put, List.setIfInBounds_toArray, List.set_cons_zero, List.set_cons_succ]
        refine held_take (12) (v := ?_) rfl (by kernel_rfl) (by kernel_rfl) (by kernel_rfl) (fun _ _ _ h => h) (Or.inl ⟨by rfl, ?_⟩) (by assumption) ?_
        rotate_left
        · intro w hSw
          try dsimp only at hSw
          go_simp
          with_reducible rfl
        try simp only [Act.put, List.setIfInBounds_toArray, List.set_cons_zero, List.set_cons_succ]
        refine wpAnyH_ready (rs := [13]) (by kernel_rfl) (by simp) ?_
        refine held_cons rfl (fun K hK => ?_) AllReadyH.nil
        refine step_store_row rfl 36 (.tmp 58) (.tmp 53) rfl g' (o' + i * 5) 5 (mmC y) rfl rfl rfl ht1 (by kernel_rfl) (mm_one1 y) ?_
        refine hK.out _ _ trivial (fun hHeld => ?_)
        clear hK K
        try simp only [Act.put]
        refine held_take (14) (v := ?_) rfl (by kernel_rfl) (by kernel_rfl) (by kernel_rfl) (fun _ _ _ h => h) (Or.inl ⟨by rfl, ?_⟩) (by assumption) ?_
        rotate_left
        · intro w hSw
          try dsimp only at hSw
          go_simp
          with_reducible rfl
        try simp only [Act.put, List.setIfInBounds_toArray, List.set_cons_zero, List.set_cons_succ]
        refine wpAnyH_ready (rs := [15]) (by kernel_rfl) (by simp) ?_
        refine held_cons rfl (fun K hK => ?_) AllReadyH.nil
        refine step_store_row rfl 36 (.tmp 59) (.tmp 57) rfl g' (o' + k * 5) 5 (mmC x) rfl rfl rfl ht2 (by kernel_rfl) (mm_one1 x) ?_
        refine hK.out _ _ trivial (fun hHeld => ?_)
        clear hK K
        try simp only [Act.put]
        refine wpAnyH_done (by kernel_rfl) ?_ _
        go_simp
        have hO' := hsw.out.1
        have hkk : Kp (fun j => j = g') w9.drew _ := Kp.of_grown hsw.out.2 (fun j e => (Option.some.inj e).symm)
        have hgl := (hOd.row g' rfl).1
        have hdl := HG.out.e.dice.lt
        have hks : Hid (Kp (fun j => j = db) wL _) := Lib.hid ((hk9.out.trans (Kp.of_below (Below.refl w9.heap.size w9).drew (fun _ => False)) (fun _ _ e => e.elim)).trans hkk (fun j hj e => by have e' : j = g' := e; omega))
        have hES := (hEN.keep (Below.refl _ _).drew).kp hkk (by have := hEN.below.size; exact this) (fun j hj e => by have e' : j = g' := e; omega) (by omega) HR.out
        generalize (w9.drew.setCells g' (o' + i * 5) (mmC y)).setCells g' (o' + k * 5) (mmC x) = wS at *
        have HTk : Hid ((swapL L i k x y)[trackF at' i k]? = M[me]?) := by
          obtain ⟨m, hm⟩ : ∃ m, M[me]? = some m := ⟨_, List.getElem?_eq_getElem hme⟩
          exact Lib.hid (by rw [hm]; exact track_at hx.out hy.out (Hat.out.trans hm))
        have HLn2 : Hid ((swapL L i k x y).length = M.length + N.length) := Lib.hid (by rw [swapL_len]; exact HLn.out)
        have HS3 : Hid (∀ z ∈ M ++ N, z ∈ swapL L i k x y) := Lib.hid (fun z hz => swapL_mem hx.out hy.out z (HS1.out z hz))
        have HS4 : Hid (∀ z ∈ swapL L i k x y, z ∈ M ++ N) := Lib.hid (fun z hz => HS2.out z (swapL_sub hx.out hy.out z hz))
        generalize swapL L i k x y = L2 at *
        obtain ⟨at2, hat2⟩ : ∃ t, t = trackF at' i k := ⟨_, rfl⟩
        rw [← hat2] at HTk
        unfold trackF at hat2
        have HAT := Lib.hid hat2
        clear hat2 hkk hgl hsw hOd ht1 ht2 hcx hcy hx hy hO9 hEN hk9 HLn Hat HS1 HS2 hHeld hil hil2 hkl hkl2 hrb hdl
        by_cases e1 : at' = i
        · obtain rfl : at2 = k := by rw [HAT.out, if_pos e1]
          subst e1
          go_wp2_with fail
          go_roundw
          case rel => exact ⟨at' + 1, at2, q7, L2, by omega, by go_num, rfl, HLn2, HTk, HS3, HS4, hO', hES, hks.out⟩
          case measure => simp [intOf]; omega
        have f1 : ¬ (at' : Int) = (i : Int) := by omega
        have f2 : ((at' : Int) == (i : Int)) = false := by rw [beq_eq_false_iff_ne]; exact f1
        have f3 : decide ((at' : Int) = (i : Int)) = false := decide_eq_false f1
        by_cases e2 : at' = k
        · obtain rfl : at2 = i := by rw [HAT.out, if_neg e1, if_pos e2]
          subst e2
          go_wp2_with fail
          go_roundw
          case rel => exact ⟨at2 + 1, at2, q7, L2, by omega, by go_num, rfl, HLn2, HTk, HS3, HS4, hO', hES, hks.out⟩
          case measure => simp [intOf]; omega
        · obtain rfl : at2 = at' := by rw [HAT.out, if_neg e1, if_neg e2]
          have f4 : ¬ (at2 : Int) = (k : Int) := by omega
          have f5 : ((at2 : Int) == (k : Int)) = false := by rw [beq_eq_false_iff_ne]; exact f4
          have f6 : decide ((at2 : Int) = (k : Int)) = false := decide_eq_false f4
          go_wp2_with fail
          go_roundw
          case rel => exact ⟨i + 1, at2, q7, L2, by omega, by go_num, rfl, HLn2, HTk, HS3, HS4, hO', hES, hks.out⟩
          case measure => simp [intOf]; omega
      · refine held_cons rfl (fun K hK => ?_) AllReadyH.nil
        have x0 := hcx 0 _ rfl
        have x1 := hcx 1 _ rfl
        have x2 := hcx 2 _ rfl
        have x3 := hcx 3 _ rfl
        have x4 := hcx 4 _ rfl
        change _ = some _ at x0
        change _ = some _ at x1
        change _ = some _ at x2
        change _ = some _ at x3
        change _ = some _ at x4
        rw [Nat.add_zero] at x0
        go_simp
        clear x0 x1 x2 x3 x4
        refine hK.out _ _ trivial (fun hHeld => ?_)
        clear hK K
        try simp only [Act.put, List.setIfInBounds_toArray, List.set_cons_zero, List.set_cons_succ]
        refine wpAnyH_ready (rs := [7]) (by kernel_rfl) (by simp) ?_
        refine held_cons rfl (fun K hK => ?_) AllReadyH.nil
        have x0 := hcy 0 _ rfl
        have x1 := hcy 1 _ rfl
        have x2 := hcy 2 _ rfl
        have x3 := hcy 3 _ rfl
        have x4 := hcy 4 _ rfl
        change _ = some _ at x0
        change _ = some _ at x1
        change _ = some _ at x2
        change _ = some _ at x3
        change _ = some _ at x4
        rw [Nat.add_zero] at x0
        go_simp
        clear x0 x1 x2 x3 x4
        refine hK.out _ _ trivial (fun hHeld => ?_)
        clear hK K
        try simp only [Act.put, List.setIfInBounds_toArray, List.set_cons_zero, List.set_cons_succ]
        refine held_take (12) (v := ?_) rfl (by kernel_rfl) (by kernel_rfl) (by kernel_rfl) (fun _ _ _ h => h) (Or.inl ⟨by rfl, ?_⟩) (by assumption) ?_
        rotate_left
        · intro w hSw
          try dsimp only at hSw
          go_simp
          with_reducible rfl
        try simp only [Act.put, List.setIfInBounds_toArray, List.set_cons_zero, List.set_cons_succ]
        refine wpAnyH_ready (rs := [13]) (by kernel_rfl) (by simp) ?_
        refine held_cons rfl (fun K hK => ?_) AllReadyH.nil
        refine step_store_row rfl 36 (.tmp 58) (.tmp 53) rfl g' (o' + i * 5) 5 (mmC y) rfl rfl rfl ht1 (by kernel_rfl) (mm_one1 y) ?_
        refine hK.out _ _ trivial (fun hHeld => ?_)
        clear hK K
        try simp only [Act.put]
        refine held_take (14) (v := ?_) rfl (by kernel_rfl) (by kernel_rfl) (by kernel_rfl) (fun _ _ _ h => h) (Or.inl ⟨by rfl, ?_⟩) (by assumption) ?_
        rotate_left
        · intro w hSw
          try dsimp only at hSw
          go_simp
          with_reducible rfl
        try simp only [Act.put, List.setIfInBounds_toArray, List.set_cons_zero, List.set_cons_succ]
        refine wpAnyH_ready (rs := [15]) (by kernel_rfl) (by simp) ?_
        refine held_cons rfl (fun K hK => ?_) AllReadyH.nil
        refine step_store_row rfl 36 (.tmp 59) (.tmp 57) rfl g' (o' + k * 5) 5 (mmC x) rfl rfl rfl ht2 (by kernel_rfl) (mm_one1 x) ?_
        refine hK.out _ _ trivial (fun hHeld => ?_)
        clear hK K
        try simp only [Act.put]
        refine wpAnyH_done (by kernel_rfl) ?_ _
        go_simp
        have hO' := hsw.out.1
        have hkk : Kp (fun j => j = g') w9.drew _ := Kp.of_grown hsw.out.2 (fun j e => (Option.some.inj e).symm)
        have hgl := (hOd.row g' rfl).1
        have hdl := HG.out.e.dice.lt
        have hks : Hid (Kp (fun j => j = db) wL _) := Lib.hid ((hk9.out.trans (Kp.of_below (Below.refl w9.heap.size w9).drew (fun _ => False)) (fun _ _ e => e.elim)).trans hkk (fun j hj e => by have e' : j = g' := e; omega))
        have hES := (hEN.keep (Below.refl _ _).drew).kp hkk (by have := hEN.below.size; exact this) (fun j hj e => by have e' : j = g' := e; omega) (by omega) HR.out
        generalize (w9.drew.setCells g' (o' + i * 5) (mmC y)).setCells g' (o' + k * 5) (mmC x) = wS at *
        have HTk : Hid ((swapL L i k x y)[trackF at' i k]? = M[me]?) := by
          obtain ⟨m, hm⟩ : ∃ m, M[me]? = some m := ⟨_, List.getElem?_eq_getElem hme⟩
          exact Lib.hid (by rw [hm]; exact track_at hx.out hy.out (Hat.out.trans hm))
        have HLn2 : Hid ((swapL L i k x y).length = M.length + N.length) := Lib.hid (by rw [swapL_len]; exact HLn.out)
        have HS3 : Hid (∀ z ∈ M ++ N, z ∈ swapL L i k x y) := Lib.hid (fun z hz => swapL_mem hx.out hy.out z (HS1.out z hz))
        have HS4 : Hid (∀ z ∈ swapL L i k x y, z ∈ M ++ N) := Lib.hid (fun z hz => HS2.out z (swapL_sub hx.out hy.out z hz))
        generalize swapL L i k x y = L2 at *
        obtain ⟨at2, hat2⟩ : ∃ t, t = trackF at' i k := ⟨_, rfl⟩
        rw [← hat2] at HTk
        unfold trackF at hat2
        have HAT := Lib.hid hat2
        clear hat2 hkk hgl hsw hOd ht1 ht2 hcx hcy hx hy hO9 hEN hk9 HLn Hat HS1 HS2 hHeld hil hil2 hkl hkl2 hrb hdl
        by_cases e1 : at' = i
        · obtain rfl : at2 = k := by rw [HAT.out, if_pos e1]
          subst e1
          go_wp2_with fail
          go_roundw
          case rel => exact ⟨at' + 1, at2, q7, L2, by omega, by go_num, rfl, HLn2, HTk, HS3, HS4, hO', hES, hks.out⟩
          case measure => simp [intOf]; omega
        have f1 : ¬ (at' : Int) = (i : Int) := by omega
        have f2 : ((at' : Int) == (i : Int)) = false := by rw [beq_eq_false_iff_ne]; exact f1
        have f3 : decide ((at' : Int) = (i : Int)) = false := decide_eq_false f1
        by_cases e2 : at' = k
        · obtain rfl : at2 = i := by rw [HAT.out, if_neg e1, if_pos e2]
          subst e2
          go_wp2_with fail
          go_roundw
          case rel => exact ⟨at2 + 1, at2, q7, L2, by omega, by go_num, rfl, HLn2, HTk, HS3, HS4, hO', hES, hks.out⟩
          case measure => simp [intOf]; omega
        · obtain rfl : at2 = at' := by rw [HAT.out, if_neg e1, if_neg e2]
          have f4 : ¬ (at2 : Int) = (k : Int) := by omega
          have f5 : ((at2 : Int) == (k : Int)) = false := by rw [beq_eq_false_iff_ne]; exact f4
          have f6 : decide ((at2 : Int) = (k : Int)) = false := decide_eq_false f4
          go_wp2_with fail
          go_roundw
          case rel => exact ⟨i + 1, at2, q7, L2, by omega, by go_num, rfl, HLn2, HTk, HS3, HS4, hO', hES, hks.out⟩
          case measure => simp [intOf]; omega
end Go.Proofs.Ytejdaeonknpgeaa
