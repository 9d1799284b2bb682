/- Rings of keys: whoever says that they know a secret. -/
import Derived.Test.YtcnffdgmdeflmaaGreatDoorGRateC
import Derived.Lib.QuietBelow
import Derived.Test.YtcnffdgmdeflmaaGreatDoorGDice
namespace Go.Proofs.YtcnffdgmdeflmaaGreatDoor
open Go.RowKit
/-- what is wrong with whoever says that they know the secret of a key -/
def allowF (p : Nat) (keys : List Int) (me secret : Int) : Int :=
  if keysOk p keys = false then 44
  else if ¬ (0 ≤ me ∧ me < keys.length) then 5
  else if ¬ (0 ≤ secret ∧ secret < p) ∨ ((gpw p 4 secret : Nat) : Int) ≠ keys.getD me.toNat 0 then 47
  else 0
set_option maxRecDepth 100000 in
set_option maxHeartbeats 4000000 in
theorem allowed_walk (p : Nat) (a : Option Addr) (keys : List Int) (cap : Nat) (me secret : Int) (w : World) (hB : Bases w) (hs : safeP (p : Int) = true) (hR : Rd w a (ints keys)) (hl : keys.length ≤ 281474976710656) :
    Calls Tryz.prog 25 #[.int .i64 (p : Int), .slice a keys.length cap, .int .i64 me, .int .i64 secret] w fun e w' => e = .returned (.int .i64 (allowF p keys me secret)) ∧ Below w.heap.size w w' := by
  obtain ⟨h3, h30, -⟩ := safeP_bd hs
  have KS := Lib.hid (fun V h => ratesafe_walk (p : Int) V h hs)
  have KM := Lib.hid (fun V h hV => rmembers_walk p a keys cap V h hs hV hl)
  have KP := Lib.hid (fun V => hPublic_walk p secret V (by omega) (by omega))
  clear hs
  cases hk : keysOk p keys with
  | false =>
    have HA := Lib.hid (show allowF p keys me secret = 44 by rw [allowF, if_pos hk])
    rw [hk] at KM
    clear hk
    go_enter Tryz.func25, Tryz.ntmps25
    go_wp2_with (go_at_call 34; (with_reducible refine (KS.out _ hB).mono ?_))
    rintro e w1 ⟨rfl, rfl⟩
    go_wp2_with (go_at_call 35; (with_reducible refine (KM.out _ hB hR).mono ?_))
    rintro e w1 ⟨rfl, hb1⟩
    go_wp2
    go_ret
    exact ⟨by rw [HA.out]; rfl, hb1⟩
  | true =>
    rw [hk] at KM
    by_cases hme : 0 ≤ me ∧ me < keys.length
    rotate_left
    · have HA := Lib.hid (show allowF p keys me secret = 5 by rw [allowF, if_neg (by rw [hk]; decide), if_pos hme])
      have hw : IntKind.i64.wrap ((keys.length : Int) - 1) = (keys.length : Int) - 1 := by rw [IntKind.wrap_i64]; omega
      have HI := Lib.hid (fun V : World => in_no (n := me) (lo := 0) (hi := (keys.length : Int) - 1) V (by omega))
      clear hk hme
      go_enter Tryz.func25, Tryz.ntmps25
      go_wp2_with (go_at_call 34; (with_reducible refine (KS.out _ hB).mono ?_))
      rintro e w1 ⟨rfl, rfl⟩
      go_wp2_with (go_at_call 35; (with_reducible refine (KM.out _ hB hR).mono ?_))
      rintro e w1 ⟨rfl, hb1⟩
      go_wp2_with (go_at_call 54; (with_reducible refine (HI.out _).mono ?_))
      rintro e w2 ⟨rfl, rfl⟩
      go_wp2
      go_ret
      exact ⟨by rw [HA.out]; rfl, hb1⟩
    obtain ⟨j, rfl, hj⟩ : ∃ j : Nat, me = (j : Int) ∧ j < keys.length := ⟨me.toNat, by omega, by omega⟩
    have hw : IntKind.i64.wrap ((keys.length : Int) - 1) = (keys.length : Int) - 1 := by rw [IntKind.wrap_i64]; omega
    have HI := Lib.hid (fun V : World => in_yes (n := (j : Int)) (lo := 0) (hi := (keys.length : Int) - 1) V (by omega))
    have hw2 : IntKind.i64.wrap ((p : Int) - 1) = (p : Int) - 1 := by rw [IntKind.wrap_i64]; omega
    have hji : (j : Int) < (keys.length : Int) := by omega
    by_cases hsc : 0 ≤ secret ∧ secret < p
    rotate_left
    · have HA := Lib.hid (show allowF p keys j secret = 47 by rw [allowF, if_neg (by rw [hk]; decide), if_neg (fun h => h hme), if_pos (.inl hsc)])
      have HJ := Lib.hid (fun V : World => in_no (n := secret) (lo := 0) (hi := (p : Int) - 1) V (by omega))
      clear hk hme hsc
      go_enter Tryz.func25, Tryz.ntmps25
      go_wp2_with (go_at_call 34; (with_reducible refine (KS.out _ hB).mono ?_))
      rintro e w1 ⟨rfl, rfl⟩
      go_wp2_with (go_at_call 35; (with_reducible refine (KM.out _ hB hR).mono ?_))
      rintro e w1 ⟨rfl, hb1⟩
      go_wp2_with (go_at_call 54; (with_reducible refine (HI.out _).mono ?_))
      rintro e w2 ⟨rfl, rfl⟩
      go_wp2_with fail
      refine wp_region_quiet_below (by kernel_rfl) (by kernel_rfl) ?_
      repeat (go_big_quiet_step (first | (go_at_call 54; with_reducible exact Calls.regrown_of (Calls.calm (HJ.out _)))))
      refine wpQuiet_nil ?_
      rintro w3 ⟨p2, rfl⟩
      have hb3 := below_tr hb1 (below_regrown _ p2.d p2.os)
      go_wp2
      go_ret
      exact ⟨by rw [HA.out]; rfl, hb3⟩
    have HJ := Lib.hid (fun V : World => in_yes (n := secret) (lo := 0) (hi := (p : Int) - 1) V (by omega))
    obtain ⟨g, off, x, rfl, -, hx⟩ := hR.int (k := j) hj
    have HX := Lib.hid (fun V (h : Rd V (some ⟨g, off, none⟩) (ints keys)) => (show V.cell? ⟨g, off + j, none⟩ = some (.int .i64 x) by
      obtain ⟨g', off', x', e, hc, hx'⟩ := h.int (k := j) hj
      cases e
      rw [← same_at hx hx']
      exact hc))
    have hgx : keys.getD j 0 = x := by rw [List.getD, hx.out]; rfl
    by_cases hpub : ((gpw p 4 secret : Nat) : Int) = x
    · have HA := Lib.hid (show allowF p keys j secret = 0 by
        rw [allowF, if_neg (by rw [hk]; decide), if_neg (fun h => h hme), if_neg]
        rintro (h | h)
        · exact h hsc
        · rw [Int.toNat_natCast, hgx] at h; exact h hpub)
      have t1 : (((gpw p 4 secret : Nat) : Int) != x) = false := by rw [bne_eq_false_iff_eq]; exact hpub
      generalize gpw p 4 secret = z at *
      clear hk hme hsc hpub hgx hx
      go_enter Tryz.func25, Tryz.ntmps25
      go_wp2_with (go_at_call 34; (with_reducible refine (KS.out _ hB).mono ?_))
      rintro e w1 ⟨rfl, rfl⟩
      go_wp2_with (go_at_call 35; (with_reducible refine (KM.out _ hB hR).mono ?_))
      rintro e w1 ⟨rfl, hb1⟩
      have d1 := fun d os => cell_regrown (HX.out _ (hR.keep hb1)) d os
      go_wp2_with (go_at_call 54; (with_reducible refine (HI.out _).mono ?_))
      rintro e w2 ⟨rfl, rfl⟩
      go_wp2_with fail
      refine wp_region_quiet_below (by kernel_rfl) (by kernel_rfl) ?_
      repeat (go_big_quiet_step (first | (go_at_call 54; with_reducible exact Calls.regrown_of (Calls.calm (HJ.out _))) | (go_at_call 55; with_reducible exact Calls.regrown_of (KP.out _))))
      refine wpQuiet_nil ?_
      rintro w3 ⟨p2, rfl⟩
      have hb3 := below_tr hb1 (below_regrown _ p2.d p2.os)
      go_wp2
      go_ret
      exact ⟨by rw [HA.out]; rfl, hb3⟩
    · have HA := Lib.hid (show allowF p keys j secret = 47 by
        rw [allowF, if_neg (by rw [hk]; decide), if_neg (fun h => h hme), if_pos (.inr (by rw [Int.toNat_natCast, hgx]; exact hpub))])
      have t1 : (((gpw p 4 secret : Nat) : Int) != x) = true := by rw [bne_iff_ne]; exact hpub
      generalize gpw p 4 secret = z at *
      clear hk hme hsc hpub hgx hx
      go_enter Tryz.func25, Tryz.ntmps25
      go_wp2_with (go_at_call 34; (with_reducible refine (KS.out _ hB).mono ?_))
      rintro e w1 ⟨rfl, rfl⟩
      go_wp2_with (go_at_call 35; (with_reducible refine (KM.out _ hB hR).mono ?_))
      rintro e w1 ⟨rfl, hb1⟩
      have d1 := fun d os => cell_regrown (HX.out _ (hR.keep hb1)) d os
      go_wp2_with (go_at_call 54; (with_reducible refine (HI.out _).mono ?_))
      rintro e w2 ⟨rfl, rfl⟩
      go_wp2_with fail
      refine wp_region_quiet_below (by kernel_rfl) (by kernel_rfl) ?_
      repeat (go_big_quiet_step (first | (go_at_call 54; with_reducible exact Calls.regrown_of (Calls.calm (HJ.out _))) | (go_at_call 55; with_reducible exact Calls.regrown_of (KP.out _))))
      refine wpQuiet_nil ?_
      rintro w3 ⟨p2, rfl⟩
      have hb3 := below_tr hb1 (below_regrown _ p2.d p2.os)
      go_wp2
      go_ret
      exact ⟨by rw [HA.out]; rfl, hb3⟩
end Go.Proofs.YtcnffdgmdeflmaaGreatDoor
/- The dice beside what lay before: what a law's walk keeps. -/
namespace Go.Proofs.YtcnffdgmdeflmaaGreatDoor
open Go.RowKit
/-- the dice, what they give out of, and that what lay before is as it was -/
structure Env (W w : World) (db : Nat) (p : Option Addr) (l : List Int) (cap k : Nat) : Prop where
  dice : Dice w db p l cap k
  rd : Rd w p (ints l)
  below : Below W.heap.size W w
theorem Env.keep {W w w' : World} {db : Nat} {p : Option Addr} {l : List Int} {cap k : Nat} (h : Env W w db p l cap k) (hb : Below w.heap.size w w') : Env W w' db p l cap k :=
  ⟨h.dice.keep hb, h.rd.keep hb, h.below.trans (hb.mono h.below.size)⟩
theorem Env.alloc {W w : World} {db : Nat} {p : Option Addr} {l : List Int} {cap k : Nat} (h : Env W w db p l cap k) (o : Obj) : Env W (w.alloc o) db p l cap k :=
  h.keep ((Below.refl _ _).alloc (Nat.le_refl _) _)
theorem Env.grown {W w w' : World} {db : Nat} {p : Option Addr} {l : List Int} {cap k k' : Nat} (h : Env W w db p l cap k) (hne : 0 < l.length → ∀ g off, p = some ⟨g, off, none⟩ → g ≠ db) (hdb : W.heap.size ≤ db)
    (hD : Dice w' db p l cap k') (hg : w.grownBy w' (some db)) : Env W w' db p l cap k' := by
  refine ⟨hD, ?_, h.below.grown hg h.below.size (by intro j hj; simp at hj; omega)⟩
  by_cases h0 : 0 < l.length
  · exact h.rd.grown hg (by intro g off hp; have := hne h0 g off hp; simp; omega)
  · have : l = [] := List.eq_nil_of_length_eq_zero (by omega)
    subst this
    exact Rd.nil _ _
theorem Env.set {W w : World} {db : Nat} {p : Option Addr} {l : List Int} {cap k : Nat} (h : Env W w db p l cap k) (g o : Nat) (v : Value) (hg : g ≠ db) (hg2 : W.heap.size ≤ g) (hne : 0 < l.length → ∀ g' off, p = some ⟨g', off, none⟩ → g' ≠ g) : Env W (w.setCell ⟨g, o, none⟩ v) db p l cap k := by
  have hgr : w.grownBy (w.setCell ⟨g, o, none⟩ v) (some g) := ⟨rfl, rfl, rfl, by simp, fun k _ hk => heap_setCell_other w ⟨g, o, none⟩ k v (fun e => hk (by simp [e]))⟩
  refine ⟨h.dice.grown hgr (by simp; omega), ?_, h.below.setCell (p := ⟨g, o, none⟩) hg2 v⟩
  by_cases h0 : 0 < l.length
  · exact h.rd.grown hgr (by intro g' off hp; have := hne h0 g' off hp; simp; omega)
  · have : l = [] := List.eq_nil_of_length_eq_zero (by omega)
    subst this
    exact Rd.nil _ _
theorem Env.row {W w w' : World} {db : Nat} {p : Option Addr} {l : List Int} {cap k : Nat} (h : Env W w db p l cap k) {row : Option Nat} (hg : w.grownBy w' row) (hr : ∀ j, row = some j → db < j) (hdb : W.heap.size ≤ db) (hR : Rd W p (ints l)) : Env W w' db p l cap k := by
  refine ⟨h.dice.grown hg (fun e => by have := hr _ e.symm; omega), ?_, h.below.grown hg h.below.size (fun j hj => by have := hr j hj; omega)⟩
  by_cases h0 : 0 < l.length
  · refine h.rd.grown hg (fun g off hp e => ?_)
    have := hr _ e.symm
    exact rd_ne hR (show W.heap.size ≤ g by omega) h0 g off hp rfl
  · have : l = [] := List.eq_nil_of_length_eq_zero (by omega)
    subst this
    exact Rd.nil _ _
end Go.Proofs.YtcnffdgmdeflmaaGreatDoor
/- The play's choice: one of some numbers. -/
namespace Go.Proofs.YtcnffdgmdeflmaaGreatDoor
open Go.RowKit
/-- the number that Of gives -/
def ofF (l : List Int) (k : Nat) (xs : List Int) : Int := xs.getD (dnum l k (xs.length : Int)).toNat 0
theorem ofF_mem (l : List Int) (k : Nat) (xs : List Int) (h : 1 ≤ xs.length) : ofF l k xs ∈ xs := by
  have h1 := dnum_lo l k (n := (xs.length : Int)) (by omega)
  have h2 := dnum_hi l k (n := (xs.length : Int)) (by omega)
  rw [ofF, List.getD, List.getElem?_eq_getElem (show (dnum l k (xs.length : Int)).toNat < xs.length by omega)]
  exact List.getElem_mem _
set_option maxRecDepth 100000 in
theorem of_walk (d : Nat) (p : Option Addr) (l : List Int) (cap k : Nat) (g : Nat) (xs : List Int) (xc : Nat) (w : World) (hD : Dice w d p l cap k) (hR : Rd w p (ints l)) (hne : 0 < l.length → ∀ g off, p = some ⟨g, off, none⟩ → g ≠ d) (hlen : l.length ≤ 281474976710656)
    (hX : Rd w (some ⟨g, 0, none⟩) (ints xs)) (hgd : g ≠ d) (hx1 : 1 ≤ xs.length) (hx2 : xs.length ≤ 1000) :
    Calls Tryz.prog 19 #[.pointer (some ⟨d, 0, none⟩), .slice (some ⟨g, 0, none⟩) xs.length xc] w fun e w' => e = .returned (.int .i64 (ofF l k xs)) ∧ (Dice w' d p l cap (dnxt l k) ∧ w.grownBy w' (some d)) := by
  obtain ⟨n, hn⟩ : ∃ n, n = xs.length := ⟨_, rfl⟩
  have hof : ofF l k xs = xs.getD (dnum l k (n : Int)).toNat 0 := by rw [ofF, hn]
  have HOF := Lib.hid hof
  have HN := Lib.hid hn
  rw [← hn]
  rw [← hn] at hx1 hx2
  clear hof hn
  go_enter Tryz.func19, Tryz.ntmps19
  go_wp2_with (go_at_call 9; (with_reducible refine (next_walk d p l cap k (n : Int) _ hD hR hne hlen (by omega) (by omega)).mono ?_))
  rintro e w1 ⟨rfl, hD1, hg1⟩
  have h1 := dnum_lo l k (n := (n : Int)) (by omega)
  have h2 := dnum_hi l k (n := (n : Int)) (by omega)
  obtain ⟨j, hj⟩ : ∃ j : Nat, dnum l k (n : Int) = (j : Int) := ⟨(dnum l k (n : Int)).toNat, by omega⟩
  have hof := HOF.out
  rw [hj, Int.toNat_natCast] at hof
  rw [hj] at h1 h2 ⊢
  have hjn : j < n := by omega
  obtain ⟨g', off, x, he, hcell, hx⟩ := (hX.grown hg1 (by intro g' off h; simp at h ⊢; omega)).int (k := j) (by rw [← HN.out]; exact hjn)
  simp only [Option.some.injEq, Addr.mk.injEq, and_true] at he
  obtain ⟨rfl, rfl⟩ := he
  rw [Nat.zero_add] at hcell
  have hox : ofF l k xs = x := by rw [hof, List.getD, hx.out]; rfl
  have HO := Lib.hid hox
  clear hof hox hj HOF hx
  go_wp2
  go_ret
  exact ⟨ret_int HO.out.symm, hD1, hg1⟩
end Go.Proofs.YtcnffdgmdeflmaaGreatDoor
/- The play's numbers: a safe prime, a list that follows from a seed. -/
namespace Go.Proofs.YtcnffdgmdeflmaaGreatDoor
open Go.RowKit
def safesL : List Int := [11, 23, 500000003, 29, 53, 83]
set_option maxRecDepth 100000 in
theorem psafe_walk (db : Nat) (p : Option Addr) (l : List Int) (cap q : Nat) (W w : World) (hE : Env W w db p l cap q) (hR : Rd W p (ints l)) (hdb : W.heap.size ≤ db) (hlen : l.length ≤ 281474976710656) :
    Calls Tryz.prog 14 #[.pointer (some ⟨db, 0, none⟩)] w fun e w' => e = .returned (.int .i64 (ofF l q safesL)) ∧ Env W w' db p l cap (dnxt l q) := by
  have hE5 := hE.keep ((Below.refl _ _).alloc (Nat.le_refl _) (.cells #[.int .i64 11, .int .i64 23, .int .i64 500000003, .int .i64 29, .int .i64 53, .int .i64 83] 3))
  have hX : Rd (w.alloc (.cells #[.int .i64 11, .int .i64 23, .int .i64 500000003, .int .i64 29, .int .i64 53, .int .i64 83] 3)) (some ⟨w.heap.size, 0, none⟩) (ints safesL) := Rd.mk fun j u hj => by rw [Nat.zero_add, World.cell?_alloc_at _ _ _ _ rfl]; simpa [ints, safesL] using hj
  have K1 : Hid (Calls Tryz.prog 19 #[.pointer (some ⟨db, 0, none⟩), .slice (some ⟨w.heap.size, 0, none⟩) 6 6] (w.alloc (.cells #[.int .i64 11, .int .i64 23, .int .i64 500000003, .int .i64 29, .int .i64 53, .int .i64 83] 3)) fun e w' => e = .returned (.int .i64 (ofF l q safesL)) ∧ (Dice w' db p l cap (dnxt l q) ∧ (w.alloc (.cells #[.int .i64 11, .int .i64 23, .int .i64 500000003, .int .i64 29, .int .i64 53, .int .i64 83] 3)).grownBy w' (some db))) := Lib.hid (of_walk db p l cap q w.heap.size safesL 6 _ hE5.dice hE5.rd (rd_ne hR hdb) hlen hX (by have := hE.dice.lt; omega) (by decide) (by decide))
  have HE := Lib.hid hE5
  have HN := Lib.hid (rd_ne hR hdb)
  clear hE hE5 hX hR
  go_enter Tryz.func14, Tryz.ntmps14
  go_wp2_with (go_at_call 19; (with_reducible refine K1.out.mono ?_))
  rintro e w1 ⟨rfl, hD, hg⟩
  have HF := Lib.hid (HE.out.grown HN.out hdb hD hg)
  clear K1 hD hg
  go_wp2
  go_ret
  exact ⟨rfl, HF.out⟩
end Go.Proofs.YtcnffdgmdeflmaaGreatDoor
/- Marks of handles: the program's. -/
namespace Go.Proofs.YtcnffdgmdeflmaaGreatDoor
open Go.RowKit
set_option maxRecDepth 100000 in
set_option maxHeartbeats 2000000 in
theorem mark_ok (p h : Nat) (secret : Int) (w : World) (hB : Bases w) (hs : safeP (p : Int) = true) (h1 : h ≠ 1) (hm : memZ p (h : Int) = true) (hsc : 1 ≤ secret ∧ secret < p) :
    Calls Tryz.prog 46 #[.int .i64 (p : Int), .int .i64 (h : Int), .int .i64 secret] w fun e w' => e = .returned (.tuple #[.string ⟨(putInt ((gpw p h secret : Nat) : Int)).toArray⟩, .int .i64 0]) ∧ Below w.heap.size w w' := by
  obtain ⟨h3, h30, -⟩ := safeP_bd hs
  have hmb : (0 : Int) < (h : Int) ∧ (h : Int) < 2 * (p : Int) + 1 := by
    simp only [memZ, memH, Bool.and_eq_true, decide_eq_true_eq] at hm
    omega
  have KS := Lib.hid (fun V h => ratesafe_walk (p : Int) V h hs)
  have KM := Lib.hid (fun V hB => hMember_walk p (h : Int) V hB hs)
  rw [hm] at KM
  have KP := Lib.hid (fun V => hPower_walk p h secret V (by omega) (by omega) (by omega))
  have hg := gpw_lt p h secret
  have KT := Lib.hid (fun V => putInt_nil ((gpw p h secret : Nat) : Int) V ⟨by omega, by omega⟩)
  have hw2 : IntKind.i64.wrap ((p : Int) - 1) = (p : Int) - 1 := by rw [IntKind.wrap_i64]; omega
  have HI := Lib.hid (fun V : World => in_yes (n := secret) (lo := 1) (hi := (p : Int) - 1) V (by omega))
  have t1 : ((h : Int) == 1) = false := by rw [beq_eq_false_iff_ne]; omega
  generalize gpw p h secret = y at *
  clear hs hm hmb hsc h1 hg
  go_enter Tryz.func46, Tryz.ntmps46
  go_wp2_with (go_at_call 34; (with_reducible refine (KS.out _ hB).mono ?_))
  rintro e w1 ⟨rfl, rfl⟩
  go_wp2_with (go_at_call 66; (with_reducible refine (KM.out _ hB).mono ?_))
  rintro e w2 ⟨rfl, hb2⟩
  go_wp2_with (go_at_call 54; (with_reducible refine (HI.out _).mono ?_))
  rintro e w3 ⟨rfl, rfl⟩
  go_wp2_with (go_at_call 27; (with_reducible refine (KP.out _).mono ?_))
  rintro e w4 ⟨rfl, hb4⟩
  go_wp2_with (go_at_call 74; (with_reducible refine (KT.out _).mono ?_))
  rintro e w5 ⟨rfl, hb5⟩
  go_wp2
  go_ret2
  exact ⟨rfl, below_tr (below_tr hb2 hb4) hb5⟩
end Go.Proofs.YtcnffdgmdeflmaaGreatDoor
