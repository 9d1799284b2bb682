/- The kit's Condition. -/
import Derived.Test.YtejdaeonknpgeaaGreatDoorGCndK
namespace Go.Proofs.YtejdaeonknpgeaaGreatDoor
open Go.RowKit
theorem Cond.ret {fn : Func} {t : Tmp} (h : fn.results = #[.cell t 34]) (tmps : Array Value) {w : World} {g : Nat} {v0 : Value} (ht : tmps.getD t undef = .pointer (some ⟨g, 0, none⟩)) (hD : Bx w g 34 [v0]) :
    (results fn tmps).run Tryz.prog w = .ok (.agg #[v0]) w := by
  have c0 := hD.cell 0 (v := v0) rfl
  have ht' : tmps[t]?.getD undef = .pointer (some ⟨g, 0, none⟩) := by simpa using ht
  simp [results, h, ht', go_sem, c0]
/-- a condition that lies behind the dice -/
structure Cd (w : World) (db : Nat) (ta : Option Addr) (X : List Trm) : Prop where
  r : RdT w ta X
  a : ∀ j, rowOf ta = some j → db < j
  t : ∀ t ∈ X, ∀ j, rowOf t.aa = some j → db < j
theorem Cd.keep {w w' : World} {db : Nat} {ta : Option Addr} {X : List Trm} (h : Cd w db ta X) (hb : Below w.heap.size w w') : Cd w' db ta X := ⟨h.r.keep hb, h.a, h.t⟩
theorem RdT.kp {S : Nat → Prop} {w w' : World} {a : Option Addr} {T : List Trm} (h : RdT w a T) (hk : Kp S w w') (h1 : ∀ j, rowOf a = some j → ¬ S j) (h2 : ∀ t ∈ T, ∀ j, rowOf t.aa = some j → ¬ S j) : RdT w' a T :=
  ⟨h.rows.kp hk h1, fun t ht => (h.args t ht).kp hk (h2 t ht), h.ok⟩
theorem Cd.next {w w' : World} {db : Nat} {ta : Option Addr} {X : List Trm} (h : Cd w db ta X) (hg : w.grownBy w' (some db)) : Cd w' db ta X :=
  ⟨h.r.kp (Kp.of_grown hg (S := fun j => j = db) (fun j e => (Option.some.inj e).symm)) (fun j hj e => by have := h.a j hj; omega) (fun t ht j hj e => by have := h.t t ht j hj; omega), h.a, h.t⟩
/-- a condition as it is read: its slice has room for all that it holds -/
structure Cn (w : World) (a : Option Addr) (c : Nat) (T : List Trm) : Prop where
  r : RdT w a T
  c : T.length ≤ c
  l : T.length ≤ 1000
theorem Cn.keep {w w' : World} {a : Option Addr} {c : Nat} {T : List Trm} (h : Cn w a c T) (hb : Below w.heap.size w w') : Cn w' a c T := ⟨h.r.keep hb, h.c, h.l⟩
/-- a condition that was made behind the dice -/
structure Ce (w : World) (db : Nat) (ta : Option Addr) (tc : Nat) (X : List Trm) : Prop where
  d : Cd w db ta X
  lt : ∀ t ∈ X, ∀ j, rowOf t.aa = some j → j < w.heap.size
  c : X.length ≤ tc
theorem Ce.keep {w w' : World} {db : Nat} {ta : Option Addr} {tc : Nat} {X : List Trm} (h : Ce w db ta tc X) (hb : Below w.heap.size w w') : Ce w' db ta tc X := ⟨h.d.keep hb, fun t ht j hj => Nat.lt_of_lt_of_le (h.lt t ht j hj) hb.size, h.c⟩
theorem Ce.next {w w' : World} {db : Nat} {ta : Option Addr} {tc : Nat} {X : List Trm} (h : Ce w db ta tc X) (hg : w.grownBy w' (some db)) : Ce w' db ta tc X := ⟨h.d.next hg, fun t ht j hj => Nat.lt_of_lt_of_le (h.lt t ht j hj) hg.size, h.c⟩
set_option maxRecDepth 100000 in
set_option maxHeartbeats 1000000 in
/-- the kit's condition: its terms stand in order -/
theorem kcond_walk2 (W : World) (db : Nat) (p : Option Addr) (l : List Int) (cap q : Nat) (d : Nat) (w : World) (hl : l.length ≤ 281474976710656) (hd1 : 1 ≤ d) (hd4 : d ≤ 4) (hE : Env W w db p l cap q) (hW : W.heap.size ≤ db) (hR : Rd W p (ints l)) :
    Calls Tryz.prog 8 #[.pointer (some ⟨db, 0, none⟩), .int .i64 (d : Int)] w fun e w' => ∃ (X : List Trm) (ta : Option Addr) (tc q' : Nat), e = .returned (.agg #[.slice ta X.length tc]) ∧ GrowsAt d 0 X ∧ (1 ≤ X.length ∧ X.length ≤ szK d) ∧ Env W w' db p l cap q' ∧ Ce w' db ta tc X ∧ Kp (fun j => j = db) w w' := by
  have hdl := hE.dice.lt
  have b1 := (Below.refl w.heap.size w).alloc (Nat.le_refl _) (.cells #[.slice none 0 0] 34)
  have b2 := b1.alloc b1.size (.cells #[.slice none 0 0] 34)
  have h4 := (Bx.new w 34 [.slice none 0 0]).alloc (.cells #[.slice none 0 0] 34)
  change Bx ((w.alloc (.cells #[.slice none 0 0] 34)).alloc (.cells #[.slice none 0 0] 34)) _ _ _ at h4
  have h5 := Bx.new (w.alloc (.cells #[.slice none 0 0] 34)) 34 [.slice none 0 0]
  change Bx ((w.alloc (.cells #[.slice none 0 0] 34)).alloc (.cells #[.slice none 0 0] 34)) _ _ _ at h5
  obtain ⟨g4, hg4⟩ : ∃ g, g = w.heap.size := ⟨_, rfl⟩
  have hz : (w.alloc (.cells #[.slice none 0 0] 34)).heap.size = g4 + 1 := by rw [hg4]; simp
  have hbw : w.heap.size = g4 := hg4.symm
  rw [hz] at h5
  rw [← hg4] at h4 hdl
  have hK : Kc W ((w.alloc (.cells #[.slice none 0 0] 34)).alloc (.cells #[.slice none 0 0] 34)) db p l cap q (g4 + 1) none 0 [] :=
    ⟨hE.keep b2, h5, Ow.nil _ _ _, fun t ht => by simp at ht, fun t ht => by simp at ht, fun j hj => by simp [rowOf] at hj, by omega, hW, hR⟩
  have hs5 := h5.lt
  have HK0 : Hid (Kp (fun j => j = db) w _) := Lib.hid (Kp.of_below b2 (fun j => j = db))
  clear hg4 hz h5 hE b1 b2
  go_enter Tryz.func8, Tryz.ntmps8
  go_upto_region 2 with (fail)
  generalize (w.alloc (.cells #[.slice none 0 0] 34)).alloc (.cells #[.slice none 0 0] 34) = w2 at *
  have HBW := Lib.hid hbw
  clear hbw
  have KG := Lib.hid (kgrow_walk W db p l cap (g4 + 1) hl d q none 0 [] w2 hd1 hd4 (by
    have : szK d ≤ 1000 := by
      rcases (show d = 1 ∨ d = 2 ∨ d = 3 ∨ d = 4 by omega) with rfl | rfl | rfl | rfl
      all_goals decide
    simpa using this) hK)
  go_wp2_with (go_at_call 24; (with_reducible refine KG.out.mono ?_); (first | rintro e w3 ⟨X, ta, tc, q2, rfl, hKc, hGr, hxl, hkp, hrw, hfr⟩ | rintro e w3 X ta tc q2 rfl hKc hGr hxl hkp hrw hfr); have h43 := h4.kp hkp (by rintro (e | e | e); exact absurd e (by omega); exact absurd e (by omega); simp [rowOf] at e); have c5 := hKc.c.cell 0 rfl; have c4 := h43.cell 0 rfl; have f4 := h43.free 0)
  rw [List.nil_append] at hKc c5
  have hk := setCell_kp w3 g4 0 (.slice ta X.length tc) (S := fun j => j = g4) rfl
  have hrow : ∀ j, rowOf ta = some j → g4 < j := by
    intro j hj
    rcases hrw with e | ⟨j2, e, e2⟩
    · rw [e] at hj; simp [rowOf] at hj
    · have := Option.some.inj (e.symm.trans hj); omega
  have hrow2 : ∀ t ∈ X, ∀ j, rowOf t.aa = some j → g4 < j := fun t ht j hj => by have := hfr t ht j hj; omega
  have hE4 := hKc.env.kp hk (by have := hkp.size; omega) (fun j hj => by omega) (by omega) hR
  have hC : Cd (w3.setCell ⟨g4, 0, none⟩ (.slice ta X.length tc)) db ta X :=
    ⟨(⟨hKc.o.rd, fun t ht => (hKc.rows t ht).1, hKc.inn⟩ : RdT w3 ta X).kp hk (fun j hj e => by have := hrow j hj; omega) (fun t ht j hj e => by have := hrow2 t ht j hj; omega), fun j hj => by have := hrow j hj; omega, fun t ht j hj => by have := hrow2 t ht j hj; omega⟩
  have hF := h43.set 0 (.slice ta X.length tc)
  change Bx _ _ _ [.slice ta X.length tc] at hF
  have hkf : Kp (fun j => j = db) w (w3.setCell ⟨g4, 0, none⟩ (.slice ta X.length tc)) :=
    (HK0.out.trans hkp (fun j hj e => by
      have := HBW.out
      rcases e with e | e | e
      · exact e
      · omega
      · simp [rowOf] at e)).trans hk (fun j hj e => by have := HBW.out; omega)
  have hce : Ce (w3.setCell ⟨g4, 0, none⟩ (.slice ta X.length tc)) db ta tc X := ⟨hC, fun t ht j hj => Nat.lt_of_lt_of_le ((hKc.rows t ht).2 j hj).1 hk.size, hKc.o.2.1⟩
  exact bodyPost_ret (Cond.ret (t := 4) rfl _ rfl hF) rfl ⟨X, ta, tc, q2, rfl, hGr, hxl, hE4, hce, hkf⟩
theorem kcond_walk (W : World) (db : Nat) (p : Option Addr) (l : List Int) (cap q : Nat) (d : Nat) (w : World) (hl : l.length ≤ 281474976710656) (hd1 : 1 ≤ d) (hd4 : d ≤ 4) (hE : Env W w db p l cap q) (hW : W.heap.size ≤ db) (hR : Rd W p (ints l)) :
    Calls Tryz.prog 8 #[.pointer (some ⟨db, 0, none⟩), .int .i64 (d : Int)] w fun e w' => ∃ (X : List Trm) (ta : Option Addr) (tc q' : Nat), e = .returned (.agg #[.slice ta X.length tc]) ∧ GrowsAt d 0 X ∧ (1 ≤ X.length ∧ X.length ≤ szK d) ∧ Env W w' db p l cap q' ∧ Cd w' db ta X ∧ Kp (fun j => j = db) w w' :=
  (kcond_walk2 W db p l cap q d w hl hd1 hd4 hE hW hR).mono fun _ _ ⟨X, ta, tc, q', h1, h2, h3, h4, h5, h6⟩ => ⟨X, ta, tc, q', h1, h2, h3, h4, h5.d, h6⟩
end Go.Proofs.YtejdaeonknpgeaaGreatDoor
