/- Stamps of a witness: how one is made. -/
import Derived.Test.YtgfcknadjijinaaDoorGCustodyN
import Derived.Test.YtgfcknadjijinaaDoorRegion
namespace Go.Proofs.YtgfcknadjijinaaDoor
open Go.RowKit
def Stm.zero : Stm := ⟨⟨0, [], [], 0⟩, 0, 0, 0, 0⟩
theorem Bx.stm {fn : Func} {t u : Tmp} (h : fn.results = #[.cell t 33, .tmp u]) (tmps : Array Value) {w : World} {g : Nat} {x : Stm} (ht : tmps.getD t undef = .pointer (some ⟨g, 0, none⟩)) (hD : Bx w g 33 x.cells) :
    (results fn tmps).run Tryd.prog w = .ok (.tuple #[x.val, tmps.getD u undef]) w := by
  have c0 := hD.cell 0 rfl
  have c1 := hD.cell 1 rfl
  have c2 := hD.cell 2 rfl
  have c3 := hD.cell 3 rfl
  have c4 := hD.cell 4 rfl
  have c5 := hD.cell 5 rfl
  have c6 := hD.cell 6 rfl
  have c7 := hD.cell 7 rfl
  have ht' : tmps[t]?.getD undef = .pointer (some ⟨g, 0, none⟩) := by simpa using ht
  simp [results, h, ht', go_sem, c0, c1, c2, c3, c4, c5, c6, c7]
theorem Bx.setStm {w : World} {g : Nat} {t : TypeId} {y : Stm} (h : Bx w g t y.cells) (x : Stm) :
    Bx ((((((((w.setCell ⟨g, 0, none⟩ (.int .i64 x.head.count)).setCell ⟨g, 1, none⟩ (.string ⟨x.head.last.toArray⟩)).setCell ⟨g, 2, none⟩ (.string ⟨x.head.root.toArray⟩)).setCell ⟨g, 3, none⟩ (.int .i64 x.head.time)).setCell ⟨g, 4, none⟩ (.int .i64 x.seen)).setCell ⟨g, 5, none⟩ (.int .i64 x.key)).setCell ⟨g, 6, none⟩ (.int .i64 x.r)).setCell ⟨g, 7, none⟩ (.int .i64 x.s)) g t x.cells :=
  (((((((h.set 0 _).set 1 _).set 2 _).set 3 _).set 4 _).set 5 _).set 6 _).set 7 _
theorem below8 {B g : Nat} {w w1 : World} (h : Below B w w1) (hg : B ≤ g) (a b c d e f x y : Value) :
    Below B w ((((((((w1.setCell ⟨g, 0, none⟩ a).setCell ⟨g, 1, none⟩ b).setCell ⟨g, 2, none⟩ c).setCell ⟨g, 3, none⟩ d).setCell ⟨g, 4, none⟩ e).setCell ⟨g, 5, none⟩ f).setCell ⟨g, 6, none⟩ x).setCell ⟨g, 7, none⟩ y) :=
  (((((((h.setCell (p := ⟨g, 0, none⟩) hg a).setCell (p := ⟨g, 1, none⟩) hg b).setCell (p := ⟨g, 2, none⟩) hg c).setCell (p := ⟨g, 3, none⟩) hg d).setCell (p := ⟨g, 4, none⟩) hg e).setCell (p := ⟨g, 5, none⟩) hg f).setCell (p := ⟨g, 6, none⟩) hg x).setCell (p := ⟨g, 7, none⟩) hg y
abbrev zeroB : Obj := .cells #[.int .i64 0, .string ⟨#[]⟩, .string ⟨#[]⟩, .int .i64 0, .int .i64 0, .int .i64 0, .int .i64 0, .int .i64 0] 33
abbrev headB (h : Head) : Obj := .cells #[.int .i64 h.count, .string ⟨h.last.toArray⟩, .string ⟨h.root.toArray⟩, .int .i64 h.time] 29
set_option maxRecDepth 100000 in
set_option maxHeartbeats 1000000 in
theorem wstamp_late (p key nonce : Int) (h : Head) (seen : Int) (w : World) (hs : seen < h.time) :
    Calls Tryd.prog 10 #[.int .i64 p, .int .i64 key, .int .i64 nonce, h.val, .int .i64 seen] w fun e w' => e = .returned (.tuple #[Stm.zero.val, .int .i64 16]) ∧ Below w.heap.size w w' := by
  obtain ⟨n, l, r, t⟩ := h
  dsimp only at hs ⊢
  have hb0 := ((Below.refl w.heap.size w).alloc (Nat.le_refl _) (headB ⟨n, l, r, t⟩)).alloc (by simp) zeroB
  have hk := Bx.new (w.alloc (headB ⟨n, l, r, t⟩)) 33 Stm.zero.cells
  rw [World.size_alloc] at hk
  go_enter Tryd.func10, Tryd.ntmps10
  go_wp2
  exact bodyPost_ret (Bx.stm (x := Stm.zero) (t := 10) (u := 11) rfl _ rfl hk) rfl ⟨rfl, hb0⟩
set_option maxRecDepth 100000 in
set_option maxHeartbeats 2000000 in
theorem wstamp_no (p key nonce : Int) (h : Head) (seen : Int) (w : World) (hB : Bases w) (hI : h.In) (hsn : I64 seen) (hs : h.time ≤ seen) (hno : safeP p = false ∨ key < 1 ∨ p ≤ key ∨ nonce < 1 ∨ p ≤ nonce) :
    Calls Tryd.prog 10 #[.int .i64 p, .int .i64 key, .int .i64 nonce, h.val, .int .i64 seen] w fun e w' => e = .returned (.tuple #[Stm.zero.val, .int .i64 2]) ∧ Below w.heap.size w w' := by
  have k1 : ∀ V, Calls Tryd.prog 23 #[h.val, .int .i64 seen] V fun e w' => e = .returned (.string ⟨(wtextF h seen).toArray⟩) ∧ Below V.heap.size V w' := fun V => wtext_walk h seen V hI hsn
  have k2 : ∀ V, Bases V → Calls Tryd.prog 22 #[.int .i64 p, .int .i64 key, .int .i64 nonce, .string ⟨(wtextF h seen).toArray⟩] V fun e w' => e = .returned (.tuple #[.agg #[.int .i64 0, .int .i64 0], .int .i64 2]) ∧ Below V.heap.size V w' := fun V hV => hsign_no p key nonce _ V hV hno
  generalize wtextF h seen = tx at *
  obtain ⟨n, l, r, t⟩ := h
  dsimp only [Head.val] at hs k1 ⊢
  have K1 := Lib.hid k1
  have K2 := Lib.hid k2
  have hb0 := ((Below.refl w.heap.size w).alloc (Nat.le_refl _) (headB ⟨n, l, r, t⟩)).alloc (by simp) zeroB
  have hk := Bx.new (w.alloc (headB ⟨n, l, r, t⟩)) 33 Stm.zero.cells
  rw [World.size_alloc] at hk
  replace hB := hB.keep hb0
  have HB := Lib.hid hB
  clear k1 k2 hno hI hsn hB
  go_enter Tryd.func10, Tryd.ntmps10
  go_wp2_with (go_at_call 23; (with_reducible refine (K1.out _).mono ?_))
  rintro e w1 ⟨rfl, hb1⟩
  replace hk := hk.keep hb1
  have HB1 := Lib.hid (HB.out.keep hb1)
  replace hb0 := hb0.trans (hb1.mono hb0.size)
  clear hb1 HB
  go_wp2_with (go_at_call 22; (with_reducible refine (K2.out _ HB1.out).mono ?_))
  rintro e w2 ⟨rfl, hb1⟩
  replace hk := hk.keep hb1
  replace hb0 := hb0.trans (hb1.mono hb0.size)
  have hgw := hk.lt
  clear hb1 HB1
  obtain ⟨g, hg⟩ : ∃ g, g = w.heap.size + 1 := ⟨_, rfl⟩
  have hwg : w.heap.size ≤ g := by omega
  rw [← hg] at hk hgw ⊢
  clear hg
  go_upto_region 5 with (fail)
  replace hk := hk.alloc (.cells #[.int .i64 0, .int .i64 0] 31)
  replace hb0 := hb0.alloc hb0.size (.cells #[.int .i64 0, .int .i64 0] 31)
  clear hgw
  generalize w2.alloc (.cells #[.int .i64 0, .int .i64 0] 31) = w3 at *
  have c0 : w3.cell? ⟨g, 0, none⟩ = some (.int .i64 0) := hk.cell 0 rfl
  have c1 : w3.cell? ⟨g, 1, none⟩ = some (.string ⟨#[]⟩) := hk.cell 1 rfl
  have c2 : w3.cell? ⟨g, 2, none⟩ = some (.string ⟨#[]⟩) := hk.cell 2 rfl
  have c3 : w3.cell? ⟨g, 3, none⟩ = some (.int .i64 0) := hk.cell 3 rfl
  have c4 : w3.cell? ⟨g, 4, none⟩ = some (.int .i64 0) := hk.cell 4 rfl
  have c5 : w3.cell? ⟨g, 5, none⟩ = some (.int .i64 0) := hk.cell 5 rfl
  have c6 : w3.cell? ⟨g, 6, none⟩ = some (.int .i64 0) := hk.cell 6 rfl
  have c7 : w3.cell? ⟨g, 7, none⟩ = some (.int .i64 0) := hk.cell 7 rfl
  have f0 := hk.free 0
  have f1 := hk.free 1
  have f2 := hk.free 2
  have f3 := hk.free 3
  have f4 := hk.free 4
  have f5 := hk.free 5
  have f6 := hk.free 6
  have f7 := hk.free 7
  go_wp2
  exact bodyPost_ret (Bx.stm (x := Stm.zero) (t := 10) (u := 11) rfl _ rfl (hk.setStm (y := Stm.zero) Stm.zero)) rfl ⟨rfl, below8 hb0 hwg _ _ _ _ _ _ _ _⟩
set_option maxRecDepth 100000 in
set_option maxHeartbeats 4000000 in
theorem wstamp_yes (p key nonce : Nat) (h : Head) (seen : Int) (w : World) (hB : Bases w) (hI : h.In) (hsn : I64 seen) (hs : h.time ≤ seen) (hsp : safeP (p : Int) = true) (hky : 1 ≤ key) (hkp : key < p) (hn : 1 ≤ nonce) (hnp : nonce < p) :
    Calls Tryd.prog 10 #[.int .i64 (p : Int), .int .i64 (key : Int), .int .i64 (nonce : Int), h.val, .int .i64 seen] w fun e w' => e = .returned (.tuple #[(Stm.mk h seen (gpw p 4 (key : Int)) (signR p nonce) (signS p key nonce (wtextF h seen))).val, .int .i64 0]) ∧ Below w.heap.size w w' := by
  obtain ⟨h3, h30, -⟩ := safeP_bd hsp
  have hl := wtextF_len hI hsn
  have k1 : ∀ V, Calls Tryd.prog 23 #[h.val, .int .i64 seen] V fun e w' => e = .returned (.string ⟨(wtextF h seen).toArray⟩) ∧ Below V.heap.size V w' := fun V => wtext_walk h seen V hI hsn
  have k2 : ∀ V, Bases V → Calls Tryd.prog 22 #[.int .i64 (p : Int), .int .i64 (key : Int), .int .i64 (nonce : Int), .string ⟨(wtextF h seen).toArray⟩] V fun e w' => e = .returned (.tuple #[.agg #[.int .i64 (signR p nonce : Int), .int .i64 (signS p key nonce (wtextF h seen) : Int)], .int .i64 0]) ∧ Below V.heap.size V w' := fun V hV => hsign_yes p key nonce _ V hV hsp hky hkp hn hnp (by omega)
  have k3 : ∀ V, Calls Tryd.prog 24 #[.int .i64 (p : Int), .int .i64 (key : Int)] V fun e w' => e = .returned (.int .i64 (gpw p 4 (key : Int) : Int)) ∧ Below V.heap.size V w' := fun V => hPublic_walk p key V (by omega) (by omega)
  generalize signS p key nonce (wtextF h seen) = S at *
  generalize signR p nonce = R at *
  generalize gpw p 4 (key : Int) = pub at *
  generalize wtextF h seen = tx at *
  obtain ⟨n, l, r, t⟩ := h
  dsimp only [Head.val] at hs k1 ⊢
  have K1 := Lib.hid k1
  have K2 := Lib.hid k2
  have K3 := Lib.hid k3
  have hb0 := ((Below.refl w.heap.size w).alloc (Nat.le_refl _) (headB ⟨n, l, r, t⟩)).alloc (by simp) zeroB
  have hk := Bx.new (w.alloc (headB ⟨n, l, r, t⟩)) 33 Stm.zero.cells
  have hH := (Bx.new w 29 [.int .i64 n, .string ⟨l.toArray⟩, .string ⟨r.toArray⟩, .int .i64 t]).alloc zeroB
  rw [World.size_alloc] at hk
  replace hB := hB.keep hb0
  have HB := Lib.hid hB
  clear k1 k2 k3 hI hsn hB hl hky hkp hn hnp hsp h3 h30
  go_enter Tryd.func10, Tryd.ntmps10
  go_wp2_with (go_at_call 23; (with_reducible refine (K1.out _).mono ?_))
  rintro e w1 ⟨rfl, hb1⟩
  replace hk := hk.keep hb1
  replace hH := hH.keep hb1
  have HB1 := Lib.hid (HB.out.keep hb1)
  replace hb0 := hb0.trans (hb1.mono hb0.size)
  clear hb1 HB
  go_wp2_with (go_at_call 22; (with_reducible refine (K2.out _ HB1.out).mono ?_))
  rintro e w2 ⟨rfl, hb1⟩
  replace hk := hk.keep hb1
  replace hH := hH.keep hb1
  replace hb0 := hb0.trans (hb1.mono hb0.size)
  clear hb1 HB1
  obtain ⟨g, hg⟩ : ∃ g, g = w.heap.size + 1 := ⟨_, rfl⟩
  have hwg : w.heap.size ≤ g := by omega
  rw [← hg] at hk ⊢
  clear hg
  go_upto_region 6 with (fail)
  have hG := Bx.new w2 31 [.int .i64 (R : Int), .int .i64 (S : Int)]
  replace hk := hk.alloc (.cells #[.int .i64 (R : Int), .int .i64 (S : Int)] 31)
  replace hH := hH.alloc (.cells #[.int .i64 (R : Int), .int .i64 (S : Int)] 31)
  replace hb0 := hb0.alloc hb0.size (.cells #[.int .i64 (R : Int), .int .i64 (S : Int)] 31)
  change Bx (w2.alloc (.cells #[.int .i64 (R : Int), .int .i64 (S : Int)] 31)) _ _ _ at hG
  generalize w2.alloc (.cells #[.int .i64 (R : Int), .int .i64 (S : Int)] 31) = w3 at *
  generalize w2.heap.size = gS at *
  have c0 : w3.cell? ⟨g, 0, none⟩ = some (.int .i64 0) := hk.cell 0 rfl
  have c1 : w3.cell? ⟨g, 1, none⟩ = some (.string ⟨#[]⟩) := hk.cell 1 rfl
  have c2 : w3.cell? ⟨g, 2, none⟩ = some (.string ⟨#[]⟩) := hk.cell 2 rfl
  have c3 : w3.cell? ⟨g, 3, none⟩ = some (.int .i64 0) := hk.cell 3 rfl
  have c4 : w3.cell? ⟨g, 4, none⟩ = some (.int .i64 0) := hk.cell 4 rfl
  have c5 : w3.cell? ⟨g, 5, none⟩ = some (.int .i64 0) := hk.cell 5 rfl
  have c6 : w3.cell? ⟨g, 6, none⟩ = some (.int .i64 0) := hk.cell 6 rfl
  have c7 : w3.cell? ⟨g, 7, none⟩ = some (.int .i64 0) := hk.cell 7 rfl
  have f0 := hk.free 0
  have f1 := hk.free 1
  have f2 := hk.free 2
  have f3 := hk.free 3
  have f4 := hk.free 4
  have f5 := hk.free 5
  have f6 := hk.free 6
  have f7 := hk.free 7
  have d0 : w3.cell? ⟨w.heap.size, 0, none⟩ = some (.int .i64 n) := hH.cell 0 rfl
  have d1 : w3.cell? ⟨w.heap.size, 1, none⟩ = some (.string ⟨l.toArray⟩) := hH.cell 1 rfl
  have d2 : w3.cell? ⟨w.heap.size, 2, none⟩ = some (.string ⟨r.toArray⟩) := hH.cell 2 rfl
  have d3 : w3.cell? ⟨w.heap.size, 3, none⟩ = some (.int .i64 t) := hH.cell 3 rfl
  have e0 : w3.cell? ⟨gS, 0, none⟩ = some (.int .i64 (R : Int)) := hG.cell 0 rfl
  have e1 : w3.cell? ⟨gS, 1, none⟩ = some (.int .i64 (S : Int)) := hG.cell 1 rfl
  refine cut_last (fun KL hKL => ?_)
  go_cut [11] (fun e wr => e = .int .i64 0 ∧ Bx wr g 33 (Stm.cells ⟨⟨n, l, r, t⟩, seen, (pub : Int), (R : Int), (S : Int)⟩) ∧ Below w.heap.size w wr)
  case first =>
    go_region_with ((go_at_call 24; ((with_reducible refine (K3.out _).mono ?_)); rintro e w4 ⟨rfl, hb4⟩; have hk4 := hk.drew.keep hb4; have hH4 := hH.drew.keep hb4; have hG4 := hG.drew.keep hb4; have hb5 := hb0.drew.trans (hb4.mono hb0.size); have c04 : w4.cell? ⟨g, 0, none⟩ = some (.int .i64 0) := hk4.cell 0 rfl; have c14 : w4.cell? ⟨g, 1, none⟩ = some (.string ⟨#[]⟩) := hk4.cell 1 rfl; have c24 : w4.cell? ⟨g, 2, none⟩ = some (.string ⟨#[]⟩) := hk4.cell 2 rfl; have c34 : w4.cell? ⟨g, 3, none⟩ = some (.int .i64 0) := hk4.cell 3 rfl; have c44 : w4.cell? ⟨g, 4, none⟩ = some (.int .i64 0) := hk4.cell 4 rfl; have c54 : w4.cell? ⟨g, 5, none⟩ = some (.int .i64 0) := hk4.cell 5 rfl; have c64 : w4.cell? ⟨g, 6, none⟩ = some (.int .i64 0) := hk4.cell 6 rfl; have c74 : w4.cell? ⟨g, 7, none⟩ = some (.int .i64 0) := hk4.cell 7 rfl; have f04 := hk4.free 0; have f14 := hk4.free 1; have f24 := hk4.free 2; have f34 := hk4.free 3; have f44 := hk4.free 4; have f54 := hk4.free 5; have f64 := hk4.free 6; have f74 := hk4.free 7; have d04 : w4.cell? ⟨w.heap.size, 0, none⟩ = some (.int .i64 n) := hH4.cell 0 rfl; have d14 : w4.cell? ⟨w.heap.size, 1, none⟩ = some (.string ⟨l.toArray⟩) := hH4.cell 1 rfl; have d24 : w4.cell? ⟨w.heap.size, 2, none⟩ = some (.string ⟨r.toArray⟩) := hH4.cell 2 rfl; have d34 : w4.cell? ⟨w.heap.size, 3, none⟩ = some (.int .i64 t) := hH4.cell 3 rfl; have e04 : w4.cell? ⟨gS, 0, none⟩ = some (.int .i64 (R : Int)) := hG4.cell 0 rfl; have e14 : w4.cell? ⟨gS, 1, none⟩ = some (.int .i64 (S : Int)) := hG4.cell 1 rfl))
    all_goals (go_wp2_with fail; go_meet)
    all_goals
      case rel => exact ⟨rfl, hk4.setStm (y := Stm.zero) ⟨⟨n, l, r, t⟩, seen, (pub : Int), (R : Int), (S : Int)⟩, below8 hb5 hwg _ _ _ _ _ _ _ _⟩
  case rest =>
    obtain ⟨rfl, hX, hb9⟩ := hcut
    refine hKL.out _ _ ?_
    go_wp2_with fail
    exact bodyPost_ret (Bx.stm (x := ⟨⟨n, l, r, t⟩, seen, (pub : Int), (R : Int), (S : Int)⟩) (t := 10) (u := 11) rfl _ rfl hX) rfl ⟨rfl, hb9⟩
end Go.Proofs.YtgfcknadjijinaaDoor
