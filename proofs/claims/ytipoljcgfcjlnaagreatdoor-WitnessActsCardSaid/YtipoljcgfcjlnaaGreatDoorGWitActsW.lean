/- The walk of the law WitnessActs. -/
import Derived.Test.YtipoljcgfcjlnaaGreatDoorGWitY
import Derived.Test.YtipoljcgfcjlnaaGreatDoorGWitR
import Derived.Test.YtipoljcgfcjlnaaGreatDoorGWitT
import Derived.Test.YtipoljcgfcjlnaaGreatDoorGHandV
import Derived.Test.YtipoljcgfcjlnaaGreatDoorGWitG2
import Derived.Test.YtipoljcgfcjlnaaGreatDoorGWitH
import Derived.Test.YtipoljcgfcjlnaaGreatDoorGGrp
import Derived.Test.YtipoljcgfcjlnaaGreatDoorGRowsC
import Derived.Test.YtipoljcgfcjlnaaGreatDoorGRegionL
import Derived.Test.YtipoljcgfcjlnaaGreatDoorGMilG
namespace Go.Proofs.YtipoljcgfcjlnaaGreatDoor
open Go.RowKit
/-- a stamp: both sides make the same -/
theorem stamp_both (p key nonce seen : Int) (h : Head) (hI : h.In) (hs : I64 seen) : ∃ (x : Stm) (e : Int),
    (∀ V, Bases V → Calls Tryz.prog 11 #[.int .i64 p, .int .i64 key, .int .i64 nonce, h.val, .int .i64 seen] V fun r w' => r = .returned (.tuple #[x.val, .int .i64 e]) ∧ Below V.heap.size V w') ∧
    (∀ V, Calls Tryz.prog 12 #[.int .i64 p, .int .i64 key, .int .i64 nonce, h.val, .int .i64 seen] V fun r w' => r = .returned (.tuple #[x.val, .int .i64 e]) ∧ Below V.heap.size V w') := by
  by_cases h1 : seen < h.time
  · exact ⟨Stm.zero, 16, fun V _ => wstamp_late p key nonce h seen V h1, fun V => rwstamp_late p key nonce h seen V h1⟩
  · have h2 : h.time ≤ seen := by omega
    by_cases hno : safeP p = false ∨ key < 1 ∨ p ≤ key ∨ nonce < 1 ∨ p ≤ nonce
    · exact ⟨Stm.zero, 2, fun V hV => wstamp_no p key nonce h seen V hV hI hs h2 hno, fun V => rwstamp_no p key nonce h seen V hI hs h2 (by rw [← safe_eq]; exact hno)⟩
    · simp only [not_or, Bool.not_eq_false] at hno
      obtain ⟨a1, a2, a3, a4, a5⟩ := hno
      obtain ⟨b3, -, -⟩ := safeP_bd a1
      obtain ⟨P, rfl⟩ : ∃ P : Nat, p = (P : Int) := ⟨p.toNat, by omega⟩
      obtain ⟨K, rfl⟩ : ∃ K : Nat, key = (K : Int) := ⟨key.toNat, by omega⟩
      obtain ⟨N, rfl⟩ : ∃ N : Nat, nonce = (N : Int) := ⟨nonce.toNat, by omega⟩
      exact ⟨Stm.mk h seen (gpw P 4 (K : Int)) (signR P N) (signS P K N (wtextF h seen)), 0, fun V hV => wstamp_yes P K N h seen V hV hI hs h2 a1 (by omega) (by omega) (by omega) (by omega), fun V => rwstamp_yes P K N h seen V hI hs h2 ((safe_eq P).symm.trans a1) (by omega) (by omega) (by omega) (by omega)⟩
theorem stm_len (x : Stm) : x.cells.length = 8 := rfl
/-- what outlives the calls: the dice, the raw stamp, the two chains -/
structure Wa (W w : World) (db : Nat) (p : Option Addr) (l : List Int) (cap q gr : Nat) (raw : Stm) (la : Option Addr) (L : List Rec) (oa : Option Addr) (O : List Rec) : Prop where
  env : Env W w db p l cap q
  raw : Bx w gr 28 raw.cells
  rl : Rd w la (recs L)
  ro : Rd w oa (recs O)
  gne : gr ≠ db
  lne : ∀ g, rowOf la = some g → g ≠ db
  one : ∀ g, rowOf oa = some g → g ≠ db
section
variable {W w w' : World} {db : Nat} {p : Option Addr} {l : List Int} {cap q gr : Nat} {raw : Stm} {la : Option Addr} {L : List Rec} {oa : Option Addr} {O : List Rec}
theorem Wa.keep (h : Wa W w db p l cap q gr raw la L oa O) (hb : Below w.heap.size w w') : Wa W w' db p l cap q gr raw la L oa O :=
  ⟨h.env.keep hb, h.raw.keep hb, h.rl.keep hb, h.ro.keep hb, h.gne, h.lne, h.one⟩
theorem Wa.next {q' : Nat} (h : Wa W w db p l cap q gr raw la L oa O) (hE : Env W w' db p l cap q') (hg : w.grownBy w' (some db)) : Wa W w' db p l cap q' gr raw la L oa O :=
  ⟨hE, h.raw.grown hg (by simpa using h.gne), h.rl.grown hg (fun g o e => by have := h.lne g (by rw [e]; rfl); simpa using this), h.ro.grown hg (fun g o e => by have := h.one g (by rw [e]; rfl); simpa using this), h.gne, h.lne, h.one⟩
end
/-- .. and the three stamps -/
structure Wb (W w : World) (db : Nat) (p : Option Addr) (l : List Int) (cap q gr : Nat) (raw : Stm) (la : Option Addr) (L : List Rec) (oa : Option Addr) (O : List Rec) (ga : Nat) (a : Stm) (gb : Nat) (b : Stm) (gc : Nat) (c : Stm) : Prop where
  wa : Wa W w db p l cap q gr raw la L oa O
  a : Bx w ga 28 a.cells
  b : Bx w gb 28 b.cells
  c : Bx w gc 28 c.cells
  na : ga ≠ db
  nb : gb ≠ db
  nc : gc ≠ db
section
variable {W w w' : World} {db : Nat} {p : Option Addr} {l : List Int} {cap q gr : Nat} {raw : Stm} {la : Option Addr} {L : List Rec} {oa : Option Addr} {O : List Rec} {ga : Nat} {a : Stm} {gb : Nat} {b : Stm} {gc : Nat} {c : Stm}
theorem Wb.keep (h : Wb W w db p l cap q gr raw la L oa O ga a gb b gc c) (hb : Below w.heap.size w w') : Wb W w' db p l cap q gr raw la L oa O ga a gb b gc c :=
  ⟨h.wa.keep hb, h.a.keep hb, h.b.keep hb, h.c.keep hb, h.na, h.nb, h.nc⟩
theorem Wb.next {q' : Nat} (h : Wb W w db p l cap q gr raw la L oa O ga a gb b gc c) (hE : Env W w' db p l cap q') (hg : w.grownBy w' (some db)) : Wb W w' db p l cap q' gr raw la L oa O ga a gb b gc c :=
  ⟨h.wa.next hE hg, h.a.grown hg (by simpa using h.na), h.b.grown hg (by simpa using h.nb), h.c.grown hg (by simpa using h.nc), h.na, h.nb, h.nc⟩
end
def trC (t : Int × Int × Int) : List Value := [.int .i64 t.1, .int .i64 t.2.1, .int .i64 t.2.2]
theorem trC_len (t : Int × Int × Int) : (trC t).length = 3 := rfl
set_option maxRecDepth 100000 in
set_option maxHeartbeats 8000000 in
theorem wacts_walk (W : World) (hB : Bases W) (p : Option Addr) (l : List Int) (cap : Nat) (hR : Rd W p (ints l)) (hl : l.length ≤ 17592186043904) (pr : Int) (raw : Stm) (hrc : I64 raw.head.count) (hrt : I64 raw.head.time) (hrs : I64 raw.seen) (hr1 : raw.head.last.length ≤ 281474976710656) (hr2 : raw.head.root.length ≤ 281474976710656) (key nonce seen : Int) (hsn : I64 seen) :
    Calls Tryz.prog 3 #[.slice p l.length cap, .int .i64 pr, raw.val, .int .i64 key, .int .i64 nonce, .int .i64 seen] W fun e w' => e = .returned (.bool true) ∧ Below W.heap.size W w' := by
  obtain ⟨B, hBz⟩ : ∃ B, B = W.heap.size := ⟨_, rfl⟩
  have HBS : Hid (∀ V, Below B W V → Bases V) := Lib.hid (fun V hV => hB.keep (hBz ▸ hV))
  have HBW := Lib.hid hBz
  have HRI : Hid (¬ 300 < raw.head.last.length + raw.head.root.length → raw.In) := Lib.hid (fun h => ⟨⟨hrc, hrt, by omega, by omega⟩, hrs⟩)
  have KA := Lib.hid (fun V hV => awake21_walk V hV)
  have HSN := Lib.hid hsn
  obtain ⟨x0, hx0⟩ : ∃ x0, x0 = W.alloc (stmB raw) := ⟨_, rfl⟩
  have hG := Bx.new W 28 raw.cells
  change Bx (W.alloc (stmB raw)) _ _ _ at hG
  have hb0 := (Below.refl W.heap.size W).alloc (Nat.le_refl _) (stmB raw)
  have hsz : (W.alloc (stmB raw)).heap.size = B + 1 := by rw [hBz]; simp
  rw [← hx0] at hG hb0 hsz
  rw [← hBz] at hG
  have hbw : W.heap.size = B := hBz.symm
  clear hBz hB hrc hrt hrs hsn
  obtain ⟨⟨rn, rl, rr, rt⟩, rs, rk, r1, r2⟩ := raw
  dsimp only at hr1 hr2 HRI
  go_enter Tryz.func3, Tryz.ntmps3
  go_upto_region 1 with (fail)
  rw [← hx0]
  clear hx0
  have c1 := hG.cell 1 rfl
  have c2 := hG.cell 2 rfl
  by_cases hq : 500 < l.length ∨ 300 < rl.length + rr.length
  · have hq2 : decide (l.length ≤ 500) = false ∨ (decide (l.length ≤ 500) = true ∧ decide ((rl.length : Int) + (rr.length : Int) > 300) = true ∧ 300 < rl.length + rr.length) := by
      by_cases a : 500 < l.length
      · exact .inl (by simp; omega)
      · exact .inr ⟨by simp; omega, decide_eq_true (by omega), by omega⟩
    clear hq
    rcases hq2 with h1 | ⟨h1, h2, h3⟩
    · go_wp2_with (first
        | (go_at_call 4; (with_reducible refine (light_walk _ _ _ _ (by omega)).mono ?_); rintro e w1 ⟨rfl, rfl⟩)
        | (go_at_call 5; (with_reducible refine (KA.out _ (HBS.out _ (hbw ▸ hb0))).mono ?_)))
      (first | rintro e w1 rfl hb1 | rintro e w1 ⟨rfl, hb1⟩)
      go_wp2
      go_ret
      exact ⟨rfl, hbw ▸ hb0.trans (hb1.mono hb0.size)⟩
    · go_wp2_with (first
        | (go_at_call 4; (with_reducible refine (light_walk _ _ _ _ (by omega)).mono ?_); rintro e w1 ⟨rfl, rfl⟩)
        | (go_at_call 5; (with_reducible refine (KA.out _ (HBS.out _ (hbw ▸ hb0))).mono ?_)))
      (first | rintro e w1 rfl hb1 | rintro e w1 ⟨rfl, hb1⟩)
      go_wp2
      go_ret
      exact ⟨rfl, hbw ▸ hb0.trans (hb1.mono hb0.size)⟩
  have hd5 : decide (l.length ≤ 500) = true := by simp; omega
  have hd3 : decide ((rl.length : Int) + (rr.length : Int) > 300) = false := decide_eq_false (by omega)
  have hd4 : decide (300 < rl.length + rr.length) = false := decide_eq_false (by omega)
  have HRW : Hid (Stm.In ⟨⟨rn, rl, rr, rt⟩, rs, rk, r1, r2⟩) := Lib.hid (HRI.out (by omega))
  clear hq HRI
  go_upto_region 3 with (go_at_call 4; (with_reducible refine (light_walk _ _ _ _ (by omega)).mono ?_); rintro e w1 ⟨rfl, rfl⟩)
  go_wp2_with (go_at_call 6; (with_reducible refine (roll_walk _ _ _ _).mono ?_))
  rintro e w1 ⟨rfl, hD, hb1⟩
  have hE : Env W w1 x0.heap.size p l cap 0 := ⟨hD, (hR.keep hb0).keep hb1, hb0.trans (hb1.mono hb0.size)⟩
  replace hG := hG.keep hb1
  generalize x0.heap.size = db at *
  have HDB : Hid (W.heap.size ≤ db) := Lib.hid (by omega)
  have HNE := Lib.hid (rd_ne hR HDB.out)
  have HR := Lib.hid hR
  have hBd : B < db := by omega
  clear hD hb1 hb0 hR hd3 hd4 hd5 c1 c2 hr1 hr2 hsz
  have kch := chain_walk W db p l cap 0 6 _ hE HR.out HDB.out (by omega) (by omega)
  rw [show ((6 : Nat) : Int) = 6 from rfl] at kch
  have KCH := Lib.hid kch
  clear kch
  go_wp2_with (go_at_call 7; (with_reducible refine KCH.out.mono ?_))
  rintro e w2 ⟨L, la, lc, tl, q2, rfl, hK, hO, hE2, hg2⟩
  have HKL := Lib.hid hK
  have hL6 := hK.num
  have hlc := hO.2.1
  have hdw := hE.dice.lt
  have hlne : ∀ g, rowOf la = some g → g ≠ db := fun g h => by have := (hO.row g h).1; omega
  have hRl := hO.rd
  replace hG := hG.grown hg2 (by simp; omega)
  clear hK hO hg2 hE KCH
  have kch := chain_walk W db p l cap q2 4 _ hE2 HR.out HDB.out (by omega) (by omega)
  rw [show ((4 : Nat) : Int) = 4 from rfl] at kch
  have KCH := Lib.hid kch
  clear kch
  go_wp2_with (go_at_call 7; (with_reducible refine KCH.out.mono ?_))
  rintro e w3 ⟨O, oa, oc, tO, q3, rfl, hK, hO, hE3, hg3⟩
  have HKO := Lib.hid hK
  have hO4 := hK.num
  have hoc := hO.2.1
  have hdw2 := hE2.dice.lt
  have hone : ∀ g, rowOf oa = some g → g ≠ db := fun g h => by have := (hO.row g h).1; omega
  have hW : Wa W w3 db p l cap q3 B ⟨⟨rn, rl, rr, rt⟩, rs, rk, r1, r2⟩ la L oa O := ⟨hE3, hG.grown hg3 (by simp; omega), hRl.grown hg3 (fun g o e => by have := hlne g (by rw [e]; rfl); simpa using this), hO.rd, by omega, hlne, hone⟩
  clear hK hO hg3 hE2 hE3 KCH hRl hG hlne hone hdw hdw2
  go_wp2_with (go_at_call 8; (with_reducible refine (kstamp_walk W _ p l cap _ la L lc _ hW.env HR.out HDB.out (by omega) hW.rl hW.lne hlc HKL.out.right HKL.out.ins).mono ?_))
  rintro e s0 ⟨x0, qx0, rfl, hxI0, hEx, hgx⟩
  replace hW := hW.next hEx hgx
  have HX0 := Lib.hid hxI0
  obtain ⟨⟨a00, a01, a02, a03⟩, a04, a05, a06, a07⟩ := x0
  clear hEx hxI0
  clear hgx
  go_wp2_with (go_at_call 8; (with_reducible refine (kstamp_walk W _ p l cap _ la L lc _ hW.env HR.out HDB.out (by omega) hW.rl hW.lne hlc HKL.out.right HKL.out.ins).mono ?_))
  rintro e s1 ⟨x1, qx1, rfl, hxI1, hEx, hgx⟩
  replace hW := hW.next hEx hgx
  have HX1 := Lib.hid hxI1
  obtain ⟨⟨a10, a11, a12, a13⟩, a14, a15, a16, a17⟩ := x1
  clear hEx hxI1
  clear hgx
  go_upto_region 7 with (fail)
  have hA := (Bx.new s1 28 (Stm.cells ⟨⟨a00, a01, a02, a03⟩, a04, a05, a06, a07⟩)).alloc (stmB ⟨⟨a10, a11, a12, a13⟩, a14, a15, a16, a17⟩)
  have hBb := Bx.new2 s1 (stmB ⟨⟨a00, a01, a02, a03⟩, a04, a05, a06, a07⟩) 28 (Stm.cells ⟨⟨a10, a11, a12, a13⟩, a14, a15, a16, a17⟩)
  change Bx ((s1.alloc (stmB ⟨⟨a00, a01, a02, a03⟩, a04, a05, a06, a07⟩)).alloc (stmB ⟨⟨a10, a11, a12, a13⟩, a14, a15, a16, a17⟩)) _ _ _ at hA
  change Bx ((s1.alloc (stmB ⟨⟨a00, a01, a02, a03⟩, a04, a05, a06, a07⟩)).alloc (stmB ⟨⟨a10, a11, a12, a13⟩, a14, a15, a16, a17⟩)) _ _ _ at hBb
  have hdl := hW.env.dice.lt
  replace hW := hW.keep (((Below.refl s1.heap.size s1).alloc (Nat.le_refl _) (stmB ⟨⟨a00, a01, a02, a03⟩, a04, a05, a06, a07⟩)).alloc (by simp) (stmB ⟨⟨a10, a11, a12, a13⟩, a14, a15, a16, a17⟩))
  generalize (s1.alloc (stmB ⟨⟨a00, a01, a02, a03⟩, a04, a05, a06, a07⟩)).alloc (stmB ⟨⟨a10, a11, a12, a13⟩, a14, a15, a16, a17⟩) = y1 at *
  obtain ⟨ga, hga⟩ : ∃ g, g = s1.heap.size := ⟨_, rfl⟩
  obtain ⟨gb, hgb⟩ : ∃ g, g = ga + 1 := ⟨_, rfl⟩
  have hga2 : s1.heap.size = ga := hga.symm
  rw [← hga] at hA hBb hdl ⊢
  rw [← hgb] at hBb ⊢
  have hna : ga ≠ db := by omega
  have hnb : gb ≠ db := by omega
  clear hga hgb hga2 hdl
  go_wp2_with (go_at_call 8; (with_reducible refine (kstamp_walk W _ p l cap _ oa O oc _ hW.env HR.out HDB.out (by omega) hW.ro hW.one hoc HKO.out.right HKO.out.ins).mono ?_))
  rintro e s2 ⟨x2, qx2, rfl, hxI2, hEx, hgx⟩
  replace hW := hW.next hEx hgx
  replace hA := hA.grown hgx (by simpa using hna)
  replace hBb := hBb.grown hgx (by simpa using hnb)
  obtain ⟨⟨d0, d1, d2, d3⟩, d4, d5, d6, d7⟩ := x2
  have HSM : Hid (Stm.Sm ⟨⟨d0, d1, d2, d3⟩, d4, d5, d6, d7⟩) := Lib.hid ⟨hxI2.head.count, hxI2.head.time, hxI2.last9, hxI2.root9, hxI2.seen⟩
  clear hEx hgx hxI2
  go_wp2_with (go_at_call 9; (with_reducible refine (oddst_walk W _ p l cap _ d0 d1 d2 d3 d4 d5 d6 d7 _ hW.env HR.out HDB.out (by omega) HSM.out).mono ?_))
  rintro e s3 ⟨xc, qc, rfl, hEx, hgx, hcI⟩
  replace hW := hW.next hEx hgx
  replace hA := hA.grown hgx (by simpa using hna)
  replace hBb := hBb.grown hgx (by simpa using hnb)
  have HXC := Lib.hid hcI
  obtain ⟨⟨c0, c1, c2, c3⟩, c4, c5, c6, c7⟩ := xc
  clear hEx hgx hcI HSM
  go_upto_region 8 with (fail)
  have hC := Bx.new s3 28 (Stm.cells ⟨⟨c0, c1, c2, c3⟩, c4, c5, c6, c7⟩)
  change Bx (s3.alloc (stmB ⟨⟨c0, c1, c2, c3⟩, c4, c5, c6, c7⟩)) _ _ _ at hC
  have hbC := (Below.refl s3.heap.size s3).alloc (Nat.le_refl _) (stmB ⟨⟨c0, c1, c2, c3⟩, c4, c5, c6, c7⟩)
  have hnc : s3.heap.size ≠ db := by have := hW.env.dice.lt; omega
  have hV : Wb W (s3.alloc (stmB ⟨⟨c0, c1, c2, c3⟩, c4, c5, c6, c7⟩)) db p l cap qc B ⟨⟨rn, rl, rr, rt⟩, rs, rk, r1, r2⟩ la L oa O ga ⟨⟨a00, a01, a02, a03⟩, a04, a05, a06, a07⟩ gb ⟨⟨a10, a11, a12, a13⟩, a14, a15, a16, a17⟩ s3.heap.size ⟨⟨c0, c1, c2, c3⟩, c4, c5, c6, c7⟩ := ⟨hW.keep hbC, hA.keep hbC, hBb.keep hbC, hC, hna, hnb, hnc⟩
  generalize s3.alloc (stmB ⟨⟨c0, c1, c2, c3⟩, c4, c5, c6, c7⟩) = y2 at *
  generalize s3.heap.size = gc at *
  clear hW hA hBb hC hbC hna hnb hnc
  have HA : Hid (Stm.InK ⟨⟨a00, a01, a02, a03⟩, a04, a05, a06, a07⟩) := HX0
  have ht1 := HA.out.tm
  dsimp only at ht1
  go_upto_region 9 with (fail)
  have hS := Bx.new y2 3 [.int .i64 pr, .int .i64 500000003]
  change Bx (y2.alloc (.cells #[.int .i64 pr, .int .i64 500000003] 3)) _ _ _ at hS
  have hdy := hV.wa.env.dice.lt
  have hns : y2.heap.size ≠ db := by omega
  replace hV := hV.keep ((Below.refl y2.heap.size y2).alloc (Nat.le_refl _) (.cells #[.int .i64 pr, .int .i64 500000003] 3))
  generalize y2.alloc (.cells #[.int .i64 pr, .int .i64 500000003] 3) = y3 at *
  generalize y2.heap.size = gs at *
  clear hdy
  go_wp2_with fail
  go_loopw [67] (fun t wq => ∃ (n q : Nat), n ≤ 2 ∧ t = .int .i64 (n : Int) ∧ Wb W wq db p l cap q B ⟨⟨rn, rl, rr, rt⟩, rs, rk, r1, r2⟩ la L oa O ga ⟨⟨a00, a01, a02, a03⟩, a04, a05, a06, a07⟩ gb ⟨⟨a10, a11, a12, a13⟩, a14, a15, a16, a17⟩ gc ⟨⟨c0, c1, c2, c3⟩, c4, c5, c6, c7⟩ ∧ Bx wq gs 3 [.int .i64 pr, .int .i64 500000003]) (fun t _ => 2 - (intOf t).toNat)
  case atStart => exact ⟨0, _, by omega, rfl, hV, hS⟩
  case round =>
    clear hV hS
    obtain ⟨n, q, hn2, rfl, hV, hS⟩ := hrel
    by_cases hn : n < 2
    rotate_left
    · skip
      have hni : ¬ (n : Int) < 2 := by omega
      clear hS
      have p0 := hV.a.cell 0 rfl
      have p1 := hV.a.cell 1 rfl
      have p2 := hV.a.cell 2 rfl
      have p3 := hV.a.cell 3 rfl
      have p4 := hV.a.cell 4 rfl
      have p5 := hV.a.cell 5 rfl
      have p6 := hV.a.cell 6 rfl
      have p7 := hV.a.cell 7 rfl
      have o0 := hV.c.cell 0 rfl
      have o1 := hV.c.cell 1 rfl
      have o2 := hV.c.cell 2 rfl
      have o3 := hV.c.cell 3 rfl
      have o4 := hV.c.cell 4 rfl
      have o5 := hV.c.cell 5 rfl
      have o6 := hV.c.cell 6 rfl
      have o7 := hV.c.cell 7 rfl
      have k0 := hV.wa.raw.cell 0 rfl
      have k1 := hV.wa.raw.cell 1 rfl
      have k2 := hV.wa.raw.cell 2 rfl
      have k3 := hV.wa.raw.cell 3 rfl
      have k4 := hV.wa.raw.cell 4 rfl
      have k5 := hV.wa.raw.cell 5 rfl
      have k6 := hV.wa.raw.cell 6 rfl
      have k7 := hV.wa.raw.cell 7 rfl
      have hbx := (Below.refl wr.heap.size wr).alloc (Nat.le_refl _) (.cells #[.int .i64 a00, .string ⟨a01.toArray⟩, .string ⟨a02.toArray⟩, .int .i64 a03, .int .i64 a04, .int .i64 a05, .int .i64 a06, .int .i64 a07, .int .i64 c0, .string ⟨c1.toArray⟩, .string ⟨c2.toArray⟩, .int .i64 c3, .int .i64 c4, .int .i64 c5, .int .i64 c6, .int .i64 c7, .int .i64 rn, .string ⟨rl.toArray⟩, .string ⟨rr.toArray⟩, .int .i64 rt, .int .i64 rs, .int .i64 rk, .int .i64 r1, .int .i64 r2] 28)
      have hT : Rd (wr.alloc (.cells #[.int .i64 a00, .string ⟨a01.toArray⟩, .string ⟨a02.toArray⟩, .int .i64 a03, .int .i64 a04, .int .i64 a05, .int .i64 a06, .int .i64 a07, .int .i64 c0, .string ⟨c1.toArray⟩, .string ⟨c2.toArray⟩, .int .i64 c3, .int .i64 c4, .int .i64 c5, .int .i64 c6, .int .i64 c7, .int .i64 rn, .string ⟨rl.toArray⟩, .string ⟨rr.toArray⟩, .int .i64 rt, .int .i64 rs, .int .i64 rk, .int .i64 r1, .int .i64 r2] 28)) (some ⟨wr.heap.size, 0, none⟩) (rowsC Stm.cells [⟨⟨a00, a01, a02, a03⟩, a04, a05, a06, a07⟩, ⟨⟨c0, c1, c2, c3⟩, c4, c5, c6, c7⟩, ⟨⟨rn, rl, rr, rt⟩, rs, rk, r1, r2⟩]) := Rd.mk fun j u hj => by rw [Nat.zero_add]; exact (Bx.new wr 28 (rowsC Stm.cells [⟨⟨a00, a01, a02, a03⟩, a04, a05, a06, a07⟩, ⟨⟨c0, c1, c2, c3⟩, c4, c5, c6, c7⟩, ⟨⟨rn, rl, rr, rt⟩, rs, rk, r1, r2⟩])).cell j hj
      replace hV := hV.keep hbx
      go_upto_region 21 with (fail)
      generalize wr.alloc (.cells #[.int .i64 a00, .string ⟨a01.toArray⟩, .string ⟨a02.toArray⟩, .int .i64 a03, .int .i64 a04, .int .i64 a05, .int .i64 a06, .int .i64 a07, .int .i64 c0, .string ⟨c1.toArray⟩, .string ⟨c2.toArray⟩, .int .i64 c3, .int .i64 c4, .int .i64 c5, .int .i64 c6, .int .i64 c7, .int .i64 rn, .string ⟨rl.toArray⟩, .string ⟨rr.toArray⟩, .int .i64 rt, .int .i64 rs, .int .i64 rk, .int .i64 r1, .int .i64 r2] 28) = wr' at *
      generalize wr.heap.size = gt at *
      clear hbx
      clear p0 p1 p2 p3 p4 p5 p6 p7
      clear o0 o1 o2 o3 o4 o5 o6 o7
      clear k0 k1 k2 k3 k4 k5 k6 k7
      obtain ⟨TL, hTL⟩ : ∃ TL : List Stm, TL = [⟨⟨a00, a01, a02, a03⟩, a04, a05, a06, a07⟩, ⟨⟨c0, c1, c2, c3⟩, c4, c5, c6, c7⟩, ⟨⟨rn, rl, rr, rt⟩, rs, rk, r1, r2⟩] := ⟨_, rfl⟩
      rw [← hTL] at hT
      have HTL : Hid (TL.length = 3) := Lib.hid (by rw [hTL]; rfl)
      have HTI : Hid (∀ t ∈ TL, t.In) := Lib.hid (fun t ht => by
        rw [hTL] at ht
        simp at ht
        rcases ht with rfl | rfl | rfl
        · exact HA.out.toIn
        · exact HXC.out
        · exact HRW.out)
      clear hTL
      have KCV := Lib.hid (fun (x : Stm) V (hV : Rd V la (recs L)) => covers_any x la L lc V hV hlc HKL.out.right HKL.out.ins)
      have KRV := Lib.hid (fun (x : Stm) V (hV : Rd V la (recs L)) => rcovers_any x la L lc V hV hlc HKL.out.right HKL.out.ins)
      have KCO := Lib.hid (fun (x : Stm) V (hV : Rd V oa (recs O)) => covers_any x oa O oc V hV hoc HKO.out.right HKO.out.ins)
      have KRO := Lib.hid (fun (x : Stm) V (hV : Rd V oa (recs O)) => rcovers_any x oa O oc V hV hoc HKO.out.right HKO.out.ins)
      have hrs : rsafe 500000003 = safeP 500000003 := (safe_eq 500000003).symm
      have HRS := Lib.hid hrs
      clear hrs
      go_wp2_with fail
      go_loopw [136] (fun t wq => ∃ j : Nat, j ≤ 3 ∧ t = .int .i64 (j : Int) ∧ Wb W wq db p l cap q B ⟨⟨rn, rl, rr, rt⟩, rs, rk, r1, r2⟩ la L oa O ga ⟨⟨a00, a01, a02, a03⟩, a04, a05, a06, a07⟩ gb ⟨⟨a10, a11, a12, a13⟩, a14, a15, a16, a17⟩ gc ⟨⟨c0, c1, c2, c3⟩, c4, c5, c6, c7⟩ ∧ Rd wq (some ⟨gt, 0, none⟩) (rowsC Stm.cells TL)) (fun t _ => 3 - (intOf t).toNat)
      case atStart => exact ⟨0, by omega, rfl, hV, hT⟩
      case round =>
        clear hV hT
        obtain ⟨j, hj3, rfl, hV, hT⟩ := hrel
        by_cases hj : j < 3
        rotate_left
        · have hji : ¬ (j : Int) < 3 := by omega
          have hbl := hV.wa.env.below
          clear hT KCV KRV KCO KRO
          go_wp2_with (go_at_call 5; (with_reducible refine (KA.out _ (HBS.out _ (HBW.out ▸ hbl))).mono ?_))
          (first | rintro e v1 rfl hb1 | rintro e v1 ⟨rfl, hb1⟩)
          go_wp2
          go_ret
          exact ⟨rfl, hbw ▸ hbl.trans (hb1.mono hbl.size)⟩
        have hji : (j : Int) < 3 := by omega
        obtain ⟨g', off', ⟨⟨x0, x1, x2, x3⟩, x4, x5, x6, x7⟩, e, hx, hcell⟩ := hT.rows (f := Stm.cells) (k := 8) stm_len (by decide) (i := j) (by rw [HTL.out]; exact hj)
        cases e
        have d0 := hcell 0 (.int .i64 x0) rfl
        have d1 := hcell 1 (.string ⟨x1.toArray⟩) rfl
        have d2 := hcell 2 (.string ⟨x2.toArray⟩) rfl
        have d3 := hcell 3 (.int .i64 x3) rfl
        have d4 := hcell 4 (.int .i64 x4) rfl
        have d5 := hcell 5 (.int .i64 x5) rfl
        have d6 := hcell 6 (.int .i64 x6) rfl
        have d7 := hcell 7 (.int .i64 x7) rfl
        rw [Nat.zero_add] at d0 d1 d2 d3 d4 d5 d6 d7
        rw [Nat.add_zero] at d0
        have HXI : Hid (Stm.In ⟨⟨x0, x1, x2, x3⟩, x4, x5, x6, x7⟩) := Lib.hid (HTI.out _ (List.mem_of_getElem? hx.out))
        clear hcell hx
        have hbx := (Below.refl wr.heap.size wr).alloc (Nat.le_refl _) (.cells #[.int .i64 x0, .string ⟨x1.toArray⟩, .string ⟨x2.toArray⟩, .int .i64 x3, .int .i64 x4, .int .i64 x5, .int .i64 x6, .int .i64 x7] 28)
        have hX := Bx.new wr 28 (Stm.cells ⟨⟨x0, x1, x2, x3⟩, x4, x5, x6, x7⟩)
        change Bx (wr.alloc (.cells #[.int .i64 x0, .string ⟨x1.toArray⟩, .string ⟨x2.toArray⟩, .int .i64 x3, .int .i64 x4, .int .i64 x5, .int .i64 x6, .int .i64 x7] 28)) _ _ _ at hX
        replace hV := hV.keep hbx
        replace hT := hT.keep hbx
        go_upto_region 23 with (fail)
        generalize wr.alloc (.cells #[.int .i64 x0, .string ⟨x1.toArray⟩, .string ⟨x2.toArray⟩, .int .i64 x3, .int .i64 x4, .int .i64 x5, .int .i64 x6, .int .i64 x7] 28) = hXw at *
        generalize wr.heap.size = gx at *
        clear hbx
        clear d0 d1 d2 d3 d4 d5 d6 d7
        have K1 := Lib.hid (fun V hB => wright_walk 500000003 ⟨⟨x0, x1, x2, x3⟩, x4, x5, x6, x7⟩ V hB HXI.out)
        have K2 := Lib.hid (fun V => rwright_walk 500000003 ⟨⟨x0, x1, x2, x3⟩, x4, x5, x6, x7⟩ V HRS.out HXI.out)
        have K3 := Lib.hid (fun V => wtext_walk ⟨x0, x1, x2, x3⟩ x4 V HXI.out.head HXI.out.seen)
        have K4 := Lib.hid (fun V => rwtext_walk ⟨x0, x1, x2, x3⟩ x4 V HXI.out.head HXI.out.seen)
        have K5 := Lib.hid (fun V hV => KCV.out ⟨⟨x0, x1, x2, x3⟩, x4, x5, x6, x7⟩ V hV)
        have K6 := Lib.hid (fun V hV => KRV.out ⟨⟨x0, x1, x2, x3⟩, x4, x5, x6, x7⟩ V hV)
        have K7 := Lib.hid (fun V hV => KCO.out ⟨⟨x0, x1, x2, x3⟩, x4, x5, x6, x7⟩ V hV)
        have K8 := Lib.hid (fun V hV => KRO.out ⟨⟨x0, x1, x2, x3⟩, x4, x5, x6, x7⟩ V hV)
        generalize wrightF 500000003 ⟨⟨x0, x1, x2, x3⟩, x4, x5, x6, x7⟩ = b1 at *
        generalize wtextF ⟨x0, x1, x2, x3⟩ x4 = txt at *
        generalize coversF ⟨⟨x0, x1, x2, x3⟩, x4, x5, x6, x7⟩ L = b2 at *
        generalize coversF ⟨⟨x0, x1, x2, x3⟩, x4, x5, x6, x7⟩ O = b3 at *
        dsimp only [Stm.val] at K1 K2 K3 K4 K5 K6 K7 K8
        have n1 : (b1 != b1) = false := by simp
        have n2 : (b2 != b2) = false := by simp
        have n3 : (b3 != b3) = false := by simp
        have n4 : (txt != txt) = false := by simp
        have d0 := fun d os => cell_regrown (hX.cell 0 rfl) d os
        have d1 := fun d os => cell_regrown (hX.cell 1 rfl) d os
        have d2 := fun d os => cell_regrown (hX.cell 2 rfl) d os
        have d3 := fun d os => cell_regrown (hX.cell 3 rfl) d os
        have d4 := fun d os => cell_regrown (hX.cell 4 rfl) d os
        have d5 := fun d os => cell_regrown (hX.cell 5 rfl) d os
        have d6 := fun d os => cell_regrown (hX.cell 6 rfl) d os
        have d7 := fun d os => cell_regrown (hX.cell 7 rfl) d os
        have HBX := Lib.hid (HBS.out _ (HBW.out ▸ hV.wa.env.below))
        have HRL := Lib.hid hV.wa.rl
        have HRO := Lib.hid hV.wa.ro
        have HV := Lib.hid hV
        have HT := Lib.hid hT
        have HX2 := Lib.hid hX
        clear hV hT hX
        refine wp_region_quiet_below (by kernel_rfl) (by kernel_rfl) ?_
        repeat (go_big_quiet_step (first
          | (go_at_call 13; with_reducible exact Calls.regrown_of (K1.out _ (HBX.out.keep (below_regrown _ _ _))))
          | (go_at_call 14; with_reducible exact Calls.regrown_of (K2.out _))
          | (go_at_call 15; with_reducible exact Calls.regrown_of (K3.out _))
          | (go_at_call 16; with_reducible exact Calls.regrown_of (K4.out _))
          | (go_at_call 17; (first | with_reducible exact Calls.regrown_of (K5.out _ (HRL.out.keep (below_regrown _ _ _))) | with_reducible exact Calls.regrown_of (K7.out _ (HRO.out.keep (below_regrown _ _ _)))))
          | (go_at_call 18; (first | with_reducible exact Calls.regrown_of (K6.out _ (HRL.out.keep (below_regrown _ _ _))) | with_reducible exact Calls.regrown_of (K8.out _ (HRO.out.keep (below_regrown _ _ _)))))))
        refine wpQuiet_nil ?_
        rintro w9 ⟨p2, hw9⟩
        have hb9 : Below hXw.heap.size hXw w9 := by first | (rw [hw9]; exact below_regrown _ p2.d p2.os) | (rw [← hw9]; exact below_regrown _ p2.d p2.os)
        have hV := HV.out.keep hb9
        have hT := HT.out.keep hb9
        have hX := HX2.out.keep hb9
        clear hw9 hb9 K1 K2 K3 K4 K5 K6 K7 K8 n1 n2 n3 n4 HBX HRL HRO HV HT HX2
        clear d0 d1 d2 d3 d4 d5 d6 d7
        go_upto_region 25 with (fail)
        have p0 := hV.b.cell 0 rfl
        have p1 := hV.b.cell 1 rfl
        have p2 := hV.b.cell 2 rfl
        have p3 := hV.b.cell 3 rfl
        have p4 := hV.b.cell 4 rfl
        have p5 := hV.b.cell 5 rfl
        have p6 := hV.b.cell 6 rfl
        have p7 := hV.b.cell 7 rfl
        have o0 := hV.c.cell 0 rfl
        have o1 := hV.c.cell 1 rfl
        have o2 := hV.c.cell 2 rfl
        have o3 := hV.c.cell 3 rfl
        have o4 := hV.c.cell 4 rfl
        have o5 := hV.c.cell 5 rfl
        have o6 := hV.c.cell 6 rfl
        have o7 := hV.c.cell 7 rfl
        have k0 := hV.wa.raw.cell 0 rfl
        have k1 := hV.wa.raw.cell 1 rfl
        have k2 := hV.wa.raw.cell 2 rfl
        have k3 := hV.wa.raw.cell 3 rfl
        have k4 := hV.wa.raw.cell 4 rfl
        have k5 := hV.wa.raw.cell 5 rfl
        have k6 := hV.wa.raw.cell 6 rfl
        have k7 := hV.wa.raw.cell 7 rfl
        have hbx := (Below.refl w9.heap.size w9).alloc (Nat.le_refl _) (.cells #[.int .i64 a10, .string ⟨a11.toArray⟩, .string ⟨a12.toArray⟩, .int .i64 a13, .int .i64 a14, .int .i64 a15, .int .i64 a16, .int .i64 a17, .int .i64 c0, .string ⟨c1.toArray⟩, .string ⟨c2.toArray⟩, .int .i64 c3, .int .i64 c4, .int .i64 c5, .int .i64 c6, .int .i64 c7, .int .i64 rn, .string ⟨rl.toArray⟩, .string ⟨rr.toArray⟩, .int .i64 rt, .int .i64 rs, .int .i64 rk, .int .i64 r1, .int .i64 r2] 28)
        have hU : Rd (w9.alloc (.cells #[.int .i64 a10, .string ⟨a11.toArray⟩, .string ⟨a12.toArray⟩, .int .i64 a13, .int .i64 a14, .int .i64 a15, .int .i64 a16, .int .i64 a17, .int .i64 c0, .string ⟨c1.toArray⟩, .string ⟨c2.toArray⟩, .int .i64 c3, .int .i64 c4, .int .i64 c5, .int .i64 c6, .int .i64 c7, .int .i64 rn, .string ⟨rl.toArray⟩, .string ⟨rr.toArray⟩, .int .i64 rt, .int .i64 rs, .int .i64 rk, .int .i64 r1, .int .i64 r2] 28)) (some ⟨w9.heap.size, 0, none⟩) (rowsC Stm.cells [⟨⟨a10, a11, a12, a13⟩, a14, a15, a16, a17⟩, ⟨⟨c0, c1, c2, c3⟩, c4, c5, c6, c7⟩, ⟨⟨rn, rl, rr, rt⟩, rs, rk, r1, r2⟩]) := Rd.mk fun j u hj => by rw [Nat.zero_add]; exact (Bx.new w9 28 (rowsC Stm.cells [⟨⟨a10, a11, a12, a13⟩, a14, a15, a16, a17⟩, ⟨⟨c0, c1, c2, c3⟩, c4, c5, c6, c7⟩, ⟨⟨rn, rl, rr, rt⟩, rs, rk, r1, r2⟩])).cell j hj
        replace hV := hV.keep hbx
        replace hT := hT.keep hbx
        replace hX := hX.keep hbx
        go_upto_region 26 with (fail)
        generalize w9.alloc (.cells #[.int .i64 a10, .string ⟨a11.toArray⟩, .string ⟨a12.toArray⟩, .int .i64 a13, .int .i64 a14, .int .i64 a15, .int .i64 a16, .int .i64 a17, .int .i64 c0, .string ⟨c1.toArray⟩, .string ⟨c2.toArray⟩, .int .i64 c3, .int .i64 c4, .int .i64 c5, .int .i64 c6, .int .i64 c7, .int .i64 rn, .string ⟨rl.toArray⟩, .string ⟨rr.toArray⟩, .int .i64 rt, .int .i64 rs, .int .i64 rk, .int .i64 r1, .int .i64 r2] 28) = w9' at *
        generalize w9.heap.size = gu at *
        clear hbx
        clear p0 p1 p2 p3 p4 p5 p6 p7
        clear o0 o1 o2 o3 o4 o5 o6 o7
        clear k0 k1 k2 k3 k4 k5 k6 k7
        obtain ⟨UL, hUL⟩ : ∃ UL : List Stm, UL = [⟨⟨a10, a11, a12, a13⟩, a14, a15, a16, a17⟩, ⟨⟨c0, c1, c2, c3⟩, c4, c5, c6, c7⟩, ⟨⟨rn, rl, rr, rt⟩, rs, rk, r1, r2⟩] := ⟨_, rfl⟩
        rw [← hUL] at hU
        have HUL : Hid (UL.length = 3) := Lib.hid (by rw [hUL]; rfl)
        have HUI : Hid (∀ t ∈ UL, t.In) := Lib.hid (fun t ht => by
          rw [hUL] at ht
          simp at ht
          rcases ht with rfl | rfl | rfl
          · exact HX1.out.toIn
          · exact HXC.out
          · exact HRW.out)
        clear hUL
        go_wp2_with fail
        go_loopw [181] (fun t wq => ∃ i2 : Nat, i2 ≤ 3 ∧ t = .int .i64 (i2 : Int) ∧ Wb W wq db p l cap q B ⟨⟨rn, rl, rr, rt⟩, rs, rk, r1, r2⟩ la L oa O ga ⟨⟨a00, a01, a02, a03⟩, a04, a05, a06, a07⟩ gb ⟨⟨a10, a11, a12, a13⟩, a14, a15, a16, a17⟩ gc ⟨⟨c0, c1, c2, c3⟩, c4, c5, c6, c7⟩ ∧ Rd wq (some ⟨gt, 0, none⟩) (rowsC Stm.cells TL) ∧ Rd wq (some ⟨gu, 0, none⟩) (rowsC Stm.cells UL) ∧ Bx wq gx 28 (Stm.cells ⟨⟨x0, x1, x2, x3⟩, x4, x5, x6, x7⟩)) (fun t _ => 3 - (intOf t).toNat)
        case atStart => exact ⟨0, by omega, rfl, hV, hT, hU, hX⟩
        case round =>
          clear hV hT hU hX
          obtain ⟨i2, hi3, rfl, hV, hT, hU, hX⟩ := hrel
          by_cases hi : i2 < 3
          rotate_left
          · have hii : ¬ (i2 : Int) < 3 := by omega
            go_wp2_with fail
            go_roundw
            case rel => exact ⟨j + 1, by omega, by go_num, hV, hT⟩
            case measure => simp [intOf]; omega
          have hii : (i2 : Int) < 3 := by omega
          obtain ⟨g', off', ⟨⟨y0, y1, y2, y3⟩, y4, y5, y6, y7⟩, e, hy, hcell⟩ := hU.rows (f := Stm.cells) (k := 8) stm_len (by decide) (i := i2) (by rw [HUL.out]; exact hi)
          cases e
          have d0 := hcell 0 (.int .i64 y0) rfl
          have d1 := hcell 1 (.string ⟨y1.toArray⟩) rfl
          have d2 := hcell 2 (.string ⟨y2.toArray⟩) rfl
          have d3 := hcell 3 (.int .i64 y3) rfl
          have d4 := hcell 4 (.int .i64 y4) rfl
          have d5 := hcell 5 (.int .i64 y5) rfl
          have d6 := hcell 6 (.int .i64 y6) rfl
          have d7 := hcell 7 (.int .i64 y7) rfl
          rw [Nat.zero_add] at d0 d1 d2 d3 d4 d5 d6 d7
          rw [Nat.add_zero] at d0
          have HYI : Hid (Stm.In ⟨⟨y0, y1, y2, y3⟩, y4, y5, y6, y7⟩) := Lib.hid (HUI.out _ (List.mem_of_getElem? hy.out))
          clear hcell hy
          have hbx := (Below.refl wr.heap.size wr).alloc (Nat.le_refl _) (.cells #[.int .i64 y0, .string ⟨y1.toArray⟩, .string ⟨y2.toArray⟩, .int .i64 y3, .int .i64 y4, .int .i64 y5, .int .i64 y6, .int .i64 y7] 28)
          have hY := Bx.new wr 28 (Stm.cells ⟨⟨y0, y1, y2, y3⟩, y4, y5, y6, y7⟩)
          change Bx (wr.alloc (.cells #[.int .i64 y0, .string ⟨y1.toArray⟩, .string ⟨y2.toArray⟩, .int .i64 y3, .int .i64 y4, .int .i64 y5, .int .i64 y6, .int .i64 y7] 28)) _ _ _ at hY
          replace hV := hV.keep hbx
          replace hT := hT.keep hbx
          replace hU := hU.keep hbx
          replace hX := hX.keep hbx
          go_upto_region 28 with (fail)
          generalize wr.alloc (.cells #[.int .i64 y0, .string ⟨y1.toArray⟩, .string ⟨y2.toArray⟩, .int .i64 y3, .int .i64 y4, .int .i64 y5, .int .i64 y6, .int .i64 y7] 28) = hYw at *
          generalize wr.heap.size = gy at *
          clear hbx
          clear d0 d1 d2 d3 d4 d5 d6 d7
          have K1 := Lib.hid (fun V => wfollows_walk ⟨⟨x0, x1, x2, x3⟩, x4, x5, x6, x7⟩ ⟨⟨y0, y1, y2, y3⟩, y4, y5, y6, y7⟩ V)
          have K2 := Lib.hid (fun V => rwfollows_walk ⟨⟨x0, x1, x2, x3⟩, x4, x5, x6, x7⟩ ⟨⟨y0, y1, y2, y3⟩, y4, y5, y6, y7⟩ V)
          have K3 := Lib.hid (fun V => wfollows_walk ⟨⟨y0, y1, y2, y3⟩, y4, y5, y6, y7⟩ ⟨⟨x0, x1, x2, x3⟩, x4, x5, x6, x7⟩ V)
          have K4 := Lib.hid (fun V => rwfollows_walk ⟨⟨y0, y1, y2, y3⟩, y4, y5, y6, y7⟩ ⟨⟨x0, x1, x2, x3⟩, x4, x5, x6, x7⟩ V)
          have K5 := Lib.hid (fun V hV => wcontra_walk 500000003 ⟨⟨x0, x1, x2, x3⟩, x4, x5, x6, x7⟩ ⟨⟨y0, y1, y2, y3⟩, y4, y5, y6, y7⟩ V hV HXI.out HYI.out)
          have K6 := Lib.hid (fun V hV => rwcontra_walk 500000003 ⟨⟨x0, x1, x2, x3⟩, x4, x5, x6, x7⟩ ⟨⟨y0, y1, y2, y3⟩, y4, y5, y6, y7⟩ V HRS.out hV HXI.out HYI.out)
          generalize wfollowsF ⟨⟨x0, x1, x2, x3⟩, x4, x5, x6, x7⟩ ⟨⟨y0, y1, y2, y3⟩, y4, y5, y6, y7⟩ = b1 at *
          generalize wfollowsF ⟨⟨y0, y1, y2, y3⟩, y4, y5, y6, y7⟩ ⟨⟨x0, x1, x2, x3⟩, x4, x5, x6, x7⟩ = b2 at *
          generalize wcontraF 500000003 ⟨⟨x0, x1, x2, x3⟩, x4, x5, x6, x7⟩ ⟨⟨y0, y1, y2, y3⟩, y4, y5, y6, y7⟩ = b3 at *
          dsimp only [Stm.val] at K1 K2 K3 K4 K5 K6
          have n1 : (b1 != b1) = false := by simp
          have n2 : (b2 != b2) = false := by simp
          have n3 : (b3 != b3) = false := by simp
          have d0 := fun d os => cell_regrown (hX.cell 0 rfl) d os
          have d1 := fun d os => cell_regrown (hX.cell 1 rfl) d os
          have d2 := fun d os => cell_regrown (hX.cell 2 rfl) d os
          have d3 := fun d os => cell_regrown (hX.cell 3 rfl) d os
          have d4 := fun d os => cell_regrown (hX.cell 4 rfl) d os
          have d5 := fun d os => cell_regrown (hX.cell 5 rfl) d os
          have d6 := fun d os => cell_regrown (hX.cell 6 rfl) d os
          have d7 := fun d os => cell_regrown (hX.cell 7 rfl) d os
          have e0 := fun d os => cell_regrown (hY.cell 0 rfl) d os
          have e1 := fun d os => cell_regrown (hY.cell 1 rfl) d os
          have e2 := fun d os => cell_regrown (hY.cell 2 rfl) d os
          have e3 := fun d os => cell_regrown (hY.cell 3 rfl) d os
          have e4 := fun d os => cell_regrown (hY.cell 4 rfl) d os
          have e5 := fun d os => cell_regrown (hY.cell 5 rfl) d os
          have e6 := fun d os => cell_regrown (hY.cell 6 rfl) d os
          have e7 := fun d os => cell_regrown (hY.cell 7 rfl) d os
          have HBX := Lib.hid (HBS.out _ (HBW.out ▸ hV.wa.env.below))
          have HV := Lib.hid hV
          have HT := Lib.hid hT
          have HU := Lib.hid hU
          have HX2 := Lib.hid hX
          clear hV hT hU hX hY
          refine wp_region_quiet_below (by kernel_rfl) (by kernel_rfl) ?_
          repeat (go_big_quiet_step (first
            | (go_at_call 19; (first | with_reducible exact Calls.regrown_of (K1.out _) | with_reducible exact Calls.regrown_of (K3.out _)))
            | (go_at_call 20; (first | with_reducible exact Calls.regrown_of (K2.out _) | with_reducible exact Calls.regrown_of (K4.out _)))
            | (go_at_call 21; with_reducible exact Calls.regrown_of (K5.out _ (HBX.out.keep (below_regrown _ _ _))))
            | (go_at_call 22; with_reducible exact Calls.regrown_of (K6.out _ (HBX.out.keep (below_regrown _ _ _))))))
          refine wpQuiet_nil ?_
          rintro w8 ⟨p2, hw8⟩
          have hb9 : Below hYw.heap.size hYw w8 := by first | (rw [hw8]; exact below_regrown _ p2.d p2.os) | (rw [← hw8]; exact below_regrown _ p2.d p2.os)
          have hV := HV.out.keep hb9
          have hT := HT.out.keep hb9
          have hU := HU.out.keep hb9
          have hX := HX2.out.keep hb9
          clear hw8 hb9 K1 K2 K3 K4 K5 K6 n1 n2 n3 HBX HV HT HU HX2
          clear d0 d1 d2 d3 d4 d5 d6 d7
          clear e0 e1 e2 e3 e4 e5 e6 e7
          go_wp2_with fail
          go_roundw
          case rel => exact ⟨i2 + 1, by omega, by go_num, hV, hT, hU, hX⟩
          case measure => simp [intOf]; omega
    have hni : (n : Int) < 2 := by omega
    obtain ⟨gs', off, qv, hgs', e0, -⟩ := (show Rd wr (some ⟨gs, 0, none⟩) (ints [pr, 500000003]) from Rd.mk fun j u hj => by rw [Nat.zero_add]; exact hS.cell j hj).int (k := n) hn
    cases hgs'
    rw [Nat.zero_add] at e0
    go_upto_region 11 with (fail)
    clear e0
    obtain ⟨m1, hm1, ma1, mb1⟩ : ∃ m : Int, dnum l q 100 = m ∧ 0 ≤ m ∧ m < 100 := ⟨_, rfl, dnum_lo l q (by omega), dnum_hi l q (by omega)⟩
    obtain ⟨m2, hm2, ma2, mb2⟩ : ∃ m : Int, dnum l (dnxt l q) 100 = m ∧ 0 ≤ m ∧ m < 100 := ⟨_, rfl, dnum_lo l _ (by omega), dnum_hi l _ (by omega)⟩
    obtain ⟨m3, hm3, ma3, mb3⟩ : ∃ m : Int, dnum l (dnxt l (dnxt l q)) 3 = m ∧ 0 ≤ m ∧ m < 3 := ⟨_, rfl, dnum_lo l _ (by omega), dnum_hi l _ (by omega)⟩
    have HM1 := Lib.hid hm1
    have HM2 := Lib.hid hm2
    have HM3 := Lib.hid hm3
    clear hm1 hm2 hm3
    have k1 : IntKind.i64.wrap (1 + m1) = 1 + m1 := by rw [IntKind.wrap_i64]; omega
    have k2 : IntKind.i64.wrap (1 + m2) = 1 + m2 := by rw [IntKind.wrap_i64]; omega
    have k3 : IntKind.i64.wrap (a03 + m3) = a03 + m3 := by rw [IntKind.wrap_i64]; omega
    have k4 : IntKind.i64.wrap (a03 + m3 - 1) = a03 + m3 - 1 := by rw [IntKind.wrap_i64]; omega
    refine wp_region_held_drew (S := fun w' => w'.cell? ⟨ga, 3, none⟩ = some (.int .i64 a03)) (by kernel_rfl) (hV.a.cell 3 rfl) (fun hHeld => ?_)
    simp only [List.size_toArray, List.length_cons, List.length_nil]
    replace hV := hV.keep (Below.refl _ _).drew
    replace hS := hS.drew
    generalize wr.drew = wR at *
    refine held_take (0) (v := ?_) rfl (by kernel_rfl) (by kernel_rfl) (by kernel_rfl) (fun _ _ _ h => h) (Or.inl ⟨by rfl, ?_⟩) (by assumption) ?_
    rotate_left
    · intro w hSw
      try dsimp only at hSw
      go_simp
      with_reducible rfl
    try simp only [Act.put, List.setIfInBounds_toArray, List.set_cons_zero, List.set_cons_succ]
    refine held_take (1) (v := ?_) rfl (by kernel_rfl) (by kernel_rfl) (by kernel_rfl) (fun _ _ _ h => h) (Or.inl ⟨by rfl, ?_⟩) (by assumption) ?_
    rotate_left
    · intro w hSw
      try dsimp only at hSw
      go_simp
      with_reducible rfl
    try simp only [Act.put, List.setIfInBounds_toArray, List.set_cons_zero, List.set_cons_succ]
    refine held_take (2) (v := ?_) rfl (by kernel_rfl) (by kernel_rfl) (by kernel_rfl) (fun _ _ _ h => h) (Or.inl ⟨by rfl, ?_⟩) (by assumption) ?_
    rotate_left
    · intro w hSw
      try dsimp only at hSw
      go_simp
      with_reducible rfl
    try simp only [Act.put, List.setIfInBounds_toArray, List.set_cons_zero, List.set_cons_succ]
    refine held_take (3) (v := ?_) rfl (by kernel_rfl) (by kernel_rfl) (by kernel_rfl) (fun _ _ _ h => h) (Or.inl ⟨by rfl, ?_⟩) (by assumption) ?_
    rotate_left
    · intro w hSw
      try dsimp only at hSw
      go_simp
      with_reducible rfl
    try simp only [Act.put, List.setIfInBounds_toArray, List.set_cons_zero, List.set_cons_succ]
    refine held_take (4) (v := ?_) rfl (by kernel_rfl) (by kernel_rfl) (by kernel_rfl) (fun _ _ _ h => h) (Or.inl ⟨by rfl, ?_⟩) (by assumption) ?_
    rotate_left
    · intro w hSw
      try dsimp only at hSw
      go_simp
      with_reducible rfl
    try simp only [Act.put, List.setIfInBounds_toArray, List.set_cons_zero, List.set_cons_succ]
    refine held_take (7) (v := ?_) rfl (by kernel_rfl) (by kernel_rfl) (by kernel_rfl) (fun _ _ _ h => h) (Or.inl ⟨by rfl, ?_⟩) (by assumption) ?_
    rotate_left
    · intro w hSw
      try dsimp only at hSw
      go_simp
      with_reducible rfl
    try simp only [Act.put, List.setIfInBounds_toArray, List.set_cons_zero, List.set_cons_succ]
    refine held_take (10) (v := ?_) rfl (by kernel_rfl) (by kernel_rfl) (by kernel_rfl) (fun _ _ _ h => h) (Or.inl ⟨by rfl, ?_⟩) (by assumption) ?_
    rotate_left
    · intro w hSw
      try dsimp only at hSw
      go_simp
      with_reducible rfl
    try simp only [Act.put, List.setIfInBounds_toArray, List.set_cons_zero, List.set_cons_succ]
    refine held_take (11) (v := ?_) rfl (by kernel_rfl) (by kernel_rfl) (by kernel_rfl) (fun _ _ _ h => h) (Or.inl ⟨by rfl, ?_⟩) (by assumption) ?_
    rotate_left
    · intro w hSw
      try dsimp only at hSw
      go_simp
      with_reducible rfl
    try simp only [Act.put, List.setIfInBounds_toArray, List.set_cons_zero, List.set_cons_succ]
    refine held_take (12) (v := ?_) rfl (by kernel_rfl) (by kernel_rfl) (by kernel_rfl) (fun _ _ _ h => h) (Or.inl ⟨by rfl, ?_⟩) (by assumption) ?_
    rotate_left
    · intro w hSw
      try dsimp only at hSw
      go_simp
      with_reducible rfl
    try simp only [Act.put, List.setIfInBounds_toArray, List.set_cons_zero, List.set_cons_succ]
    refine held_take (13) (v := ?_) rfl (by kernel_rfl) (by kernel_rfl) (by kernel_rfl) (fun _ _ _ h => h) (Or.inl ⟨by rfl, ?_⟩) (by assumption) ?_
    rotate_left
    · intro w hSw
      try dsimp only at hSw
      go_simp
      with_reducible rfl
    try simp only [Act.put, List.setIfInBounds_toArray, List.set_cons_zero, List.set_cons_succ]
    refine held_take (20) (v := ?_) rfl (by kernel_rfl) (by kernel_rfl) (by kernel_rfl) (fun _ _ _ h => h) (Or.inl ⟨by rfl, ?_⟩) (by assumption) ?_
    rotate_left
    · intro w hSw
      try dsimp only at hSw
      go_simp
      with_reducible rfl
    try simp only [Act.put, List.setIfInBounds_toArray, List.set_cons_zero, List.set_cons_succ]
    refine wpAnyH_ready (rs := [5]) (by kernel_rfl) (by simp) ?_
    refine held_cons rfl (fun K hK => ?_) AllReadyH.nil
    go_simp
    go_at_call 10
    (with_reducible refine (next_walk db p l cap q 100 _ hV.wa.env.dice hV.wa.env.rd HNE.out (by omega) (by omega) (by omega)).mono ?_)
    (first | rintro e z1 rfl hD1 hg1 | rintro e z1 ⟨rfl, hD1, hg1⟩)
    rw [HM1.out]
    have hV1 := hV.next (hV.wa.env.grown HNE.out HDB.out hD1 hg1) hg1
    have hS1 := hS.grown hg1 (by simpa using hns)
    clear hD1 hg1
    go_wp2_with fail
    refine hK.out _ _ (hV1.a.cell 3 rfl) (fun hHeld => ?_)
    clear hK K
    try simp only [Act.put, List.setIfInBounds_toArray, List.set_cons_zero, List.set_cons_succ]
    refine held_take (6) (v := ?_) rfl (by kernel_rfl) (by kernel_rfl) (by kernel_rfl) (fun _ _ _ h => h) (Or.inl ⟨by rfl, ?_⟩) (by assumption) ?_
    rotate_left
    · intro w hSw
      try dsimp only at hSw
      go_simp
      with_reducible rfl
    try simp only [Act.put, List.setIfInBounds_toArray, List.set_cons_zero, List.set_cons_succ]
    refine wpAnyH_ready (rs := [8]) (by kernel_rfl) (by simp) ?_
    refine held_cons rfl (fun K hK => ?_) AllReadyH.nil
    go_simp
    go_at_call 10
    (with_reducible refine (next_walk db p l cap (dnxt l q) 100 _ hV1.wa.env.dice hV1.wa.env.rd HNE.out (by omega) (by omega) (by omega)).mono ?_)
    (first | rintro e z2 rfl hD2 hg2 | rintro e z2 ⟨rfl, hD2, hg2⟩)
    rw [HM2.out]
    have hV2 := hV1.next (hV1.wa.env.grown HNE.out HDB.out hD2 hg2) hg2
    have hS2 := hS1.grown hg2 (by simpa using hns)
    clear hD2 hg2
    go_wp2_with fail
    refine hK.out _ _ (hV2.a.cell 3 rfl) (fun hHeld => ?_)
    clear hK K
    try simp only [Act.put, List.setIfInBounds_toArray, List.set_cons_zero, List.set_cons_succ]
    refine held_take (9) (v := ?_) rfl (by kernel_rfl) (by kernel_rfl) (by kernel_rfl) (fun _ _ _ h => h) (Or.inl ⟨by rfl, ?_⟩) (by assumption) ?_
    rotate_left
    · intro w hSw
      try dsimp only at hSw
      go_simp
      with_reducible rfl
    try simp only [Act.put, List.setIfInBounds_toArray, List.set_cons_zero, List.set_cons_succ]
    refine wpAnyH_ready (rs := [14]) (by kernel_rfl) (by simp) ?_
    refine held_cons rfl (fun K hK => ?_) AllReadyH.nil
    go_simp
    go_at_call 10
    (with_reducible refine (next_walk db p l cap (dnxt l (dnxt l q)) 3 _ hV2.wa.env.dice hV2.wa.env.rd HNE.out (by omega) (by omega) (by omega)).mono ?_)
    (first | rintro e z3 rfl hD3 hg3 | rintro e z3 ⟨rfl, hD3, hg3⟩)
    rw [HM3.out]
    have hV3 := hV2.next (hV2.wa.env.grown HNE.out HDB.out hD3 hg3) hg3
    have hS3 := hS2.grown hg3 (by simpa using hns)
    clear hD3 hg3
    go_wp2_with fail
    refine hK.out _ _ (hV3.a.cell 3 rfl) (fun hHeld => ?_)
    clear hK K
    try simp only [Act.put, List.setIfInBounds_toArray, List.set_cons_zero, List.set_cons_succ]
    refine held_take (15) (v := ?_) rfl (by kernel_rfl) (by kernel_rfl) (by kernel_rfl) (fun _ _ _ h => h) (Or.inl ⟨by rfl, ?_⟩) (by assumption) ?_
    rotate_left
    · intro w hSw
      try dsimp only at hSw
      go_simp
      with_reducible rfl
    try simp only [Act.put, List.setIfInBounds_toArray, List.set_cons_zero, List.set_cons_succ]
    refine held_take (16) (v := ?_) rfl (by kernel_rfl) (by kernel_rfl) (by kernel_rfl) (fun _ _ _ h => h) (Or.inl ⟨by rfl, ?_⟩) (by assumption) ?_
    rotate_left
    · intro w hSw
      try dsimp only at hSw
      go_simp
      with_reducible rfl
    try simp only [Act.put, List.setIfInBounds_toArray, List.set_cons_zero, List.set_cons_succ]
    refine held_take (17) (v := ?_) rfl (by kernel_rfl) (by kernel_rfl) (by kernel_rfl) (fun _ _ _ h => h) (Or.inl ⟨by rfl, ?_⟩) (by assumption) ?_
    rotate_left
    · intro w hSw
      try dsimp only at hSw
      go_simp
      with_reducible rfl
    try simp only [Act.put, List.setIfInBounds_toArray, List.set_cons_zero, List.set_cons_succ]
    refine wpAnyH_ready (rs := [18]) (by kernel_rfl) (by simp) ?_
    refine held_cons rfl (fun K hK => ?_) AllReadyH.nil
    go_simp
    have hbT := (Below.refl z3.heap.size z3).alloc (Nat.le_refl _) (.cells #[.int .i64 key, .int .i64 nonce, .int .i64 seen, .int .i64 (1 + m1), .int .i64 (1 + m2), .int .i64 (a03 + m3 - 1)] 37)
    have hT := Bx.new z3 37 [.int .i64 key, .int .i64 nonce, .int .i64 seen, .int .i64 (1 + m1), .int .i64 (1 + m2), .int .i64 (a03 + m3 - 1)]
    change Bx (z3.alloc (.cells #[.int .i64 key, .int .i64 nonce, .int .i64 seen, .int .i64 (1 + m1), .int .i64 (1 + m2), .int .i64 (a03 + m3 - 1)] 37)) _ _ _ at hT
    have hV4 := hV3.keep hbT
    have hS4 := hS3.keep hbT
    clear hbT
    refine hK.out _ _ (hV4.a.cell 3 rfl) (fun hHeld => ?_)
    clear hK K
    try simp only [Act.put, List.setIfInBounds_toArray, List.set_cons_zero, List.set_cons_succ]
    refine held_take (19) (v := ?_) rfl (by kernel_rfl) (by kernel_rfl) (by kernel_rfl) (fun _ _ _ h => h) (Or.inl ⟨by rfl, ?_⟩) (by assumption) ?_
    rotate_left
    · intro w hSw
      try dsimp only at hSw
      go_simp
      with_reducible rfl
    try simp only [Act.put, List.setIfInBounds_toArray, List.set_cons_zero, List.set_cons_succ]
    refine wpAnyH_done (by kernel_rfl) ?_ _
    go_simp
    generalize z3.alloc (.cells #[.int .i64 key, .int .i64 nonce, .int .i64 seen, .int .i64 (1 + m1), .int .i64 (1 + m2), .int .i64 (a03 + m3 - 1)] 37) = z4 at *
    generalize z3.heap.size = gt at *
    obtain ⟨TL, hTL⟩ : ∃ TL : List (Int × Int × Int), TL = [(key, nonce, seen), (1 + m1, 1 + m2, a03 + m3 - 1)] := ⟨_, rfl⟩
    have hTr : Rd z4 (some ⟨gt, 0, none⟩) (rowsC trC TL) := by rw [hTL]; exact Rd.mk fun j u hj => by rw [Nat.zero_add]; exact hT.cell j hj
    have hTlen : TL.length = 2 := by rw [hTL]; rfl
    have HTI : Hid (∀ t ∈ TL, I64 t.2.2) := Lib.hid (fun t ht => by
      rw [hTL] at ht
      simp at ht
      rcases ht with rfl | rfl
      · exact HSN.out
      · exact ⟨by dsimp only; omega, by dsimp only; omega⟩)
    have HTL := Lib.hid hTlen
    generalize dnxt l (dnxt l (dnxt l q)) = q4 at *
    clear hTL hT hV hV1 hV2 hV3 hS hS1 hS2 hS3 k1 k2 k3 k4 HM1 HM2 HM3 hHeld hTlen
    go_wp2_with fail
    go_loopw [91] (fun t wq => ∃ n2 : Nat, n2 ≤ 2 ∧ t = .int .i64 (n2 : Int) ∧ Wb W wq db p l cap q4 B ⟨⟨rn, rl, rr, rt⟩, rs, rk, r1, r2⟩ la L oa O ga ⟨⟨a00, a01, a02, a03⟩, a04, a05, a06, a07⟩ gb ⟨⟨a10, a11, a12, a13⟩, a14, a15, a16, a17⟩ gc ⟨⟨c0, c1, c2, c3⟩, c4, c5, c6, c7⟩ ∧ Bx wq gs 3 [.int .i64 pr, .int .i64 500000003] ∧ Rd wq (some ⟨gt, 0, none⟩) (rowsC trC TL)) (fun t _ => 2 - (intOf t).toNat)
    case atStart => exact ⟨0, by omega, rfl, hV4, hS4, hTr⟩
    case round =>
      clear hV4 hS4 hTr
      obtain ⟨n2, hn22, rfl, hV, hS, hTr⟩ := hrel
      by_cases hn2 : n2 < 2
      rotate_left
      · have hni2 : ¬ (n2 : Int) < 2 := by omega
        go_wp2_with fail
        go_roundw
        case rel => exact ⟨n + 1, q4, by omega, by go_num, hV, hS⟩
        case measure => simp [intOf]; omega
      have hni2 : (n2 : Int) < 2 := by omega
      obtain ⟨g', off', ⟨t0, t1, t2⟩, e, hx, hcell⟩ := hTr.rows (f := trC) (k := 3) trC_len (by decide) (i := n2) (by rw [HTL.out]; exact hn2)
      cases e
      have d0 := hcell 0 (.int .i64 t0) rfl
      have d1 := hcell 1 (.int .i64 t1) rfl
      have d2 := hcell 2 (.int .i64 t2) rfl
      rw [Nat.zero_add] at d0 d1 d2
      rw [Nat.add_zero] at d0
      have HT2 : Hid (I64 t2) := Lib.hid (HTI.out _ (List.mem_of_getElem? hx.out))
      obtain ⟨⟨⟨u0, u1, u2, u3⟩, u4, u5, u6, u7⟩, ee, kS, kR⟩ := stamp_both qv t0 t1 t2 ⟨a00, a01, a02, a03⟩ HA.out.head HT2.out
      dsimp only [Head.val, Stm.val] at kS kR
      have KS := Lib.hid kS
      have KR := Lib.hid kR
      clear kS kR hcell hx HT2
      have hbx := (Below.refl wr.heap.size wr).alloc (Nat.le_refl _) (.cells #[.int .i64 t0, .int .i64 t1, .int .i64 t2] 37)
      have hX := Bx.new wr 37 [.int .i64 t0, .int .i64 t1, .int .i64 t2]
      change Bx (wr.alloc (.cells #[.int .i64 t0, .int .i64 t1, .int .i64 t2] 37)) _ _ _ at hX
      replace hV := hV.keep hbx
      replace hS := hS.keep hbx
      replace hTr := hTr.keep hbx
      go_upto_region 14 with (fail)
      generalize wr.alloc (.cells #[.int .i64 t0, .int .i64 t1, .int .i64 t2] 37) = v1 at *
      generalize wr.heap.size = gx at *
      clear d0 d1 d2 hbx
      have f0 := hX.cell 0 (v := .int .i64 t0) rfl
      have f1 := hX.cell 1 (v := .int .i64 t1) rfl
      have f2 := hX.cell 2 (v := .int .i64 t2) rfl
      have e0 := hV.a.cell 0 rfl
      have e1 := hV.a.cell 1 rfl
      have e2 := hV.a.cell 2 rfl
      have e3 := hV.a.cell 3 rfl
      go_wp2_with (go_at_call 11; (with_reducible refine (KS.out _ (HBS.out _ (HBW.out ▸ hV.wa.env.below))).mono ?_))
      (first | rintro e v2 rfl hb1 | rintro e v2 ⟨rfl, hb1⟩)
      have hbY := (Below.refl v2.heap.size v2).alloc (Nat.le_refl _) (.cells #[.int .i64 u0, .string ⟨u1.toArray⟩, .string ⟨u2.toArray⟩, .int .i64 u3, .int .i64 u4, .int .i64 u5, .int .i64 u6, .int .i64 u7] 28)
      have hY := Bx.new v2 28 (Stm.cells ⟨⟨u0, u1, u2, u3⟩, u4, u5, u6, u7⟩)
      change Bx (v2.alloc (.cells #[.int .i64 u0, .string ⟨u1.toArray⟩, .string ⟨u2.toArray⟩, .int .i64 u3, .int .i64 u4, .int .i64 u5, .int .i64 u6, .int .i64 u7] 28)) _ _ _ at hY
      replace hV := (hV.keep hb1).keep hbY
      replace hS := (hS.keep hb1).keep hbY
      replace hTr := (hTr.keep hb1).keep hbY
      replace hX := (hX.keep hb1).keep hbY
      clear f0 f1 f2 e0 e1 e2 e3 hb1 hbY KS
      go_upto_region 15 with (fail)
      generalize v2.alloc (.cells #[.int .i64 u0, .string ⟨u1.toArray⟩, .string ⟨u2.toArray⟩, .int .i64 u3, .int .i64 u4, .int .i64 u5, .int .i64 u6, .int .i64 u7] 28) = v3 at *
      generalize v2.heap.size = gy at *
      have f0 := hX.cell 0 (v := .int .i64 t0) rfl
      have f1 := hX.cell 1 (v := .int .i64 t1) rfl
      have f2 := hX.cell 2 (v := .int .i64 t2) rfl
      have e0 := hV.a.cell 0 rfl
      have e1 := hV.a.cell 1 rfl
      have e2 := hV.a.cell 2 rfl
      have e3 := hV.a.cell 3 rfl
      go_wp2_with (go_at_call 12; (with_reducible refine (KR.out _).mono ?_))
      (first | rintro e v4 rfl hb1 | rintro e v4 ⟨rfl, hb1⟩)
      have hbY := (Below.refl v4.heap.size v4).alloc (Nat.le_refl _) (.cells #[.int .i64 u0, .string ⟨u1.toArray⟩, .string ⟨u2.toArray⟩, .int .i64 u3, .int .i64 u4, .int .i64 u5, .int .i64 u6, .int .i64 u7] 28)
      have hZ := Bx.new v4 28 (Stm.cells ⟨⟨u0, u1, u2, u3⟩, u4, u5, u6, u7⟩)
      change Bx (v4.alloc (.cells #[.int .i64 u0, .string ⟨u1.toArray⟩, .string ⟨u2.toArray⟩, .int .i64 u3, .int .i64 u4, .int .i64 u5, .int .i64 u6, .int .i64 u7] 28)) _ _ _ at hZ
      replace hV := (hV.keep hb1).keep hbY
      replace hS := (hS.keep hb1).keep hbY
      replace hTr := (hTr.keep hb1).keep hbY
      replace hY := (hY.keep hb1).keep hbY
      clear f0 f1 f2 e0 e1 e2 e3 hb1 hbY KR hX
      go_upto_region 16 with (fail)
      generalize v4.alloc (.cells #[.int .i64 u0, .string ⟨u1.toArray⟩, .string ⟨u2.toArray⟩, .int .i64 u3, .int .i64 u4, .int .i64 u5, .int .i64 u6, .int .i64 u7] 28) = v5 at *
      generalize v4.heap.size = gz at *
      have p0 := hY.cell 0 rfl
      have p1 := hY.cell 1 rfl
      have p2 := hY.cell 2 rfl
      have p3 := hY.cell 3 rfl
      have p4 := hY.cell 4 rfl
      have p5 := hY.cell 5 rfl
      have p6 := hY.cell 6 rfl
      have p7 := hY.cell 7 rfl
      have o0 := hZ.cell 0 rfl
      have o1 := hZ.cell 1 rfl
      have o2 := hZ.cell 2 rfl
      have o3 := hZ.cell 3 rfl
      have o4 := hZ.cell 4 rfl
      have o5 := hZ.cell 5 rfl
      have o6 := hZ.cell 6 rfl
      have o7 := hZ.cell 7 rfl
      have nn : (ee != ee) = false := by simp
      go_wp2_with fail
      go_roundw
      case rel => exact ⟨n2 + 1, by omega, by go_num, hV, hS, hTr⟩
      case measure => simp [intOf]; omega
end Go.Proofs.YtipoljcgfcjlnaaGreatDoor
