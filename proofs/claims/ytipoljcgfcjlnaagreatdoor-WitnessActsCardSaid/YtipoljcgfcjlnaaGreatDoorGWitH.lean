/- The kit's stamps: of the beginning of a right chain. -/
import Derived.Test.YtipoljcgfcjlnaaGreatDoorGGrp
import Derived.Test.YtipoljcgfcjlnaaGreatDoorGWitR
import Derived.Test.YtipoljcgfcjlnaaGreatDoorGWitG
namespace Go.Proofs.YtipoljcgfcjlnaaGreatDoor
open Go.RowKit
theorem Right.prefix {L : List Rec} (h : Right L L.length) {n : Nat} (hn : n ≤ L.length) : Right (L.take n) (L.take n).length := by
  intro i r hi hr
  rw [List.length_take, Nat.min_eq_left hn] at hi
  rw [List.take_take, Nat.min_eq_left (by omega)]
  refine h i r (by omega) ?_
  rw [List.getElem?_take, if_pos hi] at hr
  exact hr
theorem Right.times {L : List Rec} (h : Right L L.length) : ∀ r ∈ L, 0 ≤ r.time ∧ r.time ≤ 1099511627776 := by
  intro r hr
  obtain ⟨i, hi, rfl⟩ := List.getElem_of_mem hr
  have := follows_short (h i L[i] hi (List.getElem?_eq_getElem hi))
  omega
theorem lastF_time {L : List Rec} (h : Right L L.length) : 0 ≤ (lastF L).2 ∧ (lastF L).2 ≤ 1099511627776 := by
  unfold lastF
  split
  · exact ⟨by decide, by decide⟩
  · rename_i r hr
    exact h.times r (List.mem_of_getLast? hr)
theorem headF_right {L : List Rec} (h : Right L L.length) : headF L = ⟨(L.length : Int), (lastF L).1, rootF (L.map digF), (lastF L).2⟩ := by
  rw [headF, checkF_right h, if_pos rfl]
theorem headF_in {L : List Rec} (h : Right L L.length) : (headF L).In := by
  have h1 := h.len (Nat.le_refl _)
  have h2 := lastF_len L
  have h3 := rootF_len (dig32 L)
  have h4 := lastF_time h
  rw [headF_right h]
  exact ⟨⟨by dsimp only; omega, by dsimp only; omega⟩, ⟨by dsimp only; omega, by dsimp only; omega⟩, by dsimp only; omega, by dsimp only; omega⟩
theorem grown_drew {a b : World} {row : Option Nat} (h : a.grownBy b row) : a.grownBy b.drew row := ⟨h.os, h.tape, h.output, h.size, h.block⟩
theorem conj4 {w : World} {g : Nat} {t : TypeId} {n tm : Int} {lt rt : List UInt8} (h : Bx w g t [.int .i64 n, .string ⟨lt.toArray⟩, .string ⟨rt.toArray⟩, .int .i64 tm]) :
    w.cell? ⟨g, 0, none⟩ = some (.int .i64 n) ∧ w.cell? ⟨g, 1, none⟩ = some (.string ⟨lt.toArray⟩) ∧ w.cell? ⟨g, 2, none⟩ = some (.string ⟨rt.toArray⟩) ∧ w.cell? ⟨g, 3, none⟩ = some (.int .i64 tm) := ⟨h.cell 0 rfl, h.cell 1 rfl, h.cell 2 rfl, h.cell 3 rfl⟩
theorem other8 {w : World} {g b : Nat} {t t' : TypeId} {cs zs : List Value} (h : Bx w g t cs) (_ : Bx w b t' zs) (hne : g ≠ b) (a0 a1 a2 a3 a4 a5 a6 a7 : Value) :
    Bx ((((((((w.setCell ⟨b, 0, none⟩ a0).setCell ⟨b, 1, none⟩ a1).setCell ⟨b, 2, none⟩ a2).setCell ⟨b, 3, none⟩ a3).setCell ⟨b, 4, none⟩ a4).setCell ⟨b, 5, none⟩ a5).setCell ⟨b, 6, none⟩ a6).setCell ⟨b, 7, none⟩ a7) g t cs :=
  (((((((h.other hne 0 _).other hne 1 _).other hne 2 _).other hne 3 _).other hne 4 _).other hne 5 _).other hne 6 _).other hne 7 _
theorem fin8 {W w0 w : World} {db : Nat} {p : Option Addr} {l : List Int} {cap q g : Nat} (hE : Env W w db p l cap q) (hg : w0.grownBy w (some db)) (hR : Rd W p (ints l)) {t : TypeId} {zs : List Value} (_ : Bx w g t zs) (h1 : w0.heap.size ≤ g) (h2 : g ≠ db) (h3 : W.heap.size ≤ g) (a0 a1 a2 a3 a4 a5 a6 a7 : Value) :
    Env W ((((((((w.setCell ⟨g, 0, none⟩ a0).setCell ⟨g, 1, none⟩ a1).setCell ⟨g, 2, none⟩ a2).setCell ⟨g, 3, none⟩ a3).setCell ⟨g, 4, none⟩ a4).setCell ⟨g, 5, none⟩ a5).setCell ⟨g, 6, none⟩ a6).setCell ⟨g, 7, none⟩ a7) db p l cap q ∧ w0.grownBy ((((((((w.setCell ⟨g, 0, none⟩ a0).setCell ⟨g, 1, none⟩ a1).setCell ⟨g, 2, none⟩ a2).setCell ⟨g, 3, none⟩ a3).setCell ⟨g, 4, none⟩ a4).setCell ⟨g, 5, none⟩ a5).setCell ⟨g, 6, none⟩ a6).setCell ⟨g, 7, none⟩ a7) (some db) := by
  have hp := rd_ne hR h3
  exact ⟨(((((((hE.set g 0 _ h2 h3 hp).set g 1 _ h2 h3 hp).set g 2 _ h2 h3 hp).set g 3 _ h2 h3 hp).set g 4 _ h2 h3 hp).set g 5 _ h2 h3 hp).set g 6 _ h2 h3 hp).set g 7 _ h2 h3 hp,
    grown_setO (grown_setO (grown_setO (grown_setO (grown_setO (grown_setO (grown_setO (grown_setO hg h1 0 _) h1 1 _) h1 2 _) h1 3 _) h1 4 _) h1 5 _) h1 6 _) h1 7 _⟩
/-- a stamp of the kit: its texts are short, its time is a time -/
structure Stm.InK (x : Stm) : Prop extends Stm.In x where
  last9 : x.head.last.length ≤ 900
  root9 : x.head.root.length ≤ 900
  tm : 0 ≤ x.head.time ∧ x.head.time ≤ 1099511627776
/-- what a stamp of the kit is -/
def StIn (W w : World) (db : Nat) (p : Option Addr) (l : List Int) (cap : Nat) (e : Ending) (w' : World) : Prop :=
  ∃ (x : Stm) (q' : Nat), e = .returned x.val ∧ x.InK ∧ Env W w' db p l cap q' ∧ w.grownBy w' (some db)
theorem StIn.intro {W w : World} {db : Nat} {p : Option Addr} {l : List Int} {cap : Nat} {e : Ending} {w' : World} (x : Stm) (q' : Nat) (he : e = .returned x.val) (hI : x.InK) (hE : Env W w' db p l cap q') (hg : w.grownBy w' (some db)) : StIn W w db p l cap e w' :=
  ⟨x, q', he, hI, hE, hg⟩
set_option maxRecDepth 100000 in
set_option maxHeartbeats 4000000 in
theorem kstamp_walk (W : World) (db : Nat) (p : Option Addr) (l : List Int) (cap q : Nat) (a : Option Addr) (L : List Rec) (c : Nat) (w : World) (hE : Env W w db p l cap q) (hR : Rd W p (ints l)) (hdb : W.heap.size ≤ db) (hlen : l.length ≤ 281474976710656)
    (hL : Rd w a (recs L)) (hLd : ∀ g, rowOf a = some g → g ≠ db) (hc : L.length ≤ c) (hr : Right L L.length) (hI : ∀ r ∈ L, r.In) :
    Calls Tryz.prog 8 #[.pointer (some ⟨db, 0, none⟩), .slice a L.length c, .int .i64 5] w (StIn W w db p l cap) := by
  have hne := rd_ne hR hdb
  have HNE := Lib.hid hne
  have HRW := Lib.hid hR
  have h1024 := hr.len (Nat.le_refl _)
  have hwl := hE.dice.lt
  have hb0 := (Below.refl w.heap.size w).alloc (Nat.le_refl _) zeroB
  have hZ := Bx.new w 28 Stm.zero.cells
  replace hE := hE.alloc zeroB
  replace hL := hL.keep hb0
  have HL := Lib.hid hL
  have HR := Lib.hid hr
  have HI := Lib.hid hI
  have HLD := Lib.hid hLd
  obtain ⟨m, hm⟩ : ∃ m, m = L.length := ⟨_, rfl⟩
  have HM := Lib.hid hm
  rw [← hm] at hc h1024 ⊢
  clear hne hR hr hI hL hLd hm
  go_enter Tryz.func8, Tryz.ntmps8
  go_wp2_with (go_at_call 10; (with_reducible refine (next_walk db p l cap q ((m : Int) + 1) _ hE.dice hE.rd HNE.out hlen (by omega) (by omega)).mono ?_))
  rintro e w1 ⟨rfl, hD1, hg1⟩
  replace hE := hE.grown HNE.out hdb hD1 hg1
  have HL1 := Lib.hid (HL.out.grown hg1 (by intro g off h e; simp at e; exact HLD.out g (by rw [h]; rfl) e))
  replace hZ := hZ.grown hg1 (by simp; omega)
  have hG : w.grownBy w1 (some db) := grown_tr (below_grownBy hb0 _) hg1
  have n1 := dnum_lo l q (n := (m : Int) + 1) (by omega)
  have n2 := dnum_hi l q (n := (m : Int) + 1) (by omega)
  obtain ⟨N, hN⟩ : ∃ N : Nat, dnum l q ((m : Int) + 1) = (N : Int) := ⟨(dnum l q ((m : Int) + 1)).toNat, by omega⟩
  rw [hN] at n1 n2 ⊢
  have hNm : N ≤ m := by omega
  have hNc : N ≤ c := by omega
  generalize dnxt l q = q1 at *
  clear hD1 hg1 n1 n2 hN HL hb0
  have hlen2 : (L.take N).length = N := by rw [List.length_take, ← HM.out]; omega
  have hrt := HR.out.prefix (n := N) (by rw [← HM.out]; exact hNm)
  have hck := checkF_right hrt
  have hin := headF_in hrt
  have k1 : Calls Tryz.prog 27 #[.slice a N c] w1 fun e w' => e = .returned (.tuple #[(headF (L.take N)).val, .int .i64 0]) ∧ Below w1.heap.size w1 w' := by
    have := rhead_walk a (L.take N) c w1 (HL1.out.recTake N) (by omega) (fun r h => HI.out r (List.mem_of_mem_take h))
    rw [hlen2, hck] at this
    exact this
  have hht := lastF_time hrt
  have htm : (headF (L.take N)).time = (lastF (L.take N)).2 := by rw [headF_right hrt]
  rw [← htm] at hht
  have h9 : (headF (L.take N)).last.length ≤ 900 ∧ (headF (L.take N)).root.length ≤ 900 := by
    have a1 := lastF_len (L.take N)
    have a2 := rootF_len (dig32 (L.take N))
    rw [headF_right hrt]
    exact ⟨by dsimp only; omega, by dsimp only; omega⟩
  have H9 := Lib.hid h9
  have HHT := Lib.hid hht
  clear h9
  generalize headF (L.take N) = h at *
  have K1 := Lib.hid k1
  have HIN := Lib.hid hin
  clear k1 hck hrt hin hlen2 htm HL1 HR HI HLD HM
  obtain ⟨n, lt, rt, t⟩ := h
  dsimp only [Head.val] at *
  have hNci : (N : Int) ≤ (c : Int) := by omega
  go_wp2_with (go_at_call 27; (with_reducible refine K1.out.mono ?_))
  rintro e w2 ⟨rfl, hb2⟩
  go_upto_region 2 with (fail)
  replace hE := (hE.keep hb2).alloc (headB ⟨n, lt, rt, t⟩)
  replace hZ := (hZ.keep hb2).alloc (headB ⟨n, lt, rt, t⟩)
  replace hG : w.grownBy (w2.alloc (headB ⟨n, lt, rt, t⟩)) (some db) := grown_tr hG (below_grownBy (hb2.alloc hb2.size _) _)
  have hH := Bx.new w2 24 [.int .i64 n, .string ⟨lt.toArray⟩, .string ⟨rt.toArray⟩, .int .i64 t]
  change Bx (w2.alloc (headB ⟨n, lt, rt, t⟩)) _ _ _ at hH
  have hgd : w2.heap.size ≠ db := by have := hG.size; have := hb2.size; have := hZ.lt; simp at this; omega
  clear hb2 K1
  generalize w2.alloc (headB ⟨n, lt, rt, t⟩) = w3 at *
  generalize w2.heap.size = gH at *
  obtain ⟨gr, hgr⟩ : ∃ gr, gr = w.heap.size := ⟨_, rfl⟩
  have hwr : w.heap.size ≤ gr := by omega
  have hrd : gr ≠ db := by omega
  rw [← hgr] at hZ ⊢
  clear hgr
  have u1 := dnum_lo l q1 (n := 1000) (by omega)
  have u2 := dnum_hi l q1 (n := 1000) (by omega)
  obtain ⟨A, hA⟩ : ∃ A : Nat, dnum l q1 1000 = (A : Int) := ⟨(dnum l q1 1000).toNat, by omega⟩
  rw [hA] at u1 u2
  have HA := Lib.hid hA
  obtain ⟨q2, hq2⟩ : ∃ q2, dnxt l q1 = q2 := ⟨_, rfl⟩
  have HQ2 := Lib.hid hq2
  clear hq2
  have v1 := dnum_lo l q2 (n := 4) (by omega)
  have v2 := dnum_hi l q2 (n := 4) (by omega)
  obtain ⟨B, hB⟩ : ∃ B : Int, dnum l q2 4 = B := ⟨_, rfl⟩
  rw [hB] at v1 v2
  have HB := Lib.hid hB
  have ks : ∀ V, Calls Tryz.prog 12 #[.int .i64 500000003, .int .i64 5, .int .i64 (1 + (A : Int)), .agg #[.int .i64 n, .string ⟨lt.toArray⟩, .string ⟨rt.toArray⟩, .int .i64 t], .int .i64 (t + B)] V fun e w' => e = .returned (.tuple #[(stampF 5 (1 + A) ⟨n, lt, rt, t⟩ (t + B)).val, .int .i64 0]) ∧ Below V.heap.size V w' := fun V => by
    have := rwstamp_yes 500000003 5 (1 + A) ⟨n, lt, rt, t⟩ (t + B) V HIN.out ⟨by omega, by omega⟩ (by show t ≤ t + B; omega) rsafe_big (by omega) (by omega) (by omega) (by omega)
    rw [Int.natCast_add] at this
    exact this
  have hin : (stampF 5 (1 + A) ⟨n, lt, rt, t⟩ (t + B)).InK := ⟨stampF_in 5 (1 + A) ⟨n, lt, rt, t⟩ (t + B) HIN.out ⟨by omega, by omega⟩, H9.out.1, H9.out.2, HHT.out⟩
  generalize stampF 5 (1 + A) ⟨n, lt, rt, t⟩ (t + B) = x at *
  have HX := Lib.hid hin
  have KS := Lib.hid ks
  clear hA hB ks hin HIN H9 HHT
  obtain ⟨⟨xn, xl, xr, xt⟩, xs, xk, x1, x2⟩ := x
  have hE1 := hE.keep (show Below w3.heap.size w3 w3.drew from (Below.refl _ _).drew)
  have wA1 : IntKind.i64.wrap (1 + (A : Int)) = 1 + (A : Int) := by rw [IntKind.wrap_i64]; omega
  have wB1 : IntKind.i64.wrap (t + B) = t + B := by rw [IntKind.wrap_i64]; omega
  have c0 := hH.cell 0 rfl
  have c1 := hH.cell 1 rfl
  have c2 := hH.cell 2 rfl
  have c3 := hH.cell 3 rfl
  have hgl := hE.dice.lt
  have hgl2 := hH.lt
  go_cut [9] (fun v9 wr => ∃ g9 q', v9 = .pointer (some ⟨g9, 0, none⟩) ∧ Bx wr g9 28 (Stm.cells ⟨⟨xn, xl, xr, xt⟩, xs, xk, x1, x2⟩) ∧ Bx wr gr 28 Stm.zero.cells ∧ g9 ≠ gr ∧ w.heap.size ≤ g9 ∧ Env W wr db p l cap q' ∧ w.grownBy wr (some db))
  case first =>
    have hE1z := (hE.alloc zeroB).keep (show Below (w3.alloc zeroB).heap.size (w3.alloc zeroB) (w3.alloc zeroB).drew from (Below.refl _ _).drew)
    have hH1z := (hH.alloc zeroB).drew
    have hZ1z := (hZ.alloc zeroB).drew
    have hG1z := grown_drew (grown_tr hG (below_grownBy ((Below.refl w3.heap.size w3).alloc (Nat.le_refl _) zeroB) (some db)))
    have hB1z := (Bx.new w3 28 Stm.zero.cells).drew
    have s1 := conj4 hH1z
    go_region_held3 (fun w' => w'.cell? ⟨gH, 0, none⟩ = some (.int .i64 n) ∧ w'.cell? ⟨gH, 1, none⟩ = some (.string ⟨lt.toArray⟩) ∧ w'.cell? ⟨gH, 2, none⟩ = some (.string ⟨rt.toArray⟩) ∧ w'.cell? ⟨gH, 3, none⟩ = some (.int .i64 t)) (first | (with_reducible assumption) | (go_keep; done)) (first | (go_at_call 10; (with_reducible refine (next_walk db p l cap q1 1000 _ (by first | exact hE1.dice | exact hE1z.dice) (by first | exact hE1.rd | exact hE1z.rd) HNE.out hlen (by omega) (by omega)).mono ?_); rintro e wA ⟨rfl, hD, hg⟩; rw [HA.out]; rw [HQ2.out] at hD; (first | (have hEa := hE1.grown HNE.out hdb hD hg; have hHa := hH.drew.grown hg (by simp; exact hgd); have hZa := hZ.drew.grown hg (by simp; exact hrd); have hGa := grown_tr (grown_drew hG) hg; have lqa := hHa.lt; have lea := hEa.dice.lt; have sa := conj4 hHa; have sza := conj4 (hHa.alloc zeroB)) | (have hEa := hE1z.grown HNE.out hdb hD hg; have hHa := hH1z.grown hg (by simp; exact hgd); have hZa := hZ1z.grown hg (by simp; exact hrd); have hGa := grown_tr hG1z hg; have lqa := hHa.lt; have lea := hEa.dice.lt; have sa := conj4 hHa; have sza := conj4 (hHa.alloc zeroB); have hBa := hB1z.grown hg (by simp; omega))); clear hD hg) | (go_at_call 10; (with_reducible refine (next_walk db p l cap q2 4 _ (by first | exact hEa.dice | exact (hEa.alloc zeroB).dice) (by first | exact hEa.rd | exact (hEa.alloc zeroB).rd) HNE.out hlen (by omega) (by omega)).mono ?_); rintro e wB ⟨rfl, hD, hg⟩; rw [HB.out]; (first | (have hEb := hEa.grown HNE.out hdb hD hg; have hHb := hHa.grown hg (by simp; exact hgd); have hZb := hZa.grown hg (by simp; exact hrd); have hGb := grown_tr hGa hg; have lqb := hHb.lt; have leb := hEb.dice.lt; have sb := conj4 hHb; have szb := conj4 (hHb.alloc zeroB); (first | (have hBb := hBa.grown hg (by simp; have := hEa.dice.lt; have := hBa.lt; omega)) | skip)) | (have hEb := (hEa.alloc zeroB).grown HNE.out hdb hD hg; have hHb := (hHa.alloc zeroB).grown hg (by simp; exact hgd); have hZb := (hZa.alloc zeroB).grown hg (by simp; exact hrd); have hGb := grown_tr (grown_tr hGa (below_grownBy ((Below.refl _ _).alloc (Nat.le_refl _) zeroB) _)) hg; have lqb := hHb.lt; have leb := hEb.dice.lt; have sb := conj4 hHb; have szb := conj4 (hHb.alloc zeroB); have hBb := (Bx.new wA 28 Stm.zero.cells).grown hg (by simp; have := hEa.dice.lt; omega))); clear hD hg) | (go_at_call 12; (with_reducible refine (KS.out _).mono ?_); rintro e wC ⟨rfl, hbC⟩; (first | (have hEc := hEb.keep hbC; have hHc := hHb.keep hbC; have hZc := hZb.keep hbC; have hGc := grown_tr hGb (below_grownBy hbC (some db)); have sc := conj4 hHc; have szc := conj4 (hHc.alloc zeroB); have sxc := conj4 (hHc.alloc (.cells #[.int .i64 xn, .string ⟨xl.toArray⟩, .string ⟨xr.toArray⟩, .int .i64 xt, .int .i64 xs, .int .i64 xk, .int .i64 x1, .int .i64 x2] 28)); (first | (have hBc := hBb.keep hbC; have zc0 : wC.cell? ⟨_, 0, none⟩ = some (.int .i64 0) := hBc.cell 0 rfl; have zf0 := hBc.free 0; have zc1 : wC.cell? ⟨_, 1, none⟩ = some (.string ⟨#[]⟩) := hBc.cell 1 rfl; have zf1 := hBc.free 1; have zc2 : wC.cell? ⟨_, 2, none⟩ = some (.string ⟨#[]⟩) := hBc.cell 2 rfl; have zf2 := hBc.free 2; have zc3 : wC.cell? ⟨_, 3, none⟩ = some (.int .i64 0) := hBc.cell 3 rfl; have zf3 := hBc.free 3; have zc4 : wC.cell? ⟨_, 4, none⟩ = some (.int .i64 0) := hBc.cell 4 rfl; have zf4 := hBc.free 4; have zc5 : wC.cell? ⟨_, 5, none⟩ = some (.int .i64 0) := hBc.cell 5 rfl; have zf5 := hBc.free 5; have zc6 : wC.cell? ⟨_, 6, none⟩ = some (.int .i64 0) := hBc.cell 6 rfl; have zf6 := hBc.free 6; have zc7 : wC.cell? ⟨_, 7, none⟩ = some (.int .i64 0) := hBc.cell 7 rfl; have zf7 := hBc.free 7; have sS := conj4 (other8 hHc hBc (by have := hBb.lt; have := hHb.lt; omega) (.int .i64 xn) (.string ⟨xl.toArray⟩) (.string ⟨xr.toArray⟩) (.int .i64 xt) (.int .i64 xs) (.int .i64 xk) (.int .i64 x1) (.int .i64 x2))) | skip)) | (have hEc := (hEb.alloc zeroB).keep hbC; have hHc := (hHb.alloc zeroB).keep hbC; have hZc := (hZb.alloc zeroB).keep hbC; have hGc := grown_tr hGb (below_grownBy (((Below.refl _ _).alloc (Nat.le_refl _) zeroB).trans (hbC.mono (by simp))) (some db)); have hBc := (Bx.new wB 28 Stm.zero.cells).keep hbC; have sc := conj4 hHc; have zc0 : wC.cell? ⟨_, 0, none⟩ = some (.int .i64 0) := hBc.cell 0 rfl; have zf0 := hBc.free 0; have zc1 : wC.cell? ⟨_, 1, none⟩ = some (.string ⟨#[]⟩) := hBc.cell 1 rfl; have zf1 := hBc.free 1; have zc2 : wC.cell? ⟨_, 2, none⟩ = some (.string ⟨#[]⟩) := hBc.cell 2 rfl; have zf2 := hBc.free 2; have zc3 : wC.cell? ⟨_, 3, none⟩ = some (.int .i64 0) := hBc.cell 3 rfl; have zf3 := hBc.free 3; have zc4 : wC.cell? ⟨_, 4, none⟩ = some (.int .i64 0) := hBc.cell 4 rfl; have zf4 := hBc.free 4; have zc5 : wC.cell? ⟨_, 5, none⟩ = some (.int .i64 0) := hBc.cell 5 rfl; have zf5 := hBc.free 5; have zc6 : wC.cell? ⟨_, 6, none⟩ = some (.int .i64 0) := hBc.cell 6 rfl; have zf6 := hBc.free 6; have zc7 : wC.cell? ⟨_, 7, none⟩ = some (.int .i64 0) := hBc.cell 7 rfl; have zf7 := hBc.free 7; have sS := conj4 (other8 hHc hBc (by have := hHb.lt; omega) (.int .i64 xn) (.string ⟨xl.toArray⟩) (.string ⟨xr.toArray⟩) (.int .i64 xt) (.int .i64 xs) (.int .i64 xk) (.int .i64 x1) (.int .i64 x2)))); clear hbC))
    all_goals (go_wp2_with fail; go_meet)
    all_goals
      case rel =>
        have hsz := hZc.lt
        have hsg := hGc.size
        have q1 := hG.size
        have q2 := hGa.size
        have q3 := hGb.size
        have q4 := hZ.lt
        have q5 := hZa.lt
        have q6 := hZb.lt
        first
          | (have _ := sS
             have hF := fin8 hEc hGc HRW.out hBc (by omega) (by omega) (by omega) (.int .i64 xn) (.string ⟨xl.toArray⟩) (.string ⟨xr.toArray⟩) (.int .i64 xt) (.int .i64 xs) (.int .i64 xk) (.int .i64 x1) (.int .i64 x2)
             have h8 := hBc.setStm (y := Stm.zero) ⟨⟨xn, xl, xr, xt⟩, xs, xk, x1, x2⟩
             have hz8 := other8 hZc hBc (by omega) (.int .i64 xn) (.string ⟨xl.toArray⟩) (.string ⟨xr.toArray⟩) (.int .i64 xt) (.int .i64 xs) (.int .i64 xk) (.int .i64 x1) (.int .i64 x2)
             exact ⟨_, _, rfl, h8, hz8, by omega, by omega, hF.1, hF.2⟩)
          | exact ⟨wC.heap.size, _, rfl, Bx.new wC _ _, hZc.alloc _, by omega, by omega, hEc.alloc _, grown_tr hGc (below_grownBy ((Below.refl _ _).alloc (Nat.le_refl _) _) _)⟩
  case rest =>
    obtain ⟨g9, q', rfl, h9, hz, hne9, hw9, hE9, hG9⟩ := hcut
    have hO : Ods W w wc db p l cap q' g9 gr ⟨⟨xn, xl, xr, xt⟩, xs, xk, x1, x2⟩ := ⟨hE9, h9, hz, hG9, hw9, hwr, hne9⟩
    have hF := hO.fin HRW.out hdb hwl
    have hS := hO.br.setStm (y := Stm.zero) ⟨⟨xn, xl, xr, xt⟩, xs, xk, x1, x2⟩
    clear c0 c1 c2 c3 hE9 hG9
    have b0 : wc.cell? ⟨g9, 0, none⟩ = some (.int .i64 xn) := h9.cell 0 rfl
    have b1 : wc.cell? ⟨g9, 1, none⟩ = some (.string ⟨xl.toArray⟩) := h9.cell 1 rfl
    have b2 : wc.cell? ⟨g9, 2, none⟩ = some (.string ⟨xr.toArray⟩) := h9.cell 2 rfl
    have b3 : wc.cell? ⟨g9, 3, none⟩ = some (.int .i64 xt) := h9.cell 3 rfl
    have b4 : wc.cell? ⟨g9, 4, none⟩ = some (.int .i64 xs) := h9.cell 4 rfl
    have b5 : wc.cell? ⟨g9, 5, none⟩ = some (.int .i64 xk) := h9.cell 5 rfl
    have b6 : wc.cell? ⟨g9, 6, none⟩ = some (.int .i64 x1) := h9.cell 6 rfl
    have b7 : wc.cell? ⟨g9, 7, none⟩ = some (.int .i64 x2) := h9.cell 7 rfl
    have z0 : wc.cell? ⟨gr, 0, none⟩ = some (.int .i64 0) := hz.cell 0 rfl
    have y0 := hz.free 0
    have z1 : wc.cell? ⟨gr, 1, none⟩ = some (.string ⟨#[]⟩) := hz.cell 1 rfl
    have y1 := hz.free 1
    have z2 : wc.cell? ⟨gr, 2, none⟩ = some (.string ⟨#[]⟩) := hz.cell 2 rfl
    have y2 := hz.free 2
    have z3 : wc.cell? ⟨gr, 3, none⟩ = some (.int .i64 0) := hz.cell 3 rfl
    have y3 := hz.free 3
    have z4 : wc.cell? ⟨gr, 4, none⟩ = some (.int .i64 0) := hz.cell 4 rfl
    have y4 := hz.free 4
    have z5 : wc.cell? ⟨gr, 5, none⟩ = some (.int .i64 0) := hz.cell 5 rfl
    have y5 := hz.free 5
    have z6 : wc.cell? ⟨gr, 6, none⟩ = some (.int .i64 0) := hz.cell 6 rfl
    have y6 := hz.free 6
    have z7 : wc.cell? ⟨gr, 7, none⟩ = some (.int .i64 0) := hz.cell 7 rfl
    have y7 := hz.free 7
    go_wp2_with fail
    exact bodyPost_ret (Bx.stm1 (x := ⟨⟨xn, xl, xr, xt⟩, xs, xk, x1, x2⟩) (t := 6) rfl _ rfl hS) rfl (StIn.intro ⟨⟨xn, xl, xr, xt⟩, xs, xk, x1, x2⟩ q' rfl HX.out hF.1 hF.2)
end Go.Proofs.YtipoljcgfcjlnaaGreatDoor
