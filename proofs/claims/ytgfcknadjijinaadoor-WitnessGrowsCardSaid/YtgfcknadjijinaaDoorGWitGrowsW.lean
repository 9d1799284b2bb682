/- The walk of the law WitnessGrows. -/
import Derived.Test.YtgfcknadjijinaaDoorGWitI
namespace Go.Proofs.YtgfcknadjijinaaDoor
open Go.RowKit
theorem Gw.set8 {W w0 w : World} {db : Nat} {p : Option Addr} {l : List Int} {cap q : Nat} {la : Option Addr} {L : List Rec} {sa : Option Addr} {k sc : Nat} {S : List Stm} (h : Gw W w0 w db p l cap q la L sa k sc S) (hR : Rd W p (ints l)) (hdb : W.heap.size ≤ db) (hw : db < w0.heap.size)
    (hla : ∀ g, rowOf la = some g → g < w0.heap.size) {g : Nat} {t : TypeId} {zs : List Value} (_ : Bx w g t zs) (hg0 : w0.heap.size ≤ g) (hgs : rowOf sa ≠ some g) (a0 a1 a2 a3 a4 a5 a6 a7 : Value) :
    Gw W w0 ((((((((w.setCell ⟨g, 0, none⟩ a0).setCell ⟨g, 1, none⟩ a1).setCell ⟨g, 2, none⟩ a2).setCell ⟨g, 3, none⟩ a3).setCell ⟨g, 4, none⟩ a4).setCell ⟨g, 5, none⟩ a5).setCell ⟨g, 6, none⟩ a6).setCell ⟨g, 7, none⟩ a7) db p l cap q la L sa k sc S :=
  h.other hR hdb hw hla hg0 hgs (grown8 w g a0 a1 a2 a3 a4 a5 a6 a7)
set_option maxRecDepth 100000 in
set_option maxHeartbeats 4000000 in
theorem grows_walk (W : World) (hB : Bases W) (p : Option Addr) (l : List Int) (cap : Nat) (hR : Rd W p (ints l)) (hl : l.length ≤ 17592186043904) :
    Calls Tryd.prog 5 #[.slice p l.length cap] W fun e w' => e = .returned (.bool true) ∧ Below W.heap.size W w' := by
  go_enter Tryd.func5, Tryd.ntmps5
  go_wp2_with (go_at_call 7; (with_reducible refine (light_walk _ _ _ _ (by omega)).mono ?_))
  rintro e w1 ⟨rfl, rfl⟩
  rcases Nat.lt_or_ge 500 l.length with h5 | h5
  · have hd5 : decide (l.length ≤ 500) = false := by simp; omega
    go_wp2_with (go_at_call 8; (with_reducible refine (awake21_walk _ hB).mono ?_))
    rintro e w1 ⟨rfl, hb1⟩
    go_wp2
    go_ret
    exact ⟨rfl, hb1⟩
  have hd5 : decide (l.length ≤ 500) = true := by simp; omega
  go_wp2_with (go_at_call 9; (with_reducible refine (roll_walk _ _ _ _).mono ?_))
  rintro e w1 ⟨rfl, hD, hb1⟩
  have hE : Env W w1 W.heap.size p l cap 0 := ⟨hD, hR.keep hb1, hb1⟩
  clear hD hb1
  have kch := chain_walk W _ p l cap 0 7 _ hE hR (Nat.le_refl _) (by omega) (by omega)
  rw [show ((7 : Nat) : Int) = 7 from rfl] at kch
  have KCH := Lib.hid kch
  clear kch
  go_wp2_with (go_at_call 13; (with_reducible refine KCH.out.mono ?_))
  rintro e w2 ⟨L, la, lc, tm, q2, rfl, hK, hO, hE2, hg2⟩
  have hwl : W.heap.size < w1.heap.size := hE.dice.lt
  have hla : ∀ g, rowOf la = some g → w1.heap.size ≤ g ∧ g < w2.heap.size := fun g h => hO.row g h
  have hlc : L.length ≤ lc := hO.2.1
  have hL7 := hK.num
  have hG : Gw W w2 w2 W.heap.size p l cap q2 la L none 0 0 [] := ⟨hE2, Ow.nil _ _ _, hO.rd, Nat.le_refl _⟩
  have hw2 := hg2.size
  have HK := Lib.hid hK
  have HLA := Lib.hid hla
  have hne := rd_ne hR (Nat.le_refl _)
  have HNE := Lib.hid hne
  have HR := Lib.hid hR
  have HB := Lib.hid hB
  obtain ⟨db, hdbe⟩ : ∃ db, db = W.heap.size := ⟨_, rfl⟩
  have hdb : W.heap.size ≤ db := by omega
  have hdw : db < w2.heap.size := by omega
  have HLD : Hid (∀ g, rowOf la = some g → g ≠ db) := fun g h => by have := HLA.out g h; omega
  have HLW : Hid (∀ g, rowOf la = some g → g < w2.heap.size) := fun g h => (HLA.out g h).2
  rw [← hdbe] at hG HNE ⊢
  obtain ⟨w0, hw0⟩ : ∃ w0, w0 = w2 := ⟨_, rfl⟩
  rw [← hw0] at hdw HLW
  have hG2 : Gw W w0 w2 db p l cap q2 la L none 0 0 [] := by rw [hw0]; exact hG
  obtain ⟨m, hm⟩ : ∃ m, m = L.length := ⟨_, rfl⟩
  have HM := Lib.hid hm
  rw [← hm] at hL7 hlc ⊢
  clear hK hO hE2 hg2 hE hla hne hR hB hG hwl hw2 HLA hdbe hw0 hm KCH hd5
  go_wp2_with fail
  go_loopw [5, 6, 7] (fun v5 v6 v7 wr => ∃ (k N : Nat) (S : List Stm) (sa : Option Addr) (sc : Nat) (sn : Int) (q' : Nat), N ≤ m + 3 ∧ k ≤ N ∧ v7 = .int .i64 (N : Int) ∧ v6 = .int .i64 sn ∧ v5 = .slice sa k sc ∧ Hid (S.length = k) ∧ Hid (Good L S N sn) ∧ 0 ≤ sn ∧ sn ≤ 1099511627776 + 3 * (k : Int) ∧ Gw W w0 wr db p l cap q' la L sa k sc S) (fun _ _ v7 _ => m + 4 - (intOf v7).toNat)
  case atStart => exact ⟨0, 0, [], none, 0, 0, q2, by omega, by omega, rfl, rfl, rfl, rfl, Good.nil L, by omega, by omega, hG2⟩
  case round =>
    clear hG2
    obtain ⟨k, N, S, sa, sc, sn, q3, hNm, hkN, rfl, rfl, rfl, hS, hGd, hs0, hs1, hC⟩ := hrel
    by_cases hNl : N ≤ m
    · have hNi : (N : Int) ≤ (m : Int) := by omega
      have hNc : (N : Int) ≤ (lc : Int) := by omega
      have hrt := HK.out.right.prefix (n := N) (by rw [← HM.out]; exact hNl)
      have hlen2 : (L.take N).length = N := by rw [List.length_take, ← HM.out]; omega
      have hck := checkF_right hrt
      have hin := headF_in hrt
      have k1 : ∀ V, Rd V la (recs L) → Calls Tryd.prog 18 #[.slice la N lc] V fun e w' => e = .returned (.tuple #[(headF (L.take N)).val, .int .i64 0]) ∧ Below V.heap.size V w' := fun V hV => by
        have := rhead_walk la (L.take N) lc V (hV.recTake N) (by omega) (fun r h => HK.out.ins r (List.mem_of_mem_take h))
        rw [hlen2, hck] at this
        exact this
      have hht := lastF_time hrt
      have htm : (headF (L.take N)).time = (lastF (L.take N)).2 := by rw [headF_right hrt]
      rw [← htm] at hht
      have hgs := fun sn' hs nonce ht hI d => Good.snoc (L := L) hGd.out HK.out.right (by rw [← HM.out]; exact hNl) (sn' := sn') hs nonce ht hI d
      have hcv := fun x c V hV hc hx => covers_yes x la L c N V hV hc HK.out.right HK.out.ins (by rw [← HM.out]; exact hNl) hx
      generalize headF (L.take N) = h at *
      obtain ⟨hn, hl2, hr2, ht⟩ := h
      dsimp only [Head.val] at k1 hht
      have K1 := Lib.hid k1
      have HGS := Lib.hid hgs
      have HCV := Lib.hid hcv
      have HIN := Lib.hid hin
      clear k1 hgs hcv hin hrt hlen2 hck htm
      go_wp2_with (go_at_call 18; (with_reducible refine (K1.out _ hC.rd).mono ?_))
      (first | rintro e w3 rfl hb1 | rintro e w3 ⟨rfl, hb1⟩)
      go_upto_region 11 with (fail)
      have hgd : w3.heap.size ≠ db := by have := hC.size; have := hb1.size; omega
      replace hC := (hC.keep hb1).alloc (headB ⟨hn, hl2, hr2, ht⟩)
      have hH := Bx.new w3 29 [.int .i64 hn, .string ⟨hl2.toArray⟩, .string ⟨hr2.toArray⟩, .int .i64 ht]
      change Bx (w3.alloc (headB ⟨hn, hl2, hr2, ht⟩)) _ _ _ at hH
      clear hb1 K1
      generalize w3.alloc (headB ⟨hn, hl2, hr2, ht⟩) = w4 at *
      generalize w3.heap.size = gH at *
      have d1 := dnum_lo l q3 (n := 3) (by omega)
      have d2 := dnum_hi l q3 (n := 3) (by omega)
      obtain ⟨dn, hdn⟩ : ∃ dn, dnum l q3 3 = dn := ⟨_, rfl⟩
      rw [hdn] at d1 d2
      have HDN := Lib.hid hdn
      have hC1 := hC.drew
      have c3 := hH.cell 3 rfl
      have hmx1 : sn ≤ max sn ht := by omega
      have hmx2 : ht ≤ max sn ht := by omega
      have hmx3 : max sn ht ≤ 1099511627776 + 3 * (k : Int) := by omega
      have hwr : IntKind.i64.wrap (max sn ht + dn) = max sn ht + dn := by rw [IntKind.wrap_i64]; omega
      clear hdn
      go_cut [6] (fun v6 wr => ∃ (q' : Nat) (v : Int), v6 = .int .i64 v ∧ sn ≤ v ∧ ht ≤ v ∧ v ≤ 1099511627776 + 3 * ((k + 1 : Nat) : Int) ∧ Bx wr gH 29 [.int .i64 hn, .string ⟨hl2.toArray⟩, .string ⟨hr2.toArray⟩, .int .i64 ht] ∧ Gw W w0 wr db p l cap q' la L sa k sc S)
      case first =>
        go_region_with ((go_at_call 11; refine (next_walk db p l cap q3 3 _ hC1.env.dice hC1.env.rd HNE.out (by omega) (by omega) (by omega)).mono ?_; rintro e wN ⟨rfl, hD, hg⟩; rw [HDN.out]; have hCN := hC1.next HNE.out hdb hdw HLD.out hD hg; have hHN := hH.drew.grown hg (by simp; exact hgd); have c3N := hHN.cell 3 rfl; clear hD hg))
        all_goals (go_wp2_with fail; go_meet)
        all_goals
          case rel => exact ⟨_, _, rfl, by omega, by omega, by omega, hHN, hCN⟩
      case rest =>
      obtain ⟨q4, v, rfl, hv1, hv2, hv3, hH', hC'⟩ := hcut
      clear c3 hmx1 hmx2 hmx3 hwr hC hH hC1 d1 d2 HDN
      have hC := hC'
      have hH := hH'
      clear hC' hH'
      have u1 := dnum_lo l q4 (n := 5000) (by omega)
      have u2 := dnum_hi l q4 (n := 5000) (by omega)
      obtain ⟨A, hA⟩ : ∃ A : Nat, dnum l q4 5000 = (A : Int) := ⟨(dnum l q4 5000).toNat, by omega⟩
      rw [hA] at u1 u2
      have HA := Lib.hid hA
      have ks : ∀ V, Bases V → Calls Tryd.prog 10 #[.int .i64 500000003, .int .i64 77, .int .i64 (1 + (A : Int)), .agg #[.int .i64 hn, .string ⟨hl2.toArray⟩, .string ⟨hr2.toArray⟩, .int .i64 ht], .int .i64 v] V fun e w' => e = .returned (.tuple #[(stampF 77 (1 + A) ⟨hn, hl2, hr2, ht⟩ v).val, .int .i64 0]) ∧ Below V.heap.size V w' := fun V hV => by
        have := stamp_made 77 (1 + A) ⟨hn, hl2, hr2, ht⟩ v V hV HIN.out ⟨by omega, by omega⟩ hv2 (by omega) (by omega) (by omega) (by omega)
        rw [Int.natCast_add] at this
        exact this
      have hin2 := stampF_in 77 (1 + A) ⟨hn, hl2, hr2, ht⟩ v HIN.out ⟨by omega, by omega⟩
      have hrg := stampF_right 77 (1 + A) ⟨hn, hl2, hr2, ht⟩ v hv2
      have hgd2 := fun d => HGS.out v hv1 (1 + A) hv2 ⟨by omega, by omega⟩ d
      have hxh : (stampF 77 (1 + A) ⟨hn, hl2, hr2, ht⟩ v).head = ⟨hn, hl2, hr2, ht⟩ := rfl
      have hcv := fun V hV => HCV.out (stampF 77 (1 + A) ⟨hn, hl2, hr2, ht⟩ v) lc V hV (by rw [← HM.out]; exact hlc) hxh
      generalize stampF 77 (1 + A) ⟨hn, hl2, hr2, ht⟩ v = x at *
      have krt : ∀ V, Bases V → Calls Tryd.prog 12 #[.int .i64 500000003, x.val] V fun e w' => e = .returned (.bool true) ∧ Below V.heap.size V w' := fun V hV => by rw [← hrg]; exact wright_walk 500000003 x V hV hin2
      rw [← HM.out] at hcv
      obtain ⟨⟨xn, xl, xr, xt⟩, xs, xk, x1, x2⟩ := x
      have KS := Lib.hid ks
      have KR := Lib.hid krt
      have KV := Lib.hid hcv
      have HG2 := Lib.hid hgd2
      clear hA ks hin2 hrg hgd2 hcv krt hxh HGS HCV HIN hht
      have wA1 : IntKind.i64.wrap (1 + (A : Int)) = 1 + (A : Int) := by rw [IntKind.wrap_i64]; omega
      obtain ⟨w5, hw5⟩ : ∃ w5, w5 = wc := ⟨_, rfl⟩
      subst hw5
      have hC1 := hC.drew
      have hC1z := (hC.alloc zeroB).drew
      have hH1z := (hH.alloc zeroB).drew
      have hB1z := (Bx.new w5 33 Stm.zero.cells).drew
      have s1 := conj4 hH1z
      have hgl := hC.env.dice.lt
      have hgl2 := hH.lt
      have c0 := hH.cell 0 rfl
      have c1 := hH.cell 1 rfl
      have c2 := hH.cell 2 rfl
      have c3 := hH.cell 3 rfl
      go_upto_region 12 with (fail)
      go_cut [10, 11] (fun v10 v11 wr => ∃ (g : Nat) (q' : Nat), v10 = .pointer (some ⟨g, 0, none⟩) ∧ v11 = .int .i64 0 ∧ Bx wr g 33 (⟨⟨xn, xl, xr, xt⟩, xs, xk, x1, x2⟩ : Stm).cells ∧ Gw W w0 wr db p l cap q' la L sa k sc S)
      case first =>
        go_region_held3 (fun w' => w'.cell? ⟨gH, 0, none⟩ = some (.int .i64 hn) ∧ w'.cell? ⟨gH, 1, none⟩ = some (.string ⟨hl2.toArray⟩) ∧ w'.cell? ⟨gH, 2, none⟩ = some (.string ⟨hr2.toArray⟩) ∧ w'.cell? ⟨gH, 3, none⟩ = some (.int .i64 ht)) (first | (with_reducible assumption) | (go_keep; done)) (first | (go_at_call 11; (with_reducible refine (next_walk db p l cap q4 5000 _ (by first | exact hC1.env.dice | exact hC1z.env.dice) (by first | exact hC1.env.rd | exact hC1z.env.rd) HNE.out (by omega) (by omega) (by omega)).mono ?_); rintro e wA ⟨rfl, hD, hg⟩; rw [HA.out]; (first | (have hCa := hC1.next HNE.out hdb hdw HLD.out hD hg; have hHa := hH.drew.grown hg (by simp; exact hgd); have lqa := hHa.lt; have lea := hCa.env.dice.lt; have sa := conj4 hHa; have sza := conj4 (hHa.alloc zeroB)) | (have hCa := hC1z.next HNE.out hdb hdw HLD.out hD hg; have hHa := hH1z.grown hg (by simp; exact hgd); have lqa := hHa.lt; have lea := hCa.env.dice.lt; have sa := conj4 hHa; have sza := conj4 (hHa.alloc zeroB); have hBa := hB1z.grown hg (by simp; omega))); clear hD hg) | (go_at_call 10; (with_reducible refine (KS.out _ (by first | exact HB.out.keep hCa.env.below | exact HB.out.keep (hCa.alloc zeroB).env.below)).mono ?_); (first | rintro e wC rfl hbC | rintro e wC ⟨rfl, hbC⟩); (first | (have hCc := hCa.keep hbC; have hHc := hHa.keep hbC; have sc := conj4 hHc; have szc := conj4 (hHc.alloc zeroB); have sxc := conj4 (hHc.alloc (.cells #[.int .i64 xn, .string ⟨xl.toArray⟩, .string ⟨xr.toArray⟩, .int .i64 xt, .int .i64 xs, .int .i64 xk, .int .i64 x1, .int .i64 x2] 33)); have lC := hbC.size; (first | (have hBc := hBa.keep hbC; have zc0 : wC.cell? ⟨_, 0, none⟩ = some (.int .i64 0) := hBc.cell 0 rfl; have zf0 := hBc.free 0; have zc1 : wC.cell? ⟨_, 1, none⟩ = some (.string ⟨#[]⟩) := hBc.cell 1 rfl; have zf1 := hBc.free 1; have zc2 : wC.cell? ⟨_, 2, none⟩ = some (.string ⟨#[]⟩) := hBc.cell 2 rfl; have zf2 := hBc.free 2; have zc3 : wC.cell? ⟨_, 3, none⟩ = some (.int .i64 0) := hBc.cell 3 rfl; have zf3 := hBc.free 3; have zc4 : wC.cell? ⟨_, 4, none⟩ = some (.int .i64 0) := hBc.cell 4 rfl; have zf4 := hBc.free 4; have zc5 : wC.cell? ⟨_, 5, none⟩ = some (.int .i64 0) := hBc.cell 5 rfl; have zf5 := hBc.free 5; have zc6 : wC.cell? ⟨_, 6, none⟩ = some (.int .i64 0) := hBc.cell 6 rfl; have zf6 := hBc.free 6; have zc7 : wC.cell? ⟨_, 7, none⟩ = some (.int .i64 0) := hBc.cell 7 rfl; have zf7 := hBc.free 7; have sS := conj4 (other8 hHc hBc (by have := hBa.lt; have := hHa.lt; omega) (.int .i64 xn) (.string ⟨xl.toArray⟩) (.string ⟨xr.toArray⟩) (.int .i64 xt) (.int .i64 xs) (.int .i64 xk) (.int .i64 x1) (.int .i64 x2))) | skip)) | (have hCc := (hCa.alloc zeroB).keep hbC; have hHc := (hHa.alloc zeroB).keep hbC; have lC := hbC.size; have hBc := (Bx.new wA 33 Stm.zero.cells).keep hbC; have sc := conj4 hHc; have zc0 : wC.cell? ⟨_, 0, none⟩ = some (.int .i64 0) := hBc.cell 0 rfl; have zf0 := hBc.free 0; have zc1 : wC.cell? ⟨_, 1, none⟩ = some (.string ⟨#[]⟩) := hBc.cell 1 rfl; have zf1 := hBc.free 1; have zc2 : wC.cell? ⟨_, 2, none⟩ = some (.string ⟨#[]⟩) := hBc.cell 2 rfl; have zf2 := hBc.free 2; have zc3 : wC.cell? ⟨_, 3, none⟩ = some (.int .i64 0) := hBc.cell 3 rfl; have zf3 := hBc.free 3; have zc4 : wC.cell? ⟨_, 4, none⟩ = some (.int .i64 0) := hBc.cell 4 rfl; have zf4 := hBc.free 4; have zc5 : wC.cell? ⟨_, 5, none⟩ = some (.int .i64 0) := hBc.cell 5 rfl; have zf5 := hBc.free 5; have zc6 : wC.cell? ⟨_, 6, none⟩ = some (.int .i64 0) := hBc.cell 6 rfl; have zf6 := hBc.free 6; have zc7 : wC.cell? ⟨_, 7, none⟩ = some (.int .i64 0) := hBc.cell 7 rfl; have zf7 := hBc.free 7; have sS := conj4 (other8 hHc hBc (by have := hHa.lt; omega) (.int .i64 xn) (.string ⟨xl.toArray⟩) (.string ⟨xr.toArray⟩) (.int .i64 xt) (.int .i64 xs) (.int .i64 xk) (.int .i64 x1) (.int .i64 x2)))); clear hbC))
        all_goals (go_wp2_with fail; go_meet)
        all_goals
          case rel =>
            have q1 := hC.size
            have q2 := hCa.size
            have q5 := hC.own.row
            first
              | (have _ := sS
                 have hFF := hCc.set8 HR.out hdb hdw HLW.out hBc (by omega) (by intro e; have h1 := hC.own.row _ e; have h2 := hCa.own.row _ e; omega) (.int .i64 xn) (.string ⟨xl.toArray⟩) (.string ⟨xr.toArray⟩) (.int .i64 xt) (.int .i64 xs) (.int .i64 xk) (.int .i64 x1) (.int .i64 x2)
                 have hSS := hBc.setStm (y := Stm.zero) (⟨⟨xn, xl, xr, xt⟩, xs, xk, x1, x2⟩ : Stm)
                 exact ⟨_, _, rfl, rfl, hSS, hFF⟩)
              | exact ⟨wC.heap.size, _, rfl, rfl, Bx.new wC _ _, hCc.alloc _⟩
      case rest =>
      obtain ⟨g, q5, rfl, rfl, hX, hC'⟩ := hcut
      obtain ⟨w6, hw6⟩ : ∃ w6, w6 = wc := ⟨_, rfl⟩
      subst hw6
      clear c0 c1 c2 c3 s1 hB1z hH1z hC1z hC1 hC hH wA1 hgl hgl2 KS HA
      have hC := hC'
      clear hC'
      have c0 : w6.cell? ⟨g, 0, none⟩ = some (.int .i64 xn) := hX.cell 0 rfl
      have c1 : w6.cell? ⟨g, 1, none⟩ = some (.string ⟨xl.toArray⟩) := hX.cell 1 rfl
      have c2 : w6.cell? ⟨g, 2, none⟩ = some (.string ⟨xr.toArray⟩) := hX.cell 2 rfl
      have c3 : w6.cell? ⟨g, 3, none⟩ = some (.int .i64 xt) := hX.cell 3 rfl
      have c4 : w6.cell? ⟨g, 4, none⟩ = some (.int .i64 xs) := hX.cell 4 rfl
      have c5 : w6.cell? ⟨g, 5, none⟩ = some (.int .i64 xk) := hX.cell 5 rfl
      have c6 : w6.cell? ⟨g, 6, none⟩ = some (.int .i64 x1) := hX.cell 6 rfl
      have c7 : w6.cell? ⟨g, 7, none⟩ = some (.int .i64 x2) := hX.cell 7 rfl
      go_wp2_with (go_at_call 12; (with_reducible refine (KR.out _ (HB.out.keep hC.env.below)).mono ?_))
      (first | rintro e w7 rfl hb1 | rintro e w7 ⟨rfl, hb1⟩)
      replace hX := hX.keep hb1
      replace hC := hC.keep hb1
      clear hb1 c0 c1 c2 c3 c4 c5 c6 c7
      have c0 : w7.cell? ⟨g, 0, none⟩ = some (.int .i64 xn) := hX.cell 0 rfl
      have c1 : w7.cell? ⟨g, 1, none⟩ = some (.string ⟨xl.toArray⟩) := hX.cell 1 rfl
      have c2 : w7.cell? ⟨g, 2, none⟩ = some (.string ⟨xr.toArray⟩) := hX.cell 2 rfl
      have c3 : w7.cell? ⟨g, 3, none⟩ = some (.int .i64 xt) := hX.cell 3 rfl
      have c4 : w7.cell? ⟨g, 4, none⟩ = some (.int .i64 xs) := hX.cell 4 rfl
      have c5 : w7.cell? ⟨g, 5, none⟩ = some (.int .i64 xk) := hX.cell 5 rfl
      have c6 : w7.cell? ⟨g, 6, none⟩ = some (.int .i64 x1) := hX.cell 6 rfl
      have c7 : w7.cell? ⟨g, 7, none⟩ = some (.int .i64 x2) := hX.cell 7 rfl
      go_wp2_with (go_at_call 19; (with_reducible refine (KV.out _ hC.rd).mono ?_))
      (first | rintro e w8 rfl hb1 | rintro e w8 ⟨rfl, hb1⟩)
      replace hX := hX.keep hb1
      replace hC := hC.keep hb1
      clear hb1 c0 c1 c2 c3 c4 c5 c6 c7
      have c0 : w8.cell? ⟨g, 0, none⟩ = some (.int .i64 xn) := hX.cell 0 rfl
      have c1 : w8.cell? ⟨g, 1, none⟩ = some (.string ⟨xl.toArray⟩) := hX.cell 1 rfl
      have c2 : w8.cell? ⟨g, 2, none⟩ = some (.string ⟨xr.toArray⟩) := hX.cell 2 rfl
      have c3 : w8.cell? ⟨g, 3, none⟩ = some (.int .i64 xt) := hX.cell 3 rfl
      have c4 : w8.cell? ⟨g, 4, none⟩ = some (.int .i64 xs) := hX.cell 4 rfl
      have c5 : w8.cell? ⟨g, 5, none⟩ = some (.int .i64 xk) := hX.cell 5 rfl
      have c6 : w8.cell? ⟨g, 6, none⟩ = some (.int .i64 x1) := hX.cell 6 rfl
      have c7 : w8.cell? ⟨g, 7, none⟩ = some (.int .i64 x2) := hX.cell 7 rfl
      go_wp2_with (at_builtin; refine wpList_app1 (w0 := W) (B := W.heap.size) rfl _ _ _ rfl el_stm rfl hC.own hC.env.below (by omega) hC.size (cs := (⟨⟨xn, xl, xr, xt⟩, xs, xk, x1, x2⟩ : Stm).cells) rfl rfl (stm_one _) (by omega) ?_)
      intro a3 cap3 w9 hown3 hbel3 hg3
      rw [stms_snoc] at hown3
      have hC9 := hC.app HR.out hdb hdw HLW.out hown3 hg3
      clear hown3 hbel3 hg3 c0 c1 c2 c3 c4 c5 c6 c7 hX hC
      go_wp2_with (go_at_call 11; (with_reducible refine (next_walk db p l cap q5 3 _ hC9.env.dice hC9.env.rd HNE.out (by omega) (by omega) (by omega)).mono ?_))
      (first | rintro e w10 ⟨rfl, hD, hg⟩)
      replace hC9 := hC9.next HNE.out hdb hdw HLD.out hD hg
      have d1 := dnum_lo l q5 (n := 3) (by omega)
      have d2 := dnum_hi l q5 (n := 3) (by omega)
      obtain ⟨dn, hdn⟩ : ∃ dn : Nat, dnum l q5 3 = (dn : Int) := ⟨(dnum l q5 3).toNat, by omega⟩
      rw [hdn] at d1 d2 ⊢
      have HG3 := Lib.hid (HG2.out dn)
      have HS3 := Lib.hid (show (S ++ [(⟨⟨xn, xl, xr, xt⟩, xs, xk, x1, x2⟩ : Stm)]).length = k + 1 by rw [List.length_append, hS.out]; rfl)
      generalize dnxt l q5 = q6 at *
      generalize S ++ [(⟨⟨xn, xl, xr, xt⟩, xs, xk, x1, x2⟩ : Stm)] = S3 at *
      clear hD hg hdn HG2 hGd hS
      go_wp2_with fail
      go_roundw
      case rel => exact ⟨k + 1, N + 1 + dn, S3, a3, cap3, v, q6, by omega, by omega, by congr 1; omega, rfl, rfl, HS3, HG3, by omega, hv3, hC9⟩
      case measure => simp [intOf]; omega
    · have hNi : ¬ ((N : Int) ≤ (m : Int)) := by omega
      have hRd := hC.own.rd
      have hbW := hC.env.below
      have HBr := Lib.hid (HB.out.keep hbW)
      have hkb : k ≤ 10 := by omega
      obtain ⟨w5, hw5⟩ : ∃ w5, w5 = wr := ⟨_, rfl⟩
      subst hw5
      have HS2 := hS
      have HGd := hGd
      clear hC hS hGd
      go_wp2_with fail
      go_loopw [75] (fun v75 w' => ∃ i : Nat, i ≤ k ∧ v75 = .int .i64 (i : Int) ∧ Below w5.heap.size w5 w') (fun v75 _ => k - (intOf v75).toNat)
      case atStart => exact ⟨0, by omega, rfl, Below.refl _ _⟩
      case round =>
        obtain ⟨i, hik, rfl, hb6⟩ := hrel
        obtain ⟨w6, hw6⟩ : ∃ w6, w6 = wr := ⟨_, rfl⟩
        subst hw6
        by_cases hi : i < k
        · have hii : (i : Int) < (k : Int) := by omega
          obtain ⟨g, off, x, rfl, hx, c0, c1, c2, c3, c4, c5, c6, c7⟩ := (hRd.keep hb6).stm (k := i) (by rw [HS2.out]; exact hi)
          obtain ⟨⟨xn, xl, xr, xt⟩, xs, xk, x1, x2⟩ := x
          go_wp2_with fail
          have hX := Bx.new w6 33 (⟨⟨xn, xl, xr, xt⟩, xs, xk, x1, x2⟩ : Stm).cells
          have hb7 := hb6.alloc hb6.size (stmB (⟨⟨xn, xl, xr, xt⟩, xs, xk, x1, x2⟩ : Stm))
          change Bx (w6.alloc (stmB (⟨⟨xn, xl, xr, xt⟩, xs, xk, x1, x2⟩ : Stm))) _ _ _ at hX
          clear c0 c1 c2 c3 c4 c5 c6 c7
          generalize w6.alloc (stmB (⟨⟨xn, xl, xr, xt⟩, xs, xk, x1, x2⟩ : Stm)) = w7 at *
          generalize w6.heap.size = gx at *
          clear hb6
          go_loopw [82] (fun v82 w' => ∃ j : Nat, j ≤ k ∧ v82 = .int .i64 (j : Int) ∧ Below w7.heap.size w7 w') (fun v82 _ => k - (intOf v82).toNat)
          case atStart => exact ⟨0, by omega, rfl, Below.refl _ _⟩
          case round =>
            obtain ⟨j, hjk, rfl, hb8⟩ := hrel
            obtain ⟨w8, hw8⟩ : ∃ w8, w8 = wr := ⟨_, rfl⟩
            subst hw8
            by_cases hj : j < k
            · have hji : (j : Int) < (k : Int) := by omega
              have hb9 := hb7.trans (hb8.mono hb7.size)
              obtain ⟨g', off', y, he, hy, c0, c1, c2, c3, c4, c5, c6, c7⟩ := (hRd.keep hb9).stm (k := j) (by rw [HS2.out]; exact hj)
              simp only [Option.some.injEq, Addr.mk.injEq, and_true] at he
              obtain ⟨rfl, rfl⟩ := he
              obtain ⟨hf1, hf2⟩ := HGd.out.two hx.out hy.out
              have e1 := (HGd.out.each _ (List.mem_of_getElem? hx.out)).1
              have e2 := (HGd.out.each _ (List.mem_of_getElem? hy.out)).1
              have kf : ∀ V, i ≤ j → Calls Tryd.prog 16 #[(⟨⟨xn, xl, xr, xt⟩, xs, xk, x1, x2⟩ : Stm).val, y.val] V fun e w' => e = .returned (.bool true) ∧ Below V.heap.size V w' := fun V h => by rw [← hf1 h]; exact wfollows_walk _ _ V
              have kc : ∀ V, Bases V → Calls Tryd.prog 17 #[.int .i64 500000003, (⟨⟨xn, xl, xr, xt⟩, xs, xk, x1, x2⟩ : Stm).val, y.val] V fun e w' => e = .returned (.bool false) ∧ Below V.heap.size V w' := fun V hV => by rw [← hf2]; exact wcontra_walk 500000003 _ _ V hV e1 e2
              obtain ⟨⟨yn, yl, yr, yt⟩, ys, yk, y1, y2⟩ := y
              have KF := Lib.hid kf
              have KC := Lib.hid kc
              clear kf kc hf1 hf2 e1 e2
              have hX8 := hX.keep hb8
              have HB8 := Lib.hid (HBr.out.keep hb9)
              go_upto_region 22 with (fail)
              have hY := Bx.new w8 33 (Stm.cells ⟨⟨yn, yl, yr, yt⟩, ys, yk, y1, y2⟩)
              have hX9 := hX8.alloc (stmB ⟨⟨yn, yl, yr, yt⟩, ys, yk, y1, y2⟩)
              have hb10 := hb8.alloc hb8.size (stmB ⟨⟨yn, yl, yr, yt⟩, ys, yk, y1, y2⟩)
              have HB9 := Lib.hid (HB8.out.keep ((Below.refl w8.heap.size w8).alloc (Nat.le_refl _) (stmB ⟨⟨yn, yl, yr, yt⟩, ys, yk, y1, y2⟩)))
              change Bx (w8.alloc (stmB ⟨⟨yn, yl, yr, yt⟩, ys, yk, y1, y2⟩)) _ _ _ at hY
              clear c0 c1 c2 c3 c4 c5 c6 c7 hb8 hb9 hX8 HB8
              generalize w8.alloc (stmB ⟨⟨yn, yl, yr, yt⟩, ys, yk, y1, y2⟩) = w9 at *
              generalize w8.heap.size = gy at *
              have a0 : w9.cell? ⟨gx, 0, none⟩ = some (.int .i64 xn) := hX9.cell 0 rfl
              have b0 : w9.cell? ⟨gy, 0, none⟩ = some (.int .i64 yn) := hY.cell 0 rfl
              have a1 : w9.cell? ⟨gx, 1, none⟩ = some (.string ⟨xl.toArray⟩) := hX9.cell 1 rfl
              have b1 : w9.cell? ⟨gy, 1, none⟩ = some (.string ⟨yl.toArray⟩) := hY.cell 1 rfl
              have a2 : w9.cell? ⟨gx, 2, none⟩ = some (.string ⟨xr.toArray⟩) := hX9.cell 2 rfl
              have b2 : w9.cell? ⟨gy, 2, none⟩ = some (.string ⟨yr.toArray⟩) := hY.cell 2 rfl
              have a3 : w9.cell? ⟨gx, 3, none⟩ = some (.int .i64 xt) := hX9.cell 3 rfl
              have b3 : w9.cell? ⟨gy, 3, none⟩ = some (.int .i64 yt) := hY.cell 3 rfl
              have a4 : w9.cell? ⟨gx, 4, none⟩ = some (.int .i64 xs) := hX9.cell 4 rfl
              have b4 : w9.cell? ⟨gy, 4, none⟩ = some (.int .i64 ys) := hY.cell 4 rfl
              have a5 : w9.cell? ⟨gx, 5, none⟩ = some (.int .i64 xk) := hX9.cell 5 rfl
              have b5 : w9.cell? ⟨gy, 5, none⟩ = some (.int .i64 yk) := hY.cell 5 rfl
              have a6 : w9.cell? ⟨gx, 6, none⟩ = some (.int .i64 x1) := hX9.cell 6 rfl
              have b6 : w9.cell? ⟨gy, 6, none⟩ = some (.int .i64 y1) := hY.cell 6 rfl
              have a7 : w9.cell? ⟨gx, 7, none⟩ = some (.int .i64 x2) := hX9.cell 7 rfl
              have b7 : w9.cell? ⟨gy, 7, none⟩ = some (.int .i64 y2) := hY.cell 7 rfl
              by_cases hij : i ≤ j
              · have hiji : (i : Int) ≤ (j : Int) := by omega
                go_wp2_with (go_at_call 16; (with_reducible refine (KF.out _ hij).mono ?_))
                (first | rintro e w10 rfl hb1 | rintro e w10 ⟨rfl, hb1⟩)
                replace hX9 := hX9.keep hb1
                replace hY := hY.keep hb1
                have HB10 := Lib.hid (HB9.out.keep hb1)
                replace hb10 := hb10.trans (hb1.mono hb10.size)
                clear hb1 a0 b0 a1 b1 a2 b2 a3 b3 a4 b4 a5 b5 a6 b6 a7 b7
                have a0 : w10.cell? ⟨gx, 0, none⟩ = some (.int .i64 xn) := hX9.cell 0 rfl
                have b0 : w10.cell? ⟨gy, 0, none⟩ = some (.int .i64 yn) := hY.cell 0 rfl
                have a1 : w10.cell? ⟨gx, 1, none⟩ = some (.string ⟨xl.toArray⟩) := hX9.cell 1 rfl
                have b1 : w10.cell? ⟨gy, 1, none⟩ = some (.string ⟨yl.toArray⟩) := hY.cell 1 rfl
                have a2 : w10.cell? ⟨gx, 2, none⟩ = some (.string ⟨xr.toArray⟩) := hX9.cell 2 rfl
                have b2 : w10.cell? ⟨gy, 2, none⟩ = some (.string ⟨yr.toArray⟩) := hY.cell 2 rfl
                have a3 : w10.cell? ⟨gx, 3, none⟩ = some (.int .i64 xt) := hX9.cell 3 rfl
                have b3 : w10.cell? ⟨gy, 3, none⟩ = some (.int .i64 yt) := hY.cell 3 rfl
                have a4 : w10.cell? ⟨gx, 4, none⟩ = some (.int .i64 xs) := hX9.cell 4 rfl
                have b4 : w10.cell? ⟨gy, 4, none⟩ = some (.int .i64 ys) := hY.cell 4 rfl
                have a5 : w10.cell? ⟨gx, 5, none⟩ = some (.int .i64 xk) := hX9.cell 5 rfl
                have b5 : w10.cell? ⟨gy, 5, none⟩ = some (.int .i64 yk) := hY.cell 5 rfl
                have a6 : w10.cell? ⟨gx, 6, none⟩ = some (.int .i64 x1) := hX9.cell 6 rfl
                have b6 : w10.cell? ⟨gy, 6, none⟩ = some (.int .i64 y1) := hY.cell 6 rfl
                have a7 : w10.cell? ⟨gx, 7, none⟩ = some (.int .i64 x2) := hX9.cell 7 rfl
                have b7 : w10.cell? ⟨gy, 7, none⟩ = some (.int .i64 y2) := hY.cell 7 rfl
                go_wp2_with (go_at_call 17; (with_reducible refine (KC.out _ HB10.out).mono ?_))
                (first | rintro e w11 rfl hb1 | rintro e w11 ⟨rfl, hb1⟩)
                replace hb10 := hb10.trans (hb1.mono hb10.size)
                go_wp2_with fail
                go_roundw
                case rel => exact ⟨j + 1, by omega, by go_num, hb10⟩
                case measure => simp [intOf]; omega
              · have hiji : ¬ ((i : Int) ≤ (j : Int)) := by omega
                go_wp2_with (go_at_call 17; (with_reducible refine (KC.out _ HB9.out).mono ?_))
                (first | rintro e w11 rfl hb1 | rintro e w11 ⟨rfl, hb1⟩)
                replace hb10 := hb10.trans (hb1.mono hb10.size)
                go_wp2_with fail
                go_roundw
                case rel => exact ⟨j + 1, by omega, by go_num, hb10⟩
                case measure => simp [intOf]; omega
            · have hji : ¬ ((j : Int) < (k : Int)) := by omega
              have hb9 := hb7.trans (hb8.mono hb7.size)
              go_wp2_with fail
              go_roundw
              case rel => exact ⟨i + 1, by omega, by go_num, hb9⟩
              case measure => simp [intOf]; omega
        · have hii : ¬ ((i : Int) < (k : Int)) := by omega
          have HB8 := Lib.hid (HBr.out.keep hb6)
          go_wp2_with (go_at_call 8; (with_reducible refine (awake21_walk _ HB8.out).mono ?_))
          (first | rintro e w11 rfl hb1 | rintro e w11 ⟨rfl, hb1⟩)
          go_wp2
          go_ret
          exact ⟨rfl, (hbW.trans (hb6.mono hbW.size)).trans (hb1.mono (by have := hbW.size; have := hb6.size; omega))⟩
end Go.Proofs.YtgfcknadjijinaaDoor
