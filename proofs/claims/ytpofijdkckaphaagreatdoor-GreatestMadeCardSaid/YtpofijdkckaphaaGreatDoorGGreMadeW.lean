/- The law GreatestMade walked. -/
import Derived.Test.YtpofijdkckaphaaGreatDoorGGreMo
import Derived.Test.YtpofijdkckaphaaGreatDoorRegion
namespace Go.Proofs.YtpofijdkckaphaaGreatDoor
open Go.RowKit
theorem kp_set {w : World} {g o : Nat} {v : Value} : Kp (fun j => j = g) w (w.setCell ⟨g, o, none⟩ v) := setCell_kp w g o v rfl
set_option maxRecDepth 100000 in
set_option maxHeartbeats 16000000 in
theorem made_law28_walk (W : World) (p : Option Addr) (l : List Int) (cap : Nat) (hR : Rd W p (ints l)) (hSpc : Spc W) (hl : l.length ≤ 17592186043904) (nn : Int) :
    Calls Tryz.prog 6 #[.slice p l.length cap, .int .i64 nn] W fun e w' => e = .returned (.bool true) ∧ Below W.heap.size W w' := by
  have KA := Lib.hid awake28
  have hl48 : l.length ≤ 281474976710656 := by omega
  have HR := Lib.hid hR
  have HSpc := Lib.hid hSpc
  have KL1 := Lib.hid (fun V => light_walk p l cap V hl48)
  clear hR hSpc
  by_cases hq : 500 < l.length
  · have h1 : decide (l.length ≤ 500) = false := by simp; omega
    rw [h1] at KL1
    clear hq h1
    go_enter Tryz.func6, Tryz.ntmps6
    go_wp2_with (first
      | (go_at_call 7; (with_reducible refine (KL1.out _).mono ?_); (first | rintro e w1 ⟨rfl, rfl⟩ | rintro e w1 rfl rfl))
      | (go_at_call 8; (with_reducible refine (KA.out _).mono ?_); (first | rintro e w9 rfl hb9 | rintro e w9 ⟨rfl, hb9⟩)))
    go_ret
    exact ⟨rfl, hb9⟩
  have h1 : decide (l.length ≤ 500) = true := by simp; omega
  rw [h1] at KL1
  clear hq h1
  have KR1 := Lib.hid (roll_walk p l cap)
  go_enter Tryz.func6, Tryz.ntmps6
  go_upto_region 4 with (first
    | (go_at_call 7; (with_reducible refine (KL1.out _).mono ?_); (first | rintro e w1 ⟨rfl, rfl⟩ | rintro e w1 rfl rfl))
    | (go_at_call 9; (with_reducible refine (KR1.out _).mono ?_); (first | rintro e w1 rfl hD1 hb1 | rintro e w1 ⟨rfl, hD1, hb1⟩)))
  have hDa := Dc.first hD1 HR.out hb1 hl48
  clear hD1 hb1 KL1 KR1 HR
  generalize W.heap.size = db at *
  have KS := Lib.hid (show Calls Tryz.prog 10 #[.pointer (some ⟨db, 0, none⟩), .int .i64 8] w1 _ from pseats_walk W db p l cap 8 (by decide) w1 hDa)
  clear hDa
  go_upto_region 5 with (go_at_call 10; (with_reducible refine KS.out.mono ?_); (first | rintro e w2 ⟨L, a, c, m, rfl, hL8, hm, hS⟩ | rintro e w2 L a c m rfl hL8 hm hS))
  clear KS
  have hSpc2 : Spc w2 := HSpc.out.keep hS.d.below
  have KT := Lib.hid (rset_walk L a c w2 hS.rdS (by omega) hSpc2)
  have hs8 := setP_len (opS L) (holdS wiF L) L.length
  have hq8 := rounds_bound (opS L) (holdS wiF L) L.length
  have HNE := Lib.hid (rounds_ne (opS L) (holdS wiF L) L.length)
  generalize setP (opS L) (holdS wiF L) L.length = A at KT hs8
  have hB2 := hS.d.lt
  have HS := Lib.hid hS
  clear hS
  go_upto_region 6 with (go_at_call 21; (with_reducible refine KT.out.mono ?_); (first | rintro e w3 ⟨a1, c1, rfl, hO3, hb3⟩ | rintro e w3 a1 c1 rfl hO3 hb3))
  clear KT
  have hS3 := HS.out.keep hb3
  have KU := Lib.hid (rrounds_walk2 L a c w3 hS3.rdS (by omega) (hSpc2.keep hb3))
  go_upto_region 7 with (go_at_call 22; (with_reducible refine KU.out.mono ?_); (first | rintro e w4 ⟨a2, c2, R, rfl, hR4, hRe, hb4, hn4, hx4⟩ | rintro e w4 a2 c2 R rfl hR4 hRe hb4 hn4 hx4))
  clear KU
  have hsz3 := hb3.size
  rw [← hRe] at hq8 HNE
  have hMr : Mr W w1 w4 db p l cap a c L m w2.heap.size a1 A a2 R := ⟨hS3.keep hb4, Nat.le_trans hb3.size hb4.size, hB2, fun j hj => (HS.out.o.row j hj).2, fun x hx j hj => (HS.out.row x hx j hj).2.1, hO3.rd.keep hb4, fun j hj => (hO3.row j hj).1, hR4, fun j hj => Nat.le_trans hsz3 (hn4 j hj), fun x hx => ⟨(hx4 x hx).1, fun j hj => Nat.le_trans hsz3 ((hx4 x hx).2 j hj)⟩, by omega, by have := hq8.1; rw [List.length_map] at this; omega, fun x hx => ⟨by have := hq8.2 _ (List.mem_map_of_mem hx); omega, List.length_pos_iff.2 (HNE.out _ (List.mem_map_of_mem hx))⟩, hL8, hm⟩
  clear HS hS3 hsz3 hb3 hb4 hO3 hR4 hRe hn4 hx4 hq8 hs8 HNE hB2 hSpc2 hL8 hm
  generalize w2.heap.size = B at *
  have K7 := Lib.hid (dnext hMr.s.d 9 (by omega) (by omega))
  have HMr := Lib.hid hMr
  clear hMr
  go_upto_region 9 with (first
    | (go_at_call 17; (with_reducible refine K7.out.mono ?_); (first | rintro e w5 ⟨z, rfl, hz, hD5, hk5⟩ | rintro e w5 z rfl hz hD5 hk5); clear K7; have hMr5 := HMr.out.next hD5 hk5; clear hD5 hk5; have KG := Lib.hid (agree28_walk L a c A a1 c1 R a2 c2 (z : Int) w5 hMr5.s.rdS hMr5.o hMr5.r (by have := hMr5.ll; omega) (by have := hMr5.al; omega) (by have := hMr5.rl; omega) (fun x hx => by have := hMr5.xl x hx; omega) (HSpc.out.keep hMr5.s.d.below)))
    | (go_at_call 20; (with_reducible refine KG.out.mono ?_); (first | rintro e w6 ⟨rfl, hb6⟩ | rintro e w6 rfl hb6); clear KG))
  have hM6 := hMr5.keep hb6
  clear hMr5 hb6 HMr
  have hcpo := Src.slice (P := Tryz.prog) (u := 22) (c := c1) (m := A.length) (size := 1) el_int.u (by rw [ints_length, Nat.mul_one]) hM6.o (by intro u hu; obtain ⟨_, _, rfl⟩ := List.mem_map.1 hu; rfl)
  have hA8 := hM6.al
  have hR8 := hM6.rl
  have HM6 := Lib.hid hM6
  go_upto_region 10 with (at_builtin; refine wpList_apps_at (w0 := w6) (B := w6.heap.size) (base := w6.heap.size) rfl _ _ _ _ rfl el_int rfl (Ow.nil _ _ _) (Below.refl _ _) (Nat.le_refl _) (Nat.le_refl _) rfl hcpo (by omega) ?_; intro o1 d1 w7 hO7 hb7 hg7 hat7; clear hg7 hat7; rw [Nat.zero_add] at hO7 ⊢; rw [List.nil_append] at hO7)
  clear hcpo hM6
  have hcpr := Src.slice (P := Tryz.prog) (u := 36) (c := c2) (m := R.length) (size := 1) elIL.u (by rw [List.length_map, Nat.mul_one]) (HM6.out.keep hb7).r.rows (by intro u hu; obtain ⟨_, _, rfl⟩ := List.mem_map.1 hu; rfl)
  go_upto_region 11 with (at_builtin; refine wpList_apps_at (w0 := w6) (B := w6.heap.size) (base := w6.heap.size) rfl _ _ _ _ rfl elIL rfl (Ow.nil _ _ _) hb7 (Nat.le_refl _) hb7.size rfl hcpr (by omega) ?_; intro o2 d2 w8 hO8 hb8 hg8 hat8; rw [Nat.zero_add] at hO8 ⊢; rw [List.nil_append] at hO8)
  have hMo8 := HM6.out.copy hO7 hb7 hO8 hb8 hg8 hat8
  clear hO7 hb7 hO8 hb8 hg8 hat8 hcpr HM6 hA8 hR8
  generalize w6.heap.size = B1 at *
  have K11 := Lib.hid (dnext hMo8.s.d 7 (by omega) (by omega))
  have HMo8 := Lib.hid hMo8
  clear hMo8
  go_upto_if 57 with (go_at_call 17; (with_reducible refine K11.out.mono ?_); (first | rintro e w9 ⟨y, rfl, hy, hD9, hk9⟩ | rintro e w9 y rfl hy hD9 hk9))
  have hM := HMo8.out.next hD9 hk9
  clear hD9 hk9 K11 HMo8
  refine cut_last (fun KL hKL => ?_)
  go_cut [6, 11, 12] (fun v6 v11 v12 wx => ∃ (a' : Option Addr) (c' : Nat) (L' : List Seat) (sa : Option Addr) (sc : Nat) (A' : List Int) (ra : Option Addr) (rc : Nat) (R' : List IL), v6 = .slice a' L'.length c' ∧ v11 = .slice sa A'.length sc ∧ v12 = .slice ra R'.length rc ∧ Mz W wx a' L' sa A' ra R')
  case first =>
    have HM := Lib.hid hM
    have hle := hM.le
    have hA8 := hM.al
    have hR8 := hM.rl
    obtain rfl | rfl | rfl | rfl | rfl | rfl | rfl : y = 0 ∨ y = 1 ∨ y = 2 ∨ y = 3 ∨ y = 4 ∨ y = 5 ∨ y = 6 := by omega
    · have hO1 := hM.o1
      clear hM
      go_wp2_with (at_builtin; refine wpList_app1 (w0 := w9) (B := B1) (base := B1) rfl _ _ _ rfl el_int rfl hO1 (Below.refl _ _) (Nat.le_refl _) hle rfl (by rfl) (one1 rfl) (by omega) ?_; intro a3 c3 wA hO3 hb3 hg3)
      rw [ints_snoc] at hO3
      go_meet
      exact ⟨a, c, L, a3, c3, A ++ [nn], o2, d2, R, rfl, by rw [List.length_append]; rfl, rfl, HM.out.fin hb3 hO3.rd ⟨(HM.out.o2.kept hg3 HM.out.ap.keep).rd, HM.out.rest hb3⟩ (by rw [List.length_append, List.length_singleton]; omega) (by omega) (fun x hx => by have := (HM.out.xl x hx).1; omega)⟩
    · by_cases hA0 : 0 < A.length
      · have e1 : decide ((A.length : Int) > 0) = true := decide_eq_true (by omega)
        obtain ⟨g, off, x, rfl, -, -⟩ := hM.o1.rd.int (k := 0) hA0
        have hAd : A.length ≤ d1 := hM.o1.2.1
        have hcd : 1 ≤ d1 := by omega
        have hcd2 : (1 : Int) ≤ (d1 : Int) := by omega
        have hA1 : 1 ≤ A.length := hA0
        have hA2 : (1 : Int) ≤ (A.length : Int) := by omega
        have hO2 := hM.o2
        clear hM
        rcases (show d1 = 1 ∨ 1 < d1 by omega) with hd1 | hd1
        · have hn1 : A.length = 1 := by omega
          have HN1 := Lib.hid hn1
          clear hn1
          subst hd1
          go_wp2_with (at_builtin; refine wpList_app1 (w0 := w9) (B := B1) (base := B1) rfl _ _ _ rfl elIL rfl hO2 (Below.refl _ _) (Nat.le_refl _) hle (cs := [.slice (some ⟨g, off, none⟩) 1 1]) rfl rfl (by intro u hu; simp at hu; subst hu; rfl) (by omega) ?_; intro a3 c3 wA hO3 hb3 hg3)
          go_meet
          have hOk := HM.out.o1.kept hg3 HM.out.ap.symm.keep
          have hA1' : (A.take 1).length = 1 := by rw [List.length_take]; omega
          exact ⟨a, c, L, some ⟨g, off, none⟩, 0, A.drop 1, a3, c3, R ++ [⟨some ⟨g, off, none⟩, 1, A.take 1⟩], rfl, by rw [List.length_drop, show A.length - 1 = 0 by have := HN1.out; omega], by rw [List.length_append]; rfl, HM.out.fin hb3 (by rw [List.drop_eq_nil_of_le (by have := HN1.out; omega)]; exact Rd.nil _ _) ⟨by rw [List.map_append]; simpa [ilV, hA1'] using hO3.rd, fun x hx => by
            rcases List.mem_append.1 hx with hx | hx
            · exact HM.out.rest hb3 x hx
            · rw [List.mem_singleton.1 hx]; exact rd_first hOk.rd 1⟩ (by rw [List.length_drop]; omega) (by rw [List.length_append, List.length_singleton]; omega) (fun x hx => by
            rcases List.mem_append.1 hx with hx | hx
            · have := (HM.out.xl x hx).1; omega
            · rw [List.mem_singleton.1 hx]; show (A.take 1).length ≤ _; omega)⟩
        · have hd2 : d1 - 1 ≠ 0 := by omega
          have hd3 : ¬ ((d1 : Nat) : Int) - 1 = 0 := by omega
          go_wp2_with (at_builtin; refine wpList_app1 (w0 := w9) (B := B1) (base := B1) rfl _ _ _ rfl elIL rfl hO2 (Below.refl _ _) (Nat.le_refl _) hle (cs := [.slice (some ⟨g, off, none⟩) 1 d1]) rfl rfl (by intro u hu; simp at hu; subst hu; rfl) (by omega) ?_; intro a3 c3 wA hO3 hb3 hg3)
          go_meet
          have hOk := HM.out.o1.kept hg3 HM.out.ap.symm.keep
          have hA1' : (A.take 1).length = 1 := by rw [List.length_take]; omega
          exact ⟨a, c, L, some ⟨g, off + 1, none⟩, d1 - 1, A.drop 1, a3, c3, R ++ [⟨some ⟨g, off, none⟩, d1, A.take 1⟩], rfl, by rw [List.length_drop], by rw [List.length_append]; rfl, HM.out.fin hb3 (rd_last hOk.rd 1) ⟨by rw [List.map_append]; simpa [ilV, hA1'] using hO3.rd, fun x hx => by
            rcases List.mem_append.1 hx with hx | hx
            · exact HM.out.rest hb3 x hx
            · rw [List.mem_singleton.1 hx]; exact rd_first hOk.rd 1⟩ (by rw [List.length_drop]; omega) (by rw [List.length_append, List.length_singleton]; omega) (fun x hx => by
            rcases List.mem_append.1 hx with hx | hx
            · have := (HM.out.xl x hx).1; omega
            · rw [List.mem_singleton.1 hx]; show (A.take 1).length ≤ _; omega)⟩
      · have e1 : decide ((A.length : Int) > 0) = false := decide_eq_false (by omega)
        clear hM
        go_wp2_with fail
        go_meet
        exact HM.out.same'
    · by_cases hR0 : 0 < R.length
      · have e1 : decide ((R.length : Int) > 0) = true := decide_eq_true (by omega)
        obtain ⟨k, hk⟩ : ∃ k, R.length = k + 1 := ⟨R.length - 1, by omega⟩
        have ek : IntKind.i64.wrap ((R.length : Int) - 1) = (k : Int) := by rw [IntKind.wrap_i64] <;> omega
        have hkl : (k : Int) < (R.length : Int) := by omega
        have hkn : k < R.length := by omega
        obtain ⟨g2, off2, ⟨xa, cx, lx⟩, rfl, hcx, hx, hxr⟩ := RdL.at (w := w9) ⟨hM.o2.rd, hM.r⟩ hkn
        have hx8 := hM.xl _ (mem_at hx)
        have hxc := (hM.rx _ (mem_at hx)).1
        have hRd : R.length ≤ d2 := hM.o2.2.1
        have hrow2 : B1 ≤ g2 := (hM.o2.row g2 rfl).1
        have hg2 : g2 < w9.heap.size := (hM.o2.row g2 rfl).2
        dsimp only at hx8 hxc hcx hxr
        obtain ⟨gx, ox, y, rfl, hcy, -⟩ := hxr.int (k := 0) hx8.2
        rw [Nat.add_zero] at hcy
        have hx1 : 1 ≤ lx.length := hx8.2
        have hx2 : (1 : Int) ≤ (lx.length : Int) := by omega
        have hx3 : (0 : Int) < (lx.length : Int) := by omega
        have hx8' := hx8.1
        have HK := Lib.hid hk
        clear hM hk hxr hx8
        rcases (show cx = 1 ∨ 1 < cx by omega) with hd1 | hd1
        · have hn1 : lx.length = 1 := by omega
          have HN1 := Lib.hid hn1
          clear hn1
          subst hd1
          have KP := Lib.hid (put_any A o1 d1 y w9 HM.out.o1.rd (by omega))
          go_wp2_with (go_at_call 23; (with_reducible refine KP.out.mono ?_); (first | rintro e w10 ⟨D, a3, c3, rfl, hDl, hOD, hbp⟩ | rintro e w10 D a3 c3 rfl hDl hOD hbp); have ccx := (hbp.cell (World.block_lt_of_cell? w9 _ hcx)).trans hcx; have hfz := ((HM.out.o2.keep hbp).both.2 k (by omega)).2)
          go_meet
          have hst := (HM.out.o2.keep hbp).stored k (.slice (some ⟨gx, ox, none⟩) 0 0)
          have hB2 := ((hbp.mono hle).setCell (p := ⟨g2, off2 + k, none⟩) hrow2 (.slice (some ⟨gx, ox, none⟩) 0 0))
          exact ⟨a, c, L, a3, c3, D, some ⟨g2, off2, none⟩, d2, R.set k ⟨some ⟨gx, ox, none⟩, 0, lx.drop 1⟩, rfl, rfl, by rw [List.length_set], HM.out.fin hB2 (hOD.rd.kp kp_set (fun j hj e => by have := (hOD.row j hj).1; have : j = g2 := e; omega)) ⟨by rw [List.map_set]; simpa [ilV, show lx.length - 1 = 0 by have := HN1.out; omega] using hst.1.rd, fun z hz => by
            rcases List.mem_or_eq_of_mem_set hz with hz | rfl
            · exact HM.out.rest hB2 z hz
            · exact (by show Rd _ _ (ints (lx.drop 1)); rw [List.drop_eq_nil_of_le (by have := HN1.out; omega)]; exact Rd.nil _ _)⟩ (by omega) (by rw [List.length_set]; omega) (fun z hz => by
            rcases List.mem_or_eq_of_mem_set hz with hz | rfl
            · have := (HM.out.xl z hz).1; omega
            · show (lx.drop 1).length ≤ _; rw [List.length_drop]; omega)⟩
        · have hd2 : cx - 1 ≠ 0 := by omega
          have hd3 : ¬ ((cx : Nat) : Int) - 1 = 0 := by omega
          have KP := Lib.hid (put_any A o1 d1 y w9 HM.out.o1.rd (by omega))
          go_wp2_with (go_at_call 23; (with_reducible refine KP.out.mono ?_); (first | rintro e w10 ⟨D, a3, c3, rfl, hDl, hOD, hbp⟩ | rintro e w10 D a3 c3 rfl hDl hOD hbp); have ccx := (hbp.cell (World.block_lt_of_cell? w9 _ hcx)).trans hcx; have hfz := ((HM.out.o2.keep hbp).both.2 k (by omega)).2)
          go_meet
          have hst := (HM.out.o2.keep hbp).stored k (.slice (some ⟨gx, ox + 1, none⟩) (lx.length - 1) (cx - 1))
          have hB2 := ((hbp.mono hle).setCell (p := ⟨g2, off2 + k, none⟩) hrow2 (.slice (some ⟨gx, ox + 1, none⟩) (lx.length - 1) (cx - 1)))
          exact ⟨a, c, L, a3, c3, D, some ⟨g2, off2, none⟩, d2, R.set k ⟨some ⟨gx, ox + 1, none⟩, cx - 1, lx.drop 1⟩, rfl, rfl, by rw [List.length_set], HM.out.fin hB2 (hOD.rd.kp kp_set (fun j hj e => by have := (hOD.row j hj).1; have : j = g2 := e; omega)) ⟨by rw [List.map_set]; simpa [ilV] using hst.1.rd, fun z hz => by
            rcases List.mem_or_eq_of_mem_set hz with hz | rfl
            · exact HM.out.rest hB2 z hz
            · exact (rd_last (HM.out.rest hB2 _ (mem_at hx)) 1)⟩ (by omega) (by rw [List.length_set]; omega) (fun z hz => by
            rcases List.mem_or_eq_of_mem_set hz with hz | rfl
            · have := (HM.out.xl z hz).1; omega
            · show (lx.drop 1).length ≤ _; rw [List.length_drop]; omega)⟩
      · have e1 : decide ((R.length : Int) > 0) = false := decide_eq_false (by omega)
        clear hM
        go_wp2_with fail
        go_meet
        exact HM.out.same'
    · by_cases hR0 : 1 < R.length
      · have e1 : decide ((R.length : Int) > 1) = true := decide_eq_true (by omega)
        have hk0 : 0 < R.length := by omega
        have hk0l : (0 : Int) < (R.length : Int) := by omega
        have hk1l : (1 : Int) < (R.length : Int) := by omega
        obtain ⟨g2, off2, ⟨xa, cx, lx⟩, he2, hcx, hx, hxr⟩ := RdL.at (w := w9) ⟨hM.o2.rd, hM.r⟩ hk0
        obtain ⟨g3, off3, ⟨ya, cy, ly⟩, he3, hcy, hy', hyr⟩ := RdL.at (w := w9) ⟨hM.o2.rd, hM.r⟩ hR0
        rw [he2] at he3
        cases he3
        subst he2
        rw [Nat.add_zero] at hcx
        dsimp only at hcx hcy
        have hrow2 : B1 ≤ g2 := (hM.o2.row g2 rfl).1
        have hRd : R.length ≤ d2 := hM.o2.2.1
        have hf0 := (hM.o2.both.2 0 (by omega)).2
        have hf1 := (hM.o2.both.2 1 (by omega)).2
        rw [Nat.add_zero] at hf0
        clear hM
        go_upto_region 26 with fail
        go_region_with fail
        all_goals (go_wp2_with fail; go_meet; exact HM.out.swap hx hy' (by first | exact Or.inl rfl | exact Or.inr rfl))
      · have e1 : decide ((R.length : Int) > 1) = false := decide_eq_false (by omega)
        clear hM
        go_wp2_with fail
        go_meet
        exact HM.out.same'
    · by_cases hR0 : 1 < R.length
      · have e1 : decide ((R.length : Int) > 1) = true := decide_eq_true (by omega)
        have hk0 : 0 < R.length := by omega
        have hk0l : (0 : Int) < (R.length : Int) := by omega
        have hRd : R.length ≤ d2 := hM.o2.2.1
        have hk1l : (1 : Int) < (R.length : Int) := by omega
        have hk2 : 2 ≤ R.length := by omega
        have hk2l : (2 : Int) ≤ (R.length : Int) := by omega
        have hcd : 2 ≤ d2 := by omega
        have hcdl : (2 : Int) ≤ (d2 : Int) := by omega
        obtain ⟨g2, off2, ⟨xa, cx, lx⟩, he2, hcx, hx, hxr⟩ := RdL.at (w := w9) ⟨hM.o2.rd, hM.r⟩ hk0
        obtain ⟨g3, off3, ⟨ya, cy, ly⟩, he3, hcy, hy', hyr⟩ := RdL.at (w := w9) ⟨hM.o2.rd, hM.r⟩ hR0
        rw [he2] at he3
        cases he3
        subst he2
        rw [Nat.add_zero] at hcx
        dsimp only at hcx hcy
        have hg2 : g2 < w9.heap.size := (hM.o2.row g2 rfl).2
        have hx8 : lx.length ≤ 1000 := by have := (hM.xl _ (mem_at hx)).1; dsimp only at this; omega
        have hy8 : ly.length ≤ 1000 := by have := (hM.xl _ (mem_at hy')).1; dsimp only at this; omega
        rcases (show d2 = 2 ∨ 2 < d2 by omega) with hd1 | hd1
        · have hn1 : R.length = 2 := by omega
          have HN1 := Lib.hid hn1
          clear hn1
          subst hd1
          go_upto_region 29 with fail
          refine wp_region_held_last' (S := fun w' => w'.cell? ⟨g2, off2, none⟩ = some (.slice xa lx.length cx) ∧ w'.cell? ⟨g2, off2 + 1, none⟩ = some (.slice ya ly.length cy)) 11 rfl (by kernel_rfl) (by kernel_rfl) (by kernel_rfl) ⟨hcx, hcy⟩ (fun hHeld => ?_)
          dsimp only [List.dropLast, List.replicate] at hHeld ⊢
          replace hM := hM.keep (Below.refl _ _).drew
          replace hcx : w9.drew.cell? _ = _ := hcx
          replace hcy : w9.drew.cell? _ = _ := hcy
          replace hg2 : g2 < w9.drew.heap.size := hg2
          clear hle
          generalize w9.drew = wd at *
          refine held_take (0) (v := ?_) rfl (by kernel_rfl) (by kernel_rfl) (by kernel_rfl) (fun _ _ _ h => h) (Or.inl ⟨by rfl, ?_⟩) (by assumption) ?_
          rotate_left
          · intro w hSw
            try dsimp only at hSw
            go_simp
            with_reducible rfl
          try simp only [Act.put, List.setIfInBounds_toArray, List.set_cons_zero, List.set_cons_succ]
          refine held_take (1) (v := ?_) rfl (by kernel_rfl) (by kernel_rfl) (by kernel_rfl) (fun _ _ _ h => h) (Or.inl ⟨by rfl, ?_⟩) (by assumption) ?_
          rotate_left
          · intro w hSw
            try dsimp only at hSw
            go_simp
            with_reducible rfl
          try simp only [Act.put, List.setIfInBounds_toArray, List.set_cons_zero, List.set_cons_succ]
          refine held_take (2) (v := ?_) rfl (by kernel_rfl) (by kernel_rfl) (by kernel_rfl) (fun _ _ _ h => h) (Or.inl ⟨by rfl, ?_⟩) (by assumption) ?_
          rotate_left
          · intro w hSw
            try dsimp only at hSw
            go_simp
            with_reducible rfl
          try simp only [Act.put, List.setIfInBounds_toArray, List.set_cons_zero, List.set_cons_succ]
          refine held_take (3) (v := ?_) rfl (by kernel_rfl) (by kernel_rfl) (by kernel_rfl) (fun _ _ _ h => h) (Or.inl ⟨by rfl, ?_⟩) (by assumption) ?_
          rotate_left
          · intro w hSw
            try dsimp only at hSw
            go_simp
            with_reducible rfl
          try simp only [Act.put, List.setIfInBounds_toArray, List.set_cons_zero, List.set_cons_succ]
          refine held_take (4) (v := ?_) rfl (by kernel_rfl) (by kernel_rfl) (by kernel_rfl) (fun _ _ _ h => h) (Or.inl ⟨by rfl, ?_⟩) (by assumption) ?_
          rotate_left
          · intro w hSw
            try dsimp only at hSw
            go_simp
            with_reducible rfl
          try simp only [Act.put, List.setIfInBounds_toArray, List.set_cons_zero, List.set_cons_succ]
          refine held_take (5) (v := ?_) rfl (by kernel_rfl) (by kernel_rfl) (by kernel_rfl) (fun _ _ _ h => h) (Or.inl ⟨by rfl, ?_⟩) (by assumption) ?_
          rotate_left
          · intro w hSw
            try dsimp only at hSw
            go_simp
            with_reducible rfl
          try simp only [Act.put, List.setIfInBounds_toArray, List.set_cons_zero, List.set_cons_succ]
          refine held_take (8) (v := ?_) rfl (by kernel_rfl) (by kernel_rfl) (by kernel_rfl) (fun _ _ _ h => h) (Or.inl ⟨by rfl, ?_⟩) (by assumption) ?_
          rotate_left
          · intro w hSw
            try dsimp only at hSw
            go_simp
            with_reducible rfl
          try simp only [Act.put, List.setIfInBounds_toArray, List.set_cons_zero, List.set_cons_succ]
          refine held_take (9) (v := ?_) rfl (by kernel_rfl) (by kernel_rfl) (by kernel_rfl) (fun _ _ _ h => h) (Or.inl ⟨by rfl, ?_⟩) (by assumption) ?_
          rotate_left
          · intro w hSw
            try dsimp only at hSw
            go_simp
            with_reducible rfl
          try simp only [Act.put, List.setIfInBounds_toArray, List.set_cons_zero, List.set_cons_succ]
          refine wpAnyH_ready (rs := [6]) (by kernel_rfl) (by simp) ?_
          refine held_cons rfl (fun K hK => ?_) AllReadyH.nil
          go_simp
          have KMm := Lib.hid (merge_any lx ly xa ya cx cy wd (hM.r _ (mem_at hx)) (hM.r _ (mem_at hy')) hx8 hy8)
          go_at_call 15
          (with_reducible refine KMm.out.mono ?_)
          (first | rintro e w10 ⟨D, a3, c3, rfl, hDl, hOD, hbp⟩ | rintro e w10 D a3 c3 rfl hDl hOD hbp)
          have h10 : (w10.cell? ⟨g2, off2, none⟩ = some (.slice xa lx.length cx)) ∧ w10.cell? ⟨g2, off2 + 1, none⟩ = some (.slice ya ly.length cy) := ⟨(hbp.cell hg2).trans hcx, (hbp.cell hg2).trans hcy⟩
          go_wp2_with fail
          refine hK.out _ _ h10 (fun hHeld => ?_)
          clear hK K
          try simp only [Act.put, List.setIfInBounds_toArray, List.set_cons_zero, List.set_cons_succ]
          refine wpAnyH_ready (rs := [7]) (by kernel_rfl) (by simp) ?_
          refine held_cons rfl (fun K hK => ?_) AllReadyH.nil
          go_simp
          have hbL := (Below.refl w10.heap.size w10).alloc (Nat.le_refl _) (.cells #[.slice a3 D.length c3] 22)
          have hOL : Ow (w10.alloc (.cells #[.slice a3 D.length c3] 22)) w10.heap.size 1 (some ⟨w10.heap.size, 0, none⟩) 1 1 [.slice a3 D.length c3] := Ow.lit w10 w10.heap.size _ [.slice a3 D.length c3] 1 rfl (Nat.le_refl _) (by decide)
          have hg10 : g2 < w10.heap.size := Nat.lt_of_lt_of_le hg2 hbp.size
          have h11 := (⟨(hbL.cell hg10).trans h10.1, (hbL.cell hg10).trans h10.2⟩ : _ ∧ _)
          have hODl : ∀ j, rowOf a3 = some j → j < w10.heap.size := fun j hj => (hOD.row j hj).2
          have hOD2 := hOD.keep hbL
          have hb11 := hbp.trans (hbL.mono hbp.size)
          have hsz11 := hbL.size
          have hsz10 := hbp.size
          generalize w10.alloc (.cells #[.slice a3 D.length c3] 22) = w11 at *
          generalize w10.heap.size = n10 at *
          refine hK.out _ _ h11 (fun hHeld => ?_)
          clear hK K
          try simp only [Act.put, List.setIfInBounds_toArray, List.set_cons_zero, List.set_cons_succ]
          refine wpAnyH_ready (rs := [10]) (by kernel_rfl) (by simp) ?_
          refine held_cons rfl (fun K hK => ?_) AllReadyH.nil
          have hdr : Rd w11 (some ⟨g2, off2, none⟩) ((R.drop 2).map ilV) := by rw [List.drop_eq_nil_of_le (by have := HN1.out; omega)]; exact Rd.nil _ _
          have hcpr := Src.slice (P := Tryz.prog) (u := 36) (c := 0) (m := 0) (size := 1) elIL.u (by rw [List.drop_eq_nil_of_le (by have := HN1.out; omega)]; rfl) hdr (by intro u hu; obtain ⟨_, _, rfl⟩ := List.mem_map.1 hu; rfl)
          refine step_apps (w0 := wd) (B := wd.heap.size) rfl _ _ _ _ rfl elIL rfl hOL hb11 hsz10 hsz11 rfl hcpr (by omega) ?_
          intro a5 c5 w12 hO12 hb12 hg12
          have h12 := (⟨(hb12.cell hg2).trans hcx, (hb12.cell hg2).trans hcy⟩ : _ ∧ _)
          refine hK.out _ _ h12 (fun hHeld => ?_)
          clear hK K
          try simp only [Act.put, List.setIfInBounds_toArray, List.set_cons_zero, List.set_cons_succ]
          refine wpAnyH_done (by kernel_rfl) ?_ _
          dsimp only [Behind]
          go_simp
          go_wp2_with fail
          go_meet
          exact hM.fresh hb12 (N := [⟨a3, c3, D⟩]) (k := 2) (by have := HN1.out; simp only [List.length_cons, List.length_nil]; omega) hO12.rd (fun z hz => by
            rw [List.mem_singleton.1 hz]; exact ⟨(hOD2.kept hg12 (.inr (fun e => by have := hODl n10 e; omega))).rd, by show D.length ≤ 1000; omega⟩) (by simp)
        · have hd2 : d2 - 2 ≠ 0 := by omega
          have hd3 : ¬ ((d2 : Nat) : Int) - 2 = 0 := by omega
          go_upto_region 29 with fail
          refine wp_region_held_last' (S := fun w' => w'.cell? ⟨g2, off2, none⟩ = some (.slice xa lx.length cx) ∧ w'.cell? ⟨g2, off2 + 1, none⟩ = some (.slice ya ly.length cy)) 11 rfl (by kernel_rfl) (by kernel_rfl) (by kernel_rfl) ⟨hcx, hcy⟩ (fun hHeld => ?_)
          dsimp only [List.dropLast, List.replicate] at hHeld ⊢
          replace hM := hM.keep (Below.refl _ _).drew
          replace hcx : w9.drew.cell? _ = _ := hcx
          replace hcy : w9.drew.cell? _ = _ := hcy
          replace hg2 : g2 < w9.drew.heap.size := hg2
          clear hle
          generalize w9.drew = wd at *
          refine held_take (0) (v := ?_) rfl (by kernel_rfl) (by kernel_rfl) (by kernel_rfl) (fun _ _ _ h => h) (Or.inl ⟨by rfl, ?_⟩) (by assumption) ?_
          rotate_left
          · intro w hSw
            try dsimp only at hSw
            go_simp
            with_reducible rfl
          try simp only [Act.put, List.setIfInBounds_toArray, List.set_cons_zero, List.set_cons_succ]
          refine held_take (1) (v := ?_) rfl (by kernel_rfl) (by kernel_rfl) (by kernel_rfl) (fun _ _ _ h => h) (Or.inl ⟨by rfl, ?_⟩) (by assumption) ?_
          rotate_left
          · intro w hSw
            try dsimp only at hSw
            go_simp
            with_reducible rfl
          try simp only [Act.put, List.setIfInBounds_toArray, List.set_cons_zero, List.set_cons_succ]
          refine held_take (2) (v := ?_) rfl (by kernel_rfl) (by kernel_rfl) (by kernel_rfl) (fun _ _ _ h => h) (Or.inl ⟨by rfl, ?_⟩) (by assumption) ?_
          rotate_left
          · intro w hSw
            try dsimp only at hSw
            go_simp
            with_reducible rfl
          try simp only [Act.put, List.setIfInBounds_toArray, List.set_cons_zero, List.set_cons_succ]
          refine held_take (3) (v := ?_) rfl (by kernel_rfl) (by kernel_rfl) (by kernel_rfl) (fun _ _ _ h => h) (Or.inl ⟨by rfl, ?_⟩) (by assumption) ?_
          rotate_left
          · intro w hSw
            try dsimp only at hSw
            go_simp
            with_reducible rfl
          try simp only [Act.put, List.setIfInBounds_toArray, List.set_cons_zero, List.set_cons_succ]
          refine held_take (4) (v := ?_) rfl (by kernel_rfl) (by kernel_rfl) (by kernel_rfl) (fun _ _ _ h => h) (Or.inl ⟨by rfl, ?_⟩) (by assumption) ?_
          rotate_left
          · intro w hSw
            try dsimp only at hSw
            go_simp
            with_reducible rfl
          try simp only [Act.put, List.setIfInBounds_toArray, List.set_cons_zero, List.set_cons_succ]
          refine held_take (5) (v := ?_) rfl (by kernel_rfl) (by kernel_rfl) (by kernel_rfl) (fun _ _ _ h => h) (Or.inl ⟨by rfl, ?_⟩) (by assumption) ?_
          rotate_left
          · intro w hSw
            try dsimp only at hSw
            go_simp
            with_reducible rfl
          try simp only [Act.put, List.setIfInBounds_toArray, List.set_cons_zero, List.set_cons_succ]
          refine held_take (8) (v := ?_) rfl (by kernel_rfl) (by kernel_rfl) (by kernel_rfl) (fun _ _ _ h => h) (Or.inl ⟨by rfl, ?_⟩) (by assumption) ?_
          rotate_left
          · intro w hSw
            try dsimp only at hSw
            go_simp
            with_reducible rfl
          try simp only [Act.put, List.setIfInBounds_toArray, List.set_cons_zero, List.set_cons_succ]
          refine held_take (9) (v := ?_) rfl (by kernel_rfl) (by kernel_rfl) (by kernel_rfl) (fun _ _ _ h => h) (Or.inl ⟨by rfl, ?_⟩) (by assumption) ?_
          rotate_left
          · intro w hSw
            try dsimp only at hSw
            go_simp
            with_reducible rfl
          try simp only [Act.put, List.setIfInBounds_toArray, List.set_cons_zero, List.set_cons_succ]
          refine wpAnyH_ready (rs := [6]) (by kernel_rfl) (by simp) ?_
          refine held_cons rfl (fun K hK => ?_) AllReadyH.nil
          go_simp
          have KMm := Lib.hid (merge_any lx ly xa ya cx cy wd (hM.r _ (mem_at hx)) (hM.r _ (mem_at hy')) hx8 hy8)
          go_at_call 15
          (with_reducible refine KMm.out.mono ?_)
          (first | rintro e w10 ⟨D, a3, c3, rfl, hDl, hOD, hbp⟩ | rintro e w10 D a3 c3 rfl hDl hOD hbp)
          have h10 : (w10.cell? ⟨g2, off2, none⟩ = some (.slice xa lx.length cx)) ∧ w10.cell? ⟨g2, off2 + 1, none⟩ = some (.slice ya ly.length cy) := ⟨(hbp.cell hg2).trans hcx, (hbp.cell hg2).trans hcy⟩
          go_wp2_with fail
          refine hK.out _ _ h10 (fun hHeld => ?_)
          clear hK K
          try simp only [Act.put, List.setIfInBounds_toArray, List.set_cons_zero, List.set_cons_succ]
          refine wpAnyH_ready (rs := [7]) (by kernel_rfl) (by simp) ?_
          refine held_cons rfl (fun K hK => ?_) AllReadyH.nil
          go_simp
          have hbL := (Below.refl w10.heap.size w10).alloc (Nat.le_refl _) (.cells #[.slice a3 D.length c3] 22)
          have hOL : Ow (w10.alloc (.cells #[.slice a3 D.length c3] 22)) w10.heap.size 1 (some ⟨w10.heap.size, 0, none⟩) 1 1 [.slice a3 D.length c3] := Ow.lit w10 w10.heap.size _ [.slice a3 D.length c3] 1 rfl (Nat.le_refl _) (by decide)
          have hg10 : g2 < w10.heap.size := Nat.lt_of_lt_of_le hg2 hbp.size
          have h11 := (⟨(hbL.cell hg10).trans h10.1, (hbL.cell hg10).trans h10.2⟩ : _ ∧ _)
          have hODl : ∀ j, rowOf a3 = some j → j < w10.heap.size := fun j hj => (hOD.row j hj).2
          have hOD2 := hOD.keep hbL
          have hb11 := hbp.trans (hbL.mono hbp.size)
          have hsz11 := hbL.size
          have hsz10 := hbp.size
          generalize w10.alloc (.cells #[.slice a3 D.length c3] 22) = w11 at *
          generalize w10.heap.size = n10 at *
          refine hK.out _ _ h11 (fun hHeld => ?_)
          clear hK K
          try simp only [Act.put, List.setIfInBounds_toArray, List.set_cons_zero, List.set_cons_succ]
          refine wpAnyH_ready (rs := [10]) (by kernel_rfl) (by simp) ?_
          refine held_cons rfl (fun K hK => ?_) AllReadyH.nil
          have hdr : Rd w11 (some ⟨g2, off2 + 2, none⟩) ((R.drop 2).map ilV) := by rw [List.map_drop]; exact rd_drop (hM.o2.rd.keep hb11) 2
          have hcpr := Src.slice (P := Tryz.prog) (u := 36) (c := d2 - 2) (m := R.length - 2) (size := 1) elIL.u (by simp) hdr (by intro u hu; obtain ⟨_, _, rfl⟩ := List.mem_map.1 hu; rfl)
          refine step_apps (w0 := wd) (B := wd.heap.size) rfl _ _ _ _ rfl elIL rfl hOL hb11 hsz10 hsz11 rfl hcpr (by omega) ?_
          intro a5 c5 w12 hO12 hb12 hg12
          have h12 := (⟨(hb12.cell hg2).trans hcx, (hb12.cell hg2).trans hcy⟩ : _ ∧ _)
          refine hK.out _ _ h12 (fun hHeld => ?_)
          clear hK K
          try simp only [Act.put, List.setIfInBounds_toArray, List.set_cons_zero, List.set_cons_succ]
          refine wpAnyH_done (by kernel_rfl) ?_ _
          dsimp only [Behind]
          go_simp
          go_wp2_with fail
          go_meet
          exact hM.fresh hb12 (N := [⟨a3, c3, D⟩]) (k := 2) rfl hO12.rd (fun z hz => by
            rw [List.mem_singleton.1 hz]; exact ⟨(hOD2.kept hg12 (.inr (fun e => by have := hODl n10 e; omega))).rd, by show D.length ≤ 1000; omega⟩) (by simp)
      · have e1 : decide ((R.length : Int) > 1) = false := decide_eq_false (by omega)
        clear hM
        go_wp2_with fail
        go_meet
        exact HM.out.same'
    · by_cases hR0 : 0 < R.length
      · have e1 : decide ((R.length : Int) > 0) = true := decide_eq_true (by omega)
        have hk0l : (0 : Int) < (R.length : Int) := by omega
        have hRd : R.length ≤ d2 := hM.o2.2.1
        have hk1 : 1 ≤ R.length := hR0
        have hk1l : (1 : Int) ≤ (R.length : Int) := by omega
        have hcd : 1 ≤ d2 := by omega
        have hcdl : (1 : Int) ≤ (d2 : Int) := by omega
        obtain ⟨g2, off2, ⟨xa, cx, lx⟩, rfl, hcx, hx, hxr⟩ := RdL.at (w := w9) ⟨hM.o2.rd, hM.r⟩ hR0
        rw [Nat.add_zero] at hcx
        dsimp only at hcx hxr
        have hg2 : g2 < w9.heap.size := (hM.o2.row g2 rfl).2
        have hx8 := hM.xl _ (mem_at hx)
        have hxc := (hM.rx _ (mem_at hx)).1
        dsimp only at hx8 hxc
        obtain ⟨gx, ox, y, rfl, -, -⟩ := hxr.int (k := 0) hx8.2
        have hT1 : min 1 lx.length = 1 := by omega
        have hT2 : (lx.take 1).length = 1 := by rw [List.length_take]; omega
        by_cases hx1 : 1 < lx.length
        · have e2 : decide ((lx.length : Int) > 1) = true := decide_eq_true (by omega)
          have hx1a : 1 ≤ lx.length := by omega
          have hx1b : (1 : Int) ≤ (lx.length : Int) := by omega
          have hx1c : 1 ≤ cx := by omega
          have hx1d : (1 : Int) ≤ (cx : Int) := by omega
          have hx1e : cx - 1 ≠ 0 := by omega
          have hx1g : ¬ cx = 1 := by omega
          have hx1f : ¬ ((cx : Nat) : Int) - 1 = 0 := by omega
          rcases (show d2 = 1 ∨ 1 < d2 by omega) with hd1 | hd1
          · have hn1 : R.length = 1 := by omega
            have HN1 := Lib.hid hn1
            clear hn1
            subst hd1
            go_upto_region 32 with fail
            refine wp_region_held_last' (S := fun w' => w'.cell? ⟨g2, off2, none⟩ = some (.slice (some ⟨gx, ox, none⟩) lx.length cx)) 12 rfl (by kernel_rfl) (by kernel_rfl) (by kernel_rfl) hcx (fun hHeld => ?_)
            dsimp only [List.dropLast, List.replicate] at hHeld ⊢
            replace hM := hM.keep (Below.refl _ _).drew
            replace hcx : w9.drew.cell? _ = _ := hcx
            replace hg2 : g2 < w9.drew.heap.size := hg2
            clear hle
            generalize w9.drew = wd at *
            refine held_take (0) (v := ?_) rfl (by kernel_rfl) (by kernel_rfl) (by kernel_rfl) (fun _ _ _ h => h) (Or.inl ⟨by rfl, ?_⟩) (by assumption) ?_
            rotate_left
            · intro w hSw
              try dsimp only at hSw
              go_simp
              with_reducible rfl
            try simp only [Act.put, List.setIfInBounds_toArray, List.set_cons_zero, List.set_cons_succ]
            refine held_take (1) (v := ?_) rfl (by kernel_rfl) (by kernel_rfl) (by kernel_rfl) (fun _ _ _ h => h) (Or.inl ⟨by rfl, ?_⟩) (by assumption) ?_
            rotate_left
            · intro w hSw
              try dsimp only at hSw
              go_simp
              with_reducible rfl
            try simp only [Act.put, List.setIfInBounds_toArray, List.set_cons_zero, List.set_cons_succ]
            refine held_take (2) (v := ?_) rfl (by kernel_rfl) (by kernel_rfl) (by kernel_rfl) (fun _ _ _ h => h) (Or.inl ⟨by rfl, ?_⟩) (by assumption) ?_
            rotate_left
            · intro w hSw
              try dsimp only at hSw
              go_simp
              with_reducible rfl
            try simp only [Act.put, List.setIfInBounds_toArray, List.set_cons_zero, List.set_cons_succ]
            refine held_take (3) (v := ?_) rfl (by kernel_rfl) (by kernel_rfl) (by kernel_rfl) (fun _ _ _ h => h) (Or.inl ⟨by rfl, ?_⟩) (by assumption) ?_
            rotate_left
            · intro w hSw
              try dsimp only at hSw
              go_simp
              with_reducible rfl
            try simp only [Act.put, List.setIfInBounds_toArray, List.set_cons_zero, List.set_cons_succ]
            refine held_take (4) (v := ?_) rfl (by kernel_rfl) (by kernel_rfl) (by kernel_rfl) (fun _ _ _ h => h) (Or.inl ⟨by rfl, ?_⟩) (by assumption) ?_
            rotate_left
            · intro w hSw
              try dsimp only at hSw
              go_simp
              with_reducible rfl
            try simp only [Act.put, List.setIfInBounds_toArray, List.set_cons_zero, List.set_cons_succ]
            refine held_take (5) (v := ?_) rfl (by kernel_rfl) (by kernel_rfl) (by kernel_rfl) (fun _ _ _ h => h) (Or.inl ⟨by rfl, ?_⟩) (by assumption) ?_
            rotate_left
            · intro w hSw
              try dsimp only at hSw
              go_simp
              with_reducible rfl
            try simp only [Act.put, List.setIfInBounds_toArray, List.set_cons_zero, List.set_cons_succ]
            refine held_take (6) (v := ?_) rfl (by kernel_rfl) (by kernel_rfl) (by kernel_rfl) (fun _ _ _ h => h) (Or.inl ⟨by rfl, ?_⟩) (by assumption) ?_
            rotate_left
            · intro w hSw
              try dsimp only at hSw
              go_simp
              with_reducible rfl
            try simp only [Act.put, List.setIfInBounds_toArray, List.set_cons_zero, List.set_cons_succ]
            refine held_take (7) (v := ?_) rfl (by kernel_rfl) (by kernel_rfl) (by kernel_rfl) (fun _ _ _ h => h) (Or.inl ⟨by rfl, ?_⟩) (by assumption) ?_
            rotate_left
            · intro w hSw
              try dsimp only at hSw
              go_simp
              with_reducible rfl
            try simp only [Act.put, List.setIfInBounds_toArray, List.set_cons_zero, List.set_cons_succ]
            refine held_take (9) (v := ?_) rfl (by kernel_rfl) (by kernel_rfl) (by kernel_rfl) (fun _ _ _ h => h) (Or.inl ⟨by rfl, ?_⟩) (by assumption) ?_
            rotate_left
            · intro w hSw
              try dsimp only at hSw
              go_simp
              with_reducible rfl
            try simp only [Act.put, List.setIfInBounds_toArray, List.set_cons_zero, List.set_cons_succ]
            refine held_take (10) (v := ?_) rfl (by kernel_rfl) (by kernel_rfl) (by kernel_rfl) (fun _ _ _ h => h) (Or.inl ⟨by rfl, ?_⟩) (by assumption) ?_
            rotate_left
            · intro w hSw
              try dsimp only at hSw
              go_simp
              with_reducible rfl
            try simp only [Act.put, List.setIfInBounds_toArray, List.set_cons_zero, List.set_cons_succ]
            refine wpAnyH_ready (rs := [8]) (by kernel_rfl) (by simp) ?_
            refine held_cons rfl (fun K hK => ?_) AllReadyH.nil
            go_simp
            have hbL := (Below.refl wd.heap.size wd).alloc (Nat.le_refl _) (.cells #[.slice (some ⟨gx, ox, none⟩) 1 cx, .slice (some ⟨gx, ox + 1, none⟩) (lx.length - 1) (cx - 1)] 22)
            have hOL : Ow (wd.alloc (.cells #[.slice (some ⟨gx, ox, none⟩) 1 cx, .slice (some ⟨gx, ox + 1, none⟩) (lx.length - 1) (cx - 1)] 22)) wd.heap.size 1 (some ⟨wd.heap.size, 0, none⟩) 2 2 [.slice (some ⟨gx, ox, none⟩) 1 cx, .slice (some ⟨gx, ox + 1, none⟩) (lx.length - 1) (cx - 1)] := Ow.lit wd wd.heap.size _ [.slice (some ⟨gx, ox, none⟩) 1 cx, .slice (some ⟨gx, ox + 1, none⟩) (lx.length - 1) (cx - 1)] 2 rfl (Nat.le_refl _) (by decide)
            have h11 := (hbL.cell hg2).trans hcx
            have hsz11 := hbL.size
            generalize wd.alloc (.cells #[.slice (some ⟨gx, ox, none⟩) 1 cx, .slice (some ⟨gx, ox + 1, none⟩) (lx.length - 1) (cx - 1)] 22) = w11 at *
            refine hK.out _ _ h11 (fun hHeld => ?_)
            clear hK K
            try simp only [Act.put, List.setIfInBounds_toArray, List.set_cons_zero, List.set_cons_succ]
            refine wpAnyH_ready (rs := [11]) (by kernel_rfl) (by simp) ?_
            refine held_cons rfl (fun K hK => ?_) AllReadyH.nil
            have hdr : Rd w11 (some ⟨g2, off2, none⟩) ((R.drop 1).map ilV) := by rw [List.drop_eq_nil_of_le (by have := HN1.out; omega)]; exact Rd.nil _ _
            have hcpr := Src.slice (P := Tryz.prog) (u := 36) (c := 0) (m := 0) (size := 1) elIL.u (by rw [List.drop_eq_nil_of_le (by have := HN1.out; omega)]; rfl) hdr (by intro u hu; obtain ⟨_, _, rfl⟩ := List.mem_map.1 hu; rfl)
            refine step_apps (w0 := wd) (B := wd.heap.size) rfl _ _ _ _ rfl elIL rfl hOL hbL (Nat.le_refl _) hsz11 rfl hcpr (by omega) ?_
            intro a5 c5 w12 hO12 hb12 hg12
            have h12 := (hb12.cell hg2).trans hcx
            refine hK.out _ _ h12 (fun hHeld => ?_)
            clear hK K
            try simp only [Act.put, List.setIfInBounds_toArray, List.set_cons_zero, List.set_cons_succ]
            refine wpAnyH_done (by kernel_rfl) ?_ _
            dsimp only [Behind]
            go_simp
            go_wp2_with fail
            go_meet
            exact hM.fresh hb12 (N := [⟨some ⟨gx, ox, none⟩, cx, lx.take 1⟩, ⟨some ⟨gx, ox + 1, none⟩, cx - 1, lx.drop 1⟩]) (k := 1) (by have := HN1.out; simp only [List.length_cons, List.length_nil]; omega) (by have := hO12.rd; simpa [ilV, hT1] using this) (fun z hz => by
              have hrx := (hM.r _ (mem_at hx)).keep hb12
              simp only [List.mem_cons, List.not_mem_nil, or_false] at hz
              rcases hz with rfl | rfl
              · exact ⟨rd_first hrx 1, by show (lx.take 1).length ≤ _; omega⟩
              · exact ⟨rd_last hrx 1, by show (lx.drop 1).length ≤ _; rw [List.length_drop]; omega⟩) (by simp)
          · have hd2 : d2 - 1 ≠ 0 := by omega
            have hd3 : ¬ ((d2 : Nat) : Int) - 1 = 0 := by omega
            have hd4 : ¬ d2 = 1 := by omega
            go_upto_region 32 with fail
            refine wp_region_held_last' (S := fun w' => w'.cell? ⟨g2, off2, none⟩ = some (.slice (some ⟨gx, ox, none⟩) lx.length cx)) 12 rfl (by kernel_rfl) (by kernel_rfl) (by kernel_rfl) hcx (fun hHeld => ?_)
            dsimp only [List.dropLast, List.replicate] at hHeld ⊢
            replace hM := hM.keep (Below.refl _ _).drew
            replace hcx : w9.drew.cell? _ = _ := hcx
            replace hg2 : g2 < w9.drew.heap.size := hg2
            clear hle
            generalize w9.drew = wd at *
            refine held_take (0) (v := ?_) rfl (by kernel_rfl) (by kernel_rfl) (by kernel_rfl) (fun _ _ _ h => h) (Or.inl ⟨by rfl, ?_⟩) (by assumption) ?_
            rotate_left
            · intro w hSw
              try dsimp only at hSw
              go_simp
              with_reducible rfl
            try simp only [Act.put, List.setIfInBounds_toArray, List.set_cons_zero, List.set_cons_succ]
            refine held_take (1) (v := ?_) rfl (by kernel_rfl) (by kernel_rfl) (by kernel_rfl) (fun _ _ _ h => h) (Or.inl ⟨by rfl, ?_⟩) (by assumption) ?_
            rotate_left
            · intro w hSw
              try dsimp only at hSw
              go_simp
              with_reducible rfl
            try simp only [Act.put, List.setIfInBounds_toArray, List.set_cons_zero, List.set_cons_succ]
            refine held_take (2) (v := ?_) rfl (by kernel_rfl) (by kernel_rfl) (by kernel_rfl) (fun _ _ _ h => h) (Or.inl ⟨by rfl, ?_⟩) (by assumption) ?_
            rotate_left
            · intro w hSw
              try dsimp only at hSw
              go_simp
              with_reducible rfl
            try simp only [Act.put, List.setIfInBounds_toArray, List.set_cons_zero, List.set_cons_succ]
            refine held_take (3) (v := ?_) rfl (by kernel_rfl) (by kernel_rfl) (by kernel_rfl) (fun _ _ _ h => h) (Or.inl ⟨by rfl, ?_⟩) (by assumption) ?_
            rotate_left
            · intro w hSw
              try dsimp only at hSw
              go_simp
              with_reducible rfl
            try simp only [Act.put, List.setIfInBounds_toArray, List.set_cons_zero, List.set_cons_succ]
            refine held_take (4) (v := ?_) rfl (by kernel_rfl) (by kernel_rfl) (by kernel_rfl) (fun _ _ _ h => h) (Or.inl ⟨by rfl, ?_⟩) (by assumption) ?_
            rotate_left
            · intro w hSw
              try dsimp only at hSw
              go_simp
              with_reducible rfl
            try simp only [Act.put, List.setIfInBounds_toArray, List.set_cons_zero, List.set_cons_succ]
            refine held_take (5) (v := ?_) rfl (by kernel_rfl) (by kernel_rfl) (by kernel_rfl) (fun _ _ _ h => h) (Or.inl ⟨by rfl, ?_⟩) (by assumption) ?_
            rotate_left
            · intro w hSw
              try dsimp only at hSw
              go_simp
              with_reducible rfl
            try simp only [Act.put, List.setIfInBounds_toArray, List.set_cons_zero, List.set_cons_succ]
            refine held_take (6) (v := ?_) rfl (by kernel_rfl) (by kernel_rfl) (by kernel_rfl) (fun _ _ _ h => h) (Or.inl ⟨by rfl, ?_⟩) (by assumption) ?_
            rotate_left
            · intro w hSw
              try dsimp only at hSw
              go_simp
              with_reducible rfl
            try simp only [Act.put, List.setIfInBounds_toArray, List.set_cons_zero, List.set_cons_succ]
            refine held_take (7) (v := ?_) rfl (by kernel_rfl) (by kernel_rfl) (by kernel_rfl) (fun _ _ _ h => h) (Or.inl ⟨by rfl, ?_⟩) (by assumption) ?_
            rotate_left
            · intro w hSw
              try dsimp only at hSw
              go_simp
              with_reducible rfl
            try simp only [Act.put, List.setIfInBounds_toArray, List.set_cons_zero, List.set_cons_succ]
            refine held_take (9) (v := ?_) rfl (by kernel_rfl) (by kernel_rfl) (by kernel_rfl) (fun _ _ _ h => h) (Or.inl ⟨by rfl, ?_⟩) (by assumption) ?_
            rotate_left
            · intro w hSw
              try dsimp only at hSw
              go_simp
              with_reducible rfl
            try simp only [Act.put, List.setIfInBounds_toArray, List.set_cons_zero, List.set_cons_succ]
            refine held_take (10) (v := ?_) rfl (by kernel_rfl) (by kernel_rfl) (by kernel_rfl) (fun _ _ _ h => h) (Or.inl ⟨by rfl, ?_⟩) (by assumption) ?_
            rotate_left
            · intro w hSw
              try dsimp only at hSw
              go_simp
              with_reducible rfl
            try simp only [Act.put, List.setIfInBounds_toArray, List.set_cons_zero, List.set_cons_succ]
            refine wpAnyH_ready (rs := [8]) (by kernel_rfl) (by simp) ?_
            refine held_cons rfl (fun K hK => ?_) AllReadyH.nil
            go_simp
            have hbL := (Below.refl wd.heap.size wd).alloc (Nat.le_refl _) (.cells #[.slice (some ⟨gx, ox, none⟩) 1 cx, .slice (some ⟨gx, ox + 1, none⟩) (lx.length - 1) (cx - 1)] 22)
            have hOL : Ow (wd.alloc (.cells #[.slice (some ⟨gx, ox, none⟩) 1 cx, .slice (some ⟨gx, ox + 1, none⟩) (lx.length - 1) (cx - 1)] 22)) wd.heap.size 1 (some ⟨wd.heap.size, 0, none⟩) 2 2 [.slice (some ⟨gx, ox, none⟩) 1 cx, .slice (some ⟨gx, ox + 1, none⟩) (lx.length - 1) (cx - 1)] := Ow.lit wd wd.heap.size _ [.slice (some ⟨gx, ox, none⟩) 1 cx, .slice (some ⟨gx, ox + 1, none⟩) (lx.length - 1) (cx - 1)] 2 rfl (Nat.le_refl _) (by decide)
            have h11 := (hbL.cell hg2).trans hcx
            have hsz11 := hbL.size
            generalize wd.alloc (.cells #[.slice (some ⟨gx, ox, none⟩) 1 cx, .slice (some ⟨gx, ox + 1, none⟩) (lx.length - 1) (cx - 1)] 22) = w11 at *
            refine hK.out _ _ h11 (fun hHeld => ?_)
            clear hK K
            try simp only [Act.put, List.setIfInBounds_toArray, List.set_cons_zero, List.set_cons_succ]
            refine wpAnyH_ready (rs := [11]) (by kernel_rfl) (by simp) ?_
            refine held_cons rfl (fun K hK => ?_) AllReadyH.nil
            have hdr : Rd w11 (some ⟨g2, off2 + 1, none⟩) ((R.drop 1).map ilV) := by rw [List.map_drop]; exact rd_drop (hM.o2.rd.keep hbL) 1
            have hcpr := Src.slice (P := Tryz.prog) (u := 36) (c := d2 - 1) (m := R.length - 1) (size := 1) elIL.u (by simp) hdr (by intro u hu; obtain ⟨_, _, rfl⟩ := List.mem_map.1 hu; rfl)
            refine step_apps (w0 := wd) (B := wd.heap.size) rfl _ _ _ _ rfl elIL rfl hOL hbL (Nat.le_refl _) hsz11 rfl hcpr (by omega) ?_
            intro a5 c5 w12 hO12 hb12 hg12
            have h12 := (hb12.cell hg2).trans hcx
            refine hK.out _ _ h12 (fun hHeld => ?_)
            clear hK K
            try simp only [Act.put, List.setIfInBounds_toArray, List.set_cons_zero, List.set_cons_succ]
            refine wpAnyH_done (by kernel_rfl) ?_ _
            dsimp only [Behind]
            go_simp
            go_wp2_with fail
            go_meet
            exact hM.fresh hb12 (N := [⟨some ⟨gx, ox, none⟩, cx, lx.take 1⟩, ⟨some ⟨gx, ox + 1, none⟩, cx - 1, lx.drop 1⟩]) (k := 1) rfl (by have := hO12.rd; simpa [ilV, hT1] using this) (fun z hz => by
              have hrx := (hM.r _ (mem_at hx)).keep hb12
              simp only [List.mem_cons, List.not_mem_nil, or_false] at hz
              rcases hz with rfl | rfl
              · exact ⟨rd_first hrx 1, by show (lx.take 1).length ≤ _; omega⟩
              · exact ⟨rd_last hrx 1, by show (lx.drop 1).length ≤ _; rw [List.length_drop]; omega⟩) (by simp)
        · have e2 : decide ((lx.length : Int) > 1) = false := decide_eq_false (by omega)
          clear hM
          go_wp2_with fail
          go_meet
          exact HM.out.same'
      · have e1 : decide ((R.length : Int) > 0) = false := decide_eq_false (by omega)
        clear hM
        go_wp2_with fail
        go_meet
        exact HM.out.same'
    · clear hA8 hR8 hle
      have hMl := hM.ll
      have hMm := hM.ml
      have hMd := hM.dlt
      have HS0 := Lib.hid hM.s
      have HR0 := Lib.hid hM.row
      have HBl := Lib.hid (Nat.le_trans hM.bl hM.le)
      clear hM
      go_wp2_with fail
      go_loopw [6] (fun sv wr => ∃ (n : Nat) (ax : Option Addr) (cx : Nat) (Lx : List Seat) (mx : Nat), n ≤ 33 ∧ sv = .slice ax n cx ∧ mx < n + 100 ∧ Hid (Ss W w1 wr db p l cap ax n cx Lx mx) ∧ Hid (Kp (fun j => j < B) w9 wr) ∧ Hid (∀ j, rowOf ax = some j → j < B ∨ w9.heap.size ≤ j)) (fun sv _ => 33 - lnOf sv)
      case atStart => exact ⟨L.length, a, c, L, m, by omega, rfl, by omega, HS0, Lib.hid (Kp.refl _ _), Lib.hid (fun j hj => .inl (HR0.out j hj))⟩
      case round =>
        obtain ⟨n, ax, cx, Lx, mx, hn, rfl, hmx, HS, HK, HR⟩ := hrel
        have KD2 := Lib.hid (dnext HS.out.d 2 (by omega) (by omega))
        go_upto_if 49 with (go_at_call 17; (with_reducible refine KD2.out.mono ?_); (first | rintro e wA ⟨z, rfl, hz, hDA, hkA⟩ | rintro e wA z rfl hz hDA hkA); have hw0 : IntKind.i64.wrap (32 + (z : Int)) = 32 + (z : Int) := (by rw [IntKind.wrap_i64] <;> omega))
        have hSA := HS.out.next hDA hkA
        clear hDA KD2
        by_cases hlt : (n : Int) < 32 + (z : Int)
        · have e1 : decide ((n : Int) < 32 + (z : Int)) = true := decide_eq_true hlt
          have hw1 : IntKind.i64.wrap ((n : Int) + 100) = (n : Int) + 100 := by rw [IntKind.wrap_i64] <;> omega
          have KN := Lib.hid (show Calls Tryz.prog 24 #[.string ⟨#[112]⟩, .int .i64 ((n : Int) + 100), .int .i64 1] wA _ from need_walk2 [112] ((n : Int) + 100) 1 (by simp) (by omega) (by omega) wA)
          have hHSA := Lib.hid hSA
          clear hSA
          go_wp2_with (first
            | (go_at_call 24; (with_reducible refine KN.out.mono ?_); (first | rintro e wB ⟨g, rfl, hokB, hbB, hg1, hg3⟩ | rintro e wB g rfl hokB hbB hg1 hg3); have hSB := hHSA.out.keep hbB)
            | (at_builtin; refine wpList_app1_at (w0 := wB) (B := w1.heap.size) (base := w1.heap.size) rfl _ _ _ rfl elSeat rfl hSB.o (Below.refl _ _) (Nat.le_refl _) hSB.k.size (cs := [.string ⟨#[112]⟩, .int .i64 ((n : Int) + 100), .int .i64 0, .int .i64 0, .slice none 0 0, .slice (some ⟨g, 0, none⟩) 1 1, .bool false]) rfl rfl (by intro u hu; simp at hu; rcases hu with rfl | rfl | rfl | rfl | rfl | rfl | rfl <;> rfl) (by omega) ?_; intro a5 c5 wC hO8 hb8 hg8 hat8))
          have hrA := hHSA.out.o.row
          have hlo := hHSA.out.k.size
          have hnew := hSB.add (x := seN [112] ((n : Int) + 100) 1 g) (m' := n + 100) hO8 hg8 hat8 hokB (fun j hj => by
            have hj2 : g = j := by
              rcases hj with hj | ⟨t, ht, hj⟩ | hj
              · exact Option.some.inj hj
              · rw [List.mem_singleton.1 ht] at hj; cases hj
              · cases hj
            subst hj2
            exact ⟨by omega, hg3, fun e => by have := (hrA g e).2; omega⟩) (by show (n : Int) + 100 = _; omega) hmx (by simp [seN])
          have hK2 := ((HK.out.trans hkA (fun j hj e => by have : j = db := e; omega)).trans (Kp.of_below hbB (fun _ => False)) (fun j hj e => e.elim)).trans (Kp.of_grown hg8 (S := fun j => rowOf ax = some j) (fun j e => e)) (fun j hj e => by have := HR.out j e; omega)
          have hszB := Nat.le_trans HK.out.size (Nat.le_trans hkA.size hbB.size)
          have HN := Lib.hid hnew
          have HK2 := Lib.hid hK2
          have HR2 : Hid (∀ j, rowOf a5 = some j → j < B ∨ w9.heap.size ≤ j) := Lib.hid (fun j hj => by
            rcases hat8 with e2 | e2
            · exact HR.out j (e2 ▸ hj)
            · rw [e2] at hj; have := Option.some.inj hj; exact .inr (by omega))
          clear hnew hK2 hSB hO8 hb8 hg8 hat8 hokB hbB hkA HS HK HR
          go_roundw
          case rel =>
            (repeat apply Exists.intro)
            exact ⟨⟨n + 1, a5, c5, _, n + 100, by omega, rfl, by omega, HN, HK2, HR2⟩, rfl⟩
          case measure => simp [lnOf]; omega
        · have e1 : decide ((n : Int) < 32 + (z : Int)) = false := decide_eq_false hlt
          have hK2 := HK.out.trans hkA (fun j hj e => by have : j = db := e; omega)
          have HSA := Lib.hid hSA
          have HK2 := Lib.hid hK2
          clear hSA hK2 hkA HS HK
          go_wp2_with fail
          go_meet
          exact HM.out.more HSA.out HK2.out hn
  case rest =>
    rename World => wx
    obtain ⟨a', c', L', sa, sc, A', ra, rc, R', rfl, rfl, rfl, hZ⟩ := hcut
    refine hKL.out _ _ ?_
    have KM := Lib.hid (fun V => made28_walk nn V)
    have HZ := Lib.hid hZ
    have hll := hZ.ll
    have KG : Hid (∀ V, Below wx.heap.size wx V → Calls Tryz.prog 20 #[.slice a' L'.length c', .slice sa A'.length sc, .slice ra R'.length rc, .int .i64 (nn % 9)] V fun e w' => e = .returned (.bool true) ∧ Below V.heap.size V w') := Lib.hid (fun V hV => by
      by_cases h32 : L'.length ≤ 32
      · exact agree28_walk L' a' c' A' sa sc R' ra rc (nn % 9) V (HZ.out.s.keep hV) (HZ.out.o.keep hV) (HZ.out.r.keep hV) h32 HZ.out.al HZ.out.rl HZ.out.xl (HSpc.out.keep (HZ.out.b.trans (hV.mono HZ.out.b.size)))
      · exact agree28_long L'.length a' c' sa A'.length sc ra R'.length rc (nn % 9) V (by omega) (by omega))
    clear hZ hll
    go_wp2_with (first
      | (go_at_call 8; (with_reducible refine (KA.out _).mono ?_); (first | rintro e v1 rfl hb1 | rintro e v1 ⟨rfl, hb1⟩))
      | (go_at_call 25; (with_reducible refine (KM.out _).mono ?_); (first | rintro e v2 rfl hb2 | rintro e v2 ⟨rfl, hb2⟩); have hc2 := below_tr hb1 hb2)
      | (go_at_call 20; (with_reducible refine (KG.out _ hc2).mono ?_); (first | rintro e v3 rfl hb3 | rintro e v3 ⟨rfl, hb3⟩); have hc3 := below_tr hc2 hb3))
    go_ret
    exact ⟨rfl, HZ.out.b.trans (hc3.mono HZ.out.b.size)⟩
end Go.Proofs.YtpofijdkckaphaaGreatDoor
