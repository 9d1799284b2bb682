/- What the reference's block does: the same. -/
import Derived.Test.YtnahkfchcminpaaGreatDoorGDigestS
import Derived.BigRegion
namespace Go.Proofs.YtnahkfchcminpaaGreatDoor
open Go.RowKit
set_option maxRecDepth 100000 in
theorem word_walk (l : List UInt8) (w : World) (hl : 4 ≤ l.length) :
    Calls Tryz.prog 102 #[.string ⟨l.toArray⟩] w fun e w' => e = .returned (.int .u32 (wordAt l 0)) ∧ w.drew = w' := by
  go_enter Tryz.func102, Tryz.ntmps102
  have h0 : 0 < l.length := by omega
  have h1 : 1 < l.length := by omega
  have h2 : 2 < l.length := by omega
  have h3 : 3 < l.length := by omega
  go_wp2
  go_region
  go_wp2
  go_ret
  exact ⟨rfl, rfl⟩
set_option maxRecDepth 100000 in
set_option maxHeartbeats 4000000 in
theorem block_walk (l : List UInt8) (w : World) (hl : 64 ≤ l.length) (H K : List Int) (h8 : H.length = 8) (h64 : K.length = 64) :
    Calls Tryz.prog 91 #[.agg (u32s H).toArray, .agg (u32s K).toArray, .string ⟨l.toArray⟩] w fun e w' => e = .returned (.agg (u32s (blockSum K H l)).toArray) ∧ Below w.heap.size w w' := by
  go_enter Tryz.func91, Tryz.ntmps91
  go_wp2
  refine Wd.new4 (Code.wp _ _ _ _) H K [0, 0, 0, 0, 0, 0, 0, 0] (List.replicate 64 0) ?_
  intro w1 hb1 hH hK hR hw1
  go_loopw [21] (fun i wr => ∃ (n : Nat) (L : List Int), n ≤ 16 ∧ i = .int .i64 (n : Int) ∧ L = load l n ∧ Below w.heap.size w wr ∧ Wd wr w.heap.size 99 H ∧ Wd wr (w.heap.size + 1) 101 K ∧ Wd wr (w.heap.size + 1 + 1) 99 [0, 0, 0, 0, 0, 0, 0, 0] ∧ Wd wr (w.heap.size + 1 + 1 + 1) 101 L) (fun i _ => 16 - (intOf i).toNat)
  case atStart => exact ⟨0, _, by omega, rfl, rfl, hb1, hH, hK, hR, hw1⟩
  case round =>
    clear hH hK hR hw1
    obtain ⟨n, L, hn, rfl, hL, hbel, hH, hK, hR, hwd⟩ := hrel
    have hlen : L.length = 64 := by rw [hL, load_length]
    have HL := Lib.hid hL
    clear hL
    by_cases hlt : n < 16
    · obtain ⟨x, hc, _⟩ := hwd.at (j := n) (by omega)
      have hfr := hwd.free n
      go_wp2_with (go_at_call 102; (with_reducible refine (word_walk _ _ (by simp; omega)).mono ?_); rintro e w2 ⟨rfl, rfl⟩)
      rw [wordAt_sub l n _ (by omega)]
      refine ⟨⟨n + 1, L.set n (wordAt l n), by omega, by go_num, load_step HL, (hbel.drew.setCell (p := ⟨w.heap.size + 1 + 1 + 1, n, none⟩) (by simp; omega) _), hH.other _ (by show w.heap.size + 1 + 1 + 1 ≠ _; omega), hK.other _ (by show w.heap.size + 1 + 1 + 1 ≠ _; omega), hR.other _ (by show w.heap.size + 1 + 1 + 1 ≠ _; omega), hwd.set _ _⟩, ?measure⟩
      case measure => simp [intOf]; omega
    · obtain rfl : n = 16 := by omega
      go_wp2
      go_loopw [9] (fun i wq => ∃ (m : Nat) (M : List Int), m ≤ 48 ∧ i = .int .i64 ((m + 16 : Nat) : Int) ∧ M = fill L m ∧ Below w.heap.size w wq ∧ Wd wq w.heap.size 99 H ∧ Wd wq (w.heap.size + 1) 101 K ∧ Wd wq (w.heap.size + 1 + 1) 99 [0, 0, 0, 0, 0, 0, 0, 0] ∧ Wd wq (w.heap.size + 1 + 1 + 1) 101 M) (fun i _ => 64 - (intOf i).toNat)
      case atStart => exact ⟨0, _, by omega, rfl, rfl, hbel, hH, hK, hR, hwd⟩
      case round =>
        clear hH hK hR hwd
        obtain ⟨m, M, hm, rfl, hM, hbem, hH, hK, hR, hwm⟩ := hrel
        have hlem : M.length = 64 := by rw [hM, fill_length, hlen]
        have HM := Lib.hid hM
        clear hM
        by_cases hlt : m < 48
        · obtain ⟨x, hc, _⟩ := hwm.at (j := m + 16) (by omega)
          obtain ⟨x0, hc0, hx0⟩ := hwm.at (j := m) (by omega)
          obtain ⟨x1, hc1, hx1⟩ := hwm.at (j := m + 1) (by omega)
          obtain ⟨x2, hc2, hx2⟩ := hwm.at (j := m + 9) (by omega)
          obtain ⟨x3, hc3, hx3⟩ := hwm.at (j := m + 14) (by omega)
          have hfr := hwm.free (m + 16)
          go_wp2
          go_region
          go_wp2_with (go_at_call 103; (with_reducible refine (rright_any _ _ _ (by decide)).mono ?_); rintro e w2 ⟨rfl, rfl⟩)
          go_region
          go_wp2
          refine ⟨?_, ?measure⟩
          · iterate 48 apply Exists.intro
            refine ⟨?rel, rfl⟩
            exact ⟨m + 1, M.set (m + 16) (nextWord x0 x1 x2 x3), by omega, by go_num, fill_step HM hx0 hx1 hx2 hx3, (hbem.setCell (p := ⟨w.heap.size + 1 + 1 + 1, m + 16, none⟩) (by simp; omega) _).drew.drew, hH.other _ (by show w.heap.size + 1 + 1 + 1 ≠ _; omega), hK.other _ (by show w.heap.size + 1 + 1 + 1 ≠ _; omega), hR.other _ (by show w.heap.size + 1 + 1 + 1 ≠ _; omega), hwm.set _ _⟩
          case measure => simp [intOf]; omega
        · obtain rfl : m = 48 := by omega
          obtain ⟨h0, h1, h2, h3, h4, h5, h6, h7, rfl⟩ := eight h8
          have c0 := hH.cell0 (j := 0) (x := h0) rfl
          have c1 := hH.cell0 (j := 1) (x := h1) rfl
          have c2 := hH.cell0 (j := 2) (x := h2) rfl
          have c3 := hH.cell0 (j := 3) (x := h3) rfl
          have c4 := hH.cell0 (j := 4) (x := h4) rfl
          have c5 := hH.cell0 (j := 5) (x := h5) rfl
          have c6 := hH.cell0 (j := 6) (x := h6) rfl
          have c7 := hH.cell0 (j := 7) (x := h7) rfl
          go_wp2
          refine Wd.new (Code.wp _ _ _ _) [h0, h1, h2, h3, h4, h5, h6, h7] ?_
          clear c0 c1 c2 c3 c4 c5 c6 c7
          intro w3 hb3 hw3
          have hv1 := hwm.lt
          have hwm3 := hwm.keep hb3
          have hH3 := hH.keep hb3
          have hK3 := hK.keep hb3
          have hR3 := hR.keep hb3
          have hbw := hbem.trans (hb3.mono hbem.size)
          generalize hgv : wr.heap.size = gv at hw3 hv1 hb3 ⊢
          have HV := Lib.hid hgv
          clear hgv hH hK hR hwm
          go_loopw [76] (fun i wq => ∃ (n : Nat) (V : List Int), n ≤ 64 ∧ i = .int .i64 (n : Int) ∧ V = rounds K M [h0, h1, h2, h3, h4, h5, h6, h7] n ∧ Below w.heap.size w wq ∧ Wd wq w.heap.size 99 [h0, h1, h2, h3, h4, h5, h6, h7] ∧ Wd wq (w.heap.size + 1) 101 K ∧ Wd wq (w.heap.size + 1 + 1) 99 [0, 0, 0, 0, 0, 0, 0, 0] ∧ Wd wq (w.heap.size + 1 + 1 + 1) 101 M ∧ Wd wq gv 99 V) (fun i _ => 64 - (intOf i).toNat)
          case atStart => exact ⟨0, _, by omega, rfl, rfl, hbw, hH3, hK3, hR3, hwm3, hw3⟩
          case round =>
            clear hH3 hK3 hR3 hwm3 hw3
            obtain ⟨n, V, hn, rfl, hV, hbv, hH, hK, hR, hwM, hwV⟩ := hrel
            have hlv : V.length = 8 := by rw [hV, rounds_length]; rfl
            have HR := Lib.hid hV
            clear hV
            obtain ⟨v0, v1, v2, v3, v4, v5, v6, v7, rfl⟩ := eight hlv
            have f0 := hwV.free 0
            have f1 := hwV.free 1
            have f2 := hwV.free 2
            have f3 := hwV.free 3
            have f4 := hwV.free 4
            have f5 := hwV.free 5
            have f6 := hwV.free 6
            have f7 := hwV.free 7
            have hsg : IntKind.u32.signed = false := rfl
            have c0 := hwV.cell0 (j := 0) (x := v0) rfl
            have c1 := hwV.cell0 (j := 1) (x := v1) rfl
            have c2 := hwV.cell0 (j := 2) (x := v2) rfl
            have c3 := hwV.cell0 (j := 3) (x := v3) rfl
            have c4 := hwV.cell0 (j := 4) (x := v4) rfl
            have c5 := hwV.cell0 (j := 5) (x := v5) rfl
            have c6 := hwV.cell0 (j := 6) (x := v6) rfl
            have c7 := hwV.cell0 (j := 7) (x := v7) rfl
            by_cases hlt : n < 64
            · obtain ⟨m, hcm, hxm⟩ := hwM.at (j := n) (by omega)
              obtain ⟨q, hcq, hxq⟩ := hK.at (j := n) (by omega)
              go_wp2
              go_region
              go_wp2
              go_quiet (first | (go_at_call 103; with_reducible exact still (rright_any _ _ _ (by decide))))
              go_wp2
              go_quiet (first | (go_at_call 103; with_reducible exact still (rright_any _ _ _ (by decide))))
              go_wp2
              refine ⟨⟨n + 1, round1 q m [v0, v1, v2, v3, v4, v5, v6, v7], by omega, by go_num, rounds_step HR hxq hxm, put8_below (below_drewN hbv _) (by omega), put8_other (hH.drewN _) (by omega), put8_other (hK.drewN _) (by omega), put8_other (hR.drewN _) (by omega), put8_other (hwM.drewN _) (by omega), put8_own (hwV.drewN _)⟩, ?measure⟩
              case measure => simp [intOf]; omega
            · obtain rfl : n = 64 := by omega
              clear hK hwM c0 c1 c2 c3 c4 c5 c6 c7 f0 f1 f2 f3 f4 f5 f6 f7
              go_wp2
              go_loopw [156] (fun i wq => ∃ (n : Nat) (A : List Int), n ≤ 8 ∧ i = .int .i64 (n : Int) ∧ A = addn [v0, v1, v2, v3, v4, v5, v6, v7] [h0, h1, h2, h3, h4, h5, h6, h7] n ∧ Below w.heap.size w wq ∧ Wd wq w.heap.size 99 [h0, h1, h2, h3, h4, h5, h6, h7] ∧ Wd wq (w.heap.size + 1 + 1) 99 [0, 0, 0, 0, 0, 0, 0, 0] ∧ Wd wq gv 99 A) (fun i _ => 8 - (intOf i).toNat)
              case atStart => exact ⟨0, _, by omega, rfl, rfl, hbv, hH, hR, hwV⟩
              case round =>
                clear hH hR hwV
                obtain ⟨n, A, hn, rfl, hA, hbq, hH, hR, hwA⟩ := hrel
                have hlA : A.length = 8 := by rw [hA, addn_length]; rfl
                have HA := Lib.hid hA
                clear hA
                by_cases hlt : n < 8
                · obtain ⟨a, hca, hxa⟩ := hwA.at (j := n) (by omega)
                  obtain ⟨b, hcb, hxb⟩ := hH.at (j := n) (by simp; omega)
                  have hfr := hwA.free n
                  go_wp2
                  go_region
                  go_wp2
                  refine ⟨⟨n + 1, A.set n ((a + b) % 4294967296), by omega, by go_num, addn_step HA hxa hxb.out, (hbq.setCell (p := ⟨gv, n, none⟩) (by simp; omega) _).drew, hH.other _ (by show gv ≠ _; omega), hR.other _ (by show gv ≠ _; omega), hwA.set _ _⟩, ?measure⟩
                  case measure => simp [intOf]; omega
                · obtain rfl : n = 8 := by omega
                  obtain ⟨a0, a1, a2, a3, a4, a5, a6, a7, rfl⟩ := eight hlA
                  have g0 := hR.free 0
                  have r0 := hR.cell0 (j := 0) (x := 0) rfl
                  have c0 := hwA.cell0 (j := 0) (x := a0) rfl
                  have g1 := hR.free 1
                  have r1 := hR.cell0 (j := 1) (x := 0) rfl
                  have c1 := hwA.cell0 (j := 1) (x := a1) rfl
                  have g2 := hR.free 2
                  have r2 := hR.cell0 (j := 2) (x := 0) rfl
                  have c2 := hwA.cell0 (j := 2) (x := a2) rfl
                  have g3 := hR.free 3
                  have r3 := hR.cell0 (j := 3) (x := 0) rfl
                  have c3 := hwA.cell0 (j := 3) (x := a3) rfl
                  have g4 := hR.free 4
                  have r4 := hR.cell0 (j := 4) (x := 0) rfl
                  have c4 := hwA.cell0 (j := 4) (x := a4) rfl
                  have g5 := hR.free 5
                  have r5 := hR.cell0 (j := 5) (x := 0) rfl
                  have c5 := hwA.cell0 (j := 5) (x := a5) rfl
                  have g6 := hR.free 6
                  have r6 := hR.cell0 (j := 6) (x := 0) rfl
                  have c6 := hwA.cell0 (j := 6) (x := a6) rfl
                  have g7 := hR.free 7
                  have r7 := hR.cell0 (j := 7) (x := 0) rfl
                  have c7 := hwA.cell0 (j := 7) (x := a7) rfl
                  go_wp2
                  have HP := put8_own (a := a0) (b := a1) (c := a2) (d := a3) (e := a4) (f := a5) (i := a6) (j := a7) hR
                  refine bodyPost_ret (results_cell_row rfl _ _ (w.heap.size + 1 + 1) _ _ _ _ rfl HP Tryz.underlying99 rfl (by kernel_rfl)) rfl ⟨?_, put8_below hbq (by omega)⟩
                  rw [blockSum, ← HL.out, ← HM.out, ← HR.out, ← addn_comm rfl rfl, ← HA.out]
end Go.Proofs.YtnahkfchcminpaaGreatDoor
