/- What (*state).add does: a block is added to a state. -/
import Derived.Test.YtnahkfchcminpaaGreatDoorDigestR
import Derived.BigRegion
namespace Go.Proofs.YtnahkfchcminpaaGreatDoor
open Go.RowKit
set_option maxRecDepth 100000 in
set_option maxHeartbeats 4000000 in
theorem add_walk (g k : Nat) (l : List UInt8) (w : World) (hl : 64 ≤ l.length) (H K : List Int) (h8 : H.length = 8) (h64 : K.length = 64) (hH : Wd w g 113 H) (hK : Wd w k 101 K) :
    Calls Tryz.prog 107 #[.pointer (some ⟨g, 0, none⟩), .string ⟨l.toArray⟩, .pointer (some ⟨k, 0, none⟩)] w fun e w' => e = .returned (.tuple #[]) ∧ (Wd w' g 113 (blockSum K H l) ∧ w.grownBy w' (some g)) := by
  go_enter Tryz.func107, Tryz.ntmps107
  go_wp2
  refine Wd.new (Code.wp _ _ _ _) (List.replicate 64 0) ?_
  intro w1 hb1 hw1
  go_loopw [21] (fun i wr => ∃ (n : Nat) (L : List Int), n ≤ 16 ∧ i = .int .i64 (n : Int) ∧ L = load l n ∧ Below w.heap.size w wr ∧ Wd wr w.heap.size 101 L) (fun i _ => 16 - (intOf i).toNat)
  case atStart => exact ⟨0, _, by omega, rfl, rfl, hb1, hw1⟩
  case round =>
    obtain ⟨n, L, hn, rfl, hL, hbel, hwd⟩ := hrel
    have hlen : L.length = 64 := by rw [hL, load_length]
    have HL := Lib.hid hL
    clear hL hw1
    by_cases hlt : n < 16
    · obtain ⟨x, hc, _⟩ := hwd.at (j := n) (by omega)
      have hfr := hwd.free n
      go_wp2
      go_region
      go_wp2
      refine ⟨?_, ?measure⟩
      · exact ⟨n + 1, L.set n (wordAt l n), by omega, by go_num, load_step HL, (hbel.setCell (p := ⟨w.heap.size, n, none⟩) (Nat.le_refl _) _).drew, hwd.set _ _⟩
      case measure => simp [intOf]; omega
    · obtain rfl : n = 16 := by omega
      go_wp2
      go_loopw [8] (fun i wq => ∃ (m : Nat) (M : List Int), m ≤ 48 ∧ i = .int .i64 ((m + 16 : Nat) : Int) ∧ M = fill L m ∧ Below w.heap.size w wq ∧ Wd wq w.heap.size 101 M) (fun i _ => 64 - (intOf i).toNat)
      case atStart => exact ⟨0, _, by omega, rfl, rfl, hbel, hwd⟩
      case round =>
        obtain ⟨m, M, hm, rfl, hM, hbem, hwm⟩ := hrel
        have hlem : M.length = 64 := by rw [hM, fill_length, hlen]
        have HM := Lib.hid hM
        clear hM hwd
        by_cases hlt : m < 48
        · obtain ⟨x, hc, _⟩ := hwm.at (j := m + 16) (by omega)
          obtain ⟨x0, hc0, hx0⟩ := hwm.at (j := m) (by omega)
          obtain ⟨x1, hc1, hx1⟩ := hwm.at (j := m + 1) (by omega)
          obtain ⟨x2, hc2, hx2⟩ := hwm.at (j := m + 9) (by omega)
          obtain ⟨x3, hc3, hx3⟩ := hwm.at (j := m + 14) (by omega)
          have hfr := hwm.free (m + 16)
          go_wp2
          go_region
          go_wp2_with (go_at_call 115; (with_reducible refine (right_any _ _ _ (by decide)).mono ?_); rintro e w2 ⟨rfl, rfl⟩)
          go_region
          go_wp2
          refine ⟨?_, ?measure⟩
          · iterate 48 apply Exists.intro
            refine ⟨?rel, rfl⟩
            exact ⟨m + 1, M.set (m + 16) (nextWord x0 x1 x2 x3), by omega, by go_num, fill_step HM hx0 hx1 hx2 hx3, (hbem.setCell (p := ⟨w.heap.size, m + 16, none⟩) (Nat.le_refl _) _).drew.drew, hwm.set _ _⟩
          case measure => simp [intOf]; omega
        · obtain rfl : m = 48 := by omega
          obtain ⟨h0, h1, h2, h3, h4, h5, h6, h7, rfl⟩ := eight h8
          have hHr := hH.keep hbem
          have c0 := hHr.cell0 (j := 0) (x := h0) rfl
          have c1 := hHr.cell0 (j := 1) (x := h1) rfl
          have c2 := hHr.cell0 (j := 2) (x := h2) rfl
          have c3 := hHr.cell0 (j := 3) (x := h3) rfl
          have c4 := hHr.cell0 (j := 4) (x := h4) rfl
          have c5 := hHr.cell0 (j := 5) (x := h5) rfl
          have c6 := hHr.cell0 (j := 6) (x := h6) rfl
          have c7 := hHr.cell0 (j := 7) (x := h7) rfl
          go_wp2
          refine Wd.new (Code.wp _ _ _ _) [h0, h1, h2, h3, h4, h5, h6, h7] ?_
          clear c0 c1 c2 c3 c4 c5 c6 c7
          intro w3 hb3 hw3
          have hv1 := hwm.lt
          have hwm3 := hwm.keep hb3
          have hbw := hbem.trans (hb3.mono hbem.size)
          generalize hgv : wr.heap.size = gv at hw3 hv1 hb3 ⊢
          have HV := Lib.hid hgv
          clear hgv
          have hK3 := hK.keep hbw
          go_loopw [102] (fun i wq => ∃ (n : Nat) (V : List Int), n ≤ 64 ∧ i = .int .i64 (n : Int) ∧ V = rounds K M [h0, h1, h2, h3, h4, h5, h6, h7] n ∧ Below w.heap.size w wq ∧ Wd wq w.heap.size 101 M ∧ Wd wq gv 113 V) (fun i _ => 64 - (intOf i).toNat)
          case atStart => exact ⟨0, _, by omega, rfl, rfl, hbw, hwm3, hw3⟩
          case round =>
            obtain ⟨n, V, hn, rfl, hV, hbv, hwM, hwV⟩ := hrel
            have hlv : V.length = 8 := by rw [hV, rounds_length]; rfl
            have HR := Lib.hid hV
            clear hV hw3 hwm3 hK3
            have hKr := hK.keep hbv
            obtain ⟨v0, v1, v2, v3, v4, v5, v6, v7, rfl⟩ := eight hlv
            have f0 := hwV.free 0
            have f1 := hwV.free 1
            have f2 := hwV.free 2
            have f3 := hwV.free 3
            have f4 := hwV.free 4
            have f5 := hwV.free 5
            have f6 := hwV.free 6
            have f7 := hwV.free 7
            have hsg : IntKind.u32.signed = false := rfl
            have c0 := hwV.cell0 (j := 0) (x := v0) rfl
            have c1 := hwV.cell0 (j := 1) (x := v1) rfl
            have c2 := hwV.cell0 (j := 2) (x := v2) rfl
            have c3 := hwV.cell0 (j := 3) (x := v3) rfl
            have c4 := hwV.cell0 (j := 4) (x := v4) rfl
            have c5 := hwV.cell0 (j := 5) (x := v5) rfl
            have c6 := hwV.cell0 (j := 6) (x := v6) rfl
            have c7 := hwV.cell0 (j := 7) (x := v7) rfl
            by_cases hlt : n < 64
            · obtain ⟨m, hcm, hxm⟩ := hwM.at (j := n) (by omega)
              obtain ⟨q, hcq, hxq⟩ := hKr.at (j := n) (by omega)
              go_wp2
              go_region
              go_wp2
              go_quiet (first | (go_at_call 115; with_reducible exact still (right_any _ _ _ (by decide))))
              go_wp2
              go_quiet (first | (go_at_call 115; with_reducible exact still (right_any _ _ _ (by decide))))
              go_wp2
              refine ⟨⟨n + 1, round1 q m [v0, v1, v2, v3, v4, v5, v6, v7], by omega, by go_num, rounds_step HR hxq hxm, put8_below (below_drewN hbv _) (Nat.le_of_lt hv1), put8_other (hwM.drewN _) (Nat.ne_of_gt hv1), put8_own (hwV.drewN _)⟩, ?measure⟩
              case measure => simp [intOf]; omega
            · obtain rfl : n = 64 := by omega
              go_wp2
              have hHv := hH.keep hbv
              have hgl := hH.lt
              go_loopw [187] (fun i wq => ∃ (n : Nat) (A : List Int), n ≤ 8 ∧ i = .int .i64 (n : Int) ∧ A = addn [h0, h1, h2, h3, h4, h5, h6, h7] [v0, v1, v2, v3, v4, v5, v6, v7] n ∧ w.grownBy wq (some g) ∧ Wd wq g 113 A) (fun i _ => 8 - (intOf i).toNat)
              case atStart => exact ⟨0, _, by omega, rfl, rfl, below_grownBy hbv _, hHv⟩
              case round =>
                obtain ⟨n, A, hn, rfl, hA, hgr, hwA⟩ := hrel
                have hlA : A.length = 8 := by rw [hA, addn_length]; rfl
                have HA := Lib.hid hA
                clear hA c0 c1 c2 c3 c4 c5 c6 c7 f0 f1 f2 f3 f4 f5 f6 f7 hHv hHr hKr hwM hwV hwm
                by_cases hlt : n < 8
                · obtain ⟨a, hca, hxa⟩ := hwA.at (j := n) (by omega)
                  have hfr := hwA.free n
                  obtain rfl | rfl | rfl | rfl | rfl | rfl | rfl | rfl : n = 0 ∨ n = 1 ∨ n = 2 ∨ n = 3 ∨ n = 4 ∨ n = 5 ∨ n = 6 ∨ n = 7 := by omega
                  · have hix : (Instr.index 113 (.agg #[.int .u32 v0, .int .u32 v1, .int .u32 v2, .int .u32 v3, .int .u32 v4, .int .u32 v5, .int .u32 v6, .int .u32 v7]) (.int .i64 0)).run Tryz.prog wr = .ok (.int .u32 v0) wr := index8 wr Tryz.underlying113 _ 0 (by omega) _ rfl
                    go_wp2
                    go_region
                    go_wp2
                    refine ⟨⟨1, A.set 0 ((a + v0) % 4294967296), by omega, by go_num, addn_step HA hxa rfl, grown_set hgr _ _, hwA.set _ _⟩, ?measure⟩
                    case measure => simp [intOf]; try omega
                  · have hix : (Instr.index 113 (.agg #[.int .u32 v0, .int .u32 v1, .int .u32 v2, .int .u32 v3, .int .u32 v4, .int .u32 v5, .int .u32 v6, .int .u32 v7]) (.int .i64 1)).run Tryz.prog wr = .ok (.int .u32 v1) wr := index8 wr Tryz.underlying113 _ 1 (by omega) _ rfl
                    go_wp2
                    go_region
                    go_wp2
                    refine ⟨⟨2, A.set 1 ((a + v1) % 4294967296), by omega, by go_num, addn_step HA hxa rfl, grown_set hgr _ _, hwA.set _ _⟩, ?measure⟩
                    case measure => simp [intOf]; try omega
                  · have hix : (Instr.index 113 (.agg #[.int .u32 v0, .int .u32 v1, .int .u32 v2, .int .u32 v3, .int .u32 v4, .int .u32 v5, .int .u32 v6, .int .u32 v7]) (.int .i64 2)).run Tryz.prog wr = .ok (.int .u32 v2) wr := index8 wr Tryz.underlying113 _ 2 (by omega) _ rfl
                    go_wp2
                    go_region
                    go_wp2
                    refine ⟨⟨3, A.set 2 ((a + v2) % 4294967296), by omega, by go_num, addn_step HA hxa rfl, grown_set hgr _ _, hwA.set _ _⟩, ?measure⟩
                    case measure => simp [intOf]; try omega
                  · have hix : (Instr.index 113 (.agg #[.int .u32 v0, .int .u32 v1, .int .u32 v2, .int .u32 v3, .int .u32 v4, .int .u32 v5, .int .u32 v6, .int .u32 v7]) (.int .i64 3)).run Tryz.prog wr = .ok (.int .u32 v3) wr := index8 wr Tryz.underlying113 _ 3 (by omega) _ rfl
                    go_wp2
                    go_region
                    go_wp2
                    refine ⟨⟨4, A.set 3 ((a + v3) % 4294967296), by omega, by go_num, addn_step HA hxa rfl, grown_set hgr _ _, hwA.set _ _⟩, ?measure⟩
                    case measure => simp [intOf]; try omega
                  · have hix : (Instr.index 113 (.agg #[.int .u32 v0, .int .u32 v1, .int .u32 v2, .int .u32 v3, .int .u32 v4, .int .u32 v5, .int .u32 v6, .int .u32 v7]) (.int .i64 4)).run Tryz.prog wr = .ok (.int .u32 v4) wr := index8 wr Tryz.underlying113 _ 4 (by omega) _ rfl
                    go_wp2
                    go_region
                    go_wp2
                    refine ⟨⟨5, A.set 4 ((a + v4) % 4294967296), by omega, by go_num, addn_step HA hxa rfl, grown_set hgr _ _, hwA.set _ _⟩, ?measure⟩
                    case measure => simp [intOf]; try omega
                  · have hix : (Instr.index 113 (.agg #[.int .u32 v0, .int .u32 v1, .int .u32 v2, .int .u32 v3, .int .u32 v4, .int .u32 v5, .int .u32 v6, .int .u32 v7]) (.int .i64 5)).run Tryz.prog wr = .ok (.int .u32 v5) wr := index8 wr Tryz.underlying113 _ 5 (by omega) _ rfl
                    go_wp2
                    go_region
                    go_wp2
                    refine ⟨⟨6, A.set 5 ((a + v5) % 4294967296), by omega, by go_num, addn_step HA hxa rfl, grown_set hgr _ _, hwA.set _ _⟩, ?measure⟩
                    case measure => simp [intOf]; try omega
                  · have hix : (Instr.index 113 (.agg #[.int .u32 v0, .int .u32 v1, .int .u32 v2, .int .u32 v3, .int .u32 v4, .int .u32 v5, .int .u32 v6, .int .u32 v7]) (.int .i64 6)).run Tryz.prog wr = .ok (.int .u32 v6) wr := index8 wr Tryz.underlying113 _ 6 (by omega) _ rfl
                    go_wp2
                    go_region
                    go_wp2
                    refine ⟨⟨7, A.set 6 ((a + v6) % 4294967296), by omega, by go_num, addn_step HA hxa rfl, grown_set hgr _ _, hwA.set _ _⟩, ?measure⟩
                    case measure => simp [intOf]; try omega
                  · have hix : (Instr.index 113 (.agg #[.int .u32 v0, .int .u32 v1, .int .u32 v2, .int .u32 v3, .int .u32 v4, .int .u32 v5, .int .u32 v6, .int .u32 v7]) (.int .i64 7)).run Tryz.prog wr = .ok (.int .u32 v7) wr := index8 wr Tryz.underlying113 _ 7 (by omega) _ rfl
                    go_wp2
                    go_region
                    go_wp2
                    refine ⟨⟨8, A.set 7 ((a + v7) % 4294967296), by omega, by go_num, addn_step HA hxa rfl, grown_set hgr _ _, hwA.set _ _⟩, ?measure⟩
                    case measure => simp [intOf]; try omega
                · obtain rfl : n = 8 := by omega
                  go_wp2
                  go_end0
                  refine ⟨rfl, ?_, hgr⟩
                  rw [blockSum, ← HL.out, ← HM.out, ← HR.out, ← HA.out]
                  exact hwA
end Go.Proofs.YtnahkfchcminpaaGreatDoor
