/- The walk of the law that strings come back from their elements. -/
import Derived.Test.YtcppedmcchhhoaaDoorPackL
namespace Go.Proofs.YtcppedmcchhhoaaDoor
open Go.RowKit
theorem Bases.grown {w w' : World} {row : Option Nat} (h : Bases w) (hg : w.grownBy w' row) (hne : some 0 ≠ row) : Bases w' :=
  ⟨hg.cell h.1 hne, hg.cell h.2.1 hne, hg.cell h.2.2.1 hne, hg.cell h.2.2.2 hne⟩
theorem unp_same (p : Int) (s : List UInt8) : unpF p s s.length = some s := by
  rw [unpF, if_pos rfl]
  split
  · rfl
  · rename_i h
    rw [packF, if_neg h, ubF_chunkF _ _ (by omega) _ _ _ (Nat.le_refl _) (by simp)]
    rfl
theorem unp_len {p : Int} {s o : List UInt8} {len : Nat} (h : unpF p s len = some o) (hl : len ≠ s.length) : o.length = len := by
  rw [unpF] at h
  split at h
  · rename_i hc
    split at h
    · rename_i h0
      rw [h0] at hc
      simp [countF] at hc
      omega
    · rename_i h0
      rcases ubF_length _ _ _ _ _ h with h1 | h1
      · rw [packF_length, hc] at h1
        have : len ≤ widthF p * countF (widthF p) len := by
          rw [countF, if_neg h0, Nat.mul_add]
          have h2 := Nat.div_add_mod len (widthF p)
          have h3 : len % widthF p < widthF p := Nat.mod_lt _ (by omega)
          by_cases h4 : len % widthF p = 0
          · omega
          · rw [show min (len % widthF p) 1 = 1 by omega]; omega
        simp at h1
        omega
      · simp at h1
  · simp at h
set_option maxRecDepth 100000 in
set_option maxHeartbeats 1000000 in
theorem back_walk (W : World) (hB : Bases W) (p : Option Addr) (l : List Int) (cap : Nat) (hR : Rd W p (ints l)) (hl : l.length ≤ 17592186043904) (s : List UInt8) (hs : s.length ≤ 140737488351232) (n : Nat) (hn : n < 256) :
    Calls Tryd.prog 3 #[.slice p l.length cap, .string ⟨s.toArray⟩, .int .u8 (n : Int)] W fun e w' => e = .returned (.bool true) ∧ Below W.heap.size W w' := by
  have h0W := World.block_lt_of_cell? W _ hB.1
  simp only at h0W
  go_enter Tryd.func3, Tryd.ntmps3
  go_wp2_with (go_at_call 7; (with_reducible refine (light_walk _ _ _ _ (by omega)).mono ?_))
  rintro e w1 ⟨rfl, rfl⟩
  rcases Nat.lt_or_ge 500 l.length with h5 | h5
  · have hd5 : decide (l.length ≤ 500) = false := by simp; omega
    go_wp2_with (go_at_call 8; (with_reducible refine (awake5_walk _ hB).mono ?_))
    rintro e w1 ⟨rfl, hb1⟩
    go_wp2
    go_ret
    exact ⟨rfl, hb1⟩
  · have hd5 : decide (l.length ≤ 500) = true := by simp; omega
    rcases Nat.lt_or_ge 200 s.length with h3 | h3
    · go_wp2_with (go_at_call 8; (with_reducible refine (awake5_walk _ hB).mono ?_))
      rintro e w1 ⟨rfl, hb1⟩
      go_wp2
      go_ret
      exact ⟨rfl, hb1⟩
    · have hs2 : s.length ≤ 256 := by omega
      go_wp2_with (go_at_call 9; (with_reducible refine (roll_walk _ _ _ _).mono ?_))
      rintro e w1 ⟨rfl, hD, hb1⟩
      go_wp2_with (go_at_call 10; (with_reducible refine (prime_walk _ _ _ _ _ _ hD (hR.keep hb1) (rd_ne hR (Nat.le_refl _)) (by omega)).mono ?_))
      rintro e w2 ⟨rfl, -, hg2⟩
      obtain ⟨hp2, hp3⟩ := dprime_bd l 0
      have hV := prime_ok (dprime_mem l 0)
      have hB2 := (hB.keep hb1).grown hg2 (by simp; omega)
      have hbw := hb1.grown hg2 hb1.size (by intro k hk; simp at hk; omega)
      clear hg2 hb1 hD
      generalize dprime l 0 = q at *
      go_wp2_with (go_at_call 11; (with_reducible refine (pack_walk q s _ hB2 hV (by omega) (by omega) hs2).mono ?_))
      rintro e w3 ⟨xa, xc, rfl, hX, hb3⟩
      have hB3 := hB2.keep hb3
      replace hbw := hbw.trans (hb3.mono hbw.size)
      clear hb3 hB2
      have hpl := packF_length q s
      have hbd := Lib.hid (packF_bd q hp2 s)
      have hlen : (packF q s).length ≤ 2048 := by rw [hpl]; exact countF_le _ _ hs2
      obtain ⟨N, hN⟩ : ∃ N, N = (packF q s).length := ⟨_, rfl⟩
      have HPL := Lib.hid hpl
      clear hpl
      rw [← hN] at hlen ⊢
      have HN := Lib.hid hN
      clear hN
      go_wp2
      go_loopw [11, 38] (fun _ i wr => ∃ k : Nat, wr = w3 ∧ k ≤ N ∧ i = .int .i64 (k : Int)) (fun _ i _ => N - (intOf i).toNat)
      case atStart => exact ⟨0, rfl, by omega, rfl⟩
      case round =>
        obtain ⟨k, rfl, hk, rfl⟩ := hrel
        by_cases hkt : k < N
        · obtain ⟨g', off', y, rfl, hc', hy⟩ := hX.int (k := k) (by rw [← HN.out]; exact hkt)
          obtain ⟨hy0, hyq⟩ := hbd.out y (mem_at hy)
          go_wp2
          go_roundw
          case rel => exact ⟨k + 1, trivial, by omega, by go_num⟩
          case measure => simp [intOf]; omega
        · obtain rfl : k = N := by omega
          clear hkt hk
          rw [HN.out]
          go_wp2_with (go_at_call 12; (with_reducible refine (unpack_walk q xa s _ s.length _ hB3 hV hp2 (by omega) hX hs2 (by omega)).mono ?_))
          rintro e w5 ⟨rfl, hb5⟩
          rw [unp_same]
          simp only [unpRes]
          replace hX := hX.keep hb5
          have hB5 := hB3.keep hb5
          replace hbw := hbw.trans (hb5.mono hbw.size)
          clear hb5 hB3
          go_wp2_with (go_at_call 12; (with_reducible refine (unpack_walk q xa s _ n _ hB5 hV hp2 (by omega) hX hs2 (by omega)).mono ?_))
          rintro e w6 ⟨rfl, hb6⟩
          have hB6 := hB5.keep hb6
          replace hbw := hbw.trans (hb6.mono hbw.size)
          clear hb6 hB5 hX
          have hck : countF (widthF q) s.length = k := by rw [HN.out, HPL.out]
          have hkn : (packF q s).length = k := HN.out.symm
          clear HN HPL hbd
          by_cases hns : n = s.length
          · rw [hns, unp_same]
            simp only [unpRes]
            have hnb : ((n : Int) == (s.length : Int)) = true := by rw [hns]; simp
            clear hns
            go_wp2_with (go_at_call 13; (with_reducible refine (count_walk q s.length _ (by omega) (by omega) (by omega)).mono ?_))
            rintro e w7 ⟨rfl, hb7⟩
            rw [hck]
            have hB7 := hB6.keep hb7
            replace hbw := hbw.trans (hb7.mono hbw.size)
            clear hb7 hB6
            go_wp2_with (go_at_call 8; (with_reducible refine (awake5_walk _ hB7).mono ?_))
            rintro e w8 ⟨rfl, hb8⟩
            go_wp2
            go_ret
            exact ⟨rfl, hbw.trans (hb8.mono hbw.size)⟩
          · have hnb : ((n : Int) == (s.length : Int)) = false := by rw [beq_eq_false_iff_ne]; omega
            cases hub : unpF q s n with
            | none =>
              simp only [unpRes]
              clear hub hns
              go_wp2_with (go_at_call 13; (with_reducible refine (count_walk q s.length _ (by omega) (by omega) (by omega)).mono ?_))
              rintro e w7 ⟨rfl, hb7⟩
              rw [hck]
              have hB7 := hB6.keep hb7
              replace hbw := hbw.trans (hb7.mono hbw.size)
              clear hb7 hB6
              go_wp2_with (go_at_call 8; (with_reducible refine (awake5_walk _ hB7).mono ?_))
              rintro e w8 ⟨rfl, hb8⟩
              go_wp2
              go_ret
              exact ⟨rfl, hbw.trans (hb8.mono hbw.size)⟩
            | some o =>
              have hol := unp_len hub hns
              have hob : (o == s) = false := by rw [beq_eq_false_iff_ne]; intro h; rw [h] at hol; exact hns hol.symm
              simp only [unpRes]
              clear hub hns hol
              go_wp2_with (go_at_call 13; (with_reducible refine (count_walk q s.length _ (by omega) (by omega) (by omega)).mono ?_))
              rintro e w7 ⟨rfl, hb7⟩
              rw [hck]
              have hB7 := hB6.keep hb7
              replace hbw := hbw.trans (hb7.mono hbw.size)
              clear hb7 hB6
              go_wp2_with (go_at_call 8; (with_reducible refine (awake5_walk _ hB7).mono ?_))
              rintro e w8 ⟨rfl, hb8⟩
              go_wp2
              go_ret
              exact ⟨rfl, hbw.trans (hb8.mono hbw.size)⟩
end Go.Proofs.YtcppedmcchhhoaaDoor
