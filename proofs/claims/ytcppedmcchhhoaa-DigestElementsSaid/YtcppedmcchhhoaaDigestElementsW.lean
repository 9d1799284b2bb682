/- The walk of the law on elements and streams. -/
import Derived.Test.YtcppedmcchhhoaaDigestL
import Derived.Test.YtcppedmcchhhoaaDice
namespace Go.Proofs.Ytcppedmcchhhoaa
open Go.RowKit
set_option maxRecDepth 100000 in
theorem elements_walk (W : World) (p : Option Addr) (l : List Int) (cap : Nat) (hR : Rd W p (ints l)) (hl : l.length ≤ 17592186043904) (s : List UInt8) (hs : s.length ≤ 140737488351232) (n : Nat) (hn : n < 256) :
    Calls Try.prog 11 #[.slice p l.length cap, .string ⟨s.toArray⟩, .int .u8 (n : Int)] W fun e w' => e = .returned (.bool true) ∧ Below W.heap.size W w' := by
  go_enter Try.func11, Try.ntmps11
  go_wp2_with (go_at_call 42; (with_reducible refine (light_walk _ _ _ _ (by omega)).mono ?_))
  rintro e w1 ⟨rfl, rfl⟩
  rcases Nat.lt_or_ge 500 l.length with h5 | h5
  · have hd5 : decide (l.length ≤ 500) = false := by simp; omega
    go_wp2_with (go_at_call 33; (with_reducible refine (awake33_walk _).mono ?_))
    rintro e w1 ⟨rfl, hb1⟩
    go_wp2
    go_ret
    exact ⟨rfl, hb1⟩
  · have hd5 : decide (l.length ≤ 500) = true := by simp; omega
    rcases Nat.lt_or_ge 300 s.length with h3 | h3
    · go_wp2_with (go_at_call 33; (with_reducible refine (awake33_walk _).mono ?_))
      rintro e w1 ⟨rfl, hb1⟩
      go_wp2
      go_ret
      exact ⟨rfl, hb1⟩
    · have hs1 : s.length ≤ 140737486000000 := by omega
      have hs2 : s.length ≤ 140737488000000 := by omega
      go_wp2_with (go_at_call 43; (with_reducible refine (roll_walk _ _ _ _).mono ?_))
      rintro e w1 ⟨rfl, hD, hb1⟩
      go_wp2_with (go_at_call 44; (with_reducible refine (prime_walk _ _ _ _ _ _ hD (hR.keep hb1) (rd_ne hR (Nat.le_refl _)) (by omega)).mono ?_))
      rintro e w2 ⟨rfl, -, hg2⟩
      obtain ⟨hp2, hp3⟩ := dprime_bd l 0
      have hbw := hb1.grown hg2 hb1.size (by intro k hk; simp at hk; omega)
      clear hg2 hb1
      generalize dprime l 0 = q at *
      go_wp2_with (go_at_call 45; (with_reducible refine (stream_walk q s n _ (by omega) (by omega) hs1 (by omega)).mono ?_))
      rintro e w3 ⟨xa, xc, rfl, hX, hb3⟩
      replace hbw := hbw.trans (hb3.mono hbw.size)
      clear hb3
      go_wp2_with (go_at_call 46; (with_reducible refine (rstream_walk q s n _ (by omega) (by omega) hs1 (by omega)).mono ?_))
      rintro e w4 ⟨ya, yc, rfl, hY, hb4⟩
      replace hX := hX.keep hb4
      replace hbw := hbw.trans (hb4.mono hbw.size)
      clear hb4
      have hlen := strm_length q s n
      generalize strm q s n = L at hX hY hlen
      go_wp2_with (go_at_call 47; (with_reducible refine (element_walk q s _ hp2 (by omega) hs2).mono ?_))
      rintro e w5 ⟨rfl, hb5⟩
      replace hX := hX.keep hb5
      replace hY := hY.keep hb5
      replace hbw := hbw.trans (hb5.mono hbw.size)
      clear hb5
      go_wp2_with (go_at_call 48; (with_reducible refine (relement_walk q s _ hp2 (by omega) hs2).mono ?_))
      rintro e w6 ⟨rfl, hb6⟩
      replace hX := hX.keep hb6
      replace hY := hY.keep hb6
      replace hbw := hbw.trans (hb6.mono hbw.size)
      clear hb6
      go_wp2
      go_loopw [10, 11, 50] (fun _ _ i wr => ∃ k : Nat, wr = w6 ∧ k ≤ n ∧ i = .int .i64 (k : Int)) (fun _ _ i _ => n - (intOf i).toNat)
      case atStart => exact ⟨0, rfl, by omega, rfl⟩
      case round =>
        obtain ⟨k, rfl, hk, rfl⟩ := hrel
        by_cases hkt : k < n
        · obtain ⟨g, off, x, rfl, hc, hx⟩ := hX.int (k := k) (by omega)
          obtain ⟨g', off', y, rfl, hc', hy⟩ := hY.int (k := k) (by omega)
          have hxy := same_at hx hy
          subst hxy
          go_wp2
          go_roundw
          case rel => exact ⟨k + 1, trivial, by omega, by go_num⟩
          case measure => simp [intOf]; omega
        · obtain rfl : k = n := by omega
          go_wp2_with (go_at_call 33; (with_reducible refine (awake33_walk _).mono ?_))
          rintro e w7 ⟨rfl, hb7⟩
          go_wp2
          go_ret
          exact ⟨rfl, hbw.trans (hb7.mono hbw.size)⟩
end Go.Proofs.Ytcppedmcchhhoaa
