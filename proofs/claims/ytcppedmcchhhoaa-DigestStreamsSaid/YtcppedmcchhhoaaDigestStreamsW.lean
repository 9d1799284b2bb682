/- The walk of the law on shorter and longer streams. -/
import Derived.Test.YtcppedmcchhhoaaDigestL
import Derived.Test.YtcppedmcchhhoaaDice
namespace Go.Proofs.Ytcppedmcchhhoaa
open Go.RowKit
theorem strm_take (p : Int) (s : List UInt8) (m : Nat) : ∀ n, m ≤ n → ∀ k, k < m → (strm p s n)[k]? = (strm p s m)[k]?
  | 0, h, k, hk => by omega
  | n + 1, h, k, hk => by
    by_cases hm : m = n + 1
    · rw [hm]
    · rw [strm, List.getElem?_append_left (by rw [strm_length]; omega)]
      exact strm_take p s m n (by omega) k hk
theorem strm_bd (p : Int) (hp : 1 ≤ p) (s : List UInt8) : ∀ n, ∀ x ∈ strm p s n, 0 ≤ x ∧ x < p
  | 0, x, h => by simp [strm] at h
  | n + 1, x, h => by
    rw [strm, List.mem_append] at h
    rcases h with h | h
    · exact strm_bd p hp s n x h
    · simp only [List.mem_singleton] at h
      subst h
      exact ⟨Int.emod_nonneg _ (by omega), Int.emod_lt_of_pos _ (by omega)⟩
theorem elem_bd (p : Int) (hp : 2 ≤ p) (s : List UInt8) : 1 ≤ elem p s ∧ elem p s < p := by
  have h1 := Int.emod_nonneg (num7 (sha s) 7 : Int) (show p - 1 ≠ 0 by omega)
  have h2 := Int.emod_lt_of_pos (num7 (sha s) 7 : Int) (show 0 < p - 1 by omega)
  unfold elem
  omega
set_option maxRecDepth 100000 in
theorem streams_walk (W : World) (p : Option Addr) (l : List Int) (cap : Nat) (hR : Rd W p (ints l)) (hl : l.length ≤ 17592186043904) (s : List UInt8) (hs : s.length ≤ 140737488351232) (m n : Nat) (hm : m < 256) (hn : n < 256) :
    Calls Try.prog 12 #[.slice p l.length cap, .string ⟨s.toArray⟩, .int .u8 (m : Int), .int .u8 (n : Int)] W fun e w' => e = .returned (.bool true) ∧ Below W.heap.size W w' := by
  obtain ⟨a, ha⟩ : ∃ a : Nat, min (m : Int) (n : Int) = (a : Int) := ⟨min m n, by omega⟩
  obtain ⟨b, hb⟩ : ∃ b : Nat, max (m : Int) (n : Int) = (b : Int) := ⟨max m n, by omega⟩
  have hab : a ≤ b := by omega
  have hb2 : b < 256 := by omega
  go_enter Try.func12, Try.ntmps12
  go_wp2_with (go_at_call 42; (with_reducible refine (light_walk _ _ _ _ (by omega)).mono ?_))
  rintro e w1 ⟨rfl, rfl⟩
  rcases Nat.lt_or_ge 500 l.length with h5 | h5
  · have hd5 : decide (l.length ≤ 500) = false := by simp; omega
    go_wp2_with (go_at_call 33; (with_reducible refine (awake33_walk _).mono ?_))
    rintro e w1 ⟨rfl, hb1⟩
    go_wp2
    go_ret
    exact ⟨rfl, hb1⟩
  · have hd5 : decide (l.length ≤ 500) = true := by simp; omega
    rcases Nat.lt_or_ge 200 s.length with h3 | h3
    · go_wp2_with (go_at_call 33; (with_reducible refine (awake33_walk _).mono ?_))
      rintro e w1 ⟨rfl, hb1⟩
      go_wp2
      go_ret
      exact ⟨rfl, hb1⟩
    · have hs1 : s.length ≤ 140737486000000 := by omega
      have hs2 : s.length ≤ 140737488000000 := by omega
      go_wp2_with (go_at_call 43; (with_reducible refine (roll_walk _ _ _ _).mono ?_))
      rintro e w1 ⟨rfl, hD, hb1⟩
      go_wp2_with (go_at_call 44; (with_reducible refine (prime_walk _ _ _ _ _ _ hD (hR.keep hb1) (rd_ne hR (Nat.le_refl _)) (by omega)).mono ?_))
      rintro e w2 ⟨rfl, -, hg2⟩
      obtain ⟨hp2, hp3⟩ := dprime_bd l 0
      have hbw := hb1.grown hg2 hb1.size (by intro k hk; simp at hk; omega)
      clear hg2 hb1
      generalize dprime l 0 = q at *
      go_wp2_with (go_at_call 45; (with_reducible refine (stream_walk q s a _ (by omega) (by omega) hs1 (by omega)).mono ?_))
      rintro e w3 ⟨xa, xc, rfl, hX, hb3⟩
      replace hbw := hbw.trans (hb3.mono hbw.size)
      clear hb3
      go_wp2_with (go_at_call 45; (with_reducible refine (stream_walk q s b _ (by omega) (by omega) hs1 (by omega)).mono ?_))
      rintro e w4 ⟨ya, yc, rfl, hY, hb4⟩
      replace hX := hX.keep hb4
      replace hbw := hbw.trans (hb4.mono hbw.size)
      clear hb4
      have hlx := strm_length q s a
      have hly := strm_length q s b
      have htk := Lib.hid (strm_take q s a b hab)
      have hbd := Lib.hid (strm_bd q (by omega) s b)
      have hel := elem_bd q hp2 s
      generalize strm q s a = L at hX hlx htk
      generalize strm q s b = M at hY hly htk hbd
      go_wp2
      go_loopw [12, 13, 59] (fun _ _ i wr => ∃ k : Nat, wr = w4 ∧ k ≤ b ∧ i = .int .i64 (k : Int)) (fun _ _ i _ => b - (intOf i).toNat)
      case atStart => exact ⟨0, rfl, by omega, rfl⟩
      case round =>
        obtain ⟨k, rfl, hk, rfl⟩ := hrel
        by_cases hkt : k < b
        · obtain ⟨g', off', y, rfl, hc', hy⟩ := hY.int (k := k) (by omega)
          obtain ⟨hy0, hyq⟩ := hbd.out y (mem_at hy)
          by_cases hka : k < a
          · obtain ⟨g, off, x, rfl, hc, hx⟩ := hX.int (k := k) (by omega)
            have hxy : y = x := by
              have := htk.out k hka
              rw [hy.out, hx.out] at this
              exact Option.some.inj this
            subst hxy
            go_wp2
            go_roundw
            case rel => exact ⟨k + 1, trivial, by omega, by go_num⟩
            case measure => simp [intOf]; omega
          · have hka' : a ≤ k := by omega
            clear hka
            go_wp2
            go_roundw
            case rel => exact ⟨k + 1, trivial, by omega, by go_num⟩
            case measure => simp [intOf]; omega
        · obtain rfl : k = b := by omega
          clear hkt
          go_wp2_with (go_at_call 47; (with_reducible refine (element_walk q s _ hp2 (by omega) hs2).mono ?_))
          rintro e w5 ⟨rfl, hb5⟩
          obtain ⟨he1, he2⟩ := hel
          generalize elem q s = z at he1 he2 ⊢
          replace hbw := hbw.trans (hb5.mono hbw.size)
          clear hb5
          go_wp2_with (go_at_call 33; (with_reducible refine (awake33_walk _).mono ?_))
          rintro e w7 ⟨rfl, hb7⟩
          go_wp2
          go_ret
          exact ⟨rfl, hbw.trans (hb7.mono hbw.size)⟩
end Go.Proofs.Ytcppedmcchhhoaa
