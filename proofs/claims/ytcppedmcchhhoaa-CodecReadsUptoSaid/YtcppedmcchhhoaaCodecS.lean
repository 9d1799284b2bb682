/- The walks of the reference of layer 4: what it reads. -/
import Derived.Test.YtcppedmcchhhoaaCodecR
namespace Go.Proofs.Ytcppedmcchhhoaa
open Go.RowKit

theorem and127 (c : Nat) (hc : c < 256) : bits BinOp.and IntKind.u8 (c : Int) 127 = ((c % 128 : Nat) : Int) := by
  have h : ∀ x : Fin 256, bits BinOp.and IntKind.u8 ((x.val : Nat) : Int) 127 = ((x.val % 128 : Nat) : Int) := by decide +kernel
  exact h ⟨c, hc⟩
theorem rdec_bits (n c k : Nat) (hb : c < 256) (hn : n < 128 ^ k) (hk : k ≤ 9) (hc : k = 9 → c % 128 ≤ 1) :
    bits BinOp.or IntKind.u64 (n : Int) (IntKind.u64.wrap (IntKind.u64.wrap (bits BinOp.and IntKind.u8 (c : Int) 127) * 2 ^ (7 * k))) = ((n + c % 128 * 128 ^ k : Nat) : Int) := by
  rw [and127 c hb, IntWalk.u64_in ((c % 128 : Nat) : Int) ⟨by omega, by omega⟩]
  have := dec_bits n c k hn hk hc
  rwa [show ((c % 128 : Nat) : Int) = (c : Int) % 128 by omega]
theorem and1_odd {u : Nat} (hu : u < 18446744073709551616) (h : u % 2 = 1) : bits BinOp.and IntKind.u64 (u : Int) 1 = 1 := by
  rw [Lib.u64_and1 _ (by omega) (by omega)]; omega
theorem and1_even {u : Nat} (hu : u < 18446744073709551616) (h : u % 2 = 0) : bits BinOp.and IntKind.u64 (u : Int) 1 = 0 := by
  rw [Lib.u64_and1 _ (by omega) (by omega)]; omega
theorem rzag_odd {u : Nat} (hu : u < 18446744073709551616) (h : u % 2 = 1) : wrap64 (bits BinOp.xor IntKind.u64 IntKind.u64.max ((u : Int) / 2)) = zag u := by
  have e2 : IntKind.u64.max = ((2 ^ 64 - 1 : Nat) : Int) := by decide
  rw [e2, show (u : Int) / 2 = ((u / 2 : Nat) : Int) by omega, bits_xor_u64_nat _ _ (by decide) (by omega), Lib.xor_ones64 _ (by omega)]
  unfold zag wrap64
  rw [if_neg (by omega)]
  omega
theorem rzag_even {u : Nat} (hu : u < 18446744073709551616) (h : u % 2 = 0) : wrap64 ((u : Int) / 2) = zag u := by
  unfold zag wrap64
  rw [if_pos h]
  omega

set_option maxRecDepth 100000 in
set_option maxHeartbeats 800000 in
theorem rint_walk (b : List UInt8) (p : Int) (w : World) (hb : b.length ≤ 281474976710656) :
    Calls Try.prog 25 #[.string ⟨b.toArray⟩, .int .i64 p] w fun e w' => e = .returned (int3 (getInt b p)) ∧ w = w' := by
  by_cases h1 : p < 0
  · go_enter Try.func25, Try.ntmps25
    go_wp2
    go_ret3
    exact ⟨by rw [getInt, if_pos (Or.inl h1)]; rfl, rfl⟩
  by_cases h2 : (b.length : Int) < p
  · go_enter Try.func25, Try.ntmps25
    go_wp2
    go_ret3
    exact ⟨by rw [getInt, if_pos (Or.inr h2)]; rfl, rfl⟩
  obtain ⟨q, rfl⟩ := Int.eq_ofNat_of_zero_le (by omega : 0 ≤ p)
  have hq : q ≤ b.length := by omega
  rw [← numRes_is hq]
  clear h1 h2
  go_enter Try.func25, Try.ntmps25
  go_wp2
  go_loop [7, 8] (fun u i => ∃ k n : Nat, i = .int .i64 (k : Int) ∧ u = .int .u64 (n : Int) ∧ k ≤ 9 ∧ n < 128 ^ k ∧ q + k ≤ b.length ∧ rd 0 0 (b.drop q) = rd k n (b.drop (q + k))) (fun _ i => 10 - (intOf i).toNat)
  case atStart => exact ⟨0, 0, rfl, rfl, by omega, by simp, by omega, rfl⟩
  case round =>
    obtain ⟨k, n, rfl, rfl, hk, hn, hpk, hrd⟩ := hrel
    have HR := Lib.hid hrd
    have HN := Lib.hid hn
    clear hrd hn
    by_cases hend : q + k < b.length
    · have hc := bt_lt b (q + k)
      by_cases h1 : k = 9 ∧ 1 < bt b (q + k)
      · obtain ⟨rfl, h1⟩ := h1
        go_wp2
        go_ret3
        exact ⟨by rw [numRes, HR.out, drop_bt (by omega), rd_top hc ⟨rfl, h1⟩]; rfl, rfl⟩
      · by_cases h3 : bt b (q + k) = 0 ∧ 0 < k
        · obtain ⟨h3, h4⟩ := h3
          go_wp2
          all_goals (go_ret3; exact ⟨by rw [numRes, HR.out, drop_bt hend, h3, rd_zero (by omega) (by omega) (by omega) ⟨rfl, h4⟩]; rfl, rfl⟩)
        · obtain ⟨U, hU⟩ : ∃ U, U = n + bt b (q + k) % 128 * 128 ^ k := ⟨_, rfl⟩
          have hUb := dec_le (c := bt b (q + k)) HN.out hk (by omega)
          have e1 := rdec_bits n (bt b (q + k)) k hc HN.out hk (by omega)
          rw [← hU] at e1 hUb
          have HU := Lib.hid hU
          have HB := Lib.hid hUb
          clear hU hUb
          have hz : (((bt b (q + k) : Nat) : Int) == 0) = false ∨ k = 0 := by
            rcases Nat.eq_zero_or_pos k with h | h
            · exact Or.inr h
            · exact Or.inl (by rw [beq_eq_false_iff_ne]; omega)
          by_cases h2 : 128 ≤ bt b (q + k)
          · have hk8 : k ≠ 9 := by omega
            have hz : 0 < bt b (q + k) := by omega
            clear h3
            go_wp2
            all_goals exact ⟨⟨u4, u5, u6, .int .u64 (U : Int), .int .i64 ((k + 1 : Nat) : Int), ⟨k + 1, rfl, U, rfl, by omega, by rw [HU.out]; exact rd_bound HN.out (by omega), by omega, by rw [HR.out, drop_bt hend, rd_more hc h1 h2, ← HU.out, Nat.add_assoc]⟩, rfl, rfl, rfl, rfl, by go_num⟩, by simp [intOf]; omega⟩
          · have hfin : numRes b q = int3 (zag U, q + k + 1, 0) := by
              rw [numRes, HR.out, drop_bt hend, rd_last hc h1 h2 h3, HU.out, Nat.mod_eq_of_lt (by omega)]; rfl
            have HF := Lib.hid hfin
            clear hfin h3
            have hd : Hid (U % 2 = 1) ∨ Hid (U % 2 = 0) := by rcases Nat.mod_two_eq_zero_or_one U with h | h; exact Or.inr h; exact Or.inl h
            rcases hd with h5 | h5
            · have e2 := and1_odd HB.out h5.out
              have E3 := Lib.hid (rzag_odd HB.out h5.out)
              by_cases h9 : k = 9
              · subst h9
                have e9 : bits BinOp.or IntKind.u64 (n : Int) (IntKind.u64.wrap (IntKind.u64.wrap (bits BinOp.and IntKind.u8 ((bt b (q + 9) : Nat) : Int) 127) * 9223372036854775808)) = (U : Int) := e1
                have hz9 : (((bt b (q + 9) : Nat) : Int) == 0) = false := by rcases hz with h | h; exact h; exact absurd h (by decide)
                clear e1 hz
                go_wp2
                all_goals (go_ret3; exact ⟨by rw [HF.out]; exact ret_num E3.out (by first | rfl | omega | (simp only []; omega)), rfl⟩)
              · rcases hz with hz | rfl
                · go_wp2
                  all_goals (go_ret3; exact ⟨by rw [HF.out]; exact ret_num E3.out (by first | rfl | omega | (simp only []; omega)), rfl⟩)
                · have e0 : bits BinOp.or IntKind.u64 (n : Int) (IntKind.u64.wrap (IntKind.u64.wrap (bits BinOp.and IntKind.u8 ((bt b q : Nat) : Int) 127))) = (U : Int) := by simpa using e1
                  have h2' : bt b q < 128 := by have := h2; simp only [Nat.add_zero] at this; omega
                  go_wp2
                  all_goals (go_ret3; exact ⟨by rw [HF.out]; exact ret_num E3.out (by first | rfl | omega | (simp only []; omega)), rfl⟩)
            · have e2 := and1_even HB.out h5.out
              have E3 := Lib.hid (rzag_even HB.out h5.out)
              by_cases h9 : k = 9
              · subst h9
                have e9 : bits BinOp.or IntKind.u64 (n : Int) (IntKind.u64.wrap (IntKind.u64.wrap (bits BinOp.and IntKind.u8 ((bt b (q + 9) : Nat) : Int) 127) * 9223372036854775808)) = (U : Int) := e1
                have hz9 : (((bt b (q + 9) : Nat) : Int) == 0) = false := by rcases hz with h | h; exact h; exact absurd h (by decide)
                clear e1 hz
                go_wp2
                all_goals (go_ret3; exact ⟨by rw [HF.out]; exact ret_num E3.out (by first | rfl | omega | (simp only []; omega)), rfl⟩)
              · rcases hz with hz | rfl
                · go_wp2
                  all_goals (go_ret3; exact ⟨by rw [HF.out]; exact ret_num E3.out (by first | rfl | omega | (simp only []; omega)), rfl⟩)
                · have e0 : bits BinOp.or IntKind.u64 (n : Int) (IntKind.u64.wrap (IntKind.u64.wrap (bits BinOp.and IntKind.u8 ((bt b q : Nat) : Int) 127))) = (U : Int) := by simpa using e1
                  have h2' : bt b q < 128 := by have := h2; simp only [Nat.add_zero] at this; omega
                  go_wp2
                  all_goals (go_ret3; exact ⟨by rw [HF.out]; exact ret_num E3.out (by first | rfl | omega | (simp only []; omega)), rfl⟩)
    · go_wp2
      go_ret3
      exact ⟨by rw [numRes, HR.out, List.drop_eq_nil_of_le (by omega)]; rfl, rfl⟩

theorem rint_at {b : List UInt8} {p n q e : Int} (hg : getInt b p = (n, q, e)) (w : World) (hb : b.length ≤ 281474976710656) :
    Calls Try.prog 25 #[.string ⟨b.toArray⟩, .int .i64 p] w fun r w' => r = .returned (.tuple #[.int .i64 n, .int .i64 q, .int .i64 e]) ∧ w = w' :=
  (rint_walk b p w hb).mono fun _ _ h => by rw [hg] at h; exact h
end Go.Proofs.Ytcppedmcchhhoaa
