import Derived.Test.YtcppedmcchhhoaaCodecW
import Derived.Lib.Zigzag
namespace Go.Proofs.Ytcppedmcchhhoaa
open Go.RowKit

def numRes (b : List UInt8) (p : Nat) : Value := match rd 0 0 (b.drop p) with
  | .inl e => .tuple #[.int .i64 0, .int .i64 p, .int .i64 e]
  | .inr (u, k) => .tuple #[.int .i64 (zag u), .int .i64 (p + k), .int .i64 0]

theorem or_add {n c k : Nat} (hn : n < 2 ^ k) : n ||| c * 2 ^ k = n + c * 2 ^ k := by
  rw [Nat.mul_comm, Nat.or_comm, ← Nat.two_pow_add_eq_or_of_lt hn, Nat.add_comm]
theorem pow7 (k : Nat) : (128 : Nat) ^ k = 2 ^ (7 * k) := by rw [Nat.pow_mul]
theorem dec_le {n c k : Nat} (hn : n < 128 ^ k) (hk : k ≤ 9) (hc : k = 9 → c % 128 ≤ 1) : n + c % 128 * 128 ^ k < 18446744073709551616 := by
  by_cases h9 : k = 9
  · subst h9
    have := Nat.mul_le_mul_right (128 ^ 9) (hc rfl)
    omega
  · have h1 := rd_bound (c := c % 128) hn (by omega)
    have h2 : (128 : Nat) ^ (k + 1) ≤ 128 ^ 9 := Nat.pow_le_pow_right (by omega) (by omega)
    omega
theorem dec_bits (n c k : Nat) (hn : n < 128 ^ k) (hk : k ≤ 9) (hc : k = 9 → c % 128 ≤ 1) :
    bits BinOp.or IntKind.u64 (n : Int) (IntKind.u64.wrap ((c : Int) % 128 * 2 ^ (7 * k))) = ((n + c % 128 * 128 ^ k : Nat) : Int) := by
  have hb := dec_le hn hk hc
  have e : ((c : Int) % 128 * 2 ^ (7 * k)) = ((c % 128 * 128 ^ k : Nat) : Int) := by
    rw [pow7]; push_cast; rfl
  rw [e, IntWalk.u64_in _ ⟨by omega, by omega⟩, u64_or_nat _ _ (by omega) (by omega), pow7, or_add (by rw [← pow7]; exact hn)]
theorem dec_bits0 (c : Nat) (hc : c < 128) : bits BinOp.or IntKind.u64 0 ((c : Int) % 128) = (c : Int) := by
  have := dec_bits 0 c 0 (by simp) (by omega) (by omega)
  simp only [Nat.mul_zero, Int.pow_zero, Int.mul_one, Nat.pow_zero, Nat.mul_one, Nat.zero_add] at this
  rw [IntWalk.u64_in _ ⟨by omega, by omega⟩, Nat.mod_eq_of_lt hc] at this
  exact this
theorem i64_xor_comm (a b : Int) : bits BinOp.xor IntKind.i64 a b = bits BinOp.xor IntKind.i64 b a := by
  show IntKind.i64.wrap ((BitVec.ofInt 64 a ^^^ BitVec.ofInt 64 b).toNat : Int) = IntKind.i64.wrap ((BitVec.ofInt 64 b ^^^ BitVec.ofInt 64 a).toNat : Int)
  rw [BitVec.xor_comm]
theorem i64_xor0 (x : Nat) (hx : x < 9223372036854775808) : bits BinOp.xor IntKind.i64 (x : Int) 0 = (x : Int) := by
  show IntKind.i64.wrap ((BitVec.ofInt 64 (x : Int) ^^^ BitVec.ofInt 64 0).toNat : Int) = _
  have h2 : (BitVec.ofInt 64 (x : Int)).toNat = x := by
    rw [BitVec.ofInt_natCast, BitVec.toNat_ofNat]; exact Nat.mod_eq_of_lt (by omega)
  rw [show BitVec.ofInt 64 0 = 0#64 from rfl, BitVec.xor_zero, h2, IntKind.wrap_i64]
  omega
theorem zag_bits (u : Nat) (hu : u < 18446744073709551616) :
    bits BinOp.xor IntKind.i64 (wrap64 ((u : Int) / 2)) (wrap64 (-wrap64 (bits BinOp.and IntKind.u64 (u : Int) 1))) = zag u := by
  rw [Lib.u64_and1 _ (by omega) (by omega), IntWalk.wrap64_in _ ⟨by omega, by omega⟩]
  unfold zag
  split
  · rw [show (u : Int) % 2 = 0 by omega]
    have h := i64_xor0 (u / 2) (by omega)
    simpa [wrap64] using h
  · rw [show (u : Int) % 2 = 1 by omega, i64_xor_comm, IntWalk.wrap64_in 1 ⟨by omega, by omega⟩, IntWalk.wrap64_in _ ⟨by omega, by omega⟩]
    have h := Lib.i64_not (u / 2) (by omega)
    simpa using h
theorem ret_num {a b c d : Int} (h : a = b) (h2 : c = d) : Ending.returned (.tuple #[.int .i64 a, .int .i64 c, .int .i64 0]) = .returned (.tuple #[.int .i64 b, .int .i64 d, .int .i64 0]) := by rw [h, h2]
set_option maxRecDepth 100000 in
set_option maxHeartbeats 400000 in
theorem number_walk (b : List UInt8) (p : Nat) (w : World) (hp : p ≤ b.length) (hb : b.length ≤ 281474976710656) :
    Calls Try.prog 50 #[.string ⟨b.toArray⟩, .int .i64 p] w fun e w' => e = .returned (numRes b p) ∧ w = w' := by
  go_enter Try.func50, Try.ntmps50
  go_wp2
  go_loop [7, 10] (fun u i => ∃ k n : Nat, i = .int .i64 (k : Int) ∧ u = .int .u64 (n : Int) ∧ k ≤ 9 ∧ n < 128 ^ k ∧ p + k ≤ b.length ∧ rd 0 0 (b.drop p) = rd k n (b.drop (p + k))) (fun _ i => 10 - (intOf i).toNat)
  case atStart => exact ⟨0, 0, rfl, rfl, by omega, by simp, by omega, rfl⟩
  case round =>
    obtain ⟨k, n, rfl, rfl, hk, hn, hpk, hrd⟩ := hrel
    have HR := Lib.hid hrd
    have HN := Lib.hid hn
    clear hrd hn
    by_cases hend : p + k < b.length
    · have hc := bt_lt b (p + k)
      by_cases h1 : k = 9 ∧ 1 < bt b (p + k)
      · obtain ⟨rfl, h1⟩ := h1
        go_wp2
        go_ret3
        exact ⟨by rw [numRes, HR.out, drop_bt (by omega), rd_top hc ⟨rfl, h1⟩]; rfl, rfl⟩
      · by_cases h2 : 128 ≤ bt b (p + k)
        · have hk8 : k ≠ 9 := by omega
          go_wp2
          rw [dec_bits n (bt b (p + k)) k HN.out hk (by omega)]
          go_round
          case rel => exact ⟨k + 1, n + bt b (p + k) % 128 * 128 ^ k, by go_num, rfl, by omega, rd_bound HN.out (by omega), by omega, by rw [HR.out, drop_bt hend, rd_more hc h1 h2, Nat.add_assoc]⟩
          case measure => simp [intOf]; omega
        · by_cases h3 : bt b (p + k) = 0 ∧ 0 < k
          · obtain ⟨h3, h4⟩ := h3
            go_wp2
            all_goals (go_ret3; exact ⟨by rw [numRes, HR.out, drop_bt hend, h3, rd_zero (by omega) (by omega) (by omega) ⟨rfl, h4⟩]; rfl, rfl⟩)
          · by_cases h4 : k = 0
            · subst h4
              have hn0 : n = 0 := by have := HN.out; simp at this; omega
              subst hn0
              have hp0 : p + 0 = p := rfl
              rw [hp0] at h1 h2 h3 hc hend HR
              clear hp0
              by_cases h5 : bt b p = 0
              · go_wp2
                go_ret3
                exact ⟨by rw [numRes, drop_bt hend, h5, rd_last (by omega) (by omega) (by omega) (by omega)]; exact ret_num (by decide +kernel) (by omega), rfl⟩
              · have h6 : 0 < bt b p := by omega
                go_wp2
                go_ret3
                exact ⟨by rw [numRes, drop_bt hend, rd_last hc (by omega) (by omega) (by omega)]; exact ret_num (by rw [dec_bits0 _ (by omega), zag_bits _ (by omega)]; simp) (by omega), rfl⟩
            · have h5 : 0 < bt b (p + k) := by omega
              clear h3
              go_wp2
              all_goals (go_ret3; exact ⟨by rw [numRes, HR.out, drop_bt hend, rd_last hc h1 h2 (by omega)]; exact ret_num (by rw [dec_bits n (bt b (p + k)) k HN.out hk (by omega), zag_bits _ (dec_le HN.out hk (by omega)), Nat.mod_eq_of_lt (by omega)]) (by omega), rfl⟩)
    · go_wp2
      go_ret3
      exact ⟨by rw [numRes, HR.out, List.drop_eq_nil_of_le (by omega)]; rfl, rfl⟩

abbrev int3 (r : Int × Int × Int) : Value := .tuple #[.int .i64 r.1, .int .i64 r.2.1, .int .i64 r.2.2]
theorem numRes_is {b : List UInt8} {p : Nat} (hp : p ≤ b.length) : numRes b p = int3 (getInt b p) := by
  rw [numRes, getInt, if_neg (by omega)]
  simp only [Int.toNat_natCast]
  cases rd 0 0 (b.drop p) <;> rfl
theorem number_any (b : List UInt8) (p : Nat) (w : World) (hp : p ≤ b.length) (hb : b.length ≤ 281474976710656) :
    Calls Try.prog 50 #[.string ⟨b.toArray⟩, .int .i64 p] w fun e w' => e = .returned (int3 (getInt b p)) ∧ w = w' :=
  (number_walk b p w hp hb).mono fun _ _ h => by rw [numRes_is hp] at h; exact h

theorem inside_yes (b : List UInt8) (p : Int) (w : World) (h1 : 0 ≤ p) (h2 : p ≤ b.length) :
    Calls Try.prog 49 #[.string ⟨b.toArray⟩, .int .i64 p] w fun e w' => e = .returned (.bool true) ∧ w = w' := by
  go_enter Try.func49, Try.ntmps49
  go_wp2
  go_ret
  exact ⟨ret_bool (by simp), rfl⟩
theorem inside_no (b : List UInt8) (p : Int) (w : World) (h : p < 0 ∨ (b.length : Int) < p) :
    Calls Try.prog 49 #[.string ⟨b.toArray⟩, .int .i64 p] w fun e w' => e = .returned (.bool false) ∧ w = w' := by
  by_cases h1 : p < 0
  · go_enter Try.func49, Try.ntmps49
    go_wp2
    go_ret
    exact ⟨rfl, rfl⟩
  · have h2 : (b.length : Int) < p := by omega
    go_enter Try.func49, Try.ntmps49
    go_wp2
    go_ret
    exact ⟨ret_bool (by simpa using h2), rfl⟩

set_option maxRecDepth 100000 in
set_option maxHeartbeats 400000 in
theorem int_walk (b : List UInt8) (p : Int) (w : World) (hb : b.length ≤ 281474976710656) :
    Calls Try.prog 15 #[.string ⟨b.toArray⟩, .int .i64 p] w fun e w' => e = .returned (int3 (getInt b p)) ∧ w = w' := by
  by_cases h1 : p < 0 ∨ (b.length : Int) < p
  · go_enter Try.func15, Try.ntmps15
    go_wp2_with (go_at_call 49; refine (inside_no b p _ h1).mono ?_; rintro e w' ⟨rfl, rfl⟩)
    go_ret3
    exact ⟨by rw [getInt, if_pos h1]; rfl, rfl⟩
  · obtain ⟨q, rfl⟩ := Int.eq_ofNat_of_zero_le (by omega : 0 ≤ p)
    go_enter Try.func15, Try.ntmps15
    go_wp2_with (first | (go_at_call 49; refine (inside_yes b q _ (by omega) (by omega)).mono ?_; rintro e w' ⟨rfl, rfl⟩) | (go_at_call 50; refine (number_any b q _ (by omega) hb).mono ?_; rintro e w' ⟨rfl, rfl⟩))
    go_ret3
    exact ⟨rfl, rfl⟩
end Go.Proofs.Ytcppedmcchhhoaa
