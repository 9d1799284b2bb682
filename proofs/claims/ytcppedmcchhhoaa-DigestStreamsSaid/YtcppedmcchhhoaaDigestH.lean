/- Numbers of sums, elements, lists, digits: the program's and the reference's. -/
import Derived.Test.YtcppedmcchhhoaaDigestG
import Derived.Laws.BitsAllLaws
namespace Go.Proofs.Ytcppedmcchhhoaa
open Go.RowKit
/-- the first n bytes as a number -/
def num7 (l : List UInt8) : Nat → Nat
  | 0 => 0
  | n + 1 => num7 l n * 256 + bt l n
theorem num7_lt (l : List UInt8) (n : Nat) : num7 l n < 256 ^ n := by
  induction n with
  | zero => simp [num7]
  | succ n ih => have := bt_lt l n; rw [num7, Nat.pow_succ]; omega
theorem i64_or_nat (a b : Nat) (ha : a < 9223372036854775808) (hb : b < 9223372036854775808) (hab : a ||| b < 9223372036854775808) : bits .or .i64 (a : Int) (b : Int) = ((a ||| b : Nat) : Int) := by
  have h : IntKind.u64.wrap ((BitVec.ofInt 64 (a : Int) ||| BitVec.ofInt 64 (b : Int)).toNat : Int) = ((a ||| b : Nat) : Int) := u64_or_nat a b (by omega) (by omega)
  rw [IntKind.wrap_u64] at h
  show IntKind.i64.wrap ((BitVec.ofInt 64 (a : Int) ||| BitVec.ofInt 64 (b : Int)).toNat : Int) = _
  rw [IntKind.wrap_i64]
  have := (BitVec.ofInt 64 (a : Int) ||| BitVec.ofInt 64 (b : Int)).isLt
  omega
theorem num7_step (l : List UInt8) (n : Nat) (hn : n < 7) : bits .or .i64 ((num7 l n : Int) * 256) ((bt l n : Nat) : Int) = ((num7 l (n + 1) : Nat) : Int) := by
  have h := num7_lt l n
  have hb := bt_lt l n
  have hp : 256 ^ n ≤ 256 ^ 6 := Nat.pow_le_pow_right (by omega) (by omega)
  have ho : num7 l n * 256 ||| bt l n = num7 l n * 256 + bt l n := by
    have := Nat.two_pow_add_eq_or_of_lt (i := 8) (b := bt l n) hb (num7 l n)
    rw [Nat.mul_comm] at this
    exact this.symm
  have := i64_or_nat (num7 l n * 256) (bt l n) (by omega) (by omega) (by rw [ho]; omega)
  rw [ho] at this
  exact this
set_option maxRecDepth 100000 in
theorem number_walk (l : List UInt8) (w : World) (hl : 7 ≤ l.length) :
    Calls Try.prog 70 #[.string ⟨l.toArray⟩] w fun e w' => e = .returned (.int .i64 (num7 l 7 : Int)) ∧ w = w' := by
  go_enter Try.func70, Try.ntmps70
  go_wp2
  go_loop [3, 4, 5] (fun m _ i => ∃ (k a : Nat), k ≤ 7 ∧ a = num7 l k ∧ i = .int .i64 (k : Int) ∧ m = .int .i64 (a : Int)) (fun _ _ i => 7 - (intOf i).toNat)
  case atStart => exact ⟨0, 0, by omega, rfl, rfl, rfl⟩
  case round =>
    obtain ⟨k, a, hk, ha, rfl, rfl⟩ := hrel
    have hlt := num7_lt l k
    rw [← ha] at hlt
    by_cases hkt : k < 7
    · have hp : 256 ^ k ≤ 256 ^ 6 := Nat.pow_le_pow_right (by omega) (by omega)
      have hs := num7_step l k hkt
      rw [← ha] at hs
      have hw64 : wrap64 (bt l k : Int) = (bt l k : Int) := by
        have := bt_lt l k
        unfold wrap64; omega
      have HA := Lib.hid ha
      have ha2 : a < 281474976710656 := by omega
      clear ha hlt hp
      go_wp2
      go_round
      case rel => exact ⟨k + 1, num7 l (k + 1), by omega, rfl, by go_num, rfl⟩
      case measure => simp [intOf]; omega
    · obtain rfl : k = 7 := by omega
      subst ha
      go_wp2
      go_ret
      exact ⟨rfl, rfl⟩
set_option maxRecDepth 100000 in
theorem rnumber_walk (l : List UInt8) (w : World) (hl : 7 ≤ l.length) :
    Calls Try.prog 71 #[.string ⟨l.toArray⟩] w fun e w' => e = .returned (.int .i64 (num7 l 7 : Int)) ∧ w = w' := by
  go_enter Try.func71, Try.ntmps71
  go_wp2
  go_loop [3, 4, 5] (fun m _ i => ∃ (k a : Nat), k ≤ 7 ∧ a = num7 l k ∧ i = .int .i64 (k : Int) ∧ m = .int .i64 (a : Int)) (fun _ _ i => 7 - (intOf i).toNat)
  case atStart => exact ⟨0, 0, by omega, rfl, rfl, rfl⟩
  case round =>
    obtain ⟨k, a, hk, ha, rfl, rfl⟩ := hrel
    have hlt := num7_lt l k
    rw [← ha] at hlt
    by_cases hkt : k < 7
    · have hp : 256 ^ k ≤ 256 ^ 6 := Nat.pow_le_pow_right (by omega) (by omega)
      have hs := num7_step l k hkt
      rw [← ha] at hs
      have hw64 : wrap64 (bt l k : Int) = (bt l k : Int) := by
        have := bt_lt l k
        unfold wrap64; omega
      have HA := Lib.hid ha
      have ha2 : a < 281474976710656 := by omega
      clear ha hlt hp
      go_wp2
      go_round
      case rel => exact ⟨k + 1, num7 l (k + 1), by omega, rfl, by go_num, rfl⟩
      case measure => simp [intOf]; omega
    · obtain rfl : k = 7 := by omega
      subst ha
      go_wp2
      go_ret
      exact ⟨rfl, rfl⟩
/-- an element of a string -/
def elem (p : Int) (s : List UInt8) : Int := (num7 (sha s) 7 : Int) % (p - 1) + 1
set_option maxRecDepth 100000 in
theorem element_walk (p : Int) (s : List UInt8) (w : World) (hp : 2 ≤ p) (hp2 : p < 4294967296) (hs : s.length ≤ 140737488000000) :
    Calls Try.prog 47 #[.int .i64 p, .string ⟨s.toArray⟩] w fun e w' => e = .returned (.int .i64 (elem p s)) ∧ Below w.heap.size w w' := by
  have hsl := sha_length s
  have h7 := num7_lt (sha s) 7
  go_enter Try.func47, Try.ntmps47
  go_wp2_with (go_at_call 34; (with_reducible refine (sum_walk _ _ hs).mono ?_))
  rintro e w1 ⟨rfl, hb1⟩
  obtain ⟨q, hq⟩ : ∃ q, q = p - 1 := ⟨_, rfl⟩
  have hq1 : 1 ≤ q := by omega
  have hq2 : q < 4294967296 := by omega
  obtain rfl : p = q + 1 := by omega
  clear hq
  go_wp2_with (go_at_call 70; (with_reducible refine (number_walk _ _ (by omega)).mono ?_))
  rintro e w2 ⟨rfl, rfl⟩
  have he : elem (q + 1) s = (num7 (sha s) 7 : Int) % q + 1 := by rw [elem, show q + 1 - 1 = q by omega]
  generalize num7 (sha s) 7 = m at *
  have hm1 := Int.emod_nonneg (m : Int) (show q ≠ 0 by omega)
  have hm2 := Int.emod_lt_of_pos (m : Int) (show 0 < q by omega)
  have HE := Lib.hid he
  have hmx : max q 1 = q := by omega
  clear he
  go_wp2
  go_ret
  exact ⟨ret_int HE.out.symm, hb1⟩
set_option maxRecDepth 100000 in
theorem relement_walk (p : Int) (s : List UInt8) (w : World) (hp : 2 ≤ p) (hp2 : p < 4294967296) (hs : s.length ≤ 140737488000000) :
    Calls Try.prog 48 #[.int .i64 p, .string ⟨s.toArray⟩] w fun e w' => e = .returned (.int .i64 (elem p s)) ∧ Below w.heap.size w w' := by
  have hsl := sha_length s
  have h7 := num7_lt (sha s) 7
  go_enter Try.func48, Try.ntmps48
  go_wp2_with (go_at_call 35; (with_reducible refine (rsum_walk _ _ hs).mono ?_))
  rintro e w1 ⟨rfl, hb1⟩
  obtain ⟨q, hq⟩ : ∃ q, q = p - 1 := ⟨_, rfl⟩
  have hq1 : 1 ≤ q := by omega
  have hq2 : q < 4294967296 := by omega
  obtain rfl : p = q + 1 := by omega
  clear hq
  go_wp2_with (go_at_call 71; (with_reducible refine (rnumber_walk _ _ (by omega)).mono ?_))
  rintro e w2 ⟨rfl, rfl⟩
  have he : elem (q + 1) s = (num7 (sha s) 7 : Int) % q + 1 := by rw [elem, show q + 1 - 1 = q by omega]
  generalize num7 (sha s) 7 = m at *
  have hm1 := Int.emod_nonneg (m : Int) (show q ≠ 0 by omega)
  have hm2 := Int.emod_lt_of_pos (m : Int) (show 0 < q by omega)
  have HE := Lib.hid he
  have hmx : max q 1 = q := by omega
  clear he
  go_wp2
  go_ret
  exact ⟨ret_int HE.out.symm, hb1⟩
end Go.Proofs.Ytcppedmcchhhoaa
