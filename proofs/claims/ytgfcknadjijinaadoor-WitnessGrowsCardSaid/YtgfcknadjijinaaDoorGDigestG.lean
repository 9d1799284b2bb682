/- Four bytes, pairs, lists, numbers of sums: the program's and the reference's. -/
import Derived.Test.YtgfcknadjijinaaDoorGDigestF
import Derived.Laws.BitsAllLaws
namespace Go.Proofs.YtgfcknadjijinaaDoor
open Go.RowKit
def pairL (a b : List UInt8) : List UInt8 := sha ([1] ++ wbytes a.length ++ a ++ wbytes b.length ++ b)
/-- what stands of the first n strings -/
def listB (l : List (List UInt8)) (n : Nat) : List UInt8 := (l.take n).flatMap fun s => wbytes s.length ++ s
def listL (l : List (List UInt8)) : List UInt8 := sha ([2] ++ wbytes l.length ++ listB l l.length)
@[go_sem] theorem str_app (a b : List UInt8) : (ByteArray.mk a.toArray) ++ (ByteArray.mk b.toArray) = ByteArray.mk (a ++ b).toArray := by
  apply ByteArray.ext; simp
theorem wbytes_length (x : Int) : (wbytes x).length = 4 := rfl
theorem new_u8s {w : World} {t : TypeId} (Q : World → Prop) (xs : List UInt8) (h : ∀ w', Below w.heap.size w w' → Rd w' (some ⟨w.heap.size, 0, none⟩) (u8s xs) → Q w') : Q (w.alloc (.cells (u8s xs).toArray t)) :=
  h _ ((Below.refl _ _).alloc (Nat.le_refl _) _) (Rd.mk fun j u hj => by rw [Nat.zero_add, World.cell?_alloc_at _ _ _ _ rfl]; simpa using hj)
set_option maxRecDepth 100000 in
theorem four_walk (n : Int) (w : World) (hn : I64 n) :
    Calls Tryd.prog 89 #[.int .i64 n] w fun e w' => e = .returned (.string ⟨(wbytes n).toArray⟩) ∧ Below w.heap.size w w' := by
  have hn1 := hn.1
  have hn2 := hn.2
  have hw : Rd (w.alloc (.cells #[.int .u8 (n / 16777216 % 256), .int .u8 (n / 65536 % 256), .int .u8 (n / 256 % 256), .int .u8 (n % 256)] 5)) (some ⟨w.heap.size, 0, none⟩) (u8s (wbytes n)) := by
    rw [u8s_wbytes]
    exact Rd.mk fun j u hj => by rw [Nat.zero_add, World.cell?_alloc_at _ _ _ _ rfl]; simpa using hj
  have hb := (Below.refl w.heap.size w).alloc (Nat.le_refl _) (.cells #[.int .u8 (n / 16777216 % 256), .int .u8 (n / 65536 % 256), .int .u8 (n / 256 % 256), .int .u8 (n % 256)] 5)
  have hcv := run_bytes_str (P := Tryd.prog) _ 87 9 5 Tryd.underlying87 Tryd.underlying5 Tryd.underlying9 (n := 4) (c := 4) rfl hw
  go_enter Tryd.func89, Tryd.ntmps89
  clear hw hn1 hn2
  go_wp2
  go_ret
  exact ⟨rfl, hb⟩
set_option maxRecDepth 100000 in
theorem rfour_walk (n : Int) (w : World) (hn : I64 n) :
    Calls Tryd.prog 75 #[.int .i64 n] w fun e w' => e = .returned (.string ⟨(wbytes n).toArray⟩) ∧ Below w.heap.size w w' := by
  have hn1 := hn.1
  have hn2 := hn.2
  have hw : Rd (w.alloc (.cells #[.int .u8 (n / 16777216 % 256), .int .u8 (n / 65536 % 256), .int .u8 (n / 256 % 256), .int .u8 (n % 256)] 5)) (some ⟨w.heap.size, 0, none⟩) (u8s (wbytes n)) := by
    rw [u8s_wbytes]
    exact Rd.mk fun j u hj => by rw [Nat.zero_add, World.cell?_alloc_at _ _ _ _ rfl]; simpa using hj
  have hb := (Below.refl w.heap.size w).alloc (Nat.le_refl _) (.cells #[.int .u8 (n / 16777216 % 256), .int .u8 (n / 65536 % 256), .int .u8 (n / 256 % 256), .int .u8 (n % 256)] 5)
  have hcv := run_bytes_str (P := Tryd.prog) _ 87 9 5 Tryd.underlying87 Tryd.underlying5 Tryd.underlying9 (n := 4) (c := 4) rfl hw
  go_enter Tryd.func75, Tryd.ntmps75
  clear hw hn1 hn2
  go_wp2
  go_ret
  exact ⟨rfl, hb⟩
set_option maxRecDepth 100000 in
theorem pair_walk (a b : List UInt8) (w : World) (h : a.length + b.length ≤ 140737487000000) :
    Calls Tryd.prog 80 #[.string ⟨a.toArray⟩, .string ⟨b.toArray⟩] w fun e w' => e = .returned (.string ⟨(pairL a b).toArray⟩) ∧ Below w.heap.size w w' := by
  have hwa := wbytes_length (a.length : Int)
  have hwb := wbytes_length (b.length : Int)
  go_enter Tryd.func80, Tryd.ntmps80
  go_wp2_with (go_at_call 89; (with_reducible refine (four_walk _ _ (I64.nat (by omega))).mono ?_))
  rintro e w1 ⟨rfl, hb1⟩
  go_wp2_with (go_at_call 89; (with_reducible refine (four_walk _ _ (I64.nat (by omega))).mono ?_))
  rintro e w2 ⟨rfl, hb2⟩
  go_wp2_with (go_at_call 84; (with_reducible refine (sum_walk _ _ ?hl).mono ?_))
  case hl => simp [wbytes_length]; omega
  rintro e w3 ⟨rfl, hb3⟩
  go_wp2
  go_ret
  refine ⟨ret_str ?_, ?_⟩
  · rw [pairL]; try simp only [List.append_assoc, List.cons_append, List.nil_append]
  exact below_tr (below_tr hb1 hb2) hb3
set_option maxRecDepth 100000 in
theorem rpair_walk (a b : List UInt8) (w : World) (h : a.length + b.length ≤ 140737487000000) :
    Calls Tryd.prog 59 #[.string ⟨a.toArray⟩, .string ⟨b.toArray⟩] w fun e w' => e = .returned (.string ⟨(pairL a b).toArray⟩) ∧ Below w.heap.size w w' := by
  have hwa := wbytes_length (a.length : Int)
  have hwb := wbytes_length (b.length : Int)
  go_enter Tryd.func59, Tryd.ntmps59
  go_wp2_with (go_at_call 75; (with_reducible refine (rfour_walk _ _ (I64.nat (by omega))).mono ?_))
  rintro e w1 ⟨rfl, hb1⟩
  go_wp2_with (go_at_call 75; (with_reducible refine (rfour_walk _ _ (I64.nat (by omega))).mono ?_))
  rintro e w2 ⟨rfl, hb2⟩
  go_wp2_with (go_at_call 27; (with_reducible refine (rsum_walk _ _ ?hl).mono ?_))
  case hl => simp [wbytes_length]; omega
  rintro e w3 ⟨rfl, hb3⟩
  go_wp2
  go_ret
  refine ⟨ret_str ?_, ?_⟩
  · rw [pairL]; try simp only [List.append_assoc, List.cons_append, List.nil_append]
  exact below_tr (below_tr hb1 hb2) hb3
end Go.Proofs.YtgfcknadjijinaaDoor
/- The first bytes as a number. -/
namespace Go.Proofs.YtgfcknadjijinaaDoor
open Go.RowKit
/-- the first n bytes as a number -/
def num7 (l : List UInt8) : Nat → Nat
  | 0 => 0
  | n + 1 => num7 l n * 256 + bt l n
theorem num7_lt (l : List UInt8) (n : Nat) : num7 l n < 256 ^ n := by
  induction n with
  | zero => simp [num7]
  | succ n ih => have := bt_lt l n; rw [num7, Nat.pow_succ]; omega
theorem i64_or_nat (a b : Nat) (ha : a < 9223372036854775808) (hb : b < 9223372036854775808) (hab : a ||| b < 9223372036854775808) : bits .or .i64 (a : Int) (b : Int) = ((a ||| b : Nat) : Int) := by
  have h : IntKind.u64.wrap ((BitVec.ofInt 64 (a : Int) ||| BitVec.ofInt 64 (b : Int)).toNat : Int) = ((a ||| b : Nat) : Int) := u64_or_nat a b (by omega) (by omega)
  rw [IntKind.wrap_u64] at h
  show IntKind.i64.wrap ((BitVec.ofInt 64 (a : Int) ||| BitVec.ofInt 64 (b : Int)).toNat : Int) = _
  rw [IntKind.wrap_i64]
  have := (BitVec.ofInt 64 (a : Int) ||| BitVec.ofInt 64 (b : Int)).isLt
  omega
theorem num7_step (l : List UInt8) (n : Nat) (hn : n < 7) : bits .or .i64 ((num7 l n : Int) * 256) ((bt l n : Nat) : Int) = ((num7 l (n + 1) : Nat) : Int) := by
  have h := num7_lt l n
  have hb := bt_lt l n
  have hp : 256 ^ n ≤ 256 ^ 6 := Nat.pow_le_pow_right (by omega) (by omega)
  have ho : num7 l n * 256 ||| bt l n = num7 l n * 256 + bt l n := by
    have := Nat.two_pow_add_eq_or_of_lt (i := 8) (b := bt l n) hb (num7 l n)
    rw [Nat.mul_comm] at this
    exact this.symm
  have := i64_or_nat (num7 l n * 256) (bt l n) (by omega) (by omega) (by rw [ho]; omega)
  rw [ho] at this
  exact this
end Go.Proofs.YtgfcknadjijinaaDoor
/- Numbers of sums, elements, lists, digits: the program's and the reference's. -/
namespace Go.Proofs.YtgfcknadjijinaaDoor
open Go.RowKit
set_option maxRecDepth 100000 in
theorem number_walk (l : List UInt8) (w : World) (hl : 7 ≤ l.length) :
    Calls Tryd.prog 83 #[.string ⟨l.toArray⟩] w fun e w' => e = .returned (.int .i64 (num7 l 7 : Int)) ∧ w = w' := by
  go_enter Tryd.func83, Tryd.ntmps83
  go_wp2
  go_loop [3, 4, 5] (fun m _ i => ∃ (k a : Nat), k ≤ 7 ∧ a = num7 l k ∧ i = .int .i64 (k : Int) ∧ m = .int .i64 (a : Int)) (fun _ _ i => 7 - (intOf i).toNat)
  case atStart => exact ⟨0, 0, by omega, rfl, rfl, rfl⟩
  case round =>
    obtain ⟨k, a, hk, ha, rfl, rfl⟩ := hrel
    have hlt := num7_lt l k
    rw [← ha] at hlt
    by_cases hkt : k < 7
    · have hp : 256 ^ k ≤ 256 ^ 6 := Nat.pow_le_pow_right (by omega) (by omega)
      have hs := num7_step l k hkt
      rw [← ha] at hs
      have hw64 : wrap64 (bt l k : Int) = (bt l k : Int) := by
        have := bt_lt l k
        unfold wrap64; omega
      have HA := Lib.hid ha
      have ha2 : a < 281474976710656 := by omega
      clear ha hlt hp
      go_wp2
      go_round
      case rel => exact ⟨k + 1, num7 l (k + 1), by omega, rfl, by go_num, rfl⟩
      case measure => simp [intOf]; omega
    · obtain rfl : k = 7 := by omega
      subst ha
      go_wp2
      go_ret
      exact ⟨rfl, rfl⟩
set_option maxRecDepth 100000 in
theorem rnumber_walk (l : List UInt8) (w : World) (hl : 7 ≤ l.length) :
    Calls Tryd.prog 95 #[.string ⟨l.toArray⟩] w fun e w' => e = .returned (.int .i64 (num7 l 7 : Int)) ∧ w = w' := by
  go_enter Tryd.func95, Tryd.ntmps95
  go_wp2
  go_loop [3, 4, 5] (fun m _ i => ∃ (k a : Nat), k ≤ 7 ∧ a = num7 l k ∧ i = .int .i64 (k : Int) ∧ m = .int .i64 (a : Int)) (fun _ _ i => 7 - (intOf i).toNat)
  case atStart => exact ⟨0, 0, by omega, rfl, rfl, rfl⟩
  case round =>
    obtain ⟨k, a, hk, ha, rfl, rfl⟩ := hrel
    have hlt := num7_lt l k
    rw [← ha] at hlt
    by_cases hkt : k < 7
    · have hp : 256 ^ k ≤ 256 ^ 6 := Nat.pow_le_pow_right (by omega) (by omega)
      have hs := num7_step l k hkt
      rw [← ha] at hs
      have hw64 : wrap64 (bt l k : Int) = (bt l k : Int) := by
        have := bt_lt l k
        unfold wrap64; omega
      have HA := Lib.hid ha
      have ha2 : a < 281474976710656 := by omega
      clear ha hlt hp
      go_wp2
      go_round
      case rel => exact ⟨k + 1, num7 l (k + 1), by omega, rfl, by go_num, rfl⟩
      case measure => simp [intOf]; omega
    · obtain rfl : k = 7 := by omega
      subst ha
      go_wp2
      go_ret
      exact ⟨rfl, rfl⟩
/-- an element of a string -/
def elem (p : Int) (s : List UInt8) : Int := (num7 (sha s) 7 : Int) % (p - 1) + 1
set_option maxRecDepth 100000 in
theorem element_walk (p : Int) (s : List UInt8) (w : World) (hp : 2 ≤ p) (hp2 : p < 4294967296) (hs : s.length ≤ 140737488000000) :
    Calls Tryd.prog 66 #[.int .i64 p, .string ⟨s.toArray⟩] w fun e w' => e = .returned (.int .i64 (elem p s)) ∧ Below w.heap.size w w' := by
  have hsl := sha_length s
  have h7 := num7_lt (sha s) 7
  go_enter Tryd.func66, Tryd.ntmps66
  go_wp2_with (go_at_call 84; (with_reducible refine (sum_walk _ _ hs).mono ?_))
  rintro e w1 ⟨rfl, hb1⟩
  obtain ⟨q, hq⟩ : ∃ q, q = p - 1 := ⟨_, rfl⟩
  have hq1 : 1 ≤ q := by omega
  have hq2 : q < 4294967296 := by omega
  obtain rfl : p = q + 1 := by omega
  clear hq
  go_wp2_with (go_at_call 83; (with_reducible refine (number_walk _ _ (by omega)).mono ?_))
  rintro e w2 ⟨rfl, rfl⟩
  have he : elem (q + 1) s = (num7 (sha s) 7 : Int) % q + 1 := by rw [elem, show q + 1 - 1 = q by omega]
  generalize num7 (sha s) 7 = m at *
  have hm1 := Int.emod_nonneg (m : Int) (show q ≠ 0 by omega)
  have hm2 := Int.emod_lt_of_pos (m : Int) (show 0 < q by omega)
  have HE := Lib.hid he
  have hmx : max q 1 = q := by omega
  clear he
  go_wp2
  go_ret
  exact ⟨ret_int HE.out.symm, hb1⟩
set_option maxRecDepth 100000 in
theorem relement_walk (p : Int) (s : List UInt8) (w : World) (hp : 2 ≤ p) (hp2 : p < 4294967296) (hs : s.length ≤ 140737488000000) :
    Calls Tryd.prog 86 #[.int .i64 p, .string ⟨s.toArray⟩] w fun e w' => e = .returned (.int .i64 (elem p s)) ∧ Below w.heap.size w w' := by
  have hsl := sha_length s
  have h7 := num7_lt (sha s) 7
  go_enter Tryd.func86, Tryd.ntmps86
  go_wp2_with (go_at_call 27; (with_reducible refine (rsum_walk _ _ hs).mono ?_))
  rintro e w1 ⟨rfl, hb1⟩
  obtain ⟨q, hq⟩ : ∃ q, q = p - 1 := ⟨_, rfl⟩
  have hq1 : 1 ≤ q := by omega
  have hq2 : q < 4294967296 := by omega
  obtain rfl : p = q + 1 := by omega
  clear hq
  go_wp2_with (go_at_call 95; (with_reducible refine (rnumber_walk _ _ (by omega)).mono ?_))
  rintro e w2 ⟨rfl, rfl⟩
  have he : elem (q + 1) s = (num7 (sha s) 7 : Int) % q + 1 := by rw [elem, show q + 1 - 1 = q by omega]
  generalize num7 (sha s) 7 = m at *
  have hm1 := Int.emod_nonneg (m : Int) (show q ≠ 0 by omega)
  have hm2 := Int.emod_lt_of_pos (m : Int) (show 0 < q by omega)
  have HE := Lib.hid he
  have hmx : max q 1 = q := by omega
  clear he
  go_wp2
  go_ret
  exact ⟨ret_int HE.out.symm, hb1⟩
end Go.Proofs.YtgfcknadjijinaaDoor
