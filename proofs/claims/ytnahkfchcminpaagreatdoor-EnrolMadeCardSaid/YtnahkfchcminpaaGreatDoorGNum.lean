/- The first bytes as a number. -/
import Derived.Test.YtnahkfchcminpaaGreatDoorGDigestS
import Derived.Laws.BitsAllLaws
import Derived.Test.YtnahkfchcminpaaGreatDoorCodecP
import Derived.Test.YtnahkfchcminpaaGreatDoorBase
import Derived.Test.YtnahkfchcminpaaGreatDoorGDigestF
import Derived.Test.YtnahkfchcminpaaGreatDoorGDigestE
import Derived.Test.YtnahkfchcminpaaGreatDoorGNoDiv
import Derived.Test.YtnahkfchcminpaaGreatDoorGRowsC
namespace Go.Proofs.YtnahkfchcminpaaGreatDoor
open Go.RowKit
/-- the first n bytes as a number -/
def num7 (l : List UInt8) : Nat → Nat
  | 0 => 0
  | n + 1 => num7 l n * 256 + bt l n
theorem num7_lt (l : List UInt8) (n : Nat) : num7 l n < 256 ^ n := by
  induction n with
  | zero => simp [num7]
  | succ n ih => have := bt_lt l n; rw [num7, Nat.pow_succ]; omega
theorem i64_or_nat (a b : Nat) (ha : a < 9223372036854775808) (hb : b < 9223372036854775808) (hab : a ||| b < 9223372036854775808) : bits .or .i64 (a : Int) (b : Int) = ((a ||| b : Nat) : Int) := by
  have h : IntKind.u64.wrap ((BitVec.ofInt 64 (a : Int) ||| BitVec.ofInt 64 (b : Int)).toNat : Int) = ((a ||| b : Nat) : Int) := u64_or_nat a b (by omega) (by omega)
  rw [IntKind.wrap_u64] at h
  show IntKind.i64.wrap ((BitVec.ofInt 64 (a : Int) ||| BitVec.ofInt 64 (b : Int)).toNat : Int) = _
  rw [IntKind.wrap_i64]
  have := (BitVec.ofInt 64 (a : Int) ||| BitVec.ofInt 64 (b : Int)).isLt
  omega
theorem num7_step (l : List UInt8) (n : Nat) (hn : n < 7) : bits .or .i64 ((num7 l n : Int) * 256) ((bt l n : Nat) : Int) = ((num7 l (n + 1) : Nat) : Int) := by
  have h := num7_lt l n
  have hb := bt_lt l n
  have hp : 256 ^ n ≤ 256 ^ 6 := Nat.pow_le_pow_right (by omega) (by omega)
  have ho : num7 l n * 256 ||| bt l n = num7 l n * 256 + bt l n := by
    have := Nat.two_pow_add_eq_or_of_lt (i := 8) (b := bt l n) hb (num7 l n)
    rw [Nat.mul_comm] at this
    exact this.symm
  have := i64_or_nat (num7 l n * 256) (bt l n) (by omega) (by omega) (by rw [ho]; omega)
  rw [ho] at this
  exact this
end Go.Proofs.YtnahkfchcminpaaGreatDoor
namespace Go.Proofs.YtnahkfchcminpaaGreatDoor
open Go.RowKit

theorem el_u8 : ElemOf Tryz.prog 77 5 (.int .u8 0) 1 1 := ⟨Tryz.underlying77, by kernel_rfl, rfl, by decide, by decide⟩

theorem xor_ones {a : Nat} (h : a < 18446744073709551616) : a ^^^ 18446744073709551615 = 18446744073709551615 - a := by
  have h1 : (BitVec.ofNat 64 a ^^^ BitVec.allOnes 64).toNat = (~~~ BitVec.ofNat 64 a).toNat := by rw [BitVec.xor_allOnes]
  rw [BitVec.toNat_xor, BitVec.toNat_not, BitVec.toNat_ofNat, BitVec.toNat_allOnes, Nat.mod_eq_of_lt (by omega)] at h1
  simpa using h1
theorem zig_bits (n : Int) (h1 : -9223372036854775808 ≤ n) (h2 : n ≤ 9223372036854775807) :
    bits BinOp.xor IntKind.u64 (IntKind.u64.wrap (IntKind.u64.wrap n * 2)) (IntKind.u64.wrap (n / 9223372036854775808)) = (zig n : Int) := by
  rw [IntKind.wrap_u64, IntKind.wrap_u64, IntKind.wrap_u64]
  unfold zig
  split
  · rw [show n / 9223372036854775808 % 18446744073709551616 = ((0 : Nat) : Int) by omega, show n % 18446744073709551616 * 2 % 18446744073709551616 = (((2 * n).toNat : Nat) : Int) by omega, bits_xor_u64_nat _ _ (by omega) (by omega)]
    simp
  · rw [show n / 9223372036854775808 % 18446744073709551616 = ((18446744073709551615 : Nat) : Int) by omega, show n % 18446744073709551616 * 2 % 18446744073709551616 = (((18446744073709551616 + 2 * n).toNat : Nat) : Int) by omega, bits_xor_u64_nat _ _ (by omega) (by omega)]
    congr 1
    rw [xor_ones (by omega)]
    omega
theorem or_bits (u : Nat) : bits .or .u8 ((u : Int) % 256) 128 = ((UInt8.ofNat (u % 128 + 128)).toNat : Int) := by
  have h : ∀ x : Fin 256, bits .or .u8 ((x.val : Nat) : Int) 128 = ((UInt8.ofNat (x.val % 128 + 128)).toNat : Int) := by decide +kernel
  have := h ⟨u % 256, by omega⟩
  rw [show (u : Int) % 256 = ((u % 256 : Nat) : Int) by omega, this]
  simp only []
  rw [show u % 256 % 128 = u % 128 by omega]

set_option maxRecDepth 100000 in
set_option maxHeartbeats 400000 in
theorem putInt_walk (b : List UInt8) (n : Int) (w : World) (h1 : -9223372036854775808 ≤ n) (h2 : n ≤ 9223372036854775807) (hb : b.length ≤ 281474976710656) :
    Calls Tryz.prog 26 #[.string ⟨b.toArray⟩, .int .i64 n] w fun e w' => e = .returned (.string ⟨(b ++ putInt n).toArray⟩) ∧ Below w.heap.size w w' := by
  go_enter Tryz.func26, Tryz.ntmps26
  go_wp2_with fail
  rw [zig_bits n h1 h2]
  have hz := zig_lt h1 h2
  go_loopw [5, 6] (fun v u wr => ∃ (pre : List UInt8) (k : Nat) (a : Option Addr) (cap : Nat), v = .slice a pre.length cap ∧ u = .int .u64 (k : Int) ∧ k < 18446744073709551616 ∧ pre ++ vint k = putInt n ∧ Ow wr w.heap.size 1 a pre.length cap (u8s pre) ∧ Below w.heap.size w wr) (fun _ u _ => (intOf u).toNat)
  case atStart => exact ⟨[], zig n, none, 0, rfl, rfl, hz, rfl, Ow.nil _ _ _, Below.refl _ _⟩
  case round =>
    obtain ⟨pre, k, sa, cap, rfl, rfl, hk, hpre, hown, hbel⟩ := hrel
    have hlen := congrArg List.length hpre
    have hpos := vint_pos k
    rw [List.length_append] at hlen
    have hten : (putInt n).length ≤ 10 := vint_ten hz
    have hl : pre.length ≤ 10 := by omega
    have hsz := hbel.size
    clear hlen hpos hten
    have HP := Lib.hid hpre
    have HK := Lib.hid hk
    have HZ := Lib.hid hz
    have HN := Lib.hid (And.intro h1 h2)
    clear hpre hk hz h1 h2
    by_cases hlt : (k : Int) < 128
    · go_wp2_with (at_builtin; refine wpList_app1 (w0 := w) (B := w.heap.size) rfl _ _ _ rfl el_u8 rfl hown hbel (by omega) (by omega) (cs := [_]) rfl rfl (one1 rfl) (by omega) ?_)
      intro a1 cap1 w1 hown1 hbel1 _
      have hc : (k : Int) = ((UInt8.ofNat k).toNat : Int) := by simp; omega
      rw [u8s_snoc _ _ _ hc] at hown1
      have hcv := run_bytes_str (P := Tryz.prog) w1 77 9 5 Tryz.underlying77 Tryz.underlying5 Tryz.underlying9 (n := pre.length + 1) (c := cap1) (by simp) hown1.rd
      clear hc
      go_wp2
      go_ret
      exact ⟨ret_str (by rw [← HP.out, vint_lt (by omega)]), hbel1⟩
    · go_wp2_with (at_builtin; refine wpList_app1 (w0 := w) (B := w.heap.size) rfl _ _ _ rfl el_u8 rfl hown hbel (by omega) (by omega) (cs := [_]) rfl rfl (one1 rfl) (by omega) ?_)
      intro a1 cap1 w1 hown1 hbel1 _
      rw [or_bits, u8s_snoc _ _ _ rfl] at hown1
      go_wp2
      go_roundw
      case rel => exact ⟨pre ++ [UInt8.ofNat (k % 128 + 128)], k / 128, a1, cap1, by simp, by simp, by have := HK.out; omega, by rw [← HP.out, vint_ge (u := k) (by omega)]; simp, by simpa using hown1, hbel1⟩
      case measure => simp [intOf]; omega
end Go.Proofs.YtnahkfchcminpaaGreatDoor
/- Two texts, one behind the other, as lists. -/
namespace Go.Proofs.YtnahkfchcminpaaGreatDoor
open Go.RowKit
@[go_sem] theorem str_app (a b : List UInt8) : (ByteArray.mk a.toArray) ++ (ByteArray.mk b.toArray) = ByteArray.mk (a ++ b).toArray := by
  apply ByteArray.ext; simp
end Go.Proofs.YtnahkfchcminpaaGreatDoor
/- Numbers of sums: the reference's. -/
namespace Go.Proofs.YtnahkfchcminpaaGreatDoor
open Go.RowKit
set_option maxRecDepth 100000 in
theorem rnumber_walk (l : List UInt8) (w : World) (hl : 7 ≤ l.length) :
    Calls Tryz.prog 70 #[.string ⟨l.toArray⟩] w fun e w' => e = .returned (.int .i64 (num7 l 7 : Int)) ∧ w = w' := by
  go_enter Tryz.func70, Tryz.ntmps70
  go_wp2
  go_loop [3, 4, 5] (fun m _ i => ∃ (k a : Nat), k ≤ 7 ∧ a = num7 l k ∧ i = .int .i64 (k : Int) ∧ m = .int .i64 (a : Int)) (fun _ _ i => 7 - (intOf i).toNat)
  case atStart => exact ⟨0, 0, by omega, rfl, rfl, rfl⟩
  case round =>
    obtain ⟨k, a, hk, ha, rfl, rfl⟩ := hrel
    have hlt := num7_lt l k
    rw [← ha] at hlt
    by_cases hkt : k < 7
    · have hp : 256 ^ k ≤ 256 ^ 6 := Nat.pow_le_pow_right (by omega) (by omega)
      have hs := num7_step l k hkt
      rw [← ha] at hs
      have hw64 : wrap64 (bt l k : Int) = (bt l k : Int) := by
        have := bt_lt l k
        unfold wrap64; omega
      have HA := Lib.hid ha
      have ha2 : a < 281474976710656 := by omega
      clear ha hlt hp
      go_wp2
      go_round
      case rel => exact ⟨k + 1, num7 l (k + 1), by omega, rfl, by go_num, rfl⟩
      case measure => simp [intOf]; omega
    · obtain rfl : k = 7 := by omega
      subst ha
      go_wp2
      go_ret
      exact ⟨rfl, rfl⟩
end Go.Proofs.YtnahkfchcminpaaGreatDoor
/- Numbers and elements of sums: the program's. -/
namespace Go.Proofs.YtnahkfchcminpaaGreatDoor
open Go.RowKit
set_option maxRecDepth 100000 in
theorem number_walk (l : List UInt8) (w : World) (hl : 7 ≤ l.length) :
    Calls Tryz.prog 93 #[.string ⟨l.toArray⟩] w fun e w' => e = .returned (.int .i64 (num7 l 7 : Int)) ∧ w = w' := by
  go_enter Tryz.func93, Tryz.ntmps93
  go_wp2
  go_loop [3, 4, 5] (fun m _ i => ∃ (k a : Nat), k ≤ 7 ∧ a = num7 l k ∧ i = .int .i64 (k : Int) ∧ m = .int .i64 (a : Int)) (fun _ _ i => 7 - (intOf i).toNat)
  case atStart => exact ⟨0, 0, by omega, rfl, rfl, rfl⟩
  case round =>
    obtain ⟨k, a, hk, ha, rfl, rfl⟩ := hrel
    have hlt := num7_lt l k
    rw [← ha] at hlt
    by_cases hkt : k < 7
    · have hp : 256 ^ k ≤ 256 ^ 6 := Nat.pow_le_pow_right (by omega) (by omega)
      have hs := num7_step l k hkt
      rw [← ha] at hs
      have hw64 : wrap64 (bt l k : Int) = (bt l k : Int) := by
        have := bt_lt l k
        unfold wrap64; omega
      have HA := Lib.hid ha
      have ha2 : a < 281474976710656 := by omega
      clear ha hlt hp
      go_wp2
      go_round
      case rel => exact ⟨k + 1, num7 l (k + 1), by omega, rfl, by go_num, rfl⟩
      case measure => simp [intOf]; omega
    · obtain rfl : k = 7 := by omega
      subst ha
      go_wp2
      go_ret
      exact ⟨rfl, rfl⟩
/-- an element of a string -/
def elem (p : Int) (s : List UInt8) : Int := (num7 (sha s) 7 : Int) % (p - 1) + 1
set_option maxRecDepth 100000 in
theorem element_walk (p : Int) (s : List UInt8) (w : World) (hp : 2 ≤ p) (hp2 : p < 4294967296) (hs : s.length ≤ 140737488000000) :
    Calls Tryz.prog 74 #[.int .i64 p, .string ⟨s.toArray⟩] w fun e w' => e = .returned (.int .i64 (elem p s)) ∧ Below w.heap.size w w' := by
  have hsl := sha_length s
  have h7 := num7_lt (sha s) 7
  go_enter Tryz.func74, Tryz.ntmps74
  go_wp2_with (go_at_call 94; (with_reducible refine (sum_walk _ _ hs).mono ?_))
  rintro e w1 ⟨rfl, hb1⟩
  obtain ⟨q, hq⟩ : ∃ q, q = p - 1 := ⟨_, rfl⟩
  have hq1 : 1 ≤ q := by omega
  have hq2 : q < 4294967296 := by omega
  obtain rfl : p = q + 1 := by omega
  clear hq
  go_wp2_with (go_at_call 93; (with_reducible refine (number_walk _ _ (by omega)).mono ?_))
  rintro e w2 ⟨rfl, rfl⟩
  have he : elem (q + 1) s = (num7 (sha s) 7 : Int) % q + 1 := by rw [elem, show q + 1 - 1 = q by omega]
  generalize num7 (sha s) 7 = m at *
  have hm1 := Int.emod_nonneg (m : Int) (show q ≠ 0 by omega)
  have hm2 := Int.emod_lt_of_pos (m : Int) (show 0 < q by omega)
  have HE := Lib.hid he
  have hmx : max q 1 = q := by omega
  clear he
  go_wp2
  go_ret
  exact ⟨ret_int HE.out.symm, hb1⟩
end Go.Proofs.YtnahkfchcminpaaGreatDoor
/- Numbers and elements of sums: the reference's. -/
namespace Go.Proofs.YtnahkfchcminpaaGreatDoor
open Go.RowKit
set_option maxRecDepth 100000 in
theorem relement_walk (p : Int) (s : List UInt8) (w : World) (hp : 2 ≤ p) (hp2 : p < 4294967296) (hs : s.length ≤ 140737488000000) :
    Calls Tryz.prog 53 #[.int .i64 p, .string ⟨s.toArray⟩] w fun e w' => e = .returned (.int .i64 (elem p s)) ∧ Below w.heap.size w w' := by
  have hsl := sha_length s
  have h7 := num7_lt (sha s) 7
  go_enter Tryz.func53, Tryz.ntmps53
  go_wp2_with (go_at_call 71; (with_reducible refine (rsum_walk _ _ hs).mono ?_))
  rintro e w1 ⟨rfl, hb1⟩
  obtain ⟨q, hq⟩ : ∃ q, q = p - 1 := ⟨_, rfl⟩
  have hq1 : 1 ≤ q := by omega
  have hq2 : q < 4294967296 := by omega
  obtain rfl : p = q + 1 := by omega
  clear hq
  go_wp2_with (go_at_call 70; (with_reducible refine (rnumber_walk _ _ (by omega)).mono ?_))
  rintro e w2 ⟨rfl, rfl⟩
  have he : elem (q + 1) s = (num7 (sha s) 7 : Int) % q + 1 := by rw [elem, show q + 1 - 1 = q by omega]
  generalize num7 (sha s) 7 = m at *
  have hm1 := Int.emod_nonneg (m : Int) (show q ≠ 0 by omega)
  have hm2 := Int.emod_lt_of_pos (m : Int) (show 0 < q by omega)
  have HE := Lib.hid he
  have hmx : max q 1 = q := by omega
  clear he
  go_wp2
  go_ret
  exact ⟨ret_int HE.out.symm, hb1⟩
end Go.Proofs.YtnahkfchcminpaaGreatDoor
/- What numbers and texts are written as: the program's, by a call from elsewhere. -/
namespace Go.Proofs.YtnahkfchcminpaaGreatDoor
open Go.RowKit
theorem putInt_ten {n : Int} (h : I64 n) : (putInt n).length ≤ 10 := vint_ten (zig_lt h.1 h.2)
theorem putInt_any (b : List UInt8) (n : Int) (w : World) (h : I64 n) (hb : b.length ≤ 281474976710656) :
    Calls Tryz.prog 26 #[.string ⟨b.toArray⟩, .int .i64 n] w fun e w' => e = .returned (.string ⟨(b ++ putInt n).toArray⟩) ∧ Below w.heap.size w w' := putInt_walk b n w h.1 h.2 hb
theorem putInt_nil (n : Int) (w : World) (h : I64 n) :
    Calls Tryz.prog 26 #[.string ⟨#[]⟩, .int .i64 n] w fun e w' => e = .returned (.string ⟨(putInt n).toArray⟩) ∧ Below w.heap.size w w' := putInt_walk [] n w h.1 h.2 (by simp)
end Go.Proofs.YtnahkfchcminpaaGreatDoor
/- Signatures: the challenge, how one is made, and when it is right. -/
namespace Go.Proofs.YtnahkfchcminpaaGreatDoor
open Go.RowKit
/-- the challenge of a signature -/
def chalF (p : Nat) (r pub : Int) (text : List UInt8) : Nat := (elem (p : Int) (putInt r ++ putInt pub ++ text)).toNat
theorem chalF_eq {p : Nat} (hp : 3 ≤ p) (r pub : Int) (text : List UInt8) : elem (p : Int) (putInt r ++ putInt pub ++ text) = (chalF p r pub text : Int) ∧ chalF p r pub text < p := by
  unfold chalF elem
  have h1 := Int.emod_nonneg ((num7 (sha (putInt r ++ putInt pub ++ text)) 7 : Nat) : Int) (show (p : Int) - 1 ≠ 0 by omega)
  have h2 := Int.emod_lt_of_pos ((num7 (sha (putInt r ++ putInt pub ++ text)) 7 : Nat) : Int) (show (0 : Int) < (p : Int) - 1 by omega)
  generalize ((num7 (sha (putInt r ++ putInt pub ++ text)) 7 : Nat) : Int) % ((p : Int) - 1) = z at *
  omega
set_option maxRecDepth 100000 in
theorem hchal_walk (p : Nat) (r pub : Int) (text : List UInt8) (w : World) (hp : 3 ≤ p) (hp2 : p ≤ 1073741824) (hr : I64 r) (hu : I64 pub) (ht : text.length ≤ 1000000) :
    Calls Tryz.prog 60 #[.int .i64 (p : Int), .int .i64 r, .int .i64 pub, .string ⟨text.toArray⟩] w fun e w' => e = .returned (.int .i64 (chalF p r pub text : Int)) ∧ Below w.heap.size w w' := by
  have l1 := putInt_ten hr
  have l2 := putInt_ten hu
  have k1 : ∀ V, Calls Tryz.prog 26 #[.string ⟨#[]⟩, .int .i64 r] V fun e w' => e = .returned (.string ⟨(putInt r).toArray⟩) ∧ Below V.heap.size V w' := fun V => putInt_nil r V hr
  have k2 : ∀ V, Calls Tryz.prog 26 #[.string ⟨(putInt r).toArray⟩, .int .i64 pub] V fun e w' => e = .returned (.string ⟨(putInt r ++ putInt pub).toArray⟩) ∧ Below V.heap.size V w' := fun V => putInt_any _ pub V hu (by omega)
  have k3 : ∀ V, Calls Tryz.prog 74 #[.int .i64 (p : Int), .string ⟨(putInt r ++ putInt pub ++ text).toArray⟩] V fun e w' => e = .returned (.int .i64 (chalF p r pub text : Int)) ∧ Below V.heap.size V w' := fun V => by
    rw [← (chalF_eq hp r pub text).1]
    exact element_walk p _ V (by omega) (by omega) (by rw [List.length_append, List.length_append]; omega)
  have hl : (putInt r ++ putInt pub).length ≤ 20 := by rw [List.length_append]; omega
  generalize chalF p r pub text = c at *
  generalize putInt r ++ putInt pub = s2 at *
  generalize putInt r = s1 at *
  have K1 := Lib.hid k1
  have K2 := Lib.hid k2
  have K3 := Lib.hid k3
  have hlim : ¬ (9223372036854775807 < s2.length + text.length) := by omega
  clear k1 k2 k3 l1 l2 hl ht
  go_enter Tryz.func60, Tryz.ntmps60
  go_wp2_with (first
    | (go_at_call 26; ((with_reducible refine (K1.out _).mono ?_)); rintro e w1 ⟨rfl, hb1⟩)
    | (go_at_call 26; ((with_reducible refine (K2.out _).mono ?_)); rintro e w2 ⟨rfl, hb2⟩)
    | (go_at_call 74; ((with_reducible refine (K3.out _).mono ?_)); rintro e w3 ⟨rfl, hb3⟩))
  go_ret
  exact ⟨rfl, below_tr (below_tr hb1 hb2) hb3⟩
abbrev sigT : TypeId := 34
abbrev sg (r s : Nat) : Value := .agg #[.int .i64 (r : Int), .int .i64 (s : Int)]
theorem Bx.sig {fn : Func} {t u : Tmp} (h : fn.results = #[.cell t 34, .tmp u]) (tmps : Array Value) {w : World} {g : Nat} {x y : Int} (ht : tmps.getD t undef = .pointer (some ⟨g, 0, none⟩)) (hD : Bx w g 34 [.int .i64 x, .int .i64 y]) :
    (results fn tmps).run Tryz.prog w = .ok (.tuple #[.agg #[.int .i64 x, .int .i64 y], tmps.getD u undef]) w := by
  have c0 := hD.cell 0 rfl
  have c1 := hD.cell 1 rfl
  have ht' : tmps[t]?.getD undef = .pointer (some ⟨g, 0, none⟩) := by simpa using ht
  simp [results, h, ht', go_sem, c0, c1]
theorem below2 {B g : Nat} {w w1 : World} (h : Below B w w1) (hg : B ≤ g) (x y : Value) : Below B w ((w1.setCell ⟨g, 0, none⟩ x).setCell ⟨g, 1, none⟩ y) :=
  (h.setCell (p := ⟨g, 0, none⟩) hg x).setCell (p := ⟨g, 1, none⟩) hg y
/-- the two numbers of a signature -/
def signR (p nonce : Nat) : Nat := gpw p 4 (nonce : Int)
def signS (p key nonce : Nat) (text : List UInt8) : Nat := (nonce + key * chalF p (signR p nonce : Int) (gpw p 4 (key : Int) : Int) text % p) % p
end Go.Proofs.YtnahkfchcminpaaGreatDoor
