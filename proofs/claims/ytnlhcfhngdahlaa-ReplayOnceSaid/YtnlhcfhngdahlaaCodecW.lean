import Derived.Test.YtnlhcfhngdahlaaCodecP
namespace Go.Proofs.Ytnlhcfhngdahlaa
open Go.RowKit

theorem el_u8 : ElemOf Try.prog 39 5 (.int .u8 0) 1 1 := ⟨Try.underlying39, by kernel_rfl, rfl, by decide, by decide⟩

theorem xor_ones {a : Nat} (h : a < 18446744073709551616) : a ^^^ 18446744073709551615 = 18446744073709551615 - a := by
  have h1 : (BitVec.ofNat 64 a ^^^ BitVec.allOnes 64).toNat = (~~~ BitVec.ofNat 64 a).toNat := by rw [BitVec.xor_allOnes]
  rw [BitVec.toNat_xor, BitVec.toNat_not, BitVec.toNat_ofNat, BitVec.toNat_allOnes, Nat.mod_eq_of_lt (by omega)] at h1
  simpa using h1
theorem zig_bits (n : Int) (h1 : -9223372036854775808 ≤ n) (h2 : n ≤ 9223372036854775807) :
    bits BinOp.xor IntKind.u64 (IntKind.u64.wrap (IntKind.u64.wrap n * 2)) (IntKind.u64.wrap (n / 9223372036854775808)) = (zig n : Int) := by
  rw [IntKind.wrap_u64, IntKind.wrap_u64, IntKind.wrap_u64]
  unfold zig
  split
  · rw [show n / 9223372036854775808 % 18446744073709551616 = ((0 : Nat) : Int) by omega, show n % 18446744073709551616 * 2 % 18446744073709551616 = (((2 * n).toNat : Nat) : Int) by omega, bits_xor_u64_nat _ _ (by omega) (by omega)]
    simp
  · rw [show n / 9223372036854775808 % 18446744073709551616 = ((18446744073709551615 : Nat) : Int) by omega, show n % 18446744073709551616 * 2 % 18446744073709551616 = (((18446744073709551616 + 2 * n).toNat : Nat) : Int) by omega, bits_xor_u64_nat _ _ (by omega) (by omega)]
    congr 1
    rw [xor_ones (by omega)]
    omega
theorem or_bits (u : Nat) : bits .or .u8 ((u : Int) % 256) 128 = ((UInt8.ofNat (u % 128 + 128)).toNat : Int) := by
  have h : ∀ x : Fin 256, bits .or .u8 ((x.val : Nat) : Int) 128 = ((UInt8.ofNat (x.val % 128 + 128)).toNat : Int) := by decide +kernel
  have := h ⟨u % 256, by omega⟩
  rw [show (u : Int) % 256 = ((u % 256 : Nat) : Int) by omega, this]
  simp only []
  rw [show u % 256 % 128 = u % 128 by omega]

set_option maxRecDepth 100000 in
set_option maxHeartbeats 400000 in
theorem putInt_walk (b : List UInt8) (n : Int) (w : World) (h1 : -9223372036854775808 ≤ n) (h2 : n ≤ 9223372036854775807) (hb : b.length ≤ 281474976710656) :
    Calls Try.prog 35 #[.string ⟨b.toArray⟩, .int .i64 n] w fun e w' => e = .returned (.string ⟨(b ++ putInt n).toArray⟩) ∧ Below w.heap.size w w' := by
  go_enter Try.func35, Try.ntmps35
  go_wp2_with fail
  rw [zig_bits n h1 h2]
  have hz := zig_lt h1 h2
  go_loopw [5, 6] (fun v u wr => ∃ (pre : List UInt8) (k : Nat) (a : Option Addr) (cap : Nat), v = .slice a pre.length cap ∧ u = .int .u64 (k : Int) ∧ k < 18446744073709551616 ∧ pre ++ vint k = putInt n ∧ Ow wr w.heap.size 1 a pre.length cap (u8s pre) ∧ Below w.heap.size w wr) (fun _ u _ => (intOf u).toNat)
  case atStart => exact ⟨[], zig n, none, 0, rfl, rfl, hz, rfl, Ow.nil _ _ _, Below.refl _ _⟩
  case round =>
    obtain ⟨pre, k, sa, cap, rfl, rfl, hk, hpre, hown, hbel⟩ := hrel
    have hlen := congrArg List.length hpre
    have hpos := vint_pos k
    rw [List.length_append] at hlen
    have hten : (putInt n).length ≤ 10 := vint_ten hz
    have hl : pre.length ≤ 10 := by omega
    have hsz := hbel.size
    clear hlen hpos hten
    have HP := Lib.hid hpre
    have HK := Lib.hid hk
    have HZ := Lib.hid hz
    have HN := Lib.hid (And.intro h1 h2)
    clear hpre hk hz h1 h2
    by_cases hlt : (k : Int) < 128
    · go_wp2_with (at_builtin; refine wpList_app1 (w0 := w) (B := w.heap.size) rfl _ _ _ rfl el_u8 rfl hown hbel (by omega) (by omega) (cs := [_]) rfl rfl (one1 rfl) (by omega) ?_)
      intro a1 cap1 w1 hown1 hbel1 _
      have hc : (k : Int) = ((UInt8.ofNat k).toNat : Int) := by simp; omega
      rw [u8s_snoc _ _ _ hc] at hown1
      have hcv := run_bytes_str (P := Try.prog) w1 39 9 5 Try.underlying39 Try.underlying5 Try.underlying9 (n := pre.length + 1) (c := cap1) (by simp) hown1.rd
      clear hc
      go_wp2
      go_ret
      exact ⟨ret_str (by rw [← HP.out, vint_lt (by omega)]), hbel1⟩
    · go_wp2_with (at_builtin; refine wpList_app1 (w0 := w) (B := w.heap.size) rfl _ _ _ rfl el_u8 rfl hown hbel (by omega) (by omega) (cs := [_]) rfl rfl (one1 rfl) (by omega) ?_)
      intro a1 cap1 w1 hown1 hbel1 _
      rw [or_bits, u8s_snoc _ _ _ rfl] at hown1
      go_wp2
      go_roundw
      case rel => exact ⟨pre ++ [UInt8.ofNat (k % 128 + 128)], k / 128, a1, cap1, by simp, by simp, by have := HK.out; omega, by rw [← HP.out, vint_ge (u := k) (by omega)]; simp, by simpa using hown1, hbel1⟩
      case measure => simp [intOf]; omega
end Go.Proofs.Ytnlhcfhngdahlaa
