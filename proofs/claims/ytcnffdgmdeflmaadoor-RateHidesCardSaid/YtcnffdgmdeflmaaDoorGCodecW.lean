import Derived.Test.YtcnffdgmdeflmaaDoorCodecP
namespace Go.Proofs.YtcnffdgmdeflmaaDoor
open Go.RowKit

theorem el_u8 : ElemOf Tryd.prog 74 5 (.int .u8 0) 1 1 := ⟨Tryd.underlying74, by kernel_rfl, rfl, by decide, by decide⟩

theorem xor_ones {a : Nat} (h : a < 18446744073709551616) : a ^^^ 18446744073709551615 = 18446744073709551615 - a := by
  have h1 : (BitVec.ofNat 64 a ^^^ BitVec.allOnes 64).toNat = (~~~ BitVec.ofNat 64 a).toNat := by rw [BitVec.xor_allOnes]
  rw [BitVec.toNat_xor, BitVec.toNat_not, BitVec.toNat_ofNat, BitVec.toNat_allOnes, Nat.mod_eq_of_lt (by omega)] at h1
  simpa using h1
theorem zig_bits (n : Int) (h1 : -9223372036854775808 ≤ n) (h2 : n ≤ 9223372036854775807) :
    bits BinOp.xor IntKind.u64 (IntKind.u64.wrap (IntKind.u64.wrap n * 2)) (IntKind.u64.wrap (n / 9223372036854775808)) = (zig n : Int) := by
  rw [IntKind.wrap_u64, IntKind.wrap_u64, IntKind.wrap_u64]
  unfold zig
  split
  · rw [show n / 9223372036854775808 % 18446744073709551616 = ((0 : Nat) : Int) by omega, show n % 18446744073709551616 * 2 % 18446744073709551616 = (((2 * n).toNat : Nat) : Int) by omega, bits_xor_u64_nat _ _ (by omega) (by omega)]
    simp
  · rw [show n / 9223372036854775808 % 18446744073709551616 = ((18446744073709551615 : Nat) : Int) by omega, show n % 18446744073709551616 * 2 % 18446744073709551616 = (((18446744073709551616 + 2 * n).toNat : Nat) : Int) by omega, bits_xor_u64_nat _ _ (by omega) (by omega)]
    congr 1
    rw [xor_ones (by omega)]
    omega
theorem or_bits (u : Nat) : bits .or .u8 ((u : Int) % 256) 128 = ((UInt8.ofNat (u % 128 + 128)).toNat : Int) := by
  have h : ∀ x : Fin 256, bits .or .u8 ((x.val : Nat) : Int) 128 = ((UInt8.ofNat (x.val % 128 + 128)).toNat : Int) := by decide +kernel
  have := h ⟨u % 256, by omega⟩
  rw [show (u : Int) % 256 = ((u % 256 : Nat) : Int) by omega, this]
  simp only []
  rw [show u % 256 % 128 = u % 128 by omega]

set_option maxRecDepth 100000 in
set_option maxHeartbeats 400000 in
theorem putInt_walk (b : List UInt8) (n : Int) (w : World) (h1 : -9223372036854775808 ≤ n) (h2 : n ≤ 9223372036854775807) (hb : b.length ≤ 281474976710656) :
    Calls Tryd.prog 37 #[.string ⟨b.toArray⟩, .int .i64 n] w fun e w' => e = .returned (.string ⟨(b ++ putInt n).toArray⟩) ∧ Below w.heap.size w w' := by
  go_enter Tryd.func37, Tryd.ntmps37
  go_wp2_with fail
  rw [zig_bits n h1 h2]
  have hz := zig_lt h1 h2
  go_loopw [5, 6] (fun v u wr => ∃ (pre : List UInt8) (k : Nat) (a : Option Addr) (cap : Nat), v = .slice a pre.length cap ∧ u = .int .u64 (k : Int) ∧ k < 18446744073709551616 ∧ pre ++ vint k = putInt n ∧ Ow wr w.heap.size 1 a pre.length cap (u8s pre) ∧ Below w.heap.size w wr) (fun _ u _ => (intOf u).toNat)
  case atStart => exact ⟨[], zig n, none, 0, rfl, rfl, hz, rfl, Ow.nil _ _ _, Below.refl _ _⟩
  case round =>
    obtain ⟨pre, k, sa, cap, rfl, rfl, hk, hpre, hown, hbel⟩ := hrel
    have hlen := congrArg List.length hpre
    have hpos := vint_pos k
    rw [List.length_append] at hlen
    have hten : (putInt n).length ≤ 10 := vint_ten hz
    have hl : pre.length ≤ 10 := by omega
    have hsz := hbel.size
    clear hlen hpos hten
    have HP := Lib.hid hpre
    have HK := Lib.hid hk
    have HZ := Lib.hid hz
    have HN := Lib.hid (And.intro h1 h2)
    clear hpre hk hz h1 h2
    by_cases hlt : (k : Int) < 128
    · go_wp2_with (at_builtin; refine wpList_app1 (w0 := w) (B := w.heap.size) rfl _ _ _ rfl el_u8 rfl hown hbel (by omega) (by omega) (cs := [_]) rfl rfl (one1 rfl) (by omega) ?_)
      intro a1 cap1 w1 hown1 hbel1 _
      have hc : (k : Int) = ((UInt8.ofNat k).toNat : Int) := by simp; omega
      rw [u8s_snoc _ _ _ hc] at hown1
      have hcv := run_bytes_str (P := Tryd.prog) w1 74 9 5 Tryd.underlying74 Tryd.underlying5 Tryd.underlying9 (n := pre.length + 1) (c := cap1) (by simp) hown1.rd
      clear hc
      go_wp2
      go_ret
      exact ⟨ret_str (by rw [← HP.out, vint_lt (by omega)]), hbel1⟩
    · go_wp2_with (at_builtin; refine wpList_app1 (w0 := w) (B := w.heap.size) rfl _ _ _ rfl el_u8 rfl hown hbel (by omega) (by omega) (cs := [_]) rfl rfl (one1 rfl) (by omega) ?_)
      intro a1 cap1 w1 hown1 hbel1 _
      rw [or_bits, u8s_snoc _ _ _ rfl] at hown1
      go_wp2
      go_roundw
      case rel => exact ⟨pre ++ [UInt8.ofNat (k % 128 + 128)], k / 128, a1, cap1, by simp, by simp, by have := HK.out; omega, by rw [← HP.out, vint_ge (u := k) (by omega)]; simp, by simpa using hown1, hbel1⟩
      case measure => simp [intOf]; omega
end Go.Proofs.YtcnffdgmdeflmaaDoor
/- What numbers and texts are written as: the program's, by a call from elsewhere. -/
namespace Go.Proofs.YtcnffdgmdeflmaaDoor
open Go.RowKit
theorem putInt_ten {n : Int} (h : I64 n) : (putInt n).length ≤ 10 := vint_ten (zig_lt h.1 h.2)
theorem putInt_any (b : List UInt8) (n : Int) (w : World) (h : I64 n) (hb : b.length ≤ 281474976710656) :
    Calls Tryd.prog 37 #[.string ⟨b.toArray⟩, .int .i64 n] w fun e w' => e = .returned (.string ⟨(b ++ putInt n).toArray⟩) ∧ Below w.heap.size w w' := putInt_walk b n w h.1 h.2 hb
theorem putInt_nil (n : Int) (w : World) (h : I64 n) :
    Calls Tryd.prog 37 #[.string ⟨#[]⟩, .int .i64 n] w fun e w' => e = .returned (.string ⟨(putInt n).toArray⟩) ∧ Below w.heap.size w w' := putInt_walk [] n w h.1 h.2 (by simp)

set_option maxRecDepth 100000 in
set_option maxHeartbeats 400000 in
theorem putText_any (b s : List UInt8) (w : World) (hb : b.length ≤ 281474976710656) (hs : s.length ≤ 281474976710656) :
    Calls Tryd.prog 47 #[.string ⟨b.toArray⟩, .string ⟨s.toArray⟩] w fun e w' => e = .returned (.string ⟨(b ++ putText s).toArray⟩) ∧ Below w.heap.size w w' := by
  have ht := putInt_ten (I64.nat hs)
  go_enter Tryd.func47, Tryd.ntmps47
  go_wp2_with (go_at_call 37; refine (putInt_any b s.length _ (I64.nat hs) hb).mono ?_; rintro e w1 ⟨rfl, hb1⟩)
  go_ret
  exact ⟨ret_str (by simp [putText]), hb1⟩
theorem putText_nil (s : List UInt8) (w : World) (hs : s.length ≤ 281474976710656) :
    Calls Tryd.prog 47 #[.string ⟨#[]⟩, .string ⟨s.toArray⟩] w fun e w' => e = .returned (.string ⟨(putText s).toArray⟩) ∧ Below w.heap.size w w' := putText_any [] s w (by simp) hs
end Go.Proofs.YtcnffdgmdeflmaaDoor
/- What lists of numbers are written as: the program's. -/
namespace Go.Proofs.YtcnffdgmdeflmaaDoor
open Go.RowKit
theorem len_flat {α : Type} (f : α → List UInt8) (l : List α) (k : Nat) {x : α} (h : Hid (l[k]? = some x)) : ((l.take k).flatMap f).length + (f x).length ≤ (l.flatMap f).length := by
  obtain ⟨hk, hx⟩ := List.getElem?_eq_some_iff.1 h.out
  have e : l.flatMap f = (l.take k).flatMap f ++ f x ++ (l.drop (k + 1)).flatMap f := by
    conv => lhs; rw [← List.take_append_drop k l, List.drop_eq_getElem_cons hk, hx]
    simp
  rw [e]; simp

set_option maxRecDepth 100000 in
set_option maxHeartbeats 400000 in
theorem putListI_walk (b : List UInt8) (la : Option Addr) (lc : Nat) (l : List Int) (w : World) (hb : b.length ≤ 281474976710656) (hr : Rd w la (ints l)) (hl : l.length ≤ 281474976710656) (hx : ∀ x ∈ l, I64 x) (ht : (putInts l).length ≤ 140737488355328) :
    Calls Tryd.prog 61 #[.string ⟨b.toArray⟩, .slice la l.length lc, .func (.func 37) #[] #[]] w fun e w' => e = .returned (.string ⟨(b ++ putInts l).toArray⟩) ∧ Below w.heap.size w w' := by
  have htt : (putInt l.length).length + (l.flatMap putInt).length ≤ 140737488355328 := by simpa [putInts] using ht
  clear ht
  go_enter Tryd.func61, Tryd.ntmps61
  go_wp2_with (go_at_call 37; refine (putInt_nil l.length _ (I64.nat hl)).mono ?_; rintro e w1 ⟨rfl, hb1⟩; have hcv := Lib.run_convert_string_bytes (P := Tryd.prog) w1 9 74 5 ⟨(putInt l.length).toArray⟩ Tryd.underlying9 Tryd.underlying74 Tryd.underlying5)
  generalize hs0 : putInt l.length = s0 at *
  have hw0 : Below w.heap.size w (Lib.bytesWorld w1 5 ⟨s0.toArray⟩) := hb1.trans ((below_bytes w1 _ _).mono hb1.size)
  have how := Ow.bytes w1 5 ⟨s0.toArray⟩ (by simp [maxLen, ByteArray.size]; omega)
  have HS := Lib.hid hs0
  clear hs0 hcv
  go_loopw [8, 18] (fun v i wr => ∃ (k : Nat) (L : List UInt8) (a : Option Addr) (cap : Nat), k ≤ l.length ∧ i = .int .i64 (k : Int) ∧ v = .slice a L.length cap ∧ L = s0 ++ (l.take k).flatMap putInt ∧ Ow wr w.heap.size 1 a L.length cap (u8s L) ∧ Below w.heap.size w wr) (fun _ i _ => l.length - (intOf i).toNat)
  case atStart => exact ⟨0, s0, _, _, Nat.zero_le _, rfl, rfl, by simp, how.lower hb1.size, hw0⟩
  case round =>
    obtain ⟨k, L, a, cap, hk, rfl, rfl, hL, hown, hbel⟩ := hrel
    have hsz := hbel.size
    have hrk := hr.keep hbel
    have HL := Lib.hid hL
    clear how hw0 hL
    by_cases hlt : k < l.length
    · obtain ⟨g, off, x, rfl, hc, HX⟩ := hrk.int hlt
      have hxi := hx x (mem_at HX)
      have hfl := len_flat putInt l k HX
      have hLl : L.length + (putInt x).length ≤ 140737488355328 := by rw [HL.out, List.length_append]; omega
      clear hfl htt
      go_wp2_with (first
        | (go_at_call 37; refine (putInt_nil x _ hxi).mono ?_; rintro e w2 ⟨rfl, hb2⟩)
        | (at_builtin; refine wpList_apps (w0 := w) (B := w.heap.size) rfl _ _ _ _ rfl el_u8 rfl (hown.keep hb2) (hbel.trans (hb2.mono hsz)) (Nat.le_refl _) (by have := hb2.size; omega) rfl (Src.str _ Tryd.underlying9 _) (by omega) ?_; intro a3 cap3 w3 hown3 hbel3 _))
      go_roundw
      case rel => exact ⟨k + 1, L ++ putInt x, a3, cap3, by omega, by go_num, by simp, by rw [take_at HX, HL.out]; simp, by simpa [u8s_append] using hown3, hbel3⟩
      case measure => simp [intOf]; omega
    · obtain rfl : k = l.length := by omega
      have hcv := run_bytes_str (P := Tryd.prog) wr 74 9 5 Tryd.underlying74 Tryd.underlying5 Tryd.underlying9 (c := cap) rfl hown.rd
      have hLl : L.length ≤ 140737488355328 := by rw [HL.out, List.length_append, List.take_length]; omega
      go_wp2
      go_ret
      exact ⟨ret_str (by rw [HL.out, List.take_length]; simp [putInts, HS.out]), hbel⟩

theorem putInts_any (b : List UInt8) (la : Option Addr) (lc : Nat) (l : List Int) (w : World) (hb : b.length ≤ 281474976710656) (hr : Rd w la (ints l)) (hl : l.length ≤ 281474976710656) (hx : ∀ x ∈ l, I64 x) (ht : (putInts l).length ≤ 140737488355328) :
    Calls Tryd.prog 48 #[.string ⟨b.toArray⟩, .slice la l.length lc] w fun e w' => e = .returned (.string ⟨(b ++ putInts l).toArray⟩) ∧ Below w.heap.size w w' := by
  go_enter Tryd.func48, Tryd.ntmps48
  go_wp2_with (go_at_call 61; refine (putListI_walk b la lc l _ hb hr hl hx ht).mono ?_; rintro e w1 ⟨rfl, hb1⟩)
  go_ret
  exact ⟨rfl, hb1⟩
end Go.Proofs.YtcnffdgmdeflmaaDoor
