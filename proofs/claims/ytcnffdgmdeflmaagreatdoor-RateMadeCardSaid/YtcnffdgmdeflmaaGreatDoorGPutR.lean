/- What numbers and texts are written as: the reference's. -/
import Derived.Test.YtcnffdgmdeflmaaGreatDoorGCodecP
import Derived.Lib.Zigzag
namespace Go.Proofs.YtcnffdgmdeflmaaGreatDoor
open Go.RowKit
theorem zig_neg {n : Int} (hn : I64 n) (h : n < 0) : bits BinOp.xor IntKind.u64 IntKind.u64.max (IntKind.u64.wrap (IntKind.u64.wrap n * 2)) = (zig n : Int) := by
  rw [Lib.zigzag_neg hn.1 h]
  unfold Lib.zigzag zig
  rw [if_neg (by omega)]
theorem zig_pos {n : Int} (hn : I64 n) (h : 0 ≤ n) : IntKind.u64.wrap (IntKind.u64.wrap n * 2) = (zig n : Int) := by
  have h2 := hn.2
  unfold zig
  rw [if_pos (by omega), IntKind.wrap_u64, IntKind.wrap_u64]
  omega

set_option maxRecDepth 100000 in
set_option maxHeartbeats 800000 in
theorem rputInt_walk (b : List UInt8) (n : Int) (w : World) (hn : I64 n) (hb : b.length ≤ 140737488000000) :
    Calls Tryz.prog 75 #[.string ⟨b.toArray⟩, .int .i64 n] w fun e w' => e = .returned (.string ⟨(b ++ putInt n).toArray⟩) ∧ Below w.heap.size w w' := by
  have hcv := Lib.run_convert_string_bytes (P := Tryz.prog) w 9 86 5 ⟨b.toArray⟩ Tryz.underlying9 Tryz.underlying86 Tryz.underlying5
  have hz := zig_lt hn.1 hn.2
  have hw0 := below_bytes w 5 ⟨b.toArray⟩
  have how := Ow.bytes w 5 ⟨b.toArray⟩ (by simp [maxLen, ByteArray.size]; omega)
  have HZ := Lib.hid hz
  clear hz
  have hd : Hid (n < 0) ∨ Hid (0 ≤ n) := by
    by_cases h0 : n < 0
    · exact Or.inl h0
    · exact Or.inr (Int.not_lt.1 h0)
  rcases hd with h0 | h0
  · have h1 := h0.out
    go_enter Tryz.func75, Tryz.ntmps75
    go_wp2_with fail
    rw [zig_neg hn h0.out]
    clear h1 h0
    clear hcv
    go_loopw [5, 6] (fun u v wr => ∃ (L : List UInt8) (k : Nat) (a : Option Addr) (cap : Nat), v = .slice a L.length cap ∧ u = .int .u64 (k : Int) ∧ k < 18446744073709551616 ∧ L ++ vint k = b ++ putInt n ∧ Ow wr w.heap.size 1 a L.length cap (u8s L) ∧ Below w.heap.size w wr) (fun u _ _ => (intOf u).toNat)
    case atStart => exact ⟨b, zig n, _, _, rfl, rfl, HZ.out, rfl, how, hw0⟩
    case round =>
      obtain ⟨L, k, sa, cap, rfl, rfl, hk, hpre, hown, hbel⟩ := hrel
      have hlen := congrArg List.length hpre
      have hpos := vint_pos k
      rw [List.length_append, List.length_append] at hlen
      have hten := putInt_ten hn
      have hl : L.length ≤ 140737488100000 := by omega
      have hsz := hbel.size
      have HP := Lib.hid hpre
      have HK := Lib.hid hk
      clear hpre hk hlen hpos hten how hw0
      by_cases hlt : (k : Int) < 128
      · go_wp2_with (at_builtin; refine wpList_app1 (w0 := w) (B := w.heap.size) rfl _ _ _ rfl el_u8 rfl hown hbel (by omega) (by omega) (cs := [_]) rfl rfl (one1 rfl) (by omega) ?_)
        intro a1 cap1 w1 hown1 hbel1 _
        have hc : (k : Int) = ((UInt8.ofNat k).toNat : Int) := by simp; omega
        rw [u8s_snoc _ _ _ hc] at hown1
        have hcv := run_bytes_str (P := Tryz.prog) w1 86 9 5 Tryz.underlying86 Tryz.underlying5 Tryz.underlying9 (n := L.length + 1) (c := cap1) (by simp) hown1.rd
        clear hc
        go_wp2
        go_ret
        exact ⟨ret_str (by rw [← HP.out, vint_lt (by omega)]), hbel1⟩
      · go_wp2_with (at_builtin; refine wpList_app1 (w0 := w) (B := w.heap.size) rfl _ _ _ rfl el_u8 rfl hown hbel (by omega) (by omega) (cs := [_]) rfl rfl (one1 rfl) (by omega) ?_)
        intro a1 cap1 w1 hown1 hbel1 _
        rw [or_bits, u8s_snoc _ _ _ rfl] at hown1
        go_wp2
        go_roundw
        case rel => exact ⟨L ++ [UInt8.ofNat (k % 128 + 128)], k / 128, a1, cap1, by simp, by simp, by have := HK.out; omega, by rw [← HP.out, vint_ge (u := k) (by omega)]; simp, by simpa using hown1, hbel1⟩
        case measure => simp [intOf]; omega
  · have h1 := h0.out
    go_enter Tryz.func75, Tryz.ntmps75
    go_wp2_with fail
    rw [zig_pos hn h0.out]
    clear h1 h0
    clear hcv
    go_loopw [5, 6] (fun u v wr => ∃ (L : List UInt8) (k : Nat) (a : Option Addr) (cap : Nat), v = .slice a L.length cap ∧ u = .int .u64 (k : Int) ∧ k < 18446744073709551616 ∧ L ++ vint k = b ++ putInt n ∧ Ow wr w.heap.size 1 a L.length cap (u8s L) ∧ Below w.heap.size w wr) (fun u _ _ => (intOf u).toNat)
    case atStart => exact ⟨b, zig n, _, _, rfl, rfl, HZ.out, rfl, how, hw0⟩
    case round =>
      obtain ⟨L, k, sa, cap, rfl, rfl, hk, hpre, hown, hbel⟩ := hrel
      have hlen := congrArg List.length hpre
      have hpos := vint_pos k
      rw [List.length_append, List.length_append] at hlen
      have hten := putInt_ten hn
      have hl : L.length ≤ 140737488100000 := by omega
      have hsz := hbel.size
      have HP := Lib.hid hpre
      have HK := Lib.hid hk
      clear hpre hk hlen hpos hten how hw0
      by_cases hlt : (k : Int) < 128
      · go_wp2_with (at_builtin; refine wpList_app1 (w0 := w) (B := w.heap.size) rfl _ _ _ rfl el_u8 rfl hown hbel (by omega) (by omega) (cs := [_]) rfl rfl (one1 rfl) (by omega) ?_)
        intro a1 cap1 w1 hown1 hbel1 _
        have hc : (k : Int) = ((UInt8.ofNat k).toNat : Int) := by simp; omega
        rw [u8s_snoc _ _ _ hc] at hown1
        have hcv := run_bytes_str (P := Tryz.prog) w1 86 9 5 Tryz.underlying86 Tryz.underlying5 Tryz.underlying9 (n := L.length + 1) (c := cap1) (by simp) hown1.rd
        clear hc
        go_wp2
        go_ret
        exact ⟨ret_str (by rw [← HP.out, vint_lt (by omega)]), hbel1⟩
      · go_wp2_with (at_builtin; refine wpList_app1 (w0 := w) (B := w.heap.size) rfl _ _ _ rfl el_u8 rfl hown hbel (by omega) (by omega) (cs := [_]) rfl rfl (one1 rfl) (by omega) ?_)
        intro a1 cap1 w1 hown1 hbel1 _
        rw [or_bits, u8s_snoc _ _ _ rfl] at hown1
        go_wp2
        go_roundw
        case rel => exact ⟨L ++ [UInt8.ofNat (k % 128 + 128)], k / 128, a1, cap1, by simp, by simp, by have := HK.out; omega, by rw [← HP.out, vint_ge (u := k) (by omega)]; simp, by simpa using hown1, hbel1⟩
        case measure => simp [intOf]; omega

set_option maxRecDepth 100000 in
theorem rputText_walk (b s : List UInt8) (w : World) (hb : b.length ≤ 140737488000000) (hs : s.length ≤ 281474976710656) :
    Calls Tryz.prog 72 #[.string ⟨b.toArray⟩, .string ⟨s.toArray⟩] w fun e w' => e = .returned (.string ⟨(b ++ putText s).toArray⟩) ∧ Below w.heap.size w w' := by
  have ht := putInt_ten (I64.nat hs)
  go_enter Tryz.func72, Tryz.ntmps72
  go_wp2_with (go_at_call 75; refine (rputInt_walk b s.length _ (I64.nat hs) hb).mono ?_; rintro e w1 ⟨rfl, hb1⟩)
  go_ret
  exact ⟨ret_str (by simp [putText]), hb1⟩
end Go.Proofs.YtcnffdgmdeflmaaGreatDoor
/- The reference's lists of numbers as bytes. -/
namespace Go.Proofs.YtcnffdgmdeflmaaGreatDoor
open Go.RowKit
set_option maxRecDepth 100000 in
set_option maxHeartbeats 400000 in
theorem rputInts_walk (b : List UInt8) (la : Option Addr) (lc : Nat) (l : List Int) (w : World) (hb : b.length ≤ 100000000) (hr : Rd w la (ints l)) (hl : l.length ≤ 281474976710656) (hx : ∀ x ∈ l, I64 x) (ht : (putInts l).length ≤ 100000000000) :
    Calls Tryz.prog 73 #[.string ⟨b.toArray⟩, .slice la l.length lc] w fun e w' => e = .returned (.string ⟨(b ++ putInts l).toArray⟩) ∧ Below w.heap.size w w' := by
  have htt : (putInt l.length).length + (l.flatMap putInt).length ≤ 100000000000 := by simpa [putInts] using ht
  clear ht
  go_enter Tryz.func73, Tryz.ntmps73
  go_wp2_with (go_at_call 75; refine (rputInt_walk b l.length _ (I64.nat hl) (by omega)).mono ?_; rintro e w1 ⟨rfl, hb1⟩)
  go_loopw [0, 13] (fun v i wr => ∃ (k : Nat) (L : List UInt8), k ≤ l.length ∧ i = .int .i64 (k : Int) ∧ v = .string ⟨L.toArray⟩ ∧ L = b ++ putInt l.length ++ (l.take k).flatMap putInt ∧ Below w.heap.size w wr) (fun _ i _ => l.length - (intOf i).toNat)
  case atStart => exact ⟨0, _, Nat.zero_le _, rfl, rfl, by simp, hb1⟩
  case round =>
    obtain ⟨k, L, hk, rfl, rfl, hL, hbel⟩ := hrel
    have hrk := hr.keep hbel
    replace hL := Lib.hid hL
    by_cases hlt : k < l.length
    · obtain ⟨g, off, x, rfl, hc, HX⟩ := hrk.int hlt
      have hxi := hx x (mem_at HX)
      have hfl := len_flat putInt l k HX
      have hLl : L.length ≤ 100100000000 := by rw [hL.out, List.length_append, List.length_append]; omega
      clear hfl htt
      go_wp2_with (go_at_call 75; refine (rputInt_walk L x _ hxi (by omega)).mono ?_; rintro e w2 ⟨rfl, hb2⟩)
      go_roundw
      case rel => exact ⟨k + 1, L ++ putInt x, by omega, by go_num, by simp, by rw [take_at HX, hL.out]; simp, below_tr hbel hb2⟩
      case measure => simp [intOf]; omega
    · obtain rfl : k = l.length := by omega
      go_wp2
      go_ret
      exact ⟨ret_str (by rw [hL.out, List.take_length]; simp [putInts]), hbel⟩
end Go.Proofs.YtcnffdgmdeflmaaGreatDoor
