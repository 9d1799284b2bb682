/- What numbers and texts are written as: the reference's. -/
import Derived.Test.YtbjpmkoiabkcbaaGreatDoorGCodecP
import Derived.Lib.Zigzag
import Derived.Test.YtbjpmkoiabkcbaaGreatDoorGRPow
import Derived.Test.YtbjpmkoiabkcbaaGreatDoorGRateC
import Derived.Test.YtbjpmkoiabkcbaaGreatDoorGNum
namespace Go.Proofs.YtbjpmkoiabkcbaaGreatDoor
open Go.RowKit
theorem zig_neg {n : Int} (hn : I64 n) (h : n < 0) : bits BinOp.xor IntKind.u64 IntKind.u64.max (IntKind.u64.wrap (IntKind.u64.wrap n * 2)) = (zig n : Int) := by
  rw [Lib.zigzag_neg hn.1 h]
  unfold Lib.zigzag zig
  rw [if_neg (by omega)]
theorem zig_pos {n : Int} (hn : I64 n) (h : 0 ≤ n) : IntKind.u64.wrap (IntKind.u64.wrap n * 2) = (zig n : Int) := by
  have h2 := hn.2
  unfold zig
  rw [if_pos (by omega), IntKind.wrap_u64, IntKind.wrap_u64]
  omega

set_option maxRecDepth 100000 in
set_option maxHeartbeats 800000 in
theorem rputInt_walk (b : List UInt8) (n : Int) (w : World) (hn : I64 n) (hb : b.length ≤ 140737488000000) :
    Calls Tryz.prog 45 #[.string ⟨b.toArray⟩, .int .i64 n] w fun e w' => e = .returned (.string ⟨(b ++ putInt n).toArray⟩) ∧ Below w.heap.size w w' := by
  have hcv := Lib.run_convert_string_bytes (P := Tryz.prog) w 9 65 5 ⟨b.toArray⟩ Tryz.underlying9 Tryz.underlying65 Tryz.underlying5
  have hz := zig_lt hn.1 hn.2
  have hw0 := below_bytes w 5 ⟨b.toArray⟩
  have how := Ow.bytes w 5 ⟨b.toArray⟩ (by simp [maxLen, ByteArray.size]; omega)
  have HZ := Lib.hid hz
  clear hz
  have hd : Hid (n < 0) ∨ Hid (0 ≤ n) := by
    by_cases h0 : n < 0
    · exact Or.inl h0
    · exact Or.inr (Int.not_lt.1 h0)
  rcases hd with h0 | h0
  · have h1 := h0.out
    go_enter Tryz.func45, Tryz.ntmps45
    go_wp2_with fail
    rw [zig_neg hn h0.out]
    clear h1 h0
    clear hcv
    go_loopw [5, 6] (fun u v wr => ∃ (L : List UInt8) (k : Nat) (a : Option Addr) (cap : Nat), v = .slice a L.length cap ∧ u = .int .u64 (k : Int) ∧ k < 18446744073709551616 ∧ L ++ vint k = b ++ putInt n ∧ Ow wr w.heap.size 1 a L.length cap (u8s L) ∧ Below w.heap.size w wr) (fun u _ _ => (intOf u).toNat)
    case atStart => exact ⟨b, zig n, _, _, rfl, rfl, HZ.out, rfl, how, hw0⟩
    case round =>
      obtain ⟨L, k, sa, cap, rfl, rfl, hk, hpre, hown, hbel⟩ := hrel
      have hlen := congrArg List.length hpre
      have hpos := vint_pos k
      rw [List.length_append, List.length_append] at hlen
      have hten := putInt_ten hn
      have hl : L.length ≤ 140737488100000 := by omega
      have hsz := hbel.size
      have HP := Lib.hid hpre
      have HK := Lib.hid hk
      clear hpre hk hlen hpos hten how hw0
      by_cases hlt : (k : Int) < 128
      · go_wp2_with (at_builtin; refine wpList_app1 (w0 := w) (B := w.heap.size) rfl _ _ _ rfl el_u8 rfl hown hbel (by omega) (by omega) (cs := [_]) rfl rfl (one1 rfl) (by omega) ?_)
        intro a1 cap1 w1 hown1 hbel1 _
        have hc : (k : Int) = ((UInt8.ofNat k).toNat : Int) := by simp; omega
        rw [u8s_snoc _ _ _ hc] at hown1
        have hcv := run_bytes_str (P := Tryz.prog) w1 65 9 5 Tryz.underlying65 Tryz.underlying5 Tryz.underlying9 (n := L.length + 1) (c := cap1) (by simp) hown1.rd
        clear hc
        go_wp2
        go_ret
        exact ⟨ret_str (by rw [← HP.out, vint_lt (by omega)]), hbel1⟩
      · go_wp2_with (at_builtin; refine wpList_app1 (w0 := w) (B := w.heap.size) rfl _ _ _ rfl el_u8 rfl hown hbel (by omega) (by omega) (cs := [_]) rfl rfl (one1 rfl) (by omega) ?_)
        intro a1 cap1 w1 hown1 hbel1 _
        rw [or_bits, u8s_snoc _ _ _ rfl] at hown1
        go_wp2
        go_roundw
        case rel => exact ⟨L ++ [UInt8.ofNat (k % 128 + 128)], k / 128, a1, cap1, by simp, by simp, by have := HK.out; omega, by rw [← HP.out, vint_ge (u := k) (by omega)]; simp, by simpa using hown1, hbel1⟩
        case measure => simp [intOf]; omega
  · have h1 := h0.out
    go_enter Tryz.func45, Tryz.ntmps45
    go_wp2_with fail
    rw [zig_pos hn h0.out]
    clear h1 h0
    clear hcv
    go_loopw [5, 6] (fun u v wr => ∃ (L : List UInt8) (k : Nat) (a : Option Addr) (cap : Nat), v = .slice a L.length cap ∧ u = .int .u64 (k : Int) ∧ k < 18446744073709551616 ∧ L ++ vint k = b ++ putInt n ∧ Ow wr w.heap.size 1 a L.length cap (u8s L) ∧ Below w.heap.size w wr) (fun u _ _ => (intOf u).toNat)
    case atStart => exact ⟨b, zig n, _, _, rfl, rfl, HZ.out, rfl, how, hw0⟩
    case round =>
      obtain ⟨L, k, sa, cap, rfl, rfl, hk, hpre, hown, hbel⟩ := hrel
      have hlen := congrArg List.length hpre
      have hpos := vint_pos k
      rw [List.length_append, List.length_append] at hlen
      have hten := putInt_ten hn
      have hl : L.length ≤ 140737488100000 := by omega
      have hsz := hbel.size
      have HP := Lib.hid hpre
      have HK := Lib.hid hk
      clear hpre hk hlen hpos hten how hw0
      by_cases hlt : (k : Int) < 128
      · go_wp2_with (at_builtin; refine wpList_app1 (w0 := w) (B := w.heap.size) rfl _ _ _ rfl el_u8 rfl hown hbel (by omega) (by omega) (cs := [_]) rfl rfl (one1 rfl) (by omega) ?_)
        intro a1 cap1 w1 hown1 hbel1 _
        have hc : (k : Int) = ((UInt8.ofNat k).toNat : Int) := by simp; omega
        rw [u8s_snoc _ _ _ hc] at hown1
        have hcv := run_bytes_str (P := Tryz.prog) w1 65 9 5 Tryz.underlying65 Tryz.underlying5 Tryz.underlying9 (n := L.length + 1) (c := cap1) (by simp) hown1.rd
        clear hc
        go_wp2
        go_ret
        exact ⟨ret_str (by rw [← HP.out, vint_lt (by omega)]), hbel1⟩
      · go_wp2_with (at_builtin; refine wpList_app1 (w0 := w) (B := w.heap.size) rfl _ _ _ rfl el_u8 rfl hown hbel (by omega) (by omega) (cs := [_]) rfl rfl (one1 rfl) (by omega) ?_)
        intro a1 cap1 w1 hown1 hbel1 _
        rw [or_bits, u8s_snoc _ _ _ rfl] at hown1
        go_wp2
        go_roundw
        case rel => exact ⟨L ++ [UInt8.ofNat (k % 128 + 128)], k / 128, a1, cap1, by simp, by simp, by have := HK.out; omega, by rw [← HP.out, vint_ge (u := k) (by omega)]; simp, by simpa using hown1, hbel1⟩
        case measure => simp [intOf]; omega

set_option maxRecDepth 100000 in
theorem rputText_walk (b s : List UInt8) (w : World) (hb : b.length ≤ 140737488000000) (hs : s.length ≤ 281474976710656) :
    Calls Tryz.prog 64 #[.string ⟨b.toArray⟩, .string ⟨s.toArray⟩] w fun e w' => e = .returned (.string ⟨(b ++ putText s).toArray⟩) ∧ Below w.heap.size w w' := by
  have ht := putInt_ten (I64.nat hs)
  go_enter Tryz.func64, Tryz.ntmps64
  go_wp2_with (go_at_call 45; refine (rputInt_walk b s.length _ (I64.nat hs) hb).mono ?_; rintro e w1 ⟨rfl, hb1⟩)
  go_ret
  exact ⟨ret_str (by simp [putText]), hb1⟩
end Go.Proofs.YtbjpmkoiabkcbaaGreatDoor
/- The reference's lists of numbers as bytes. -/
namespace Go.Proofs.YtbjpmkoiabkcbaaGreatDoor
open Go.RowKit
set_option maxRecDepth 100000 in
set_option maxHeartbeats 400000 in
theorem rputInts_walk (b : List UInt8) (la : Option Addr) (lc : Nat) (l : List Int) (w : World) (hb : b.length ≤ 100000000) (hr : Rd w la (ints l)) (hl : l.length ≤ 281474976710656) (hx : ∀ x ∈ l, I64 x) (ht : (putInts l).length ≤ 100000000000) :
    Calls Tryz.prog 65 #[.string ⟨b.toArray⟩, .slice la l.length lc] w fun e w' => e = .returned (.string ⟨(b ++ putInts l).toArray⟩) ∧ Below w.heap.size w w' := by
  have htt : (putInt l.length).length + (l.flatMap putInt).length ≤ 100000000000 := by simpa [putInts] using ht
  clear ht
  go_enter Tryz.func65, Tryz.ntmps65
  go_wp2_with (go_at_call 45; refine (rputInt_walk b l.length _ (I64.nat hl) (by omega)).mono ?_; rintro e w1 ⟨rfl, hb1⟩)
  go_loopw [0, 13] (fun v i wr => ∃ (k : Nat) (L : List UInt8), k ≤ l.length ∧ i = .int .i64 (k : Int) ∧ v = .string ⟨L.toArray⟩ ∧ L = b ++ putInt l.length ++ (l.take k).flatMap putInt ∧ Below w.heap.size w wr) (fun _ i _ => l.length - (intOf i).toNat)
  case atStart => exact ⟨0, _, Nat.zero_le _, rfl, rfl, by simp, hb1⟩
  case round =>
    obtain ⟨k, L, hk, rfl, rfl, hL, hbel⟩ := hrel
    have hrk := hr.keep hbel
    replace hL := Lib.hid hL
    by_cases hlt : k < l.length
    · obtain ⟨g, off, x, rfl, hc, HX⟩ := hrk.int hlt
      have hxi := hx x (mem_at HX)
      have hfl := len_flat putInt l k HX
      have hLl : L.length ≤ 100100000000 := by rw [hL.out, List.length_append, List.length_append]; omega
      clear hfl htt
      go_wp2_with (go_at_call 45; refine (rputInt_walk L x _ hxi (by omega)).mono ?_; rintro e w2 ⟨rfl, hb2⟩)
      go_roundw
      case rel => exact ⟨k + 1, L ++ putInt x, by omega, by go_num, by simp, by rw [take_at HX, hL.out]; simp, below_tr hbel hb2⟩
      case measure => simp [intOf]; omega
    · obtain rfl : k = l.length := by omega
      go_wp2
      go_ret
      exact ⟨ret_str (by rw [hL.out, List.take_length]; simp [putInts]), hbel⟩
end Go.Proofs.YtbjpmkoiabkcbaaGreatDoor
/- Rings of keys: the reference's: sums, members, commitments, the challenge, whoever says that they know a secret. -/
namespace Go.Proofs.YtbjpmkoiabkcbaaGreatDoor
open Go.RowKit
set_option maxRecDepth 100000 in
theorem radd_walk (p a b : Int) (w : World) (hp : 1 ≤ p) (hp2 : p ≤ 1073741824) (ha : 0 ≤ a ∧ a ≤ 4611686018427387904) (hb : 0 ≤ b ∧ b ≤ 1152921504606846976) :
    Calls Tryz.prog 35 #[.int .i64 p, .int .i64 a, .int .i64 b] w fun e w' => e = .returned (.int .i64 ((a + b) % p)) ∧ w = w' := by
  obtain ⟨a0, a1⟩ := ha
  obtain ⟨b0, b1⟩ := hb
  go_enter Tryz.func35, Tryz.ntmps35
  go_wp2
  go_ret
  exact ⟨rfl, rfl⟩
set_option maxRecDepth 100000 in
theorem rsub_walk (p a b : Int) (w : World) (hp : 1 ≤ p) (hp2 : p ≤ 1073741824) (ha : 0 ≤ a ∧ a < p) (hb : 0 ≤ b ∧ b < p) :
    Calls Tryz.prog 37 #[.int .i64 p, .int .i64 a, .int .i64 b] w fun e w' => e = .returned (.int .i64 ((a - b) % p)) ∧ w = w' := by
  obtain ⟨a0, a1⟩ := ha
  obtain ⟨b0, b1⟩ := hb
  have h1 : 0 ≤ a - b + p := by omega
  have e : (a - b + p) % p = (a - b) % p := Int.add_emod_right _ _
  have HE := Lib.hid e
  have c1 : IntKind.i64.wrap (a - b) = a - b := by rw [IntKind.wrap_i64]; omega
  have c2 : IntKind.i64.wrap (a - b + p) = a - b + p := by rw [IntKind.wrap_i64]; omega
  clear e
  go_enter Tryz.func37, Tryz.ntmps37
  go_wp2
  go_ret
  exact ⟨ret_int HE.out, rfl⟩
set_option maxRecDepth 100000 in
theorem rmul_walk (p a b : Int) (w : World) (hp : 1 ≤ p) (hp2 : p ≤ 1073741824) (ha : 0 ≤ a ∧ a < p) (hb : 0 ≤ b ∧ b < p) :
    Calls Tryz.prog 39 #[.int .i64 p, .int .i64 a, .int .i64 b] w fun e w' => e = .returned (.int .i64 (a * b % p)) ∧ w = w' := by
  obtain ⟨a0, a1⟩ := ha
  obtain ⟨b0, b1⟩ := hb
  have h1 := Int.mul_nonneg a0 b0
  have h2 := Int.mul_le_mul (show a ≤ 1073741824 by omega) (show b ≤ 1073741824 by omega) b0 (by omega)
  have h3 : a * b ≤ 1152921504606846976 := by omega
  clear h2
  go_enter Tryz.func39, Tryz.ntmps39
  go_wp2
  go_ret
  exact ⟨rfl, rfl⟩
set_option maxRecDepth 100000 in
theorem rratesafe_walk (p : Int) (w : World) (hs : rsafe p = true) :
    Calls Tryz.prog 43 #[.int .i64 p] w fun e w' => e = .returned (.bool true) ∧ w = w' := by
  have KM := Lib.hid (rmod_walk p w)
  rw [hs] at KM
  clear hs
  go_enter Tryz.func43, Tryz.ntmps43
  go_wp2_with (go_at_call 68; (with_reducible refine KM.out.mono ?_))
  (try rintro e w1 ⟨rfl, rfl⟩)
  (try go_wp2)
  go_ret
  exact ⟨rfl, rfl⟩
set_option maxRecDepth 100000 in
theorem rTimes_walk (p a b : Nat) (w : World) (hp : 1 ≤ p) (hp2 : p ≤ 1073741824) (ha : a < 2 * p + 1) (hb : b < 2 * p + 1) :
    Calls Tryz.prog 62 #[.int .i64 (p : Int), .int .i64 (a : Int), .int .i64 (b : Int)] w fun e w' => e = .returned (.int .i64 ((a * b % (2 * p + 1) : Nat) : Int)) ∧ w = w' := by
  obtain ⟨x, hx⟩ : ∃ x : Int, x = (a : Int) := ⟨_, rfl⟩
  obtain ⟨y, hy⟩ : ∃ y : Int, y = (b : Int) := ⟨_, rfl⟩
  have hz : ((a * b % (2 * p + 1) : Nat) : Int) = x * y % (2 * (p : Int) + 1) := by
    rw [Int.natCast_emod, Int.natCast_mul, hx, hy]; congr 1
  rw [hz, ← hx, ← hy]
  have x0 : 0 ≤ x ∧ x ≤ 2147483648 := by omega
  have y0 : 0 ≤ y ∧ y ≤ 2147483648 := by omega
  have h1 := Int.mul_nonneg x0.1 y0.1
  have h2 := Int.mul_le_mul x0.2 y0.2 y0.1 (by omega)
  have h3 : x * y ≤ 4611686018427387904 := by omega
  clear h2 hz hx hy x0 y0 ha hb
  go_enter Tryz.func62, Tryz.ntmps62
  go_wp2
  go_ret
  exact ⟨rfl, rfl⟩
set_option maxRecDepth 100000 in
theorem rcomm_walk (p k : Nat) (c z : Int) (w : World) (hp : 3 ≤ p) (hp2 : p ≤ 1073741824) (hk : k < 2 * p + 1) (hc : 0 ≤ c) (hc2 : c ≤ 4611686018427387904) :
    Calls Tryz.prog 36 #[.int .i64 (p : Int), .int .i64 (k : Int), .int .i64 c, .int .i64 z] w fun e w' => e = .returned (.int .i64 ((comF p k c z : Nat) : Int)) ∧ w = w' := by
  have K1 : Hid (∀ V, Calls Tryz.prog 6 #[.int .i64 (p : Int), .int .i64 z] V fun r w' => r = .returned (.int .i64 ((gpw p 4 z : Nat) : Int)) ∧ V = w') := Lib.hid (fun V => rPublic_walk p z V (by omega) hp2)
  have K2 := Lib.hid (fun V => rPower_walk p k (-c) V (by omega) hp2 hk)
  have K3 := Lib.hid (fun V => rTimes_walk p (gpw p 4 z) (gpw p k (-c)) V (by omega) hp2 (gpw_lt _ _ _) (gpw_lt _ _ _))
  rw [comF]
  generalize gpw p 4 z * gpw p k (-c) % (2 * p + 1) = y at *
  generalize gpw p 4 z = y1 at *
  generalize gpw p k (-c) = y2 at *
  have hw : IntKind.i64.wrap (-c) = -c := by rw [IntKind.wrap_i64]; omega
  clear hk
  go_enter Tryz.func36, Tryz.ntmps36
  go_wp2_with (go_at_call 6; (with_reducible refine (K1.out _).mono ?_))
  rintro e w1 ⟨rfl, rfl⟩
  go_wp2_with (go_at_call 18; (with_reducible refine (K2.out _).mono ?_))
  rintro e w2 ⟨rfl, rfl⟩
  go_wp2_with (go_at_call 62; (with_reducible refine (K3.out _).mono ?_))
  rintro e w3 ⟨rfl, rfl⟩
  go_wp2
  go_ret
  exact ⟨rfl, rfl⟩
set_option maxRecDepth 100000 in
set_option maxHeartbeats 2000000 in
theorem rrmembers_walk (p : Nat) (a : Option Addr) (l : List Int) (cap : Nat) (w : World) (hs : rsafe (p : Int) = true) (hR : Rd w a (ints l)) (hl : l.length ≤ 281474976710656) :
    Calls Tryz.prog 46 #[.int .i64 (p : Int), .slice a l.length cap] w fun e w' => e = .returned (.bool (keysOk p l)) ∧ Below w.heap.size w w' := by
  have KM := Lib.hid (fun V x => rMember_walk p x V hs)
  clear hs
  go_enter Tryz.func46, Tryz.ntmps46
  go_wp2_with fail
  go_loopw [5] (fun i wr => ∃ k : Nat, k ≤ l.length ∧ i = .int .i64 (k : Int) ∧ Hid (∀ x ∈ l.take k, memZ p x = true) ∧ Below w.heap.size w wr) (fun i _ => l.length - (intOf i).toNat)
  case atStart => exact ⟨0, Nat.zero_le _, rfl, Lib.hid (by simp), Below.refl _ _⟩
  case round =>
    obtain ⟨k, hk, rfl, hA, hB'⟩ := hrel
    by_cases hkt : k < l.length
    · obtain ⟨gx, off, x, rfl, hc, hx⟩ := (hR.keep hB').int (k := k) hkt
      have hkl : (k : Int) < (l.length : Int) := by omega
      have K1 := Lib.hid (fun V => KM.out V x)
      have hT : memZ p x = true → ∀ y ∈ l.take (k + 1), memZ p y = true := fun h y hy => by
        rw [take_at hx] at hy
        rcases List.mem_append.1 hy with hy | hy
        · exact hA.out y hy
        · simp at hy; rw [hy]; exact h
      have hF : memZ p x = false → keysOk p l = false := fun h => by
        rw [keysOk, memsF_false (mem_at hx) h]; simp
      have HT := Lib.hid hT
      have HF := Lib.hid hF
      clear hT hF hA hx hR
      cases hz : memZ p x with
      | true =>
        rw [hz] at K1 HT
        clear hz
        go_wp2_with (go_at_call 44; (with_reducible refine (K1.out _).mono ?_))
        (try rintro e w1 ⟨rfl, rfl⟩)
        (try go_wp2)
        go_roundw
        case rel => exact ⟨k + 1, by omega, by go_num, Lib.hid (HT.out trivial), hB'⟩
        case measure => simp [intOf]; omega
      | false =>
        rw [hz] at K1 HF
        clear hz
        go_wp2_with (go_at_call 44; (with_reducible refine (K1.out _).mono ?_))
        (try rintro e w1 ⟨rfl, rfl⟩)
        (try go_wp2)
        go_ret
        exact ⟨by rw [HF.out trivial]; rfl, hB'⟩
    · have hkl : ¬ (k : Int) < (l.length : Int) := by omega
      obtain rfl : k = l.length := by omega
      have hm := memsF_true hA.out
      clear hA
      by_cases hq1 : 1 ≤ l.length
      · by_cases hq2 : l.length ≤ 64
        · have hk : keysOk p l = true := by rw [keysOk, hm, decide_eq_true ⟨hq1, hq2⟩]; rfl
          have HK := Lib.hid hk
          have d1 : decide ((l.length : Int) ≥ 1) = true := decide_eq_true (by omega)
          have d2 : decide ((l.length : Int) ≤ 64) = true := decide_eq_true (by omega)
          clear hm hk
          go_wp2
          go_ret
          exact ⟨by rw [HK.out]; rfl, hB'⟩
        · have hk : keysOk p l = false := by rw [keysOk, decide_eq_false (by omega)]; rfl
          have HK := Lib.hid hk
          have d1 : decide ((l.length : Int) ≥ 1) = true := decide_eq_true (by omega)
          have d2 : decide ((l.length : Int) ≤ 64) = false := decide_eq_false (by omega)
          clear hm hk
          go_wp2
          go_ret
          exact ⟨by rw [HK.out]; rfl, hB'⟩
      · have hk : keysOk p l = false := by rw [keysOk, decide_eq_false (by omega)]; rfl
        have HK := Lib.hid hk
        have d1 : decide ((l.length : Int) ≥ 1) = false := decide_eq_false (by omega)
        clear hm hk
        go_wp2
        go_ret
        exact ⟨by rw [HK.out]; rfl, hB'⟩
end Go.Proofs.YtbjpmkoiabkcbaaGreatDoor
