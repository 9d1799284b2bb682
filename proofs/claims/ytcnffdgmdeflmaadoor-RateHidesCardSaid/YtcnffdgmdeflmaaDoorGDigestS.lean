/- The padded string, its blocks, and the sum: plain. No program in sight. -/
import Derived.Test.YtcnffdgmdeflmaaDoorDigestP
import Derived.Test.YtcnffdgmdeflmaaDoorDigestR
import Derived.Laws.Tables
import Derived.Test.YtcnffdgmdeflmaaDoorBuild
namespace Go.Proofs.YtcnffdgmdeflmaaDoor
open Go.RowKit

/-- n blocks of p -/
def absorb (K H : List Int) (p : List UInt8) : Nat → List Int
  | 0 => H
  | n + 1 => blockSum K (absorb K H p n) (p.drop (64 * n))
theorem load_congr {a b : List UInt8} (h : ∀ k, k < 64 → bt a k = bt b k) : ∀ n, n ≤ 16 → load a n = load b n
  | 0, _ => rfl
  | n + 1, hn => by
    simp only [load]
    rw [load_congr h n (by omega)]
    simp only [wordAt]
    rw [h _ (by omega), h _ (by omega), h _ (by omega), h _ (by omega)]
theorem blockSum_congr (K H : List Int) {a b : List UInt8} (h : ∀ k, k < 64 → bt a k = bt b k) : blockSum K H a = blockSum K H b := by
  unfold blockSum
  rw [load_congr h 16 (Nat.le_refl _)]
theorem bt_take (b : List UInt8) (n k : Nat) (h : k < n) : bt (b.take n) k = bt b k := by simp [bt, h]
theorem blockSum_take (K H : List Int) (b : List UInt8) : blockSum K H (b.take 64) = blockSum K H b := blockSum_congr K H fun k hk => bt_take b 64 k hk
theorem blockSum_length (K H : List Int) (b : List UInt8) : (blockSum K H b).length = H.length := by simp [blockSum, addn_length]
theorem absorb_length (K H : List Int) (p : List UInt8) (n : Nat) : (absorb K H p n).length = H.length := by induction n with | zero => rfl | succ n ih => simp [absorb, blockSum_length, ih]
theorem bt_app (a b : List UInt8) (k : Nat) (h : k < a.length) : bt (a ++ b) k = bt a k := by simp [bt, List.getElem?_append_left h]
theorem absorb_left (K H : List Int) (a b : List UInt8) : ∀ n, 64 * n ≤ a.length → absorb K H (a ++ b) n = absorb K H a n
  | 0, _ => rfl
  | n + 1, h => by
    simp only [absorb]
    rw [absorb_left K H a b n (by omega)]
    apply blockSum_congr
    intro k hk
    rw [List.drop_append_of_le_length (by omega), bt_app _ _ _ (by simp; omega)]
theorem absorb_append (K H : List Int) (a b : List UInt8) (m : Nat) (h : a.length = 64 * m) : ∀ n, absorb K H (a ++ b) (m + n) = absorb K (absorb K H a m) b n
  | 0 => absorb_left K H a b m (by omega)
  | n + 1 => by
    rw [← Nat.add_assoc]
    simp only [absorb]
    rw [absorb_append K H a b m h n]
    congr 1
    rw [List.drop_append, List.drop_eq_nil_of_le (by omega), List.nil_append]
    congr 1; omega
/-- byte i, counted from the right, of the number of bits -/
def lenByte (n : Nat) (i : Nat) : UInt8 := UInt8.ofNat (8 * n / 2 ^ (8 * i))
/-- k bytes of the length, of eight, from the left -/
def lenBytes (n : Nat) : Nat → List UInt8
  | 0 => []
  | k + 1 => lenBytes n k ++ [lenByte n (7 - k)]
theorem lenBytes_length (n k : Nat) : (lenBytes n k).length = k := by induction k with | zero => rfl | succ k ih => simp [lenBytes, ih]
def zeros (n : Nat) : Nat := (119 - n % 64) % 64
/-- what follows a string of length n -/
def tailOf (n : Nat) : List UInt8 := 128 :: (List.replicate (zeros n) 0 ++ lenBytes n 8)
def pad (l : List UInt8) : List UInt8 := l ++ tailOf l.length
theorem tailOf_length (n : Nat) : (tailOf n).length = 9 + zeros n := by simp [tailOf, lenBytes_length]; omega
theorem pad_length (l : List UInt8) : (pad l).length = 64 * ((l.length + 9 + zeros l.length) / 64) := by
  simp only [pad, List.length_append, tailOf_length, zeros]
  omega
def blocksOf (n : Nat) : Nat := (n + 9 + zeros n) / 64
/-- the bytes of a word -/
def wbytes (x : Int) : List UInt8 := [UInt8.ofNat (x / 16777216 % 256).toNat, UInt8.ofNat (x / 65536 % 256).toNat, UInt8.ofNat (x / 256 % 256).toNat, UInt8.ofNat (x % 256).toNat]
/-- the bytes of the first n words -/
def outBytes (V : List Int) : Nat → List UInt8
  | 0 => []
  | n + 1 => outBytes V n ++ wbytes (V.getD n 0)
theorem outBytes_length (V : List Int) (n : Nat) : (outBytes V n).length = 4 * n := by induction n with | zero => rfl | succ n ih => simp [outBytes, ih, wbytes]; omega
def KS : List Int := [1116352408, 1899447441, 3049323471, 3921009573, 961987163, 1508970993, 2453635748, 2870763221, 3624381080, 310598401, 607225278, 1426881987, 1925078388, 2162078206, 2614888103, 3248222580, 3835390401, 4022224774, 264347078, 604807628, 770255983, 1249150122, 1555081692, 1996064986, 2554220882, 2821834349, 2952996808, 3210313671, 3336571891, 3584528711, 113926993, 338241895, 666307205, 773529912, 1294757372, 1396182291, 1695183700, 1986661051, 2177026350, 2456956037, 2730485921, 2820302411, 3259730800, 3345764771, 3516065817, 3600352804, 4094571909, 275423344, 430227734, 506948616, 659060556, 883997877, 958139571, 1322822218, 1537002063, 1747873779, 1955562222, 2024104815, 2227730452, 2361852424, 2428436474, 2756734187, 3204031479, 3329325298]
def H0 : List Int := [1779033703, 3144134277, 1013904242, 2773480762, 1359893119, 2600822924, 528734635, 1541459225]
/-- SHA-256 -/
def sha (l : List UInt8) : List UInt8 := outBytes (absorb KS H0 (pad l) (blocksOf l.length)) 8
theorem sha_length (l : List UInt8) : (sha l).length = 32 := outBytes_length _ 8
/-- the same, where the whole blocks are taken first -/
theorem sha_parts (l : List UInt8) (m : Nat) (hm : m = l.length / 64) : sha l = outBytes (absorb KS (absorb KS H0 (l.take (64 * m)) m) (l.drop (64 * m) ++ tailOf l.length) (blocksOf l.length - m)) 8 := by
  rw [sha, pad]
  have h : l ++ tailOf l.length = l.take (64 * m) ++ (l.drop (64 * m) ++ tailOf l.length) := by rw [← List.append_assoc, List.take_append_drop]
  have hb : m ≤ blocksOf l.length := by unfold blocksOf; omega
  rw [h]
  conv => lhs; rw [show blocksOf l.length = m + (blocksOf l.length - m) by omega]
  rw [absorb_append KS H0 _ _ m (by rw [List.length_take]; omega)]
end Go.Proofs.YtcnffdgmdeflmaaDoor
/- The constants and the beginning. -/
namespace Go.Proofs.YtcnffdgmdeflmaaDoor
open Go.RowKit
set_option maxRecDepth 100000 in
theorem begin_walk (w : World) : Calls Tryd.prog 65 #[] w fun e w' => e = .returned (.agg (u32s H0).toArray) ∧ Below w.heap.size w w' := by
  go_enter Tryd.func65, Tryd.ntmps65
  go_wp2
  refine bodyPost_ret (results_cell_row rfl _ _ w.heap.size _ (u32s H0).toArray _ _ rfl (heap_alloc_new w _) Tryd.underlying85 rfl (by kernel_rfl)) rfl ⟨rfl, (Below.refl _ _).alloc (Nat.le_refl _) _⟩
set_option maxRecDepth 100000 in
theorem constants_walk (w : World) : Calls Tryd.prog 66 #[] w fun e w' => e = .returned (.pointer (some ⟨w.heap.size, 0, none⟩)) ∧ Wd w' w.heap.size 91 KS ∧ Below w.heap.size w w' := by
  go_enter Tryd.func66, Tryd.ntmps66
  go_wp2_with (refine wpList_build rfl _ _ rfl ?hf ?_)
  case hf => kernel_rfl
  generalize hA : Option.getD (Program.built _ _ _) _ = A
  have hA' : A = (u32s KS).toArray := by rw [← hA]; kernel_rfl
  clear hA
  subst hA'
  go_wp2
  go_ret
  exact ⟨rfl, heap_alloc_new w _, (Below.refl _ _).alloc (Nat.le_refl _) _⟩
end Go.Proofs.YtcnffdgmdeflmaaDoor
/- The padding: the program's and the reference's. -/
namespace Go.Proofs.YtcnffdgmdeflmaaDoor
open Go.RowKit
theorem el8 : ElemOf Tryd.prog 74 5 (.int .u8 0) 1 1 := ⟨Tryd.underlying74, by kernel_rfl, rfl, by decide, by decide⟩
theorem div_byte (n d : Nat) : UInt8.ofNat ((n : Int) * 8 / (d : Int) % 256).toNat = UInt8.ofNat (8 * n / d) := by
  have h : ((n : Int) * 8 / (d : Int) % 256) = (((8 * n / d) % 256 : Nat) : Int) := by
    rw [Int.natCast_emod, Int.natCast_ediv, Int.natCast_mul, Int.mul_comm]; rfl
  rw [h, Int.toNat_natCast]
  apply UInt8.toNat_inj.1
  simp
theorem lenByte_step (n k : Nat) : UInt8.ofNat ((n : Int) * 8 / 2 ^ (8 * (7 - k)) % 256).toNat = lenByte n (7 - k) := by
  have := div_byte n (2 ^ (8 * (7 - k)))
  rw [Int.natCast_pow] at this
  exact this
theorem lenByte_val (n k : Nat) (hk : k < 8) : ((n : Int) * 8 / 2 ^ (56 - 8 * k) % 256) = ((lenByte n (7 - k)).toNat : Int) := by
  have h : ∀ d : Nat, ((n : Int) * 8 / (d : Int) % 256) = ((UInt8.ofNat (8 * n / d)).toNat : Int) := fun d => by
    simp only [UInt8.toNat_ofNat']
    rw [Int.natCast_emod, Int.natCast_ediv, Int.natCast_mul, Int.mul_comm]; rfl
  have := h (2 ^ (8 * (7 - k)))
  rw [Int.natCast_pow] at this
  rw [show 56 - 8 * k = 8 * (7 - k) by omega]
  exact this
theorem repeatL_zero (c : Nat) : Lib.repeatL [(0 : UInt8)] c = List.replicate c 0 := by
  induction c with
  | zero => rfl
  | succ c ih => simp [Lib.repeatL, ih, List.replicate_succ]
set_option maxRecDepth 100000 in
theorem rest_walk (l : List UInt8) (n : Nat) (w : World) (hm : l.length % 64 = n % 64) (hl : l.length ≤ 64) (hn : n ≤ 140737488000000) :
    Calls Tryd.prog 67 #[.string ⟨l.toArray⟩, .int .i64 n] w fun e w' => e = .returned (.string ⟨(l ++ tailOf n).toArray⟩) ∧ Below w.heap.size w w' := by
  have hB0 := Bld.new w
  have hb0 := (Below.refl w.heap.size w).alloc (Nat.le_refl _) (.cells #[.pointer none, .slice none 0 0] 94)
  go_enter Tryd.func67, Tryd.ntmps67
  go_wp2_with (go_at_call 70; (with_reducible refine (writeString_walk _ _ _ _ _ hB0 (by simp; omega) (by simp)).mono ?_))
  rintro e w1 ⟨rfl, hB1, hb1⟩
  replace hb1 := hb0.trans hb1
  go_wp2_with (go_at_call 71; (with_reducible refine (writeByte_walk _ _ _ _ _ (by decide) (by decide) hB1 (by simp; omega) hb1.size).mono ?_))
  rintro e w2 ⟨rfl, hB2, hb2⟩
  replace hb2 := hb1.trans hb2
  have hz : (119 - (l.length : Int)) % 64 = ((zeros n : Nat) : Int) := by unfold zeros; omega
  have hzl : zeros n < 64 := by unfold zeros; omega
  go_wp2_with (go_at_call 72; go_loud (refine (repeat_walk [0] (zeros n) _ (by simp; omega) (by omega)).mono ?_))
  rintro e w3 ⟨rfl, hb3⟩
  replace hB3 := hB2.keep hb3
  replace hb3 := hb2.trans (hb3.mono hb2.size)
  have hrep : (Lib.repeatL [(0 : UInt8)] (zeros n)).length = zeros n := by simp [Lib.repeatL_length]
  go_wp2_with (go_at_call 70; (with_reducible refine (writeString_walk _ _ _ _ _ hB3 (by simp; omega) hb3.size).mono ?_))
  rintro e w4 ⟨rfl, hB4, hb4⟩
  replace hb4 := hb3.trans hb4
  have hlen4 : ([] ++ l ++ [UInt8.ofNat (Int.toNat 128)] ++ Lib.repeatL [(0 : UInt8)] (zeros n)).length ≤ 200 := by simp [Lib.repeatL_length]; omega
  generalize hL4 : [] ++ l ++ [UInt8.ofNat (Int.toNat 128)] ++ Lib.repeatL [(0 : UInt8)] (zeros n) = L4 at hB4 hlen4
  have HL4 := Lib.hid hL4
  clear hL4 hB0 hb0 hB1 hB2 hB3 hb1 hb2 hb3 hz
  go_wp2
  go_loopw [8] (fun i wr => ∃ k : Nat, k ≤ 8 ∧ i = .int .i64 (7 - (k : Int)) ∧ Bld wr w.heap.size w.heap.size (L4 ++ lenBytes n k) ∧ Below w.heap.size w wr) (fun i _ => (intOf i + 1).toNat)
  case atStart => exact ⟨0, by omega, rfl, by rw [lenBytes, List.append_nil]; exact hB4, hb4⟩
  case round =>
    clear hB4 hb4
    obtain ⟨k, hk, rfl, hB, hb⟩ := hrel
    by_cases hlt : k < 8
    · have h1 : (0 : Int) ≤ 7 - (k : Int) := by omega
      have hl8 : (L4 ++ lenBytes n k).length + 1 ≤ 140737488355328 := by simp [lenBytes_length]; omega
      go_wp2_with (go_at_call 71; (with_reducible refine (writeByte_walk _ _ _ _ _ ?lo ?hi hB hl8 hb.size).mono ?_))
      case lo => omega
      case hi => omega
      rintro e w5 ⟨rfl, hB5, hb5⟩
      rw [lenByte_step] at hB5
      go_wp2
      go_roundw
      case rel => exact ⟨k + 1, by omega, by go_num, by rw [lenBytes, ← List.append_assoc]; exact hB5, hb.trans hb5⟩
      case measure => simp [intOf]; omega
    · obtain rfl : k = 8 := by omega
      go_wp2_with (go_at_call 73; (with_reducible refine (string_walk _ _ _ _ hB hb.size).mono ?_))
      rintro e w5 ⟨rfl, hb5⟩
      go_wp2
      go_ret
      exact ⟨ret_str (by rw [← HL4.out, repeatL_zero]; simp [tailOf]), hb.trans hb5⟩
def lenN : Value → Nat
  | .slice _ n _ => n
  | _ => 0
end Go.Proofs.YtcnffdgmdeflmaaDoor
