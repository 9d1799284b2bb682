/- The padded string, its blocks, and the sum: plain. No program in sight. -/
import Derived.Test.YtgfcknadjijinaaDoorDigestP
import Derived.Test.YtgfcknadjijinaaDoorDigestR
import Derived.Laws.Tables
import Derived.Test.YtgfcknadjijinaaDoorBuild
namespace Go.Proofs.YtgfcknadjijinaaDoor
open Go.RowKit

/-- n blocks of p -/
def absorb (K H : List Int) (p : List UInt8) : Nat → List Int
  | 0 => H
  | n + 1 => blockSum K (absorb K H p n) (p.drop (64 * n))
theorem load_congr {a b : List UInt8} (h : ∀ k, k < 64 → bt a k = bt b k) : ∀ n, n ≤ 16 → load a n = load b n
  | 0, _ => rfl
  | n + 1, hn => by
    simp only [load]
    rw [load_congr h n (by omega)]
    simp only [wordAt]
    rw [h _ (by omega), h _ (by omega), h _ (by omega), h _ (by omega)]
theorem blockSum_congr (K H : List Int) {a b : List UInt8} (h : ∀ k, k < 64 → bt a k = bt b k) : blockSum K H a = blockSum K H b := by
  unfold blockSum
  rw [load_congr h 16 (Nat.le_refl _)]
theorem bt_take (b : List UInt8) (n k : Nat) (h : k < n) : bt (b.take n) k = bt b k := by simp [bt, h]
theorem blockSum_take (K H : List Int) (b : List UInt8) : blockSum K H (b.take 64) = blockSum K H b := blockSum_congr K H fun k hk => bt_take b 64 k hk
theorem blockSum_length (K H : List Int) (b : List UInt8) : (blockSum K H b).length = H.length := by simp [blockSum, addn_length]
theorem absorb_length (K H : List Int) (p : List UInt8) (n : Nat) : (absorb K H p n).length = H.length := by induction n with | zero => rfl | succ n ih => simp [absorb, blockSum_length, ih]
theorem bt_app (a b : List UInt8) (k : Nat) (h : k < a.length) : bt (a ++ b) k = bt a k := by simp [bt, List.getElem?_append_left h]
theorem absorb_left (K H : List Int) (a b : List UInt8) : ∀ n, 64 * n ≤ a.length → absorb K H (a ++ b) n = absorb K H a n
  | 0, _ => rfl
  | n + 1, h => by
    simp only [absorb]
    rw [absorb_left K H a b n (by omega)]
    apply blockSum_congr
    intro k hk
    rw [List.drop_append_of_le_length (by omega), bt_app _ _ _ (by simp; omega)]
theorem absorb_append (K H : List Int) (a b : List UInt8) (m : Nat) (h : a.length = 64 * m) : ∀ n, absorb K H (a ++ b) (m + n) = absorb K (absorb K H a m) b n
  | 0 => absorb_left K H a b m (by omega)
  | n + 1 => by
    rw [← Nat.add_assoc]
    simp only [absorb]
    rw [absorb_append K H a b m h n]
    congr 1
    rw [List.drop_append, List.drop_eq_nil_of_le (by omega), List.nil_append]
    congr 1; omega
/-- byte i, counted from the right, of the number of bits -/
def lenByte (n : Nat) (i : Nat) : UInt8 := UInt8.ofNat (8 * n / 2 ^ (8 * i))
/-- k bytes of the length, of eight, from the left -/
def lenBytes (n : Nat) : Nat → List UInt8
  | 0 => []
  | k + 1 => lenBytes n k ++ [lenByte n (7 - k)]
theorem lenBytes_length (n k : Nat) : (lenBytes n k).length = k := by induction k with | zero => rfl | succ k ih => simp [lenBytes, ih]
def zeros (n : Nat) : Nat := (119 - n % 64) % 64
/-- what follows a string of length n -/
def tailOf (n : Nat) : List UInt8 := 128 :: (List.replicate (zeros n) 0 ++ lenBytes n 8)
def pad (l : List UInt8) : List UInt8 := l ++ tailOf l.length
theorem tailOf_length (n : Nat) : (tailOf n).length = 9 + zeros n := by simp [tailOf, lenBytes_length]; omega
theorem pad_length (l : List UInt8) : (pad l).length = 64 * ((l.length + 9 + zeros l.length) / 64) := by
  simp only [pad, List.length_append, tailOf_length, zeros]
  omega
def blocksOf (n : Nat) : Nat := (n + 9 + zeros n) / 64
/-- the bytes of a word -/
def wbytes (x : Int) : List UInt8 := [UInt8.ofNat (x / 16777216 % 256).toNat, UInt8.ofNat (x / 65536 % 256).toNat, UInt8.ofNat (x / 256 % 256).toNat, UInt8.ofNat (x % 256).toNat]
/-- the bytes of the first n words -/
def outBytes (V : List Int) : Nat → List UInt8
  | 0 => []
  | n + 1 => outBytes V n ++ wbytes (V.getD n 0)
theorem outBytes_length (V : List Int) (n : Nat) : (outBytes V n).length = 4 * n := by induction n with | zero => rfl | succ n ih => simp [outBytes, ih, wbytes]; omega
def KS : List Int := [1116352408, 1899447441, 3049323471, 3921009573, 961987163, 1508970993, 2453635748, 2870763221, 3624381080, 310598401, 607225278, 1426881987, 1925078388, 2162078206, 2614888103, 3248222580, 3835390401, 4022224774, 264347078, 604807628, 770255983, 1249150122, 1555081692, 1996064986, 2554220882, 2821834349, 2952996808, 3210313671, 3336571891, 3584528711, 113926993, 338241895, 666307205, 773529912, 1294757372, 1396182291, 1695183700, 1986661051, 2177026350, 2456956037, 2730485921, 2820302411, 3259730800, 3345764771, 3516065817, 3600352804, 4094571909, 275423344, 430227734, 506948616, 659060556, 883997877, 958139571, 1322822218, 1537002063, 1747873779, 1955562222, 2024104815, 2227730452, 2361852424, 2428436474, 2756734187, 3204031479, 3329325298]
def H0 : List Int := [1779033703, 3144134277, 1013904242, 2773480762, 1359893119, 2600822924, 528734635, 1541459225]
/-- SHA-256 -/
def sha (l : List UInt8) : List UInt8 := outBytes (absorb KS H0 (pad l) (blocksOf l.length)) 8
theorem sha_length (l : List UInt8) : (sha l).length = 32 := outBytes_length _ 8
/-- the same, where the whole blocks are taken first -/
theorem sha_parts (l : List UInt8) (m : Nat) (hm : m = l.length / 64) : sha l = outBytes (absorb KS (absorb KS H0 (l.take (64 * m)) m) (l.drop (64 * m) ++ tailOf l.length) (blocksOf l.length - m)) 8 := by
  rw [sha, pad]
  have h : l ++ tailOf l.length = l.take (64 * m) ++ (l.drop (64 * m) ++ tailOf l.length) := by rw [← List.append_assoc, List.take_append_drop]
  have hb : m ≤ blocksOf l.length := by unfold blocksOf; omega
  rw [h]
  conv => lhs; rw [show blocksOf l.length = m + (blocksOf l.length - m) by omega]
  rw [absorb_append KS H0 _ _ m (by rw [List.length_take]; omega)]
end Go.Proofs.YtgfcknadjijinaaDoor
/- The constants and the beginning. -/
namespace Go.Proofs.YtgfcknadjijinaaDoor
open Go.RowKit
set_option maxRecDepth 100000 in
theorem begin_walk (w : World) : Calls Tryd.prog 91 #[] w fun e w' => e = .returned (.agg (u32s H0).toArray) ∧ Below w.heap.size w w' := by
  go_enter Tryd.func91, Tryd.ntmps91
  go_wp2
  refine bodyPost_ret (results_cell_row rfl _ _ w.heap.size _ (u32s H0).toArray _ _ rfl (heap_alloc_new w _) Tryd.underlying103 rfl (by kernel_rfl)) rfl ⟨rfl, (Below.refl _ _).alloc (Nat.le_refl _) _⟩
set_option maxRecDepth 100000 in
theorem first_walk (w : World) : Calls Tryd.prog 49 #[] w fun e w' => e = .returned (.agg (u32s H0).toArray) ∧ Below w.heap.size w w' := by
  go_enter Tryd.func49, Tryd.ntmps49
  go_wp2
  refine bodyPost_ret (results_cell_row rfl _ _ w.heap.size _ (u32s H0).toArray _ _ rfl (heap_alloc_new w _) Tryd.underlying82 rfl (by kernel_rfl)) rfl ⟨rfl, (Below.refl _ _).alloc (Nat.le_refl _) _⟩
set_option maxRecDepth 100000 in
theorem constants_walk (w : World) : Calls Tryd.prog 92 #[] w fun e w' => e = .returned (.pointer (some ⟨w.heap.size, 0, none⟩)) ∧ Wd w' w.heap.size 84 KS ∧ Below w.heap.size w w' := by
  go_enter Tryd.func92, Tryd.ntmps92
  go_wp2_with (refine wpList_build rfl _ _ rfl ?hf ?_)
  case hf => kernel_rfl
  generalize hA : Option.getD (Program.built _ _ _) _ = A
  have hA' : A = (u32s KS).toArray := by rw [← hA]; kernel_rfl
  clear hA
  subst hA'
  go_wp2
  go_ret
  exact ⟨rfl, heap_alloc_new w _, (Below.refl _ _).alloc (Nat.le_refl _) _⟩
set_option maxRecDepth 100000 in
set_option maxHeartbeats 1000000 in
theorem rconstants_walk (w : World) : Calls Tryd.prog 50 #[] w fun e w' => e = .returned (.agg (u32s KS).toArray) ∧ Below w.heap.size w w' := by
  go_enter Tryd.func50, Tryd.ntmps50
  go_wp2_with (refine wpList_build rfl _ _ rfl ?hf ?_)
  case hf => kernel_rfl
  generalize hA : Option.getD (Program.built _ _ _) _ = A
  have hA' : A = (u32s KS).toArray := by rw [← hA]; kernel_rfl
  clear hA
  subst hA'
  go_wp2
  rw [run_storeCells_from (P := Tryd.prog) w.heap.size 84 (u32s KS) 0 _ _ (heap_alloc_new w _) (by kernel_rfl) (by intro v hv; obtain ⟨_, _, rfl⟩ := List.mem_map.1 hv; rfl)]
  generalize hw2 : World.setRow _ _ _ = w2
  have hW : w2.heap[w.heap.size]? = some (.cells (u32s KS).toArray 84 (0, 0)) := by rw [← hw2]; exact setRow_heap _ _ _ _ _ _ (heap_alloc_new w _)
  have hB : Below w.heap.size w w2 := by
    rw [← hw2]
    exact ⟨rfl, rfl, rfl, by simp, fun k hk => (setRow_other _ _ _ _ (by omega)).trans (Below.heap_alloc w _ k hk)⟩
  clear hw2
  simp only [Result.andThen]
  go_wp2
  refine bodyPost_ret (results_cell_row rfl _ _ w.heap.size _ (u32s KS).toArray _ _ rfl hW Tryd.underlying84 rfl (by kernel_rfl)) rfl ⟨rfl, hB⟩
end Go.Proofs.YtgfcknadjijinaaDoor
/- The padding: the program's and the reference's. -/
namespace Go.Proofs.YtgfcknadjijinaaDoor
open Go.RowKit
theorem el8 : ElemOf Tryd.prog 87 5 (.int .u8 0) 1 1 := ⟨Tryd.underlying87, by kernel_rfl, rfl, by decide, by decide⟩
theorem div_byte (n d : Nat) : UInt8.ofNat ((n : Int) * 8 / (d : Int) % 256).toNat = UInt8.ofNat (8 * n / d) := by
  have h : ((n : Int) * 8 / (d : Int) % 256) = (((8 * n / d) % 256 : Nat) : Int) := by
    rw [Int.natCast_emod, Int.natCast_ediv, Int.natCast_mul, Int.mul_comm]; rfl
  rw [h, Int.toNat_natCast]
  apply UInt8.toNat_inj.1
  simp
theorem lenByte_step (n k : Nat) : UInt8.ofNat ((n : Int) * 8 / 2 ^ (8 * (7 - k)) % 256).toNat = lenByte n (7 - k) := by
  have := div_byte n (2 ^ (8 * (7 - k)))
  rw [Int.natCast_pow] at this
  exact this
theorem lenByte_val (n k : Nat) (hk : k < 8) : ((n : Int) * 8 / 2 ^ (56 - 8 * k) % 256) = ((lenByte n (7 - k)).toNat : Int) := by
  have h : ∀ d : Nat, ((n : Int) * 8 / (d : Int) % 256) = ((UInt8.ofNat (8 * n / d)).toNat : Int) := fun d => by
    simp only [UInt8.toNat_ofNat']
    rw [Int.natCast_emod, Int.natCast_ediv, Int.natCast_mul, Int.mul_comm]; rfl
  have := h (2 ^ (8 * (7 - k)))
  rw [Int.natCast_pow] at this
  rw [show 56 - 8 * k = 8 * (7 - k) by omega]
  exact this
theorem repeatL_zero (c : Nat) : Lib.repeatL [(0 : UInt8)] c = List.replicate c 0 := by
  induction c with
  | zero => rfl
  | succ c ih => simp [Lib.repeatL, ih, List.replicate_succ]
set_option maxRecDepth 100000 in
theorem rest_walk (l : List UInt8) (n : Nat) (w : World) (hm : l.length % 64 = n % 64) (hl : l.length ≤ 64) (hn : n ≤ 140737488000000) :
    Calls Tryd.prog 93 #[.string ⟨l.toArray⟩, .int .i64 n] w fun e w' => e = .returned (.string ⟨(l ++ tailOf n).toArray⟩) ∧ Below w.heap.size w w' := by
  have hB0 := Bld.new w
  have hb0 := (Below.refl w.heap.size w).alloc (Nat.le_refl _) (.cells #[.pointer none, .slice none 0 0] 111)
  go_enter Tryd.func93, Tryd.ntmps93
  go_wp2_with (go_at_call 96; (with_reducible refine (writeString_walk _ _ _ _ _ hB0 (by simp; omega) (by simp)).mono ?_))
  rintro e w1 ⟨rfl, hB1, hb1⟩
  replace hb1 := hb0.trans hb1
  go_wp2_with (go_at_call 97; (with_reducible refine (writeByte_walk _ _ _ _ _ (by decide) (by decide) hB1 (by simp; omega) hb1.size).mono ?_))
  rintro e w2 ⟨rfl, hB2, hb2⟩
  replace hb2 := hb1.trans hb2
  have hz : (119 - (l.length : Int)) % 64 = ((zeros n : Nat) : Int) := by unfold zeros; omega
  have hzl : zeros n < 64 := by unfold zeros; omega
  go_wp2_with (go_at_call 98; go_loud (refine (repeat_walk [0] (zeros n) _ (by simp; omega) (by omega)).mono ?_))
  rintro e w3 ⟨rfl, hb3⟩
  replace hB3 := hB2.keep hb3
  replace hb3 := hb2.trans (hb3.mono hb2.size)
  have hrep : (Lib.repeatL [(0 : UInt8)] (zeros n)).length = zeros n := by simp [Lib.repeatL_length]
  go_wp2_with (go_at_call 96; (with_reducible refine (writeString_walk _ _ _ _ _ hB3 (by simp; omega) hb3.size).mono ?_))
  rintro e w4 ⟨rfl, hB4, hb4⟩
  replace hb4 := hb3.trans hb4
  have hlen4 : ([] ++ l ++ [UInt8.ofNat (Int.toNat 128)] ++ Lib.repeatL [(0 : UInt8)] (zeros n)).length ≤ 200 := by simp [Lib.repeatL_length]; omega
  generalize hL4 : [] ++ l ++ [UInt8.ofNat (Int.toNat 128)] ++ Lib.repeatL [(0 : UInt8)] (zeros n) = L4 at hB4 hlen4
  have HL4 := Lib.hid hL4
  clear hL4 hB0 hb0 hB1 hB2 hB3 hb1 hb2 hb3 hz
  go_wp2
  go_loopw [8] (fun i wr => ∃ k : Nat, k ≤ 8 ∧ i = .int .i64 (7 - (k : Int)) ∧ Bld wr w.heap.size w.heap.size (L4 ++ lenBytes n k) ∧ Below w.heap.size w wr) (fun i _ => (intOf i + 1).toNat)
  case atStart => exact ⟨0, by omega, rfl, by rw [lenBytes, List.append_nil]; exact hB4, hb4⟩
  case round =>
    clear hB4 hb4
    obtain ⟨k, hk, rfl, hB, hb⟩ := hrel
    by_cases hlt : k < 8
    · have h1 : (0 : Int) ≤ 7 - (k : Int) := by omega
      have hl8 : (L4 ++ lenBytes n k).length + 1 ≤ 140737488355328 := by simp [lenBytes_length]; omega
      go_wp2_with (go_at_call 97; (with_reducible refine (writeByte_walk _ _ _ _ _ ?lo ?hi hB hl8 hb.size).mono ?_))
      case lo => omega
      case hi => omega
      rintro e w5 ⟨rfl, hB5, hb5⟩
      rw [lenByte_step] at hB5
      go_wp2
      go_roundw
      case rel => exact ⟨k + 1, by omega, by go_num, by rw [lenBytes, ← List.append_assoc]; exact hB5, hb.trans hb5⟩
      case measure => simp [intOf]; omega
    · obtain rfl : k = 8 := by omega
      go_wp2_with (go_at_call 99; (with_reducible refine (string_walk _ _ _ _ hB hb.size).mono ?_))
      rintro e w5 ⟨rfl, hb5⟩
      go_wp2
      go_ret
      exact ⟨ret_str (by rw [← HL4.out, repeatL_zero]; simp [tailOf]), hb.trans hb5⟩
def lenN : Value → Nat
  | .slice _ n _ => n
  | _ => 0
set_option maxRecDepth 100000 in
theorem pad_walk (l : List UInt8) (w : World) (hl : l.length ≤ 140737488000000) :
    Calls Tryd.prog 51 #[.string ⟨l.toArray⟩] w fun e w' => e = .returned (.string ⟨(pad l).toArray⟩) ∧ Below w.heap.size w w' := by
  have hcv := Lib.run_convert_string_bytes (P := Tryd.prog) w 9 87 5 ⟨l.toArray⟩ Tryd.underlying9 Tryd.underlying87 Tryd.underlying5
  have hw0 := below_bytes w 5 ⟨l.toArray⟩
  have how := Ow.bytes w 5 ⟨l.toArray⟩ (by simp [maxLen, ByteArray.size]; omega)
  go_enter Tryd.func51, Tryd.ntmps51
  go_wp2_with (at_builtin; refine wpList_app1 (w0 := w) (B := w.heap.size) rfl _ _ _ rfl el8 rfl how hw0 (by omega) hw0.size (cs := [_]) rfl rfl (one1 rfl) (by simp [ByteArray.size]; omega) ?_)
  intro a1 cap1 w1 hown1 hbel1 _
  rw [u8s_snoc _ (128 : Int) 128 rfl] at hown1
  have hzl : zeros l.length < 64 := by unfold zeros; omega
  clear hcv hw0 how
  go_wp2
  go_loopw [3] (fun v wr => ∃ (k : Nat) (L : List UInt8) (a : Option Addr) (cap : Nat), k ≤ zeros l.length ∧ v = .slice a L.length cap ∧ L = l ++ [128] ++ List.replicate k 0 ∧ Ow wr w.heap.size 1 a L.length cap (u8s L) ∧ Below w.heap.size w wr) (fun v _ => l.length + 100 - lenN v)
  case atStart => exact ⟨0, l ++ [128], a1, cap1, by omega, by simp, by simp, by rw [List.length_append]; exact hown1, hbel1⟩
  case round =>
    clear hown1 hbel1
    obtain ⟨k, L, sa, cap, hk, rfl, hL, hown, hbel⟩ := hrel
    have hlen : L.length = l.length + 1 + k := by rw [hL]; simp; omega
    have hle : L.length ≤ 140737488000100 := by omega
    have hmb : (((L.length : Int) % 64) != 56) = !decide (k = zeros l.length) := by
      by_cases h : k = zeros l.length
      · simp [h]; rw [hlen]; unfold zeros at h; omega
      · simp [h]; rw [hlen]; unfold zeros at h hk; omega
    have HL := Lib.hid hL
    have HN := Lib.hid hlen
    clear hL hlen
    by_cases hlt : k < zeros l.length
    · have hmt : (((L.length : Int) % 64) != 56) = true := by rw [hmb]; simp; omega
      clear hmb
      go_wp2_with (at_builtin; refine wpList_app1 (w0 := w) (B := w.heap.size) rfl _ _ _ rfl el8 rfl hown hbel (by omega) hbel.size (cs := [_]) rfl rfl (one1 rfl) (by omega) ?_)
      intro a2 cap2 w2 hown2 hbel2 _
      rw [u8s_snoc _ (0 : Int) 0 rfl] at hown2
      go_wp2
      go_roundw
      case rel => exact ⟨k + 1, L ++ [0], a2, cap2, by omega, by simp, by rw [HL.out, List.replicate_succ']; simp, by rw [List.length_append]; exact hown2, hbel2⟩
      case measure => have := HN.out; simp [lenN]; omega
    · obtain rfl : k = zeros l.length := by omega
      have hmt : (((L.length : Int) % 64) != 56) = false := by rw [hmb]; simp
      clear hlt hmb
      go_wp2
      go_loopw [3, 4] (fun v i wr => ∃ (k : Nat) (M : List UInt8) (a : Option Addr) (cap : Nat), k ≤ 8 ∧ i = .int .i64 (56 - 8 * (k : Int)) ∧ v = .slice a M.length cap ∧ M = L ++ lenBytes l.length k ∧ Ow wr w.heap.size 1 a M.length cap (u8s M) ∧ Below w.heap.size w wr) (fun _ i _ => (intOf i + 8).toNat)
      case atStart => exact ⟨0, _, _, _, by omega, rfl, rfl, by simp [lenBytes], hown, hbel⟩
      case round =>
        clear hown hbel
        obtain ⟨k, M, sb, cbp, hk, rfl, rfl, hM, hown, hbel⟩ := hrel
        have hlm : M.length = L.length + k := by rw [hM]; simp [lenBytes_length]
        have hle2 : M.length ≤ 140737488000200 := by omega
        have HM := Lib.hid hM
        clear hM hlm
        by_cases hlt : k < 8
        · have h1 : (0 : Int) ≤ 56 - 8 * (k : Int) := by omega
          go_wp2_with (at_builtin; refine wpList_app1 (w0 := w) (B := w.heap.size) rfl _ _ _ rfl el8 rfl hown hbel (by omega) hbel.size (cs := [_]) rfl rfl (one1 rfl) (by omega) ?_)
          intro a2 cap2 w2 hown2 hbel2 _
          rw [u8s_snoc _ _ _ (lenByte_val l.length k hlt)] at hown2
          go_wp2
          go_roundw
          case rel => exact ⟨k + 1, M ++ [lenByte l.length (7 - k)], a2, cap2, by omega, by go_num, by simp, by rw [HM.out, lenBytes]; simp, by rw [List.length_append]; exact hown2, hbel2⟩
          case measure => simp [intOf]; omega
        · obtain rfl : k = 8 := by omega
          have hcv := run_bytes_str (P := Tryd.prog) wr 87 9 5 Tryd.underlying87 Tryd.underlying5 Tryd.underlying9 (n := M.length) (c := cbp) rfl hown.rd
          go_wp2
          go_ret
          exact ⟨ret_str (by rw [HM.out, HL.out]; simp [pad, tailOf]), hbel⟩
end Go.Proofs.YtgfcknadjijinaaDoor
