/- The padded string, its blocks, and the sum: plain. No program in sight. -/
import Derived.Test.YtnahkfchcminpaaGreatDoorDigestP
import Derived.Test.YtnahkfchcminpaaGreatDoorDigestR
import Derived.Laws.Tables
namespace Go.Proofs.YtnahkfchcminpaaGreatDoor
open Go.RowKit

/-- n blocks of p -/
def absorb (K H : List Int) (p : List UInt8) : Nat → List Int
  | 0 => H
  | n + 1 => blockSum K (absorb K H p n) (p.drop (64 * n))
theorem load_congr {a b : List UInt8} (h : ∀ k, k < 64 → bt a k = bt b k) : ∀ n, n ≤ 16 → load a n = load b n
  | 0, _ => rfl
  | n + 1, hn => by
    simp only [load]
    rw [load_congr h n (by omega)]
    simp only [wordAt]
    rw [h _ (by omega), h _ (by omega), h _ (by omega), h _ (by omega)]
theorem blockSum_congr (K H : List Int) {a b : List UInt8} (h : ∀ k, k < 64 → bt a k = bt b k) : blockSum K H a = blockSum K H b := by
  unfold blockSum
  rw [load_congr h 16 (Nat.le_refl _)]
theorem bt_take (b : List UInt8) (n k : Nat) (h : k < n) : bt (b.take n) k = bt b k := by simp [bt, h]
theorem blockSum_take (K H : List Int) (b : List UInt8) : blockSum K H (b.take 64) = blockSum K H b := blockSum_congr K H fun k hk => bt_take b 64 k hk
theorem blockSum_length (K H : List Int) (b : List UInt8) : (blockSum K H b).length = H.length := by simp [blockSum, addn_length]
theorem absorb_length (K H : List Int) (p : List UInt8) (n : Nat) : (absorb K H p n).length = H.length := by induction n with | zero => rfl | succ n ih => simp [absorb, blockSum_length, ih]
theorem bt_app (a b : List UInt8) (k : Nat) (h : k < a.length) : bt (a ++ b) k = bt a k := by simp [bt, List.getElem?_append_left h]
theorem absorb_left (K H : List Int) (a b : List UInt8) : ∀ n, 64 * n ≤ a.length → absorb K H (a ++ b) n = absorb K H a n
  | 0, _ => rfl
  | n + 1, h => by
    simp only [absorb]
    rw [absorb_left K H a b n (by omega)]
    apply blockSum_congr
    intro k hk
    rw [List.drop_append_of_le_length (by omega), bt_app _ _ _ (by simp; omega)]
theorem absorb_append (K H : List Int) (a b : List UInt8) (m : Nat) (h : a.length = 64 * m) : ∀ n, absorb K H (a ++ b) (m + n) = absorb K (absorb K H a m) b n
  | 0 => absorb_left K H a b m (by omega)
  | n + 1 => by
    rw [← Nat.add_assoc]
    simp only [absorb]
    rw [absorb_append K H a b m h n]
    congr 1
    rw [List.drop_append, List.drop_eq_nil_of_le (by omega), List.nil_append]
    congr 1; omega
/-- byte i, counted from the right, of the number of bits -/
def lenByte (n : Nat) (i : Nat) : UInt8 := UInt8.ofNat (8 * n / 2 ^ (8 * i))
/-- k bytes of the length, of eight, from the left -/
def lenBytes (n : Nat) : Nat → List UInt8
  | 0 => []
  | k + 1 => lenBytes n k ++ [lenByte n (7 - k)]
theorem lenBytes_length (n k : Nat) : (lenBytes n k).length = k := by induction k with | zero => rfl | succ k ih => simp [lenBytes, ih]
def zeros (n : Nat) : Nat := (119 - n % 64) % 64
/-- what follows a string of length n -/
def tailOf (n : Nat) : List UInt8 := 128 :: (List.replicate (zeros n) 0 ++ lenBytes n 8)
def pad (l : List UInt8) : List UInt8 := l ++ tailOf l.length
theorem tailOf_length (n : Nat) : (tailOf n).length = 9 + zeros n := by simp [tailOf, lenBytes_length]; omega
theorem pad_length (l : List UInt8) : (pad l).length = 64 * ((l.length + 9 + zeros l.length) / 64) := by
  simp only [pad, List.length_append, tailOf_length, zeros]
  omega
def blocksOf (n : Nat) : Nat := (n + 9 + zeros n) / 64
/-- the bytes of a word -/
def wbytes (x : Int) : List UInt8 := [UInt8.ofNat (x / 16777216 % 256).toNat, UInt8.ofNat (x / 65536 % 256).toNat, UInt8.ofNat (x / 256 % 256).toNat, UInt8.ofNat (x % 256).toNat]
/-- the bytes of the first n words -/
def outBytes (V : List Int) : Nat → List UInt8
  | 0 => []
  | n + 1 => outBytes V n ++ wbytes (V.getD n 0)
theorem outBytes_length (V : List Int) (n : Nat) : (outBytes V n).length = 4 * n := by induction n with | zero => rfl | succ n ih => simp [outBytes, ih, wbytes]; omega
def KS : List Int := [1116352408, 1899447441, 3049323471, 3921009573, 961987163, 1508970993, 2453635748, 2870763221, 3624381080, 310598401, 607225278, 1426881987, 1925078388, 2162078206, 2614888103, 3248222580, 3835390401, 4022224774, 264347078, 604807628, 770255983, 1249150122, 1555081692, 1996064986, 2554220882, 2821834349, 2952996808, 3210313671, 3336571891, 3584528711, 113926993, 338241895, 666307205, 773529912, 1294757372, 1396182291, 1695183700, 1986661051, 2177026350, 2456956037, 2730485921, 2820302411, 3259730800, 3345764771, 3516065817, 3600352804, 4094571909, 275423344, 430227734, 506948616, 659060556, 883997877, 958139571, 1322822218, 1537002063, 1747873779, 1955562222, 2024104815, 2227730452, 2361852424, 2428436474, 2756734187, 3204031479, 3329325298]
def H0 : List Int := [1779033703, 3144134277, 1013904242, 2773480762, 1359893119, 2600822924, 528734635, 1541459225]
/-- SHA-256 -/
def sha (l : List UInt8) : List UInt8 := outBytes (absorb KS H0 (pad l) (blocksOf l.length)) 8
theorem sha_length (l : List UInt8) : (sha l).length = 32 := outBytes_length _ 8
/-- the same, where the whole blocks are taken first -/
theorem sha_parts (l : List UInt8) (m : Nat) (hm : m = l.length / 64) : sha l = outBytes (absorb KS (absorb KS H0 (l.take (64 * m)) m) (l.drop (64 * m) ++ tailOf l.length) (blocksOf l.length - m)) 8 := by
  rw [sha, pad]
  have h : l ++ tailOf l.length = l.take (64 * m) ++ (l.drop (64 * m) ++ tailOf l.length) := by rw [← List.append_assoc, List.take_append_drop]
  have hb : m ≤ blocksOf l.length := by unfold blocksOf; omega
  rw [h]
  conv => lhs; rw [show blocksOf l.length = m + (blocksOf l.length - m) by omega]
  rw [absorb_append KS H0 _ _ m (by rw [List.length_take]; omega)]
end Go.Proofs.YtnahkfchcminpaaGreatDoor
/- The reference's turns of words. -/
namespace Go.Proofs.YtnahkfchcminpaaGreatDoor
open Go.RowKit
set_option maxRecDepth 100000 in
theorem rright7 (x : Int) (w : World) :
    Calls Tryz.prog 103 #[.int .u32 x, .int .i64 7] w fun e w' => e = .returned (.int .u32 (rotr x 128 33554432)) ∧ w = w' := by
  go_enter Tryz.func103, Tryz.ntmps103
  go_wp2
  go_ret
  exact ⟨rfl, rfl⟩

set_option maxRecDepth 100000 in
theorem rright18 (x : Int) (w : World) :
    Calls Tryz.prog 103 #[.int .u32 x, .int .i64 18] w fun e w' => e = .returned (.int .u32 (rotr x 262144 16384)) ∧ w = w' := by
  go_enter Tryz.func103, Tryz.ntmps103
  go_wp2
  go_ret
  exact ⟨rfl, rfl⟩

set_option maxRecDepth 100000 in
theorem rright17 (x : Int) (w : World) :
    Calls Tryz.prog 103 #[.int .u32 x, .int .i64 17] w fun e w' => e = .returned (.int .u32 (rotr x 131072 32768)) ∧ w = w' := by
  go_enter Tryz.func103, Tryz.ntmps103
  go_wp2
  go_ret
  exact ⟨rfl, rfl⟩

set_option maxRecDepth 100000 in
theorem rright19 (x : Int) (w : World) :
    Calls Tryz.prog 103 #[.int .u32 x, .int .i64 19] w fun e w' => e = .returned (.int .u32 (rotr x 524288 8192)) ∧ w = w' := by
  go_enter Tryz.func103, Tryz.ntmps103
  go_wp2
  go_ret
  exact ⟨rfl, rfl⟩

set_option maxRecDepth 100000 in
theorem rright6 (x : Int) (w : World) :
    Calls Tryz.prog 103 #[.int .u32 x, .int .i64 6] w fun e w' => e = .returned (.int .u32 (rotr x 64 67108864)) ∧ w = w' := by
  go_enter Tryz.func103, Tryz.ntmps103
  go_wp2
  go_ret
  exact ⟨rfl, rfl⟩

set_option maxRecDepth 100000 in
theorem rright11 (x : Int) (w : World) :
    Calls Tryz.prog 103 #[.int .u32 x, .int .i64 11] w fun e w' => e = .returned (.int .u32 (rotr x 2048 2097152)) ∧ w = w' := by
  go_enter Tryz.func103, Tryz.ntmps103
  go_wp2
  go_ret
  exact ⟨rfl, rfl⟩

set_option maxRecDepth 100000 in
theorem rright25 (x : Int) (w : World) :
    Calls Tryz.prog 103 #[.int .u32 x, .int .i64 25] w fun e w' => e = .returned (.int .u32 (rotr x 33554432 128)) ∧ w = w' := by
  go_enter Tryz.func103, Tryz.ntmps103
  go_wp2
  go_ret
  exact ⟨rfl, rfl⟩

set_option maxRecDepth 100000 in
theorem rright2 (x : Int) (w : World) :
    Calls Tryz.prog 103 #[.int .u32 x, .int .i64 2] w fun e w' => e = .returned (.int .u32 (rotr x 4 1073741824)) ∧ w = w' := by
  go_enter Tryz.func103, Tryz.ntmps103
  go_wp2
  go_ret
  exact ⟨rfl, rfl⟩

set_option maxRecDepth 100000 in
theorem rright13 (x : Int) (w : World) :
    Calls Tryz.prog 103 #[.int .u32 x, .int .i64 13] w fun e w' => e = .returned (.int .u32 (rotr x 8192 524288)) ∧ w = w' := by
  go_enter Tryz.func103, Tryz.ntmps103
  go_wp2
  go_ret
  exact ⟨rfl, rfl⟩

set_option maxRecDepth 100000 in
theorem rright22 (x : Int) (w : World) :
    Calls Tryz.prog 103 #[.int .u32 x, .int .i64 22] w fun e w' => e = .returned (.int .u32 (rotr x 4194304 1024)) ∧ w = w' := by
  go_enter Tryz.func103, Tryz.ntmps103
  go_wp2
  go_ret
  exact ⟨rfl, rfl⟩
theorem rright_any (x n : Int) (w : World) (h : n ∈ rots) :
    Calls Tryz.prog 103 #[.int .u32 x, .int .i64 n] w fun e w' => e = .returned (.int .u32 (rot x n)) ∧ w = w' := by
  rcases rots_all h with rfl | rfl | rfl | rfl | rfl | rfl | rfl | rfl | rfl | rfl
  · exact rright7 x w
  · exact rright18 x w
  · exact rright17 x w
  · exact rright19 x w
  · exact rright6 x w
  · exact rright11 x w
  · exact rright25 x w
  · exact rright2 x w
  · exact rright13 x w
  · exact rright22 x w
end Go.Proofs.YtnahkfchcminpaaGreatDoor
/- The constants and the beginning. -/
namespace Go.Proofs.YtnahkfchcminpaaGreatDoor
open Go.RowKit
set_option maxRecDepth 100000 in
theorem begin_walk (w : World) : Calls Tryz.prog 104 #[] w fun e w' => e = .returned (.agg (u32s H0).toArray) ∧ Below w.heap.size w w' := by
  go_enter Tryz.func104, Tryz.ntmps104
  go_wp2
  refine bodyPost_ret (results_cell_row rfl _ _ w.heap.size _ (u32s H0).toArray _ _ rfl (heap_alloc_new w _) Tryz.underlying113 rfl (by kernel_rfl)) rfl ⟨rfl, (Below.refl _ _).alloc (Nat.le_refl _) _⟩
set_option maxRecDepth 100000 in
theorem constants_walk (w : World) : Calls Tryz.prog 105 #[] w fun e w' => e = .returned (.pointer (some ⟨w.heap.size, 0, none⟩)) ∧ Wd w' w.heap.size 101 KS ∧ Below w.heap.size w w' := by
  go_enter Tryz.func105, Tryz.ntmps105
  go_wp2_with (refine wpList_build rfl _ _ rfl ?hf ?_)
  case hf => kernel_rfl
  generalize hA : Option.getD (Program.built _ _ _) _ = A
  have hA' : A = (u32s KS).toArray := by rw [← hA]; kernel_rfl
  clear hA
  subst hA'
  go_wp2
  go_ret
  exact ⟨rfl, heap_alloc_new w _, (Below.refl _ _).alloc (Nat.le_refl _) _⟩
end Go.Proofs.YtnahkfchcminpaaGreatDoor
/- The reference's constants and beginning. -/
namespace Go.Proofs.YtnahkfchcminpaaGreatDoor
open Go.RowKit
set_option maxRecDepth 100000 in
theorem first_walk (w : World) : Calls Tryz.prog 88 #[] w fun e w' => e = .returned (.agg (u32s H0).toArray) ∧ Below w.heap.size w w' := by
  go_enter Tryz.func88, Tryz.ntmps88
  go_wp2
  refine bodyPost_ret (results_cell_row rfl _ _ w.heap.size _ (u32s H0).toArray _ _ rfl (heap_alloc_new w _) Tryz.underlying99 rfl (by kernel_rfl)) rfl ⟨rfl, (Below.refl _ _).alloc (Nat.le_refl _) _⟩
set_option maxRecDepth 100000 in
set_option maxHeartbeats 1000000 in
theorem rconstants_walk (w : World) : Calls Tryz.prog 89 #[] w fun e w' => e = .returned (.agg (u32s KS).toArray) ∧ Below w.heap.size w w' := by
  go_enter Tryz.func89, Tryz.ntmps89
  go_wp2_with (refine wpList_build rfl _ _ rfl ?hf ?_)
  case hf => kernel_rfl
  generalize hA : Option.getD (Program.built _ _ _) _ = A
  have hA' : A = (u32s KS).toArray := by rw [← hA]; kernel_rfl
  clear hA
  subst hA'
  go_wp2
  rw [run_storeCells_from (P := Tryz.prog) w.heap.size 101 (u32s KS) 0 _ _ (heap_alloc_new w _) (by kernel_rfl) (by intro v hv; obtain ⟨_, _, rfl⟩ := List.mem_map.1 hv; rfl)]
  generalize hw2 : World.setRow _ _ _ = w2
  have hW : w2.heap[w.heap.size]? = some (.cells (u32s KS).toArray 101 (0, 0)) := by rw [← hw2]; exact setRow_heap _ _ _ _ _ _ (heap_alloc_new w _)
  have hB : Below w.heap.size w w2 := by
    rw [← hw2]
    exact ⟨rfl, rfl, rfl, by simp, fun k hk => (setRow_other _ _ _ _ (by omega)).trans (Below.heap_alloc w _ k hk)⟩
  clear hw2
  simp only [Result.andThen]
  go_wp2
  refine bodyPost_ret (results_cell_row rfl _ _ w.heap.size _ (u32s KS).toArray _ _ rfl hW Tryz.underlying101 rfl (by kernel_rfl)) rfl ⟨rfl, hB⟩
end Go.Proofs.YtnahkfchcminpaaGreatDoor
