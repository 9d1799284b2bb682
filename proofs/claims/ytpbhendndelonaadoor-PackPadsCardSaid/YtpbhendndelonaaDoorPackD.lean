/- Strings of bits. -/
import Derived.Test.YtpbhendndelonaaDoorPackC
import Derived.Laws.OwnMore
namespace Go.Proofs.YtpbhendndelonaaDoor
open Go.RowKit
theorem make_bytes {P : Program} (w : World) {t e : TypeId} {z : Value} {bytes : Nat} (hE : ElemOf P t e z 1 bytes) (hz : z.cells = #[z]) (n : Nat) (hn : bytes * n ≤ 140737488355328) :
    ∃ w', (Instr.makeSlice t (.int .i64 (n : Int)) (.int .i64 (n : Int))).run P w = .ok (.slice (some ⟨w.heap.size, 0, none⟩) n n) w' ∧ Ow w' w.heap.size 1 (some ⟨w.heap.size, 0, none⟩) n n (List.replicate n z) ∧ Below w.heap.size w w' := by
  obtain ⟨i, hi, hzz, hsize, hby⟩ := info_parts hE.i
  have hn1 : n ≤ bytes * n := Nat.le_mul_of_pos_left n hE.b
  obtain ⟨w', h1, h2, h3⟩ := run_make_full (P := P) w w.heap.size t e i z 1 hE.u hi hzz hsize .i64 .i64 n (by rw [hby]; omega) (by simp only [maxLen]; omega) (Nat.le_refl _)
  obtain ⟨a, cap, he, ho⟩ := Ow.of_row h2
  simp only [Value.slice.injEq, true_and] at he
  obtain ⟨rfl, rfl⟩ := he
  rw [Nat.mul_one, hz, toList_madeCells_one] at ho
  exact ⟨w', h1, ho, ⟨h3.os, h3.tape, h3.output, h3.size, fun k hk => h3.block k hk (by simp)⟩⟩
theorem Ow.slot2 {w : World} {base size : Nat} {g off n cap : Nat} {xs : List Value} (h : Ow w base size (some ⟨g, off, none⟩) n cap xs) : (∀ j u, xs[j]? = some u → w.cell? ⟨g, off + j, none⟩ = some u) ∧ ∀ j, j < cap * size → w.frozen? ⟨g, off + j, none⟩ = false := by
  obtain ⟨_, _, _, ⟨h1, _⟩ | ⟨g', off', ha, _, _, hx, hf⟩⟩ := h
  · simp at h1
  · simp only [Option.some.injEq, Addr.mk.injEq, and_true] at ha
    obtain ⟨rfl, rfl⟩ := ha
    exact ⟨hx, fun j hj => (hf j hj).2⟩
/-- the bytes behind i bits of s -/
def partL (s : List UInt8) (i : Nat) : List UInt8 := s.take (i / 8) ++ (if i % 8 = 0 then List.replicate (s.length - i / 8) 0 else partB (s.getD (i / 8) 0) (i % 8) :: List.replicate (s.length - i / 8 - 1) 0)
theorem partL_length (s : List UInt8) (i : Nat) (h : i ≤ 8 * s.length) : (partL s i).length = s.length := by
  unfold partL
  split
  · simp; omega
  · simp; omega
theorem partL_at (s : List UInt8) (i : Nat) (h : i < 8 * s.length) : (partL s i)[i / 8]? = some (partB (s.getD (i / 8) 0) (i % 8)) := by
  unfold partL
  rw [List.getElem?_append_right (by simp; omega), List.length_take, show i / 8 - min (i / 8) s.length = 0 by omega]
  split
  · rename_i h0
    rw [h0, partB_0, List.getElem?_replicate, if_pos (by omega)]
  · rfl
theorem partL_set (s : List UInt8) (i : Nat) (h : i < 8 * s.length) : (partL s i).set (i / 8) (partB (s.getD (i / 8) 0) (i % 8 + 1)) = partL s (i + 1) := by
  have hl : (s.take (i / 8)).length = i / 8 := by simp; omega
  have e1 : (partL s i).set (i / 8) (partB (s.getD (i / 8) 0) (i % 8 + 1)) = s.take (i / 8) ++ partB (s.getD (i / 8) 0) (i % 8 + 1) :: List.replicate (s.length - i / 8 - 1) 0 := by
    unfold partL
    rw [List.set_append_right _ _ (by omega), hl, Nat.sub_self]
    split
    · rw [show s.length - i / 8 = (s.length - i / 8 - 1) + 1 by omega, List.replicate_succ]
      simp
    · simp
  rw [e1]
  by_cases h7 : i % 8 = 7
  · have hd : (i + 1) / 8 = i / 8 + 1 := by omega
    have hm : (i + 1) % 8 = 0 := by omega
    have hg : s[i / 8]? = some s[i / 8] := List.getElem?_eq_getElem (by omega)
    have ht : s.take (i / 8 + 1) = s.take (i / 8) ++ [s[i / 8]] := by rw [List.take_add_one, hg]; rfl
    have hD : s.getD (i / 8) 0 = s[i / 8] := by rw [List.getD, hg]; rfl
    unfold partL
    rw [if_pos hm, hd, h7, partB_8, ht, hD, List.append_assoc, show s.length - (i / 8 + 1) = s.length - i / 8 - 1 by omega]
    rfl
  · have hd : (i + 1) / 8 = i / 8 := by omega
    have hm : (i + 1) % 8 = i % 8 + 1 := by omega
    unfold partL
    rw [if_neg (by omega), hd, hm]
theorem partL_end (s : List UInt8) : partL s (8 * s.length) = s := by
  unfold partL
  rw [if_pos (by omega), show 8 * s.length / 8 = s.length by omega]
  simp
theorem bitsF_get (c : UInt8) : ∀ n r, r < n → (bitsF c n)[r]? = some ((c.toNat / 2 ^ (7 - r) % 2 : Nat) : Int)
  | 0, r, h => by omega
  | n + 1, r, h => by
    rw [bitsF]
    by_cases hr : r < n
    · rw [List.getElem?_append_left (by rw [bitsF_length]; exact hr), bitsF_get c n r hr]
    · obtain rfl : r = n := by omega
      rw [List.getElem?_append_right (by rw [bitsF_length]; exact Nat.le_refl _), bitsF_length]
      simp
theorem bitsL_get (s : List UInt8) : ∀ k, k ≤ s.length → ∀ i, i < 8 * k → (bitsL s k)[i]? = some (((s.getD (i / 8) 0).toNat / 2 ^ (7 - i % 8) % 2 : Nat) : Int)
  | 0, _, i, h => by omega
  | k + 1, hk, i, h => by
    have hx : Hid (s[k]? = some s[k]) := List.getElem?_eq_getElem (by omega)
    rw [bitsL_succ hx]
    by_cases hi : i < 8 * k
    · rw [List.getElem?_append_left (by rw [bitsL_length s k (by omega)]; exact hi), bitsL_get s k (by omega) i hi]
    · rw [List.getElem?_append_right (by rw [bitsL_length s k (by omega)]; omega), bitsL_length s k (by omega), bits8, bitsF_get _ _ _ (by omega)]
      rw [show i / 8 = k by omega, show i - 8 * k = i % 8 by omega, List.getD, hx.out]
      rfl
theorem partB_val (c : UInt8) (r : Nat) : (partB c r).toNat = c.toNat / 2 ^ (8 - r) * 2 ^ (8 - r) := by
  have h1 := Nat.div_mul_le_self c.toNat (2 ^ (8 - r))
  have h2 := c.toNat_lt
  simp only [partB, UInt8.toNat_ofNat']
  exact Nat.mod_eq_of_lt (by omega)
theorem partB_or (c : UInt8) (r : Nat) (hr : r < 8) : bits .or .u8 ((partB c r).toNat : Int) ((c.toNat / 2 ^ (7 - r) % 2 * 2 ^ (7 - r) : Nat) : Int) = ((partB c (r + 1)).toNat : Int) := by
  have h := partB_step ⟨c.toNat, c.toNat_lt⟩ ⟨r, hr⟩
  have h1 : c.toNat / 2 ^ (7 - r) % 2 * 2 ^ (7 - r) < 256 := by
    have h2 : c.toNat / 2 ^ (7 - r) % 2 ≤ 1 := by omega
    have h3 : 2 ^ (7 - r) ≤ 2 ^ 7 := Nat.pow_le_pow_right (by omega) (by omega)
    have h4 := Nat.mul_le_mul h2 h3
    omega
  rw [u8_or_nat _ _ (partB c r).toNat_lt h1, partB_val, partB_val, show 8 - (r + 1) = 7 - r by omega]
  exact congrArg Nat.cast h
theorem wrap_small (z : Nat) (h : z ≤ 128) : wrap64 (z : Int) % 256 = (z : Int) := by
  rw [IntWalk.wrap64_in _ ⟨by omega, by omega⟩]
  omega
theorem shl_small (r : Nat) : wrap64 (2 ^ (7 - r)) % 256 = ((2 ^ (7 - r) : Nat) : Int) := by
  have h3 : 2 ^ (7 - r) ≤ 2 ^ 7 := Nat.pow_le_pow_right (by omega) (by omega)
  have hc2 : (2 : Int) ^ (7 - r) = ((2 ^ (7 - r) : Nat) : Int) := by rw [Int.natCast_pow]; rfl
  rw [hc2]
  exact wrap_small _ h3
set_option maxRecDepth 100000 in
theorem byBits_walk (p : Option Addr) (s : List UInt8) (cap0 : Nat) (w : World) (hR : Rd w p (ints (bitsL s s.length))) (hs : s.length ≤ 256) :
    Calls Tryd.prog 24 #[.slice p (8 * s.length) cap0] w fun e w' => e = .returned (.tuple #[.string ⟨s.toArray⟩, .bool true]) ∧ Below w.heap.size w w' := by
  obtain ⟨n, hn⟩ : ∃ n, n = s.length := ⟨_, rfl⟩
  obtain ⟨N, hN⟩ : ∃ N, N = 8 * s.length := ⟨_, rfl⟩
  have hq : (N : Int) / 8 = (n : Int) := by omega
  obtain ⟨wm, hmk, hown0, hbel0⟩ := make_bytes (P := Tryd.prog) w elB rfl n (by omega)
  rw [← hN]
  have HN := Lib.hid hN
  have Hn := Lib.hid hn
  have hn2 : n ≤ 256 := by omega
  have hN2 : N ≤ 2048 := by omega
  clear hN hn
  go_enter Tryd.func24, Tryd.ntmps24
  go_wp2
  clear hmk
  go_loopw [5, 6, 13] (fun _ _ i wr => ∃ (j : Nat) (L : List UInt8), j ≤ N ∧ i = .int .i64 (j : Int) ∧ L = partL s j ∧ Ow wr w.heap.size 1 (some ⟨w.heap.size, 0, none⟩) n n (u8s L) ∧ Below w.heap.size w wr) (fun _ _ i _ => N - (intOf i).toNat)
  case atStart => exact ⟨0, List.replicate n 0, by omega, rfl, by rw [partL, Hn.out]; simp, by simpa [u8s] using hown0, hbel0⟩
  case round =>
    clear hown0 hbel0
    obtain ⟨j, L, hj, rfl, hL, hown, hbel⟩ := hrel
    by_cases hjt : j < N
    · have hj8 : j < 8 * s.length := by rw [← HN.out]; exact hjt
      have hLl : L.length = n := by rw [hL, partL_length s j (by omega), Hn.out]
      have hat := partL_at s j hj8
      rw [← hL] at hat
      have hset := partL_set s j hj8
      rw [← hL] at hset
      have hbg := bitsL_get s s.length (Nat.le_refl _) j hj8
      obtain ⟨g, off, rfl, hc⟩ := (hR.keep hbel).at (by rw [ints_length, bitsL_length s _ (Nat.le_refl _)]; omega)
      have hcell := hc j _ (by rw [ints, List.getElem?_map, hbg]; rfl)
      generalize s.getD (j / 8) 0 = c at *
      obtain ⟨q, hq'⟩ : ∃ q, q = j / 8 := ⟨_, rfl⟩
      obtain ⟨r, hr'⟩ : ∃ r, r = j % 8 := ⟨_, rfl⟩
      rw [← hq'] at hat hset
      rw [← hr'] at hat hset hcell
      have hqn : q < n := by rw [Hn.out]; omega
      have hr8 : r < 8 := by omega
      have hqi : (j : Int) / 8 = (q : Int) := by omega
      have hri : (j : Int) % 8 = (r : Int) := by omega
      obtain ⟨b, hb⟩ : ∃ b, b = c.toNat / 2 ^ (7 - r) % 2 := ⟨_, rfl⟩
      rw [← hb] at hcell
      have hb1 : b < 2 := by omega
      have hor := partB_or c r hr8
      rw [← hb] at hor
      obtain ⟨hx, hf⟩ := hown.slot2
      have hcq := hx q _ (show (u8s L)[q]? = some (.int .u8 ((partB c r).toNat : Int)) by rw [u8s, List.getElem?_map, hat]; rfl)
      have hfq := hf q (by omega)
      rw [Nat.zero_add] at hcq hfq
      have hqni : (q : Int) < (n : Int) := by omega
      have h7 : (0 : Int) ≤ 7 - (r : Int) := by omega
      have HL := Lib.hid hL
      have HS := Lib.hid hset
      clear hL hset hat hbg hc hx hf hb hq' hr'
      rcases (show b = 0 ∨ b = 1 by omega) with rfl | rfl
      · have hor0 : bits .or .u8 ((partB c r).toNat : Int) 0 = ((partB c (r + 1)).toNat : Int) := by rw [← hor]; simp
        clear hor
        go_wp2
        go_region
        go_wp2
        obtain ⟨hown3, hg3⟩ := hown.stored q (.int .u8 ((partB c (r + 1)).toNat : Int))
        rw [Nat.zero_add] at hown3 hg3
        refine ⟨⟨j + 1, L.set q (partB c (r + 1)), by omega, by go_num, HS.out, by rw [← u8s_set _ _ _ _ rfl]; exact hown3, (hbel.grown hg3 hbel.size (by intro k hk; simp at hk; omega)).drew⟩, ?_⟩
        simp [intOf]; omega
      · have hor1 : bits .or .u8 ((partB c r).toNat : Int) (wrap64 (2 ^ (7 - r)) % 256) = ((partB c (r + 1)).toNat : Int) := by
          rw [shl_small, ← hor, Nat.one_mul]
        clear hor
        go_wp2
        go_region
        go_wp2
        obtain ⟨hown3, hg3⟩ := hown.stored q (.int .u8 ((partB c (r + 1)).toNat : Int))
        rw [Nat.zero_add] at hown3 hg3
        refine ⟨⟨j + 1, L.set q (partB c (r + 1)), by omega, by go_num, HS.out, by rw [← u8s_set _ _ _ _ rfl]; exact hown3, (hbel.grown hg3 hbel.size (by intro k hk; simp at hk; omega)).drew⟩, ?_⟩
        simp [intOf]; omega
    · obtain rfl : j = N := by omega
      have hLs : L = s := by rw [hL, HN.out, partL_end]
      clear hL
      subst hLs
      have hcv := run_bytes_str (P := Tryd.prog) wr 36 9 5 Tryd.underlying36 Tryd.underlying5 Tryd.underlying9 (n := n) (c := n) Hn.out.symm hown.rd
      clear hjt
      go_wp2
      go_ret2
      exact ⟨rfl, hbel⟩
end Go.Proofs.YtpbhendndelonaaDoor
