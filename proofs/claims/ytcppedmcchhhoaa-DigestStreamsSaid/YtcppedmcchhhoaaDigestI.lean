/- Streams, lists, digits: the program's and the reference's. -/
import Derived.Test.YtcppedmcchhhoaaDigestH
import Derived.Laws.OwnMore
namespace Go.Proofs.Ytcppedmcchhhoaa
open Go.RowKit
theorem eli : ElemOf Try.prog 29 3 (.int .i64 0) 1 8 := ⟨Try.underlying29, by kernel_rfl, rfl, by decide, by decide⟩
/-- 'make' of n cells -/
theorem make_ow {P : Program} (w : World) {t e : TypeId} {z : Value} {bytes : Nat} (hE : ElemOf P t e z 1 bytes) (hz : z.cells = #[z]) (n : Nat) (hn : bytes * n ≤ 140737488355328) :
    ∃ w', (Instr.makeSlice t (.int .i64 (n : Int)) (.int .i64 (n : Int))).run P w = .ok (.slice (some ⟨w.heap.size, 0, none⟩) n n) w' ∧ Ow w' w.heap.size 1 (some ⟨w.heap.size, 0, none⟩) n n (List.replicate n z) ∧ Below w.heap.size w w' := by
  obtain ⟨i, hi, hzz, hsize, hby⟩ := info_parts hE.i
  have hn1 : n ≤ bytes * n := Nat.le_mul_of_pos_left n hE.b
  obtain ⟨w', h1, h2, h3⟩ := run_make_full (P := P) w w.heap.size t e i z 1 hE.u hi hzz hsize .i64 .i64 n (by rw [hby]; omega) (by simp only [maxLen]; omega) (Nat.le_refl _)
  obtain ⟨a, cap, he, ho⟩ := Ow.of_row h2
  simp only [Value.slice.injEq, true_and] at he
  obtain ⟨rfl, rfl⟩ := he
  rw [Nat.mul_one, hz, toList_madeCells_one] at ho
  exact ⟨w', h1, ho, ⟨h3.os, h3.tape, h3.output, h3.size, fun k hk => h3.block k hk (by simp)⟩⟩
theorem ints_set (l : List Int) (j : Nat) (x : Int) : (ints l).set j (.int .i64 x) = ints (l.set j x) := by simp [ints]
theorem Ow.slot {w : World} {base size : Nat} {g off n cap : Nat} {xs : List Value} (h : Ow w base size (some ⟨g, off, none⟩) n cap xs) {j : Nat} (hj : j < cap * size) : (w.cell? ⟨g, off + j, none⟩).isSome = true ∧ w.frozen? ⟨g, off + j, none⟩ = false := by
  obtain ⟨_, _, _, ⟨h1, _⟩ | ⟨g', off', ha, _, _, _, hf⟩⟩ := h
  · simp at h1
  · simp only [Option.some.injEq, Addr.mk.injEq, and_true] at ha
    obtain ⟨rfl, rfl⟩ := ha
    exact hf j hj
def strmAt (p : Int) (s : List UInt8) (i : Nat) : Int := (num7 (pairL s (wbytes i)) 7 : Int) % p
def strm (p : Int) (s : List UInt8) : Nat → List Int
  | 0 => []
  | n + 1 => strm p s n ++ [strmAt p s n]
theorem strm_length (p : Int) (s : List UInt8) (n : Nat) : (strm p s n).length = n := by induction n with | zero => rfl | succ n ih => simp [strm, ih]
theorem pairL_length (a b : List UInt8) : (pairL a b).length = 32 := sha_length _
set_option maxRecDepth 100000 in
theorem rstream_walk (p : Int) (s : List UInt8) (n : Nat) (w : World) (hp : 1 ≤ p) (hp2 : p < 4294967296) (hs : s.length ≤ 140737486000000) (hn : n ≤ 1048576) :
    Calls Try.prog 46 #[.int .i64 p, .string ⟨s.toArray⟩, .int .i64 n] w fun e w' => ∃ a cap, e = .returned (.slice a n cap) ∧ Rd w' a (ints (strm p s n)) ∧ Below w.heap.size w w' := by
  go_enter Try.func46, Try.ntmps46
  go_wp2
  go_loopw [7, 8, 10] (fun v _ i wr => ∃ (k : Nat) (L : List Int) (a : Option Addr) (cap : Nat), k ≤ n ∧ i = .int .i64 (k : Int) ∧ v = .slice a k cap ∧ L = strm p s k ∧ Ow wr w.heap.size 1 a k cap (ints L) ∧ Below w.heap.size w wr) (fun _ _ i _ => n - (intOf i).toNat)
  case atStart => exact ⟨0, [], none, 0, by omega, rfl, rfl, rfl, Ow.nil _ _ _, Below.refl _ _⟩
  case round =>
    obtain ⟨k, L, sa, cap, hk, rfl, rfl, hL, hown, hbel⟩ := hrel
    have HL := Lib.hid hL
    clear hL
    by_cases hkt : k < n
    · go_wp2_with (go_at_call 67; (with_reducible refine (rfour_walk _ _ (I64.nat (by omega))).mono ?_))
      rintro e w1 ⟨rfl, hb1⟩
      have hwl := wbytes_length (k : Int)
      go_wp2_with (go_at_call 39; (with_reducible refine (rpair_walk _ _ _ ?hl).mono ?_))
      case hl => omega
      rintro e w2 ⟨rfl, hb2⟩
      have hpl := pairL_length s (wbytes k)
      go_wp2_with (go_at_call 71; (with_reducible refine (rnumber_walk _ _ (by omega)).mono ?_))
      rintro e w3 ⟨rfl, rfl⟩
      have hx : strmAt p s k = (num7 (pairL s (wbytes k)) 7 : Int) % p := rfl
      have hown2 := (hown.keep hb1).keep hb2
      have hbel2 := (hbel.trans (hb1.mono hbel.size)).trans (hb2.mono (hbel.trans (hb1.mono hbel.size)).size)
      clear hown hbel hb1 hb2
      generalize num7 (pairL s (wbytes k)) 7 = m at hx ⊢
      have hm1 := Int.emod_nonneg (m : Int) (show p ≠ 0 by omega)
      have hm2 := Int.emod_lt_of_pos (m : Int) (show 0 < p by omega)
      have HX := Lib.hid hx
      clear hx
      go_wp2_with (at_builtin; refine wpList_app1 (w0 := w) (B := w.heap.size) rfl _ _ _ rfl eli rfl hown2 hbel2 (by omega) hbel2.size (cs := [_]) rfl rfl (one1 rfl) (by omega) ?_)
      intro a4 cap4 w4 hown4 hbel4 _
      rw [ints_snoc] at hown4
      go_wp2
      go_roundw
      case rel => exact ⟨k + 1, L ++ [(m : Int) % p], a4, cap4, by omega, by go_num, by simp, by rw [HL.out, strm, HX.out], hown4, hbel4⟩
      case measure => simp [intOf]; omega
    · obtain rfl : k = n := by omega
      go_wp2
      go_ret
      exact ⟨_, _, rfl, by rw [← HL.out]; exact hown.rd, hbel⟩
set_option maxRecDepth 100000 in
theorem stream_walk (p : Int) (s : List UInt8) (n : Nat) (w : World) (hp : 1 ≤ p) (hp2 : p < 4294967296) (hs : s.length ≤ 140737486000000) (hn : n ≤ 2048) :
    Calls Try.prog 45 #[.int .i64 p, .string ⟨s.toArray⟩, .int .i64 n] w fun e w' => ∃ a cap, e = .returned (.slice a n cap) ∧ Rd w' a (ints (strm p s n)) ∧ Below w.heap.size w w' := by
  go_enter Try.func45, Try.ntmps45
  have h1 : max (n : Int) 0 = n := by omega
  have h2 : min (n : Int) 2048 = n := by omega
  obtain ⟨wm, hmk, hown0, hbel0⟩ := make_ow (P := Try.prog) w eli rfl n (by omega)
  go_wp2
  clear hmk h1 h2
  go_loopw [8, 15] (fun _ i wr => ∃ (k : Nat) (L : List Int), k ≤ n ∧ i = .int .i64 (k : Int) ∧ L = strm p s k ++ List.replicate (n - k) 0 ∧ Ow wr w.heap.size 1 (some ⟨w.heap.size, 0, none⟩) n n (ints L) ∧ Below w.heap.size w wr) (fun _ i _ => n - (intOf i).toNat)
  case atStart => exact ⟨0, List.replicate n 0, by omega, rfl, by simp [strm], by simpa [ints] using hown0, hbel0⟩
  case round =>
    clear hown0 hbel0
    obtain ⟨k, L, hk, rfl, hL, hown, hbel⟩ := hrel
    have hLl : L.length = n := by rw [hL]; simp [strm_length]; omega
    have HL := Lib.hid hL
    clear hL
    by_cases hkt : k < n
    · go_wp2_with (go_at_call 66; (with_reducible refine (four_walk _ _ (I64.nat (by omega))).mono ?_))
      rintro e w1 ⟨rfl, hb1⟩
      have hwl := wbytes_length (k : Int)
      go_wp2_with (go_at_call 38; (with_reducible refine (pair_walk _ _ _ ?hl).mono ?_))
      case hl => omega
      rintro e w2 ⟨rfl, hb2⟩
      have hpl := pairL_length s (wbytes k)
      go_wp2_with (go_at_call 70; (with_reducible refine (number_walk _ _ (by omega)).mono ?_))
      rintro e w3 ⟨rfl, rfl⟩
      have hx : strmAt p s k = (num7 (pairL s (wbytes k)) 7 : Int) % p := rfl
      have hown2 := (hown.keep hb1).keep hb2
      have hbel2 := (hbel.trans (hb1.mono hbel.size)).trans (hb2.mono (hbel.trans (hb1.mono hbel.size)).size)
      clear hown hbel hb1 hb2
      generalize num7 (pairL s (wbytes k)) 7 = m at hx ⊢
      have hm1 := Int.emod_nonneg (m : Int) (show p ≠ 0 by omega)
      have hm2 := Int.emod_lt_of_pos (m : Int) (show 0 < p by omega)
      have HX := Lib.hid hx
      clear hx
      have hmp : max p 1 = p := by omega
      have hc0 := hown2.2.2.2
      obtain ⟨hcx, hfr⟩ := hown2.slot (j := k) (by omega)
      obtain ⟨hown3, hg3⟩ := hown2.stored k (.int .i64 ((m : Int) % p))
      have hbel3 := hbel2.grown hg3 hbel2.size (by intro k hk; simp at hk; omega)
      clear hc0
      obtain ⟨cx, hcx⟩ := Option.isSome_iff_exists.1 hcx
      simp only [Nat.zero_add] at hcx hfr hown3 hg3 hbel3
      go_wp2
      go_roundw
      case rel =>
        refine ⟨k + 1, L.set k ((m : Int) % p), by omega, by go_num, ?_, ?_, hbel3⟩
        · rw [HL.out, show n - k = (n - (k + 1)) + 1 by omega, List.replicate_succ, strm, HX.out, List.set_append_right _ _ (by rw [strm_length]; omega), strm_length]
          simp
        · rw [← ints_set]; exact hown3
      case measure => simp [intOf]; omega
    · obtain rfl : k = n := by omega
      go_wp2
      go_ret
      exact ⟨_, _, rfl, by have := hown.rd; rw [HL.out] at this; simpa using this, hbel⟩
theorem listB_succ {l : List (List UInt8)} {k : Nat} {x : List UInt8} (h : Hid (l[k]? = some x)) : listB l (k + 1) = listB l k ++ (wbytes x.length ++ x) := by
  rw [listB, take_at h, List.flatMap_append]; simp [listB]
theorem listB_le {l : List (List UInt8)} {k n : Nat} (h : k ≤ n) : (listB l k).length ≤ (listB l n).length := by
  have : l.take n = l.take k ++ (l.take n).drop k := by
    conv => lhs; rw [← List.take_append_drop k (l.take n)]
    rw [List.take_take, Nat.min_eq_left h]
  rw [listB, listB, this, List.flatMap_append, List.length_append]
  omega
set_option maxRecDepth 100000 in
theorem list_walk (p : Option Addr) (l : List (List UInt8)) (cap : Nat) (w : World) (hR : Rd w p (strs l)) (hl : l.length ≤ 281474976710656) (hb : (listB l l.length).length ≤ 140737487000000) :
    Calls Try.prog 40 #[.slice p l.length cap] w fun e w' => e = .returned (.string ⟨(listL l).toArray⟩) ∧ Below w.heap.size w w' := by
  have hB0 := Bld.new w
  have hb0 := (Below.refl w.heap.size w).alloc (Nat.le_refl _) (.cells #[.pointer none, .slice none 0 0] 82)
  have hwl := wbytes_length (l.length : Int)
  go_enter Try.func40, Try.ntmps40
  go_wp2_with (go_at_call 66; (with_reducible refine (four_walk _ _ (I64.nat (by omega))).mono ?_))
  rintro e w1 ⟨rfl, hb1⟩
  replace hB0 := hB0.keep hb1
  replace hb1 := hb0.trans (hb1.mono hb0.size)
  go_wp2_with (go_at_call 68; (with_reducible refine (writeString_walk _ _ _ _ _ hB0 ?hl hb1.size).mono ?_))
  case hl => simp; omega
  rintro e w2 ⟨rfl, hB2, hb2⟩
  replace hb2 := hb1.trans hb2
  have e2 : [] ++ (2 :: wbytes (l.length : Int)) = [2] ++ wbytes l.length ++ listB l 0 := by simp [listB]
  rw [e2] at hB2
  clear hB0 hb0 hb1 e2
  have hw2 := hb2.size
  go_wp2
  go_loopw [5, 13] (fun _ i wr => ∃ (k : Nat) (L : List UInt8), k ≤ l.length ∧ i = .int .i64 (k : Int) ∧ L = [2] ++ wbytes l.length ++ listB l k ∧ Bld wr w.heap.size w.heap.size L ∧ Below w.heap.size w wr) (fun _ i _ => l.length - (intOf i).toNat)
  case atStart => exact ⟨0, _, by omega, rfl, rfl, hB2, hb2⟩
  case round =>
    clear hB2 hb2
    obtain ⟨k, L, hk, rfl, hL, hB, hb'⟩ := hrel
    have hLl : L.length ≤ 140737487000005 := by
      have := listB_le (l := l) hk
      rw [hL]; simp [hwl]; omega
    have HL := Lib.hid hL
    clear hL
    by_cases hkt : k < l.length
    · obtain ⟨g, off, x, rfl, hcell, hx⟩ := (hR.keep hb').str hkt
      have hs := listB_succ hx
      have hxl : L.length + (4 + x.length) ≤ 140737487000005 := by
        have := listB_le (l := l) (show k + 1 ≤ l.length by omega)
        rw [hs] at this
        rw [HL.out]; simp [wbytes_length] at this ⊢; omega
      have hwx := wbytes_length (x.length : Int)
      go_wp2_with (go_at_call 66; (with_reducible refine (four_walk _ _ (I64.nat (by omega))).mono ?_))
      rintro e w3 ⟨rfl, hb3⟩
      replace hB := hB.keep hb3
      replace hb' := hb'.trans (hb3.mono hb'.size)
      go_wp2_with (go_at_call 68; (with_reducible refine (writeString_walk _ _ _ _ _ hB ?hl hb'.size).mono ?_))
      case hl => simp; omega
      rintro e w4 ⟨rfl, hB4, hb4⟩
      go_wp2
      go_roundw
      case rel => exact ⟨k + 1, _, by omega, by go_num, by rw [HL.out, hs]; simp, hB4, hb'.trans hb4⟩
      case measure => simp [intOf]; omega
    · obtain rfl : k = l.length := by omega
      go_wp2_with (go_at_call 65; (with_reducible refine (string_walk _ _ _ _ hB hb'.size).mono ?_))
      rintro e w3 ⟨rfl, hb3⟩
      go_wp2_with (go_at_call 34; (with_reducible refine (sum_walk _ _ ?hl).mono ?_))
      case hl => omega
      rintro e w4 ⟨rfl, hb4⟩
      go_wp2
      go_ret
      exact ⟨ret_str (by rw [listL, HL.out]), (hb'.trans hb3).trans (hb4.mono (hb'.trans hb3).size)⟩
set_option maxRecDepth 100000 in
theorem rlist_walk (p : Option Addr) (l : List (List UInt8)) (cap : Nat) (w : World) (hR : Rd w p (strs l)) (hl : l.length ≤ 281474976710656) (hb : (listB l l.length).length ≤ 140737487000000) :
    Calls Try.prog 41 #[.slice p l.length cap] w fun e w' => e = .returned (.string ⟨(listL l).toArray⟩) ∧ Below w.heap.size w w' := by
  have hwl := wbytes_length (l.length : Int)
  go_enter Try.func41, Try.ntmps41
  go_wp2_with (go_at_call 67; (with_reducible refine (rfour_walk _ _ (I64.nat (by omega))).mono ?_))
  rintro e w1 ⟨rfl, hb1⟩
  go_wp2
  go_loopw [3, 5, 12] (fun v _ i wr => ∃ (k : Nat) (L : List UInt8), k ≤ l.length ∧ i = .int .i64 (k : Int) ∧ v = .string ⟨L.toArray⟩ ∧ L = [2] ++ wbytes l.length ++ listB l k ∧ Below w.heap.size w wr) (fun _ _ i _ => l.length - (intOf i).toNat)
  case atStart => exact ⟨0, _, by omega, rfl, rfl, by simp [listB], hb1⟩
  case round =>
    clear hb1
    obtain ⟨k, L, hk, rfl, rfl, hL, hb'⟩ := hrel
    have hLl : L.length ≤ 140737487000005 := by
      have := listB_le (l := l) hk
      rw [hL]; simp [hwl]; omega
    have HL := Lib.hid hL
    clear hL
    by_cases hkt : k < l.length
    · obtain ⟨g, off, x, rfl, hcell, hx⟩ := (hR.keep hb').str hkt
      have hs := listB_succ hx
      have hxl : L.length + (4 + x.length) ≤ 140737487000005 := by
        have := listB_le (l := l) (show k + 1 ≤ l.length by omega)
        rw [hs] at this
        rw [HL.out]; simp [wbytes_length] at this ⊢; omega
      have hwx := wbytes_length (x.length : Int)
      go_wp2_with (go_at_call 67; (with_reducible refine (rfour_walk _ _ (I64.nat (by omega))).mono ?_))
      rintro e w3 ⟨rfl, hb3⟩
      replace hb' := hb'.trans (hb3.mono hb'.size)
      go_wp2
      go_roundw
      case rel => exact ⟨k + 1, L ++ (wbytes x.length ++ x), by omega, by go_num, by simp, by rw [HL.out, hs]; simp, hb'⟩
      case measure => simp [intOf]; omega
    · obtain rfl : k = l.length := by omega
      go_wp2_with (go_at_call 35; (with_reducible refine (rsum_walk _ _ ?hl).mono ?_))
      case hl => omega
      rintro e w4 ⟨rfl, hb4⟩
      go_wp2
      go_ret
      exact ⟨ret_str (by rw [listL, HL.out]), hb'.trans (hb4.mono hb'.size)⟩
end Go.Proofs.Ytcppedmcchhhoaa
