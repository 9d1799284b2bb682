/- The elements of a string. -/
import Derived.Test.YtpbhendndelonaaDoorPackA
namespace Go.Proofs.YtpbhendndelonaaDoor
open Go.RowKit
theorem elI : ElemOf Tryd.prog 22 3 (.int .i64 0) 1 8 := ⟨Tryd.underlying22, by kernel_rfl, rfl, by decide, by decide⟩
theorem elB : ElemOf Tryd.prog 36 5 (.int .u8 0) 1 1 := ⟨Tryd.underlying36, by kernel_rfl, rfl, by decide, by decide⟩
theorem bit_val (c : UInt8) (r : Nat) : bits .and .u8 ((c.toNat : Int) / 2 ^ (7 - r)) 1 = ((c.toNat / 2 ^ (7 - r) % 2 : Nat) : Int) := by
  have hc := c.toNat_lt
  have hle : c.toNat / 2 ^ (7 - r) ≤ c.toNat := Nat.div_le_self _ _
  have h := u8_and_nat (c.toNat / 2 ^ (7 - r)) 1 (by omega) (by omega)
  rw [show (c.toNat / 2 ^ (7 - r)) &&& 1 = (c.toNat / 2 ^ (7 - r)) % 2 from Nat.and_two_pow_sub_one_eq_mod _ 1, Int.natCast_ediv, Int.natCast_pow] at h
  exact h
theorem bit_cast (c : UInt8) (r : Nat) : ((c.toNat / 2 ^ (7 - r) % 2 : Nat) : Int) = (c.toNat : Int) / 2 ^ (7 - r) % 2 := by
  rw [Int.natCast_emod, Int.natCast_ediv, Int.natCast_pow]; rfl
/-- what Valid answers -/
def ValidOk (p : Int) : Prop := ∀ w, Bases w → Calls Tryd.prog 23 #[.int .i64 p] w fun e w' => e = .returned (.bool true) ∧ w = w'
set_option maxRecDepth 100000 in
theorem pack_bits (p : Int) (s : List UInt8) (w : World) (hB : Bases w) (hV : ValidOk p) (hp : 0 ≤ p) (hp2 : p ≤ 1073741824) (hs : s.length ≤ 256) (h0 : widthF p = 0) :
    Calls Tryd.prog 11 #[.int .i64 p, .string ⟨s.toArray⟩] w fun e w' => ∃ a cap, e = .returned (.tuple #[.slice a (packF p s).length cap, .int .i64 0]) ∧ Rd w' a (ints (packF p s)) ∧ Below w.heap.size w w' := by
  have hcf : countF (widthF p) s.length = 8 * s.length := by rw [h0]; simp [countF]
  have hV' : Calls Tryd.prog 23 #[.int .i64 p] w fun e w' => e = .returned (.bool true) ∧ w = w' := hV w hB
  go_enter Tryd.func11, Tryd.ntmps11
  go_wp2_with (go_at_call 23; (with_reducible refine hV'.mono ?_))
  rintro e w1 ⟨rfl, rfl⟩
  go_wp2_with (go_at_call 13; (with_reducible refine (count_walk p s.length _ hp hp2 (by omega)).mono ?_))
  rintro e w1 ⟨rfl, hb1⟩
  rw [hcf]
  go_wp2_with (go_at_call 21; (with_reducible refine (width_walk p _ hp hp2).mono ?_))
  rintro e w2 ⟨rfl, rfl⟩
  rw [h0]
  have hcv := Lib.run_convert_string_bytes (P := Tryd.prog) w1 9 36 5 ⟨s.toArray⟩ Tryd.underlying9 Tryd.underlying36 Tryd.underlying5
  have hw0 := below_bytes w1 5 ⟨s.toArray⟩
  have how := (Ow.bytes w1 5 ⟨s.toArray⟩ (by simp [maxLen, ByteArray.size]; omega)).rd
  have hcz : ((0 : Nat) : Int) = 0 := rfl
  rw [hcz]
  go_wp2
  clear hcv hcf hcz
  have hbB := hb1.trans (hw0.mono hb1.size)
  generalize Lib.bytesWorld w1 5 ⟨s.toArray⟩ = wB at *
  generalize w1.heap.size = g at *
  go_loopw [6, 9, 10, 31] (fun v _ _ i wr => ∃ (k : Nat) (L : List Int) (a : Option Addr) (cap : Nat), k ≤ s.length ∧ i = .int .i64 (k : Int) ∧ v = .slice a L.length cap ∧ L = bitsL s k ∧ Ow wr wB.heap.size 1 a L.length cap (ints L) ∧ Below wB.heap.size wB wr) (fun _ _ _ i _ => s.length - (intOf i).toNat)
  case atStart => exact ⟨0, [], none, 0, by omega, rfl, rfl, rfl, Ow.nil _ _ _, Below.refl _ _⟩
  case round =>
    obtain ⟨k, L, sa, cap, hk, rfl, rfl, hL, hown, hbel⟩ := hrel
    have hLl : L.length = 8 * k := by rw [hL]; exact bitsL_length s k hk
    have hle : L.length ≤ 2048 := by omega
    have HL := Lib.hid hL
    clear hL hLl
    by_cases hkt : k < s.length
    · obtain ⟨g', off', he, hcell⟩ := (how.keep hbel) k _ (u8s_get s k hkt)
      simp only [Option.some.injEq, Addr.mk.injEq, and_true] at he
      obtain ⟨rfl, rfl⟩ := he
      have hx : Hid (s[k]? = some s[k]) := List.getElem?_eq_getElem hkt
      have hsu := bitsL_succ hx
      generalize s[k] = x at hcell hx hsu
      have HS := Lib.hid hsu
      clear hsu hx
      rw [Nat.zero_add] at hcell
      go_wp2
      go_loopw [6, 10] (fun v i wr => ∃ (r : Nat) (M : List Int) (a : Option Addr) (cap : Nat), r ≤ 8 ∧ i = .int .i64 (7 - (r : Int)) ∧ v = .slice a M.length cap ∧ M = L ++ bitsF x r ∧ Ow wr wB.heap.size 1 a M.length cap (ints M) ∧ Below wB.heap.size wB wr) (fun _ i _ => (intOf i + 1).toNat)
      case atStart => exact ⟨0, L, sa, cap, by omega, rfl, rfl, by simp [bitsF], hown, hbel⟩
      case round =>
        clear hown hbel hcell
        obtain ⟨r, M, sb, cbp, hr, rfl, rfl, hM, hown, hbel⟩ := hrel
        have hMl : M.length = L.length + r := by rw [hM]; simp [bitsF_length]
        have hle2 : M.length ≤ 2056 := by omega
        have HM := Lib.hid hM
        clear hM hMl
        by_cases hrt : r < 8
        · have h7 : (0 : Int) ≤ 7 - (r : Int) := by omega
          have hbv := bit_val x r
          have hxl := x.toNat_lt
          go_wp2_with (at_builtin; refine wpList_app1 (w0 := wB) (B := wB.heap.size) rfl _ _ _ rfl elI rfl hown hbel (by omega) hbel.size (cs := [_]) rfl rfl (one1 rfl) (by omega) ?_)
          intro a2 cap2 w2 hown2 hbel2 _
          rw [ints_snoc] at hown2
          go_wp2
          go_roundw
          case rel => exact ⟨r + 1, M ++ [(x.toNat : Int) / 2 ^ (7 - r) % 2], a2, cap2, by omega, by go_num, by rw [List.length_append]; rfl, by rw [HM.out, bitsF, List.append_assoc, bit_cast], by rw [List.length_append]; exact hown2, hbel2⟩
          case measure => simp [intOf]; omega
        · obtain rfl : r = 8 := by omega
          clear hrt
          go_wp2
          go_roundw
          case rel => exact ⟨k + 1, M, sb, cbp, by omega, by go_num, rfl, by rw [HM.out, HS.out, HL.out]; rfl, hown, hbel⟩
          case measure => simp [intOf]; omega
    · obtain rfl : k = s.length := by omega
      have hpk : packF p s = L := by rw [packF, if_pos h0, HL.out]
      go_wp2
      go_ret2
      exact ⟨sa, cap, by rw [hpk]; rfl, by rw [hpk]; exact hown.rd, hbB.trans (hbel.mono hbB.size)⟩
def strLen2 : Value → Nat
  | .string s => s.size
  | _ => 0
set_option maxRecDepth 100000 in
theorem pack_bytes (p : Int) (s : List UInt8) (w : World) (hB : Bases w) (hV : ValidOk p) (hp : 0 ≤ p) (hp2 : p ≤ 1073741824) (hs : s.length ≤ 8192) (hcf : countF (widthF p) s.length ≤ 2048) (h0 : widthF p ≠ 0) :
    Calls Tryd.prog 11 #[.int .i64 p, .string ⟨s.toArray⟩] w fun e w' => ∃ a cap, e = .returned (.tuple #[.slice a (packF p s).length cap, .int .i64 0]) ∧ Rd w' a (ints (packF p s)) ∧ Below w.heap.size w w' := by
  obtain ⟨k, hk⟩ : ∃ k, k = widthF p := ⟨_, rfl⟩
  have hk3 : k ≤ 3 := by rw [hk]; exact widthF_le p
  have hk1 : 1 ≤ k := by omega
  have hpk : packF p s = chunkF k s.length s := by rw [packF, if_neg h0, hk]
  have hV' : Calls Tryd.prog 23 #[.int .i64 p] w fun e w' => e = .returned (.bool true) ∧ w = w' := hV w hB
  go_enter Tryd.func11, Tryd.ntmps11
  go_wp2_with (go_at_call 23; (with_reducible refine hV'.mono ?_))
  rintro e w1 ⟨rfl, rfl⟩
  go_wp2_with (go_at_call 13; (with_reducible refine (count_walk p s.length _ hp hp2 (by omega)).mono ?_))
  rintro e w1 ⟨rfl, hb1⟩
  generalize countF (widthF p) s.length = n at hcf ⊢
  go_wp2_with (go_at_call 21; (with_reducible refine (width_walk p _ hp hp2).mono ?_))
  rintro e w2 ⟨rfl, rfl⟩
  rw [← hk]
  have hk0 : ((k : Int) == 0) = false := by rw [beq_eq_false_iff_ne]; omega
  have HPK := Lib.hid hpk
  clear hpk hk h0 hV' hcf
  have hw1 := hb1.size
  go_wp2
  go_loopw [1, 6, 11, 13] (fun u v _ _ wr => ∃ (t : List UInt8) (L : List Int) (f : Nat) (a : Option Addr) (cap : Nat), u = .string ⟨t.toArray⟩ ∧ v = .slice a L.length cap ∧ t.length ≤ 8192 ∧ t.length ≤ f ∧ L.length ≤ 8192 ∧ L.length + t.length ≤ 8192 ∧ L ++ chunkF k f t = chunkF k s.length s ∧ Ow wr w.heap.size 1 a L.length cap (ints L) ∧ Below w.heap.size w wr) (fun u _ _ _ _ => strLen2 u)
  case atStart => exact ⟨s, [], s.length, none, 0, rfl, rfl, hs, Nat.le_refl _, by simp, by simpa using hs, rfl, Ow.nil _ _ _, hb1⟩
  case round =>
    obtain ⟨t, L, f, sa, cap, rfl, rfl, ht, htf, hL, hLt, hch, hown, hbel⟩ := hrel
    by_cases ht0 : t.length = 0
    · have ht00 : t = [] := List.eq_nil_of_length_eq_zero ht0
      subst ht00
      rw [chunkF_nil, List.append_nil] at hch
      have HC := Lib.hid hch
      clear hch
      go_wp2
      go_ret2
      exact ⟨sa, cap, by rw [HPK.out, ← HC.out]; rfl, by rw [HPK.out, ← HC.out]; exact hown.rd, hbel⟩
    · have hne : (t == []) = false := by rw [beq_eq_false_iff_ne]; intro h; rw [h] at ht0; simp at ht0
      cases f with
      | zero => omega
      | succ f =>
        rw [chunkF, if_neg ht0] at hch
        obtain ⟨m, hm⟩ : ∃ m, m = min k t.length := ⟨_, rfl⟩
        have hmi : min (k : Int) (t.length : Int) = (m : Int) := by omega
        rw [← hm] at hch
        have hm1 : 1 ≤ m := by omega
        have hmt : m ≤ t.length := by omega
        have hm3 : m ≤ 3 := by omega
        have hmti : (m : Int) ≤ (t.length : Int) := by omega
        have HCH := Lib.hid hch
        clear hch
        rcases Nat.lt_or_ge t.length k with hlt | hge
        · have htl : t.length = m := by omega
          have hmk : m < k := by omega
          clear hm hmi hmti hmt
          rw [htl] at ht htf hLt ht0
          have hcv := Lib.run_convert_string_bytes (P := Tryd.prog) wr 9 36 5 ⟨(t.take m).toArray⟩ Tryd.underlying9 Tryd.underlying36 Tryd.underlying5
          have hw0 := below_bytes wr 5 ⟨(t.take m).toArray⟩
          have how := (Ow.bytes wr 5 ⟨(t.take m).toArray⟩ (by simp [maxLen, ByteArray.size]; omega)).rd
          have htm : (t.take m).length = m := by simp; omega
          go_wp2
          clear hcv
          have hown2 := hown.keep hw0
          have hbel2 := hbel.trans (hw0.mono hbel.size)
          clear hown hbel hw0
          generalize Lib.bytesWorld wr 5 ⟨(t.take m).toArray⟩ = wB at *
          generalize wr.heap.size = g at *
          go_loopw [11, 13, 65] (fun v _ i wr' => ∃ j : Nat, wr' = wB ∧ j ≤ m ∧ i = .int .i64 (j : Int) ∧ v = .int .i64 ((numB t j : Nat) : Int)) (fun _ _ i _ => m - (intOf i).toNat)
          case atStart => exact ⟨0, rfl, by omega, rfl, rfl⟩
          case round =>
            obtain ⟨j, rfl, hj, rfl, rfl⟩ := hrel
            by_cases hjt : j < m
            · obtain ⟨g', off', he, hcell⟩ := how j _ (u8s_get (t.take m) j (by omega))
              simp only [Option.some.injEq, Addr.mk.injEq, and_true] at he
              obtain ⟨rfl, rfl⟩ := he
              have hbt : ((t.take m)[j]'(by omega)).toNat = bt t j := by
                rw [bt, List.getElem_take, List.getElem?_eq_getElem (by omega)]; rfl
              rw [Nat.zero_add, hbt] at hcell
              have hnl := numB_lt t j
              have hp6 : 256 ^ j ≤ 256 ^ 2 := Nat.pow_le_pow_right (by omega) (by omega)
              have hn0 : numB t j < 65536 := by omega
              have hbl := bt_lt t j
              have hst : numB t (j + 1) = numB t j * 256 + bt t j := rfl
              clear hnl hp6 hbt
              generalize numB t j = x at hn0 hst ⊢
              have HST := Lib.hid hst
              clear hst
              go_wp2
              go_roundw
              case rel => exact ⟨j + 1, trivial, by omega, by go_num, by rw [HST.out]; go_num⟩
              case measure => simp [intOf]; omega
            · obtain rfl : j = m := by omega
              clear hjt
              have hnl := numB_lt t j
              have hp6 : 256 ^ j ≤ 256 ^ 3 := Nat.pow_le_pow_right (by omega) (by omega)
              have hn0 : numB t j < 16777216 := by omega
              clear hnl hp6
              generalize numB t j = x at HCH hn0 ⊢
              go_wp2_with (at_builtin; refine wpList_app1 (w0 := w) (B := w.heap.size) rfl _ _ _ rfl elI rfl hown2 hbel2 (by omega) hbel2.size (cs := [_]) rfl rfl (one1 rfl) (by omega) ?_)
              intro a4 cap4 w4 hown4 hbel4 _
              rw [ints_snoc] at hown4
              go_wp2
              refine ⟨⟨[], L ++ [(x : Int)], f, a4, cap4, rfl, by rw [List.length_append]; rfl, by simp, by simp, by simp; omega, by simp; omega, ?_, by rw [List.length_append]; exact hown4, hbel4⟩, ?_⟩
              · have h := HCH.out
                rw [List.drop_eq_nil_of_le (by omega)] at h
                rw [chunkF_nil] at h ⊢
                simpa using h
              · simp [strLen2, ByteArray.size]; omega
        · obtain rfl : m = k := by omega
          clear hm
          have hcv := Lib.run_convert_string_bytes (P := Tryd.prog) wr 9 36 5 ⟨(t.take m).toArray⟩ Tryd.underlying9 Tryd.underlying36 Tryd.underlying5
          have hw0 := below_bytes wr 5 ⟨(t.take m).toArray⟩
          have how := (Ow.bytes wr 5 ⟨(t.take m).toArray⟩ (by simp [maxLen, ByteArray.size]; omega)).rd
          have htm : (t.take m).length = m := by simp; omega
          go_wp2
          clear hcv
          have hown2 := hown.keep hw0
          have hbel2 := hbel.trans (hw0.mono hbel.size)
          clear hown hbel hw0
          generalize Lib.bytesWorld wr 5 ⟨(t.take m).toArray⟩ = wB at *
          generalize wr.heap.size = g at *
          go_loopw [11, 13, 65] (fun v _ i wr' => ∃ j : Nat, wr' = wB ∧ j ≤ m ∧ i = .int .i64 (j : Int) ∧ v = .int .i64 ((numB t j : Nat) : Int)) (fun _ _ i _ => m - (intOf i).toNat)
          case atStart => exact ⟨0, rfl, by omega, rfl, rfl⟩
          case round =>
            obtain ⟨j, rfl, hj, rfl, rfl⟩ := hrel
            by_cases hjt : j < m
            · obtain ⟨g', off', he, hcell⟩ := how j _ (u8s_get (t.take m) j (by omega))
              simp only [Option.some.injEq, Addr.mk.injEq, and_true] at he
              obtain ⟨rfl, rfl⟩ := he
              have hbt : ((t.take m)[j]'(by omega)).toNat = bt t j := by
                rw [bt, List.getElem_take, List.getElem?_eq_getElem (by omega)]; rfl
              rw [Nat.zero_add, hbt] at hcell
              have hnl := numB_lt t j
              have hp6 : 256 ^ j ≤ 256 ^ 2 := Nat.pow_le_pow_right (by omega) (by omega)
              have hn0 : numB t j < 65536 := by omega
              have hbl := bt_lt t j
              have hst : numB t (j + 1) = numB t j * 256 + bt t j := rfl
              clear hnl hp6 hbt
              generalize numB t j = x at hn0 hst ⊢
              have HST := Lib.hid hst
              clear hst
              go_wp2
              go_roundw
              case rel => exact ⟨j + 1, trivial, by omega, by go_num, by rw [HST.out]; go_num⟩
              case measure => simp [intOf]; omega
            · obtain rfl : j = m := by omega
              clear hjt
              have hnl := numB_lt t j
              have hp6 : 256 ^ j ≤ 256 ^ 3 := Nat.pow_le_pow_right (by omega) (by omega)
              have hn0 : numB t j < 16777216 := by omega
              clear hnl hp6
              generalize numB t j = x at HCH hn0 ⊢
              go_wp2_with (at_builtin; refine wpList_app1 (w0 := w) (B := w.heap.size) rfl _ _ _ rfl elI rfl hown2 hbel2 (by omega) hbel2.size (cs := [_]) rfl rfl (one1 rfl) (by omega) ?_)
              intro a4 cap4 w4 hown4 hbel4 _
              rw [ints_snoc] at hown4
              go_wp2
              refine ⟨⟨(t.drop j).take (t.length - j), L ++ [(x : Int)], f, a4, cap4, rfl, by rw [List.length_append]; rfl, by simp; omega, by simp; omega, by simp; omega, by simp; omega, ?_, by rw [List.length_append]; exact hown4, hbel4⟩, ?_⟩
              · have h := HCH.out
                rw [List.take_of_length_le (by simp)]
                simpa using h
              · simp [strLen2, ByteArray.size]; omega
set_option maxRecDepth 100000 in
theorem pack_limit (p : Int) (s : List UInt8) (w : World) (hB : Bases w) (hV : ValidOk p) (hp : 0 ≤ p) (hp2 : p ≤ 1073741824) (hs : s.length ≤ 8192) (hcf : 2048 < countF (widthF p) s.length) :
    Calls Tryd.prog 11 #[.int .i64 p, .string ⟨s.toArray⟩] w fun e w' => e = .returned (.tuple #[.slice none 0 0, .int .i64 3]) ∧ Below w.heap.size w w' := by
  have hV' : Calls Tryd.prog 23 #[.int .i64 p] w fun e w' => e = .returned (.bool true) ∧ w = w' := hV w hB
  go_enter Tryd.func11, Tryd.ntmps11
  go_wp2_with (go_at_call 23; (with_reducible refine hV'.mono ?_))
  rintro e w1 ⟨rfl, rfl⟩
  go_wp2_with (go_at_call 13; (with_reducible refine (count_walk p s.length _ hp hp2 (by omega)).mono ?_))
  rintro e w1 ⟨rfl, hb1⟩
  generalize countF (widthF p) s.length = n at hcf ⊢
  go_wp2
  go_ret2
  exact ⟨rfl, hb1⟩
end Go.Proofs.YtpbhendndelonaaDoor
