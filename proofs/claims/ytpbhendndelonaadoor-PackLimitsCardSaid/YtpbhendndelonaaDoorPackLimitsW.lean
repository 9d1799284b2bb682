/- The walk of the law PackLimits. -/
import Derived.Test.YtpbhendndelonaaDoorPackH
import Derived.Test.YtpbhendndelonaaDoorPackL
import Derived.Test.YtpbhendndelonaaDoorMake
namespace Go.Proofs.YtpbhendndelonaaDoor
open Go.RowKit
set_option maxRecDepth 100000 in
theorem rwidth_walk (p : Int) (w : World) (hp : 0 ≤ p) (hp2 : p ≤ 1073741824) :
    Calls Tryd.prog 14 #[.int .i64 p] w fun e w' => e = .returned (.int .i64 (widthF p : Int)) ∧ w = w' := by
  go_enter Tryd.func14, Tryd.ntmps14
  go_wp2
  go_loopw [3, 4] (fun u v wr => ∃ (k : Nat) (n : Int), wr = w ∧ u = .int .i64 (k : Int) ∧ v = .int .i64 n ∧ ((k = 0 ∧ n = 256) ∨ (k = 1 ∧ n = 65536 ∧ 256 ≤ p) ∨ (k = 2 ∧ n = 16777216 ∧ 65536 ≤ p) ∨ (k = 3 ∧ n = 4294967296 ∧ 16777216 ≤ p))) (fun u _ _ => 3 - (intOf u).toNat)
  case atStart => exact ⟨0, 256, rfl, rfl, rfl, .inl ⟨rfl, rfl⟩⟩
  case round =>
    obtain ⟨k, n, rfl, rfl, rfl, hc⟩ := hrel
    rcases Int.lt_or_le p n with hn | hn
    · have hw : widthF p = k := by unfold widthF; rcases hc with ⟨rfl, rfl⟩ | ⟨rfl, rfl, h⟩ | ⟨rfl, rfl, h⟩ | ⟨rfl, rfl, h⟩ <;> (repeat' split) <;> omega
      have hk : k ≤ 3 := by omega
      have HW := Lib.hid hw
      clear hw hc
      by_cases hk3 : k < 3
      · go_wp2
        go_ret
        exact ⟨ret_int (by rw [HW.out]), rfl⟩
      · obtain rfl : k = 3 := by omega
        go_wp2
        go_ret
        exact ⟨ret_int (by rw [HW.out]), rfl⟩
    · have hk3 : k < 3 := by omega
      have hn4 : n ≤ 16777216 := by omega
      have hn0 : 256 ≤ n := by omega
      have hnew : ((k + 1 = 0 ∧ n * 256 = 256) ∨ (k + 1 = 1 ∧ n * 256 = 65536 ∧ 256 ≤ p) ∨ (k + 1 = 2 ∧ n * 256 = 16777216 ∧ 65536 ≤ p) ∨ (k + 1 = 3 ∧ n * 256 = 4294967296 ∧ 16777216 ≤ p)) := by omega
      have HC := Lib.hid hnew
      clear hc hnew
      go_wp2
      go_roundw
      case rel => exact ⟨k + 1, n * 256, trivial, by go_num, rfl, HC.out⟩
      case measure => simp [intOf]; omega
/-- how many bytes are the most elements -/
def mostF (k : Nat) : Nat := [256, 2048, 4096, 6144].getD k 0
theorem most_fit : ∀ k, k ≤ 3 → countF k (mostF k) = 2048 ∧ 2048 < countF k (mostF k + 1) ∧ mostF k ≤ 6144 ∧ (k = 0 → mostF k = 256) := by
  intro k hk
  rcases (show k = 0 ∨ k = 1 ∨ k = 2 ∨ k = 3 by omega) with rfl | rfl | rfl | rfl <;> decide
theorem pad1 (s : List UInt8) : (padL s 1).length = s.length + 1 := by rw [padL_length]; omega
theorem padRes1_ok (s : List UInt8) (h : s.length + 1 ≤ 16384) : padRes s 1 = .tuple #[.string ⟨(padL s 1).toArray⟩, .int .i64 0] := by rw [padRes, if_neg (by rw [pad1]; omega)]
theorem padRes1_no (s : List UInt8) (h : 16384 < s.length + 1) : padRes s 1 = .tuple #[.string ⟨#[]⟩, .int .i64 3] := by rw [padRes, if_pos (by rw [pad1]; omega)]
theorem padone_walk (s : List UInt8) (w : World) (hs : s.length ≤ 1048576) :
    Calls Tryd.prog 15 #[.string ⟨s.toArray⟩, .int .i64 1] w fun e w' => e = .returned (padRes s 1) ∧ Below w.heap.size w w' := pad_walk s 1 w hs (by omega) (by omega)
theorem pack_any (p : Int) (s : List UInt8) (w : World) (hB : Bases w) (hV : ValidOk p) (hp : 0 ≤ p) (hp2 : p ≤ 1073741824) (hs : s.length ≤ 8192) (h0 : widthF p = 0 → s.length ≤ 256) (hc : countF (widthF p) s.length ≤ 2048) :
    Calls Tryd.prog 11 #[.int .i64 p, .string ⟨s.toArray⟩] w fun e w' => ∃ a cap, e = .returned (.tuple #[.slice a (packF p s).length cap, .int .i64 0]) ∧ Rd w' a (ints (packF p s)) ∧ Below w.heap.size w w' := by
  by_cases h : widthF p = 0
  · exact pack_bits p s w hB hV hp hp2 (h0 h) h
  · exact pack_bytes p s w hB hV hp hp2 hs hc h
set_option maxRecDepth 100000 in
set_option maxHeartbeats 1000000 in
theorem limits_walk (W : World) (hB : Bases W) (pa : Option Addr) (l : List Int) (cap : Nat) (hR : Rd W pa (ints l)) (hl : l.length ≤ 17592186043904) (n : Nat) (hn : n < 256) :
    Calls Tryd.prog 4 #[.slice pa l.length cap, .int .u8 (n : Int)] W fun e w' => e = .returned (.bool true) ∧ Below W.heap.size W w' := by
  have h0W := World.block_lt_of_cell? W _ hB.1
  simp only at h0W
  go_enter Tryd.func4, Tryd.ntmps4
  go_wp2_with (go_at_call 7; (with_reducible refine (light_walk _ _ _ _ (by omega)).mono ?_))
  rintro e w1 ⟨rfl, rfl⟩
  by_cases h5 : 500 < l.length
  · have hd : decide (l.length ≤ 500) = false := by simp; omega
    rw [hd]
    go_wp2_with (go_at_call 8; (with_reducible refine (awake5_walk _ hB).mono ?_))
    rintro e w1 ⟨rfl, hb1⟩
    go_wp2
    go_ret
    exact ⟨rfl, hb1⟩
  have hd5 : decide (l.length ≤ 500) = true := by simp; omega
  rw [hd5]
  go_wp2_with (go_at_call 9; (with_reducible refine (roll_walk _ _ _ _).mono ?_))
  rintro e w1 ⟨rfl, hD, hb1⟩
  go_wp2_with (go_at_call 10; (with_reducible refine (prime_walk _ _ _ _ _ _ hD (hR.keep hb1) (rd_ne hR (Nat.le_refl _)) (by omega)).mono ?_))
  rintro e w2 ⟨rfl, -, hg2⟩
  obtain ⟨hp2, hp3⟩ := dprime_bd l 0
  have hV := prime_ok (dprime_mem l 0)
  have hB2 := (hB.keep hb1).grown hg2 (by simp; omega)
  have hbw := hb1.grown hg2 hb1.size (by intro k hk; simp at hk; omega)
  clear hg2 hb1 hD hB hR
  generalize dprime l 0 = q at *
  have hk3 := widthF_le q
  obtain ⟨m1, m2, m3, m4⟩ := most_fit _ hk3
  go_wp2_with fail
  refine new_ints (fun W => Calls _ _ _ W _) [256, 2048, 4096, 6144] ?_
  intro w3 hb3 hRp
  refine (rwidth_walk q _ (by omega) (by omega)).mono ?_
  rintro e w4 ⟨rfl, rfl⟩
  have hB3 := hB2.keep hb3
  replace hbw := hbw.trans (hb3.mono hbw.size)
  obtain ⟨m, hm⟩ : ∃ m, m = mostF (widthF q) := ⟨_, rfl⟩
  rw [← hm] at m1 m2 m3 m4
  have HM1 := Lib.hid m1
  have HM2 := Lib.hid m2
  have HM4 := Lib.hid m4
  clear m1 m2 m4
  obtain ⟨k, hk⟩ : ∃ k, k = widthF q := ⟨_, rfl⟩
  rw [← hk] at hk3 hm ⊢
  clear hk hB2
  obtain ⟨g, off, x, he, hcell, hx⟩ := hRp.int (k := k) (by simp; omega)
  simp only [Option.some.injEq, Addr.mk.injEq, and_true] at he
  obtain ⟨rfl, rfl⟩ := he
  rw [Nat.zero_add] at hcell
  have hxm : x = (m : Int) := by
    have h := hx.out
    rw [hm]
    rcases (show k = 0 ∨ k = 1 ∨ k = 2 ∨ k = 3 by omega) with rfl | rfl | rfl | rfl <;> simp at h <;> rw [← h] <;> rfl
  subst hxm
  clear hm hx hRp hb3
  have hk4 : (k : Int) < 4 := by omega
  generalize w2.heap.size = gz at *
  have mk : ∀ (n : Nat), n ≤ 20000 → ∀ V, (Instr.makeSlice 36 (.int .i64 (n : Int)) (.int .i64 (n : Int))).run Tryd.prog V = _ := fun n h V => mk_run V elB rfl .i64 n (by omega)
  have mc : ∀ (n : Nat) (V : World), _ := fun n V => mk_str1 (P := Tryd.prog) V 36 9 5 Tryd.underlying36 Tryd.underlying5 Tryd.underlying9 n
  have MK := Lib.hid mk
  have MC := Lib.hid mc
  clear mk mc
  rcases (show n % 2 = 0 ∨ n % 2 = 1 by omega) with hr | hr
  · have hri : (n : Int) % 2 = 0 := by omega
    have hmi : (m : Int) + 0 = ((m + 0 : Nat) : Int) := by omega
    have mA := MK.out (m + 0) (by omega)
    have cA := MC.out (m + 0) w3
    clear hr; simp only [Nat.add_zero] at mA cA; clear hmi
    have zl0 : (List.replicate m (0 : UInt8)).length = m := by rw [List.length_replicate]
    generalize List.replicate m (0 : UInt8) = z0 at cA zl0
    have s1 : z0.length ≤ 8192 := by omega
    have s2 : widthF q = 0 → z0.length ≤ 256 := fun h => by rw [zl0, HM4.out h]; omega
    have s3 : countF (widthF q) z0.length ≤ 2048 := by rw [zl0, HM1.out]; omega
    have S2 := Lib.hid s2
    have S3 := Lib.hid s3
    clear s2 s3
    go_wp2_with (go_at_call 11; (with_reducible refine (pack_any q z0 _ (hB3.keep ((Below.refl _ _).alloc (Nat.le_refl _) _)) hV (by omega) (by omega) s1 S2.out S3.out).mono ?_))
    rintro e w5 ⟨xa, xc, rfl, -, hb5⟩
    have hln : (packF q z0).length = 2048 := by rw [packF_length, zl0]; exact HM1.out
    rw [hln]
    clear mA cA
    have hB5 := hB3.keep (((Below.refl _ _).alloc (Nat.le_refl _) _).trans (hb5.mono (by simp)))
    replace hbw := (hbw.alloc hbw.size _).trans (hb5.mono (by have := hbw.size; simp; omega))
    clear hb5 hB3
    generalize (w3.alloc _).heap.size = gy at *
    have mB : ∀ V : World, (Instr.makeSlice 36 (.int .i64 16383) (.int .i64 16383)).run Tryd.prog V = .ok (.slice (some ⟨V.heap.size, 0, none⟩) 16383 16383) (V.alloc (.cells (madeCells #[.int .u8 0] 16383) 5)) := MK.out 16383 (by omega)
    have cB := MC.out 16383 w5
    have zl : (List.replicate 16383 (0 : UInt8)).length = 16383 := by rw [List.length_replicate]
    generalize List.replicate 16383 (0 : UInt8) = z at cB zl
    go_wp2_with (go_at_call 15; (with_reducible refine (padone_walk z _ (by omega)).mono ?_))
    rintro e w6 ⟨rfl, hb6⟩
    have h1 := padRes1_ok z (by omega)
    rw [h1]
    have h2 : (padL z 1).length = 16384 := by rw [pad1, zl]
    generalize padL z 1 = y at h2
    clear h1 zl mB cB
    have hB6 := hB5.keep (((Below.refl _ _).alloc (Nat.le_refl _) _).trans (hb6.mono (by simp)))
    replace hbw := (hbw.alloc hbw.size _).trans (hb6.mono (by have := hbw.size; simp; omega))
    clear hb6 hB5
    generalize (w5.alloc _).heap.size = gx at *
    have mC : ∀ V : World, (Instr.makeSlice 36 (.int .i64 16384) (.int .i64 16384)).run Tryd.prog V = .ok (.slice (some ⟨V.heap.size, 0, none⟩) 16384 16384) (V.alloc (.cells (madeCells #[.int .u8 0] 16384) 5)) := MK.out 16384 (by omega)
    have cC := MC.out 16384 w6
    have zl : (List.replicate 16384 (0 : UInt8)).length = 16384 := by rw [List.length_replicate]
    generalize List.replicate 16384 (0 : UInt8) = z2 at cC zl
    go_wp2_with (go_at_call 15; (with_reducible refine (padone_walk z2 _ (by omega)).mono ?_))
    rintro e w7 ⟨rfl, hb7⟩
    rw [padRes1_no z2 (by omega)]
    clear mC cC
    have hB7 := hB6.keep (((Below.refl _ _).alloc (Nat.le_refl _) _).trans (hb7.mono (by simp)))
    replace hbw := (hbw.alloc hbw.size _).trans (hb7.mono (by have := hbw.size; simp; omega))
    clear hb7 hB6
    generalize (w6.alloc _).heap.size = gw at *
    go_wp2_with (go_at_call 8; (with_reducible refine (awake5_walk _ hB7).mono ?_))
    rintro e w8 ⟨rfl, hb8⟩
    go_wp2
    go_ret
    exact ⟨rfl, hbw.trans (hb8.mono hbw.size)⟩
  · have hri : (n : Int) % 2 = 1 := by omega
    obtain ⟨mm, hmm⟩ : ∃ mm, mm = m + 1 := ⟨_, rfl⟩
    have hmi : (m : Int) + 1 = (mm : Int) := by omega
    rw [← hmm] at HM2
    have hmm3 : mm ≤ 8192 := by omega
    have mA := MK.out mm (by omega)
    have cA := MC.out mm w3
    clear hr hmm HM1 HM4
    have zl0 : (List.replicate mm (0 : UInt8)).length = mm := by rw [List.length_replicate]
    generalize List.replicate mm (0 : UInt8) = z0 at cA zl0
    have s1 : z0.length ≤ 8192 := by omega
    have s3 : 2048 < countF (widthF q) z0.length := by rw [zl0]; exact HM2.out
    have S3 := Lib.hid s3
    clear s3
    go_wp2_with (go_at_call 11; (with_reducible refine (pack_limit q z0 _ (hB3.keep ((Below.refl _ _).alloc (Nat.le_refl _) _)) hV (by omega) (by omega) s1 S3.out).mono ?_))
    rintro e w5 ⟨rfl, hb5⟩
    clear mA cA
    have hB5 := hB3.keep (((Below.refl _ _).alloc (Nat.le_refl _) _).trans (hb5.mono (by simp)))
    replace hbw := (hbw.alloc hbw.size _).trans (hb5.mono (by have := hbw.size; simp; omega))
    clear hb5 hB3
    generalize (w3.alloc _).heap.size = gy at *
    have mB : ∀ V : World, (Instr.makeSlice 36 (.int .i64 16382) (.int .i64 16382)).run Tryd.prog V = .ok (.slice (some ⟨V.heap.size, 0, none⟩) 16382 16382) (V.alloc (.cells (madeCells #[.int .u8 0] 16382) 5)) := MK.out 16382 (by omega)
    have cB := MC.out 16382 w5
    have zl : (List.replicate 16382 (0 : UInt8)).length = 16382 := by rw [List.length_replicate]
    generalize List.replicate 16382 (0 : UInt8) = z at cB zl
    go_wp2_with (go_at_call 15; (with_reducible refine (padone_walk z _ (by omega)).mono ?_))
    rintro e w6 ⟨rfl, hb6⟩
    have h1 := padRes1_ok z (by omega)
    rw [h1]
    have h2 : (padL z 1).length = 16383 := by rw [pad1, zl]
    generalize padL z 1 = y at h2
    clear h1 zl mB cB
    have hB6 := hB5.keep (((Below.refl _ _).alloc (Nat.le_refl _) _).trans (hb6.mono (by simp)))
    replace hbw := (hbw.alloc hbw.size _).trans (hb6.mono (by have := hbw.size; simp; omega))
    clear hb6 hB5
    generalize (w5.alloc _).heap.size = gx at *
    have mC : ∀ V : World, (Instr.makeSlice 36 (.int .i64 16384) (.int .i64 16384)).run Tryd.prog V = .ok (.slice (some ⟨V.heap.size, 0, none⟩) 16384 16384) (V.alloc (.cells (madeCells #[.int .u8 0] 16384) 5)) := MK.out 16384 (by omega)
    have cC := MC.out 16384 w6
    have zl : (List.replicate 16384 (0 : UInt8)).length = 16384 := by rw [List.length_replicate]
    generalize List.replicate 16384 (0 : UInt8) = z2 at cC zl
    go_wp2_with (go_at_call 15; (with_reducible refine (padone_walk z2 _ (by omega)).mono ?_))
    rintro e w7 ⟨rfl, hb7⟩
    rw [padRes1_no z2 (by omega)]
    clear mC cC
    have hB7 := hB6.keep (((Below.refl _ _).alloc (Nat.le_refl _) _).trans (hb7.mono (by simp)))
    replace hbw := (hbw.alloc hbw.size _).trans (hb7.mono (by have := hbw.size; simp; omega))
    clear hb7 hB6
    generalize (w6.alloc _).heap.size = gw at *
    go_wp2_with (go_at_call 8; (with_reducible refine (awake5_walk _ hB7).mono ?_))
    rintro e w8 ⟨rfl, hb8⟩
    go_wp2
    go_ret
    exact ⟨rfl, hbw.trans (hb8.mono hbw.size)⟩
end Go.Proofs.YtpbhendndelonaaDoor
