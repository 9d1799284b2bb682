/- The walk of the law PackPads. -/
import Derived.Test.YtpbhendndelonaaDoorPackS
import Derived.Test.YtpbhendndelonaaDoorPackL
namespace Go.Proofs.YtpbhendndelonaaDoor
open Go.RowKit
theorem padAny_form (s : List UInt8) (u : Int) : ∃ (y : List UInt8) (c : Int), padAny s u = .tuple #[.string ⟨y.toArray⟩, .int .i64 c] ∧ y.length ≤ 16384 := by
  unfold padAny padRes
  split
  · exact ⟨[], 2, rfl, by simp⟩
  · split
    · exact ⟨[], 3, rfl, by simp⟩
    · exact ⟨_, 0, rfl, by omega⟩
theorem stripRes_form (s : List UInt8) : ∃ (y : List UInt8) (c : Int), stripRes s = .tuple #[.string ⟨y.toArray⟩, .int .i64 c] := by
  unfold stripRes
  split
  · exact ⟨_, 0, rfl⟩
  · exact ⟨[], 4, rfl⟩
theorem add_zero (a : List UInt8) : (ByteArray.mk a.toArray ++ ByteArray.mk #[0] : ByteArray) = ByteArray.mk (a ++ [0]).toArray := by
  apply ByteArray.ext; simp
set_option maxRecDepth 100000 in
set_option maxHeartbeats 2000000 in
theorem pads_walk (W : World) (hB : Bases W) (s : List UInt8) (hs : s.length ≤ 140737488351232) (unit : Int) (_ : I64 unit) (n : Nat) (hn : n < 256) (at_ : Int) (_ : I64 at_) (bb : Int) (_ : I64 bb) :
    Calls Tryd.prog 5 #[.string ⟨s.toArray⟩, .int .i64 unit, .int .u8 (n : Int), .int .i64 at_, .int .i64 bb] W fun e w' => e = .returned (.bool true) ∧ Below W.heap.size W w' := by
  go_enter Tryd.func5, Tryd.ntmps5
  by_cases h1 : s.length > 300
  · have hd : decide ((s.length : Int) > 300) = true := by simp; omega
    go_wp2_with (go_at_call 8; (with_reducible refine (awake5_walk _ hB).mono ?_))
    rintro e w1 ⟨rfl, hb1⟩
    go_wp2
    go_ret
    exact ⟨rfl, hb1⟩
  have hd1 : decide ((s.length : Int) > 300) = false := by simp; omega
  have hs3 : s.length ≤ 300 := by omega
  clear hs h1
  go_wp2_with (go_at_call 16; (with_reducible refine (dmod_walk _ _ _ (by omega) (by omega)).mono ?_))
  rintro e w1 ⟨rfl, rfl⟩
  obtain ⟨u2, hu2⟩ : ∃ u2, u2 = unit % 40 := ⟨_, rfl⟩
  have hu20 : 0 ≤ u2 := by omega
  have hu21 : u2 < 40 := by omega
  rw [← hu2]
  clear hu2
  go_wp2_with (go_at_call 16; (with_reducible refine (dmod_walk _ _ _ (by omega) (by omega)).mono ?_))
  rintro e w1 ⟨rfl, rfl⟩
  obtain ⟨u3, hu3⟩ : ∃ u3, u3 = unit % 3 := ⟨_, rfl⟩
  have hu30 : 0 ≤ u3 := by omega
  have hu31 : u3 < 3 := by omega
  rw [← hu3]
  clear hu3
  go_wp2
  refine new_ints (Code.wp _ _ _ _) [unit, 1 + u2, 1023 + u3] ?_
  intro w2 hb2 hL
  generalize hg0 : W.heap.size = g0 at hL
  obtain ⟨us, hus⟩ : ∃ us, us = [unit, 1 + u2, 1023 + u3] := ⟨_, rfl⟩
  have hul : us.length = 3 := by rw [hus]; rfl
  rw [← hus] at hL
  rw [hg0] at hb2
  clear hus
  have mA : ∀ V, (Instr.makeSlice 36 (.int .u8 (n : Int)) (.int .u8 (n : Int))).run Tryd.prog V = _ := fun V => mk_run V elB8 rfl .u8 n (by omega)
  have MA := Lib.hid mA
  have mC := fun (V : World) (g : Nat) (h : V.heap[g]? = some (.cells (madeCells #[.int .u8 0] n) 5 (0, 0))) => mk_str (P := Tryd.prog) V 36 9 5 Tryd.underlying36 Tryd.underlying5 Tryd.underlying9 g n h
  obtain ⟨zs, hzs⟩ : ∃ zs, zs = List.replicate n (0 : UInt8) := ⟨_, rfl⟩
  rw [← hzs] at mC
  have hzl : zs.length = n := by rw [hzs, List.length_replicate]
  have MC := Lib.hid mC
  clear mA mC hzs
  go_loopw [36] (fun i wr => ∃ k : Nat, k ≤ 3 ∧ i = .int .i64 (k : Int) ∧ Below g0 W wr ∧ Rd wr (some ⟨g0, 0, none⟩) (ints us)) (fun i _ => 3 - (intOf i).toNat)
  case atStart => exact ⟨0, by omega, rfl, hb2, hL⟩
  case round =>
    clear hL hb2
    obtain ⟨k, hk, rfl, hbw, hL⟩ := hrel
    by_cases hkt : k < 3
    · obtain ⟨g', off', x, he, hcell, hx⟩ := hL.int (k := k) (by omega)
      simp only [Option.some.injEq, Addr.mk.injEq, and_true] at he
      obtain ⟨rfl, rfl⟩ := he
      rw [Nat.zero_add] at hcell
      have hkt3 : (k : Int) < 3 := by omega
      obtain ⟨y, c, hy, hyl⟩ := padAny_form s x
      have HY := Lib.hid hy
      clear hy hx
      go_wp2_with (go_at_call 15; (with_reducible refine (padAny_walk s x _ (by omega)).mono ?_))
      rintro e w3 ⟨rfl, hb3⟩
      rw [HY.out]
      replace hL := hL.keep hb3
      replace hbw := hbw.trans (hb3.mono (by have := hbw.size; omega))
      clear hb3 hcell
      go_wp2_with (go_at_call 17; (with_reducible refine (rpadAny_walk s x _ (by omega)).mono ?_))
      rintro e w4 ⟨rfl, hb4⟩
      rw [HY.out]
      replace hL := hL.keep hb4
      replace hbw := hbw.trans (hb4.mono (by have := hbw.size; omega))
      clear hb4
      go_wp2
      have mA := MA.out
      have c1 := MC.out (w4.alloc (.cells (madeCells #[.int .u8 0] n) 5)) w4.heap.size (heap_alloc_new _ _)
      have c2 := MC.out (w4.alloc (.cells (madeCells #[.int .u8 0] n) 5)).drew w4.heap.size (heap_alloc_new _ _)
      have f1 : ¬ (9223372036854775807 < s.length + 1) := by omega
      have f2 : ¬ (9223372036854775807 < s.length + 1 + zs.length) := by omega
      have f3 : ¬ (9223372036854775807 < y.length + 1) := by omega
      go_cut [74, 75, 76] from 60 to 76 (fun t m z wx => ∃ (g : Nat) (o : List UInt8), t = .slice (some ⟨g, 0, none⟩) 5 5 ∧ m = .int .i64 5 ∧ z = .int .i64 0 ∧ o.length = y.length ∧ Below w4.heap.size w4 wx ∧ Rd wx (some ⟨g, 0, none⟩) (strs [y, s, s ++ [128] ++ zs, o, y ++ [0]]))
      case first =>
        go_region_with (go_at_call 18; refine (spoil_walk y at_ bb _ (by omega)).mono ?_; rintro e w5 ⟨o, rfl, ho, hb5⟩; have c4 := MC.out (w5.alloc (.cells (madeCells #[.int .u8 0] n) 5)) w5.heap.size (heap_alloc_new _ _); try (have c3 := MC.out w5 w4.heap.size ((hb5.block w4.heap.size (by simp)).trans (heap_alloc_new _ _))))
        all_goals
          go_wp2_with fail
          go_meet
          rw [padz_bytes, add_zero]
          have hb6 : Below w4.heap.size w4 w5 := by
            first
            | exact ((Below.refl _ w4).alloc (Nat.le_refl _) _).drew.trans (hb5.mono (by simp))
            | exact (Below.refl _ w4).drew.trans hb5
          first
          | refine ⟨w5.heap.size, o, rfl, rfl, rfl, ho, hb6.alloc hb6.size _, ?_⟩
          | refine ⟨w5.heap.size + 1, o, rfl, rfl, rfl, ho, (hb6.alloc hb6.size _).alloc (by have := hb6.size; simp; omega) _, ?_⟩
          exact Rd.mk fun j u hj => by rw [Nat.zero_add, World.cell?_alloc_at _ _ _ _ (by simp)]; simpa [strs] using hj
      case rest =>
        obtain ⟨g, o, rfl, rfl, rfl, hol, hbx, hS⟩ := hcut
        replace hL := hL.keep hbx
        replace hbw := hbw.trans (hbx.mono (by have := hbw.size; omega))
        clear hbx c1 c2 mA f1 f2 f3
        obtain ⟨xs, hxs⟩ : ∃ xs, xs = [y, s, s ++ [128] ++ zs, o, y ++ [0]] := ⟨_, rfl⟩
        have hxl : xs.length = 5 := by rw [hxs]; rfl
        have hxb : ∀ x ∈ xs, x.length ≤ 20000 := by
          rw [hxs]
          intro x hx
          simp only [List.mem_cons, List.not_mem_nil, or_false] at hx
          rcases hx with rfl | rfl | rfl | rfl | rfl
          · omega
          · omega
          · simp; omega
          · omega
          · simp; omega
        rw [← hxs] at hS
        have HXB := Lib.hid hxb
        clear hxs hxb hol
        go_wp2
        go_loopw [76] (fun i wr => ∃ j : Nat, j ≤ 5 ∧ i = .int .i64 (j : Int) ∧ Below g0 W wr ∧ Rd wr (some ⟨g0, 0, none⟩) (ints us) ∧ Rd wr (some ⟨g, 0, none⟩) (strs xs)) (fun i _ => 5 - (intOf i).toNat)
        case atStart => exact ⟨0, by omega, rfl, hbw, hL, hS⟩
        case round =>
          clear hL hbw hS
          obtain ⟨j, hj, rfl, hbw, hL, hS⟩ := hrel
          by_cases hjt : j < 5
          · obtain ⟨g', off', x2, he, hcell, hx⟩ := hS.str (k := j) (by omega)
            simp only [Option.some.injEq, Addr.mk.injEq, and_true] at he
            obtain ⟨rfl, rfl⟩ := he
            rw [Nat.zero_add] at hcell
            have hx2 := HXB.out x2 (mem_at hx)
            have hj5 : (j : Int) < 5 := by omega
            obtain ⟨t, d, hst⟩ := stripRes_form x2
            have HST := Lib.hid hst
            clear hst hx
            go_wp2_with (go_at_call 19; (with_reducible refine (strip_walk x2 _ (by omega)).mono ?_))
            rintro e w5 ⟨rfl, hw5⟩
            obtain rfl : w5 = _ := hw5.symm
            rw [HST.out]
            go_wp2_with (go_at_call 20; (with_reducible refine (rstrip_walk x2 _ (by omega)).mono ?_))
            rintro e w6 ⟨rfl, hb6⟩
            rw [HST.out]
            replace hL := hL.keep hb6
            replace hS := hS.keep hb6
            replace hbw := hbw.trans (hb6.mono (by have := hbw.size; omega))
            clear hb6 hcell
            go_wp2
            go_roundw
            case rel => exact ⟨j + 1, by omega, by go_num, hbw, hL, hS⟩
            case measure => simp [intOf]; omega
          · obtain rfl : j = 5 := by omega
            clear hjt hS
            go_wp2
            go_roundw
            case rel => exact ⟨k + 1, by omega, by go_num, hbw, hL⟩
            case measure => simp [intOf]; omega
    · obtain rfl : k = 3 := by omega
      have hB2 : Bases wr := hB.keep (hg0 ▸ hbw)
      go_wp2_with (go_at_call 8; (with_reducible refine (awake5_walk _ hB2).mono ?_))
      rintro e w8 ⟨rfl, hb8⟩
      go_wp2
      go_ret
      exact ⟨rfl, hg0 ▸ hbw.trans (hb8.mono (by have := hbw.size; omega))⟩
end Go.Proofs.YtpbhendndelonaaDoor
