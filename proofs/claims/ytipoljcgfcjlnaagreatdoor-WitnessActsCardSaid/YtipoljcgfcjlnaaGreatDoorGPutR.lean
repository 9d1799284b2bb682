/- What texts are written as: the program's, by a call from elsewhere. -/
import Derived.Test.YtipoljcgfcjlnaaGreatDoorGCodecP
import Derived.Lib.Zigzag
import Derived.Test.YtipoljcgfcjlnaaGreatDoorGDigestS
import Derived.Test.YtipoljcgfcjlnaaGreatDoorGNum
namespace Go.Proofs.YtipoljcgfcjlnaaGreatDoor
open Go.RowKit
set_option maxRecDepth 100000 in
set_option maxHeartbeats 400000 in
theorem putText_any (b s : List UInt8) (w : World) (hb : b.length ≤ 281474976710656) (hs : s.length ≤ 281474976710656) :
    Calls Tryz.prog 36 #[.string ⟨b.toArray⟩, .string ⟨s.toArray⟩] w fun e w' => e = .returned (.string ⟨(b ++ putText s).toArray⟩) ∧ Below w.heap.size w w' := by
  have ht := putInt_ten (I64.nat hs)
  go_enter Tryz.func36, Tryz.ntmps36
  go_wp2_with (go_at_call 37; refine (putInt_any b s.length _ (I64.nat hs) hb).mono ?_; rintro e w1 ⟨rfl, hb1⟩)
  go_ret
  exact ⟨ret_str (by simp [putText]), hb1⟩
theorem putText_nil (s : List UInt8) (w : World) (hs : s.length ≤ 281474976710656) :
    Calls Tryz.prog 36 #[.string ⟨#[]⟩, .string ⟨s.toArray⟩] w fun e w' => e = .returned (.string ⟨(putText s).toArray⟩) ∧ Below w.heap.size w w' := putText_any [] s w (by simp) hs
end Go.Proofs.YtipoljcgfcjlnaaGreatDoor
/- What numbers and texts are written as: the reference's. -/
namespace Go.Proofs.YtipoljcgfcjlnaaGreatDoor
open Go.RowKit
theorem zig_neg {n : Int} (hn : I64 n) (h : n < 0) : bits BinOp.xor IntKind.u64 IntKind.u64.max (IntKind.u64.wrap (IntKind.u64.wrap n * 2)) = (zig n : Int) := by
  rw [Lib.zigzag_neg hn.1 h]
  unfold Lib.zigzag zig
  rw [if_neg (by omega)]
theorem zig_pos {n : Int} (hn : I64 n) (h : 0 ≤ n) : IntKind.u64.wrap (IntKind.u64.wrap n * 2) = (zig n : Int) := by
  have h2 := hn.2
  unfold zig
  rw [if_pos (by omega), IntKind.wrap_u64, IntKind.wrap_u64]
  omega

set_option maxRecDepth 100000 in
set_option maxHeartbeats 800000 in
theorem rputInt_walk (b : List UInt8) (n : Int) (w : World) (hn : I64 n) (hb : b.length ≤ 140737488000000) :
    Calls Tryz.prog 39 #[.string ⟨b.toArray⟩, .int .i64 n] w fun e w' => e = .returned (.string ⟨(b ++ putInt n).toArray⟩) ∧ Below w.heap.size w w' := by
  have hcv := Lib.run_convert_string_bytes (P := Tryz.prog) w 9 72 5 ⟨b.toArray⟩ Tryz.underlying9 Tryz.underlying72 Tryz.underlying5
  have hz := zig_lt hn.1 hn.2
  have hw0 := below_bytes w 5 ⟨b.toArray⟩
  have how := Ow.bytes w 5 ⟨b.toArray⟩ (by simp [maxLen, ByteArray.size]; omega)
  have HZ := Lib.hid hz
  clear hz
  have hd : Hid (n < 0) ∨ Hid (0 ≤ n) := by
    by_cases h0 : n < 0
    · exact Or.inl h0
    · exact Or.inr (Int.not_lt.1 h0)
  rcases hd with h0 | h0
  · have h1 := h0.out
    go_enter Tryz.func39, Tryz.ntmps39
    go_wp2_with fail
    rw [zig_neg hn h0.out]
    clear h1 h0
    clear hcv
    go_loopw [5, 6] (fun u v wr => ∃ (L : List UInt8) (k : Nat) (a : Option Addr) (cap : Nat), v = .slice a L.length cap ∧ u = .int .u64 (k : Int) ∧ k < 18446744073709551616 ∧ L ++ vint k = b ++ putInt n ∧ Ow wr w.heap.size 1 a L.length cap (u8s L) ∧ Below w.heap.size w wr) (fun u _ _ => (intOf u).toNat)
    case atStart => exact ⟨b, zig n, _, _, rfl, rfl, HZ.out, rfl, how, hw0⟩
    case round =>
      obtain ⟨L, k, sa, cap, rfl, rfl, hk, hpre, hown, hbel⟩ := hrel
      have hlen := congrArg List.length hpre
      have hpos := vint_pos k
      rw [List.length_append, List.length_append] at hlen
      have hten := putInt_ten hn
      have hl : L.length ≤ 140737488100000 := by omega
      have hsz := hbel.size
      have HP := Lib.hid hpre
      have HK := Lib.hid hk
      clear hpre hk hlen hpos hten how hw0
      by_cases hlt : (k : Int) < 128
      · go_wp2_with (at_builtin; refine wpList_app1 (w0 := w) (B := w.heap.size) rfl _ _ _ rfl el_u8 rfl hown hbel (by omega) (by omega) (cs := [_]) rfl rfl (one1 rfl) (by omega) ?_)
        intro a1 cap1 w1 hown1 hbel1 _
        have hc : (k : Int) = ((UInt8.ofNat k).toNat : Int) := by simp; omega
        rw [u8s_snoc _ _ _ hc] at hown1
        have hcv := run_bytes_str (P := Tryz.prog) w1 72 9 5 Tryz.underlying72 Tryz.underlying5 Tryz.underlying9 (n := L.length + 1) (c := cap1) (by simp) hown1.rd
        clear hc
        go_wp2
        go_ret
        exact ⟨ret_str (by rw [← HP.out, vint_lt (by omega)]), hbel1⟩
      · go_wp2_with (at_builtin; refine wpList_app1 (w0 := w) (B := w.heap.size) rfl _ _ _ rfl el_u8 rfl hown hbel (by omega) (by omega) (cs := [_]) rfl rfl (one1 rfl) (by omega) ?_)
        intro a1 cap1 w1 hown1 hbel1 _
        rw [or_bits, u8s_snoc _ _ _ rfl] at hown1
        go_wp2
        go_roundw
        case rel => exact ⟨L ++ [UInt8.ofNat (k % 128 + 128)], k / 128, a1, cap1, by simp, by simp, by have := HK.out; omega, by rw [← HP.out, vint_ge (u := k) (by omega)]; simp, by simpa using hown1, hbel1⟩
        case measure => simp [intOf]; omega
  · have h1 := h0.out
    go_enter Tryz.func39, Tryz.ntmps39
    go_wp2_with fail
    rw [zig_pos hn h0.out]
    clear h1 h0
    clear hcv
    go_loopw [5, 6] (fun u v wr => ∃ (L : List UInt8) (k : Nat) (a : Option Addr) (cap : Nat), v = .slice a L.length cap ∧ u = .int .u64 (k : Int) ∧ k < 18446744073709551616 ∧ L ++ vint k = b ++ putInt n ∧ Ow wr w.heap.size 1 a L.length cap (u8s L) ∧ Below w.heap.size w wr) (fun u _ _ => (intOf u).toNat)
    case atStart => exact ⟨b, zig n, _, _, rfl, rfl, HZ.out, rfl, how, hw0⟩
    case round =>
      obtain ⟨L, k, sa, cap, rfl, rfl, hk, hpre, hown, hbel⟩ := hrel
      have hlen := congrArg List.length hpre
      have hpos := vint_pos k
      rw [List.length_append, List.length_append] at hlen
      have hten := putInt_ten hn
      have hl : L.length ≤ 140737488100000 := by omega
      have hsz := hbel.size
      have HP := Lib.hid hpre
      have HK := Lib.hid hk
      clear hpre hk hlen hpos hten how hw0
      by_cases hlt : (k : Int) < 128
      · go_wp2_with (at_builtin; refine wpList_app1 (w0 := w) (B := w.heap.size) rfl _ _ _ rfl el_u8 rfl hown hbel (by omega) (by omega) (cs := [_]) rfl rfl (one1 rfl) (by omega) ?_)
        intro a1 cap1 w1 hown1 hbel1 _
        have hc : (k : Int) = ((UInt8.ofNat k).toNat : Int) := by simp; omega
        rw [u8s_snoc _ _ _ hc] at hown1
        have hcv := run_bytes_str (P := Tryz.prog) w1 72 9 5 Tryz.underlying72 Tryz.underlying5 Tryz.underlying9 (n := L.length + 1) (c := cap1) (by simp) hown1.rd
        clear hc
        go_wp2
        go_ret
        exact ⟨ret_str (by rw [← HP.out, vint_lt (by omega)]), hbel1⟩
      · go_wp2_with (at_builtin; refine wpList_app1 (w0 := w) (B := w.heap.size) rfl _ _ _ rfl el_u8 rfl hown hbel (by omega) (by omega) (cs := [_]) rfl rfl (one1 rfl) (by omega) ?_)
        intro a1 cap1 w1 hown1 hbel1 _
        rw [or_bits, u8s_snoc _ _ _ rfl] at hown1
        go_wp2
        go_roundw
        case rel => exact ⟨L ++ [UInt8.ofNat (k % 128 + 128)], k / 128, a1, cap1, by simp, by simp, by have := HK.out; omega, by rw [← HP.out, vint_ge (u := k) (by omega)]; simp, by simpa using hown1, hbel1⟩
        case measure => simp [intOf]; omega

end Go.Proofs.YtipoljcgfcjlnaaGreatDoor
/- What texts are written as: the reference's. -/
namespace Go.Proofs.YtipoljcgfcjlnaaGreatDoor
open Go.RowKit
set_option maxRecDepth 100000 in
theorem rputText_walk (b s : List UInt8) (w : World) (hb : b.length ≤ 140737488000000) (hs : s.length ≤ 281474976710656) :
    Calls Tryz.prog 38 #[.string ⟨b.toArray⟩, .string ⟨s.toArray⟩] w fun e w' => e = .returned (.string ⟨(b ++ putText s).toArray⟩) ∧ Below w.heap.size w w' := by
  have ht := putInt_ten (I64.nat hs)
  go_enter Tryz.func38, Tryz.ntmps38
  go_wp2_with (go_at_call 39; refine (rputInt_walk b s.length _ (I64.nat hs) hb).mono ?_; rintro e w1 ⟨rfl, hb1⟩)
  go_ret
  exact ⟨ret_str (by simp [putText]), hb1⟩
end Go.Proofs.YtipoljcgfcjlnaaGreatDoor
/- Chains of records: the digest of a record, the program's and the reference's. -/
namespace Go.Proofs.YtipoljcgfcjlnaaGreatDoor
open Go.RowKit
/-- a record in a block of its own -/
def Rk (w : World) (g : Nat) (r : Rec) : Prop := w.heap[g]? = some (.cells #[.int .i64 r.num, .int .i64 r.time, .int .i64 r.kind, .string ⟨r.body.toArray⟩, .string ⟨r.before.toArray⟩] 76 (0, 0))
theorem Rk.lt {w : World} {g : Nat} {r : Rec} (h : Rk w g r) : g < w.heap.size := (Array.getElem?_eq_some_iff.1 h).1
theorem Rk.c0 {w : World} {g : Nat} {r : Rec} (h : Rk w g r) : w.cell? ⟨g, 0, none⟩ = some (.int .i64 r.num) := by rw [Lib.cell_of_heap h]; rfl
theorem Rk.c1 {w : World} {g : Nat} {r : Rec} (h : Rk w g r) : w.cell? ⟨g, 1, none⟩ = some (.int .i64 r.time) := by rw [Lib.cell_of_heap h]; rfl
theorem Rk.c2 {w : World} {g : Nat} {r : Rec} (h : Rk w g r) : w.cell? ⟨g, 2, none⟩ = some (.int .i64 r.kind) := by rw [Lib.cell_of_heap h]; rfl
theorem Rk.c3 {w : World} {g : Nat} {r : Rec} (h : Rk w g r) : w.cell? ⟨g, 3, none⟩ = some (.string ⟨r.body.toArray⟩) := by rw [Lib.cell_of_heap h]; rfl
theorem Rk.c4 {w : World} {g : Nat} {r : Rec} (h : Rk w g r) : w.cell? ⟨g, 4, none⟩ = some (.string ⟨r.before.toArray⟩) := by rw [Lib.cell_of_heap h]; rfl
theorem Rk.keep {w w' : World} {g : Nat} {r : Rec} (h : Rk w g r) (hb : Below w.heap.size w w') : Rk w' g r := (hb.block g h.lt).trans h
theorem Rk.new (w : World) (r : Rec) : Rk (w.alloc (.cells #[.int .i64 r.num, .int .i64 r.time, .int .i64 r.kind, .string ⟨r.body.toArray⟩, .string ⟨r.before.toArray⟩] 76)) w.heap.size r := heap_alloc_new w _
theorem recB_length {r : Rec} (hi : r.In) (hb : r.body.length ≤ 281474976710656) (hf : r.before.length ≤ 281474976710656) : (recB r).length ≤ r.body.length + r.before.length + 50 := by
  have h1 := putInt_ten hi.num
  have h2 := putInt_ten hi.time
  have h3 := putInt_ten hi.kind
  have h4 := putInt_ten (I64.nat hb)
  have h5 := putInt_ten (I64.nat hf)
  simp only [recB, putText, List.length_append]
  omega
set_option maxRecDepth 100000 in
set_option maxHeartbeats 1000000 in
theorem rdig_walk (r : Rec) (w : World) (hi : r.In) (hb : r.body.length + r.before.length ≤ 70368744000000) :
    Calls Tryz.prog 47 #[.agg #[.int .i64 r.num, .int .i64 r.time, .int .i64 r.kind, .string ⟨r.body.toArray⟩, .string ⟨r.before.toArray⟩]] w fun e w' => e = .returned (.string ⟨(digF r).toArray⟩) ∧ Below w.heap.size w w' := by
  have hl := recB_length hi (by omega) (by omega)
  have hR := Rk.new w r
  have hB := (Below.refl w.heap.size w).alloc (Nat.le_refl _) (.cells #[.int .i64 r.num, .int .i64 r.time, .int .i64 r.kind, .string ⟨r.body.toArray⟩, .string ⟨r.before.toArray⟩] 76)
  have hd : digF r = sha (recB r) := rfl
  have h1 := putInt_ten hi.num
  have h2 := putInt_ten hi.time
  have h3 := putInt_ten hi.kind
  have h4 := putInt_ten (I64.nat (show r.body.length ≤ 281474976710656 by omega))
  have k1 : ∀ V, Calls Tryz.prog 39 #[.string ⟨#[]⟩, .int .i64 r.num] V fun e w' => e = .returned (.string ⟨(putInt r.num).toArray⟩) ∧ Below V.heap.size V w' := fun V => rputInt_walk [] r.num V hi.num (by simp)
  have k2 : ∀ V, Calls Tryz.prog 39 #[.string ⟨(putInt r.num).toArray⟩, .int .i64 r.time] V fun e w' => e = .returned (.string ⟨(putInt r.num ++ putInt r.time).toArray⟩) ∧ Below V.heap.size V w' := fun V => rputInt_walk _ r.time V hi.time (by omega)
  have k3 : ∀ V, Calls Tryz.prog 39 #[.string ⟨(putInt r.num ++ putInt r.time).toArray⟩, .int .i64 r.kind] V fun e w' => e = .returned (.string ⟨(putInt r.num ++ putInt r.time ++ putInt r.kind).toArray⟩) ∧ Below V.heap.size V w' := fun V => rputInt_walk _ r.kind V hi.kind (by rw [List.length_append]; omega)
  have k4 : ∀ V, Calls Tryz.prog 38 #[.string ⟨(putInt r.num ++ putInt r.time ++ putInt r.kind).toArray⟩, .string ⟨r.body.toArray⟩] V fun e w' => e = .returned (.string ⟨(putInt r.num ++ putInt r.time ++ putInt r.kind ++ putText r.body).toArray⟩) ∧ Below V.heap.size V w' := fun V => rputText_walk _ r.body V (by simp only [List.length_append]; omega) (by omega)
  have k5 : ∀ V, Calls Tryz.prog 38 #[.string ⟨(putInt r.num ++ putInt r.time ++ putInt r.kind ++ putText r.body).toArray⟩, .string ⟨r.before.toArray⟩] V fun e w' => e = .returned (.string ⟨(recB r).toArray⟩) ∧ Below V.heap.size V w' := fun V => rputText_walk _ r.before V (by simp only [putText, List.length_append]; omega) (by omega)
  have k6 : ∀ V, Calls Tryz.prog 24 #[.string ⟨(recB r).toArray⟩] V fun e w' => e = .returned (.string ⟨(digF r).toArray⟩) ∧ Below V.heap.size V w' := fun V => rsum_walk (recB r) V (by omega)
  have K1 := Lib.hid k1
  have K2 := Lib.hid k2
  have K3 := Lib.hid k3
  have K4 := Lib.hid k4
  have K5 := Lib.hid k5
  have K6 := Lib.hid k6
  clear k1 k2 k3 k4 k5 k6 h1 h2 h3 h4 hd
  generalize putInt r.num = s1 at *
  generalize putInt r.time = s2 at *
  generalize putInt r.kind = s3 at *
  generalize putText r.body = s4 at *
  generalize hs5 : s1 ++ s2 = s5 at *
  generalize hs6 : s5 ++ s3 = s6 at *
  generalize hs7 : s6 ++ s4 = s7 at *
  generalize recB r = s8 at *
  generalize digF r = s9 at *
  clear hs5 hs6 hs7 hl hb
  go_enter Tryz.func47, Tryz.ntmps47
  go_wp2_with fail
  generalize w.alloc (.cells #[.int .i64 r.num, .int .i64 r.time, .int .i64 r.kind, .string ⟨r.body.toArray⟩, .string ⟨r.before.toArray⟩] 76) = w1 at *
  generalize hg : w.heap.size = g at *
  have c0 := fun d os => cell_regrown hR.c0 d os
  have c1 := fun d os => cell_regrown hR.c1 d os
  have c2 := fun d os => cell_regrown hR.c2 d os
  refine wp_region_quiet_below (by kernel_rfl) (by kernel_rfl) ?_
  repeat (go_big_quiet_step (first
    | (go_at_call 39; with_reducible exact Calls.regrown_of (K1.out _))
    | (go_at_call 39; with_reducible exact Calls.regrown_of (K2.out _))
    | (go_at_call 39; with_reducible exact Calls.regrown_of (K3.out _))))
  refine wpQuiet_nil ?_
  rintro w2 ⟨p1, rfl⟩
  have hb1 := below_regrown w1 p1.d p1.os
  generalize Sort.grow (redrawn w1 p1.d) p1.os = w2 at *
  replace hR := hR.keep hb1
  replace hB := hB.trans (hb1.mono (by have := hB.size; omega))
  clear hb1 c0 c1 c2
  go_wp2_with fail
  have c3 := fun d os => cell_regrown hR.c3 d os
  have c4 := fun d os => cell_regrown hR.c4 d os
  refine wp_region_quiet_below (by kernel_rfl) (by kernel_rfl) ?_
  repeat (go_big_quiet_step (first
    | (go_at_call 38; with_reducible exact Calls.regrown_of (K4.out _))
    | (go_at_call 38; with_reducible exact Calls.regrown_of (K5.out _))
    | (go_at_call 24; with_reducible exact Calls.regrown_of (K6.out _))))
  refine wpQuiet_nil ?_
  rintro w3 ⟨p2, rfl⟩
  have hb2 := below_regrown w2 p2.d p2.os
  go_wp2
  go_ret
  exact ⟨rfl, hg ▸ hB.trans (hb2.mono (by have := hB.size; omega))⟩
end Go.Proofs.YtipoljcgfcjlnaaGreatDoor
