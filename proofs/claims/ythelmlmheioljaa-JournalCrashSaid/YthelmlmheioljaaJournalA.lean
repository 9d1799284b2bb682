/- The journal: frames, checks, one record: the program's. -/
import Derived.Test.YthelmlmheioljaaJournalP
import Derived.BigRegion
namespace Go.Proofs.Ythelmlmheioljaa
open Go.RowKit
set_option maxRecDepth 100000 in
theorem jfour_walk (n : Int) (w : World) (hn : I64 n) :
    Calls Try.prog 35 #[.int .i64 n] w fun e w' => e = .returned (.string ⟨(wbytes n).toArray⟩) ∧ Below w.heap.size w w' := by
  have hn1 := hn.1
  have hn2 := hn.2
  have hw : Rd (w.alloc (.cells #[.int .u8 (n / 16777216 % 256), .int .u8 (n / 65536 % 256), .int .u8 (n / 256 % 256), .int .u8 (n % 256)] 5)) (some ⟨w.heap.size, 0, none⟩) (u8s (wbytes n)) := by
    rw [u8s_wbytes]
    exact Rd.mk fun j u hj => by rw [Nat.zero_add, World.cell?_alloc_at _ _ _ _ rfl]; simpa using hj
  have hb := (Below.refl w.heap.size w).alloc (Nat.le_refl _) (.cells #[.int .u8 (n / 16777216 % 256), .int .u8 (n / 65536 % 256), .int .u8 (n / 256 % 256), .int .u8 (n % 256)] 5)
  have hcv := run_bytes_str (P := Try.prog) _ 34 9 5 Try.underlying34 Try.underlying5 Try.underlying9 (n := 4) (c := 4) rfl hw
  go_enter Try.func35, Try.ntmps35
  clear hw hn1 hn2
  go_wp2
  go_ret
  exact ⟨rfl, hb⟩
set_option maxRecDepth 100000 in
theorem jsum_walk (n : Nat) (s : List UInt8) (w : World) (hn : n ≤ 281474976710656) (hs : s.length ≤ 1048576) :
    Calls Try.prog 36 #[.int .i64 (n : Int), .string ⟨s.toArray⟩] w fun e w' => e = .returned (.string ⟨(sumF n s).toArray⟩) ∧ Below w.heap.size w w' := by
  have hl := pairL_length (wbytes n) s
  go_enter Try.func36, Try.ntmps36
  go_wp2_with (go_at_call 35; (with_reducible refine (jfour_walk _ _ (I64.nat (by omega))).mono ?_))
  rintro e w1 ⟨rfl, hb1⟩
  have hwl := wbytes_length (n : Int)
  go_wp2_with (go_at_call 39; (with_reducible refine (pair_walk _ _ _ (by omega)).mono ?_))
  rintro e w2 ⟨rfl, hb2⟩
  have hsf : sumF n s = (pairL (wbytes n) s).take 8 := rfl
  generalize pairL (wbytes n) s = x at *
  have HS := Lib.hid hsf
  clear hsf
  go_wp2
  go_ret
  exact ⟨by rw [HS.out]; rfl, below_tr hb1 hb2⟩
set_option maxRecDepth 100000 in
theorem in_walk (n lo hi : Int) (w : World) :
    Calls Try.prog 32 #[.int .i64 n, .int .i64 lo, .int .i64 hi] w fun e w' => e = .returned (.bool (decide (lo ≤ n) && decide (n ≤ hi))) ∧ w = w' := by
  by_cases h1 : lo ≤ n
  · have d1 : decide (n ≥ lo) = true := by simpa using h1
    have d1' : decide (lo ≤ n) = true := by simpa using h1
    go_enter Try.func32, Try.ntmps32
    go_wp2
    go_ret
    exact ⟨by simp [h1], rfl⟩
  · have d1 : decide (n ≥ lo) = false := by simpa using h1
    go_enter Try.func32, Try.ntmps32
    go_wp2
    go_ret
    exact ⟨by simp, rfl⟩
end Go.Proofs.Ythelmlmheioljaa
