/- The walk of the law CodecWrites. -/
import Derived.Test.YtcppedmcchhhoaaCodecR
namespace Go.Proofs.Ytcppedmcchhhoaa
open Go.RowKit

set_option maxRecDepth 100000 in
set_option maxHeartbeats 1000000 in
theorem writes_walk (w : World) (b : List UInt8) (_ : b.length ≤ 140737488351232) (_ : b.length ≤ 1048576) (n : Int) (hn : I64 n) (s : List UInt8) (_ : s.length ≤ 140737488351232) (_ : s.length ≤ 1048576)
    (la : Option Addr) (l : List Int) (lc : Nat) (hr : Rd w la (ints l)) (hx : ∀ x ∈ l, I64 x) (_ : l.length ≤ 17592186043904) (_ : l.length ≤ 1048576)
    (ma : Option Addr) (m : List (List UInt8)) (mc : Nat) (hrm : Rd w ma (strs m)) (hxm : ∀ x ∈ m, x.length ≤ 140737488351232) (_ : m.length ≤ 17592186043904) (hmt : tot m + m.length ≤ 1048576) :
    Calls Try.prog 4 #[.string ⟨b.toArray⟩, .int .i64 n, .string ⟨s.toArray⟩, .slice la l.length lc, .slice ma m.length mc] w fun e w' => e = .returned (.bool true) ∧ Below w.heap.size w w' := by
  by_cases q1 : 1000 < b.length + s.length
  · go_enter Try.func4, Try.ntmps4
    go_wp2_with (go_at_call 13; refine (awake4 _).mono ?_; rintro e w1 ⟨rfl, hb1⟩)
    go_ret
    exact ⟨rfl, hb1⟩
  by_cases q2 : 100 < l.length
  · go_enter Try.func4, Try.ntmps4
    go_wp2_with (go_at_call 13; refine (awake4 _).mono ?_; rintro e w1 ⟨rfl, hb1⟩)
    go_ret
    exact ⟨rfl, hb1⟩
  by_cases q3 : 40 < m.length
  · go_enter Try.func4, Try.ntmps4
    go_wp2_with (go_at_call 13; refine (awake4 _).mono ?_; rintro e w1 ⟨rfl, hb1⟩)
    go_ret
    exact ⟨rfl, hb1⟩
  have hxm' : ∀ x ∈ m, x.length ≤ 281474976710656 := fun x h => by have := hxm x h; omega
  have a3 := putInts_len hx (by omega)
  have a4 := putTexts_len hxm' (by omega)
  go_enter Try.func4, Try.ntmps4
  go_wp2_with fail
  have hn0 := hn.1
  have hn1 := hn.2
  have hxs : ∀ x ∈ [n, n / 256, n / 4294967296, n / 281474976710656, n / 72057594037927936], I64 x := by
    intro x hx
    simp only [List.mem_cons, List.not_mem_nil, or_false] at hx
    rcases hx with rfl | rfl | rfl | rfl | rfl <;> (unfold I64; omega)
  clear hn0 hn1
  go_loopw [41] (fun i wr => ∃ (k : Nat), k ≤ 5 ∧ i = .int .i64 (k : Int) ∧ Rd wr (some ⟨w.heap.size, 0, none⟩) (ints [n, n / 256, n / 4294967296, n / 281474976710656, n / 72057594037927936]) ∧ Below w.heap.size w wr) (fun i _ => 5 - (intOf i).toNat)
  case atStart => exact ⟨0, by omega, rfl, Rd.mk fun j u hj => by rw [Nat.zero_add, World.cell?_alloc_at _ _ _ _ rfl]; simpa [ints] using hj, (Below.refl _ _).alloc (Nat.le_refl _) _⟩
  case round =>
    obtain ⟨k, hk, rfl, hrd, hbel⟩ := hrel
    by_cases hlt : k < 5
    · obtain ⟨g, off, x, hga, hc, HX⟩ := hrd.int (k := k) hlt
      simp only [Option.some.injEq, Addr.mk.injEq, and_true] at hga
      obtain ⟨rfl, rfl⟩ := hga
      rw [Nat.zero_add] at hc
      have hxi := hxs x (mem_at HX)
      go_wp2_with (first
        | (go_at_call 16; refine (putInt_any b x _ hxi (by omega)).mono ?_; rintro e w2 ⟨rfl, hb2⟩)
        | (go_at_call 17; refine (rputInt_walk b x _ hxi (by omega)).mono ?_; rintro e w3 ⟨rfl, hb3⟩; replace hb3 := below_tr hb2 hb3))
      go_roundw
      case rel => exact ⟨k + 1, by omega, by go_num, hrd.keep hb3, below_tr hbel hb3⟩
      case measure => simp [intOf]; omega
    · have hr1 := hr.keep hbel
      have hrm1 := hrm.keep hbel
      clear hxs hrd
      go_wp2_with (first
        | (go_at_call 18; refine (putText_any b s _ (by omega) (by omega)).mono ?_; rintro e w2 ⟨rfl, hb2⟩)
        | (go_at_call 19; refine (rputText_walk b s _ (by omega) (by omega)).mono ?_; rintro e w3 ⟨rfl, hb3⟩; replace hb3 := below_tr hb2 hb3)
        | (go_at_call 20; refine (putInts_any b la lc l _ (by omega) (hr1.keep hb3) (by omega) hx (by omega)).mono ?_; rintro e w4 ⟨rfl, hb4⟩; replace hb4 := below_tr hb3 hb4)
        | (go_at_call 21; refine (rputInts_walk b la lc l _ (by omega) (hr1.keep hb4) (by omega) hx (by omega)).mono ?_; rintro e w5 ⟨rfl, hb5⟩; replace hb5 := below_tr hb4 hb5)
        | (go_at_call 22; refine (putTexts_any b ma mc m _ (by omega) (hrm1.keep hb5) (by omega) hxm' (by omega)).mono ?_; rintro e w6 ⟨rfl, hb6⟩; replace hb6 := below_tr hb5 hb6)
        | (go_at_call 23; refine (rputTexts_walk b ma mc m _ (by omega) (hrm1.keep hb6) (by omega) hxm' (by omega)).mono ?_; rintro e w7 ⟨rfl, hb7⟩; replace hb7 := below_tr hb6 hb7)
        | (go_at_call 13; refine (awake4 _).mono ?_; rintro e w8 ⟨rfl, hb8⟩; replace hb8 := below_tr hb7 hb8))
      go_ret
      exact ⟨rfl, below_tr hbel hb8⟩
end Go.Proofs.Ytcppedmcchhhoaa
