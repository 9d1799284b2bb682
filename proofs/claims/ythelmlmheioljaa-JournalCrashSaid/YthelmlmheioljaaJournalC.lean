/- The journal: one record: the program's. -/
import Derived.Test.YthelmlmheioljaaJournalB
namespace Go.Proofs.Ythelmlmheioljaa
open Go.RowKit
def okF (d : List UInt8) (n : Nat) : Bool := (d.drop (4 + size4 d)).take 8 == sumF n (bodyF d)
set_option maxRecDepth 100000 in
theorem record_fits (d : List UInt8) (n : Nat) (w : World) (hd : d.length ≤ 65536) (hn : n ≤ 65536) (h : fitsF d) :
    Calls Try.prog 42 #[.string ⟨d.toArray⟩, .int .i64 (n : Int)] w fun e w' => e = .returned (.tuple #[.string ⟨(bodyF d).toArray⟩, .bool (okF d n)]) ∧ Below w.heap.size w w' := by
  have hbl := bodyF_length h
  obtain ⟨h4, hz, hl⟩ := h
  go_enter Try.func42, Try.ntmps42
  go_wp2
  go_loopw [6, 7, 12] (fun m _ i wr => ∃ (k a : Nat), wr = w ∧ k ≤ 4 ∧ a = num7 d k ∧ i = .int .i64 (k : Int) ∧ m = .int .i64 (a : Int)) (fun _ _ i _ => 4 - (intOf i).toNat)
  case atStart => exact ⟨0, 0, rfl, by omega, rfl, rfl, rfl⟩
  case round =>
    obtain ⟨k, a, rfl, hk, ha, rfl, rfl⟩ := hrel
    have hlt := num7_lt d k
    rw [← ha] at hlt
    by_cases hkt : k < 4
    · have hp : 256 ^ k ≤ 256 ^ 3 := Nat.pow_le_pow_right (by omega) (by omega)
      have hs := num7_step d k (by omega)
      rw [← ha] at hs
      have hb := bt_lt d k
      have HA := Lib.hid ha
      have ha2 : a < 16777216 := by omega
      have hkl : (k : Int) < (d.length : Int) := by omega
      clear ha hlt hp
      go_wp2
      go_roundw
      case rel => exact ⟨k + 1, num7 d (k + 1), trivial, by omega, rfl, by go_num, rfl⟩
      case measure => simp [intOf]; omega
    · obtain rfl : k = 4 := by omega
      have hs4 : size4 d = a := ha.symm
      rw [hs4] at hz hl hbl
      have hok : okF d n = ((d.drop (4 + a)).take 8 == sumF n (bodyF d)) := by rw [okF, hs4]
      have hbo : bodyF d = (d.drop 4).take a := by rw [bodyF, hs4]
      clear ha hlt hs4 hkt hk
      have hd1 : decide ((a : Int) > 4096) = false := by simp; omega
      obtain ⟨b, hb⟩ : ∃ b : Nat, b = 4 + a := ⟨_, rfl⟩
      have hb1 : (4 : Int) + (a : Int) = (b : Int) := by omega
      obtain ⟨c, hc⟩ : ∃ c : Nat, c = b + 8 := ⟨_, rfl⟩
      have hc1 : (b : Int) + 8 = (c : Int) := by omega
      have hd2 : decide ((d.length : Int) < (c : Int)) = false := by simp; omega
      rw [← hb] at hok
      have hc8 : c - b = 8 := by omega
      have hb4 : b - 4 = a := by omega
      have i1 : (b : Int) ≤ (d.length : Int) := by omega
      have i2 : (c : Int) ≤ (d.length : Int) := by omega
      have i3 : (b : Int) ≤ (c : Int) := by omega
      have i4 : (4 : Int) ≤ (b : Int) := by omega
      have i5 : c ≤ 65536 := by omega
      have hsl := sumF_length n (bodyF d)
      obtain ⟨s, hsb⟩ : ∃ s, s = bodyF d := ⟨_, rfl⟩
      rw [← hsb] at hbl hok hbo hsl
      have HSB := Lib.hid hsb
      clear hsb
      have HOK := Lib.hid hok
      have HBO := Lib.hid hbo
      clear hok hbo hb hc hc8
      have hc8 : c - b = 8 := by omega
      go_wp2
      rw [← HBO.out]
      have hn2 : n ≤ 281474976710656 := by omega
      have hs2 : s.length ≤ 1048576 := by omega
      refine wp_region_quiet_below (by kernel_rfl) (by kernel_rfl) ?_
      repeat (go_big_quiet_step (first | (go_at_call 36; exact Calls.regrown_of (jsum_walk n s _ hn2 hs2))))
      refine wpQuiet_nil ?_
      rintro w1 ⟨p1, rfl⟩
      have hb1 := below_regrown wr p1.d p1.os
      go_wp2
      go_ret2
      refine ⟨?_, hb1⟩
      rw [HOK.out, ← HSB.out]
      rfl
theorem record_some {d s : List UInt8} {n : Nat} (hr : recF d n = some s) (w : World) (hd : d.length ≤ 65536) (hn : n ≤ 65536) :
    Calls Try.prog 42 #[.string ⟨d.toArray⟩, .int .i64 (n : Int)] w fun e w' => e = .returned (.tuple #[.string ⟨s.toArray⟩, .bool true]) ∧ Below w.heap.size w w' := by
  unfold recF at hr
  split at hr
  · rename_i h
    obtain rfl := Option.some.inj hr
    have hok : okF d n = true := by rw [okF, beq_iff_eq]; exact h.2
    have := record_fits d n w hd hn h.1
    rw [hok] at this
    exact this
  · cases hr
theorem record_none {d : List UInt8} {n : Nat} (hr : recF d n = none) (w : World) (hd : d.length ≤ 65536) (hn : n ≤ 65536) :
    Calls Try.prog 42 #[.string ⟨d.toArray⟩, .int .i64 (n : Int)] w fun e w' => ∃ t : List UInt8, e = .returned (.tuple #[.string ⟨t.toArray⟩, .bool false]) ∧ Below w.heap.size w w' := by
  by_cases hf : fitsF d
  · have hok : okF d n = false := by
      rw [okF, beq_eq_false_iff_ne]
      intro h
      rw [recF, if_pos ⟨hf, h⟩] at hr
      cases hr
    have := record_fits d n w hd hn hf
    rw [hok] at this
    exact this.mono fun _ _ h => ⟨_, h⟩
  · exact (record_short d n w hd hf).mono fun _ _ ⟨h1, h2⟩ => ⟨[], h1, h2 ▸ Below.refl _ _⟩
end Go.Proofs.Ythelmlmheioljaa
