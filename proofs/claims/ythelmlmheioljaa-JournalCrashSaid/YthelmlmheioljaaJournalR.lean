/- The journal: the reference's frames and records. -/
import Derived.Test.YthelmlmheioljaaJournalF
namespace Go.Proofs.Ythelmlmheioljaa
open Go.RowKit
set_option maxRecDepth 100000 in
theorem rjcheck_walk (d : List UInt8) (f : Int) (b : Bool) (w : World) (hd : d.length ≤ 281474976710656) :
    Calls Try.prog 29 #[.agg #[.string ⟨d.toArray⟩, .int .i64 f, .bool b]] w fun e w' => e = .returned (.int .i64 (checkF d f)) ∧ Below w.heap.size w w' := by
  have hb0 := (Below.refl w.heap.size w).alloc (Nat.le_refl _) (.cells #[.string ⟨d.toArray⟩, .int .i64 f, .bool b] 23)
  go_enter Try.func29, Try.ntmps29
  by_cases h : 65536 < d.length
  · have HR := Lib.hid (show checkF d f = 53 by rw [checkF, if_pos (.inl h)])
    have hdd : decide ((d.length : Int) > 65536) = true := by simp; omega
    go_wp2
    go_ret
    exact ⟨by rw [HR.out]; rfl, hb0⟩
  · have hdd : decide ((d.length : Int) > 65536) = false := by simp; omega
    by_cases h0 : f < 0
    · have HR := Lib.hid (show checkF d f = 53 by rw [checkF, if_pos (.inr (by omega))])
      have hd2 : decide (f < 0) = true := by simpa using h0
      go_wp2
      go_ret
      exact ⟨by rw [HR.out]; rfl, hb0⟩
    · have hd2 : decide (f < 0) = false := by simpa using h0
      by_cases h1 : f > 65536
      · have HR := Lib.hid (show checkF d f = 53 by rw [checkF, if_pos (.inr (by omega))])
        have hd3 : decide (f > 65536) = true := by simpa using h1
        go_wp2
        go_ret
        exact ⟨by rw [HR.out]; rfl, hb0⟩
      · have HR := Lib.hid (show checkF d f = 0 by rw [checkF, if_neg (by omega)])
        have hd3 : decide (f > 65536) = false := by simpa using h1
        go_wp2
        go_ret
        exact ⟨by rw [HR.out]; rfl, hb0⟩
set_option maxRecDepth 100000 in
theorem rframe_walk (n : Nat) (s : List UInt8) (w : World) (hn : n ≤ 281474976710656) (hs : s.length ≤ 1048576) :
    Calls Try.prog 31 #[.int .i64 (n : Int), .string ⟨s.toArray⟩] w fun e w' => e = .returned (.string ⟨(frameF n s).toArray⟩) ∧ Below w.heap.size w w' := by
  have hwl := wbytes_length (s.length : Int)
  have hwl2 := wbytes_length (n : Int)
  have hl := pairL_length (wbytes n) s
  have HF := Lib.hid (show frameF n s = wbytes s.length ++ s ++ (pairL (wbytes n) s).take 8 from rfl)
  go_enter Try.func31, Try.ntmps31
  go_wp2_with (go_at_call 22; (with_reducible refine (rfour_walk _ _ (I64.nat (by omega))).mono ?_))
  rintro e w1 ⟨rfl, hb1⟩
  go_wp2_with (go_at_call 22; (with_reducible refine (rfour_walk _ _ (I64.nat (by omega))).mono ?_))
  rintro e w2 ⟨rfl, hb2⟩
  go_wp2_with (go_at_call 37; (with_reducible refine (rpair_walk _ _ _ (by omega)).mono ?_))
  rintro e w3 ⟨rfl, hb3⟩
  generalize pairL (wbytes n) s = x at *
  generalize wbytes (s.length : Int) = y at *
  go_wp2
  go_ret
  exact ⟨by rw [HF.out]; try simp only [List.append_assoc]; rfl, below_tr (below_tr hb1 hb2) hb3⟩
set_option maxRecDepth 100000 in
theorem rFrame_walk (n : Int) (s : List UInt8) (w : World) (hs : s.length ≤ 1048576) :
    Calls Try.prog 12 #[.int .i64 n, .string ⟨s.toArray⟩] w fun e w' => e = .returned (frameRes n s) ∧ Below w.heap.size w w' := by
  go_enter Try.func12, Try.ntmps12
  by_cases h0 : n < 0
  · have HR := Lib.hid (show frameRes n s = .tuple #[.string ⟨#[]⟩, .int .i64 2] by rw [frameRes, if_pos (by omega)])
    have hd2 : decide (n < 0) = true := by simpa using h0
    go_wp2
    go_ret2
    exact ⟨by rw [HR.out]; rfl, Below.refl _ _⟩
  · have hd2 : decide (n < 0) = false := by simpa using h0
    by_cases h1 : n > 65536
    · have HR := Lib.hid (show frameRes n s = .tuple #[.string ⟨#[]⟩, .int .i64 2] by rw [frameRes, if_pos (by omega)])
      have hd3 : decide (n > 65536) = true := by simpa using h1
      go_wp2
      go_ret2
      exact ⟨by rw [HR.out]; rfl, Below.refl _ _⟩
    · have hd3 : decide (n > 65536) = false := by simpa using h1
      obtain ⟨m, rfl⟩ : ∃ m : Nat, n = (m : Int) := ⟨n.toNat, by omega⟩
      by_cases h4 : 4096 < s.length
      · have HR := Lib.hid (show frameRes (m : Int) s = .tuple #[.string ⟨#[]⟩, .int .i64 3] by rw [frameRes, if_neg (by omega), if_pos h4])
        go_wp2
        go_ret2
        exact ⟨by rw [HR.out]; rfl, Below.refl _ _⟩
      · have HR := Lib.hid (show frameRes (m : Int) s = .tuple #[.string ⟨(frameF m s).toArray⟩, .int .i64 0] by rw [frameRes, if_neg (by omega), if_neg h4, Int.toNat_natCast])
        go_wp2_with (go_at_call 31; (with_reducible refine (rframe_walk m s _ (by omega) (by omega)).mono ?_))
        rintro e w1 rfl hb1
        go_wp2
        go_ret2
        exact ⟨by rw [HR.out]; rfl, hb1⟩
/-! ### One record: plain -/
theorem num7_4 (b0 b1 b2 b3 : UInt8) (l : List UInt8) : num7 (b0 :: b1 :: b2 :: b3 :: l) 4 = ((b0.toNat * 256 + b1.toNat) * 256 + b2.toNat) * 256 + b3.toNat := by simp [num7, bt]
theorem wbytes_size4 {d : List UInt8} (h : 4 ≤ d.length) : wbytes (size4 d : Int) = d.take 4 := by
  obtain ⟨b0, b1, b2, b3, l, rfl⟩ : ∃ b0 b1 b2 b3 l, d = b0 :: b1 :: b2 :: b3 :: l := by
    match d, h with
    | b0 :: b1 :: b2 :: b3 :: l, _ => exact ⟨b0, b1, b2, b3, l, rfl⟩
  have h0 := b0.toNat_lt
  have h1 := b1.toNat_lt
  have h2 := b2.toNat_lt
  have h3 := b3.toNat_lt
  rw [size4, num7_4, wbytes]
  have e0 : ((((((b0.toNat * 256 + b1.toNat) * 256 + b2.toNat) * 256 + b3.toNat : Nat) : Int) / 16777216 % 256)).toNat = b0.toNat := by omega
  have e1 : ((((((b0.toNat * 256 + b1.toNat) * 256 + b2.toNat) * 256 + b3.toNat : Nat) : Int) / 65536 % 256)).toNat = b1.toNat := by omega
  have e2 : ((((((b0.toNat * 256 + b1.toNat) * 256 + b2.toNat) * 256 + b3.toNat : Nat) : Int) / 256 % 256)).toNat = b2.toNat := by omega
  have e3 : ((((((b0.toNat * 256 + b1.toNat) * 256 + b2.toNat) * 256 + b3.toNat : Nat) : Int) % 256)).toNat = b3.toNat := by omega
  rw [e0, e1, e2, e3]
  simp
theorem take_frame {d : List UInt8} (h : fitsF d) : d.take (12 + size4 d) = wbytes (size4 d : Int) ++ bodyF d ++ (d.drop (4 + size4 d)).take 8 := by
  rw [wbytes_size4 h.1, bodyF, show 12 + size4 d = 4 + (size4 d + 8) by omega, List.take_add, List.take_add, List.drop_drop, List.append_assoc]
theorem ok_frame {d : List UInt8} {n : Nat} (h : fitsF d) : (d.take (12 + size4 d) == frameF n (bodyF d)) = okF d n := by
  rw [take_frame h, frameF, bodyF_length h, okF, Bool.eq_iff_iff, beq_iff_eq, beq_iff_eq, List.append_cancel_left_eq]
theorem recF_okF {d : List UInt8} {n : Nat} (h : fitsF d) : recF d n = if okF d n = true then some (bodyF d) else none := by
  rw [recF, okF]
  by_cases hc : (d.drop (4 + size4 d)).take 8 = sumF n (bodyF d)
  · rw [if_pos ⟨h, hc⟩, if_pos (by rw [beq_iff_eq]; exact hc)]
  · rw [if_neg (fun k => hc k.2), if_neg (by rw [beq_iff_eq]; exact hc)]
theorem recF_nofit {d : List UInt8} {n : Nat} (h : ¬ fitsF d) : recF d n = none := by rw [recF, if_neg (fun k => h k.1)]
theorem or4 (d : List UInt8) : bits .or .i64 (bits .or .i64 (bits .or .i64 ((bt d 0 : Int) * 16777216) ((bt d 1 : Int) * 65536)) ((bt d 2 : Int) * 256)) (bt d 3 : Int) = (size4 d : Int) := by
  have h0 := bt_lt d 0
  have h1 := bt_lt d 1
  have h2 := bt_lt d 2
  have h3 := bt_lt d 3
  have o1 : bt d 0 * 16777216 ||| bt d 1 * 65536 = bt d 0 * 16777216 + bt d 1 * 65536 := by
    have := Nat.two_pow_add_eq_or_of_lt (i := 24) (b := bt d 1 * 65536) (by omega) (bt d 0)
    rw [Nat.mul_comm] at this
    exact this.symm
  have o2 : (bt d 0 * 16777216 + bt d 1 * 65536) ||| bt d 2 * 256 = bt d 0 * 16777216 + bt d 1 * 65536 + bt d 2 * 256 := by
    have := Nat.two_pow_add_eq_or_of_lt (i := 16) (b := bt d 2 * 256) (by omega) (bt d 0 * 256 + bt d 1)
    rw [show 2 ^ 16 * (bt d 0 * 256 + bt d 1) = bt d 0 * 16777216 + bt d 1 * 65536 by omega] at this
    exact this.symm
  have o3 : (bt d 0 * 16777216 + bt d 1 * 65536 + bt d 2 * 256) ||| bt d 3 = bt d 0 * 16777216 + bt d 1 * 65536 + bt d 2 * 256 + bt d 3 := by
    have := Nat.two_pow_add_eq_or_of_lt (i := 8) (b := bt d 3) (by omega) ((bt d 0 * 256 + bt d 1) * 256 + bt d 2)
    rw [show 2 ^ 8 * ((bt d 0 * 256 + bt d 1) * 256 + bt d 2) = bt d 0 * 16777216 + bt d 1 * 65536 + bt d 2 * 256 by omega] at this
    exact this.symm
  have a1 := i64_or_nat (bt d 0 * 16777216) (bt d 1 * 65536) (by omega) (by omega) (by rw [o1]; omega)
  have a2 := i64_or_nat (bt d 0 * 16777216 + bt d 1 * 65536) (bt d 2 * 256) (by omega) (by omega) (by rw [o2]; omega)
  have a3 := i64_or_nat (bt d 0 * 16777216 + bt d 1 * 65536 + bt d 2 * 256) (bt d 3) (by omega) (by omega) (by rw [o3]; omega)
  rw [o1] at a1
  rw [o2] at a2
  rw [o3] at a3
  have e1 : ((bt d 0 : Int) * 16777216) = ((bt d 0 * 16777216 : Nat) : Int) := by omega
  have e2 : ((bt d 1 : Int) * 65536) = ((bt d 1 * 65536 : Nat) : Int) := by omega
  have e3 : ((bt d 2 : Int) * 256) = ((bt d 2 * 256 : Nat) : Int) := by omega
  rw [e1, e2, e3, a1, a2, a3, size4]
  simp only [num7]
  omega
theorem bt_drop (d : List UInt8) (a i : Nat) : bt (d.drop a) i = bt d (a + i) := by simp [bt]
end Go.Proofs.Ythelmlmheioljaa
