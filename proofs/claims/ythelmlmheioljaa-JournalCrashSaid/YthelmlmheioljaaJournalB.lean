/- The journal: checks, frames, one record: the program's. -/
import Derived.Test.YthelmlmheioljaaJournalA
namespace Go.Proofs.Ythelmlmheioljaa
open Go.RowKit
def checkF (d : List UInt8) (f : Int) : Int := if 65536 < d.length ∨ ¬ (0 ≤ f ∧ f ≤ 65536) then 53 else 0
theorem checkF_ok {d : List UInt8} {f : Int} (h1 : d.length ≤ 65536) (h2 : 0 ≤ f) (h3 : f ≤ 65536) : checkF d f = 0 := by rw [checkF, if_neg (by omega)]
theorem checkF_cases (d : List UInt8) (f : Int) : (checkF d f = 0 ∧ d.length ≤ 65536 ∧ 0 ≤ f ∧ f ≤ 65536) ∨ checkF d f = 53 := by
  unfold checkF; split
  · exact .inr rfl
  · rename_i h; exact .inl ⟨rfl, by omega, by omega, by omega⟩
set_option maxRecDepth 100000 in
theorem jcheck_walk (d : List UInt8) (f : Int) (b : Bool) (w : World) (hd : d.length ≤ 281474976710656) :
    Calls Try.prog 28 #[.agg #[.string ⟨d.toArray⟩, .int .i64 f, .bool b]] w fun e w' => e = .returned (.int .i64 (checkF d f)) ∧ Below w.heap.size w w' := by
  go_enter Try.func28, Try.ntmps28
  by_cases h : 65536 < d.length
  · have hr : checkF d f = 53 := by rw [checkF, if_pos (.inl h)]
    have HR := Lib.hid hr
    clear hr
    have hdd : decide ((d.length : Int) > 65536) = true := by simp; omega
    go_wp2
    go_ret
    exact ⟨by rw [HR.out]; rfl, (Below.refl _ _).alloc (Nat.le_refl _) _⟩
  · have hdd : decide ((d.length : Int) > 65536) = false := by simp; omega
    obtain ⟨c, hc⟩ : ∃ c, c = (decide ((0 : Int) ≤ f) && decide (f ≤ 65536)) := ⟨_, rfl⟩
    have hr : checkF d f = if c then 0 else 53 := by
      rw [checkF, hc]
      by_cases h1 : 0 ≤ f <;> by_cases h2 : f ≤ 65536 <;> simp [h1, h2] <;> omega
    have HR := Lib.hid hr
    have HC := Lib.hid hc
    clear hr hc
    go_wp2_with (go_at_call 32; (with_reducible refine (in_walk _ _ _ _).mono ?_))
    rintro e w1 ⟨rfl, rfl⟩
    rw [← HC.out]
    clear HC
    cases c
    all_goals
      go_wp2
      go_ret
      exact ⟨by rw [HR.out]; rfl, (Below.refl _ _).alloc (Nat.le_refl _) _⟩
/-- what Frame returns -/
def frameRes (n : Int) (s : List UInt8) : Value :=
  if ¬ (0 ≤ n ∧ n ≤ 65536) then .tuple #[.string ⟨#[]⟩, .int .i64 2] else if 4096 < s.length then .tuple #[.string ⟨#[]⟩, .int .i64 3] else .tuple #[.string ⟨(frameF n.toNat s).toArray⟩, .int .i64 0]
set_option maxRecDepth 100000 in
theorem jframe_walk (n : Int) (s : List UInt8) (w : World) (hs : s.length ≤ 1048576) :
    Calls Try.prog 27 #[.int .i64 n, .string ⟨s.toArray⟩] w fun e w' => e = .returned (frameRes n s) ∧ Below w.heap.size w w' := by
  obtain ⟨c, hc⟩ : ∃ c, c = (decide ((0 : Int) ≤ n) && decide (n ≤ 65536)) := ⟨_, rfl⟩
  have HC := Lib.hid hc
  go_enter Try.func27, Try.ntmps27
  cases c with
  | false =>
    have hr : frameRes n s = .tuple #[.string ⟨#[]⟩, .int .i64 2] := by
      rw [frameRes, if_pos]; intro ⟨a, b⟩; simp [a, b] at hc
    have HR := Lib.hid hr
    clear hr hc
    go_wp2_with (go_at_call 32; (with_reducible refine (in_walk _ _ _ _).mono ?_))
    rintro e w1 ⟨rfl, rfl⟩
    rw [← HC.out]
    clear HC
    go_wp2
    go_ret2
    exact ⟨by rw [HR.out]; rfl, Below.refl _ _⟩
  | true =>
    have hn : 0 ≤ n ∧ n ≤ 65536 := by simpa using hc.symm
    obtain ⟨m, rfl⟩ : ∃ m : Nat, n = (m : Int) := ⟨n.toNat, by omega⟩
    clear hc
    by_cases h4 : 4096 < s.length
    · have hr : frameRes (m : Int) s = .tuple #[.string ⟨#[]⟩, .int .i64 3] := by
        rw [frameRes, if_neg (by omega), if_pos h4]
      have HR := Lib.hid hr
      clear hr
      go_wp2_with (go_at_call 32; (with_reducible refine (in_walk _ _ _ _).mono ?_))
      rintro e w1 ⟨rfl, rfl⟩
      rw [← HC.out]
      clear HC
      go_wp2
      go_ret2
      exact ⟨by rw [HR.out]; rfl, Below.refl _ _⟩
    · have hr : frameRes (m : Int) s = .tuple #[.string ⟨(wbytes s.length ++ s ++ sumF m s).toArray⟩, .int .i64 0] := by
        rw [frameRes, if_neg (by omega), if_neg h4, Int.toNat_natCast]; rfl
      have HR := Lib.hid hr
      have hwl := wbytes_length (s.length : Int)
      have hsl := sumF_length m s
      clear hr
      go_wp2_with (go_at_call 32; (with_reducible refine (in_walk _ _ _ _).mono ?_))
      rintro e w1 ⟨rfl, rfl⟩
      rw [← HC.out]
      clear HC
      go_wp2_with (go_at_call 35; (with_reducible refine (jfour_walk _ _ (I64.nat (by omega))).mono ?_))
      rintro e w1 ⟨rfl, hb1⟩
      generalize wbytes (s.length : Int) = x at *
      go_wp2_with (go_at_call 36; (with_reducible refine (jsum_walk m s _ (by omega) (by omega)).mono ?_))
      rintro e w2 ⟨rfl, hb2⟩
      generalize sumF m s = y at *
      go_wp2
      go_ret2
      exact ⟨by rw [HR.out]; try simp only [List.append_assoc]; rfl, below_tr hb1 hb2⟩
set_option maxRecDepth 100000 in
theorem record_short (d : List UInt8) (n : Nat) (w : World) (hd : d.length ≤ 65536) (h : ¬ fitsF d) :
    Calls Try.prog 42 #[.string ⟨d.toArray⟩, .int .i64 (n : Int)] w fun e w' => e = .returned (.tuple #[.string ⟨#[]⟩, .bool false]) ∧ w = w' := by
  go_enter Try.func42, Try.ntmps42
  by_cases h4 : d.length < 4
  · clear h
    go_wp2
    go_ret2
    exact ⟨rfl, rfl⟩
  · have HF := Lib.hid h
    clear h
    go_wp2
    go_loopw [6, 7, 12] (fun m _ i wr => ∃ (k a : Nat), wr = w ∧ k ≤ 4 ∧ a = num7 d k ∧ i = .int .i64 (k : Int) ∧ m = .int .i64 (a : Int)) (fun _ _ i _ => 4 - (intOf i).toNat)
    case atStart => exact ⟨0, 0, rfl, by omega, rfl, rfl, rfl⟩
    case round =>
      obtain ⟨k, a, rfl, hk, ha, rfl, rfl⟩ := hrel
      have hlt := num7_lt d k
      rw [← ha] at hlt
      by_cases hkt : k < 4
      · have hp : 256 ^ k ≤ 256 ^ 3 := Nat.pow_le_pow_right (by omega) (by omega)
        have hs := num7_step d k (by omega)
        rw [← ha] at hs
        have hb := bt_lt d k
        have HA := Lib.hid ha
        have ha2 : a < 16777216 := by omega
        have hkl : (k : Int) < (d.length : Int) := by omega
        clear ha hlt hp
        go_wp2
        go_roundw
        case rel => exact ⟨k + 1, num7 d (k + 1), trivial, by omega, rfl, by go_num, rfl⟩
        case measure => simp [intOf]; omega
      · obtain rfl : k = 4 := by omega
        have hp : 256 ^ 4 = 4294967296 := rfl
        rw [hp] at hlt
        have hF : ¬ (a ≤ 4096 ∧ 12 + a ≤ d.length) := fun hc => HF.out ⟨by omega, by rw [size4, ← ha]; exact hc.1, by rw [size4, ← ha]; exact hc.2⟩
        clear ha hp
        by_cases hz : a > 4096
        · have hd1 : decide ((a : Int) > 4096) = true := by simp; omega
          clear hF
          go_wp2
          go_ret2
          exact ⟨rfl, rfl⟩
        · have hd1 : decide ((a : Int) > 4096) = false := by simp; omega
          have hlt2 : d.length < 12 + a := by omega
          obtain ⟨c, hc⟩ : ∃ c : Nat, c = 12 + a := ⟨_, rfl⟩
          have hc1 : (4 : Int) + (a : Int) + 8 = (c : Int) := by omega
          have hd2 : decide ((d.length : Int) < (c : Int)) = true := by simp; omega
          clear hF hc
          go_wp2
          go_ret2
          exact ⟨rfl, rfl⟩
end Go.Proofs.Ythelmlmheioljaa
