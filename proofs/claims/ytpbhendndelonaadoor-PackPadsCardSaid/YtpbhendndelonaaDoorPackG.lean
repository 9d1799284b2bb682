/- Zeros stripped from the right. -/
import Derived.Test.YtpbhendndelonaaDoorPackF
namespace Go.Proofs.YtpbhendndelonaaDoor
open Go.RowKit
/-- how many bytes are left of the first n, behind the zeros' fall -/
def trimN (l : List UInt8) : Nat → Nat
  | 0 => 0
  | n + 1 => if bt l n = 0 then trimN l n else n + 1
theorem trimN_le (l : List UInt8) : ∀ n, trimN l n ≤ n
  | 0 => Nat.le_refl _
  | n + 1 => by rw [trimN]; split; have := trimN_le l n; omega; exact Nat.le_refl _
def trimL (l : List UInt8) : List UInt8 := l.take (trimN l l.length)
def strLen3 : Value → Nat
  | .string s => s.size
  | _ => 0
set_option maxRecDepth 100000 in
theorem trimByte_walk (l : List UInt8) (w : World) (hl : l.length ≤ 281474976710656) :
    Calls Tryd.prog 36 #[.string ⟨l.toArray⟩, .int .u8 0] w fun e w' => e = .returned (.string ⟨(trimL l).toArray⟩) ∧ w = w' := by
  go_enter Tryd.func36, Tryd.ntmps36
  go_wp2
  go_loopw [0] (fun u wr => ∃ (m : Nat) (t : List UInt8), wr = w ∧ m ≤ l.length ∧ t.length = m ∧ t = l.take m ∧ u = .string ⟨t.toArray⟩ ∧ trimN l m = trimN l l.length) (fun u _ => strLen3 u)
  case atStart => exact ⟨l.length, l, rfl, Nat.le_refl _, rfl, by simp, rfl, rfl⟩
  case round =>
    obtain ⟨m, t, rfl, hm, htm, ht, rfl, htr⟩ := hrel
    have hm48 : m ≤ 281474976710656 := by omega
    cases m with
    | zero =>
      have ht0 : t = [] := List.eq_nil_of_length_eq_zero htm
      subst ht0
      have hf : trimL l = [] := by rw [trimL, ← htr]; simp [trimN]
      have HF := Lib.hid hf
      clear ht hf htr htm
      go_wp2
      go_ret
      exact ⟨ret_str HF.out.symm, rfl⟩
    | succ m =>
      have hbt : bt t m = bt l m := by rw [ht]; simp [bt]
      rw [trimN] at htr
      by_cases h0 : bt l m = 0
      · rw [if_pos h0] at htr
        have HT := Lib.hid ht
        have HR := Lib.hid htr
        have hb0 : bt t m = 0 := by rw [hbt, h0]
        clear ht htr hbt h0
        go_wp2
        refine ⟨⟨m, t.take m, trivial, by omega, by rw [List.length_take]; omega, by rw [HT.out, List.take_take, Nat.min_eq_left (by omega)], rfl, HR.out⟩, ?_⟩
        simp [strLen3, ByteArray.size]; omega
      · rw [if_neg h0] at htr
        have hf : trimL l = t := by rw [trimL, ← htr, ht]
        have HF := Lib.hid hf
        have hb0 : ((bt t m : Int) == 0) = false := by rw [beq_eq_false_iff_ne, hbt]; omega
        clear ht htr hbt h0 hf
        go_wp2
        go_ret
        exact ⟨ret_str HF.out.symm, rfl⟩
set_option maxRecDepth 100000 in
theorem trimRight_walk (l : List UInt8) (w : World) (hl : l.length ≤ 281474976710656) :
    Calls Tryd.prog 27 #[.string ⟨l.toArray⟩, .string ⟨#[0]⟩] w fun e w' => e = .returned (.string ⟨(trimL l).toArray⟩) ∧ w = w' := by
  have hbt0 : ((bt [0] 0 : Nat) : Int) = 0 := rfl
  go_enter Tryd.func27, Tryd.ntmps27
  by_cases h : l = []
  · subst h
    go_wp2
    go_ret
    exact ⟨rfl, rfl⟩
  · have hb : (l == []) = false := by rw [beq_eq_false_iff_ne]; exact h
    clear h
    go_wp2_with (go_at_call 36; (with_reducible refine (trimByte_walk _ _ hl).mono ?_))
    rintro e w1 ⟨rfl, rfl⟩
    go_wp2
    go_ret
    exact ⟨rfl, rfl⟩
end Go.Proofs.YtpbhendndelonaaDoor
