/- The padding: the program's and the reference's. -/
import Derived.Test.YtekhepklaokaiaaDoorDigestC
import Derived.Test.YtekhepklaokaiaaDoorBuild
namespace Go.Proofs.YtekhepklaokaiaaDoor
open Go.RowKit
theorem el8 : ElemOf Tryd.prog 76 5 (.int .u8 0) 1 1 := ⟨Tryd.underlying76, by kernel_rfl, rfl, by decide, by decide⟩
theorem div_byte (n d : Nat) : UInt8.ofNat ((n : Int) * 8 / (d : Int) % 256).toNat = UInt8.ofNat (8 * n / d) := by
  have h : ((n : Int) * 8 / (d : Int) % 256) = (((8 * n / d) % 256 : Nat) : Int) := by
    rw [Int.natCast_emod, Int.natCast_ediv, Int.natCast_mul, Int.mul_comm]; rfl
  rw [h, Int.toNat_natCast]
  apply UInt8.toNat_inj.1
  simp
theorem lenByte_step (n k : Nat) : UInt8.ofNat ((n : Int) * 8 / 2 ^ (8 * (7 - k)) % 256).toNat = lenByte n (7 - k) := by
  have := div_byte n (2 ^ (8 * (7 - k)))
  rw [Int.natCast_pow] at this
  exact this
theorem lenByte_val (n k : Nat) (hk : k < 8) : ((n : Int) * 8 / 2 ^ (56 - 8 * k) % 256) = ((lenByte n (7 - k)).toNat : Int) := by
  have h : ∀ d : Nat, ((n : Int) * 8 / (d : Int) % 256) = ((UInt8.ofNat (8 * n / d)).toNat : Int) := fun d => by
    simp only [UInt8.toNat_ofNat']
    rw [Int.natCast_emod, Int.natCast_ediv, Int.natCast_mul, Int.mul_comm]; rfl
  have := h (2 ^ (8 * (7 - k)))
  rw [Int.natCast_pow] at this
  rw [show 56 - 8 * k = 8 * (7 - k) by omega]
  exact this
theorem repeatL_zero (c : Nat) : Lib.repeatL [(0 : UInt8)] c = List.replicate c 0 := by
  induction c with
  | zero => rfl
  | succ c ih => simp [Lib.repeatL, ih, List.replicate_succ]
set_option maxRecDepth 100000 in
theorem rest_walk (l : List UInt8) (n : Nat) (w : World) (hm : l.length % 64 = n % 64) (hl : l.length ≤ 64) (hn : n ≤ 140737488000000) :
    Calls Tryd.prog 52 #[.string ⟨l.toArray⟩, .int .i64 n] w fun e w' => e = .returned (.string ⟨(l ++ tailOf n).toArray⟩) ∧ Below w.heap.size w w' := by
  have hB0 := Bld.new w
  have hb0 := (Below.refl w.heap.size w).alloc (Nat.le_refl _) (.cells #[.pointer none, .slice none 0 0] 91)
  go_enter Tryd.func52, Tryd.ntmps52
  go_wp2_with (go_at_call 59; (with_reducible refine (writeString_walk _ _ _ _ _ hB0 (by simp; omega) (by simp)).mono ?_))
  rintro e w1 ⟨rfl, hB1, hb1⟩
  replace hb1 := hb0.trans hb1
  go_wp2_with (go_at_call 60; (with_reducible refine (writeByte_walk _ _ _ _ _ (by decide) (by decide) hB1 (by simp; omega) hb1.size).mono ?_))
  rintro e w2 ⟨rfl, hB2, hb2⟩
  replace hb2 := hb1.trans hb2
  have hz : (119 - (l.length : Int)) % 64 = ((zeros n : Nat) : Int) := by unfold zeros; omega
  have hzl : zeros n < 64 := by unfold zeros; omega
  go_wp2_with (go_at_call 61; go_loud (refine (repeat_walk [0] (zeros n) _ (by simp; omega) (by omega)).mono ?_))
  rintro e w3 ⟨rfl, hb3⟩
  replace hB3 := hB2.keep hb3
  replace hb3 := hb2.trans (hb3.mono hb2.size)
  have hrep : (Lib.repeatL [(0 : UInt8)] (zeros n)).length = zeros n := by simp [Lib.repeatL_length]
  go_wp2_with (go_at_call 59; (with_reducible refine (writeString_walk _ _ _ _ _ hB3 (by simp; omega) hb3.size).mono ?_))
  rintro e w4 ⟨rfl, hB4, hb4⟩
  replace hb4 := hb3.trans hb4
  have hlen4 : ([] ++ l ++ [UInt8.ofNat (Int.toNat 128)] ++ Lib.repeatL [(0 : UInt8)] (zeros n)).length ≤ 200 := by simp [Lib.repeatL_length]; omega
  generalize hL4 : [] ++ l ++ [UInt8.ofNat (Int.toNat 128)] ++ Lib.repeatL [(0 : UInt8)] (zeros n) = L4 at hB4 hlen4
  have HL4 := Lib.hid hL4
  clear hL4 hB0 hb0 hB1 hB2 hB3 hb1 hb2 hb3 hz
  go_wp2
  go_loopw [8] (fun i wr => ∃ k : Nat, k ≤ 8 ∧ i = .int .i64 (7 - (k : Int)) ∧ Bld wr w.heap.size w.heap.size (L4 ++ lenBytes n k) ∧ Below w.heap.size w wr) (fun i _ => (intOf i + 1).toNat)
  case atStart => exact ⟨0, by omega, rfl, by rw [lenBytes, List.append_nil]; exact hB4, hb4⟩
  case round =>
    clear hB4 hb4
    obtain ⟨k, hk, rfl, hB, hb⟩ := hrel
    by_cases hlt : k < 8
    · have h1 : (0 : Int) ≤ 7 - (k : Int) := by omega
      have hl8 : (L4 ++ lenBytes n k).length + 1 ≤ 140737488355328 := by simp [lenBytes_length]; omega
      go_wp2_with (go_at_call 60; (with_reducible refine (writeByte_walk _ _ _ _ _ ?lo ?hi hB hl8 hb.size).mono ?_))
      case lo => omega
      case hi => omega
      rintro e w5 ⟨rfl, hB5, hb5⟩
      rw [lenByte_step] at hB5
      go_wp2
      go_roundw
      case rel => exact ⟨k + 1, by omega, by go_num, by rw [lenBytes, ← List.append_assoc]; exact hB5, hb.trans hb5⟩
      case measure => simp [intOf]; omega
    · obtain rfl : k = 8 := by omega
      go_wp2_with (go_at_call 62; (with_reducible refine (string_walk _ _ _ _ hB hb.size).mono ?_))
      rintro e w5 ⟨rfl, hb5⟩
      go_wp2
      go_ret
      exact ⟨ret_str (by rw [← HL4.out, repeatL_zero]; simp [tailOf]), hb.trans hb5⟩
def lenN : Value → Nat
  | .slice _ n _ => n
  | _ => 0
end Go.Proofs.YtekhepklaokaiaaDoor
