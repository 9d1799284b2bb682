/- The padding: the program's and the reference's. -/
import Derived.Test.YtnlhcfhngdahlaaDigestC
import Derived.Test.YtnlhcfhngdahlaaBuild
namespace Go.Proofs.Ytnlhcfhngdahlaa
open Go.RowKit
theorem el8 : ElemOf Try.prog 39 5 (.int .u8 0) 1 1 := ⟨Try.underlying39, by kernel_rfl, rfl, by decide, by decide⟩
theorem div_byte (n d : Nat) : UInt8.ofNat ((n : Int) * 8 / (d : Int) % 256).toNat = UInt8.ofNat (8 * n / d) := by
  have h : ((n : Int) * 8 / (d : Int) % 256) = (((8 * n / d) % 256 : Nat) : Int) := by
    rw [Int.natCast_emod, Int.natCast_ediv, Int.natCast_mul, Int.mul_comm]; rfl
  rw [h, Int.toNat_natCast]
  apply UInt8.toNat_inj.1
  simp
theorem lenByte_step (n k : Nat) : UInt8.ofNat ((n : Int) * 8 / 2 ^ (8 * (7 - k)) % 256).toNat = lenByte n (7 - k) := by
  have := div_byte n (2 ^ (8 * (7 - k)))
  rw [Int.natCast_pow] at this
  exact this
theorem lenByte_val (n k : Nat) (hk : k < 8) : ((n : Int) * 8 / 2 ^ (56 - 8 * k) % 256) = ((lenByte n (7 - k)).toNat : Int) := by
  have h : ∀ d : Nat, ((n : Int) * 8 / (d : Int) % 256) = ((UInt8.ofNat (8 * n / d)).toNat : Int) := fun d => by
    simp only [UInt8.toNat_ofNat']
    rw [Int.natCast_emod, Int.natCast_ediv, Int.natCast_mul, Int.mul_comm]; rfl
  have := h (2 ^ (8 * (7 - k)))
  rw [Int.natCast_pow] at this
  rw [show 56 - 8 * k = 8 * (7 - k) by omega]
  exact this
theorem repeatL_zero (c : Nat) : Lib.repeatL [(0 : UInt8)] c = List.replicate c 0 := by
  induction c with
  | zero => rfl
  | succ c ih => simp [Lib.repeatL, ih, List.replicate_succ]
set_option maxRecDepth 100000 in
theorem rest_walk (l : List UInt8) (n : Nat) (w : World) (hm : l.length % 64 = n % 64) (hl : l.length ≤ 64) (hn : n ≤ 140737488000000) :
    Calls Try.prog 49 #[.string ⟨l.toArray⟩, .int .i64 n] w fun e w' => e = .returned (.string ⟨(l ++ tailOf n).toArray⟩) ∧ Below w.heap.size w w' := by
  have hB0 := Bld.new w
  have hb0 := (Below.refl w.heap.size w).alloc (Nat.le_refl _) (.cells #[.pointer none, .slice none 0 0] 85)
  go_enter Try.func49, Try.ntmps49
  go_wp2_with (go_at_call 55; (with_reducible refine (writeString_walk _ _ _ _ _ hB0 (by simp; omega) (by simp)).mono ?_))
  rintro e w1 ⟨rfl, hB1, hb1⟩
  replace hb1 := hb0.trans hb1
  go_wp2_with (go_at_call 56; (with_reducible refine (writeByte_walk _ _ _ _ _ (by decide) (by decide) hB1 (by simp; omega) hb1.size).mono ?_))
  rintro e w2 ⟨rfl, hB2, hb2⟩
  replace hb2 := hb1.trans hb2
  have hz : (119 - (l.length : Int)) % 64 = ((zeros n : Nat) : Int) := by unfold zeros; omega
  have hzl : zeros n < 64 := by unfold zeros; omega
  go_wp2_with (go_at_call 57; go_loud (refine (repeat_walk [0] (zeros n) _ (by simp; omega) (by omega)).mono ?_))
  rintro e w3 ⟨rfl, hb3⟩
  replace hB3 := hB2.keep hb3
  replace hb3 := hb2.trans (hb3.mono hb2.size)
  have hrep : (Lib.repeatL [(0 : UInt8)] (zeros n)).length = zeros n := by simp [Lib.repeatL_length]
  go_wp2_with (go_at_call 55; (with_reducible refine (writeString_walk _ _ _ _ _ hB3 (by simp; omega) hb3.size).mono ?_))
  rintro e w4 ⟨rfl, hB4, hb4⟩
  replace hb4 := hb3.trans hb4
  have hlen4 : ([] ++ l ++ [UInt8.ofNat (Int.toNat 128)] ++ Lib.repeatL [(0 : UInt8)] (zeros n)).length ≤ 200 := by simp [Lib.repeatL_length]; omega
  generalize hL4 : [] ++ l ++ [UInt8.ofNat (Int.toNat 128)] ++ Lib.repeatL [(0 : UInt8)] (zeros n) = L4 at hB4 hlen4
  have HL4 := Lib.hid hL4
  clear hL4 hB0 hb0 hB1 hB2 hB3 hb1 hb2 hb3 hz
  go_wp2
  go_loopw [8] (fun i wr => ∃ k : Nat, k ≤ 8 ∧ i = .int .i64 (7 - (k : Int)) ∧ Bld wr w.heap.size w.heap.size (L4 ++ lenBytes n k) ∧ Below w.heap.size w wr) (fun i _ => (intOf i + 1).toNat)
  case atStart => exact ⟨0, by omega, rfl, by rw [lenBytes, List.append_nil]; exact hB4, hb4⟩
  case round =>
    clear hB4 hb4
    obtain ⟨k, hk, rfl, hB, hb⟩ := hrel
    by_cases hlt : k < 8
    · have h1 : (0 : Int) ≤ 7 - (k : Int) := by omega
      have hl8 : (L4 ++ lenBytes n k).length + 1 ≤ 140737488355328 := by simp [lenBytes_length]; omega
      go_wp2_with (go_at_call 56; (with_reducible refine (writeByte_walk _ _ _ _ _ ?lo ?hi hB hl8 hb.size).mono ?_))
      case lo => omega
      case hi => omega
      rintro e w5 ⟨rfl, hB5, hb5⟩
      rw [lenByte_step] at hB5
      go_wp2
      go_roundw
      case rel => exact ⟨k + 1, by omega, by go_num, by rw [lenBytes, ← List.append_assoc]; exact hB5, hb.trans hb5⟩
      case measure => simp [intOf]; omega
    · obtain rfl : k = 8 := by omega
      go_wp2_with (go_at_call 58; (with_reducible refine (string_walk _ _ _ _ hB hb.size).mono ?_))
      rintro e w5 ⟨rfl, hb5⟩
      go_wp2
      go_ret
      exact ⟨ret_str (by rw [← HL4.out, repeatL_zero]; simp [tailOf]), hb.trans hb5⟩
def lenN : Value → Nat
  | .slice _ n _ => n
  | _ => 0
set_option maxRecDepth 100000 in
theorem pad_walk (l : List UInt8) (w : World) (hl : l.length ≤ 140737488000000) :
    Calls Try.prog 40 #[.string ⟨l.toArray⟩] w fun e w' => e = .returned (.string ⟨(pad l).toArray⟩) ∧ Below w.heap.size w w' := by
  have hcv := Lib.run_convert_string_bytes (P := Try.prog) w 9 39 5 ⟨l.toArray⟩ Try.underlying9 Try.underlying39 Try.underlying5
  have hw0 := below_bytes w 5 ⟨l.toArray⟩
  have how := Ow.bytes w 5 ⟨l.toArray⟩ (by simp [maxLen, ByteArray.size]; omega)
  go_enter Try.func40, Try.ntmps40
  go_wp2_with (at_builtin; refine wpList_app1 (w0 := w) (B := w.heap.size) rfl _ _ _ rfl el8 rfl how hw0 (by omega) hw0.size (cs := [_]) rfl rfl (one1 rfl) (by simp [ByteArray.size]; omega) ?_)
  intro a1 cap1 w1 hown1 hbel1 _
  rw [u8s_snoc _ (128 : Int) 128 rfl] at hown1
  have hzl : zeros l.length < 64 := by unfold zeros; omega
  clear hcv hw0 how
  go_wp2
  go_loopw [3] (fun v wr => ∃ (k : Nat) (L : List UInt8) (a : Option Addr) (cap : Nat), k ≤ zeros l.length ∧ v = .slice a L.length cap ∧ L = l ++ [128] ++ List.replicate k 0 ∧ Ow wr w.heap.size 1 a L.length cap (u8s L) ∧ Below w.heap.size w wr) (fun v _ => l.length + 100 - lenN v)
  case atStart => exact ⟨0, l ++ [128], a1, cap1, by omega, by simp, by simp, by rw [List.length_append]; exact hown1, hbel1⟩
  case round =>
    clear hown1 hbel1
    obtain ⟨k, L, sa, cap, hk, rfl, hL, hown, hbel⟩ := hrel
    have hlen : L.length = l.length + 1 + k := by rw [hL]; simp; omega
    have hle : L.length ≤ 140737488000100 := by omega
    have hmb : (((L.length : Int) % 64) != 56) = !decide (k = zeros l.length) := by
      by_cases h : k = zeros l.length
      · simp [h]; rw [hlen]; unfold zeros at h; omega
      · simp [h]; rw [hlen]; unfold zeros at h hk; omega
    have HL := Lib.hid hL
    have HN := Lib.hid hlen
    clear hL hlen
    by_cases hlt : k < zeros l.length
    · have hmt : (((L.length : Int) % 64) != 56) = true := by rw [hmb]; simp; omega
      clear hmb
      go_wp2_with (at_builtin; refine wpList_app1 (w0 := w) (B := w.heap.size) rfl _ _ _ rfl el8 rfl hown hbel (by omega) hbel.size (cs := [_]) rfl rfl (one1 rfl) (by omega) ?_)
      intro a2 cap2 w2 hown2 hbel2 _
      rw [u8s_snoc _ (0 : Int) 0 rfl] at hown2
      go_wp2
      go_roundw
      case rel => exact ⟨k + 1, L ++ [0], a2, cap2, by omega, by simp, by rw [HL.out, List.replicate_succ']; simp, by rw [List.length_append]; exact hown2, hbel2⟩
      case measure => have := HN.out; simp [lenN]; omega
    · obtain rfl : k = zeros l.length := by omega
      have hmt : (((L.length : Int) % 64) != 56) = false := by rw [hmb]; simp
      clear hlt hmb
      go_wp2
      go_loopw [3, 4] (fun v i wr => ∃ (k : Nat) (M : List UInt8) (a : Option Addr) (cap : Nat), k ≤ 8 ∧ i = .int .i64 (56 - 8 * (k : Int)) ∧ v = .slice a M.length cap ∧ M = L ++ lenBytes l.length k ∧ Ow wr w.heap.size 1 a M.length cap (u8s M) ∧ Below w.heap.size w wr) (fun _ i _ => (intOf i + 8).toNat)
      case atStart => exact ⟨0, _, _, _, by omega, rfl, rfl, by simp [lenBytes], hown, hbel⟩
      case round =>
        clear hown hbel
        obtain ⟨k, M, sb, cbp, hk, rfl, rfl, hM, hown, hbel⟩ := hrel
        have hlm : M.length = L.length + k := by rw [hM]; simp [lenBytes_length]
        have hle2 : M.length ≤ 140737488000200 := by omega
        have HM := Lib.hid hM
        clear hM hlm
        by_cases hlt : k < 8
        · have h1 : (0 : Int) ≤ 56 - 8 * (k : Int) := by omega
          go_wp2_with (at_builtin; refine wpList_app1 (w0 := w) (B := w.heap.size) rfl _ _ _ rfl el8 rfl hown hbel (by omega) hbel.size (cs := [_]) rfl rfl (one1 rfl) (by omega) ?_)
          intro a2 cap2 w2 hown2 hbel2 _
          rw [u8s_snoc _ _ _ (lenByte_val l.length k hlt)] at hown2
          go_wp2
          go_roundw
          case rel => exact ⟨k + 1, M ++ [lenByte l.length (7 - k)], a2, cap2, by omega, by go_num, by simp, by rw [HM.out, lenBytes]; simp, by rw [List.length_append]; exact hown2, hbel2⟩
          case measure => simp [intOf]; omega
        · obtain rfl : k = 8 := by omega
          have hcv := run_bytes_str (P := Try.prog) wr 39 9 5 Try.underlying39 Try.underlying5 Try.underlying9 (n := M.length) (c := cbp) rfl hown.rd
          go_wp2
          go_ret
          exact ⟨ret_str (by rw [HM.out, HL.out]; simp [pad, tailOf]), hbel⟩
end Go.Proofs.Ytnlhcfhngdahlaa
