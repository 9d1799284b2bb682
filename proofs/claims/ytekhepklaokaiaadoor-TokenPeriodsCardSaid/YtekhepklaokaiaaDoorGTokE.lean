/- The squares of texts in a group, and inverses of the field: the program's. -/
import Derived.Test.YtekhepklaokaiaaDoorGTokD
import Derived.Test.YtekhepklaokaiaaDoorDigestE
import Derived.Test.YtekhepklaokaiaaDoorGPackX
namespace Go.Proofs.YtekhepklaokaiaaDoor
open Go.RowKit
set_option maxRecDepth 100000 in
theorem hnumber_walk (l : List UInt8) (w : World) (hl : l.length = 32) :
    Calls Tryd.prog 35 #[.string ⟨l.toArray⟩] w fun e w' => e = .returned (.int .i64 (num7 l 7 : Int)) ∧ Below w.heap.size w w' := by
  have hb0 := below_bytes w 5 ⟨(l.take 7).toArray⟩
  have hR := (Ow.bytes w 5 ⟨(l.take 7).toArray⟩ (by simp [maxLen, ByteArray.size]; omega)).rd
  have e1 : (ByteArray.mk (l.take 7).toArray).data.toList = l.take 7 := by simp
  have e2 : (ByteArray.mk (l.take 7).toArray).size = 7 := by simp [ByteArray.size]; omega
  have e3 : (l.take 7).length = 7 := by rw [List.length_take]; omega
  have hbt : ∀ k, k < 7 → bt (l.take 7) k = bt l k := fun k hk => by
    unfold bt; rw [List.getElem?_take, if_pos hk]
  rw [e1] at hR
  have hcv := Lib.run_convert_string_bytes (P := Tryd.prog) w 9 76 5 ⟨(l.take 7).toArray⟩ Tryd.underlying9 Tryd.underlying76 Tryd.underlying5
  go_enter Tryd.func35, Tryd.ntmps35
  go_wp2
  generalize Lib.bytesWorld w 5 ⟨(l.take 7).toArray⟩ = w0 at *
  go_loopw [3, 5, 10] (fun m _ i wr => ∃ (k a : Nat), wr = w0 ∧ k ≤ 7 ∧ a = num7 l k ∧ i = .int .i64 (k : Int) ∧ m = .int .i64 (a : Int)) (fun _ _ i _ => 7 - (intOf i).toNat)
  case atStart => exact ⟨0, 0, rfl, by omega, rfl, rfl, rfl⟩
  case round =>
    obtain ⟨k, a, rfl, hk, ha, rfl, rfl⟩ := hrel
    have hlt := num7_lt l k
    rw [← ha] at hlt
    by_cases hkt : k < 7
    · have hp : 256 ^ k ≤ 256 ^ 6 := Nat.pow_le_pow_right (by omega) (by omega)
      have hs := num7_step l k hkt
      rw [← ha] at hs
      have hw64 : wrap64 (bt l k : Int) = (bt l k : Int) := by
        have := bt_lt l k
        unfold wrap64; omega
      obtain ⟨g', off', e', hcell⟩ := hR k (.int .u8 (bt l k : Int)) (by rw [u8s_get _ _ (by omega), ← hbt k hkt, bt, List.getElem?_eq_getElem (by omega)]; rfl)
      cases e'
      rw [Nat.zero_add] at hcell
      have HA := Lib.hid ha
      have ha2 : a < 281474976710656 := by omega
      clear ha hlt hp
      go_wp2
      go_roundw
      case rel => exact ⟨k + 1, num7 l (k + 1), trivial, by omega, rfl, by go_num, rfl⟩
      case measure => simp [intOf]; omega
    · obtain rfl : k = 7 := by omega
      subst ha
      go_wp2
      go_ret
      exact ⟨rfl, hb0⟩
set_option maxRecDepth 100000 in
theorem hsquare_walk (p z : Nat) (s : List UInt8) (w : World) (hz : sqrF p s = z) (hp : 3 ≤ p) (hp2 : p ≤ 1073741824) (hs : s.length ≤ 140737488000000) :
    Calls Tryd.prog 22 #[.int .i64 (p : Int), .string ⟨s.toArray⟩] w fun e w' => e = .returned (.int .i64 (z : Int)) ∧ Below w.heap.size w w' := by
  obtain ⟨x1, x2⟩ := sqx_bd hp s
  have hx : (2 : Int) + ((num7 (sha s) 7 : Nat) : Int) % ((2 * p - 2 : Nat) : Int) = ((sqx p s : Nat) : Int) := by rw [sqx]; simp
  have hsl := sha_length s
  have h7 := num7_lt (sha s) 7
  have KT := Lib.hid (fun V => htimes_walk (2 * p + 1) (sqx p s) (sqx p s) V (by omega) (by omega) (by omega) (by omega))
  rw [sqrF] at hz
  rw [hz] at KT
  have KS := Lib.hid (fun V => sum_walk s V hs)
  have KN := Lib.hid (fun V => hnumber_walk (sha s) V hsl)
  generalize num7 (sha s) 7 = n at *
  generalize sqx p s = x at *
  have e1 : 2 * (p : Int) + 1 = ((2 * p + 1 : Nat) : Int) := by omega
  have e2 : ((2 * p + 1 : Nat) : Int) - 3 = ((2 * p - 2 : Nat) : Int) := by omega
  have w1 : IntKind.i64.wrap (2 * (p : Int)) = 2 * (p : Int) := by rw [IntKind.wrap_i64]; omega
  obtain ⟨m, hm⟩ : ∃ m, m = 2 * p + 1 := ⟨_, rfl⟩
  obtain ⟨q, hq⟩ : ∃ q, q = 2 * p - 2 := ⟨_, rfl⟩
  rw [← hm, ← hq] at e2
  rw [← hm] at e1 KT
  rw [← hq] at hx
  have hm1 : (x : Int) % (m : Int) = (x : Int) := Int.emod_eq_of_lt (by omega) (by omega)
  have hmx : max (m : Int) 1 = (m : Int) := by omega
  have hqx : max (q : Int) 1 = (q : Int) := by omega
  have hq0 : (4 : Int) ≤ (q : Int) := by omega
  have hm0 : (7 : Int) ≤ (m : Int) := by omega
  have hn0 : (n : Int) < 72057594037927936 := by omega
  have hx9 : (x : Int) ≤ 2147483649 := by omega
  have hm9 : (m : Int) ≤ 2147483649 := by omega
  clear hs hsl h7 hz hm hq x2 hp
  go_enter Tryd.func22, Tryd.ntmps22
  go_wp2_with (go_at_call 36; (with_reducible refine (KS.out _).mono ?_))
  rintro e w1 ⟨rfl, hb1⟩
  go_wp2_with (go_at_call 35; (with_reducible refine (KN.out _).mono ?_))
  rintro e w2 ⟨rfl, hb2⟩
  go_wp2
  refine wp_region_quiet_below (by kernel_rfl) (by kernel_rfl) ?_
  repeat (go_big_quiet_step (first | (go_at_call 37; with_reducible exact Calls.regrown_of (Calls.calm (KT.out _)))))
  refine wpQuiet_nil ?_
  rintro w3 ⟨p2, rfl⟩
  have hb3 := (hb1.trans (hb2.mono hb1.size)).trans ((below_regrown w2 p2.d p2.os).mono (Nat.le_trans hb1.size hb2.size))
  go_wp2
  go_ret
  exact ⟨rfl, hb3⟩
end Go.Proofs.YtekhepklaokaiaaDoor
