/- Products and powers modulo a number, as the groups of handles have them. -/
import Derived.Test.YtekhepklaokaiaaDoorGField
import Derived.Test.YtekhepklaokaiaaDoorGModP
namespace Go.Proofs.YtekhepklaokaiaaDoor
open Go.RowKit
theorem i64_and1 (m : Nat) (h : m < 9223372036854775808) : bits .and .i64 (m : Int) 1 = ((m % 2 : Nat) : Int) := by
  have h1 : IntKind.u64.wrap ((BitVec.ofInt 64 (m : Int) &&& BitVec.ofInt 64 1).toNat : Int) = ((m % 2 : Nat) : Int) := and1 m (by omega)
  rw [IntKind.wrap_u64] at h1
  show IntKind.i64.wrap ((BitVec.ofInt 64 (m : Int) &&& BitVec.ofInt 64 1).toNat : Int) = _
  rw [IntKind.wrap_i64]
  have := (BitVec.ofInt 64 (m : Int) &&& BitVec.ofInt 64 1).isLt
  omega
theorem nprod_bd {m a b : Nat} (hm : m ≤ 2147483649) (ha : a < m) (hb : b < m) : (0 : Int) ≤ (a : Int) * (b : Int) ∧ (a : Int) * (b : Int) < 9223372036854775808 := by
  have h1 := Nat.mul_le_mul (show a ≤ 2147483648 by omega) (show b ≤ 2147483648 by omega)
  rw [← Int.natCast_mul]
  omega
set_option maxRecDepth 100000 in
theorem htimesI_walk (m a b : Int) (w : World) (hm : 1 ≤ m) (hn : 0 ≤ a * b) (hn2 : a * b < 9223372036854775808) :
    Calls Tryd.prog 37 #[.int .i64 m, .int .i64 a, .int .i64 b] w fun e w' => e = .returned (.int .i64 (a * b % m)) ∧ w = w' := by
  go_enter Tryd.func37, Tryd.ntmps37
  go_wp2
  go_ret
  exact ⟨rfl, rfl⟩
theorem htimes_walk (m a b : Nat) (w : World) (hm : 1 ≤ m) (hm2 : m ≤ 2147483649) (ha : a < m) (hb : b < m) :
    Calls Tryd.prog 37 #[.int .i64 (m : Int), .int .i64 (a : Int), .int .i64 (b : Int)] w fun e w' => e = .returned (.int .i64 ((a * b % m : Nat) : Int)) ∧ w = w' := by
  obtain ⟨h1, h2⟩ := nprod_bd hm2 ha hb
  refine (htimesI_walk (m : Int) (a : Int) (b : Int) w (by omega) h1 h2).mono ?_
  rintro e w' ⟨rfl, rfl⟩
  exact ⟨ret_int (by simp), rfl⟩
set_option maxRecDepth 100000 in
theorem hpow_walk (m x e : Nat) (w : World) (hm : 2 ≤ m) (hm2 : m ≤ 2147483649) (hx : x < m) (he : e < 9223372036854775808) :
    Calls Tryd.prog 48 #[.int .i64 (m : Int), .int .i64 (x : Int), .int .i64 (e : Int)] w fun r w' => r = .returned (.int .i64 ((x ^ e % m : Nat) : Int)) ∧ w = w' := by
  have HM := Lib.hid hm2
  have HE := Lib.hid he
  clear hm2 he
  go_enter Tryd.func48, Tryd.ntmps48
  go_wp2
  go_loopw [1, 2, 7] (fun u v o wr => ∃ (k y z : Nat), wr = w ∧ u = .int .i64 (y : Int) ∧ v = .int .i64 (k : Int) ∧ o = .int .i64 (z : Int) ∧ y < m ∧ z < m ∧ Hid (k < 9223372036854775808) ∧ Hid (z * y ^ k % m = x ^ e % m)) (fun _ v _ _ => (intOf v).toNat)
  case atStart => exact ⟨e, x, 1, rfl, rfl, rfl, rfl, hx, by omega, HE, by show _ = _; rw [Nat.one_mul]⟩
  case round =>
    obtain ⟨k, y, z, rfl, rfl, rfl, rfl, hy, hz, HK, HP⟩ := hrel
    by_cases h0 : k = 0
    · subst h0
      have hR := HP.out
      rw [Nat.pow_zero, Nat.mul_one, Nat.mod_eq_of_lt hz] at hR
      have HR := Lib.hid hR
      clear hR HP
      go_wp2
      go_ret
      exact ⟨ret_int (by rw [HR.out]), rfl⟩
    · have hpos : (0 : Int) < (k : Int) := by omega
      have ha1 := i64_and1 k HK.out
      have HK2 : Hid (k / 2 < 9223372036854775808) := by have := HK.out; show _ < _; omega
      have k2 : ∀ V, Calls Tryd.prog 37 #[.int .i64 (m : Int), .int .i64 (y : Int), .int .i64 (y : Int)] V fun e w' => e = .returned (.int .i64 ((y * y % m : Nat) : Int)) ∧ V = w' := fun V => htimes_walk m y y V (by omega) HM.out hy hy
      have k1 : ∀ V, Calls Tryd.prog 37 #[.int .i64 (m : Int), .int .i64 (z : Int), .int .i64 (y : Int)] V fun e w' => e = .returned (.int .i64 ((z * y % m : Nat) : Int)) ∧ V = w' := fun V => htimes_walk m z y V (by omega) HM.out hz hy
      have hy2 : y * y % m < m := Nat.mod_lt _ (by omega)
      have hzy : z * y % m < m := Nat.mod_lt _ (by omega)
      have p0 := pow_even m z y k
      have p1 := pow_odd m z y k
      rw [HP.out] at p0 p1
      generalize y * y % m = y2 at *
      generalize z * y % m = z2 at *
      have K1 := Lib.hid k1
      have K2 := Lib.hid k2
      clear k1 k2
      rcases Nat.mod_two_eq_zero_or_one k with h2 | h2
      · rw [h2] at ha1
        have HS := Lib.hid (p0 h2)
        have hcz : ((0 : Nat) : Int) = 0 := rfl
        rw [hcz] at ha1
        clear p0 p1 HP h2
        go_wp2_with (go_at_call 37; (with_reducible refine (K2.out _).mono ?_))
        rintro e w2 ⟨rfl, rfl⟩
        go_wp2
        go_roundw
        case rel => exact ⟨k / 2, y2, z, trivial, rfl, by go_num, rfl, hy2, hz, HK2, HS⟩
        case measure => simp [intOf]; omega
      · rw [h2] at ha1
        have HS := Lib.hid (p1 h2)
        have hcz : ((1 : Nat) : Int) = 1 := rfl
        rw [hcz] at ha1
        clear p0 p1 HP h2
        go_wp2_with (go_at_call 37; (with_reducible refine (K1.out _).mono ?_))
        rintro e w2 ⟨rfl, rfl⟩
        go_wp2_with (go_at_call 37; (with_reducible refine (K2.out _).mono ?_))
        rintro e w2 ⟨rfl, rfl⟩
        go_wp2
        go_roundw
        case rel => exact ⟨k / 2, y2, z2, trivial, rfl, by go_num, rfl, hy2, hzy, HK2, HS⟩
        case measure => simp [intOf]; omega
end Go.Proofs.YtekhepklaokaiaaDoor
