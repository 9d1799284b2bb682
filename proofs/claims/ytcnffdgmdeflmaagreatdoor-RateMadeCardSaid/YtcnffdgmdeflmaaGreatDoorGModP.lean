/- Powers modulo a number, orders, and trial division: plain. No program in sight. -/
import Derived.Test.YtcnffdgmdeflmaaGreatDoorGField
namespace Go.Proofs.YtcnffdgmdeflmaaGreatDoor
/-! ### Powers by squares -/
/-- one round of the loop -/
theorem pow_odd (m o y k : Nat) (h : k % 2 = 1) : (o * y % m) * (y * y % m) ^ (k / 2) % m = o * y ^ k % m := by
  have e : y ^ k = y * (y * y) ^ (k / 2) := by
    conv => lhs; rw [show k = 2 * (k / 2) + 1 by omega]
    rw [Nat.pow_succ, Nat.pow_mul, show y ^ 2 = y * y by rw [Nat.pow_succ, Nat.pow_one], Nat.mul_comm]
  rw [Nat.mul_mod, Nat.mod_mod, ← Nat.pow_mod, ← Nat.mul_mod, e, Nat.mul_assoc]
theorem pow_even (m o y k : Nat) (h : k % 2 = 0) : o * (y * y % m) ^ (k / 2) % m = o * y ^ k % m := by
  have e : y ^ k = (y * y) ^ (k / 2) := by
    conv => lhs; rw [show k = 2 * (k / 2) by omega]
    rw [Nat.pow_mul, show y ^ 2 = y * y by rw [Nat.pow_succ, Nat.pow_one]]
  rw [Nat.mul_mod, ← Nat.pow_mod, ← Nat.mul_mod, e]
/-- powers that the kernel can reckon -/
def fpow (m : Nat) : Nat → Nat → Nat → Nat → Nat
  | 0, o, _, _ => o % m
  | f + 1, o, y, k => if k = 0 then o % m else if k % 2 = 1 then fpow m f (o * y % m) (y * y % m) (k / 2) else fpow m f o (y * y % m) (k / 2)
theorem fpow_eq (m : Nat) : ∀ f o y k, k < 2 ^ f → fpow m f o y k = o * y ^ k % m
  | 0, o, y, k, h => by
    have : k = 0 := by simpa using h
    subst this; simp [fpow]
  | f + 1, o, y, k, h => by
    rw [fpow]
    split
    · rename_i h0; subst h0; simp
    · have h2 : k / 2 < 2 ^ f := by rw [Nat.pow_succ] at h; omega
      split
      · rename_i ho; rw [fpow_eq m f _ _ _ h2, pow_odd m o y k ho]
      · rw [fpow_eq m f _ _ _ h2, pow_even m o y k (by omega)]
theorem pow_eval (m x e : Nat) (h : e < 2 ^ 40) : x ^ e % m = fpow m 40 1 x e := by rw [fpow_eq m 40 1 x e h, Nat.one_mul]
/-- the program's powers of the field -/
theorem pwF_eq (p : Nat) : ∀ (f o y k : Nat), k < 2 ^ f → o < p → Go.Proofs.YtcnffdgmdeflmaaGreatDoor.pwF (p : Int) f (o : Int) (y : Int) k = ((o * y ^ k % p : Nat) : Int)
  | 0, o, y, k, h, ho => by
    have : k = 0 := by simpa using h
    subst this; simp [pwF, Nat.mod_eq_of_lt ho]
  | f + 1, o, y, k, h, ho => by
    rw [pwF]
    split
    · rename_i h0; subst h0; simp [Nat.mod_eq_of_lt ho]
    · have h2 : k / 2 < 2 ^ f := by rw [Nat.pow_succ] at h; omega
      have hy : ((y : Int) * (y : Int) % (p : Int)) = ((y * y % p : Nat) : Int) := by simp
      have hoy : ((o : Int) * (y : Int) % (p : Int)) = ((o * y % p : Nat) : Int) := by simp
      rw [hy, hoy]
      split
      · rename_i h1; rw [pwF_eq p f _ _ _ h2 (Nat.mod_lt _ (by omega)), pow_odd p o y k h1]
      · rw [pwF_eq p f _ _ _ h2 ho, pow_even p o y k (by omega)]
/-! ### Orders -/
theorem pow_mod_mul (m x a b : Nat) : x ^ (a * b) % m = (x ^ a % m) ^ b % m := by rw [Nat.pow_mul, Nat.pow_mod]
theorem pow_mod_add (m x a b : Nat) : x ^ (a + b) % m = (x ^ a % m) * (x ^ b % m) % m := by rw [Nat.pow_add, Nat.mul_mod]
/-- an exponent counts modulo what gives 1 -/
theorem pow_red {m x p : Nat} (hm : 1 < m) (h : x ^ p % m = 1) (k : Nat) : x ^ k % m = x ^ (k % p) % m := by
  conv => lhs; rw [← Nat.div_add_mod k p]
  rw [pow_mod_add, pow_mod_mul, h, Nat.one_pow, Nat.mod_eq_of_lt hm, Nat.one_mul, Nat.mod_mod]
theorem pow_gcd {m x : Nat} (hm : 1 < m) : ∀ (a b : Nat), x ^ a % m = 1 → x ^ b % m = 1 → x ^ Nat.gcd a b % m = 1 := by
  intro a b
  induction a, b using Nat.gcd.induction with
  | H0 n => intro _ h; rw [Nat.gcd_zero_left]; exact h
  | H1 a b ha ih =>
    intro h1 h2
    rw [Nat.gcd_rec]
    exact ih (by rw [← pow_red hm h1]; exact h2) h1
/-- no divisor from 2 on but the number itself -/
def PrimeP (p : Nat) : Prop := 2 ≤ p ∧ ∀ d, d ∣ p → d = 1 ∨ d = p
theorem pow_ne_one {m x p k : Nat} (hm : 1 < m) (hp : PrimeP p) (hx : x % m ≠ 1) (h : x ^ p % m = 1) (h0 : 0 < k) (hk : k < p) : x ^ k % m ≠ 1 := by
  intro h1
  have hg := pow_gcd hm k p h1 h
  rcases hp.2 _ (Nat.gcd_dvd_right k p) with e | e
  · rw [e, Nat.pow_one] at hg; exact hx hg
  · have := Nat.le_of_dvd h0 (Nat.gcd_dvd_left k p)
    omega
/-! ### Trial division -/
/-- no divisor among d, d + s, d + 2 s .. (n of them) -/
def tryF (p : Nat) (s : Nat) : Nat → Nat → Bool
  | 0, _ => true
  | n + 1, d => p % d != 0 && tryF p s n (d + s)
end Go.Proofs.YtcnffdgmdeflmaaGreatDoor
/- Products and powers modulo a number, as the groups of handles have them. -/
namespace Go.Proofs.YtcnffdgmdeflmaaGreatDoor
open Go.RowKit
theorem i64_and1 (m : Nat) (h : m < 9223372036854775808) : bits .and .i64 (m : Int) 1 = ((m % 2 : Nat) : Int) := by
  have h1 : IntKind.u64.wrap ((BitVec.ofInt 64 (m : Int) &&& BitVec.ofInt 64 1).toNat : Int) = ((m % 2 : Nat) : Int) := and1 m (by omega)
  rw [IntKind.wrap_u64] at h1
  show IntKind.i64.wrap ((BitVec.ofInt 64 (m : Int) &&& BitVec.ofInt 64 1).toNat : Int) = _
  rw [IntKind.wrap_i64]
  have := (BitVec.ofInt 64 (m : Int) &&& BitVec.ofInt 64 1).isLt
  omega
theorem nprod_bd {m a b : Nat} (hm : m ≤ 2147483649) (ha : a < m) (hb : b < m) : (0 : Int) ≤ (a : Int) * (b : Int) ∧ (a : Int) * (b : Int) < 9223372036854775808 := by
  have h1 := Nat.mul_le_mul (show a ≤ 2147483648 by omega) (show b ≤ 2147483648 by omega)
  rw [← Int.natCast_mul]
  omega
set_option maxRecDepth 100000 in
theorem htimesI_walk (m a b : Int) (w : World) (hm : 1 ≤ m) (hn : 0 ≤ a * b) (hn2 : a * b < 9223372036854775808) :
    Calls Tryz.prog 80 #[.int .i64 m, .int .i64 a, .int .i64 b] w fun e w' => e = .returned (.int .i64 (a * b % m)) ∧ w = w' := by
  go_enter Tryz.func80, Tryz.ntmps80
  go_wp2
  go_ret
  exact ⟨rfl, rfl⟩
theorem htimes_walk (m a b : Nat) (w : World) (hm : 1 ≤ m) (hm2 : m ≤ 2147483649) (ha : a < m) (hb : b < m) :
    Calls Tryz.prog 80 #[.int .i64 (m : Int), .int .i64 (a : Int), .int .i64 (b : Int)] w fun e w' => e = .returned (.int .i64 ((a * b % m : Nat) : Int)) ∧ w = w' := by
  obtain ⟨h1, h2⟩ := nprod_bd hm2 ha hb
  refine (htimesI_walk (m : Int) (a : Int) (b : Int) w (by omega) h1 h2).mono ?_
  rintro e w' ⟨rfl, rfl⟩
  exact ⟨ret_int (by simp), rfl⟩
set_option maxRecDepth 100000 in
theorem hpow_walk (m x e : Nat) (w : World) (hm : 2 ≤ m) (hm2 : m ≤ 2147483649) (hx : x < m) (he : e < 9223372036854775808) :
    Calls Tryz.prog 78 #[.int .i64 (m : Int), .int .i64 (x : Int), .int .i64 (e : Int)] w fun r w' => r = .returned (.int .i64 ((x ^ e % m : Nat) : Int)) ∧ w = w' := by
  have HM := Lib.hid hm2
  have HE := Lib.hid he
  clear hm2 he
  go_enter Tryz.func78, Tryz.ntmps78
  go_wp2
  go_loopw [1, 2, 7] (fun u v o wr => ∃ (k y z : Nat), wr = w ∧ u = .int .i64 (y : Int) ∧ v = .int .i64 (k : Int) ∧ o = .int .i64 (z : Int) ∧ y < m ∧ z < m ∧ Hid (k < 9223372036854775808) ∧ Hid (z * y ^ k % m = x ^ e % m)) (fun _ v _ _ => (intOf v).toNat)
  case atStart => exact ⟨e, x, 1, rfl, rfl, rfl, rfl, hx, by omega, HE, by show _ = _; rw [Nat.one_mul]⟩
  case round =>
    obtain ⟨k, y, z, rfl, rfl, rfl, rfl, hy, hz, HK, HP⟩ := hrel
    by_cases h0 : k = 0
    · subst h0
      have hR := HP.out
      rw [Nat.pow_zero, Nat.mul_one, Nat.mod_eq_of_lt hz] at hR
      have HR := Lib.hid hR
      clear hR HP
      go_wp2
      go_ret
      exact ⟨ret_int (by rw [HR.out]), rfl⟩
    · have hpos : (0 : Int) < (k : Int) := by omega
      have ha1 := i64_and1 k HK.out
      have HK2 : Hid (k / 2 < 9223372036854775808) := by have := HK.out; show _ < _; omega
      have k2 : ∀ V, Calls Tryz.prog 80 #[.int .i64 (m : Int), .int .i64 (y : Int), .int .i64 (y : Int)] V fun e w' => e = .returned (.int .i64 ((y * y % m : Nat) : Int)) ∧ V = w' := fun V => htimes_walk m y y V (by omega) HM.out hy hy
      have k1 : ∀ V, Calls Tryz.prog 80 #[.int .i64 (m : Int), .int .i64 (z : Int), .int .i64 (y : Int)] V fun e w' => e = .returned (.int .i64 ((z * y % m : Nat) : Int)) ∧ V = w' := fun V => htimes_walk m z y V (by omega) HM.out hz hy
      have hy2 : y * y % m < m := Nat.mod_lt _ (by omega)
      have hzy : z * y % m < m := Nat.mod_lt _ (by omega)
      have p0 := pow_even m z y k
      have p1 := pow_odd m z y k
      rw [HP.out] at p0 p1
      generalize y * y % m = y2 at *
      generalize z * y % m = z2 at *
      have K1 := Lib.hid k1
      have K2 := Lib.hid k2
      clear k1 k2
      rcases Nat.mod_two_eq_zero_or_one k with h2 | h2
      · rw [h2] at ha1
        have HS := Lib.hid (p0 h2)
        have hcz : ((0 : Nat) : Int) = 0 := rfl
        rw [hcz] at ha1
        clear p0 p1 HP h2
        go_wp2_with (go_at_call 80; (with_reducible refine (K2.out _).mono ?_))
        rintro e w2 ⟨rfl, rfl⟩
        go_wp2
        go_roundw
        case rel => exact ⟨k / 2, y2, z, trivial, rfl, by go_num, rfl, hy2, hz, HK2, HS⟩
        case measure => simp [intOf]; omega
      · rw [h2] at ha1
        have HS := Lib.hid (p1 h2)
        have hcz : ((1 : Nat) : Int) = 1 := rfl
        rw [hcz] at ha1
        clear p0 p1 HP h2
        go_wp2_with (go_at_call 80; (with_reducible refine (K1.out _).mono ?_))
        rintro e w2 ⟨rfl, rfl⟩
        go_wp2_with (go_at_call 80; (with_reducible refine (K2.out _).mono ?_))
        rintro e w2 ⟨rfl, rfl⟩
        go_wp2
        go_roundw
        case rel => exact ⟨k / 2, y2, z2, trivial, rfl, by go_num, rfl, hy2, hzy, HK2, HS⟩
        case measure => simp [intOf]; omega
end Go.Proofs.YtcnffdgmdeflmaaGreatDoor
