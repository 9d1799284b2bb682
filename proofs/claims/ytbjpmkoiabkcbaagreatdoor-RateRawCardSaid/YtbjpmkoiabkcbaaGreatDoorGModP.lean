/- Powers modulo a number, orders, and trial division: plain. No program in sight. -/
import Derived.Test.YtbjpmkoiabkcbaaGreatDoorGField
import Derived.Test.YtbjpmkoiabkcbaaGreatDoorBase
namespace Go.Proofs.YtbjpmkoiabkcbaaGreatDoor
/-! ### Powers by squares -/
/-- one round of the loop -/
theorem pow_odd (m o y k : Nat) (h : k % 2 = 1) : (o * y % m) * (y * y % m) ^ (k / 2) % m = o * y ^ k % m := by
  have e : y ^ k = y * (y * y) ^ (k / 2) := by
    conv => lhs; rw [show k = 2 * (k / 2) + 1 by omega]
    rw [Nat.pow_succ, Nat.pow_mul, show y ^ 2 = y * y by rw [Nat.pow_succ, Nat.pow_one], Nat.mul_comm]
  rw [Nat.mul_mod, Nat.mod_mod, ← Nat.pow_mod, ← Nat.mul_mod, e, Nat.mul_assoc]
theorem pow_even (m o y k : Nat) (h : k % 2 = 0) : o * (y * y % m) ^ (k / 2) % m = o * y ^ k % m := by
  have e : y ^ k = (y * y) ^ (k / 2) := by
    conv => lhs; rw [show k = 2 * (k / 2) by omega]
    rw [Nat.pow_mul, show y ^ 2 = y * y by rw [Nat.pow_succ, Nat.pow_one]]
  rw [Nat.mul_mod, ← Nat.pow_mod, ← Nat.mul_mod, e]
/-- powers that the kernel can reckon -/
def fpow (m : Nat) : Nat → Nat → Nat → Nat → Nat
  | 0, o, _, _ => o % m
  | f + 1, o, y, k => if k = 0 then o % m else if k % 2 = 1 then fpow m f (o * y % m) (y * y % m) (k / 2) else fpow m f o (y * y % m) (k / 2)
theorem fpow_eq (m : Nat) : ∀ f o y k, k < 2 ^ f → fpow m f o y k = o * y ^ k % m
  | 0, o, y, k, h => by
    have : k = 0 := by simpa using h
    subst this; simp [fpow]
  | f + 1, o, y, k, h => by
    rw [fpow]
    split
    · rename_i h0; subst h0; simp
    · have h2 : k / 2 < 2 ^ f := by rw [Nat.pow_succ] at h; omega
      split
      · rename_i ho; rw [fpow_eq m f _ _ _ h2, pow_odd m o y k ho]
      · rw [fpow_eq m f _ _ _ h2, pow_even m o y k (by omega)]
theorem pow_eval (m x e : Nat) (h : e < 2 ^ 40) : x ^ e % m = fpow m 40 1 x e := by rw [fpow_eq m 40 1 x e h, Nat.one_mul]
/-- the program's powers of the field -/
theorem pwF_eq (p : Nat) : ∀ (f o y k : Nat), k < 2 ^ f → o < p → Go.Proofs.YtbjpmkoiabkcbaaGreatDoor.pwF (p : Int) f (o : Int) (y : Int) k = ((o * y ^ k % p : Nat) : Int)
  | 0, o, y, k, h, ho => by
    have : k = 0 := by simpa using h
    subst this; simp [pwF, Nat.mod_eq_of_lt ho]
  | f + 1, o, y, k, h, ho => by
    rw [pwF]
    split
    · rename_i h0; subst h0; simp [Nat.mod_eq_of_lt ho]
    · have h2 : k / 2 < 2 ^ f := by rw [Nat.pow_succ] at h; omega
      have hy : ((y : Int) * (y : Int) % (p : Int)) = ((y * y % p : Nat) : Int) := by simp
      have hoy : ((o : Int) * (y : Int) % (p : Int)) = ((o * y % p : Nat) : Int) := by simp
      rw [hy, hoy]
      split
      · rename_i h1; rw [pwF_eq p f _ _ _ h2 (Nat.mod_lt _ (by omega)), pow_odd p o y k h1]
      · rw [pwF_eq p f _ _ _ h2 ho, pow_even p o y k (by omega)]
/-! ### Orders -/
theorem pow_mod_mul (m x a b : Nat) : x ^ (a * b) % m = (x ^ a % m) ^ b % m := by rw [Nat.pow_mul, Nat.pow_mod]
theorem pow_mod_add (m x a b : Nat) : x ^ (a + b) % m = (x ^ a % m) * (x ^ b % m) % m := by rw [Nat.pow_add, Nat.mul_mod]
/-- an exponent counts modulo what gives 1 -/
theorem pow_red {m x p : Nat} (hm : 1 < m) (h : x ^ p % m = 1) (k : Nat) : x ^ k % m = x ^ (k % p) % m := by
  conv => lhs; rw [← Nat.div_add_mod k p]
  rw [pow_mod_add, pow_mod_mul, h, Nat.one_pow, Nat.mod_eq_of_lt hm, Nat.one_mul, Nat.mod_mod]
theorem pow_gcd {m x : Nat} (hm : 1 < m) : ∀ (a b : Nat), x ^ a % m = 1 → x ^ b % m = 1 → x ^ Nat.gcd a b % m = 1 := by
  intro a b
  induction a, b using Nat.gcd.induction with
  | H0 n => intro _ h; rw [Nat.gcd_zero_left]; exact h
  | H1 a b ha ih =>
    intro h1 h2
    rw [Nat.gcd_rec]
    exact ih (by rw [← pow_red hm h1]; exact h2) h1
/-- no divisor from 2 on but the number itself -/
def PrimeP (p : Nat) : Prop := 2 ≤ p ∧ ∀ d, d ∣ p → d = 1 ∨ d = p
theorem pow_ne_one {m x p k : Nat} (hm : 1 < m) (hp : PrimeP p) (hx : x % m ≠ 1) (h : x ^ p % m = 1) (h0 : 0 < k) (hk : k < p) : x ^ k % m ≠ 1 := by
  intro h1
  have hg := pow_gcd hm k p h1 h
  rcases hp.2 _ (Nat.gcd_dvd_right k p) with e | e
  · rw [e, Nat.pow_one] at hg; exact hx hg
  · have := Nat.le_of_dvd h0 (Nat.gcd_dvd_left k p)
    omega
/-! ### Trial division -/
/-- no divisor among d, d + s, d + 2 s .. (n of them) -/
def tryF (p : Nat) (s : Nat) : Nat → Nat → Bool
  | 0, _ => true
  | n + 1, d => p % d != 0 && tryF p s n (d + s)
end Go.Proofs.YtbjpmkoiabkcbaaGreatDoor
/- Products and powers modulo a number, as the groups of handles have them. -/
namespace Go.Proofs.YtbjpmkoiabkcbaaGreatDoor
open Go.RowKit
theorem i64_and1 (m : Nat) (h : m < 9223372036854775808) : bits .and .i64 (m : Int) 1 = ((m % 2 : Nat) : Int) := by
  have h1 : IntKind.u64.wrap ((BitVec.ofInt 64 (m : Int) &&& BitVec.ofInt 64 1).toNat : Int) = ((m % 2 : Nat) : Int) := and1 m (by omega)
  rw [IntKind.wrap_u64] at h1
  show IntKind.i64.wrap ((BitVec.ofInt 64 (m : Int) &&& BitVec.ofInt 64 1).toNat : Int) = _
  rw [IntKind.wrap_i64]
  have := (BitVec.ofInt 64 (m : Int) &&& BitVec.ofInt 64 1).isLt
  omega
theorem nprod_bd {m a b : Nat} (hm : m ≤ 2147483649) (ha : a < m) (hb : b < m) : (0 : Int) ≤ (a : Int) * (b : Int) ∧ (a : Int) * (b : Int) < 9223372036854775808 := by
  have h1 := Nat.mul_le_mul (show a ≤ 2147483648 by omega) (show b ≤ 2147483648 by omega)
  rw [← Int.natCast_mul]
  omega
set_option maxRecDepth 100000 in
theorem htimesI_walk (m a b : Int) (w : World) (hm : 1 ≤ m) (hn : 0 ≤ a * b) (hn2 : a * b < 9223372036854775808) :
    Calls Tryz.prog 72 #[.int .i64 m, .int .i64 a, .int .i64 b] w fun e w' => e = .returned (.int .i64 (a * b % m)) ∧ w = w' := by
  go_enter Tryz.func72, Tryz.ntmps72
  go_wp2
  go_ret
  exact ⟨rfl, rfl⟩
theorem htimes_walk (m a b : Nat) (w : World) (hm : 1 ≤ m) (hm2 : m ≤ 2147483649) (ha : a < m) (hb : b < m) :
    Calls Tryz.prog 72 #[.int .i64 (m : Int), .int .i64 (a : Int), .int .i64 (b : Int)] w fun e w' => e = .returned (.int .i64 ((a * b % m : Nat) : Int)) ∧ w = w' := by
  obtain ⟨h1, h2⟩ := nprod_bd hm2 ha hb
  refine (htimesI_walk (m : Int) (a : Int) (b : Int) w (by omega) h1 h2).mono ?_
  rintro e w' ⟨rfl, rfl⟩
  exact ⟨ret_int (by simp), rfl⟩
set_option maxRecDepth 100000 in
theorem hpow_walk (m x e : Nat) (w : World) (hm : 2 ≤ m) (hm2 : m ≤ 2147483649) (hx : x < m) (he : e < 9223372036854775808) :
    Calls Tryz.prog 70 #[.int .i64 (m : Int), .int .i64 (x : Int), .int .i64 (e : Int)] w fun r w' => r = .returned (.int .i64 ((x ^ e % m : Nat) : Int)) ∧ w = w' := by
  have HM := Lib.hid hm2
  have HE := Lib.hid he
  clear hm2 he
  go_enter Tryz.func70, Tryz.ntmps70
  go_wp2
  go_loopw [1, 2, 7] (fun u v o wr => ∃ (k y z : Nat), wr = w ∧ u = .int .i64 (y : Int) ∧ v = .int .i64 (k : Int) ∧ o = .int .i64 (z : Int) ∧ y < m ∧ z < m ∧ Hid (k < 9223372036854775808) ∧ Hid (z * y ^ k % m = x ^ e % m)) (fun _ v _ _ => (intOf v).toNat)
  case atStart => exact ⟨e, x, 1, rfl, rfl, rfl, rfl, hx, by omega, HE, by show _ = _; rw [Nat.one_mul]⟩
  case round =>
    obtain ⟨k, y, z, rfl, rfl, rfl, rfl, hy, hz, HK, HP⟩ := hrel
    by_cases h0 : k = 0
    · subst h0
      have hR := HP.out
      rw [Nat.pow_zero, Nat.mul_one, Nat.mod_eq_of_lt hz] at hR
      have HR := Lib.hid hR
      clear hR HP
      go_wp2
      go_ret
      exact ⟨ret_int (by rw [HR.out]), rfl⟩
    · have hpos : (0 : Int) < (k : Int) := by omega
      have ha1 := i64_and1 k HK.out
      have HK2 : Hid (k / 2 < 9223372036854775808) := by have := HK.out; show _ < _; omega
      have k2 : ∀ V, Calls Tryz.prog 72 #[.int .i64 (m : Int), .int .i64 (y : Int), .int .i64 (y : Int)] V fun e w' => e = .returned (.int .i64 ((y * y % m : Nat) : Int)) ∧ V = w' := fun V => htimes_walk m y y V (by omega) HM.out hy hy
      have k1 : ∀ V, Calls Tryz.prog 72 #[.int .i64 (m : Int), .int .i64 (z : Int), .int .i64 (y : Int)] V fun e w' => e = .returned (.int .i64 ((z * y % m : Nat) : Int)) ∧ V = w' := fun V => htimes_walk m z y V (by omega) HM.out hz hy
      have hy2 : y * y % m < m := Nat.mod_lt _ (by omega)
      have hzy : z * y % m < m := Nat.mod_lt _ (by omega)
      have p0 := pow_even m z y k
      have p1 := pow_odd m z y k
      rw [HP.out] at p0 p1
      generalize y * y % m = y2 at *
      generalize z * y % m = z2 at *
      have K1 := Lib.hid k1
      have K2 := Lib.hid k2
      clear k1 k2
      rcases Nat.mod_two_eq_zero_or_one k with h2 | h2
      · rw [h2] at ha1
        have HS := Lib.hid (p0 h2)
        have hcz : ((0 : Nat) : Int) = 0 := rfl
        rw [hcz] at ha1
        clear p0 p1 HP h2
        go_wp2_with (go_at_call 72; (with_reducible refine (K2.out _).mono ?_))
        rintro e w2 ⟨rfl, rfl⟩
        go_wp2
        go_roundw
        case rel => exact ⟨k / 2, y2, z, trivial, rfl, by go_num, rfl, hy2, hz, HK2, HS⟩
        case measure => simp [intOf]; omega
      · rw [h2] at ha1
        have HS := Lib.hid (p1 h2)
        have hcz : ((1 : Nat) : Int) = 1 := rfl
        rw [hcz] at ha1
        clear p0 p1 HP h2
        go_wp2_with (go_at_call 72; (with_reducible refine (K1.out _).mono ?_))
        rintro e w2 ⟨rfl, rfl⟩
        go_wp2_with (go_at_call 72; (with_reducible refine (K2.out _).mono ?_))
        rintro e w2 ⟨rfl, rfl⟩
        go_wp2
        go_roundw
        case rel => exact ⟨k / 2, y2, z2, trivial, rfl, by go_num, rfl, hy2, hzy, HK2, HS⟩
        case measure => simp [intOf]; omega
end Go.Proofs.YtbjpmkoiabkcbaaGreatDoor
/- Remainders as the program takes them: plain. No program in sight. -/
namespace Go.Proofs.YtbjpmkoiabkcbaaGreatDoor
open Go.RowKit
theorem dmod_bd (n m : Int) (h1 : 1 ≤ m) : -m < n.tmod m ∧ n.tmod m < m := by
  by_cases h : 0 ≤ n
  · rw [Int.tmod_eq_emod_of_nonneg h]
    have := Int.emod_nonneg n (show m ≠ 0 by omega)
    have := Int.emod_lt_of_pos n (show 0 < m by omega)
    omega
  · rw [show n = -(-n) by omega, Int.neg_tmod, Int.tmod_eq_emod_of_nonneg (by omega)]
    have := Int.emod_nonneg (-n) (show m ≠ 0 by omega)
    have := Int.emod_lt_of_pos (-n) (show 0 < m by omega)
    omega
theorem dmod_eq (n m : Int) (h1 : 1 ≤ m) (h2 : m ≤ 4611686018427387904) : (wrap64 (n.tmod m + m)).tmod m = n % m := by
  obtain ⟨a, b⟩ := dmod_bd n m h1
  rw [IntWalk.wrap64_in _ ⟨by omega, by omega⟩, Int.tmod_eq_emod_of_nonneg (by omega), Int.add_emod_right]
  conv => rhs; rw [← Int.mul_tdiv_add_tmod n m]
  rw [Int.add_comm, Int.add_mul_emod_self_left]
end Go.Proofs.YtbjpmkoiabkcbaaGreatDoor
/- Primes by trial division: plain. No program in sight. -/
namespace Go.Proofs.YtbjpmkoiabkcbaaGreatDoor
open Go.RowKit
/-- no divisor from 2 on up to the root -/
def NoDiv (p : Int) : Prop := ∀ d : Int, 2 ≤ d → d * d ≤ p → p % d ≠ 0
noncomputable def rvalid (p : Int) : Bool := @decide (2 ≤ p ∧ p ≤ 1073741824 ∧ NoDiv p) (Classical.propDecidable _)
noncomputable def rsafe (p : Int) : Bool := @decide (3 ≤ p ∧ rvalid p = true ∧ NoDiv (2 * p + 1)) (Classical.propDecidable _)
theorem rvalid_iff (p : Int) : rvalid p = true ↔ 2 ≤ p ∧ p ≤ 1073741824 ∧ NoDiv p := by unfold rvalid; simp
theorem rsafe_iff (p : Int) : rsafe p = true ↔ 3 ≤ p ∧ rvalid p = true ∧ NoDiv (2 * p + 1) := by unfold rsafe; simp
theorem sq_le {d k : Int} (h0 : 0 ≤ d) (h : d ≤ k) : 0 ≤ d * d ∧ d * d ≤ k * k := ⟨Int.mul_nonneg h0 h0, Int.mul_le_mul h h h0 (by omega)⟩
theorem sq_big {d p : Int} (hp : p ≤ 2147483649) (h : d * d ≤ p) : d ≤ 46341 := by
  rcases Int.lt_or_le 46341 d with h1 | h1
  · have := (sq_le (show (0 : Int) ≤ 46342 by omega) (show (46342 : Int) ≤ d by omega)).2
    omega
  · exact h1
theorem sq_bd {d p : Int} (hd : 2 ≤ d) (h : d * d ≤ p) : d < p := by
  have := Int.mul_le_mul_of_nonneg_right (show (2 : Int) ≤ d from hd) (show (0 : Int) ≤ d by omega)
  omega
/-! ### Primes by trial division -/
theorem tryF_all (p s : Nat) : ∀ (n d : Nat), tryF p s n d = true → ∀ k, k < n → p % (d + k * s) ≠ 0
  | 0, _, _, k, hk => by omega
  | n + 1, d, h, k, hk => by
    rw [tryF, Bool.and_eq_true, bne_iff_ne] at h
    cases k with
    | zero => rw [Nat.zero_mul, Nat.add_zero]; exact h.1
    | succ k =>
      have := tryF_all p s n (d + s) h.2 k (by omega)
      rwa [show d + (k + 1) * s = d + s + k * s by rw [Nat.succ_mul]; omega]
theorem noDiv_of (p n : Nat) (ho : p % 2 = 1) (h : tryF p 2 n 3 = true) (hn : p < (3 + 2 * n) * (3 + 2 * n)) : NoDiv (p : Int) := by
  intro d hd hle hz
  obtain ⟨e, rfl⟩ : ∃ e : Nat, d = (e : Int) := ⟨d.toNat, by omega⟩
  have hz' : p % e = 0 := by omega
  have hdv : e ∣ p := Nat.dvd_of_mod_eq_zero hz'
  have hle' : e * e ≤ p := by
    rw [← Int.natCast_mul] at hle; omega
  have heo : e % 2 = 1 := by
    rcases Nat.mod_two_eq_zero_or_one e with h2 | h2
    · have := Nat.dvd_trans (Nat.dvd_of_mod_eq_zero h2) hdv
      omega
    · exact h2
  have hlt : e < 3 + 2 * n := by
    rcases Nat.lt_or_ge e (3 + 2 * n) with h1 | h1
    · exact h1
    · have := Nat.mul_le_mul h1 h1; omega
  have := tryF_all p 2 n 3 h ((e - 3) / 2) (by omega)
  rw [show 3 + (e - 3) / 2 * 2 = e by omega] at this
  exact this hz'
theorem primeP_of {p : Nat} (h2 : 2 ≤ p) (h : NoDiv (p : Int)) : PrimeP p := by
  have key : ∀ e : Nat, 2 ≤ e → e * e ≤ p → ¬ e ∣ p := by
    intro e he hle hd
    have := h (e : Int) (by omega) (by rw [← Int.natCast_mul]; omega)
    have hz := Nat.mod_eq_zero_of_dvd hd
    omega
  refine ⟨h2, fun d hd => ?_⟩
  obtain ⟨c, hc⟩ := hd
  rcases Nat.lt_or_ge d 2 with hd2 | hd2
  · have : d ≠ 0 := by rintro rfl; simp at hc; omega
    omega
  rcases Nat.lt_or_ge c 2 with hc2 | hc2
  · have : c ≠ 0 := by rintro rfl; simp at hc; omega
    obtain rfl : c = 1 := by omega
    omega
  exfalso
  rcases Nat.le_total d c with hdc | hdc
  · exact key d hd2 (by rw [hc]; exact Nat.mul_le_mul_left d hdc) ⟨c, hc⟩
  · exact key c hc2 (by rw [hc]; exact Nat.mul_le_mul_right c hdc) ⟨d, by rw [hc, Nat.mul_comm]⟩
end Go.Proofs.YtbjpmkoiabkcbaaGreatDoor
/- The reference's groups: trial division, powers. -/
namespace Go.Proofs.YtbjpmkoiabkcbaaGreatDoor
open Go.RowKit
set_option maxRecDepth 100000 in
theorem rvalid_walk (p : Int) (w : World) :
    Calls Tryz.prog 61 #[.int .i64 p] w fun e w' => e = .returned (.bool (rvalid p)) ∧ w = w' := by
  by_cases h1 : 2 ≤ p ∧ p ≤ 1073741824
  · obtain ⟨h2, h3⟩ := h1
    obtain ⟨v, hv⟩ : ∃ v, rvalid p = v := ⟨_, rfl⟩
    have HV := Lib.hid hv
    rw [hv]
    clear hv
    go_enter Tryz.func61, Tryz.ntmps61
    go_wp2
    go_loopw [3] (fun u wr => ∃ (d : Int), wr = w ∧ u = .int .i64 d ∧ 2 ≤ d ∧ d ≤ 46342 ∧ Hid (∀ d' : Int, 2 ≤ d' → d' < d → p % d' ≠ 0)) (fun u _ => (p - intOf u).toNat)
    case atStart => exact ⟨2, rfl, rfl, by omega, by omega, fun d' a b => by omega⟩
    case round =>
      obtain ⟨d, rfl, rfl, hd, hd6, HN⟩ := hrel
      obtain ⟨q0, q1⟩ := sq_le (show 0 ≤ d by omega) hd6
      have q2 : d * d < 9223372036854775808 := by omega
      have hm1 := Int.emod_nonneg p (show d ≠ 0 by omega)
      clear q1
      by_cases hle : d * d ≤ p
      · have hdp := sq_bd hd hle
        have hd5 := sq_big (by omega) hle
        by_cases hz : p % d = 0
        · have hr : v = false := by
            rw [← HV.out, Bool.eq_false_iff, ne_eq, rvalid_iff]
            rintro ⟨-, -, hN⟩
            exact hN d hd hle hz
          have HR := Lib.hid hr
          have hzb : (p % d == 0) = true := by rw [beq_iff_eq]; exact hz
          clear hr hz
          go_wp2
          go_ret
          exact ⟨ret_bool HR.out.symm, rfl⟩
        · have hzb : (p % d == 0) = false := by rw [beq_eq_false_iff_ne]; exact hz
          have HN2 : Hid (∀ d' : Int, 2 ≤ d' → d' < d + 1 → p % d' ≠ 0) := fun d' a b => by
            by_cases e : d' = d
            · rw [e]; exact hz
            · exact HN.out d' a (by omega)
          clear hz HN
          go_wp2
          go_roundw
          case rel => exact ⟨d + 1, trivial, rfl, by omega, by omega, HN2⟩
          case measure => simp [intOf]; omega
      · have hr : v = true := by
          rw [← HV.out, rvalid_iff]
          refine ⟨h2, h3, fun d' a b => HN.out d' a ?_⟩
          rcases Int.lt_or_le d' d with h | h
          · exact h
          · have := (sq_le (show (0 : Int) ≤ d by omega) h).2; omega
        have HR := Lib.hid hr
        have hle2 : p < d * d := by omega
        clear hr hle
        go_wp2
        go_ret
        exact ⟨ret_bool HR.out.symm, rfl⟩
  · have hv : rvalid p = false := by rw [Bool.eq_false_iff, ne_eq, rvalid_iff]; rintro ⟨a, b, -⟩; exact h1 ⟨a, b⟩
    rw [hv]
    rcases Int.lt_or_le p 2 with h2 | h2
    · clear hv h1
      go_enter Tryz.func61, Tryz.ntmps61
      go_wp2
      go_ret
      exact ⟨rfl, rfl⟩
    · have h3 : 1073741824 < p := by omega
      clear hv h1
      go_enter Tryz.func61, Tryz.ntmps61
      go_wp2
      go_ret
      exact ⟨rfl, rfl⟩
end Go.Proofs.YtbjpmkoiabkcbaaGreatDoor
