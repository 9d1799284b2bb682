/- Powers modulo a number, orders, and trial division: plain. No program in sight. -/
import Derived.Test.YtnahkfchcminpaaGreatDoorGField
namespace Go.Proofs.YtnahkfchcminpaaGreatDoor
/-! ### Powers by squares -/
/-- one round of the loop -/
theorem pow_odd (m o y k : Nat) (h : k % 2 = 1) : (o * y % m) * (y * y % m) ^ (k / 2) % m = o * y ^ k % m := by
  have e : y ^ k = y * (y * y) ^ (k / 2) := by
    conv => lhs; rw [show k = 2 * (k / 2) + 1 by omega]
    rw [Nat.pow_succ, Nat.pow_mul, show y ^ 2 = y * y by rw [Nat.pow_succ, Nat.pow_one], Nat.mul_comm]
  rw [Nat.mul_mod, Nat.mod_mod, ← Nat.pow_mod, ← Nat.mul_mod, e, Nat.mul_assoc]
theorem pow_even (m o y k : Nat) (h : k % 2 = 0) : o * (y * y % m) ^ (k / 2) % m = o * y ^ k % m := by
  have e : y ^ k = (y * y) ^ (k / 2) := by
    conv => lhs; rw [show k = 2 * (k / 2) by omega]
    rw [Nat.pow_mul, show y ^ 2 = y * y by rw [Nat.pow_succ, Nat.pow_one]]
  rw [Nat.mul_mod, ← Nat.pow_mod, ← Nat.mul_mod, e]
/-- powers that the kernel can reckon -/
def fpow (m : Nat) : Nat → Nat → Nat → Nat → Nat
  | 0, o, _, _ => o % m
  | f + 1, o, y, k => if k = 0 then o % m else if k % 2 = 1 then fpow m f (o * y % m) (y * y % m) (k / 2) else fpow m f o (y * y % m) (k / 2)
theorem fpow_eq (m : Nat) : ∀ f o y k, k < 2 ^ f → fpow m f o y k = o * y ^ k % m
  | 0, o, y, k, h => by
    have : k = 0 := by simpa using h
    subst this; simp [fpow]
  | f + 1, o, y, k, h => by
    rw [fpow]
    split
    · rename_i h0; subst h0; simp
    · have h2 : k / 2 < 2 ^ f := by rw [Nat.pow_succ] at h; omega
      split
      · rename_i ho; rw [fpow_eq m f _ _ _ h2, pow_odd m o y k ho]
      · rw [fpow_eq m f _ _ _ h2, pow_even m o y k (by omega)]
theorem pow_eval (m x e : Nat) (h : e < 2 ^ 40) : x ^ e % m = fpow m 40 1 x e := by rw [fpow_eq m 40 1 x e h, Nat.one_mul]
/-- the program's powers of the field -/
theorem pwF_eq (p : Nat) : ∀ (f o y k : Nat), k < 2 ^ f → o < p → Go.Proofs.YtnahkfchcminpaaGreatDoor.pwF (p : Int) f (o : Int) (y : Int) k = ((o * y ^ k % p : Nat) : Int)
  | 0, o, y, k, h, ho => by
    have : k = 0 := by simpa using h
    subst this; simp [pwF, Nat.mod_eq_of_lt ho]
  | f + 1, o, y, k, h, ho => by
    rw [pwF]
    split
    · rename_i h0; subst h0; simp [Nat.mod_eq_of_lt ho]
    · have h2 : k / 2 < 2 ^ f := by rw [Nat.pow_succ] at h; omega
      have hy : ((y : Int) * (y : Int) % (p : Int)) = ((y * y % p : Nat) : Int) := by simp
      have hoy : ((o : Int) * (y : Int) % (p : Int)) = ((o * y % p : Nat) : Int) := by simp
      rw [hy, hoy]
      split
      · rename_i h1; rw [pwF_eq p f _ _ _ h2 (Nat.mod_lt _ (by omega)), pow_odd p o y k h1]
      · rw [pwF_eq p f _ _ _ h2 ho, pow_even p o y k (by omega)]
/-! ### Orders -/
theorem pow_mod_mul (m x a b : Nat) : x ^ (a * b) % m = (x ^ a % m) ^ b % m := by rw [Nat.pow_mul, Nat.pow_mod]
theorem pow_mod_add (m x a b : Nat) : x ^ (a + b) % m = (x ^ a % m) * (x ^ b % m) % m := by rw [Nat.pow_add, Nat.mul_mod]
/-- an exponent counts modulo what gives 1 -/
theorem pow_red {m x p : Nat} (hm : 1 < m) (h : x ^ p % m = 1) (k : Nat) : x ^ k % m = x ^ (k % p) % m := by
  conv => lhs; rw [← Nat.div_add_mod k p]
  rw [pow_mod_add, pow_mod_mul, h, Nat.one_pow, Nat.mod_eq_of_lt hm, Nat.one_mul, Nat.mod_mod]
theorem pow_gcd {m x : Nat} (hm : 1 < m) : ∀ (a b : Nat), x ^ a % m = 1 → x ^ b % m = 1 → x ^ Nat.gcd a b % m = 1 := by
  intro a b
  induction a, b using Nat.gcd.induction with
  | H0 n => intro _ h; rw [Nat.gcd_zero_left]; exact h
  | H1 a b ha ih =>
    intro h1 h2
    rw [Nat.gcd_rec]
    exact ih (by rw [← pow_red hm h1]; exact h2) h1
/-- no divisor from 2 on but the number itself -/
def PrimeP (p : Nat) : Prop := 2 ≤ p ∧ ∀ d, d ∣ p → d = 1 ∨ d = p
theorem pow_ne_one {m x p k : Nat} (hm : 1 < m) (hp : PrimeP p) (hx : x % m ≠ 1) (h : x ^ p % m = 1) (h0 : 0 < k) (hk : k < p) : x ^ k % m ≠ 1 := by
  intro h1
  have hg := pow_gcd hm k p h1 h
  rcases hp.2 _ (Nat.gcd_dvd_right k p) with e | e
  · rw [e, Nat.pow_one] at hg; exact hx hg
  · have := Nat.le_of_dvd h0 (Nat.gcd_dvd_left k p)
    omega
/-! ### Trial division -/
/-- no divisor among d, d + s, d + 2 s .. (n of them) -/
def tryF (p : Nat) (s : Nat) : Nat → Nat → Bool
  | 0, _ => true
  | n + 1, d => p % d != 0 && tryF p s n (d + s)
end Go.Proofs.YtnahkfchcminpaaGreatDoor
/- Products and powers modulo a number, as the groups of handles have them. -/
namespace Go.Proofs.YtnahkfchcminpaaGreatDoor
open Go.RowKit
theorem i64_and1 (m : Nat) (h : m < 9223372036854775808) : bits .and .i64 (m : Int) 1 = ((m % 2 : Nat) : Int) := by
  have h1 : IntKind.u64.wrap ((BitVec.ofInt 64 (m : Int) &&& BitVec.ofInt 64 1).toNat : Int) = ((m % 2 : Nat) : Int) := and1 m (by omega)
  rw [IntKind.wrap_u64] at h1
  show IntKind.i64.wrap ((BitVec.ofInt 64 (m : Int) &&& BitVec.ofInt 64 1).toNat : Int) = _
  rw [IntKind.wrap_i64]
  have := (BitVec.ofInt 64 (m : Int) &&& BitVec.ofInt 64 1).isLt
  omega
theorem nprod_bd {m a b : Nat} (hm : m ≤ 2147483649) (ha : a < m) (hb : b < m) : (0 : Int) ≤ (a : Int) * (b : Int) ∧ (a : Int) * (b : Int) < 9223372036854775808 := by
  have h1 := Nat.mul_le_mul (show a ≤ 2147483648 by omega) (show b ≤ 2147483648 by omega)
  rw [← Int.natCast_mul]
  omega
set_option maxRecDepth 100000 in
theorem htimesI_walk (m a b : Int) (w : World) (hm : 1 ≤ m) (hn : 0 ≤ a * b) (hn2 : a * b < 9223372036854775808) :
    Calls Tryz.prog 59 #[.int .i64 m, .int .i64 a, .int .i64 b] w fun e w' => e = .returned (.int .i64 (a * b % m)) ∧ w = w' := by
  go_enter Tryz.func59, Tryz.ntmps59
  go_wp2
  go_ret
  exact ⟨rfl, rfl⟩
theorem htimes_walk (m a b : Nat) (w : World) (hm : 1 ≤ m) (hm2 : m ≤ 2147483649) (ha : a < m) (hb : b < m) :
    Calls Tryz.prog 59 #[.int .i64 (m : Int), .int .i64 (a : Int), .int .i64 (b : Int)] w fun e w' => e = .returned (.int .i64 ((a * b % m : Nat) : Int)) ∧ w = w' := by
  obtain ⟨h1, h2⟩ := nprod_bd hm2 ha hb
  refine (htimesI_walk (m : Int) (a : Int) (b : Int) w (by omega) h1 h2).mono ?_
  rintro e w' ⟨rfl, rfl⟩
  exact ⟨ret_int (by simp), rfl⟩
set_option maxRecDepth 100000 in
theorem hpow_walk (m x e : Nat) (w : World) (hm : 2 ≤ m) (hm2 : m ≤ 2147483649) (hx : x < m) (he : e < 9223372036854775808) :
    Calls Tryz.prog 72 #[.int .i64 (m : Int), .int .i64 (x : Int), .int .i64 (e : Int)] w fun r w' => r = .returned (.int .i64 ((x ^ e % m : Nat) : Int)) ∧ w = w' := by
  have HM := Lib.hid hm2
  have HE := Lib.hid he
  clear hm2 he
  go_enter Tryz.func72, Tryz.ntmps72
  go_wp2
  go_loopw [1, 2, 7] (fun u v o wr => ∃ (k y z : Nat), wr = w ∧ u = .int .i64 (y : Int) ∧ v = .int .i64 (k : Int) ∧ o = .int .i64 (z : Int) ∧ y < m ∧ z < m ∧ Hid (k < 9223372036854775808) ∧ Hid (z * y ^ k % m = x ^ e % m)) (fun _ v _ _ => (intOf v).toNat)
  case atStart => exact ⟨e, x, 1, rfl, rfl, rfl, rfl, hx, by omega, HE, by show _ = _; rw [Nat.one_mul]⟩
  case round =>
    obtain ⟨k, y, z, rfl, rfl, rfl, rfl, hy, hz, HK, HP⟩ := hrel
    by_cases h0 : k = 0
    · subst h0
      have hR := HP.out
      rw [Nat.pow_zero, Nat.mul_one, Nat.mod_eq_of_lt hz] at hR
      have HR := Lib.hid hR
      clear hR HP
      go_wp2
      go_ret
      exact ⟨ret_int (by rw [HR.out]), rfl⟩
    · have hpos : (0 : Int) < (k : Int) := by omega
      have ha1 := i64_and1 k HK.out
      have HK2 : Hid (k / 2 < 9223372036854775808) := by have := HK.out; show _ < _; omega
      have k2 : ∀ V, Calls Tryz.prog 59 #[.int .i64 (m : Int), .int .i64 (y : Int), .int .i64 (y : Int)] V fun e w' => e = .returned (.int .i64 ((y * y % m : Nat) : Int)) ∧ V = w' := fun V => htimes_walk m y y V (by omega) HM.out hy hy
      have k1 : ∀ V, Calls Tryz.prog 59 #[.int .i64 (m : Int), .int .i64 (z : Int), .int .i64 (y : Int)] V fun e w' => e = .returned (.int .i64 ((z * y % m : Nat) : Int)) ∧ V = w' := fun V => htimes_walk m z y V (by omega) HM.out hz hy
      have hy2 : y * y % m < m := Nat.mod_lt _ (by omega)
      have hzy : z * y % m < m := Nat.mod_lt _ (by omega)
      have p0 := pow_even m z y k
      have p1 := pow_odd m z y k
      rw [HP.out] at p0 p1
      generalize y * y % m = y2 at *
      generalize z * y % m = z2 at *
      have K1 := Lib.hid k1
      have K2 := Lib.hid k2
      clear k1 k2
      rcases Nat.mod_two_eq_zero_or_one k with h2 | h2
      · rw [h2] at ha1
        have HS := Lib.hid (p0 h2)
        have hcz : ((0 : Nat) : Int) = 0 := rfl
        rw [hcz] at ha1
        clear p0 p1 HP h2
        go_wp2_with (go_at_call 59; (with_reducible refine (K2.out _).mono ?_))
        rintro e w2 ⟨rfl, rfl⟩
        go_wp2
        go_roundw
        case rel => exact ⟨k / 2, y2, z, trivial, rfl, by go_num, rfl, hy2, hz, HK2, HS⟩
        case measure => simp [intOf]; omega
      · rw [h2] at ha1
        have HS := Lib.hid (p1 h2)
        have hcz : ((1 : Nat) : Int) = 1 := rfl
        rw [hcz] at ha1
        clear p0 p1 HP h2
        go_wp2_with (go_at_call 59; (with_reducible refine (K1.out _).mono ?_))
        rintro e w2 ⟨rfl, rfl⟩
        go_wp2_with (go_at_call 59; (with_reducible refine (K2.out _).mono ?_))
        rintro e w2 ⟨rfl, rfl⟩
        go_wp2
        go_roundw
        case rel => exact ⟨k / 2, y2, z2, trivial, rfl, by go_num, rfl, hy2, hzy, HK2, HS⟩
        case measure => simp [intOf]; omega
end Go.Proofs.YtnahkfchcminpaaGreatDoor
/- Primes: Fermat's law, products and prime factors, orders: plain. No program in sight. -/
namespace Go.Proofs.YtnahkfchcminpaaGreatDoor.MR
theorem pow_mod_mul (m x a b : Nat) : x ^ (a * b) % m = (x ^ a % m) ^ b % m := by rw [Nat.pow_mul, Nat.pow_mod]
theorem pow_mod_add (m x a b : Nat) : x ^ (a + b) % m = (x ^ a % m) * (x ^ b % m) % m := by rw [Nat.pow_add, Nat.mul_mod]
theorem pow_red {m x p : Nat} (hm : 1 < m) (h : x ^ p % m = 1) (k : Nat) : x ^ k % m = x ^ (k % p) % m := by
  conv => lhs; rw [← Nat.div_add_mod k p]
  rw [pow_mod_add, pow_mod_mul, h, Nat.one_pow, Nat.mod_eq_of_lt hm, Nat.one_mul, Nat.mod_mod]
theorem pow_gcd {m x : Nat} (hm : 1 < m) : ∀ (a b : Nat), x ^ a % m = 1 → x ^ b % m = 1 → x ^ Nat.gcd a b % m = 1 := by
  intro a b
  induction a, b using Nat.gcd.induction with
  | H0 n => intro _ h; rw [Nat.gcd_zero_left]; exact h
  | H1 a b ha ih =>
    intro h1 h2
    rw [Nat.gcd_rec]
    exact ih (by rw [← pow_red hm h1]; exact h2) h1
def PrimeP (p : Nat) : Prop := 2 ≤ p ∧ ∀ d, d ∣ p → d = 1 ∨ d = p
-- CUT
theorem pow_one_dvd {m x a b : Nat} (hm : 1 < m) (h : x ^ a % m = 1) (hd : a ∣ b) : x ^ b % m = 1 := by
  obtain ⟨c, rfl⟩ := hd
  rw [pow_mod_mul, h, Nat.one_pow, Nat.mod_eq_of_lt hm]
theorem prime_fac : ∀ (n m : Nat), m ≤ n → 2 ≤ m → ∃ q, PrimeP q ∧ q ∣ m
  | 0, m, h, h2 => by omega
  | n + 1, m, h, h2 => by
    by_cases hd : ∃ d, d ∣ m ∧ d ≠ 1 ∧ d ≠ m
    · obtain ⟨d, hdm, h1, hm⟩ := hd
      have hle := Nat.le_of_dvd (by omega) hdm
      have h0 : d ≠ 0 := by rintro rfl; have := Nat.zero_dvd.1 hdm; omega
      obtain ⟨q, hq, hqd⟩ := prime_fac n d (by omega) (by omega)
      exact ⟨q, hq, Nat.dvd_trans hqd hdm⟩
    · refine ⟨m, ⟨h2, fun d hdm => ?_⟩, Nat.dvd_refl _⟩
      by_cases h1 : d = 1
      · exact .inl h1
      · by_cases hm : d = m
        · exact .inr hm
        · exact absurd ⟨d, hdm, h1, hm⟩ hd
theorem PrimeP.cop {p a : Nat} (hp : PrimeP p) (h : ¬ p ∣ a) : Nat.Coprime p a := by
  rcases hp.2 _ (Nat.gcd_dvd_left p a) with e | e
  · exact e
  · exact absurd (e ▸ Nat.gcd_dvd_right p a) h
theorem PrimeP.mul {p a b : Nat} (hp : PrimeP p) (h : p ∣ a * b) : p ∣ a ∨ p ∣ b := by
  by_cases ha : p ∣ a
  · exact .inl ha
  · exact .inr ((hp.cop ha).dvd_of_dvd_mul_left h)
theorem PrimeP.pow {p a : Nat} (hp : PrimeP p) : ∀ {n : Nat}, p ∣ a ^ n → p ∣ a
  | 0, h => by
    have h1 := hp.1
    rw [Nat.pow_zero] at h
    have := Nat.le_of_dvd (by omega) h
    omega
  | n + 1, h => by
    rw [Nat.pow_succ] at h
    rcases hp.mul h with h | h
    · exact hp.pow h
    · exact h
def lprod : List Nat → Nat
  | [] => 1
  | a :: l => a * lprod l
theorem lprod_erase {a : Nat} : ∀ {l : List Nat}, a ∈ l → lprod l = a * lprod (l.erase a)
  | [], h => by cases h
  | b :: l, h => by
    by_cases hb : b = a
    · subst hb; rw [List.erase_cons_head]; rfl
    · have hl : a ∈ l := by
        rcases List.mem_cons.1 h with e | e
        · exact absurd e.symm hb
        · exact e
      rw [List.erase_cons_tail (by simpa using hb), lprod, lprod, lprod_erase hl, Nat.mul_left_comm]
theorem lprod_same : ∀ (L M : List Nat), L.Nodup → (∀ x ∈ L, x ∈ M) → M.length ≤ L.length → lprod L = lprod M
  | [], M, _, _, hl => by
    have : M = [] := List.eq_nil_of_length_eq_zero (by simpa using hl)
    subst this; rfl
  | a :: L, M, hn, hs, hl => by
    have ha := hs a List.mem_cons_self
    have hn' := List.nodup_cons.1 hn
    rw [lprod, lprod_erase ha, lprod_same L (M.erase a) hn'.2 (fun y hy => (List.mem_erase_of_ne (fun e => hn'.1 (by rw [← e]; exact hy))).2 (hs y (List.mem_cons_of_mem _ hy))) (by
      rw [List.length_erase_of_mem ha]; simp at hl; omega)]
theorem PrimeP.lprod {p : Nat} (hp : PrimeP p) : ∀ {l : List Nat}, p ∣ lprod l → ∃ x ∈ l, p ∣ x
  | [], h => by have h1 := hp.1; have := Nat.le_of_dvd (by simp [MR.lprod]) h; simp [MR.lprod] at this; omega
  | a :: l, h => by
    rcases hp.mul h with h | h
    · exact ⟨a, List.mem_cons_self, h⟩
    · obtain ⟨x, hx, hd⟩ := hp.lprod h
      exact ⟨x, List.mem_cons_of_mem _ hx, hd⟩
theorem lprod_mod (p a : Nat) (f : Nat → Nat) : ∀ l : List Nat, lprod (l.map fun i => a * f i % p) % p = a ^ l.length * lprod (l.map f) % p
  | [] => by simp [lprod]
  | i :: l => by
    rw [List.map_cons, List.map_cons, lprod, lprod, List.length_cons, Nat.mul_mod, Nat.mod_mod, lprod_mod p a f l, ← Nat.mul_mod, Nat.pow_succ]
    congr 1
    rw [Nat.mul_comm (a ^ l.length) a, Nat.mul_assoc, Nat.mul_assoc, Nat.mul_left_comm (f i)]
theorem dvd_sub_mod {p a b : Nat} (h : a % p = b % p) : p ∣ a - b := Nat.dvd_of_mod_eq_zero (Nat.sub_mod_eq_zero_of_mod_eq h)
theorem range_map_nodup {f : Nat → Nat} : ∀ {k : Nat}, (∀ i j, i < j → j < k → f i ≠ f j) → ((List.range k).map f).Nodup
  | 0, _ => by simp
  | k + 1, h => by
    rw [List.range_succ, List.map_append, List.nodup_append]
    refine ⟨range_map_nodup fun i j h1 h2 => h i j h1 (by omega), by simp, ?_⟩
    intro a ha b hb
    simp only [List.mem_map, List.mem_range] at ha
    simp only [List.map_cons, List.map_nil, List.mem_singleton] at hb
    obtain ⟨i, hi, rfl⟩ := ha
    rw [hb]
    exact h i k hi (by omega)
theorem fermat {p a : Nat} (hp : PrimeP p) (ha : ¬ p ∣ a) : a ^ (p - 1) % p = 1 := by
  have h2 := hp.1
  let g : Nat → Nat := fun i => i + 1
  have hmem : ∀ i, i < p - 1 → a * (i + 1) % p ≠ 0 := fun i hi h0 => by
    rcases hp.mul (Nat.dvd_of_mod_eq_zero h0) with h | h
    · exact ha h
    · have := Nat.le_of_dvd (by omega) h; omega
  have hinj : ∀ i j, i < j → j < p - 1 → a * (i + 1) % p ≠ a * (j + 1) % p := fun i j hij hj e => by
    have hd := dvd_sub_mod e.symm
    rw [← Nat.mul_sub] at hd
    rcases hp.mul hd with h | h
    · exact ha h
    · have := Nat.le_of_dvd (by omega) h; omega
  have hsame := lprod_same ((List.range (p - 1)).map fun i => a * g i % p) ((List.range (p - 1)).map g) (range_map_nodup hinj) (fun x hx => by
    simp only [List.mem_map, List.mem_range] at hx ⊢
    obtain ⟨i, hi, rfl⟩ := hx
    have h0 := hmem i hi
    have hlt := Nat.mod_lt (a * (i + 1)) (show 0 < p by omega)
    exact ⟨a * (i + 1) % p - 1, by omega, by show a * (i + 1) % p - 1 + 1 = a * (i + 1) % p; omega⟩) (by simp)
  have hm := lprod_mod p a g (List.range (p - 1))
  rw [hsame, List.length_range] at hm
  have hF : ¬ p ∣ lprod ((List.range (p - 1)).map g) := fun h => by
    obtain ⟨x, hx, hd⟩ := hp.lprod h
    simp only [List.mem_map, List.mem_range] at hx
    obtain ⟨i, hi, rfl⟩ := hx
    have := Nat.le_of_dvd (by simp [g]) hd
    simp only [g] at this
    omega
  generalize lprod ((List.range (p - 1)).map g) = F at *
  have h0 : a ≠ 0 := fun h => ha (h ▸ Nat.dvd_zero p)
  have h1 : 1 ≤ a ^ (p - 1) := Nat.pos_of_ne_zero (by simp [h0])
  have hd := dvd_sub_mod hm.symm
  rw [show a ^ (p - 1) * F - F = (a ^ (p - 1) - 1) * F by rw [Nat.sub_mul, Nat.one_mul]] at hd
  rcases hp.mul hd with h | h
  · obtain ⟨c, hc⟩ := h
    have : a ^ (p - 1) = 1 + p * c := by omega
    rw [this, Nat.add_mul_mod_self_left, Nat.mod_eq_of_lt (by omega)]
  · exact absurd h hF
theorem primeP_small {p : Nat} (h2 : 2 ≤ p) (h : ∀ d, 2 ≤ d → d * d ≤ p → ¬ d ∣ p) : PrimeP p := by
  refine ⟨h2, fun d hd => ?_⟩
  obtain ⟨c, hc⟩ := hd
  rcases Nat.lt_or_ge d 2 with hd2 | hd2
  · have : d ≠ 0 := by rintro rfl; simp at hc; omega
    omega
  rcases Nat.lt_or_ge c 2 with hc2 | hc2
  · have : c ≠ 0 := by rintro rfl; simp at hc; omega
    obtain rfl : c = 1 := by omega
    omega
  exfalso
  rcases Nat.le_total d c with hdc | hdc
  · exact h d hd2 (by rw [hc]; exact Nat.mul_le_mul_left d hdc) ⟨c, hc⟩
  · exact h c hc2 (by rw [hc]; exact Nat.mul_le_mul_right c hdc) ⟨d, by rw [hc, Nat.mul_comm]⟩
/-- the part of an order that a prime has -/
theorem ord_part {q a l n k e : Nat} (hq : 1 < q) (hl : PrimeP l) (h1 : a ^ n % q = 1) (h2 : a ^ k % q = 1) (hf : a ^ (n / l) % q ≠ 1) : Nat.gcd n (l ^ e) ∣ k := by
  have hg := pow_gcd hq n k h1 h2
  obtain ⟨h, hh⟩ := Nat.gcd_dvd_left n k
  have hlh : ¬ l ∣ h := fun ⟨c, hc⟩ => by
    apply hf
    refine pow_one_dvd hq hg ?_
    have h2 := hl.1
    rw [hc] at hh
    have : n / l = Nat.gcd n k * c := by
      have e : n = l * (Nat.gcd n k * c) := by rw [← Nat.mul_assoc, Nat.mul_comm l, Nat.mul_assoc]; exact hh
      exact Nat.div_eq_of_eq_mul_right (by omega) e
    exact ⟨c, this⟩
  have hc : Nat.Coprime (Nat.gcd n (l ^ e)) h := Nat.Coprime.coprime_dvd_left (Nat.gcd_dvd_right _ _) (Nat.Coprime.pow_left e (hl.cop hlh))
  have hd : Nat.gcd n (l ^ e) ∣ Nat.gcd n k * h := by rw [← hh]; exact Nat.gcd_dvd_left _ _
  exact Nat.dvd_trans (hc.dvd_of_dvd_mul_right hd) (Nat.gcd_dvd_right n k)
end Go.Proofs.YtnahkfchcminpaaGreatDoor.MR
