/- The group of a safe prime: plain; the program's test can be reckoned. -/
import Derived.Test.YtnahkfchcminpaaGreatDoorGNoDiv
import Derived.Test.YtnahkfchcminpaaGreatDoorGHandG
import Derived.Test.YtnahkfchcminpaaGreatDoorBase
import Derived.Test.YtnahkfchcminpaaGreatDoorGDice
namespace Go.Proofs.YtnahkfchcminpaaGreatDoor
open Go.RowKit
/-! ### The program's test, so that it can be reckoned -/
def passK (m b : Nat) : Bool :=
  let x := fpow m 40 1 (b % m) (odF 32 (m - 1) 0).1
  x == 1 || sqH m ((odF 32 (m - 1) 0).2 - 1) x
def primeK (m : Nat) : List Nat → Bool
  | [] => true
  | b :: bs => (m == b || (m % b != 0 && passK m b)) && primeK m bs
theorem passK_eq (m b : Nat) (h1 : 2 ≤ m) (hm : m ≤ 2147483649) : passH m b = passK m b := by
  have ho := (odF_pos 32 (m - 1) 0 (by omega)).2
  unfold passH passK
  rw [pow_eval m (b % m) _ (by omega)]
theorem primeK_eq (m : Nat) (h1 : 2 ≤ m) (hm : m ≤ 2147483649) : ∀ l, primeH m l = primeK m l
  | [] => rfl
  | b :: l => by rw [primeH, primeK, passK_eq m b h1 hm, primeK_eq m h1 hm l]
def safeK (p : Nat) : Bool := validP (p : Int) && primeK (2 * p + 1) basesN
theorem safeP_of {p : Nat} (h3 : 3 ≤ p) (h30 : p ≤ 1073741824) (h : safeK p = true) : safeP (p : Int) = true := by
  rw [safeK, Bool.and_eq_true] at h
  rw [safeP, h.1, decide_eq_true (by omega), show (2 * (p : Int) + 1).toNat = 2 * p + 1 by omega, primeK_eq _ (by omega) (by omega), h.2]
  rfl
theorem safeP_big : safeP 500000003 = true := safeP_of (p := 500000003) (by decide) (by decide) (by decide +kernel)
theorem prime_big : PrimeP 500000003 := primeP_of (by decide) (noDiv_of 500000003 11180 (by decide) (by decide +kernel) (by decide))
/-- 4 has an order that divides the prime -/
structure Grp (P : Nat) : Prop where
  three : 3 ≤ P
  four : 4 ^ P % (2 * P + 1) = 1
  prime : PrimeP P
theorem gpw_nat {P x : Nat} (hP : 3 ≤ P) (hx : x ^ P % (2 * P + 1) = 1) (k : Nat) : gpw P x (k : Int) = x ^ k % (2 * P + 1) := by
  rw [gpw, ← Int.natCast_emod, Int.toNat_natCast, ← pow_red (by omega) hx]
theorem pow_one_pow {m x P : Nat} (hm : 1 < m) (hx : x ^ P % m = 1) (k : Nat) : (x ^ k % m) ^ P % m = 1 := by
  rw [← Nat.pow_mod, ← Nat.pow_mul, Nat.mul_comm, pow_mod_mul, hx, Nat.one_pow, Nat.mod_eq_of_lt hm]
theorem pow_pos_mod {m x P : Nat} (hm : 1 < m) (h0 : 0 < P) (hx : x ^ P % m = 1) (k : Nat) : 0 < x ^ k % m := by
  rcases Nat.eq_zero_or_pos (x ^ k % m) with h | h
  · have := pow_one_pow hm hx k
    rw [h, Nat.zero_pow h0, Nat.zero_mod] at this
    omega
  · exact h
theorem memH_pow {P x : Nat} (hP : 3 ≤ P) (hx : x ^ P % (2 * P + 1) = 1) (k : Nat) : memH P (x ^ k % (2 * P + 1)) = true := by
  rw [memH, decide_eq_true (pow_pos_mod (by omega) (by omega) hx k), decide_eq_true (Nat.mod_lt _ (by omega)), pow_one_pow (by omega) hx k]
  rfl
theorem memZ_nat {P x : Nat} (h : memH P x = true) : memZ P (x : Int) = true := by
  have h' := h
  rw [memH, Bool.and_eq_true, decide_eq_true_eq] at h'
  rw [memZ, Int.toNat_natCast, h, decide_eq_true (by omega)]
  rfl
theorem mem_gpw {P : Nat} (h : Grp P) (k : Nat) : memZ P (gpw P 4 (k : Int) : Int) = true := by
  rw [gpw_nat h.three h.four]
  exact memZ_nat (memH_pow h.three h.four k)
theorem pow_shift {P : Nat} (h : Grp P) {S b : Nat} (hS : S < P) (h1 : 4 ^ ((S + b) % P) % (2 * P + 1) = 4 ^ S % (2 * P + 1)) : 4 ^ b % (2 * P + 1) = 1 := by
  have hm : 1 < 2 * P + 1 := by have := h.three; omega
  rw [← pow_red hm h.four] at h1
  have e : 4 ^ (P - S) * 4 ^ (S + b) % (2 * P + 1) = 4 ^ (P - S) * 4 ^ S % (2 * P + 1) := by rw [Nat.mul_mod, h1, ← Nat.mul_mod]
  rw [← Nat.pow_add, ← Nat.pow_add, show P - S + (S + b) = P + b by omega, show P - S + S = P by omega, h.four, pow_mod_add, h.four, Nat.one_mul, Nat.mod_mod] at e
  exact e
theorem grp_of (P : Nat) (h3 : 3 ≤ P) (h40 : P < 2 ^ 40) (h4 : fpow (2 * P + 1) 40 1 4 P = 1) (hp : PrimeP P) : Grp P := ⟨h3, by rw [pow_eval _ _ _ h40]; exact h4, hp⟩
theorem grp_big : Grp 500000003 := grp_of 500000003 (by decide) (by decide) (by decide +kernel) prime_big
end Go.Proofs.YtnahkfchcminpaaGreatDoor
/- Safe primes: the reference's test. -/
namespace Go.Proofs.YtnahkfchcminpaaGreatDoor
open Go.RowKit
theorem rsafe_of (p n k : Nat) (h3 : 3 ≤ p) (h30 : p ≤ 1073741824) (ho : p % 2 = 1) (h1 : tryF p 2 n 3 = true) (hn : p < (3 + 2 * n) * (3 + 2 * n)) (h2 : tryF (2 * p + 1) 2 k 3 = true) (hk : 2 * p + 1 < (3 + 2 * k) * (3 + 2 * k)) : rsafe (p : Int) = true := by
  rw [rsafe_iff, rvalid_iff]
  refine ⟨by omega, ⟨by omega, by omega, noDiv_of p n ho h1 hn⟩, ?_⟩
  have := noDiv_of (2 * p + 1) k (by omega) h2 hk
  rwa [show ((2 * p + 1 : Nat) : Int) = 2 * (p : Int) + 1 by omega] at this
theorem rsafe_big : rsafe 500000003 = true := rsafe_of 500000003 11180 15811 (by decide) (by decide) (by decide) (by decide +kernel) (by decide) (by decide +kernel) (by decide)
end Go.Proofs.YtnahkfchcminpaaGreatDoor
/- Signatures that are made are right, and with another answer they are not: plain. -/
namespace Go.Proofs.YtnahkfchcminpaaGreatDoor
open Go.RowKit
/-- which answers are right -/
theorem ver_iff {P : Nat} (h : Grp P) (key nonce : Nat) (text : List UInt8) (S : Nat) (hS : S < P) :
    verF P (gpw P 4 (key : Int) : Int) text (signR P nonce : Int) (S : Int) = (4 ^ S % (2 * P + 1) == 4 ^ signS P key nonce text % (2 * P + 1)) := by
  have e1 := mem_gpw h key
  have e2 := mem_gpw h nonce
  rw [verF, e1, show memZ P (signR P nonce : Int) = true from e2, decide_eq_true (show (0 : Int) ≤ (S : Int) by omega), decide_eq_true (show (S : Int) < (P : Int) by omega)]
  simp only [Bool.true_and]
  rw [Int.toNat_natCast, Int.toNat_natCast, gpw_nat h.three h.four S]
  congr 1
  unfold signS
  generalize chalF P (signR P nonce : Int) (gpw P 4 (key : Int) : Int) text = c
  have hm : 1 < 2 * P + 1 := by have := h.three; omega
  have hp : (gpw P 4 (key : Int)) ^ P % (2 * P + 1) = 1 := by
    rw [gpw_nat h.three h.four]; exact pow_one_pow hm h.four key
  have hr : 4 ^ ((nonce + key * c % P) % P) % (2 * P + 1) = (4 ^ nonce % (2 * P + 1)) * (4 ^ (key * c) % (2 * P + 1)) % (2 * P + 1) := by
    rw [← pow_red hm h.four, pow_mod_add, ← pow_red hm h.four (key * c)]
  rw [hr, signR, gpw_nat h.three h.four nonce, gpw_nat h.three hp, gpw_nat h.three h.four, ← pow_mod_mul]
theorem sign_right {P : Nat} (h : Grp P) (key nonce : Nat) (text : List UInt8) :
    verF P (gpw P 4 (key : Int) : Int) text (signR P nonce : Int) (signS P key nonce text : Int) = true := by
  have hS : signS P key nonce text < P := Nat.mod_lt _ (by have := h.three; omega)
  rw [ver_iff h key nonce text _ hS]
  simp
theorem sign_other {P : Nat} (h : Grp P) (key nonce : Nat) (text : List UInt8) (b : Nat) (hb : b < P) :
    verF P (gpw P 4 (key : Int) : Int) text (signR P nonce : Int) (((signS P key nonce text + b) % P : Nat) : Int) = (b == 0) := by
  have hP := h.three
  rw [ver_iff h key nonce text _ (Nat.mod_lt _ (by omega)), Bool.eq_iff_iff, beq_iff_eq, beq_iff_eq]
  have hS : signS P key nonce text < P := Nat.mod_lt _ (by omega)
  constructor
  · intro h1
    have h2 := pow_shift h hS h1
    rcases Nat.eq_zero_or_pos b with h0 | h0
    · exact h0
    · exact absurd h2 (pow_ne_one (by omega) h.prime (by rw [Nat.mod_eq_of_lt (by omega)]; decide) h.four h0 hb)
  · rintro rfl
    rw [Nat.add_zero, Nat.mod_eq_of_lt hS]
end Go.Proofs.YtnahkfchcminpaaGreatDoor
/- The play's safe primes: plain. No program in sight. -/
namespace Go.Proofs.YtnahkfchcminpaaGreatDoor
def safesL : List Int := [11, 23, 500000003, 29, 53, 83]
end Go.Proofs.YtnahkfchcminpaaGreatDoor
/- The play's safe primes. -/
namespace Go.Proofs.YtnahkfchcminpaaGreatDoor
open Go.RowKit
set_option maxRecDepth 100000 in
theorem psafe_walk (db : Nat) (p : Option Addr) (l : List Int) (cap q : Nat) (W w : World) (hE : Env W w db p l cap q) (hR : Rd W p (ints l)) (hdb : W.heap.size ≤ db) (hlen : l.length ≤ 281474976710656) :
    Calls Tryz.prog 16 #[.pointer (some ⟨db, 0, none⟩)] w fun e w' => e = .returned (.int .i64 (ofF l q safesL)) ∧ Env W w' db p l cap (dnxt l q) := by
  have hE5 := hE.keep ((Below.refl _ _).alloc (Nat.le_refl _) (.cells #[.int .i64 11, .int .i64 23, .int .i64 500000003, .int .i64 29, .int .i64 53, .int .i64 83] 3))
  have hX : Rd (w.alloc (.cells #[.int .i64 11, .int .i64 23, .int .i64 500000003, .int .i64 29, .int .i64 53, .int .i64 83] 3)) (some ⟨w.heap.size, 0, none⟩) (ints safesL) := Rd.mk fun j u hj => by rw [Nat.zero_add, World.cell?_alloc_at _ _ _ _ rfl]; simpa [ints, safesL] using hj
  have K1 : Hid (Calls Tryz.prog 19 #[.pointer (some ⟨db, 0, none⟩), .slice (some ⟨w.heap.size, 0, none⟩) 6 6] (w.alloc (.cells #[.int .i64 11, .int .i64 23, .int .i64 500000003, .int .i64 29, .int .i64 53, .int .i64 83] 3)) fun e w' => e = .returned (.int .i64 (ofF l q safesL)) ∧ (Dice w' db p l cap (dnxt l q) ∧ (w.alloc (.cells #[.int .i64 11, .int .i64 23, .int .i64 500000003, .int .i64 29, .int .i64 53, .int .i64 83] 3)).grownBy w' (some db))) := Lib.hid (of_walk db p l cap q w.heap.size safesL 6 _ hE5.dice hE5.rd (rd_ne hR hdb) hlen hX (by have := hE.dice.lt; omega) (by decide) (by decide))
  have HE := Lib.hid hE5
  have HN := Lib.hid (rd_ne hR hdb)
  clear hE hE5 hX hR
  go_enter Tryz.func16, Tryz.ntmps16
  go_wp2_with (go_at_call 19; (with_reducible refine K1.out.mono ?_))
  rintro e w1 ⟨rfl, hD, hg⟩
  have HF := Lib.hid (HE.out.grown HN.out hdb hD hg)
  clear K1 hD hg
  go_wp2
  go_ret
  exact ⟨rfl, HF.out⟩
theorem psafe_small (p : Nat) (h3 : 11 ≤ p) (hb : p ≤ 500000003) (hs : safeK p = true) : safeP (p : Int) = true := safeP_of (by omega) (by omega) hs
theorem safes_ok : ∀ x ∈ safesL, ∃ p : Nat, x = (p : Int) ∧ safeP (p : Int) = true ∧ 11 ≤ p ∧ p ≤ 500000003 := by
  intro x hx
  simp only [safesL, List.mem_cons, List.not_mem_nil, or_false] at hx
  rcases hx with rfl | rfl | rfl | rfl | rfl | rfl
  · exact ⟨11, rfl, psafe_small 11 (by decide) (by decide) (by decide +kernel), by decide, by decide⟩
  · exact ⟨23, rfl, psafe_small 23 (by decide) (by decide) (by decide +kernel), by decide, by decide⟩
  · exact ⟨500000003, rfl, safeP_big, by decide, by decide⟩
  · exact ⟨29, rfl, psafe_small 29 (by decide) (by decide) (by decide +kernel), by decide, by decide⟩
  · exact ⟨53, rfl, psafe_small 53 (by decide) (by decide) (by decide +kernel), by decide, by decide⟩
  · exact ⟨83, rfl, psafe_small 83 (by decide) (by decide) (by decide +kernel), by decide, by decide⟩
end Go.Proofs.YtnahkfchcminpaaGreatDoor
