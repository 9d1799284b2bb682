/- Safe primes: the reference's test. -/
import Derived.Test.YtipoljcgfcjlnaaGreatDoorGNoDiv
import Derived.Test.YtipoljcgfcjlnaaGreatDoorGHandG
import Derived.Test.YtipoljcgfcjlnaaGreatDoorGWitD
namespace Go.Proofs.YtipoljcgfcjlnaaGreatDoor
open Go.RowKit
theorem rsafe_of (p n k : Nat) (h3 : 3 ≤ p) (h30 : p ≤ 1073741824) (ho : p % 2 = 1) (h1 : tryF p 2 n 3 = true) (hn : p < (3 + 2 * n) * (3 + 2 * n)) (h2 : tryF (2 * p + 1) 2 k 3 = true) (hk : 2 * p + 1 < (3 + 2 * k) * (3 + 2 * k)) : rsafe (p : Int) = true := by
  rw [rsafe_iff, rvalid_iff]
  refine ⟨by omega, ⟨by omega, by omega, noDiv_of p n ho h1 hn⟩, ?_⟩
  have := noDiv_of (2 * p + 1) k (by omega) h2 hk
  rwa [show ((2 * p + 1 : Nat) : Int) = 2 * (p : Int) + 1 by omega] at this
theorem rsafe_big : rsafe 500000003 = true := rsafe_of 500000003 11180 15811 (by decide) (by decide) (by decide) (by decide +kernel) (by decide) (by decide +kernel) (by decide)
end Go.Proofs.YtipoljcgfcjlnaaGreatDoor
/- The group of a safe prime: plain; the program's test can be reckoned. -/
namespace Go.Proofs.YtipoljcgfcjlnaaGreatDoor
open Go.RowKit
/-! ### The program's test, so that it can be reckoned -/
def passK (m b : Nat) : Bool :=
  let x := fpow m 40 1 (b % m) (odF 32 (m - 1) 0).1
  x == 1 || sqH m ((odF 32 (m - 1) 0).2 - 1) x
def primeK (m : Nat) : List Nat → Bool
  | [] => true
  | b :: bs => (m == b || (m % b != 0 && passK m b)) && primeK m bs
theorem passK_eq (m b : Nat) (h1 : 2 ≤ m) (hm : m ≤ 2147483649) : passH m b = passK m b := by
  have ho := (odF_pos 32 (m - 1) 0 (by omega)).2
  unfold passH passK
  rw [pow_eval m (b % m) _ (by omega)]
theorem primeK_eq (m : Nat) (h1 : 2 ≤ m) (hm : m ≤ 2147483649) : ∀ l, primeH m l = primeK m l
  | [] => rfl
  | b :: l => by rw [primeH, primeK, passK_eq m b h1 hm, primeK_eq m h1 hm l]
def safeK (p : Nat) : Bool := validP (p : Int) && primeK (2 * p + 1) basesN
theorem safeP_of {p : Nat} (h3 : 3 ≤ p) (h30 : p ≤ 1073741824) (h : safeK p = true) : safeP (p : Int) = true := by
  rw [safeK, Bool.and_eq_true] at h
  rw [safeP, h.1, decide_eq_true (by omega), show (2 * (p : Int) + 1).toNat = 2 * p + 1 by omega, primeK_eq _ (by omega) (by omega), h.2]
  rfl
theorem safeP_big : safeP 500000003 = true := safeP_of (p := 500000003) (by decide) (by decide) (by decide +kernel)
theorem prime_big : PrimeP 500000003 := primeP_of (by decide) (noDiv_of 500000003 11180 (by decide) (by decide +kernel) (by decide))
/-- 4 has an order that divides the prime -/
structure Grp (P : Nat) : Prop where
  three : 3 ≤ P
  four : 4 ^ P % (2 * P + 1) = 1
  prime : PrimeP P
theorem gpw_nat {P x : Nat} (hP : 3 ≤ P) (hx : x ^ P % (2 * P + 1) = 1) (k : Nat) : gpw P x (k : Int) = x ^ k % (2 * P + 1) := by
  rw [gpw, ← Int.natCast_emod, Int.toNat_natCast, ← pow_red (by omega) hx]
theorem pow_one_pow {m x P : Nat} (hm : 1 < m) (hx : x ^ P % m = 1) (k : Nat) : (x ^ k % m) ^ P % m = 1 := by
  rw [← Nat.pow_mod, ← Nat.pow_mul, Nat.mul_comm, pow_mod_mul, hx, Nat.one_pow, Nat.mod_eq_of_lt hm]
theorem pow_pos_mod {m x P : Nat} (hm : 1 < m) (h0 : 0 < P) (hx : x ^ P % m = 1) (k : Nat) : 0 < x ^ k % m := by
  rcases Nat.eq_zero_or_pos (x ^ k % m) with h | h
  · have := pow_one_pow hm hx k
    rw [h, Nat.zero_pow h0, Nat.zero_mod] at this
    omega
  · exact h
theorem memH_pow {P x : Nat} (hP : 3 ≤ P) (hx : x ^ P % (2 * P + 1) = 1) (k : Nat) : memH P (x ^ k % (2 * P + 1)) = true := by
  rw [memH, decide_eq_true (pow_pos_mod (by omega) (by omega) hx k), decide_eq_true (Nat.mod_lt _ (by omega)), pow_one_pow (by omega) hx k]
  rfl
theorem memZ_nat {P x : Nat} (h : memH P x = true) : memZ P (x : Int) = true := by
  have h' := h
  rw [memH, Bool.and_eq_true, decide_eq_true_eq] at h'
  rw [memZ, Int.toNat_natCast, h, decide_eq_true (by omega)]
  rfl
theorem mem_gpw {P : Nat} (h : Grp P) (k : Nat) : memZ P (gpw P 4 (k : Int) : Int) = true := by
  rw [gpw_nat h.three h.four]
  exact memZ_nat (memH_pow h.three h.four k)
theorem pow_shift {P : Nat} (h : Grp P) {S b : Nat} (hS : S < P) (h1 : 4 ^ ((S + b) % P) % (2 * P + 1) = 4 ^ S % (2 * P + 1)) : 4 ^ b % (2 * P + 1) = 1 := by
  have hm : 1 < 2 * P + 1 := by have := h.three; omega
  rw [← pow_red hm h.four] at h1
  have e : 4 ^ (P - S) * 4 ^ (S + b) % (2 * P + 1) = 4 ^ (P - S) * 4 ^ S % (2 * P + 1) := by rw [Nat.mul_mod, h1, ← Nat.mul_mod]
  rw [← Nat.pow_add, ← Nat.pow_add, show P - S + (S + b) = P + b by omega, show P - S + S = P by omega, h.four, pow_mod_add, h.four, Nat.one_mul, Nat.mod_mod] at e
  exact e
theorem grp_of (P : Nat) (h3 : 3 ≤ P) (h40 : P < 2 ^ 40) (h4 : fpow (2 * P + 1) 40 1 4 P = 1) (hp : PrimeP P) : Grp P := ⟨h3, by rw [pow_eval _ _ _ h40]; exact h4, hp⟩
theorem grp_big : Grp 500000003 := grp_of 500000003 (by decide) (by decide) (by decide +kernel) prime_big
end Go.Proofs.YtipoljcgfcjlnaaGreatDoor
/- Signatures that are made are right, and with another answer they are not: plain. -/
namespace Go.Proofs.YtipoljcgfcjlnaaGreatDoor
open Go.RowKit
/-- which answers are right -/
theorem ver_iff {P : Nat} (h : Grp P) (key nonce : Nat) (text : List UInt8) (S : Nat) (hS : S < P) :
    verF P (gpw P 4 (key : Int) : Int) text (signR P nonce : Int) (S : Int) = (4 ^ S % (2 * P + 1) == 4 ^ signS P key nonce text % (2 * P + 1)) := by
  have e1 := mem_gpw h key
  have e2 := mem_gpw h nonce
  rw [verF, e1, show memZ P (signR P nonce : Int) = true from e2, decide_eq_true (show (0 : Int) ≤ (S : Int) by omega), decide_eq_true (show (S : Int) < (P : Int) by omega)]
  simp only [Bool.true_and]
  rw [Int.toNat_natCast, Int.toNat_natCast, gpw_nat h.three h.four S]
  congr 1
  unfold signS
  generalize chalF P (signR P nonce : Int) (gpw P 4 (key : Int) : Int) text = c
  have hm : 1 < 2 * P + 1 := by have := h.three; omega
  have hp : (gpw P 4 (key : Int)) ^ P % (2 * P + 1) = 1 := by
    rw [gpw_nat h.three h.four]; exact pow_one_pow hm h.four key
  have hr : 4 ^ ((nonce + key * c % P) % P) % (2 * P + 1) = (4 ^ nonce % (2 * P + 1)) * (4 ^ (key * c) % (2 * P + 1)) % (2 * P + 1) := by
    rw [← pow_red hm h.four, pow_mod_add, ← pow_red hm h.four (key * c)]
  rw [hr, signR, gpw_nat h.three h.four nonce, gpw_nat h.three hp, gpw_nat h.three h.four, ← pow_mod_mul]
theorem sign_right {P : Nat} (h : Grp P) (key nonce : Nat) (text : List UInt8) :
    verF P (gpw P 4 (key : Int) : Int) text (signR P nonce : Int) (signS P key nonce text : Int) = true := by
  have hS : signS P key nonce text < P := Nat.mod_lt _ (by have := h.three; omega)
  rw [ver_iff h key nonce text _ hS]
  simp
theorem sign_other {P : Nat} (h : Grp P) (key nonce : Nat) (text : List UInt8) (b : Nat) (hb : b < P) :
    verF P (gpw P 4 (key : Int) : Int) text (signR P nonce : Int) (((signS P key nonce text + b) % P : Nat) : Int) = (b == 0) := by
  have hP := h.three
  rw [ver_iff h key nonce text _ (Nat.mod_lt _ (by omega)), Bool.eq_iff_iff, beq_iff_eq, beq_iff_eq]
  have hS : signS P key nonce text < P := Nat.mod_lt _ (by omega)
  constructor
  · intro h1
    have h2 := pow_shift h hS h1
    rcases Nat.eq_zero_or_pos b with h0 | h0
    · exact h0
    · exact absurd h2 (pow_ne_one (by omega) h.prime (by rw [Nat.mod_eq_of_lt (by omega)]; decide) h.four h0 hb)
  · rintro rfl
    rw [Nat.add_zero, Nat.mod_eq_of_lt hS]
end Go.Proofs.YtipoljcgfcjlnaaGreatDoor
/- Stamps of a witness: the law's sanity check. -/
namespace Go.Proofs.YtipoljcgfcjlnaaGreatDoor
open Go.RowKit
/-- a stamp that is made -/
def stampF (key nonce : Nat) (h : Head) (seen : Int) : Stm := ⟨h, seen, (gpw 500000003 4 (key : Int) : Int), (signR 500000003 nonce : Int), (signS 500000003 key nonce (wtextF h seen) : Int)⟩
theorem stampF_right (key nonce : Nat) (h : Head) (seen : Int) (hs : h.time ≤ seen) : wrightF 500000003 (stampF key nonce h seen) = true := by
  rw [wrightF, verP, safeP_big]
  show (decide (h.time ≤ seen) && (true && verF 500000003 _ (wtextF h seen) _ _)) = true
  rw [decide_eq_true hs, Bool.true_and, Bool.true_and]
  exact sign_right grp_big key nonce (wtextF h seen)
theorem stamp_made (key nonce : Nat) (h : Head) (seen : Int) (w : World) (hB : Bases w) (hI : h.In) (hsn : I64 seen) (hs : h.time ≤ seen) (hky : 1 ≤ key) (hkp : key < 500000003) (hn : 1 ≤ nonce) (hnp : nonce < 500000003) :
    Calls Tryz.prog 11 #[.int .i64 500000003, .int .i64 (key : Int), .int .i64 (nonce : Int), h.val, .int .i64 seen] w fun e w' => e = .returned (.tuple #[(stampF key nonce h seen).val, .int .i64 0]) ∧ Below w.heap.size w w' :=
  wstamp_yes 500000003 key nonce h seen w hB hI hsn hs safeP_big hky hkp hn hnp
theorem stampF_in (key nonce : Nat) (h : Head) (seen : Int) (hI : h.In) (hs : I64 seen) : (stampF key nonce h seen).In := ⟨hI, hs⟩
theorem small_head (n t : Int) (l r : List UInt8) (hn : 0 ≤ n ∧ n ≤ 100) (ht : 0 ≤ t ∧ t ≤ 100) (hl : l.length ≤ 1000) (hr : r.length ≤ 1000) : Head.In ⟨n, l, r, t⟩ :=
  ⟨⟨by dsimp only; omega, by dsimp only; omega⟩, ⟨by dsimp only; omega, by dsimp only; omega⟩, hl, hr⟩
set_option maxRecDepth 100000 in
set_option maxHeartbeats 2000000 in
theorem awake21_walk (w : World) (hB : Bases w) :
    Calls Tryz.prog 5 #[] w fun e w' => e = .returned (.bool true) ∧ Below w.heap.size w w' := by
  have i1 : Head.In ⟨3, [], [97], 0⟩ := small_head 3 0 [] [97] (by omega) (by omega) (by decide) (by decide)
  have i2 : Head.In ⟨3, [], [98], 0⟩ := small_head 3 0 [] [98] (by omega) (by omega) (by decide) (by decide)
  have s9 : I64 9 := ⟨by omega, by omega⟩
  have k1 : ∀ V, Bases V → Calls Tryz.prog 11 #[.int .i64 500000003, .int .i64 5, .int .i64 7, .agg #[.int .i64 3, .string ⟨#[]⟩, .string ⟨#[97]⟩, .int .i64 0], .int .i64 9] V fun e w' => e = .returned (.tuple #[(stampF 5 7 ⟨3, [], [97], 0⟩ 9).val, .int .i64 0]) ∧ Below V.heap.size V w' := fun V hV => stamp_made 5 7 ⟨3, [], [97], 0⟩ 9 V hV i1 s9 (by show (0 : Int) ≤ 9; omega) (by omega) (by omega) (by omega) (by omega)
  have k2 : ∀ V, Bases V → Calls Tryz.prog 11 #[.int .i64 500000003, .int .i64 5, .int .i64 8, .agg #[.int .i64 3, .string ⟨#[]⟩, .string ⟨#[98]⟩, .int .i64 0], .int .i64 9] V fun e w' => e = .returned (.tuple #[(stampF 5 8 ⟨3, [], [98], 0⟩ 9).val, .int .i64 0]) ∧ Below V.heap.size V w' := fun V hV => stamp_made 5 8 ⟨3, [], [98], 0⟩ 9 V hV i2 s9 (by show (0 : Int) ≤ 9; omega) (by omega) (by omega) (by omega) (by omega)
  have r1 := stampF_right 5 7 ⟨3, [], [97], 0⟩ 9 (by show (0 : Int) ≤ 9; omega)
  have r2 := stampF_right 5 8 ⟨3, [], [98], 0⟩ 9 (by show (0 : Int) ≤ 9; omega)
  have f1 : wfollowsF (stampF 5 7 ⟨3, [], [97], 0⟩ 9) (stampF 5 8 ⟨3, [], [98], 0⟩ 9) = false := by simp [wfollowsF, stampF, headEq]
  have f2 : wfollowsF (stampF 5 8 ⟨3, [], [98], 0⟩ 9) (stampF 5 7 ⟨3, [], [97], 0⟩ 9) = false := by simp [wfollowsF, stampF, headEq]
  have ct : wcontraF 500000003 (stampF 5 7 ⟨3, [], [97], 0⟩ 9) (stampF 5 8 ⟨3, [], [98], 0⟩ 9) = true := by
    rw [wcontraF, r1, r2, f1, f2]
    simp [stampF]
  have j1 := stampF_in 5 7 ⟨3, [], [97], 0⟩ 9 i1 s9
  have j2 := stampF_in 5 8 ⟨3, [], [98], 0⟩ 9 i2 s9
  generalize stampF 5 7 ⟨3, [], [97], 0⟩ 9 = a at *
  generalize stampF 5 8 ⟨3, [], [98], 0⟩ 9 = b at *
  have k3 : ∀ V, Bases V → Calls Tryz.prog 13 #[.int .i64 500000003, a.val] V fun e w' => e = .returned (.bool true) ∧ Below V.heap.size V w' := fun V hV => by rw [← r1]; exact wright_walk 500000003 a V hV j1
  have k4 : ∀ V, Bases V → Calls Tryz.prog 21 #[.int .i64 500000003, a.val, b.val] V fun e w' => e = .returned (.bool true) ∧ Below V.heap.size V w' := fun V hV => by rw [← ct]; exact wcontra_walk 500000003 a b V hV j1 j2
  have k5 : ∀ V, Calls Tryz.prog 19 #[a.val, b.val] V fun e w' => e = .returned (.bool false) ∧ Below V.heap.size V w' := fun V => by rw [← f1]; exact wfollows_walk a b V
  have K1 := Lib.hid k1
  have K2 := Lib.hid k2
  have K3 := Lib.hid k3
  have K4 := Lib.hid k4
  have K5 := Lib.hid k5
  have HB := Lib.hid hB
  clear k1 k2 k3 k4 k5 hB i1 i2 s9 r1 r2 f1 f2 ct j1 j2
  obtain ⟨⟨n, l, r, t⟩, sn, key, sr, ss⟩ := a
  obtain ⟨⟨n', l', r', t'⟩, sn', key', sr', ss'⟩ := b
  go_enter Tryz.func5, Tryz.ntmps5
  go_wp2_with (go_at_call 11; (with_reducible refine (K1.out _ HB.out).mono ?_))
  rintro e w1 ⟨rfl, hb1⟩
  have hka := Bx.new w1 28 (Stm.cells ⟨⟨n, l, r, t⟩, sn, key, sr, ss⟩)
  have hb2 := hb1.alloc hb1.size (stmB ⟨⟨n, l, r, t⟩, sn, key, sr, ss⟩)
  have HB1 := Lib.hid (HB.out.keep hb2)
  clear hb1 HB
  go_wp2_with (go_at_call 11; (with_reducible refine (K2.out _ HB1.out).mono ?_))
  rintro e w2 ⟨rfl, hb1⟩
  replace hka := (hka.keep hb1).alloc (stmB ⟨⟨n', l', r', t'⟩, sn', key', sr', ss'⟩)
  have hkb := Bx.new w2 28 (Stm.cells ⟨⟨n', l', r', t'⟩, sn', key', sr', ss'⟩)
  have hb3 := hb1.alloc hb1.size (stmB ⟨⟨n', l', r', t'⟩, sn', key', sr', ss'⟩)
  have HB2 := Lib.hid (HB1.out.keep hb3)
  replace hb2 := hb2.trans (hb3.mono hb2.size)
  clear hb1 hb3 HB1
  go_upto_region 3 with (fail)
  change Bx (w2.alloc (stmB ⟨⟨n', l', r', t'⟩, sn', key', sr', ss'⟩)) _ _ _ at hkb
  change Bx (w2.alloc (stmB ⟨⟨n', l', r', t'⟩, sn', key', sr', ss'⟩)) _ _ _ at hka
  generalize w2.alloc (stmB ⟨⟨n', l', r', t'⟩, sn', key', sr', ss'⟩) = W at *
  generalize w1.heap.size = g1 at *
  generalize w2.heap.size = g2 at *
  have a0 := hka.cell 0 rfl
  have a1 := hka.cell 1 rfl
  have a2 := hka.cell 2 rfl
  have a3 := hka.cell 3 rfl
  have a4 := hka.cell 4 rfl
  have a5 := hka.cell 5 rfl
  have a6 := hka.cell 6 rfl
  have a7 := hka.cell 7 rfl
  go_wp2_with (go_at_call 13; (with_reducible refine (K3.out _ HB2.out).mono ?_))
  (first | rintro e w3 rfl hb1 | rintro e w3 ⟨rfl, hb1⟩)
  replace hka := hka.keep hb1
  replace hkb := hkb.keep hb1
  replace hb2 := hb2.trans (hb1.mono hb2.size)
  have HB3 := Lib.hid (HB2.out.keep hb1)
  clear hb1 a0 a1 a2 a3 a4 a5 a6 a7 HB2
  have a0 := hka.cell 0 rfl
  have a1 := hka.cell 1 rfl
  have a2 := hka.cell 2 rfl
  have a3 := hka.cell 3 rfl
  have a4 := hka.cell 4 rfl
  have a5 := hka.cell 5 rfl
  have a6 := hka.cell 6 rfl
  have a7 := hka.cell 7 rfl
  have b0 := hkb.cell 0 rfl
  have b1 := hkb.cell 1 rfl
  have b2 := hkb.cell 2 rfl
  have b3 := hkb.cell 3 rfl
  have b4 := hkb.cell 4 rfl
  have b5 := hkb.cell 5 rfl
  have b6 := hkb.cell 6 rfl
  have b7 := hkb.cell 7 rfl
  go_wp2_with (go_at_call 21; (with_reducible refine (K4.out _ HB3.out).mono ?_))
  (first | rintro e w4 rfl hb1 | rintro e w4 ⟨rfl, hb1⟩)
  replace hka := hka.keep hb1
  replace hkb := hkb.keep hb1
  replace hb2 := hb2.trans (hb1.mono hb2.size)
  clear hb1 a0 a1 a2 a3 a4 a5 a6 a7 b0 b1 b2 b3 b4 b5 b6 b7
  have a0 := hka.cell 0 rfl
  have a1 := hka.cell 1 rfl
  have a2 := hka.cell 2 rfl
  have a3 := hka.cell 3 rfl
  have a4 := hka.cell 4 rfl
  have a5 := hka.cell 5 rfl
  have a6 := hka.cell 6 rfl
  have a7 := hka.cell 7 rfl
  have b0 := hkb.cell 0 rfl
  have b1 := hkb.cell 1 rfl
  have b2 := hkb.cell 2 rfl
  have b3 := hkb.cell 3 rfl
  have b4 := hkb.cell 4 rfl
  have b5 := hkb.cell 5 rfl
  have b6 := hkb.cell 6 rfl
  have b7 := hkb.cell 7 rfl
  go_wp2_with (go_at_call 19; (with_reducible refine (K5.out _).mono ?_))
  (first | rintro e w5 rfl hb1 | rintro e w5 ⟨rfl, hb1⟩)
  replace hb2 := hb2.trans (hb1.mono hb2.size)
  go_wp2
  go_ret
  exact ⟨rfl, hb2⟩
end Go.Proofs.YtipoljcgfcjlnaaGreatDoor
