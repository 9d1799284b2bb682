/- The group of a safe prime: which numbers are of it, powers, public numbers. -/
import Derived.Test.YtbjpmkoiabkcbaaGreatDoorGHandC
import Derived.Test.YtbjpmkoiabkcbaaGreatDoorGModP
namespace Go.Proofs.YtbjpmkoiabkcbaaGreatDoor
open Go.RowKit
theorem tmod_fix (n p : Int) (hp : 1 ≤ p) : (if n.tmod p < 0 then n.tmod p + p else n.tmod p) = n % p := by
  obtain ⟨h1, h2⟩ := dmod_bd n p hp
  have e : n.tmod p % p = n % p := by
    conv => rhs; rw [← Int.mul_tdiv_add_tmod n p]
    rw [Int.add_comm, Int.add_mul_emod_self_left]
  split
  · rw [← e]
    conv => rhs; rw [← Int.add_emod_right]
    rw [Int.emod_eq_of_lt (by omega) (by omega)]
  · rw [← e, Int.emod_eq_of_lt (by omega) (by omega)]
set_option maxRecDepth 100000 in
theorem modulo_any (p n : Int) (w : World) (hp : 1 ≤ p) (hp2 : p ≤ 1073741824) :
    Calls Tryz.prog 53 #[.int .i64 p, .int .i64 n] w fun e w' => e = .returned (.int .i64 (n % p)) ∧ w = w' := by
  obtain ⟨h1, h2⟩ := dmod_bd n p hp
  have hf := tmod_fix n p hp
  have HF := Lib.hid hf
  clear hf
  by_cases hn : n.tmod p < 0
  · have hr : n.tmod p + p = n % p := by rw [← HF.out, if_pos hn]
    have HR := Lib.hid hr
    clear hr HF
    go_enter Tryz.func53, Tryz.ntmps53
    go_wp2
    go_ret
    exact ⟨ret_int HR.out, rfl⟩
  · have hr : n.tmod p = n % p := by rw [← HF.out, if_neg hn]
    have HR := Lib.hid hr
    clear hr HF
    go_enter Tryz.func53, Tryz.ntmps53
    go_wp2
    go_ret
    exact ⟨ret_int HR.out, rfl⟩
set_option maxRecDepth 100000 in
theorem element_any (p n : Int) (w : World) (hp : 1 ≤ p) (hp2 : p ≤ 1073741824) :
    Calls Tryz.prog 71 #[.int .i64 p, .int .i64 n] w fun e w' => e = .returned (.int .i64 (n % p)) ∧ w = w' := by
  go_enter Tryz.func71, Tryz.ntmps71
  go_wp2_with (go_at_call 53; (with_reducible refine (modulo_any _ _ _ hp hp2).mono ?_))
  rintro e w1 ⟨rfl, rfl⟩
  go_wp2
  go_ret
  exact ⟨rfl, rfl⟩
/-- is of the group -/
def memH (p x : Nat) : Bool := decide (0 < x) && (decide (x < 2 * p + 1) && x ^ p % (2 * p + 1) == 1)
def memZ (p : Nat) (x : Int) : Bool := decide (0 < x) && memH p x.toNat
/-- powers in the group -/
def gpw (p x : Nat) (e : Int) : Nat := x ^ (e % (p : Int)).toNat % (2 * p + 1)
theorem gpw_lt (p x : Nat) (e : Int) : gpw p x e < 2 * p + 1 := Nat.mod_lt _ (by omega)
theorem below_drewN {B : Nat} {w w' : World} (h : Below B w w') (n : Nat) : Below B w (w'.drewN n) := ⟨h.os, h.tape, h.output, h.size, h.block⟩
theorem hstill {P : Program} {f : FuncId} {args : Array Value} {w : World} {n : Nat} {v : Value} (h : Calls P f args (w.drewN n) fun e w' => e = .returned v ∧ w.drewN n = w') :
    Calls P f args (w.drewN n) fun e w'' => e = .returned v ∧ ∃ m, w'' = w.drewN m := h.mono fun _ _ ⟨a, b⟩ => ⟨a, n, b.symm⟩
abbrev grp (p : Nat) : Value := .agg #[.int .i64 (p : Int), .int .i64 ((2 * p + 1 : Nat) : Int)]
set_option maxRecDepth 100000 in
theorem hhas_walk (p : Nat) (x : Int) (w : World) (hp : 1 ≤ p) (hp2 : p ≤ 1073741824) :
    Calls Tryz.prog 67 #[grp p, .int .i64 x] w fun e w' => e = .returned (.bool (memZ p x)) ∧ Below w.heap.size w w' := by
  rcases Int.lt_or_le 0 x with h0 | h0
  · obtain ⟨y, rfl⟩ : ∃ y : Nat, x = (y : Int) := ⟨x.toNat, by omega⟩
    by_cases hy : y < 2 * p + 1
    · have kp : ∀ V, Calls Tryz.prog 70 #[.int .i64 ((2 * p + 1 : Nat) : Int), .int .i64 (y : Int), .int .i64 (p : Int)] V fun e w' => e = .returned (.int .i64 ((y ^ p % (2 * p + 1) : Nat) : Int)) ∧ V = w' := fun V => hpow_walk (2 * p + 1) y p V (by omega) (by omega) hy (by omega)
      have hv : memZ p (y : Int) = (y ^ p % (2 * p + 1) == 1) := by rw [memZ, memH, Int.toNat_natCast, decide_eq_true h0, decide_eq_true (show 0 < y by omega), decide_eq_true hy]; simp
      generalize y ^ p % (2 * p + 1) = z at *
      obtain ⟨m, hm⟩ : ∃ m : Nat, m = 2 * p + 1 := ⟨_, rfl⟩
      rw [grp]
      rw [← hm] at kp hy ⊢
      have KP := Lib.hid kp
      have hz : ((z : Int) == 1) = (z == 1) := by rw [Bool.eq_iff_iff, beq_iff_eq, beq_iff_eq]; omega
      rw [← hz] at hv
      have HV := Lib.hid hv
      clear kp hv hm hz
      go_enter Tryz.func67, Tryz.ntmps67
      go_wp2_with (go_at_call 70; (with_reducible refine (KP.out _).mono ?_))
      rintro e w2 ⟨rfl, rfl⟩
      go_wp2
      go_ret
      refine ⟨ret_bool (HV.out.symm), ?_⟩
      exact (Below.refl _ _).alloc (Nat.le_refl _) _
    · have hv : memZ p (y : Int) = false := by rw [memZ, memH, Int.toNat_natCast, decide_eq_false hy]; simp
      have HV := Lib.hid hv
      obtain ⟨m, hm⟩ : ∃ m : Nat, m = 2 * p + 1 := ⟨_, rfl⟩
      rw [grp]
      rw [← hm] at hy ⊢
      have hy2 : ¬ ((y : Int) < (m : Int)) := by omega
      clear hv hm
      go_enter Tryz.func67, Tryz.ntmps67
      go_wp2
      go_ret
      exact ⟨ret_bool HV.out.symm, (Below.refl _ _).alloc (Nat.le_refl _) _⟩
  · have hv : memZ p x = false := by rw [memZ, decide_eq_false (by omega)]; rfl
    have HV := Lib.hid hv
    clear hv
    go_enter Tryz.func67, Tryz.ntmps67
    go_wp2
    go_ret
    exact ⟨ret_bool HV.out.symm, (Below.refl _ _).alloc (Nat.le_refl _) _⟩
set_option maxRecDepth 100000 in
theorem hgpow_walk (p x : Nat) (e : Int) (w : World) (hp : 1 ≤ p) (hp2 : p ≤ 1073741824) (hx : x < 2 * p + 1) :
    Calls Tryz.prog 51 #[grp p, .int .i64 (x : Int), .int .i64 e] w fun r w' => r = .returned (.int .i64 ((gpw p x e : Nat) : Int)) ∧ Below w.heap.size w w' := by
  have h0 := Int.emod_nonneg e (show (p : Int) ≠ 0 by omega)
  have h1 := Int.emod_lt_of_pos e (show (0 : Int) < (p : Int) by omega)
  have ke : ∀ V, Calls Tryz.prog 71 #[.int .i64 (p : Int), .int .i64 e] V fun e' w' => e' = .returned (.int .i64 (e % (p : Int))) ∧ V = w' := fun V => element_any p e V (by omega) (by omega)
  obtain ⟨k, hk⟩ : ∃ k : Nat, e % (p : Int) = (k : Int) := ⟨(e % (p : Int)).toNat, by omega⟩
  have kp : ∀ V, Calls Tryz.prog 70 #[.int .i64 ((2 * p + 1 : Nat) : Int), .int .i64 (x : Int), .int .i64 (k : Int)] V fun e' w' => e' = .returned (.int .i64 ((gpw p x e : Nat) : Int)) ∧ V = w' := fun V => by
    rw [gpw, hk, Int.toNat_natCast]
    exact hpow_walk (2 * p + 1) x k V (by omega) (by omega) hx (by omega)
  rw [hk] at ke
  generalize gpw p x e = z at *
  obtain ⟨m, hm⟩ : ∃ m : Nat, m = 2 * p + 1 := ⟨_, rfl⟩
  rw [grp]
  rw [← hm] at kp ⊢
  have KP := Lib.hid kp
  have KE := Lib.hid ke
  clear kp ke hm hk h0 h1 hx
  go_enter Tryz.func51, Tryz.ntmps51
  go_wp2
  go_quiet (first | (go_at_call 71; with_reducible exact hstill (KE.out _)) | (go_at_call 70; with_reducible exact hstill (KP.out _)))
  go_wp2
  go_ret
  exact ⟨rfl, below_drewN ((Below.refl _ _).alloc (Nat.le_refl _) _) _⟩
set_option maxRecDepth 100000 in
theorem hPower_walk (p x : Nat) (e : Int) (w : World) (hp : 1 ≤ p) (hp2 : p ≤ 1073741824) (hx : x < 2 * p + 1) :
    Calls Tryz.prog 21 #[.int .i64 (p : Int), .int .i64 (x : Int), .int .i64 e] w fun r w' => r = .returned (.int .i64 ((gpw p x e : Nat) : Int)) ∧ Below w.heap.size w w' := by
  have kp : ∀ V, Calls Tryz.prog 51 #[.agg #[.int .i64 (p : Int), .int .i64 (2 * (p : Int) + 1)], .int .i64 (x : Int), .int .i64 e] V fun r w' => r = .returned (.int .i64 ((gpw p x e : Nat) : Int)) ∧ Below V.heap.size V w' := fun V => by
    have := hgpow_walk p x e V hp hp2 hx
    rw [grp, show ((2 * p + 1 : Nat) : Int) = 2 * (p : Int) + 1 by omega] at this
    exact this
  generalize gpw p x e = z at *
  have KP := Lib.hid kp
  clear kp hx
  go_enter Tryz.func21, Tryz.ntmps21
  go_wp2_with (go_at_call 51; (with_reducible refine (KP.out _).mono ?_))
  rintro e' w1 ⟨rfl, hb⟩
  go_wp2
  go_ret
  exact ⟨rfl, hb⟩
set_option maxRecDepth 100000 in
theorem hof_yes (p : Nat) (w : World) (hB : Bases w) (hs : safeP (p : Int) = true) :
    Calls Tryz.prog 66 #[.int .i64 (p : Int)] w fun e w' => e = .returned (.tuple #[grp p, .bool true]) ∧ Below w.heap.size w w' := by
  have km : ∀ V, Bases V → Calls Tryz.prog 57 #[.int .i64 (p : Int)] V fun e w' => e = .returned (.tuple #[.int .i64 ((2 * p + 1 : Nat) : Int), .bool true]) ∧ V = w' := fun V h => by
    rw [show ((2 * p + 1 : Nat) : Int) = 2 * (p : Int) + 1 by omega]
    exact hmod_yes p V h hs
  obtain ⟨m, hm⟩ : ∃ m : Nat, m = 2 * p + 1 := ⟨_, rfl⟩
  rw [grp]
  rw [← hm] at km ⊢
  have KM := Lib.hid km
  clear km hs hm
  have hb1 := (Below.refl w.heap.size w).alloc (Nat.le_refl _) (.cells #[.int .i64 0, .int .i64 0] 55)
  go_enter Tryz.func66, Tryz.ntmps66
  go_wp2_with (go_at_call 57; (with_reducible refine (KM.out _ (hB.keep hb1)).mono ?_))
  rintro e w1 ⟨rfl, rfl⟩
  go_wp2
  exact bodyPost_ret (v := .tuple #[.agg #[.int .i64 (p : Int), .int .i64 (m : Int)], .bool true]) (by simp [results, Tryz.results66, go_sem]) rfl ⟨rfl, (Below.refl _ _).alloc (Nat.le_refl _) _⟩
set_option maxRecDepth 100000 in
theorem hof_no (p : Int) (w : World) (hB : Bases w) (hs : safeP p = false) :
    Calls Tryz.prog 66 #[.int .i64 p] w fun e w' => e = .returned (.tuple #[.agg #[.int .i64 p, .int .i64 0], .bool false]) ∧ Below w.heap.size w w' := by
  have km : ∀ V, Bases V → Calls Tryz.prog 57 #[.int .i64 p] V fun e w' => e = .returned (.tuple #[.int .i64 0, .bool false]) ∧ V = w' := fun V h => hmod_no p V h hs
  have KM := Lib.hid km
  clear km hs
  have hb1 := (Below.refl w.heap.size w).alloc (Nat.le_refl _) (.cells #[.int .i64 0, .int .i64 0] 55)
  go_enter Tryz.func66, Tryz.ntmps66
  go_wp2_with (go_at_call 57; (with_reducible refine (KM.out _ (hB.keep hb1)).mono ?_))
  rintro e w1 ⟨rfl, rfl⟩
  go_wp2
  exact bodyPost_ret (v := .tuple #[.agg #[.int .i64 p, .int .i64 0], .bool false]) (by simp [results, Tryz.results66, go_sem]) rfl ⟨rfl, (Below.refl _ _).alloc (Nat.le_refl _) _⟩
end Go.Proofs.YtbjpmkoiabkcbaaGreatDoor
/- The group of a safe prime: plain; the program's test can be reckoned. -/
namespace Go.Proofs.YtbjpmkoiabkcbaaGreatDoor
open Go.RowKit
/-! ### The program's test, so that it can be reckoned -/
def passK (m b : Nat) : Bool :=
  let x := fpow m 40 1 (b % m) (odF 32 (m - 1) 0).1
  x == 1 || sqH m ((odF 32 (m - 1) 0).2 - 1) x
def primeK (m : Nat) : List Nat → Bool
  | [] => true
  | b :: bs => (m == b || (m % b != 0 && passK m b)) && primeK m bs
theorem passK_eq (m b : Nat) (h1 : 2 ≤ m) (hm : m ≤ 2147483649) : passH m b = passK m b := by
  have ho := (odF_pos 32 (m - 1) 0 (by omega)).2
  unfold passH passK
  rw [pow_eval m (b % m) _ (by omega)]
theorem primeK_eq (m : Nat) (h1 : 2 ≤ m) (hm : m ≤ 2147483649) : ∀ l, primeH m l = primeK m l
  | [] => rfl
  | b :: l => by rw [primeH, primeK, passK_eq m b h1 hm, primeK_eq m h1 hm l]
def safeK (p : Nat) : Bool := validP (p : Int) && primeK (2 * p + 1) basesN
theorem safeP_of {p : Nat} (h3 : 3 ≤ p) (h30 : p ≤ 1073741824) (h : safeK p = true) : safeP (p : Int) = true := by
  rw [safeK, Bool.and_eq_true] at h
  rw [safeP, h.1, decide_eq_true (by omega), show (2 * (p : Int) + 1).toNat = 2 * p + 1 by omega, primeK_eq _ (by omega) (by omega), h.2]
  rfl
theorem safeP_big : safeP 500000003 = true := safeP_of (p := 500000003) (by decide) (by decide) (by decide +kernel)
theorem prime_big : PrimeP 500000003 := primeP_of (by decide) (noDiv_of 500000003 11180 (by decide) (by decide +kernel) (by decide))
/-- 4 has an order that divides the prime -/
structure Grp (P : Nat) : Prop where
  three : 3 ≤ P
  four : 4 ^ P % (2 * P + 1) = 1
  prime : PrimeP P
theorem gpw_nat {P x : Nat} (hP : 3 ≤ P) (hx : x ^ P % (2 * P + 1) = 1) (k : Nat) : gpw P x (k : Int) = x ^ k % (2 * P + 1) := by
  rw [gpw, ← Int.natCast_emod, Int.toNat_natCast, ← pow_red (by omega) hx]
theorem pow_one_pow {m x P : Nat} (hm : 1 < m) (hx : x ^ P % m = 1) (k : Nat) : (x ^ k % m) ^ P % m = 1 := by
  rw [← Nat.pow_mod, ← Nat.pow_mul, Nat.mul_comm, pow_mod_mul, hx, Nat.one_pow, Nat.mod_eq_of_lt hm]
theorem pow_pos_mod {m x P : Nat} (hm : 1 < m) (h0 : 0 < P) (hx : x ^ P % m = 1) (k : Nat) : 0 < x ^ k % m := by
  rcases Nat.eq_zero_or_pos (x ^ k % m) with h | h
  · have := pow_one_pow hm hx k
    rw [h, Nat.zero_pow h0, Nat.zero_mod] at this
    omega
  · exact h
theorem memH_pow {P x : Nat} (hP : 3 ≤ P) (hx : x ^ P % (2 * P + 1) = 1) (k : Nat) : memH P (x ^ k % (2 * P + 1)) = true := by
  rw [memH, decide_eq_true (pow_pos_mod (by omega) (by omega) hx k), decide_eq_true (Nat.mod_lt _ (by omega)), pow_one_pow (by omega) hx k]
  rfl
theorem memZ_nat {P x : Nat} (h : memH P x = true) : memZ P (x : Int) = true := by
  have h' := h
  rw [memH, Bool.and_eq_true, decide_eq_true_eq] at h'
  rw [memZ, Int.toNat_natCast, h, decide_eq_true (by omega)]
  rfl
theorem mem_gpw {P : Nat} (h : Grp P) (k : Nat) : memZ P (gpw P 4 (k : Int) : Int) = true := by
  rw [gpw_nat h.three h.four]
  exact memZ_nat (memH_pow h.three h.four k)
theorem pow_shift {P : Nat} (h : Grp P) {S b : Nat} (hS : S < P) (h1 : 4 ^ ((S + b) % P) % (2 * P + 1) = 4 ^ S % (2 * P + 1)) : 4 ^ b % (2 * P + 1) = 1 := by
  have hm : 1 < 2 * P + 1 := by have := h.three; omega
  rw [← pow_red hm h.four] at h1
  have e : 4 ^ (P - S) * 4 ^ (S + b) % (2 * P + 1) = 4 ^ (P - S) * 4 ^ S % (2 * P + 1) := by rw [Nat.mul_mod, h1, ← Nat.mul_mod]
  rw [← Nat.pow_add, ← Nat.pow_add, show P - S + (S + b) = P + b by omega, show P - S + S = P by omega, h.four, pow_mod_add, h.four, Nat.one_mul, Nat.mod_mod] at e
  exact e
theorem grp_of (P : Nat) (h3 : 3 ≤ P) (h40 : P < 2 ^ 40) (h4 : fpow (2 * P + 1) 40 1 4 P = 1) (hp : PrimeP P) : Grp P := ⟨h3, by rw [pow_eval _ _ _ h40]; exact h4, hp⟩
theorem grp_big : Grp 500000003 := grp_of 500000003 (by decide) (by decide) (by decide +kernel) prime_big
end Go.Proofs.YtbjpmkoiabkcbaaGreatDoor
