/- Remainders as the program takes them: plain. No program in sight. -/
import Derived.Test.YtnahkfchcminpaaGreatDoorBase
import Derived.Test.YtnahkfchcminpaaGreatDoorGHandC
import Derived.Test.YtnahkfchcminpaaGreatDoorGModP
namespace Go.Proofs.YtnahkfchcminpaaGreatDoor
open Go.RowKit
theorem dmod_bd (n m : Int) (h1 : 1 ≤ m) : -m < n.tmod m ∧ n.tmod m < m := by
  by_cases h : 0 ≤ n
  · rw [Int.tmod_eq_emod_of_nonneg h]
    have := Int.emod_nonneg n (show m ≠ 0 by omega)
    have := Int.emod_lt_of_pos n (show 0 < m by omega)
    omega
  · rw [show n = -(-n) by omega, Int.neg_tmod, Int.tmod_eq_emod_of_nonneg (by omega)]
    have := Int.emod_nonneg (-n) (show m ≠ 0 by omega)
    have := Int.emod_lt_of_pos (-n) (show 0 < m by omega)
    omega
theorem dmod_eq (n m : Int) (h1 : 1 ≤ m) (h2 : m ≤ 4611686018427387904) : (wrap64 (n.tmod m + m)).tmod m = n % m := by
  obtain ⟨a, b⟩ := dmod_bd n m h1
  rw [IntWalk.wrap64_in _ ⟨by omega, by omega⟩, Int.tmod_eq_emod_of_nonneg (by omega), Int.add_emod_right]
  conv => rhs; rw [← Int.mul_tdiv_add_tmod n m]
  rw [Int.add_comm, Int.add_mul_emod_self_left]
end Go.Proofs.YtnahkfchcminpaaGreatDoor
/- The group of a safe prime: which numbers are of it, powers, public numbers. -/
namespace Go.Proofs.YtnahkfchcminpaaGreatDoor
open Go.RowKit
theorem tmod_fix (n p : Int) (hp : 1 ≤ p) : (if n.tmod p < 0 then n.tmod p + p else n.tmod p) = n % p := by
  obtain ⟨h1, h2⟩ := dmod_bd n p hp
  have e : n.tmod p % p = n % p := by
    conv => rhs; rw [← Int.mul_tdiv_add_tmod n p]
    rw [Int.add_comm, Int.add_mul_emod_self_left]
  split
  · rw [← e]
    conv => rhs; rw [← Int.add_emod_right]
    rw [Int.emod_eq_of_lt (by omega) (by omega)]
  · rw [← e, Int.emod_eq_of_lt (by omega) (by omega)]
set_option maxRecDepth 100000 in
theorem modulo_any (p n : Int) (w : World) (hp : 1 ≤ p) (hp2 : p ≤ 1073741824) :
    Calls Tryz.prog 92 #[.int .i64 p, .int .i64 n] w fun e w' => e = .returned (.int .i64 (n % p)) ∧ w = w' := by
  obtain ⟨h1, h2⟩ := dmod_bd n p hp
  have hf := tmod_fix n p hp
  have HF := Lib.hid hf
  clear hf
  by_cases hn : n.tmod p < 0
  · have hr : n.tmod p + p = n % p := by rw [← HF.out, if_pos hn]
    have HR := Lib.hid hr
    clear hr HF
    go_enter Tryz.func92, Tryz.ntmps92
    go_wp2
    go_ret
    exact ⟨ret_int HR.out, rfl⟩
  · have hr : n.tmod p = n % p := by rw [← HF.out, if_neg hn]
    have HR := Lib.hid hr
    clear hr HF
    go_enter Tryz.func92, Tryz.ntmps92
    go_wp2
    go_ret
    exact ⟨ret_int HR.out, rfl⟩
set_option maxRecDepth 100000 in
theorem element_any (p n : Int) (w : World) (hp : 1 ≤ p) (hp2 : p ≤ 1073741824) :
    Calls Tryz.prog 73 #[.int .i64 p, .int .i64 n] w fun e w' => e = .returned (.int .i64 (n % p)) ∧ w = w' := by
  go_enter Tryz.func73, Tryz.ntmps73
  go_wp2_with (go_at_call 92; (with_reducible refine (modulo_any _ _ _ hp hp2).mono ?_))
  rintro e w1 ⟨rfl, rfl⟩
  go_wp2
  go_ret
  exact ⟨rfl, rfl⟩
/-- is of the group -/
def memH (p x : Nat) : Bool := decide (0 < x) && (decide (x < 2 * p + 1) && x ^ p % (2 * p + 1) == 1)
def memZ (p : Nat) (x : Int) : Bool := decide (0 < x) && memH p x.toNat
/-- powers in the group -/
def gpw (p x : Nat) (e : Int) : Nat := x ^ (e % (p : Int)).toNat % (2 * p + 1)
theorem gpw_lt (p x : Nat) (e : Int) : gpw p x e < 2 * p + 1 := Nat.mod_lt _ (by omega)
theorem below_drewN {B : Nat} {w w' : World} (h : Below B w w') (n : Nat) : Below B w (w'.drewN n) := ⟨h.os, h.tape, h.output, h.size, h.block⟩
theorem hstill {P : Program} {f : FuncId} {args : Array Value} {w : World} {n : Nat} {v : Value} (h : Calls P f args (w.drewN n) fun e w' => e = .returned v ∧ w.drewN n = w') :
    Calls P f args (w.drewN n) fun e w'' => e = .returned v ∧ ∃ m, w'' = w.drewN m := h.mono fun _ _ ⟨a, b⟩ => ⟨a, n, b.symm⟩
abbrev grp (p : Nat) : Value := .agg #[.int .i64 (p : Int), .int .i64 ((2 * p + 1 : Nat) : Int)]
set_option maxRecDepth 100000 in
theorem hhas_walk (p : Nat) (x : Int) (w : World) (hp : 1 ≤ p) (hp2 : p ≤ 1073741824) :
    Calls Tryz.prog 57 #[grp p, .int .i64 x] w fun e w' => e = .returned (.bool (memZ p x)) ∧ Below w.heap.size w w' := by
  rcases Int.lt_or_le 0 x with h0 | h0
  · obtain ⟨y, rfl⟩ : ∃ y : Nat, x = (y : Int) := ⟨x.toNat, by omega⟩
    by_cases hy : y < 2 * p + 1
    · have kp : ∀ V, Calls Tryz.prog 72 #[.int .i64 ((2 * p + 1 : Nat) : Int), .int .i64 (y : Int), .int .i64 (p : Int)] V fun e w' => e = .returned (.int .i64 ((y ^ p % (2 * p + 1) : Nat) : Int)) ∧ V = w' := fun V => hpow_walk (2 * p + 1) y p V (by omega) (by omega) hy (by omega)
      have hv : memZ p (y : Int) = (y ^ p % (2 * p + 1) == 1) := by rw [memZ, memH, Int.toNat_natCast, decide_eq_true h0, decide_eq_true (show 0 < y by omega), decide_eq_true hy]; simp
      generalize y ^ p % (2 * p + 1) = z at *
      obtain ⟨m, hm⟩ : ∃ m : Nat, m = 2 * p + 1 := ⟨_, rfl⟩
      rw [grp]
      rw [← hm] at kp hy ⊢
      have KP := Lib.hid kp
      have hz : ((z : Int) == 1) = (z == 1) := by rw [Bool.eq_iff_iff, beq_iff_eq, beq_iff_eq]; omega
      rw [← hz] at hv
      have HV := Lib.hid hv
      clear kp hv hm hz
      go_enter Tryz.func57, Tryz.ntmps57
      go_wp2_with (go_at_call 72; (with_reducible refine (KP.out _).mono ?_))
      rintro e w2 ⟨rfl, rfl⟩
      go_wp2
      go_ret
      refine ⟨ret_bool (HV.out.symm), ?_⟩
      exact (Below.refl _ _).alloc (Nat.le_refl _) _
    · have hv : memZ p (y : Int) = false := by rw [memZ, memH, Int.toNat_natCast, decide_eq_false hy]; simp
      have HV := Lib.hid hv
      obtain ⟨m, hm⟩ : ∃ m : Nat, m = 2 * p + 1 := ⟨_, rfl⟩
      rw [grp]
      rw [← hm] at hy ⊢
      have hy2 : ¬ ((y : Int) < (m : Int)) := by omega
      clear hv hm
      go_enter Tryz.func57, Tryz.ntmps57
      go_wp2
      go_ret
      exact ⟨ret_bool HV.out.symm, (Below.refl _ _).alloc (Nat.le_refl _) _⟩
  · have hv : memZ p x = false := by rw [memZ, decide_eq_false (by omega)]; rfl
    have HV := Lib.hid hv
    clear hv
    go_enter Tryz.func57, Tryz.ntmps57
    go_wp2
    go_ret
    exact ⟨ret_bool HV.out.symm, (Below.refl _ _).alloc (Nat.le_refl _) _⟩
set_option maxRecDepth 100000 in
theorem hgpow_walk (p x : Nat) (e : Int) (w : World) (hp : 1 ≤ p) (hp2 : p ≤ 1073741824) (hx : x < 2 * p + 1) :
    Calls Tryz.prog 58 #[grp p, .int .i64 (x : Int), .int .i64 e] w fun r w' => r = .returned (.int .i64 ((gpw p x e : Nat) : Int)) ∧ Below w.heap.size w w' := by
  have h0 := Int.emod_nonneg e (show (p : Int) ≠ 0 by omega)
  have h1 := Int.emod_lt_of_pos e (show (0 : Int) < (p : Int) by omega)
  have ke : ∀ V, Calls Tryz.prog 73 #[.int .i64 (p : Int), .int .i64 e] V fun e' w' => e' = .returned (.int .i64 (e % (p : Int))) ∧ V = w' := fun V => element_any p e V (by omega) (by omega)
  obtain ⟨k, hk⟩ : ∃ k : Nat, e % (p : Int) = (k : Int) := ⟨(e % (p : Int)).toNat, by omega⟩
  have kp : ∀ V, Calls Tryz.prog 72 #[.int .i64 ((2 * p + 1 : Nat) : Int), .int .i64 (x : Int), .int .i64 (k : Int)] V fun e' w' => e' = .returned (.int .i64 ((gpw p x e : Nat) : Int)) ∧ V = w' := fun V => by
    rw [gpw, hk, Int.toNat_natCast]
    exact hpow_walk (2 * p + 1) x k V (by omega) (by omega) hx (by omega)
  rw [hk] at ke
  generalize gpw p x e = z at *
  obtain ⟨m, hm⟩ : ∃ m : Nat, m = 2 * p + 1 := ⟨_, rfl⟩
  rw [grp]
  rw [← hm] at kp ⊢
  have KP := Lib.hid kp
  have KE := Lib.hid ke
  clear kp ke hm hk h0 h1 hx
  go_enter Tryz.func58, Tryz.ntmps58
  go_wp2
  go_quiet (first | (go_at_call 73; with_reducible exact hstill (KE.out _)) | (go_at_call 72; with_reducible exact hstill (KP.out _)))
  go_wp2
  go_ret
  exact ⟨rfl, below_drewN ((Below.refl _ _).alloc (Nat.le_refl _) _) _⟩
set_option maxRecDepth 100000 in
theorem hof_yes (p : Nat) (w : World) (hB : Bases w) (hs : safeP (p : Int) = true) :
    Calls Tryz.prog 56 #[.int .i64 (p : Int)] w fun e w' => e = .returned (.tuple #[grp p, .bool true]) ∧ Below w.heap.size w w' := by
  have km : ∀ V, Bases V → Calls Tryz.prog 69 #[.int .i64 (p : Int)] V fun e w' => e = .returned (.tuple #[.int .i64 ((2 * p + 1 : Nat) : Int), .bool true]) ∧ V = w' := fun V h => by
    rw [show ((2 * p + 1 : Nat) : Int) = 2 * (p : Int) + 1 by omega]
    exact hmod_yes p V h hs
  obtain ⟨m, hm⟩ : ∃ m : Nat, m = 2 * p + 1 := ⟨_, rfl⟩
  rw [grp]
  rw [← hm] at km ⊢
  have KM := Lib.hid km
  clear km hs hm
  have hb1 := (Below.refl w.heap.size w).alloc (Nat.le_refl _) (.cells #[.int .i64 0, .int .i64 0] 82)
  go_enter Tryz.func56, Tryz.ntmps56
  go_wp2_with (go_at_call 69; (with_reducible refine (KM.out _ (hB.keep hb1)).mono ?_))
  rintro e w1 ⟨rfl, rfl⟩
  go_wp2
  exact bodyPost_ret (v := .tuple #[.agg #[.int .i64 (p : Int), .int .i64 (m : Int)], .bool true]) (by simp [results, Tryz.results56, go_sem]) rfl ⟨rfl, (Below.refl _ _).alloc (Nat.le_refl _) _⟩
set_option maxRecDepth 100000 in
theorem hof_no (p : Int) (w : World) (hB : Bases w) (hs : safeP p = false) :
    Calls Tryz.prog 56 #[.int .i64 p] w fun e w' => e = .returned (.tuple #[.agg #[.int .i64 p, .int .i64 0], .bool false]) ∧ Below w.heap.size w w' := by
  have km : ∀ V, Bases V → Calls Tryz.prog 69 #[.int .i64 p] V fun e w' => e = .returned (.tuple #[.int .i64 0, .bool false]) ∧ V = w' := fun V h => hmod_no p V h hs
  have KM := Lib.hid km
  clear km hs
  have hb1 := (Below.refl w.heap.size w).alloc (Nat.le_refl _) (.cells #[.int .i64 0, .int .i64 0] 82)
  go_enter Tryz.func56, Tryz.ntmps56
  go_wp2_with (go_at_call 69; (with_reducible refine (KM.out _ (hB.keep hb1)).mono ?_))
  rintro e w1 ⟨rfl, rfl⟩
  go_wp2
  exact bodyPost_ret (v := .tuple #[.agg #[.int .i64 p, .int .i64 0], .bool false]) (by simp [results, Tryz.results56, go_sem]) rfl ⟨rfl, (Below.refl _ _).alloc (Nat.le_refl _) _⟩
end Go.Proofs.YtnahkfchcminpaaGreatDoor
/- Primes by trial division: plain. No program in sight. -/
namespace Go.Proofs.YtnahkfchcminpaaGreatDoor
open Go.RowKit
/-- no divisor from 2 on up to the root -/
def NoDiv (p : Int) : Prop := ∀ d : Int, 2 ≤ d → d * d ≤ p → p % d ≠ 0
noncomputable def rvalid (p : Int) : Bool := @decide (2 ≤ p ∧ p ≤ 1073741824 ∧ NoDiv p) (Classical.propDecidable _)
noncomputable def rsafe (p : Int) : Bool := @decide (3 ≤ p ∧ rvalid p = true ∧ NoDiv (2 * p + 1)) (Classical.propDecidable _)
theorem rvalid_iff (p : Int) : rvalid p = true ↔ 2 ≤ p ∧ p ≤ 1073741824 ∧ NoDiv p := by unfold rvalid; simp
theorem rsafe_iff (p : Int) : rsafe p = true ↔ 3 ≤ p ∧ rvalid p = true ∧ NoDiv (2 * p + 1) := by unfold rsafe; simp
theorem sq_le {d k : Int} (h0 : 0 ≤ d) (h : d ≤ k) : 0 ≤ d * d ∧ d * d ≤ k * k := ⟨Int.mul_nonneg h0 h0, Int.mul_le_mul h h h0 (by omega)⟩
theorem sq_big {d p : Int} (hp : p ≤ 2147483649) (h : d * d ≤ p) : d ≤ 46341 := by
  rcases Int.lt_or_le 46341 d with h1 | h1
  · have := (sq_le (show (0 : Int) ≤ 46342 by omega) (show (46342 : Int) ≤ d by omega)).2
    omega
  · exact h1
theorem sq_bd {d p : Int} (hd : 2 ≤ d) (h : d * d ≤ p) : d < p := by
  have := Int.mul_le_mul_of_nonneg_right (show (2 : Int) ≤ d from hd) (show (0 : Int) ≤ d by omega)
  omega
/-! ### Primes by trial division -/
theorem tryF_all (p s : Nat) : ∀ (n d : Nat), tryF p s n d = true → ∀ k, k < n → p % (d + k * s) ≠ 0
  | 0, _, _, k, hk => by omega
  | n + 1, d, h, k, hk => by
    rw [tryF, Bool.and_eq_true, bne_iff_ne] at h
    cases k with
    | zero => rw [Nat.zero_mul, Nat.add_zero]; exact h.1
    | succ k =>
      have := tryF_all p s n (d + s) h.2 k (by omega)
      rwa [show d + (k + 1) * s = d + s + k * s by rw [Nat.succ_mul]; omega]
theorem noDiv_of (p n : Nat) (ho : p % 2 = 1) (h : tryF p 2 n 3 = true) (hn : p < (3 + 2 * n) * (3 + 2 * n)) : NoDiv (p : Int) := by
  intro d hd hle hz
  obtain ⟨e, rfl⟩ : ∃ e : Nat, d = (e : Int) := ⟨d.toNat, by omega⟩
  have hz' : p % e = 0 := by omega
  have hdv : e ∣ p := Nat.dvd_of_mod_eq_zero hz'
  have hle' : e * e ≤ p := by
    rw [← Int.natCast_mul] at hle; omega
  have heo : e % 2 = 1 := by
    rcases Nat.mod_two_eq_zero_or_one e with h2 | h2
    · have := Nat.dvd_trans (Nat.dvd_of_mod_eq_zero h2) hdv
      omega
    · exact h2
  have hlt : e < 3 + 2 * n := by
    rcases Nat.lt_or_ge e (3 + 2 * n) with h1 | h1
    · exact h1
    · have := Nat.mul_le_mul h1 h1; omega
  have := tryF_all p 2 n 3 h ((e - 3) / 2) (by omega)
  rw [show 3 + (e - 3) / 2 * 2 = e by omega] at this
  exact this hz'
theorem primeP_of {p : Nat} (h2 : 2 ≤ p) (h : NoDiv (p : Int)) : PrimeP p := by
  have key : ∀ e : Nat, 2 ≤ e → e * e ≤ p → ¬ e ∣ p := by
    intro e he hle hd
    have := h (e : Int) (by omega) (by rw [← Int.natCast_mul]; omega)
    have hz := Nat.mod_eq_zero_of_dvd hd
    omega
  refine ⟨h2, fun d hd => ?_⟩
  obtain ⟨c, hc⟩ := hd
  rcases Nat.lt_or_ge d 2 with hd2 | hd2
  · have : d ≠ 0 := by rintro rfl; simp at hc; omega
    omega
  rcases Nat.lt_or_ge c 2 with hc2 | hc2
  · have : c ≠ 0 := by rintro rfl; simp at hc; omega
    obtain rfl : c = 1 := by omega
    omega
  exfalso
  rcases Nat.le_total d c with hdc | hdc
  · exact key d hd2 (by rw [hc]; exact Nat.mul_le_mul_left d hdc) ⟨c, hc⟩
  · exact key c hc2 (by rw [hc]; exact Nat.mul_le_mul_right c hdc) ⟨d, by rw [hc, Nat.mul_comm]⟩
end Go.Proofs.YtnahkfchcminpaaGreatDoor
/- The reference's groups: trial division, powers. -/
namespace Go.Proofs.YtnahkfchcminpaaGreatDoor
open Go.RowKit
set_option maxRecDepth 100000 in
theorem rvalid_walk (p : Int) (w : World) :
    Calls Tryz.prog 52 #[.int .i64 p] w fun e w' => e = .returned (.bool (rvalid p)) ∧ w = w' := by
  by_cases h1 : 2 ≤ p ∧ p ≤ 1073741824
  · obtain ⟨h2, h3⟩ := h1
    obtain ⟨v, hv⟩ : ∃ v, rvalid p = v := ⟨_, rfl⟩
    have HV := Lib.hid hv
    rw [hv]
    clear hv
    go_enter Tryz.func52, Tryz.ntmps52
    go_wp2
    go_loopw [3] (fun u wr => ∃ (d : Int), wr = w ∧ u = .int .i64 d ∧ 2 ≤ d ∧ d ≤ 46342 ∧ Hid (∀ d' : Int, 2 ≤ d' → d' < d → p % d' ≠ 0)) (fun u _ => (p - intOf u).toNat)
    case atStart => exact ⟨2, rfl, rfl, by omega, by omega, fun d' a b => by omega⟩
    case round =>
      obtain ⟨d, rfl, rfl, hd, hd6, HN⟩ := hrel
      obtain ⟨q0, q1⟩ := sq_le (show 0 ≤ d by omega) hd6
      have q2 : d * d < 9223372036854775808 := by omega
      have hm1 := Int.emod_nonneg p (show d ≠ 0 by omega)
      clear q1
      by_cases hle : d * d ≤ p
      · have hdp := sq_bd hd hle
        have hd5 := sq_big (by omega) hle
        by_cases hz : p % d = 0
        · have hr : v = false := by
            rw [← HV.out, Bool.eq_false_iff, ne_eq, rvalid_iff]
            rintro ⟨-, -, hN⟩
            exact hN d hd hle hz
          have HR := Lib.hid hr
          have hzb : (p % d == 0) = true := by rw [beq_iff_eq]; exact hz
          clear hr hz
          go_wp2
          go_ret
          exact ⟨ret_bool HR.out.symm, rfl⟩
        · have hzb : (p % d == 0) = false := by rw [beq_eq_false_iff_ne]; exact hz
          have HN2 : Hid (∀ d' : Int, 2 ≤ d' → d' < d + 1 → p % d' ≠ 0) := fun d' a b => by
            by_cases e : d' = d
            · rw [e]; exact hz
            · exact HN.out d' a (by omega)
          clear hz HN
          go_wp2
          go_roundw
          case rel => exact ⟨d + 1, trivial, rfl, by omega, by omega, HN2⟩
          case measure => simp [intOf]; omega
      · have hr : v = true := by
          rw [← HV.out, rvalid_iff]
          refine ⟨h2, h3, fun d' a b => HN.out d' a ?_⟩
          rcases Int.lt_or_le d' d with h | h
          · exact h
          · have := (sq_le (show (0 : Int) ≤ d by omega) h).2; omega
        have HR := Lib.hid hr
        have hle2 : p < d * d := by omega
        clear hr hle
        go_wp2
        go_ret
        exact ⟨ret_bool HR.out.symm, rfl⟩
  · have hv : rvalid p = false := by rw [Bool.eq_false_iff, ne_eq, rvalid_iff]; rintro ⟨a, b, -⟩; exact h1 ⟨a, b⟩
    rw [hv]
    rcases Int.lt_or_le p 2 with h2 | h2
    · clear hv h1
      go_enter Tryz.func52, Tryz.ntmps52
      go_wp2
      go_ret
      exact ⟨rfl, rfl⟩
    · have h3 : 1073741824 < p := by omega
      clear hv h1
      go_enter Tryz.func52, Tryz.ntmps52
      go_wp2
      go_ret
      exact ⟨rfl, rfl⟩
end Go.Proofs.YtnahkfchcminpaaGreatDoor
