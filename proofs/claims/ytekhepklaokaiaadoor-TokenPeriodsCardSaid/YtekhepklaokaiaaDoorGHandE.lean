/- The group of a safe prime: which numbers are of it, powers, public numbers. -/
import Derived.Test.YtekhepklaokaiaaDoorGHandD
import Derived.Test.YtekhepklaokaiaaDoorMod
namespace Go.Proofs.YtekhepklaokaiaaDoor
open Go.RowKit
theorem tmod_fix (n p : Int) (hp : 1 ≤ p) : (if n.tmod p < 0 then n.tmod p + p else n.tmod p) = n % p := by
  obtain ⟨h1, h2⟩ := dmod_bd n p hp
  have e : n.tmod p % p = n % p := by
    conv => rhs; rw [← Int.mul_tdiv_add_tmod n p]
    rw [Int.add_comm, Int.add_mul_emod_self_left]
  split
  · rw [← e]
    conv => rhs; rw [← Int.add_emod_right]
    rw [Int.emod_eq_of_lt (by omega) (by omega)]
  · rw [← e, Int.emod_eq_of_lt (by omega) (by omega)]
set_option maxRecDepth 100000 in
theorem modulo_any (p n : Int) (w : World) (hp : 1 ≤ p) (hp2 : p ≤ 1073741824) :
    Calls Tryd.prog 55 #[.int .i64 p, .int .i64 n] w fun e w' => e = .returned (.int .i64 (n % p)) ∧ w = w' := by
  obtain ⟨h1, h2⟩ := dmod_bd n p hp
  have hf := tmod_fix n p hp
  have HF := Lib.hid hf
  clear hf
  by_cases hn : n.tmod p < 0
  · have hr : n.tmod p + p = n % p := by rw [← HF.out, if_pos hn]
    have HR := Lib.hid hr
    clear hr HF
    go_enter Tryd.func55, Tryd.ntmps55
    go_wp2
    go_ret
    exact ⟨ret_int HR.out, rfl⟩
  · have hr : n.tmod p = n % p := by rw [← HF.out, if_neg hn]
    have HR := Lib.hid hr
    clear hr HF
    go_enter Tryd.func55, Tryd.ntmps55
    go_wp2
    go_ret
    exact ⟨ret_int HR.out, rfl⟩
set_option maxRecDepth 100000 in
theorem element_any (p n : Int) (w : World) (hp : 1 ≤ p) (hp2 : p ≤ 1073741824) :
    Calls Tryd.prog 49 #[.int .i64 p, .int .i64 n] w fun e w' => e = .returned (.int .i64 (n % p)) ∧ w = w' := by
  go_enter Tryd.func49, Tryd.ntmps49
  go_wp2_with (go_at_call 55; (with_reducible refine (modulo_any _ _ _ hp hp2).mono ?_))
  rintro e w1 ⟨rfl, rfl⟩
  go_wp2
  go_ret
  exact ⟨rfl, rfl⟩
/-- is of the group -/
def memH (p x : Nat) : Bool := decide (0 < x) && (decide (x < 2 * p + 1) && x ^ p % (2 * p + 1) == 1)
def memZ (p : Nat) (x : Int) : Bool := decide (0 < x) && memH p x.toNat
/-- powers in the group -/
def gpw (p x : Nat) (e : Int) : Nat := x ^ (e % (p : Int)).toNat % (2 * p + 1)
theorem gpw_lt (p x : Nat) (e : Int) : gpw p x e < 2 * p + 1 := Nat.mod_lt _ (by omega)
theorem below_drewN {B : Nat} {w w' : World} (h : Below B w w') (n : Nat) : Below B w (w'.drewN n) := ⟨h.os, h.tape, h.output, h.size, h.block⟩
theorem hstill {P : Program} {f : FuncId} {args : Array Value} {w : World} {n : Nat} {v : Value} (h : Calls P f args (w.drewN n) fun e w' => e = .returned v ∧ w.drewN n = w') :
    Calls P f args (w.drewN n) fun e w'' => e = .returned v ∧ ∃ m, w'' = w.drewN m := h.mono fun _ _ ⟨a, b⟩ => ⟨a, n, b.symm⟩
abbrev grp (p : Nat) : Value := .agg #[.int .i64 (p : Int), .int .i64 ((2 * p + 1 : Nat) : Int)]
set_option maxRecDepth 100000 in
theorem hhas_walk (p : Nat) (x : Int) (w : World) (hp : 1 ≤ p) (hp2 : p ≤ 1073741824) :
    Calls Tryd.prog 42 #[grp p, .int .i64 x] w fun e w' => e = .returned (.bool (memZ p x)) ∧ Below w.heap.size w w' := by
  rcases Int.lt_or_le 0 x with h0 | h0
  · obtain ⟨y, rfl⟩ : ∃ y : Nat, x = (y : Int) := ⟨x.toNat, by omega⟩
    by_cases hy : y < 2 * p + 1
    · have kp : ∀ V, Calls Tryd.prog 48 #[.int .i64 ((2 * p + 1 : Nat) : Int), .int .i64 (y : Int), .int .i64 (p : Int)] V fun e w' => e = .returned (.int .i64 ((y ^ p % (2 * p + 1) : Nat) : Int)) ∧ V = w' := fun V => hpow_walk (2 * p + 1) y p V (by omega) (by omega) hy (by omega)
      have hv : memZ p (y : Int) = (y ^ p % (2 * p + 1) == 1) := by rw [memZ, memH, Int.toNat_natCast, decide_eq_true h0, decide_eq_true (show 0 < y by omega), decide_eq_true hy]; simp
      generalize y ^ p % (2 * p + 1) = z at *
      obtain ⟨m, hm⟩ : ∃ m : Nat, m = 2 * p + 1 := ⟨_, rfl⟩
      rw [grp]
      rw [← hm] at kp hy ⊢
      have KP := Lib.hid kp
      have hz : ((z : Int) == 1) = (z == 1) := by rw [Bool.eq_iff_iff, beq_iff_eq, beq_iff_eq]; omega
      rw [← hz] at hv
      have HV := Lib.hid hv
      clear kp hv hm hz
      go_enter Tryd.func42, Tryd.ntmps42
      go_wp2_with (go_at_call 48; (with_reducible refine (KP.out _).mono ?_))
      rintro e w2 ⟨rfl, rfl⟩
      go_wp2
      go_ret
      refine ⟨ret_bool (HV.out.symm), ?_⟩
      exact (Below.refl _ _).alloc (Nat.le_refl _) _
    · have hv : memZ p (y : Int) = false := by rw [memZ, memH, Int.toNat_natCast, decide_eq_false hy]; simp
      have HV := Lib.hid hv
      obtain ⟨m, hm⟩ : ∃ m : Nat, m = 2 * p + 1 := ⟨_, rfl⟩
      rw [grp]
      rw [← hm] at hy ⊢
      have hy2 : ¬ ((y : Int) < (m : Int)) := by omega
      clear hv hm
      go_enter Tryd.func42, Tryd.ntmps42
      go_wp2
      go_ret
      exact ⟨ret_bool HV.out.symm, (Below.refl _ _).alloc (Nat.le_refl _) _⟩
  · have hv : memZ p x = false := by rw [memZ, decide_eq_false (by omega)]; rfl
    have HV := Lib.hid hv
    clear hv
    go_enter Tryd.func42, Tryd.ntmps42
    go_wp2
    go_ret
    exact ⟨ret_bool HV.out.symm, (Below.refl _ _).alloc (Nat.le_refl _) _⟩
set_option maxRecDepth 100000 in
theorem hgpow_walk (p x : Nat) (e : Int) (w : World) (hp : 1 ≤ p) (hp2 : p ≤ 1073741824) (hx : x < 2 * p + 1) :
    Calls Tryd.prog 34 #[grp p, .int .i64 (x : Int), .int .i64 e] w fun r w' => r = .returned (.int .i64 ((gpw p x e : Nat) : Int)) ∧ Below w.heap.size w w' := by
  have h0 := Int.emod_nonneg e (show (p : Int) ≠ 0 by omega)
  have h1 := Int.emod_lt_of_pos e (show (0 : Int) < (p : Int) by omega)
  have ke : ∀ V, Calls Tryd.prog 49 #[.int .i64 (p : Int), .int .i64 e] V fun e' w' => e' = .returned (.int .i64 (e % (p : Int))) ∧ V = w' := fun V => element_any p e V (by omega) (by omega)
  obtain ⟨k, hk⟩ : ∃ k : Nat, e % (p : Int) = (k : Int) := ⟨(e % (p : Int)).toNat, by omega⟩
  have kp : ∀ V, Calls Tryd.prog 48 #[.int .i64 ((2 * p + 1 : Nat) : Int), .int .i64 (x : Int), .int .i64 (k : Int)] V fun e' w' => e' = .returned (.int .i64 ((gpw p x e : Nat) : Int)) ∧ V = w' := fun V => by
    rw [gpw, hk, Int.toNat_natCast]
    exact hpow_walk (2 * p + 1) x k V (by omega) (by omega) hx (by omega)
  rw [hk] at ke
  generalize gpw p x e = z at *
  obtain ⟨m, hm⟩ : ∃ m : Nat, m = 2 * p + 1 := ⟨_, rfl⟩
  rw [grp]
  rw [← hm] at kp ⊢
  have KP := Lib.hid kp
  have KE := Lib.hid ke
  clear kp ke hm hk h0 h1 hx
  go_enter Tryd.func34, Tryd.ntmps34
  go_wp2
  go_quiet (first | (go_at_call 49; with_reducible exact hstill (KE.out _)) | (go_at_call 48; with_reducible exact hstill (KP.out _)))
  go_wp2
  go_ret
  exact ⟨rfl, below_drewN ((Below.refl _ _).alloc (Nat.le_refl _) _) _⟩
set_option maxRecDepth 100000 in
theorem hPower_walk (p x : Nat) (e : Int) (w : World) (hp : 1 ≤ p) (hp2 : p ≤ 1073741824) (hx : x < 2 * p + 1) :
    Calls Tryd.prog 21 #[.int .i64 (p : Int), .int .i64 (x : Int), .int .i64 e] w fun r w' => r = .returned (.int .i64 ((gpw p x e : Nat) : Int)) ∧ Below w.heap.size w w' := by
  have kp : ∀ V, Calls Tryd.prog 34 #[.agg #[.int .i64 (p : Int), .int .i64 (2 * (p : Int) + 1)], .int .i64 (x : Int), .int .i64 e] V fun r w' => r = .returned (.int .i64 ((gpw p x e : Nat) : Int)) ∧ Below V.heap.size V w' := fun V => by
    have := hgpow_walk p x e V hp hp2 hx
    rw [grp, show ((2 * p + 1 : Nat) : Int) = 2 * (p : Int) + 1 by omega] at this
    exact this
  generalize gpw p x e = z at *
  have KP := Lib.hid kp
  clear kp hx
  go_enter Tryd.func21, Tryd.ntmps21
  go_wp2_with (go_at_call 34; (with_reducible refine (KP.out _).mono ?_))
  rintro e' w1 ⟨rfl, hb⟩
  go_wp2
  go_ret
  exact ⟨rfl, hb⟩
set_option maxRecDepth 100000 in
theorem hof_yes (p : Nat) (w : World) (hB : Bases w) (hs : safeP (p : Int) = true) :
    Calls Tryd.prog 41 #[.int .i64 (p : Int)] w fun e w' => e = .returned (.tuple #[grp p, .bool true]) ∧ Below w.heap.size w w' := by
  have km : ∀ V, Bases V → Calls Tryd.prog 33 #[.int .i64 (p : Int)] V fun e w' => e = .returned (.tuple #[.int .i64 ((2 * p + 1 : Nat) : Int), .bool true]) ∧ V = w' := fun V h => by
    rw [show ((2 * p + 1 : Nat) : Int) = 2 * (p : Int) + 1 by omega]
    exact hmod_yes p V h hs
  obtain ⟨m, hm⟩ : ∃ m : Nat, m = 2 * p + 1 := ⟨_, rfl⟩
  rw [grp]
  rw [← hm] at km ⊢
  have KM := Lib.hid km
  clear km hs hm
  have hb1 := (Below.refl w.heap.size w).alloc (Nat.le_refl _) (.cells #[.int .i64 0, .int .i64 0] 64)
  go_enter Tryd.func41, Tryd.ntmps41
  go_wp2_with (go_at_call 33; (with_reducible refine (KM.out _ (hB.keep hb1)).mono ?_))
  rintro e w1 ⟨rfl, rfl⟩
  go_wp2
  exact bodyPost_ret (v := .tuple #[.agg #[.int .i64 (p : Int), .int .i64 (m : Int)], .bool true]) (by simp [results, Tryd.results41, go_sem]) rfl ⟨rfl, (Below.refl _ _).alloc (Nat.le_refl _) _⟩
set_option maxRecDepth 100000 in
theorem hof_no (p : Int) (w : World) (hB : Bases w) (hs : safeP p = false) :
    Calls Tryd.prog 41 #[.int .i64 p] w fun e w' => e = .returned (.tuple #[.agg #[.int .i64 p, .int .i64 0], .bool false]) ∧ Below w.heap.size w w' := by
  have km : ∀ V, Bases V → Calls Tryd.prog 33 #[.int .i64 p] V fun e w' => e = .returned (.tuple #[.int .i64 0, .bool false]) ∧ V = w' := fun V h => hmod_no p V h hs
  have KM := Lib.hid km
  clear km hs
  have hb1 := (Below.refl w.heap.size w).alloc (Nat.le_refl _) (.cells #[.int .i64 0, .int .i64 0] 64)
  go_enter Tryd.func41, Tryd.ntmps41
  go_wp2_with (go_at_call 33; (with_reducible refine (KM.out _ (hB.keep hb1)).mono ?_))
  rintro e w1 ⟨rfl, rfl⟩
  go_wp2
  exact bodyPost_ret (v := .tuple #[.agg #[.int .i64 p, .int .i64 0], .bool false]) (by simp [results, Tryd.results41, go_sem]) rfl ⟨rfl, (Below.refl _ _).alloc (Nat.le_refl _) _⟩
end Go.Proofs.YtekhepklaokaiaaDoor
