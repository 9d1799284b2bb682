/- The kit's dice: what a call of Next turns and gives. -/
import Derived.Test.YtcnffdgmdeflmaaGreatDoorBase
import Derived.RegionTactic
import Derived.BigRegion
import Derived.Test.YtcnffdgmdeflmaaGreatDoorGHandC
namespace Go.Proofs.YtcnffdgmdeflmaaGreatDoor
open Go.RowKit
/-- dice at block d: the numbers l (read from p), of which the first k are given out -/
def Dice (w : World) (d : Nat) (p : Option Addr) (l : List Int) (cap : Nat) (k : Nat) : Prop :=
  w.heap[d]? = some (.cells #[.slice p l.length cap, .int .i64 (k : Int)] 51 (0, 0)) ∧ k ≤ l.length
/-- the number that Next n gives -/
def dnum (l : List Int) (k : Nat) (n : Int) : Int := if k < l.length then l.getD k 0 % n else 0
/-- how many are given out behind it -/
def dnxt (l : List Int) (k : Nat) : Nat := if k < l.length then k + 1 else k
theorem Dice.lt {w : World} {d : Nat} {p : Option Addr} {l : List Int} {cap k : Nat} (h : Dice w d p l cap k) : d < w.heap.size := (Array.getElem?_eq_some_iff.1 h.1).1
theorem Dice.c0 {w : World} {d : Nat} {p : Option Addr} {l : List Int} {cap k : Nat} (h : Dice w d p l cap k) : w.cell? ⟨d, 0, none⟩ = some (.slice p l.length cap) := by rw [Lib.cell_of_heap h.1]; rfl
theorem Dice.c1 {w : World} {d : Nat} {p : Option Addr} {l : List Int} {cap k : Nat} (h : Dice w d p l cap k) : w.cell? ⟨d, 1, none⟩ = some (.int .i64 (k : Int)) := by rw [Lib.cell_of_heap h.1]; rfl
theorem Dice.free {w : World} {d : Nat} {p : Option Addr} {l : List Int} {cap k : Nat} (h : Dice w d p l cap k) (j : Nat) : w.frozen? ⟨d, j, none⟩ = false := Lib.frozen_of_heap h.1 j
theorem Dice.keep {w w' : World} {d : Nat} {p : Option Addr} {l : List Int} {cap k : Nat} (h : Dice w d p l cap k) (hb : Below w.heap.size w w') : Dice w' d p l cap k := ⟨(hb.block d h.lt).trans h.1, h.2⟩
theorem Dice.grown {w w' : World} {d : Nat} {p : Option Addr} {l : List Int} {cap k : Nat} {row : Option Nat} (h : Dice w d p l cap k) (hg : w.grownBy w' row) (hne : some d ≠ row) : Dice w' d p l cap k := ⟨(hg.block d h.lt hne).trans h.1, h.2⟩
theorem Dice.set {w : World} {d : Nat} {p : Option Addr} {l : List Int} {cap k : Nat} (h : Dice w d p l cap k) (j : Nat) (hj : j ≤ l.length) : Dice (w.setCell ⟨d, 1, none⟩ (.int .i64 (j : Int))) d p l cap j := by
  refine ⟨?_, hj⟩
  have := h.1
  simp [World.setCell, Array.getElem?_modify, this]
theorem dnum_lo (l : List Int) (k : Nat) {n : Int} (h : 1 ≤ n) : 0 ≤ dnum l k n := by
  unfold dnum; split
  · exact Int.emod_nonneg _ (by omega)
  · omega
theorem dnum_hi (l : List Int) (k : Nat) {n : Int} (h : 1 ≤ n) : dnum l k n < n := by
  unfold dnum; split
  · exact Int.emod_lt_of_pos _ (by omega)
  · omega
theorem dmod_bd (n m : Int) (h1 : 1 ≤ m) : -m < n.tmod m ∧ n.tmod m < m := by
  by_cases h : 0 ≤ n
  · rw [Int.tmod_eq_emod_of_nonneg h]
    have := Int.emod_nonneg n (show m ≠ 0 by omega)
    have := Int.emod_lt_of_pos n (show 0 < m by omega)
    omega
  · rw [show n = -(-n) by omega, Int.neg_tmod, Int.tmod_eq_emod_of_nonneg (by omega)]
    have := Int.emod_nonneg (-n) (show m ≠ 0 by omega)
    have := Int.emod_lt_of_pos (-n) (show 0 < m by omega)
    omega
theorem dmod_eq (n m : Int) (h1 : 1 ≤ m) (h2 : m ≤ 4611686018427387904) : (wrap64 (n.tmod m + m)).tmod m = n % m := by
  obtain ⟨a, b⟩ := dmod_bd n m h1
  rw [IntWalk.wrap64_in _ ⟨by omega, by omega⟩, Int.tmod_eq_emod_of_nonneg (by omega), Int.add_emod_right]
  conv => rhs; rw [← Int.mul_tdiv_add_tmod n m]
  rw [Int.add_comm, Int.add_mul_emod_self_left]
set_option maxRecDepth 100000 in
theorem dmod_walk (n m : Int) (w : World) (hm : 1 ≤ m) (hm2 : m ≤ 4611686018427387904) :
    Calls Tryz.prog 24 #[.int .i64 n, .int .i64 m] w fun e w' => e = .returned (.int .i64 (n % m)) ∧ w = w' := by
  go_enter Tryz.func24, Tryz.ntmps24
  go_wp2
  go_ret
  exact ⟨ret_int (dmod_eq n m hm hm2), rfl⟩
set_option maxRecDepth 100000 in
theorem light_walk (p : Option Addr) (l : List Int) (cap : Nat) (w : World) (hl : l.length ≤ 281474976710656) :
    Calls Tryz.prog 5 #[.slice p l.length cap] w fun e w' => e = .returned (.bool (decide (l.length ≤ 500))) ∧ w = w' := by
  go_enter Tryz.func5, Tryz.ntmps5
  go_wp2
  go_ret
  exact ⟨by congr 2; simp; omega, rfl⟩
set_option maxRecDepth 100000 in
theorem roll_walk (p : Option Addr) (l : List Int) (cap : Nat) (w : World) :
    Calls Tryz.prog 7 #[.slice p l.length cap] w fun e w' => e = .returned (.pointer (some ⟨w.heap.size, 0, none⟩)) ∧ Dice w' w.heap.size p l cap 0 ∧ Below w.heap.size w w' := by
  go_enter Tryz.func7, Tryz.ntmps7
  go_wp2
  go_ret
  exact ⟨rfl, ⟨heap_alloc_new w _, Nat.zero_le _⟩, (Below.refl _ _).alloc (Nat.le_refl _) _⟩
theorem dstill {P : Program} {f : FuncId} {args : Array Value} {w : World} {c n : Nat} {v : Value} (h : Calls P f args (w.drewN (c + n)) fun e w' => e = .returned v ∧ w.drewN (c + n) = w') :
    Calls P f args (w.drewN (c + n)) fun e w'' => e = .returned v ∧ ∃ m, w'' = w.drewN (c + m) :=
  h.mono fun _ _ ⟨a, b⟩ => ⟨a, n, b.symm⟩
set_option maxRecDepth 100000 in
theorem next_walk (d : Nat) (p : Option Addr) (l : List Int) (cap k : Nat) (n : Int) (w : World) (hD : Dice w d p l cap k) (hR : Rd w p (ints l)) (hne : 0 < l.length → ∀ g off, p = some ⟨g, off, none⟩ → g ≠ d) (hlen : l.length ≤ 281474976710656) (hn : 1 ≤ n) (hn2 : n ≤ 4611686018427387904) :
    Calls Tryz.prog 9 #[.pointer (some ⟨d, 0, none⟩), .int .i64 n] w fun e w' => e = .returned (.int .i64 (dnum l k n)) ∧ (Dice w' d p l cap (dnxt l k) ∧ w.grownBy w' (some d)) := by
  have c0 := hD.c0
  have c1 := hD.c1
  have f1 := hD.free 1
  have hk := hD.2
  go_enter Tryz.func9, Tryz.ntmps9
  by_cases hkl : k < l.length
  · obtain ⟨g, off, x, rfl, hcell, hx⟩ := hR.int hkl
    have hgd := hne (by omega) g off rfl
    have hnl : ¬ (l.length ≤ k) := by omega
    have hnx : l.getD k 0 = x := by rw [List.getD, hx.out]; rfl
    go_wp2
    go_region
    go_wp2
    go_quiet (first | (go_at_call 24; with_reducible exact dstill (dmod_walk _ _ _ hn hn2)))
    go_wp2
    go_ret
    refine ⟨ret_int (by rw [dnum, if_pos hkl, hnx]), ?_, ?_⟩
    · rw [dnxt, if_pos hkl]
      exact hD.set (k + 1) hkl
    · exact ⟨rfl, rfl, rfl, by simp, fun j _ hj => heap_setCell_other w ⟨d, 1, none⟩ j _ (fun e => hj (by simp [e]))⟩
  · have hnl : ((l.length : Int) ≤ (k : Int)) := by omega
    go_wp2
    go_region
    go_wp2
    go_ret
    refine ⟨ret_int (by rw [dnum, if_neg hkl]), ?_, ?_⟩
    · rw [dnxt, if_neg hkl]; exact hD
    · exact ⟨rfl, rfl, rfl, Nat.le_refl _, fun _ _ _ => rfl⟩
/-- what is read lies in another block than dice made later -/
theorem rd_ne {w : World} {p : Option Addr} {l : List Int} (h : Rd w p (ints l)) {d : Nat} (hd : w.heap.size ≤ d) : 0 < l.length → ∀ g off, p = some ⟨g, off, none⟩ → g ≠ d := fun h0 g off hp => by
  obtain ⟨g', off', x, he, hc, _⟩ := h.int h0
  rw [hp] at he
  simp only [Option.some.injEq, Addr.mk.injEq, and_true] at he
  obtain ⟨rfl, rfl⟩ := he
  have := World.block_lt_of_cell? w _ hc
  simp at this
  omega
end Go.Proofs.YtcnffdgmdeflmaaGreatDoor
/- The group of a safe prime: which numbers are of it, powers, public numbers. -/
namespace Go.Proofs.YtcnffdgmdeflmaaGreatDoor
open Go.RowKit
theorem tmod_fix (n p : Int) (hp : 1 ≤ p) : (if n.tmod p < 0 then n.tmod p + p else n.tmod p) = n % p := by
  obtain ⟨h1, h2⟩ := dmod_bd n p hp
  have e : n.tmod p % p = n % p := by
    conv => rhs; rw [← Int.mul_tdiv_add_tmod n p]
    rw [Int.add_comm, Int.add_mul_emod_self_left]
  split
  · rw [← e]
    conv => rhs; rw [← Int.add_emod_right]
    rw [Int.emod_eq_of_lt (by omega) (by omega)]
  · rw [← e, Int.emod_eq_of_lt (by omega) (by omega)]
set_option maxRecDepth 100000 in
theorem modulo_any (p n : Int) (w : World) (hp : 1 ≤ p) (hp2 : p ≤ 1073741824) :
    Calls Tryz.prog 59 #[.int .i64 p, .int .i64 n] w fun e w' => e = .returned (.int .i64 (n % p)) ∧ w = w' := by
  obtain ⟨h1, h2⟩ := dmod_bd n p hp
  have hf := tmod_fix n p hp
  have HF := Lib.hid hf
  clear hf
  by_cases hn : n.tmod p < 0
  · have hr : n.tmod p + p = n % p := by rw [← HF.out, if_pos hn]
    have HR := Lib.hid hr
    clear hr HF
    go_enter Tryz.func59, Tryz.ntmps59
    go_wp2
    go_ret
    exact ⟨ret_int HR.out, rfl⟩
  · have hr : n.tmod p = n % p := by rw [← HF.out, if_neg hn]
    have HR := Lib.hid hr
    clear hr HF
    go_enter Tryz.func59, Tryz.ntmps59
    go_wp2
    go_ret
    exact ⟨ret_int HR.out, rfl⟩
set_option maxRecDepth 100000 in
theorem element_any (p n : Int) (w : World) (hp : 1 ≤ p) (hp2 : p ≤ 1073741824) :
    Calls Tryz.prog 79 #[.int .i64 p, .int .i64 n] w fun e w' => e = .returned (.int .i64 (n % p)) ∧ w = w' := by
  go_enter Tryz.func79, Tryz.ntmps79
  go_wp2_with (go_at_call 59; (with_reducible refine (modulo_any _ _ _ hp hp2).mono ?_))
  rintro e w1 ⟨rfl, rfl⟩
  go_wp2
  go_ret
  exact ⟨rfl, rfl⟩
/-- is of the group -/
def memH (p x : Nat) : Bool := decide (0 < x) && (decide (x < 2 * p + 1) && x ^ p % (2 * p + 1) == 1)
def memZ (p : Nat) (x : Int) : Bool := decide (0 < x) && memH p x.toNat
/-- powers in the group -/
def gpw (p x : Nat) (e : Int) : Nat := x ^ (e % (p : Int)).toNat % (2 * p + 1)
theorem gpw_lt (p x : Nat) (e : Int) : gpw p x e < 2 * p + 1 := Nat.mod_lt _ (by omega)
theorem below_drewN {B : Nat} {w w' : World} (h : Below B w w') (n : Nat) : Below B w (w'.drewN n) := ⟨h.os, h.tape, h.output, h.size, h.block⟩
theorem hstill {P : Program} {f : FuncId} {args : Array Value} {w : World} {n : Nat} {v : Value} (h : Calls P f args (w.drewN n) fun e w' => e = .returned v ∧ w.drewN n = w') :
    Calls P f args (w.drewN n) fun e w'' => e = .returned v ∧ ∃ m, w'' = w.drewN m := h.mono fun _ _ ⟨a, b⟩ => ⟨a, n, b.symm⟩
abbrev grp (p : Nat) : Value := .agg #[.int .i64 (p : Int), .int .i64 ((2 * p + 1 : Nat) : Int)]
set_option maxRecDepth 100000 in
theorem hhas_walk (p : Nat) (x : Int) (w : World) (hp : 1 ≤ p) (hp2 : p ≤ 1073741824) :
    Calls Tryz.prog 87 #[grp p, .int .i64 x] w fun e w' => e = .returned (.bool (memZ p x)) ∧ Below w.heap.size w w' := by
  rcases Int.lt_or_le 0 x with h0 | h0
  · obtain ⟨y, rfl⟩ : ∃ y : Nat, x = (y : Int) := ⟨x.toNat, by omega⟩
    by_cases hy : y < 2 * p + 1
    · have kp : ∀ V, Calls Tryz.prog 78 #[.int .i64 ((2 * p + 1 : Nat) : Int), .int .i64 (y : Int), .int .i64 (p : Int)] V fun e w' => e = .returned (.int .i64 ((y ^ p % (2 * p + 1) : Nat) : Int)) ∧ V = w' := fun V => hpow_walk (2 * p + 1) y p V (by omega) (by omega) hy (by omega)
      have hv : memZ p (y : Int) = (y ^ p % (2 * p + 1) == 1) := by rw [memZ, memH, Int.toNat_natCast, decide_eq_true h0, decide_eq_true (show 0 < y by omega), decide_eq_true hy]; simp
      generalize y ^ p % (2 * p + 1) = z at *
      obtain ⟨m, hm⟩ : ∃ m : Nat, m = 2 * p + 1 := ⟨_, rfl⟩
      rw [grp]
      rw [← hm] at kp hy ⊢
      have KP := Lib.hid kp
      have hz : ((z : Int) == 1) = (z == 1) := by rw [Bool.eq_iff_iff, beq_iff_eq, beq_iff_eq]; omega
      rw [← hz] at hv
      have HV := Lib.hid hv
      clear kp hv hm hz
      go_enter Tryz.func87, Tryz.ntmps87
      go_wp2_with (go_at_call 78; (with_reducible refine (KP.out _).mono ?_))
      rintro e w2 ⟨rfl, rfl⟩
      go_wp2
      go_ret
      refine ⟨ret_bool (HV.out.symm), ?_⟩
      exact (Below.refl _ _).alloc (Nat.le_refl _) _
    · have hv : memZ p (y : Int) = false := by rw [memZ, memH, Int.toNat_natCast, decide_eq_false hy]; simp
      have HV := Lib.hid hv
      obtain ⟨m, hm⟩ : ∃ m : Nat, m = 2 * p + 1 := ⟨_, rfl⟩
      rw [grp]
      rw [← hm] at hy ⊢
      have hy2 : ¬ ((y : Int) < (m : Int)) := by omega
      clear hv hm
      go_enter Tryz.func87, Tryz.ntmps87
      go_wp2
      go_ret
      exact ⟨ret_bool HV.out.symm, (Below.refl _ _).alloc (Nat.le_refl _) _⟩
  · have hv : memZ p x = false := by rw [memZ, decide_eq_false (by omega)]; rfl
    have HV := Lib.hid hv
    clear hv
    go_enter Tryz.func87, Tryz.ntmps87
    go_wp2
    go_ret
    exact ⟨ret_bool HV.out.symm, (Below.refl _ _).alloc (Nat.le_refl _) _⟩
set_option maxRecDepth 100000 in
theorem hgpow_walk (p x : Nat) (e : Int) (w : World) (hp : 1 ≤ p) (hp2 : p ≤ 1073741824) (hx : x < 2 * p + 1) :
    Calls Tryz.prog 57 #[grp p, .int .i64 (x : Int), .int .i64 e] w fun r w' => r = .returned (.int .i64 ((gpw p x e : Nat) : Int)) ∧ Below w.heap.size w w' := by
  have h0 := Int.emod_nonneg e (show (p : Int) ≠ 0 by omega)
  have h1 := Int.emod_lt_of_pos e (show (0 : Int) < (p : Int) by omega)
  have ke : ∀ V, Calls Tryz.prog 79 #[.int .i64 (p : Int), .int .i64 e] V fun e' w' => e' = .returned (.int .i64 (e % (p : Int))) ∧ V = w' := fun V => element_any p e V (by omega) (by omega)
  obtain ⟨k, hk⟩ : ∃ k : Nat, e % (p : Int) = (k : Int) := ⟨(e % (p : Int)).toNat, by omega⟩
  have kp : ∀ V, Calls Tryz.prog 78 #[.int .i64 ((2 * p + 1 : Nat) : Int), .int .i64 (x : Int), .int .i64 (k : Int)] V fun e' w' => e' = .returned (.int .i64 ((gpw p x e : Nat) : Int)) ∧ V = w' := fun V => by
    rw [gpw, hk, Int.toNat_natCast]
    exact hpow_walk (2 * p + 1) x k V (by omega) (by omega) hx (by omega)
  rw [hk] at ke
  generalize gpw p x e = z at *
  obtain ⟨m, hm⟩ : ∃ m : Nat, m = 2 * p + 1 := ⟨_, rfl⟩
  rw [grp]
  rw [← hm] at kp ⊢
  have KP := Lib.hid kp
  have KE := Lib.hid ke
  clear kp ke hm hk h0 h1 hx
  go_enter Tryz.func57, Tryz.ntmps57
  go_wp2
  go_quiet (first | (go_at_call 79; with_reducible exact hstill (KE.out _)) | (go_at_call 78; with_reducible exact hstill (KP.out _)))
  go_wp2
  go_ret
  exact ⟨rfl, below_drewN ((Below.refl _ _).alloc (Nat.le_refl _) _) _⟩
set_option maxRecDepth 100000 in
theorem hPower_walk (p x : Nat) (e : Int) (w : World) (hp : 1 ≤ p) (hp2 : p ≤ 1073741824) (hx : x < 2 * p + 1) :
    Calls Tryz.prog 27 #[.int .i64 (p : Int), .int .i64 (x : Int), .int .i64 e] w fun r w' => r = .returned (.int .i64 ((gpw p x e : Nat) : Int)) ∧ Below w.heap.size w w' := by
  have kp : ∀ V, Calls Tryz.prog 57 #[.agg #[.int .i64 (p : Int), .int .i64 (2 * (p : Int) + 1)], .int .i64 (x : Int), .int .i64 e] V fun r w' => r = .returned (.int .i64 ((gpw p x e : Nat) : Int)) ∧ Below V.heap.size V w' := fun V => by
    have := hgpow_walk p x e V hp hp2 hx
    rw [grp, show ((2 * p + 1 : Nat) : Int) = 2 * (p : Int) + 1 by omega] at this
    exact this
  generalize gpw p x e = z at *
  have KP := Lib.hid kp
  clear kp hx
  go_enter Tryz.func27, Tryz.ntmps27
  go_wp2_with (go_at_call 57; (with_reducible refine (KP.out _).mono ?_))
  rintro e' w1 ⟨rfl, hb⟩
  go_wp2
  go_ret
  exact ⟨rfl, hb⟩
set_option maxRecDepth 100000 in
theorem hPublic_walk (p : Nat) (e : Int) (w : World) (hp : 3 ≤ p) (hp2 : p ≤ 1073741824) :
    Calls Tryz.prog 55 #[.int .i64 (p : Int), .int .i64 e] w fun r w' => r = .returned (.int .i64 ((gpw p 4 e : Nat) : Int)) ∧ Below w.heap.size w w' := by
  have kp : ∀ V, Calls Tryz.prog 27 #[.int .i64 (p : Int), .int .i64 4, .int .i64 e] V fun r w' => r = .returned (.int .i64 ((gpw p 4 e : Nat) : Int)) ∧ Below V.heap.size V w' := fun V => hPower_walk p 4 e V (by omega) hp2 (by omega)
  generalize gpw p 4 e = z at *
  have KP := Lib.hid kp
  clear kp
  go_enter Tryz.func55, Tryz.ntmps55
  go_wp2_with (go_at_call 27; (with_reducible refine (KP.out _).mono ?_))
  rintro e' w1 ⟨rfl, hb⟩
  go_wp2
  go_ret
  exact ⟨rfl, hb⟩
set_option maxRecDepth 100000 in
theorem hof_yes (p : Nat) (w : World) (hB : Bases w) (hs : safeP (p : Int) = true) :
    Calls Tryz.prog 86 #[.int .i64 (p : Int)] w fun e w' => e = .returned (.tuple #[grp p, .bool true]) ∧ Below w.heap.size w w' := by
  have km : ∀ V, Bases V → Calls Tryz.prog 63 #[.int .i64 (p : Int)] V fun e w' => e = .returned (.tuple #[.int .i64 ((2 * p + 1 : Nat) : Int), .bool true]) ∧ V = w' := fun V h => by
    rw [show ((2 * p + 1 : Nat) : Int) = 2 * (p : Int) + 1 by omega]
    exact hmod_yes p V h hs
  obtain ⟨m, hm⟩ : ∃ m : Nat, m = 2 * p + 1 := ⟨_, rfl⟩
  rw [grp]
  rw [← hm] at km ⊢
  have KM := Lib.hid km
  clear km hs hm
  have hb1 := (Below.refl w.heap.size w).alloc (Nat.le_refl _) (.cells #[.int .i64 0, .int .i64 0] 68)
  go_enter Tryz.func86, Tryz.ntmps86
  go_wp2_with (go_at_call 63; (with_reducible refine (KM.out _ (hB.keep hb1)).mono ?_))
  rintro e w1 ⟨rfl, rfl⟩
  go_wp2
  exact bodyPost_ret (v := .tuple #[.agg #[.int .i64 (p : Int), .int .i64 (m : Int)], .bool true]) (by simp [results, Tryz.results86, go_sem]) rfl ⟨rfl, (Below.refl _ _).alloc (Nat.le_refl _) _⟩
set_option maxRecDepth 100000 in
theorem hof_no (p : Int) (w : World) (hB : Bases w) (hs : safeP p = false) :
    Calls Tryz.prog 86 #[.int .i64 p] w fun e w' => e = .returned (.tuple #[.agg #[.int .i64 p, .int .i64 0], .bool false]) ∧ Below w.heap.size w w' := by
  have km : ∀ V, Bases V → Calls Tryz.prog 63 #[.int .i64 p] V fun e w' => e = .returned (.tuple #[.int .i64 0, .bool false]) ∧ V = w' := fun V h => hmod_no p V h hs
  have KM := Lib.hid km
  clear km hs
  have hb1 := (Below.refl w.heap.size w).alloc (Nat.le_refl _) (.cells #[.int .i64 0, .int .i64 0] 68)
  go_enter Tryz.func86, Tryz.ntmps86
  go_wp2_with (go_at_call 63; (with_reducible refine (KM.out _ (hB.keep hb1)).mono ?_))
  rintro e w1 ⟨rfl, rfl⟩
  go_wp2
  exact bodyPost_ret (v := .tuple #[.agg #[.int .i64 p, .int .i64 0], .bool false]) (by simp [results, Tryz.results86, go_sem]) rfl ⟨rfl, (Below.refl _ _).alloc (Nat.le_refl _) _⟩
end Go.Proofs.YtcnffdgmdeflmaaGreatDoor
