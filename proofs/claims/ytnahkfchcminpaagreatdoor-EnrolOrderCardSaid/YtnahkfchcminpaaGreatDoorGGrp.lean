/- The group of a safe prime: plain; the program's test can be reckoned. -/
import Derived.Test.YtnahkfchcminpaaGreatDoorGNoDiv
import Derived.Test.YtnahkfchcminpaaGreatDoorGRowsC
import Derived.Test.YtnahkfchcminpaaGreatDoorGNum
import Derived.Test.YtnahkfchcminpaaGreatDoorGCopyK
import Derived.Lib.SliceRun
import Derived.Test.YtnahkfchcminpaaGreatDoorGHandG
namespace Go.Proofs.YtnahkfchcminpaaGreatDoor
open Go.RowKit
/-! ### The program's test, so that it can be reckoned -/
def passK (m b : Nat) : Bool :=
  let x := fpow m 40 1 (b % m) (odF 32 (m - 1) 0).1
  x == 1 || sqH m ((odF 32 (m - 1) 0).2 - 1) x
def primeK (m : Nat) : List Nat → Bool
  | [] => true
  | b :: bs => (m == b || (m % b != 0 && passK m b)) && primeK m bs
theorem passK_eq (m b : Nat) (h1 : 2 ≤ m) (hm : m ≤ 2147483649) : passH m b = passK m b := by
  have ho := (odF_pos 32 (m - 1) 0 (by omega)).2
  unfold passH passK
  rw [pow_eval m (b % m) _ (by omega)]
theorem primeK_eq (m : Nat) (h1 : 2 ≤ m) (hm : m ≤ 2147483649) : ∀ l, primeH m l = primeK m l
  | [] => rfl
  | b :: l => by rw [primeH, primeK, passK_eq m b h1 hm, primeK_eq m h1 hm l]
def safeK (p : Nat) : Bool := validP (p : Int) && primeK (2 * p + 1) basesN
theorem safeP_of {p : Nat} (h3 : 3 ≤ p) (h30 : p ≤ 1073741824) (h : safeK p = true) : safeP (p : Int) = true := by
  rw [safeK, Bool.and_eq_true] at h
  rw [safeP, h.1, decide_eq_true (by omega), show (2 * (p : Int) + 1).toNat = 2 * p + 1 by omega, primeK_eq _ (by omega) (by omega), h.2]
  rfl
theorem safeP_big : safeP 500000003 = true := safeP_of (p := 500000003) (by decide) (by decide) (by decide +kernel)
theorem prime_big : PrimeP 500000003 := primeP_of (by decide) (noDiv_of 500000003 11180 (by decide) (by decide +kernel) (by decide))
/-- 4 has an order that divides the prime -/
structure Grp (P : Nat) : Prop where
  three : 3 ≤ P
  four : 4 ^ P % (2 * P + 1) = 1
  prime : PrimeP P
theorem gpw_nat {P x : Nat} (hP : 3 ≤ P) (hx : x ^ P % (2 * P + 1) = 1) (k : Nat) : gpw P x (k : Int) = x ^ k % (2 * P + 1) := by
  rw [gpw, ← Int.natCast_emod, Int.toNat_natCast, ← pow_red (by omega) hx]
theorem pow_one_pow {m x P : Nat} (hm : 1 < m) (hx : x ^ P % m = 1) (k : Nat) : (x ^ k % m) ^ P % m = 1 := by
  rw [← Nat.pow_mod, ← Nat.pow_mul, Nat.mul_comm, pow_mod_mul, hx, Nat.one_pow, Nat.mod_eq_of_lt hm]
theorem pow_pos_mod {m x P : Nat} (hm : 1 < m) (h0 : 0 < P) (hx : x ^ P % m = 1) (k : Nat) : 0 < x ^ k % m := by
  rcases Nat.eq_zero_or_pos (x ^ k % m) with h | h
  · have := pow_one_pow hm hx k
    rw [h, Nat.zero_pow h0, Nat.zero_mod] at this
    omega
  · exact h
theorem memH_pow {P x : Nat} (hP : 3 ≤ P) (hx : x ^ P % (2 * P + 1) = 1) (k : Nat) : memH P (x ^ k % (2 * P + 1)) = true := by
  rw [memH, decide_eq_true (pow_pos_mod (by omega) (by omega) hx k), decide_eq_true (Nat.mod_lt _ (by omega)), pow_one_pow (by omega) hx k]
  rfl
theorem memZ_nat {P x : Nat} (h : memH P x = true) : memZ P (x : Int) = true := by
  have h' := h
  rw [memH, Bool.and_eq_true, decide_eq_true_eq] at h'
  rw [memZ, Int.toNat_natCast, h, decide_eq_true (by omega)]
  rfl
theorem mem_gpw {P : Nat} (h : Grp P) (k : Nat) : memZ P (gpw P 4 (k : Int) : Int) = true := by
  rw [gpw_nat h.three h.four]
  exact memZ_nat (memH_pow h.three h.four k)
theorem pow_shift {P : Nat} (h : Grp P) {S b : Nat} (hS : S < P) (h1 : 4 ^ ((S + b) % P) % (2 * P + 1) = 4 ^ S % (2 * P + 1)) : 4 ^ b % (2 * P + 1) = 1 := by
  have hm : 1 < 2 * P + 1 := by have := h.three; omega
  rw [← pow_red hm h.four] at h1
  have e : 4 ^ (P - S) * 4 ^ (S + b) % (2 * P + 1) = 4 ^ (P - S) * 4 ^ S % (2 * P + 1) := by rw [Nat.mul_mod, h1, ← Nat.mul_mod]
  rw [← Nat.pow_add, ← Nat.pow_add, show P - S + (S + b) = P + b by omega, show P - S + S = P by omega, h.four, pow_mod_add, h.four, Nat.one_mul, Nat.mod_mod] at e
  exact e
theorem grp_of (P : Nat) (h3 : 3 ≤ P) (h40 : P < 2 ^ 40) (h4 : fpow (2 * P + 1) 40 1 4 P = 1) (hp : PrimeP P) : Grp P := ⟨h3, by rw [pow_eval _ _ _ h40]; exact h4, hp⟩
theorem grp_big : Grp 500000003 := grp_of 500000003 (by decide) (by decide) (by decide +kernel) prime_big
end Go.Proofs.YtnahkfchcminpaaGreatDoor
/- Rolls: which are right, who is found, what a person signs: plain. No program in sight. -/
namespace Go.Proofs.YtnahkfchcminpaaGreatDoor
open Go.RowKit
theorem prC_one (r : Prs) : ∀ u ∈ prC r, u.oneCell' = true := by
  intro u hu
  simp [prC] at hu
  rcases hu with rfl | rfl | rfl <;> rfl
abbrev prV (r : Prs) : Value := .agg #[.int .i64 r.id, .int .i64 r.key, .int .i64 r.dep]
def Prs.zero : Prs := ⟨0, 0, 0⟩
/-- person i is right behind those before them -/
def pOk (p : Nat) (l : List Prs) (i : Nat) (r : Prs) : Prop :=
  (1 ≤ r.id ∧ r.id ≤ 1048576) ∧ (∀ x, 0 < i → l[i - 1]? = some x → x.id < r.id) ∧ memZ p r.key = true ∧ r.key ≠ 1 ∧ (0 ≤ r.dep ∧ r.dep ≤ 63) ∧ ∀ (j : Nat) (x : Prs), j < i → l[j]? = some x → x.key ≠ r.key
/-- the first k people are right -/
def PGood (p : Nat) (l : List Prs) (k : Nat) : Prop := ∀ i r, i < k → l[i]? = some r → pOk p l i r
theorem PGood.zero (p : Nat) (l : List Prs) : PGood p l 0 := fun i r h => by omega
theorem PGood.succ {p : Nat} {l : List Prs} {k : Nat} {r : Prs} (h : PGood p l k) (hr : l[k]? = some r) (hf : pOk p l k r) : PGood p l (k + 1) := fun i x hi hx => by
  by_cases hik : i = k
  · subst hik; rw [hr] at hx; cases hx; exact hf
  · exact h i x (by omega) hx
open Classical in
/-- what is wrong with a roll -/
noncomputable def chkP (p : Int) (l : List Prs) : Int := if safeP p = true ∧ l.length ≤ 64 ∧ PGood p.toNat l l.length then 0 else 40
theorem chkP_ok {p : Int} {l : List Prs} (h0 : safeP p = true) (h1 : l.length ≤ 64) (h : PGood p.toNat l l.length) : chkP p l = 0 := if_pos ⟨h0, h1, h⟩
theorem chkP_no {p : Int} {l : List Prs} (h : ¬ (safeP p = true ∧ l.length ≤ 64 ∧ PGood p.toNat l l.length)) : chkP p l = 40 := if_neg h
theorem chkP_bad {p : Int} {l : List Prs} {k : Nat} {r : Prs} (hr : l[k]? = some r) (h : ¬ pOk p.toNat l k r) : chkP p l = 40 :=
  chkP_no fun ⟨_, _, hg⟩ => h (hg k r (List.getElem?_eq_some_iff.1 hr).1 hr)
theorem chkP_long {p : Int} {l : List Prs} (h : 64 < l.length) : chkP p l = 40 := chkP_no fun ⟨_, h1, _⟩ => by omega
theorem chkP_unsafe {p : Int} {l : List Prs} (h : safeP p = false) : chkP p l = 40 := chkP_no fun ⟨h1, _⟩ => by rw [h] at h1; cases h1
theorem chkP_cases (p : Int) (l : List Prs) : (chkP p l = 0 ∧ safeP p = true ∧ l.length ≤ 64 ∧ PGood p.toNat l l.length) ∨ chkP p l = 40 := by
  unfold chkP; split
  · next h => exact .inl ⟨rfl, h⟩
  · exact .inr rfl
/-- the first person of whom a number is asked -/
def fstP (f : Prs → Int) (l : List Prs) (z : Int) : Option Prs := l.find? fun r => f r == z
theorem fstP_at {f : Prs → Int} {l : List Prs} {z : Int} {k : Nat} {r : Prs} (hr : l[k]? = some r) (hf : f r = z) (h : ∀ (j : Nat) (x : Prs), j < k → l[j]? = some x → f x ≠ z) : fstP f l z = some r := by
  obtain ⟨hk, rfl⟩ := List.getElem?_eq_some_iff.1 hr
  refine List.find?_eq_some_iff_getElem.2 ⟨by simpa using hf, k, hk, rfl, fun j hj => ?_⟩
  have := h j l[j] hj (List.getElem?_eq_getElem (by omega))
  simpa using this
theorem fstP_none {f : Prs → Int} {l : List Prs} {z : Int} (h : ∀ (j : Nat) (x : Prs), j < l.length → l[j]? = some x → f x ≠ z) : fstP f l z = none := by
  refine List.find?_eq_none.2 fun x hx => ?_
  obtain ⟨j, hj, rfl⟩ := List.getElem_of_mem hx
  have := h j l[j] hj (List.getElem?_eq_getElem hj)
  simpa using this
/-- what a person signs -/
def clmF (id dep : Int) : List UInt8 := [101, 110, 114, 111, 108] ++ putInt id ++ putInt dep
/-- two rolls are equal -/
def eqR (p q : Int) (l m : List Prs) : Bool := decide (p = q ∧ l = m)
end Go.Proofs.YtnahkfchcminpaaGreatDoor
/- Rolls: the people's list copied (slices.Clone). -/
namespace Go.Proofs.YtnahkfchcminpaaGreatDoor
open Go.RowKit
theorem el_ps : ElemOf Tryz.prog 28 43 (.agg #[.int .i64 0, .int .i64 0, .int .i64 0]) 3 24 := ⟨Tryz.underlying28, by kernel_rfl, rfl, by decide, by decide⟩
theorem Ow.empty (w : World) (e : TypeId) (size : Nat) : Ow (w.alloc (.cells #[] e)) w.heap.size size (some ⟨w.heap.size, 0, none⟩) 0 0 [] :=
  ⟨by simp, Nat.le_refl _, Nat.zero_le _, .inr ⟨_, _, rfl, Nat.le_refl _, by simp, fun j u hj => by simp at hj, fun j hj => by omega⟩⟩
set_option maxRecDepth 100000 in
set_option maxHeartbeats 1000000 in
theorem eclone_walk (a : Option Addr) (l : List Prs) (cap : Nat) (w : World) (hR : Rd w a (rowsC prC l)) (hn : l.length ≤ 1000000) :
    Calls Tryz.prog 32 #[.slice a l.length cap] w fun e w' => ∃ a' cap', e = .returned (.slice a' l.length cap') ∧ Ow w' w.heap.size 3 a' l.length cap' (rowsC prC l) ∧ Below w.heap.size w w' := by
  cases a with
  | none =>
    have h0 : l = [] := by
      cases l with
      | nil => rfl
      | cons r l =>
        obtain ⟨g, off, ha, _⟩ := hR 0 (.int .i64 r.id) rfl
        cases ha
    subst h0
    have he := Lib.run_eql_slice_nil (P := Tryz.prog) w 28 43 none 0 cap 0 0 Tryz.underlying28
    rw [List.length_nil]
    go_enter Tryz.func32, Tryz.ntmps32
    go_wp2
    go_ret
    exact ⟨none, 0, rfl, Ow.nil _ _ _, Below.refl _ _⟩
  | some p =>
    have hw1 := (Below.refl w.heap.size w).alloc (Nat.le_refl _) (.cells #[] 43)
    have hO := Ow.empty w 43 3
    have hR1 := hR.keep hw1
    have hrl := rowsC_length prC_len l
    have he := Lib.run_eql_slice_nil (P := Tryz.prog) w 28 43 (some p) l.length cap 0 0 Tryz.underlying28
    go_enter Tryz.func32, Tryz.ntmps32
    go_wp2_with (at_builtin; refine wpList_apps (w0 := w) (B := w.heap.size) rfl _ _ _ _ rfl el_ps rfl hO hw1 (Nat.le_refl _) hw1.size rfl (Src.slice Tryz.underlying28 hrl hR1 (rowsC_one prC_one l)) (by omega) ?_)
    intro a' cap' w2 hO2 hb2 _
    go_wp2
    go_ret
    exact ⟨a', cap', rfl, hO2, hb2⟩
theorem Bx.rd {w : World} {g : Nat} {t : TypeId} {cs : List Value} (h : Bx w g t cs) : Rd w (some ⟨g, 0, none⟩) cs := Rd.mk fun j u hj => by rw [Nat.zero_add]; exact h.cell j hj
theorem Bx.shape {w : World} {g : Nat} {t : TypeId} {cs : List Value} (h : Bx w g t cs) : w.shape? g = some (t, cs.length) := by unfold World.shape?; rw [show w.heap[g]? = _ from h]; rfl
theorem Ow.shape {w : World} {base size g off n cap : Nat} {xs : List Value} (h : Ow w base size (some ⟨g, off, none⟩) n cap xs) (h0 : 0 < cap * size) : ∃ t k, w.shape? g = some (t, k) ∧ k ≠ 0 := by
  obtain ⟨hl, hc, hm, ⟨h1, _⟩ | ⟨g', off', ha, hb, hgs, hx, hf⟩⟩ := h
  · simp at h1
  simp only [Option.some.injEq, Addr.mk.injEq, and_true] at ha
  obtain ⟨rfl, rfl⟩ := ha
  have h1 := (hf 0 h0).1
  unfold World.cell? at h1
  unfold World.shape?
  split at h1
  · rename_i c t e heq
    refine ⟨t, c.size, by rw [heq], ?_⟩
    intro hz
    simp at h1
    omega
  · simp at h1
end Go.Proofs.YtnahkfchcminpaaGreatDoor
/- Safe primes: the reference's test. -/
namespace Go.Proofs.YtnahkfchcminpaaGreatDoor
open Go.RowKit
theorem rsafe_of (p n k : Nat) (h3 : 3 ≤ p) (h30 : p ≤ 1073741824) (ho : p % 2 = 1) (h1 : tryF p 2 n 3 = true) (hn : p < (3 + 2 * n) * (3 + 2 * n)) (h2 : tryF (2 * p + 1) 2 k 3 = true) (hk : 2 * p + 1 < (3 + 2 * k) * (3 + 2 * k)) : rsafe (p : Int) = true := by
  rw [rsafe_iff, rvalid_iff]
  refine ⟨by omega, ⟨by omega, by omega, noDiv_of p n ho h1 hn⟩, ?_⟩
  have := noDiv_of (2 * p + 1) k (by omega) h2 hk
  rwa [show ((2 * p + 1 : Nat) : Int) = 2 * (p : Int) + 1 by omega] at this
theorem rsafe_big : rsafe 500000003 = true := rsafe_of 500000003 11180 15811 (by decide) (by decide) (by decide) (by decide +kernel) (by decide) (by decide +kernel) (by decide)
end Go.Proofs.YtnahkfchcminpaaGreatDoor
/- Signatures that are made are right, and with another answer they are not: plain. -/
namespace Go.Proofs.YtnahkfchcminpaaGreatDoor
open Go.RowKit
/-- which answers are right -/
theorem ver_iff {P : Nat} (h : Grp P) (key nonce : Nat) (text : List UInt8) (S : Nat) (hS : S < P) :
    verF P (gpw P 4 (key : Int) : Int) text (signR P nonce : Int) (S : Int) = (4 ^ S % (2 * P + 1) == 4 ^ signS P key nonce text % (2 * P + 1)) := by
  have e1 := mem_gpw h key
  have e2 := mem_gpw h nonce
  rw [verF, e1, show memZ P (signR P nonce : Int) = true from e2, decide_eq_true (show (0 : Int) ≤ (S : Int) by omega), decide_eq_true (show (S : Int) < (P : Int) by omega)]
  simp only [Bool.true_and]
  rw [Int.toNat_natCast, Int.toNat_natCast, gpw_nat h.three h.four S]
  congr 1
  unfold signS
  generalize chalF P (signR P nonce : Int) (gpw P 4 (key : Int) : Int) text = c
  have hm : 1 < 2 * P + 1 := by have := h.three; omega
  have hp : (gpw P 4 (key : Int)) ^ P % (2 * P + 1) = 1 := by
    rw [gpw_nat h.three h.four]; exact pow_one_pow hm h.four key
  have hr : 4 ^ ((nonce + key * c % P) % P) % (2 * P + 1) = (4 ^ nonce % (2 * P + 1)) * (4 ^ (key * c) % (2 * P + 1)) % (2 * P + 1) := by
    rw [← pow_red hm h.four, pow_mod_add, ← pow_red hm h.four (key * c)]
  rw [hr, signR, gpw_nat h.three h.four nonce, gpw_nat h.three hp, gpw_nat h.three h.four, ← pow_mod_mul]
theorem sign_right {P : Nat} (h : Grp P) (key nonce : Nat) (text : List UInt8) :
    verF P (gpw P 4 (key : Int) : Int) text (signR P nonce : Int) (signS P key nonce text : Int) = true := by
  have hS : signS P key nonce text < P := Nat.mod_lt _ (by have := h.three; omega)
  rw [ver_iff h key nonce text _ hS]
  simp
theorem sign_other {P : Nat} (h : Grp P) (key nonce : Nat) (text : List UInt8) (b : Nat) (hb : b < P) :
    verF P (gpw P 4 (key : Int) : Int) text (signR P nonce : Int) (((signS P key nonce text + b) % P : Nat) : Int) = (b == 0) := by
  have hP := h.three
  rw [ver_iff h key nonce text _ (Nat.mod_lt _ (by omega)), Bool.eq_iff_iff, beq_iff_eq, beq_iff_eq]
  have hS : signS P key nonce text < P := Nat.mod_lt _ (by omega)
  constructor
  · intro h1
    have h2 := pow_shift h hS h1
    rcases Nat.eq_zero_or_pos b with h0 | h0
    · exact h0
    · exact absurd h2 (pow_ne_one (by omega) h.prime (by rw [Nat.mod_eq_of_lt (by omega)]; decide) h.four h0 hb)
  · rintro rfl
    rw [Nat.add_zero, Nat.mod_eq_of_lt hS]
end Go.Proofs.YtnahkfchcminpaaGreatDoor
