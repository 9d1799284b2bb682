/- Rings of keys: each ring that verifies is made by every member, by exactly one list of numbers: plain. -/
import Derived.Test.YtbjpmkoiabkcbaaGreatDoorGMake
import Derived.Test.YtbjpmkoiabkcbaaGreatDoorGHandE
namespace Go.Proofs.YtbjpmkoiabkcbaaGreatDoor
open Go.RowKit
/-! ### Lists by their numbers -/
theorem ext_getD {l m : List Int} (h : l.length = m.length) (hx : ∀ i, i < l.length → l.getD i 0 = m.getD i 0) : l = m := by
  apply List.ext_getElem h
  intro i h1 h2
  have := hx i h1
  rwa [List.getD, List.getD, List.getElem?_eq_getElem h1, List.getElem?_eq_getElem h2] at this
theorem set_getD (l : List Int) (i j : Nat) (x : Int) (hi : i < l.length) : (l.set i x).getD j 0 = if i = j then x else l.getD j 0 := by
  rw [List.getD, List.getD, List.getElem?_set]
  by_cases h : i = j
  · subst h; simp [hi]
  · simp [h]
theorem getD_left {a b : List Int} {i : Nat} (h : i < a.length) : (a ++ b).getD i 0 = a.getD i 0 := by
  rw [List.getD, List.getElem?_append_left h]; rfl
theorem getD_right {a b : List Int} {i : Nat} (h : a.length ≤ i) : (a ++ b).getD i 0 = b.getD (i - a.length) 0 := by
  rw [List.getD, List.getElem?_append_right h]; rfl
theorem sum_set (l : List Int) (i : Nat) (x : Int) (h : i < l.length) : (l.set i x).sum + l.getD i 0 = l.sum + x := by
  induction l generalizing i with
  | nil => simp at h
  | cons y l ih =>
    cases i with
    | zero => simp; omega
    | succ i =>
      have := ih i (by simpa using h)
      simp [List.getD] at this ⊢
      omega
theorem sumF_from (p : Int) (l : List Int) : ∀ s, 0 ≤ s → s < p → l.foldl (fun s x => (s + x) % p) s = (s + l.sum) % p := by
  induction l with
  | nil => intro s h0 h1; simp; rw [Int.emod_eq_of_lt h0 h1]
  | cons x l ih =>
    intro s h0 h1
    rw [List.foldl_cons, ih _ (Int.emod_nonneg _ (by omega)) (Int.emod_lt_of_pos _ (by omega)), Int.emod_add_emod]
    simp [Int.add_assoc]
theorem sumF_eq {p : Int} (hp : 0 < p) (l : List Int) : sumF p l = l.sum % p := by
  rw [sumF, sumF_from p l 0 (Int.le_refl _) hp, Int.zero_add]
theorem cL_getD {rnd : List Int} {me n k i : Nat} (h : i < n) : (cL rnd me n k).getD i 0 = cFn rnd me k i := by simp [cL, List.getD, h]
theorem zL_getD {rnd : List Int} {me n k i : Nat} (h : i < n) : (zL rnd me n k).getD i 0 = zFn rnd me k i := by simp [zL, List.getD, h]
theorem cntJ_mono {me a b : Nat} (h : a ≤ b) : cntJ me a ≤ cntJ me b := by
  unfold cntJ; split <;> split <;> omega
theorem restL_len' (C Z : List Int) (me : Nat) : ∀ n, (restL C Z me n).length = 2 * cntJ me n
  | 0 => by simp [restL, cntJ]
  | n + 1 => by
    by_cases h : n = me
    · subst h; rw [restL_me, restL_len', cntJ_me]
    · rw [restL_other h, List.length_append, restL_len', cntJ_other h]; simp; omega
theorem restL_get (C Z : List Int) (me : Nat) : ∀ n k, k < n → k ≠ me → (restL C Z me n).getD (2 * cntJ me k) 0 = C.getD k 0 ∧ (restL C Z me n).getD (2 * cntJ me k + 1) 0 = Z.getD k 0
  | 0, k, h, _ => by omega
  | n + 1, k, h, hk => by
    by_cases hn : n = me
    · subst hn
      rw [restL_me]
      exact restL_get C Z n n k (by omega) hk
    · rw [restL_other hn]
      by_cases hkn : k < n
      · have hl := restL_len' C Z me n
        have h1 := cntJ_mono (me := me) (show k + 1 ≤ n by omega)
        rw [cntJ_other hk] at h1
        have := restL_get C Z me n k hkn hk
        rw [getD_left (by omega), getD_left (by omega)]
        exact this
      · obtain rfl : k = n := by omega
        have hl := restL_len' C Z me k
        rw [getD_right (by omega), getD_right (by omega), hl]
        simp
theorem emod_back (p S q : Int) : (S + (q - S % p) % p) % p = q % p := by
  rw [Int.add_emod_emod, Int.emod_def S p]
  generalize S / p = k
  rw [show S + (q - (S - p * k)) = q + p * k by omega, Int.add_mul_emod_self_left]
theorem emod_fix (p a t : Int) : ((a + t % p) % p - t) % p = a % p := by
  rw [Int.emod_sub_emod, Int.emod_def t p]
  generalize t / p = k
  rw [show a + (t - p * k) - t = a + p * (-k) by rw [Int.mul_neg]; omega, Int.add_mul_emod_self_left]
theorem emod_fix' (p a t : Int) : ((a - t % p) % p + t % p) % p = a % p := by
  rw [Int.emod_add_emod, Int.sub_add_cancel]
theorem emod_fix2 (p a t : Int) : ((a + t % p) % p - t % p) % p = a % p := by
  rw [Int.emod_sub_emod, Int.add_sub_cancel]
/-! ### The group -/
section
variable {P : Nat} (h : Grp P)
include h
theorem gpw_add (x y : Int) : gpw P 4 x * gpw P 4 y % (2 * P + 1) = gpw P 4 (x + y) := by
  have hP := h.three
  have hx0 := Int.emod_nonneg x (show (P : Int) ≠ 0 by omega)
  have hy0 := Int.emod_nonneg y (show (P : Int) ≠ 0 by omega)
  have e : ((x + y) % (P : Int)).toNat = ((x % (P : Int)).toNat + (y % (P : Int)).toNat) % P := by
    have : ((((x % (P : Int)).toNat + (y % (P : Int)).toNat) % P : Nat) : Int) = (x + y) % (P : Int) := by
      rw [Int.natCast_emod, Int.natCast_add, Int.toNat_of_nonneg hx0, Int.toNat_of_nonneg hy0, Int.emod_add_emod, Int.add_emod_emod]
    omega
  rw [gpw, gpw, gpw, e, ← pow_red (by omega) h.four, ← pow_mod_add]
theorem gpw_mulx (s x : Int) : gpw P (gpw P 4 s) x = gpw P 4 (s * x) := by
  have hP := h.three
  have hs0 := Int.emod_nonneg s (show (P : Int) ≠ 0 by omega)
  have hx0 := Int.emod_nonneg x (show (P : Int) ≠ 0 by omega)
  have e : ((s * x) % (P : Int)).toNat = ((s % (P : Int)).toNat * (x % (P : Int)).toNat) % P := by
    have : ((((s % (P : Int)).toNat * (x % (P : Int)).toNat) % P : Nat) : Int) = (s * x) % (P : Int) := by
      rw [Int.natCast_emod, Int.natCast_mul, Int.toNat_of_nonneg hs0, Int.toNat_of_nonneg hx0, ← Int.mul_emod]
    omega
  show (4 ^ (s % (P : Int)).toNat % (2 * P + 1)) ^ (x % (P : Int)).toNat % (2 * P + 1) = 4 ^ ((s * x) % (P : Int)).toNat % (2 * P + 1)
  rw [← pow_mod_mul, pow_red (by omega) h.four, e]
theorem comF_key (s c z : Int) : comF P (gpw P 4 s) c z = gpw P 4 (z - c * s) := by
  rw [comF, gpw_mulx h, gpw_add h]
  congr 1
  rw [Int.mul_neg, Int.mul_comm s c]; omega
omit h in
theorem gpw_congr {x y : Int} (hxy : x % (P : Int) = y % (P : Int)) : gpw P 4 x = gpw P 4 y := by rw [gpw, gpw, hxy]
/-- the keys of people 1, 2 and so on -/
def keyL (P n : Nat) : List Int := (List.range n).map fun i : Nat => ((gpw P 4 ((i : Int) + 2) : Nat) : Int)
omit h in
theorem keyL_length (P n : Nat) : (keyL P n).length = n := by simp [keyL]
omit h in
theorem keyL_get {P n i : Nat} (hi : i < n) : (keyL P n).getD i 0 = ((gpw P 4 ((i : Int) + 2) : Nat) : Int) := by simp [keyL, List.getD, hi]
omit h in
theorem keyL_succ (P n : Nat) : keyL P (n + 1) = keyL P n ++ [((gpw P 4 ((n : Int) + 2) : Nat) : Int)] := by
  rw [keyL, List.range_succ, List.map_append]; rfl
theorem keyL_ok {n : Nat} (h1 : 1 ≤ n) (h2 : n ≤ 64) : keysOk P (keyL P n) = true := by
  rw [keysOk, keyL_length, decide_eq_true ⟨h1, h2⟩, Bool.true_and, memsF, List.all_eq_true]
  intro x hx
  simp only [keyL, List.mem_map] at hx
  obtain ⟨i, -, rfl⟩ := hx
  exact mem_gpw h (i + 2)
theorem allow_key {n i : Nat} (hi : i < n) (h2 : n ≤ 64) (h3 : n + 2 ≤ P) : allowF P (keyL P n) (i : Int) ((i : Int) + 2) = 0 := by
  have hk := keyL_ok h (show 1 ≤ n by omega) h2
  rw [allowF, if_neg (by rw [hk]; decide), if_neg (by rw [keyL_length]; omega), if_neg]
  rw [Int.toNat_natCast, keyL_get hi]
  omega
end
theorem elsF_iff {p : Int} {l : List Int} : elsF p l = true ↔ ∀ i, i < l.length → 0 ≤ l.getD i 0 ∧ l.getD i 0 < p := by
  rw [elsF, List.all_eq_true]
  constructor
  · intro h i hi
    have := h l[i] (List.getElem_mem _)
    rw [List.getD, List.getElem?_eq_getElem hi]
    simpa using this
  · intro h x hx
    obtain ⟨i, hi, rfl⟩ := List.getElem_of_mem hx
    have := h i hi
    rw [List.getD, List.getElem?_eq_getElem hi] at this
    simpa using this
/-! ### A ring that is made verifies -/
section
variable {P : Nat} (h : Grp P) {n me : Nat} (hn : n ≤ 64) (hP : n + 2 ≤ P) (hme : me < n) (text : List UInt8) {rnd : List Int}
  (hl : rnd.length + 1 = 2 * n) (hr : elsF P rnd = true)
include h hn hP hme hl hr
theorem prove_key : proveF P (keyL P n) (me : Int) ((me : Int) + 2) text rnd = (((cL rnd me n n).set me (cMe P (keyL P n) rnd me text), (zL rnd me n n).set me (zMe P (keyL P n) rnd me ((me : Int) + 2) text)), 0) := by
  have ha := allow_key h hme hn hP
  rw [proveF, if_neg (by rw [ha]; decide), if_neg (by rw [keyL_length]; exact fun hh => hh ⟨hl, hr⟩), Int.toNat_natCast, keyL_length]
omit hn hP hl hr in
theorem aL_comsI {C Z : List Int} (hc : ∀ i, i < n → i ≠ me → C.getD i 0 = rnd.getD (1 + 2 * pairI me i) 0 ∧ Z.getD i 0 = rnd.getD (2 + 2 * pairI me i) 0)
    (hz : (Z.getD me 0 - C.getD me 0 * ((me : Int) + 2)) % (P : Int) = rnd.getD 0 0 % (P : Int)) : comsI P (keyL P n) C Z n = aL P (keyL P n) rnd me n := by
  rw [comsI, aL, keyL_length]
  refine List.map_congr_left fun i hi => ?_
  have hi' := List.mem_range.1 hi
  rw [aFn, if_pos hi', keyL_get hi', Int.toNat_natCast]
  by_cases him : i = me
  · subst him
    rw [if_pos rfl, comF_key h, gpw_congr hz]
  · rw [if_neg him, (hc i hi' him).1, (hc i hi' him).2]
omit h hn hP hme in
theorem rnd0 : 0 ≤ rnd.getD 0 0 ∧ rnd.getD 0 0 < (P : Int) := elsF_iff.1 hr 0 (by omega)
omit hP in
theorem made_ver : verF P (keyL P n) text ((cL rnd me n n).set me (cMe P (keyL P n) rnd me text)) ((zL rnd me n n).set me (zMe P (keyL P n) rnd me ((me : Int) + 2) text)) = true := by
  have hP0 : (0 : Int) < (P : Int) := by have := h.three; omega
  obtain ⟨c, hc⟩ : ∃ c, c = cMe P (keyL P n) rnd me text := ⟨_, rfl⟩
  obtain ⟨z, hz⟩ : ∃ z, z = zMe P (keyL P n) rnd me ((me : Int) + 2) text := ⟨_, rfl⟩
  have hcl := cL_length rnd me n n
  have hzl := zL_length rnd me n n
  have r0 := rnd0 hl hr
  have hcb : 0 ≤ c ∧ c < (P : Int) := by rw [hc]; exact ⟨Int.emod_nonneg _ (by omega), Int.emod_lt_of_pos _ hP0⟩
  have hzb : 0 ≤ z ∧ z < (P : Int) := by rw [hz]; exact ⟨Int.emod_nonneg _ (by omega), Int.emod_lt_of_pos _ hP0⟩
  have hbd : ∀ j, 0 ≤ rnd.getD j 0 ∧ rnd.getD j 0 < (P : Int) := fun j => by
    by_cases hj : j < rnd.length
    · exact elsF_iff.1 hr j hj
    · rw [List.getD, List.getElem?_eq_none (by omega)]; simp; omega
  rw [← hc, ← hz]
  have e1 : elsF P ((cL rnd me n n).set me c) = true := by
    rw [elsF_iff]
    intro i hi
    rw [List.length_set, hcl] at hi
    rw [set_getD _ _ _ _ (by omega)]
    split
    · exact hcb
    · rw [cL_getD hi, cFn]; split
      · exact hbd _
      · omega
  have e2 : elsF P ((zL rnd me n n).set me z) = true := by
    rw [elsF_iff]
    intro i hi
    rw [List.length_set, hzl] at hi
    rw [set_getD _ _ _ _ (by omega)]
    split
    · exact hzb
    · rw [zL_getD hi, zFn]; split
      · exact hbd _
      · omega
  have hcm : c * ((me : Int) + 2) = ((me : Int) + 2) * c := Int.mul_comm _ _
  have e3 : comsI P (keyL P n) ((cL rnd me n n).set me c) ((zL rnd me n n).set me z) n = aL P (keyL P n) rnd me n := by
    refine aL_comsI h hme (fun i hi him => ?_) ?_
    · rw [set_getD _ _ _ _ (by omega), set_getD _ _ _ _ (by omega), if_neg (fun e => him e.symm), if_neg (fun e => him e.symm), cL_getD hi, zL_getD hi, cFn, zFn, if_pos ⟨hi, him⟩, if_pos ⟨hi, him⟩]
      exact ⟨rfl, rfl⟩
    · rw [set_getD _ _ _ _ (by omega), set_getD _ _ _ _ (by omega), if_pos rfl, if_pos rfl, hz, zMe, ← hc]
      exact emod_fix _ _ _
  have e4 : sumF (P : Int) ((cL rnd me n n).set me c) = rchF P (keyL P n) (aL P (keyL P n) rnd me n) text := by
    have hs := sum_set (cL rnd me n n) me c (by omega)
    rw [cL_getD hme, show cFn rnd me n me = 0 by rw [cFn, if_neg (by omega)]] at hs
    rw [sumF_eq hP0, show ((cL rnd me n n).set me c).sum = (cL rnd me n n).sum + c by omega, hc, cMe, keyL_length, sumF_eq hP0, emod_back]
    have hb := rchF_bd (show (2 : Int) ≤ P by have := h.three; omega) (keyL P n) (aL P (keyL P n) rnd me n) text
    exact Int.emod_eq_of_lt (by omega) hb.2
  rw [verF, keyL_length, keyL_ok h (by omega) hn, e1, e2, e3, e4]
  simp [hcl, hzl]
end
/-! ### A ring that verifies is made by every member -/
section
variable {P : Nat} (h : Grp P) {n i : Nat} (hn : n ≤ 64) (hP : n + 2 ≤ P) (hi : i < n) (text : List UInt8) {C Z : List Int} (hv : verF P (keyL P n) text C Z = true)
include h hn hP hi hv
/-- the numbers that explain a ring -/
def expL (P n i : Nat) (C Z : List Int) : List Int := (Z.getD i 0 - C.getD i 0 * ((i : Int) + 2) % (P : Int)) % (P : Int) :: restL C Z i n
theorem exp_key : expF P (keyL P n) (i : Int) ((i : Int) + 2) text C Z = (expL P n i C Z, 0) := by
  have ha := allow_key h hi hn hP
  rw [expF, if_neg (by rw [ha]; decide), if_neg (by rw [hv]; decide), Int.toNat_natCast, keyL_length, expL]
omit h hn hP hv in
theorem expL_length : (expL P n i C Z).length + 1 = 2 * n := by
  rw [expL, List.length_cons, restL_len', cntJ, if_neg (by omega)]; omega
omit h hn hP hi hv in
theorem expL_zero : (expL P n i C Z).getD 0 0 = (Z.getD i 0 - C.getD i 0 * ((i : Int) + 2) % (P : Int)) % (P : Int) := rfl
omit h hn hP hi hv in
theorem expL_get {k : Nat} (hk : k < n) (hki : k ≠ i) : (expL P n i C Z).getD (1 + 2 * pairI i k) 0 = C.getD k 0 ∧ (expL P n i C Z).getD (2 + 2 * pairI i k) 0 = Z.getD k 0 := by
  have := restL_get C Z i n k hk hki
  rw [pairI_cnt hki, expL, show 1 + 2 * cntJ i k = 2 * cntJ i k + 1 by omega, show 2 + 2 * cntJ i k = 2 * cntJ i k + 1 + 1 by omega]
  exact this
omit hn hP hi in
theorem expL_els : elsF P (expL P n i C Z) = true := by
  have hP0 : (0 : Int) < (P : Int) := by have := h.three; omega
  obtain ⟨-, hC, hZ, hc, hz, -⟩ := ver_ok hv
  rw [keyL_length] at hC hZ
  have bC := fun k (hk : k < n) => elsF_iff.1 hc k (by omega)
  have bZ := fun k (hk : k < n) => elsF_iff.1 hz k (by omega)
  rw [elsF, List.all_eq_true]
  intro x hx
  rw [decide_eq_true_eq]
  rcases List.mem_cons.1 hx with rfl | hx
  · exact ⟨Int.emod_nonneg _ (by omega), Int.emod_lt_of_pos _ hP0⟩
  · simp only [restL, List.mem_flatMap, List.mem_range] at hx
    obtain ⟨k, hk, hx⟩ := hx
    split at hx
    · cases hx
    · simp only [List.mem_cons, List.not_mem_nil, or_false] at hx
      rcases hx with rfl | rfl
      · exact bC k hk
      · exact bZ k hk
theorem exp_prove : proveF P (keyL P n) (i : Int) ((i : Int) + 2) text (expL P n i C Z) = ((C, Z), 0) := by
  have hP0 : (0 : Int) < (P : Int) := by have := h.three; omega
  have hl := expL_length (P := P) (C := C) (Z := Z) hi
  have hr : elsF P (expL P n i C Z) = true := expL_els h text hv
  obtain ⟨-, hC, hZ, hc, hz, hs⟩ := ver_ok hv
  rw [keyL_length] at hC hZ hs
  have bC := elsF_iff.1 hc i (by omega)
  have bZ := elsF_iff.1 hz i (by omega)
  rw [prove_key h hn hP hi text hl hr]
  have hcm : comsI P (keyL P n) C Z n = aL P (keyL P n) (expL P n i C Z) i n := by
    refine aL_comsI h hi (fun k hk hki => ?_) ?_
    · have := expL_get (P := P) (C := C) (Z := Z) hk hki
      exact ⟨this.1.symm, this.2.symm⟩
    · rw [expL_zero, Int.emod_emod, Int.sub_emod_emod]
  have hcl := cL_length (expL P n i C Z) i n n
  have hzl := zL_length (expL P n i C Z) i n n
  have eC : ∀ x, x = C.getD i 0 → (cL (expL P n i C Z) i n n).set i x = C := fun x hx => by
    refine ext_getD (by simp [hcl, hC]) fun k hk => ?_
    rw [List.length_set, hcl] at hk
    rw [set_getD _ _ _ _ (by omega)]
    split
    · rename_i e; rw [hx, e]
    · rename_i e
      rw [cL_getD hk, cFn, if_pos ⟨hk, fun e' => e e'.symm⟩, (expL_get hk fun e' => e e'.symm).1]
  have eZ : ∀ x, x = Z.getD i 0 → (zL (expL P n i C Z) i n n).set i x = Z := fun x hx => by
    refine ext_getD (by simp [hzl, hZ]) fun k hk => ?_
    rw [List.length_set, hzl] at hk
    rw [set_getD _ _ _ _ (by omega)]
    split
    · rename_i e; rw [hx, e]
    · rename_i e
      rw [zL_getD hk, zFn, if_pos ⟨hk, fun e' => e e'.symm⟩, (expL_get hk fun e' => e e'.symm).2]
  have e1 : cMe P (keyL P n) (expL P n i C Z) i text = C.getD i 0 := by
    have h1 := sum_set (cL (expL P n i C Z) i n n) i (C.getD i 0) (by omega)
    rw [eC _ rfl, cL_getD hi, show cFn (expL P n i C Z) i n i = 0 by rw [cFn, if_neg (by omega)]] at h1
    rw [cMe, keyL_length, ← hcm, ← hs, sumF_eq hP0, sumF_eq hP0, Int.emod_sub_emod, Int.sub_emod_emod, show C.sum - (cL (expL P n i C Z) i n n).sum = C.getD i 0 by omega]
    exact Int.emod_eq_of_lt bC.1 bC.2
  have e2 : zMe P (keyL P n) (expL P n i C Z) i ((i : Int) + 2) text = Z.getD i 0 := by
    rw [zMe, e1, expL_zero, emod_fix']
    exact Int.emod_eq_of_lt bZ.1 bZ.2
  rw [eC _ e1, eZ _ e2]
end
/-- and whoever made it gets their own numbers back -/
theorem made_exp {P : Nat} {n me : Nat} (hme : me < n) (text : List UInt8) {rnd : List Int} (hl : rnd.length + 1 = 2 * n) (hr : elsF P rnd = true) :
    expL P n me ((cL rnd me n n).set me (cMe P (keyL P n) rnd me text)) ((zL rnd me n n).set me (zMe P (keyL P n) rnd me ((me : Int) + 2) text)) = rnd := by
  have hcl := cL_length rnd me n n
  have hzl := zL_length rnd me n n
  obtain ⟨c, hc⟩ : ∃ c, c = cMe P (keyL P n) rnd me text := ⟨_, rfl⟩
  obtain ⟨z, hz⟩ : ∃ z, z = zMe P (keyL P n) rnd me ((me : Int) + 2) text := ⟨_, rfl⟩
  rw [← hc, ← hz]
  have hlen := expL_length (P := P) (C := (cL rnd me n n).set me c) (Z := (zL rnd me n n).set me z) hme
  have r0 := rnd0 hl hr
  refine ext_getD (by omega) fun j hj => ?_
  rcases Nat.eq_zero_or_pos j with rfl | hj0
  · rw [expL_zero, set_getD _ _ _ _ (by omega), set_getD _ _ _ _ (by omega), if_pos rfl, if_pos rfl, hz, zMe, ← hc, emod_fix2]
    exact Int.emod_eq_of_lt r0.1 r0.2
  · obtain ⟨k, hk, hkm, hcnt⟩ : ∃ k, k < n ∧ k ≠ me ∧ pairI me k = (j - 1) / 2 := by
      refine ⟨if (j - 1) / 2 < me then (j - 1) / 2 else (j - 1) / 2 + 1, ?_, ?_, ?_⟩
      · split <;> omega
      · split <;> omega
      · unfold pairI; by_cases hq : (j - 1) / 2 < me <;> simp [hq] <;> omega
    have hg := expL_get (P := P) (C := (cL rnd me n n).set me c) (Z := (zL rnd me n n).set me z) hk hkm
    rw [set_getD _ _ _ _ (by omega), set_getD _ _ _ _ (by omega), if_neg (fun e => hkm e.symm), if_neg (fun e => hkm e.symm), cL_getD hk, zL_getD hk, cFn, zFn, if_pos ⟨hk, hkm⟩, if_pos ⟨hk, hkm⟩, hcnt] at hg
    rcases Nat.mod_two_eq_zero_or_one j with h2 | h2
    · rw [show 2 + 2 * ((j - 1) / 2) = j by omega] at hg
      exact hg.2
    · rw [show 1 + 2 * ((j - 1) / 2) = j by omega] at hg
      exact hg.1
end Go.Proofs.YtbjpmkoiabkcbaaGreatDoor
