/- The kit's Mod; the sanity check of layer 4. -/
import Derived.Test.YtcppedmcchhhoaaCodecZ
import Derived.Test.YtcppedmcchhhoaaLaw
import Derived.RegionTactic
namespace Go.Proofs.Ytcppedmcchhhoaa
open Go.RowKit

theorem rd_k : ∀ (l : List UInt8) (i u v k : Nat), rd i u l = .inr (v, k) → i < k
  | [], i, u, v, k, h => by simp [rd] at h
  | c :: l, i, u, v, k, h => by
    rw [rd] at h
    split at h
    · simp at h
    · split at h
      · have := rd_k l _ _ _ _ h; omega
      · split at h
        · simp at h
        · simp only [Sum.inr.injEq, Prod.mk.injEq] at h; omega
theorem rd_once : ∀ (l : List UInt8) (i u v k : Nat), i ≤ 9 → rd i u l = .inr (v, k) → ∃ t, v = u + t * 128 ^ i ∧ vint t = l.take (k - i) ∧ (0 < i → 0 < t)
  | [], i, u, v, k, _, h => by simp [rd] at h
  | c :: l, i, u, v, k, hi, h => by
    have hc := c.toNat_lt
    rw [rd] at h
    split at h
    · simp at h
    · rename_i h1
      split at h
      · rename_i h2
        have hi9 : i + 1 ≤ 9 := by omega
        have hk := (rd_k l (i + 1) _ v k h)
        obtain ⟨t, hv, ht, htp⟩ := rd_once l (i + 1) _ v k hi9 h
        have htp' := htp (by omega)
        refine ⟨c.toNat % 128 + 128 * t, ?_, ?_, fun _ => by omega⟩
        · rw [hv, Nat.pow_succ, Nat.add_mul]
          have : t * (128 ^ i * 128) = 128 * t * 128 ^ i := by rw [Nat.mul_comm (128 ^ i) 128, ← Nat.mul_assoc, Nat.mul_comm t 128]
          omega
        · rw [vint_ge (by omega), show (c.toNat % 128 + 128 * t) % 128 + 128 = c.toNat by omega, show (c.toNat % 128 + 128 * t) / 128 = t by omega, ht, show k - i = (k - (i + 1)) + 1 by omega]
          simp
      · rename_i h2
        split at h
        · simp at h
        · rename_i h3
          simp only [Sum.inr.injEq, Prod.mk.injEq] at h
          obtain ⟨rfl, rfl⟩ := h
          exact ⟨c.toNat, rfl, by rw [vint_lt (by omega), show i + 1 - i = 1 by omega]; simp, fun _ => by omega⟩
theorem getInt_once {b : List UInt8} {p n q : Int} (h : getInt b p = (n, q, 0)) : putInt n = (b.drop p.toNat).take (q - p).toNat := by
  have hok := getInt_ok h
  unfold getInt at h
  rw [if_neg (by omega)] at h
  split at h
  · rename_i e he
    simp only [Prod.mk.injEq] at h
    omega
  · rename_i u k hu
    simp only [Prod.mk.injEq] at h
    obtain ⟨rfl, rfl, _⟩ := h
    obtain ⟨t, ht, hv, _⟩ := rd_once _ 0 0 u k (by omega) hu
    simp only [Nat.pow_zero, Nat.mul_one, Nat.zero_add] at ht
    subst ht
    rw [putInt, zig_zag, hv]
    congr 1
    omega

theorem tmod_bd (n m : Int) (h1 : 1 ≤ m) : -m < n.tmod m ∧ n.tmod m < m := by
  by_cases h : 0 ≤ n
  · rw [Int.tmod_eq_emod_of_nonneg h]
    have := Int.emod_nonneg n (show m ≠ 0 by omega)
    have := Int.emod_lt_of_pos n (show 0 < m by omega)
    omega
  · rw [show n = -(-n) by omega, Int.neg_tmod, Int.tmod_eq_emod_of_nonneg (by omega)]
    have := Int.emod_nonneg (-n) (show m ≠ 0 by omega)
    have := Int.emod_lt_of_pos (-n) (show 0 < m by omega)
    omega
theorem mod_eq (n m : Int) (h1 : 1 ≤ m) (h2 : m ≤ 281474976710656) : (wrap64 (n.tmod m + m)).tmod m = n % m := by
  obtain ⟨a, b⟩ := tmod_bd n m h1
  rw [IntWalk.wrap64_in _ ⟨by omega, by omega⟩, Int.tmod_eq_emod_of_nonneg (by omega), Int.add_emod_right]
  conv => rhs; rw [← Int.mul_tdiv_add_tmod n m]
  rw [Int.add_comm, Int.add_mul_emod_self_left]

/-- n modulo m, from 0 on -/
theorem mod_any (n m : Int) (w : World) (h1 : 1 ≤ m) (h2 : m ≤ 281474976710656) :
    Calls Try.prog 14 #[.int .i64 n, .int .i64 m] w fun e w' => e = .returned (.int .i64 (n % m)) ∧ w = w' := by
  go_enter Try.func14, Try.ntmps14
  go_wp2
  go_ret
  exact ⟨ret_int (mod_eq n m h1 h2), rfl⟩

theorem mod_ex (n : Int) (m : Nat) (h1 : 1 ≤ m) (h2 : m ≤ 281474976710656) :
    ∃ K : Nat, K < m ∧ (K : Int) = n % m ∧ Hid (∀ w, Calls Try.prog 14 #[.int .i64 n, .int .i64 (m : Int)] w fun e w' => e = .returned (.int .i64 (K : Int)) ∧ w = w') := by
  have a := Int.emod_nonneg n (show (m : Int) ≠ 0 by omega)
  have b := Int.emod_lt_of_pos n (show 0 < (m : Int) by omega)
  refine ⟨(n % m).toNat, by omega, by omega, fun w => ?_⟩
  rw [Int.toNat_of_nonneg a]
  exact mod_any n m w (by omega) (by omega)

theorem getInt_1 : getInt [1] 0 = (-1, 1, 0) := by decide
theorem putInt_64 : putInt 64 = [128, 1] := by
  rw [putInt, show zig 64 = 128 by decide, vint_ge (by decide), show 128 / 128 = 1 by decide, vint_lt (by decide)]; rfl
theorem putInt_m1 : putInt (-1) = [1] := by
  rw [putInt, show zig (-1) = 1 by decide, vint_lt (by decide)]; rfl
theorem awake4 (w : World) : Calls Try.prog 13 #[] w fun e w' => e = .returned (.bool true) ∧ Below w.heap.size w w' := by
  have h1 := putInt_64
  have h2 := putInt_m1
  go_enter Try.func13, Try.ntmps13
  go_wp2_with (first
    | (go_at_call 15; refine (int_at (b := [1]) getInt_1 _ (by simp)).mono ?_; rintro e w' ⟨rfl, rfl⟩)
    | (go_at_call 16; refine (putInt_nil _ _ (by unfold I64; omega)).mono ?_; rintro e w1 ⟨rfl, hb1⟩))
  go_ret
  exact ⟨rfl, below_tr (by assumption) (by assumption)⟩
theorem flat_len {α : Type} (f : α → List UInt8) (n : Nat) (l : List α) (h : ∀ x ∈ l, (f x).length ≤ n) : (l.flatMap f).length ≤ n * l.length := by
  induction l with
  | nil => simp
  | cons x l ih =>
    have h1 := h x (by simp)
    have h2 := ih (fun y hy => h y (by simp [hy]))
    rw [List.flatMap_cons, List.length_append, List.length_cons, Nat.mul_add]
    omega
theorem putInts_len {l : List Int} (hl : ∀ x ∈ l, I64 x) (h : l.length ≤ 281474976710656) : (putInts l).length ≤ 10 + 10 * l.length := by
  have h1 := flat_len putInt 10 l (fun x hx => putInt_ten (hl x hx))
  have h2 := putInt_ten (I64.nat h)
  rw [putInts, List.length_append]; omega
theorem putInts_pos (l : List Int) : 0 < (putInts l).length := by
  have := vint_pos (zig l.length)
  rw [putInts, List.length_append, putInt]; omega
theorem putText_len {s : List UInt8} (h : s.length ≤ 281474976710656) : (putText s).length ≤ 10 + s.length := by
  have h2 := putInt_ten (I64.nat h)
  rw [putText, List.length_append]; omega
theorem putText_pos (s : List UInt8) : 0 < (putText s).length := by
  have := vint_pos (zig s.length)
  rw [putText, List.length_append, putInt]; omega

theorem putTexts_len {l : List (List UInt8)} (hl : ∀ x ∈ l, x.length ≤ 281474976710656) (h : l.length ≤ 281474976710656) : (putTexts l).length ≤ 10 + 10 * l.length + tot l := by
  have h1 : (l.flatMap putText).length ≤ 10 * l.length + tot l := by
    clear h
    induction l with
    | nil => simp
    | cons x l ih =>
      have h1 := putText_len (hl x (by simp))
      have h2 := ih (fun y hy => hl y (by simp [hy]))
      simp only [tot, List.flatMap_cons, List.length_append, List.length_cons, List.map_cons, List.sum_cons] at h2 ⊢
      omega
  have h2 := putInt_ten (I64.nat h)
  rw [putTexts, List.length_append]; omega
theorem tot_mem {l : List (List UInt8)} {x : List UInt8} (h : x ∈ l) : x.length ≤ tot l := by
  induction l with
  | nil => simp at h
  | cons y l ih =>
    simp only [tot, List.map_cons, List.sum_cons]
    rcases List.mem_cons.1 h with rfl | h
    · omega
    · have := ih h; simp only [tot] at this; omega
theorem ints_at {b : List UInt8} {p q e : Int} {l : List Int} (hg : getList getInt 2048 b p = (l, q, e)) (w : World) (hb : b.length ≤ 281474976710656) :
    Calls Try.prog 28 #[.string ⟨b.toArray⟩, .int .i64 p] w (ListRes l.length (ints l) q e w) := by
  have := ints_walk b p w hb
  rw [hg] at this; exact this
theorem texts_at {b : List UInt8} {p q e : Int} {l : List (List UInt8)} (hg : getList getText 256 b p = (l, q, e)) (w : World) (hb : b.length ≤ 281474976710656) :
    Calls Try.prog 30 #[.string ⟨b.toArray⟩, .int .i64 p] w (ListRes l.length (strs l) q e w) := by
  have := texts_walk b p w hb
  rw [hg] at this; exact this
end Go.Proofs.Ytcppedmcchhhoaa
