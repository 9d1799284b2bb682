/- The plain law of layer 4: what was written is read again; what is cut is missing; different lists have different bytes. No program in sight. -/
import Derived.Test.YtbjpmkoiabkcbaaGreatDoorGCodecP
namespace Go.Proofs.YtbjpmkoiabkcbaaGreatDoor
open Go.RowKit

theorem u8_of (n : Nat) (h : n < 256) : (UInt8.ofNat n).toNat = n := by simp; omega
theorem pow128 {i : Nat} (h : 10 ≤ i) : 18446744073709551616 ≤ 128 ^ i := Nat.le_trans (by decide) (Nat.pow_le_pow_right (by omega : 0 < 128) h)

theorem rd_vint (u i acc : Nat) (rest : List UInt8) (hi : 0 < i → 0 < u) (hb : u * 128 ^ i < 18446744073709551616) (h9 : i ≤ 9) :
    rd i acc (vint u ++ rest) = .inr (acc + u * 128 ^ i, i + (vint u).length) := by
  by_cases h : u < 128
  · rw [vint_lt h, List.cons_append, List.nil_append]
    have h1 : ¬ (i = 9 ∧ 1 < u) := by
      rintro ⟨rfl, hu⟩
      have := Nat.mul_le_mul_right (128 ^ 9) (show 2 ≤ u by omega)
      omega
    rw [rd_last (by omega) h1 (by omega) (by omega)]
    simp
  · rw [vint_ge h, List.cons_append]
    have h8 : i ≠ 9 := by
      rintro rfl
      have := Nat.mul_le_mul_right (128 ^ 9) (show 128 ≤ u by omega)
      omega
    rw [rd_more (by omega) (by omega) (by omega), show (u % 128 + 128) % 128 = u % 128 by omega]
    have e : u * 128 ^ i = u % 128 * 128 ^ i + u / 128 * 128 ^ (i + 1) := by
      conv => lhs; rw [← Nat.mod_add_div u 128]
      rw [Nat.add_mul, Nat.pow_succ, Nat.mul_assoc, Nat.mul_left_comm, Nat.mul_comm 128 (128 ^ i)]
    rw [rd_vint (u / 128) (i + 1) _ rest (by omega) (by omega) (by omega)]
    rw [e, List.length_cons]
    simp only [Sum.inr.injEq, Prod.mk.injEq]
    omega
  termination_by u
  decreasing_by omega

/-- a number of which something is missing -/
theorem rd_cut (u i acc k : Nat) (hk : k < (vint u).length) (hi : 0 < i → 0 < u) (hb : u * 128 ^ i < 18446744073709551616) : rd i acc ((vint u).take k) = .inl 5 := by
  by_cases h : u < 128
  · rw [vint_lt h] at hk ⊢
    have : k = 0 := by simp at hk; omega
    subst this
    rfl
  · rw [vint_ge h] at hk ⊢
    cases k with
    | zero => rfl
    | succ k =>
      simp only [List.length_cons] at hk
      rw [List.take_succ_cons]
      have e : u * 128 ^ i = u % 128 * 128 ^ i + u / 128 * 128 ^ (i + 1) := by
        conv => lhs; rw [← Nat.mod_add_div u 128]
        rw [Nat.add_mul, Nat.pow_succ, Nat.mul_assoc, Nat.mul_left_comm, Nat.mul_comm 128 (128 ^ i)]
      have h8 : i ≠ 9 := by
        rintro rfl
        have := Nat.mul_le_mul_right (128 ^ 9) (show 128 ≤ u by omega)
        omega
      rw [rd_more (by omega) (by omega) (by omega)]
      exact rd_cut (u / 128) (i + 1) _ k (by omega) (by omega) (by omega)
  termination_by u
  decreasing_by omega

theorem getInt_put (a : List UInt8) (n : Int) (c : List UInt8) (h : I64 n) {p : Int} (hp : p = a.length) :
    getInt (a ++ putInt n ++ c) p = (n, p + (putInt n).length, 0) := by
  subst hp
  rw [getInt, if_neg (by simp only [List.length_append]; omega), Int.toNat_natCast, List.append_assoc, List.drop_left, putInt, rd_vint (zig n) 0 0 c (by omega) (by simpa using zig_lt h.1 h.2) (by omega)]
  simp [zag_zig]
theorem getInt_cut (a : List UInt8) (n : Int) (k : Nat) (h : I64 n) (hk : k < (putInt n).length) {p : Int} (hp : p = a.length) :
    getInt (a ++ (putInt n).take k) p = (0, p, 5) := by
  subst hp
  rw [getInt, if_neg (by simp only [List.length_append]; omega), Int.toNat_natCast, List.drop_left, putInt, rd_cut (zig n) 0 0 k hk (by omega) (by simpa using zig_lt h.1 h.2)]
  rfl
theorem getText_put (a s c : List UInt8) (h : s.length ≤ 281474976710656) {p : Int} (hp : p = a.length) :
    getText (a ++ putText s ++ c) p = (s, p + (putText s).length, 0) := by
  have e : a ++ putText s ++ c = a ++ putInt s.length ++ (s ++ c) := by simp [putText]
  have hg := getInt_put a s.length (s ++ c) (I64.nat h) hp
  subst hp
  rw [e, getText, hg]
  simp only [ne_eq, not_true_eq_false, if_false]
  rw [if_neg (by omega), if_neg (by simp only [List.length_append]; omega)]
  have e2 : ((a.length : Int) + ((putInt s.length).length : Int)).toNat = (a ++ putInt s.length).length := by rw [List.length_append]; omega
  rw [e2, List.drop_left, Int.toNat_natCast, List.take_left]
  simp [putText]; omega
theorem getText_cut (a s : List UInt8) (k : Nat) (h : s.length ≤ 281474976710656) (hk : k < (putText s).length) {p : Int} (hp : p = a.length) :
    getText (a ++ (putText s).take k) p = ([], p, 5) := by
  by_cases h1 : k < (putInt s.length).length
  · have e : (putText s).take k = (putInt s.length).take k := by rw [putText, List.take_append_of_le_length (by omega)]
    rw [e, getText, getInt_cut a s.length k (I64.nat h) h1 hp]
    rfl
  · have e : a ++ (putText s).take k = a ++ putInt s.length ++ s.take (k - (putInt s.length).length) := by
      rw [putText, List.take_append, List.take_of_length_le (by omega), List.append_assoc]
    have hg := getInt_put a s.length (s.take (k - (putInt s.length).length)) (I64.nat h) hp
    subst hp
    rw [e, getText, hg]
    simp only [ne_eq, not_true_eq_false, if_false]
    rw [putText, List.length_append] at hk
    rw [if_neg (by omega), if_pos (by simp only [List.length_append, List.length_take]; omega)]

theorem items_put {α : Type} (f : List UInt8 → Int → α × Int × Int) (put : α → List UInt8) (ok : α → Prop)
    (hf : ∀ (a : List UInt8) (x : α) (c : List UInt8) (p : Int), ok x → p = a.length → f (a ++ put x ++ c) p = (x, p + (put x).length, 0)) :
    ∀ (l : List α) (a c : List UInt8) (p : Int), (∀ x ∈ l, ok x) → p = a.length → items (f (a ++ l.flatMap put ++ c)) l.length p = .inr (l, p + (l.flatMap put).length)
  | [], a, c, p, _, hp => by simp [items]
  | x :: l, a, c, p, hx, hp => by
    have e : a ++ (x :: l).flatMap put ++ c = a ++ put x ++ (l.flatMap put ++ c) := by simp
    have e2 : a ++ (x :: l).flatMap put ++ c = (a ++ put x) ++ l.flatMap put ++ c := by simp
    have h1 := hf a x (l.flatMap put ++ c) p (hx x (by simp)) hp
    rw [← e] at h1
    have h2 := items_put f put ok hf l (a ++ put x) c (p + (put x).length) (fun y hy => hx y (by simp [hy])) (by subst hp; simp)
    rw [← e2] at h2
    rw [List.length_cons, items, h1]
    simp only [ne_eq, not_true_eq_false, if_false, h2]
    simp; omega
theorem items_cut {α : Type} (f : List UInt8 → Int → α × Int × Int) (put : α → List UInt8) (ok : α → Prop)
    (hf : ∀ (a : List UInt8) (x : α) (c : List UInt8) (p : Int), ok x → p = a.length → f (a ++ put x ++ c) p = (x, p + (put x).length, 0))
    (hc : ∀ (a : List UInt8) (x : α) (k : Nat) (p : Int), ok x → k < (put x).length → p = a.length → (f (a ++ (put x).take k) p).2.2 = 5) :
    ∀ (l : List α) (a : List UInt8) (k : Nat) (p : Int), (∀ x ∈ l, ok x) → k < (l.flatMap put).length → p = a.length → items (f (a ++ (l.flatMap put).take k)) l.length p = .inl 5
  | [], a, k, p, _, hk, hp => by simp at hk
  | x :: l, a, k, p, hx, hk, hp => by
    by_cases h1 : k < (put x).length
    · have e : a ++ ((x :: l).flatMap put).take k = a ++ (put x).take k := by rw [List.flatMap_cons, List.take_append_of_le_length (by omega)]
      have h := hc a x k p (hx x (by simp)) h1 hp
      rw [e, List.length_cons, items, if_pos (by rw [h]; decide), h]
    · have e : a ++ ((x :: l).flatMap put).take k = a ++ put x ++ (l.flatMap put).take (k - (put x).length) := by
        rw [List.flatMap_cons, List.take_append, List.take_of_length_le (by omega), List.append_assoc]
      have h := hf a x ((l.flatMap put).take (k - (put x).length)) p (hx x (by simp)) hp
      have h2 := items_cut f put ok hf hc l (a ++ put x) (k - (put x).length) (p + (put x).length) (fun y hy => hx y (by simp [hy])) (by simp at hk; simp; omega) (by subst hp; simp)
      rw [e, List.length_cons, items, h]
      simp only [ne_eq, not_true_eq_false, if_false, h2]

theorem getList_put {α : Type} (f : List UInt8 → Int → α × Int × Int) (put : α → List UInt8) (ok : α → Prop)
    (hf : ∀ (a : List UInt8) (x : α) (c : List UInt8) (p : Int), ok x → p = a.length → f (a ++ put x ++ c) p = (x, p + (put x).length, 0))
    (a : List UInt8) (l : List α) (c : List UInt8) (most p : Int) (hx : ∀ x ∈ l, ok x) (hm : l.length ≤ most) (hm2 : most ≤ 281474976710656) (hp : p = a.length) :
    getList f most (a ++ (putInt l.length ++ l.flatMap put) ++ c) p = (l, p + (putInt l.length ++ l.flatMap put).length, 0) := by
  have e : a ++ (putInt l.length ++ l.flatMap put) ++ c = a ++ putInt l.length ++ (l.flatMap put ++ c) := by simp
  have e2 : a ++ (putInt l.length ++ l.flatMap put) ++ c = (a ++ putInt l.length) ++ l.flatMap put ++ c := by simp
  have hg := getInt_put a l.length (l.flatMap put ++ c) (I64.nat (by omega)) hp
  have hi := items_put f put ok hf l (a ++ putInt l.length) c (p + (putInt l.length).length) hx (by subst hp; simp)
  rw [← e] at hg
  rw [← e2] at hi
  rw [getList, hg]
  simp only [ne_eq, not_true_eq_false, if_false]
  rw [if_neg (by omega), if_neg (by omega), Int.toNat_natCast, hi, listOf]
  simp; omega
theorem getList_cut {α : Type} (f : List UInt8 → Int → α × Int × Int) (put : α → List UInt8) (ok : α → Prop)
    (hf : ∀ (a : List UInt8) (x : α) (c : List UInt8) (p : Int), ok x → p = a.length → f (a ++ put x ++ c) p = (x, p + (put x).length, 0))
    (hc : ∀ (a : List UInt8) (x : α) (k : Nat) (p : Int), ok x → k < (put x).length → p = a.length → (f (a ++ (put x).take k) p).2.2 = 5)
    (a : List UInt8) (l : List α) (k : Nat) (most p : Int) (hx : ∀ x ∈ l, ok x) (hm : l.length ≤ most) (hm2 : most ≤ 281474976710656) (hk : k < (putInt l.length ++ l.flatMap put).length) (hp : p = a.length) :
    getList f most (a ++ (putInt l.length ++ l.flatMap put).take k) p = ([], p, 5) := by
  by_cases h1 : k < (putInt l.length).length
  · rw [List.take_append_of_le_length (by omega), getList, getInt_cut a l.length k (I64.nat (by omega)) h1 hp]
    rfl
  · have e : a ++ (putInt l.length ++ l.flatMap put).take k = a ++ putInt l.length ++ (l.flatMap put).take (k - (putInt l.length).length) := by
      rw [List.take_append, List.take_of_length_le (by omega), List.append_assoc]
    have hg := getInt_put a l.length ((l.flatMap put).take (k - (putInt l.length).length)) (I64.nat (by omega)) hp
    have hi := items_cut f put ok hf hc l (a ++ putInt l.length) (k - (putInt l.length).length) (p + (putInt l.length).length) hx (by rw [List.length_append] at hk; omega) (by subst hp; simp)
    rw [e, getList, hg]
    simp only [ne_eq, not_true_eq_false, if_false]
    rw [if_neg (by omega), if_neg (by omega), Int.toNat_natCast, hi, listOf]

def okI (n : Int) : Prop := I64 n
def okT (s : List UInt8) : Prop := s.length ≤ 281474976710656
theorem getInts_put (a : List UInt8) (l : List Int) (c : List UInt8) (most p : Int) (hx : ∀ x ∈ l, I64 x) (hm : l.length ≤ most) (hm2 : most ≤ 281474976710656) (hp : p = a.length) :
    getList getInt most (a ++ putInts l ++ c) p = (l, p + (putInts l).length, 0) :=
  getList_put getInt putInt I64 (fun a x c _ h hp => getInt_put a x c h hp) a l c most p hx hm hm2 hp
theorem getTexts_put (a : List UInt8) (l : List (List UInt8)) (c : List UInt8) (most p : Int) (hx : ∀ x ∈ l, x.length ≤ 281474976710656) (hm : l.length ≤ most) (hm2 : most ≤ 281474976710656) (hp : p = a.length) :
    getList getText most (a ++ putTexts l ++ c) p = (l, p + (putTexts l).length, 0) :=
  getList_put getText putText okT (fun a x c _ h hp => getText_put a x c h hp) a l c most p hx hm hm2 hp
theorem getInts_cut (l : List Int) (k : Nat) (most : Int) (hx : ∀ x ∈ l, I64 x) (hm : l.length ≤ most) (hm2 : most ≤ 281474976710656) (hk : k < (putInts l).length) :
    getList getInt most ((putInts l).take k) 0 = ([], 0, 5) := by
  have := getList_cut getInt putInt I64 (fun a x c _ h hp => getInt_put a x c h hp) (fun a x k _ h hk hp => by rw [getInt_cut a x k h hk hp]) [] l k most 0 hx hm hm2 hk rfl
  simpa [putInts] using this

/-- neither is the beginning of the other one -/
theorem putInts_apart {l m : List Int} (hl : ∀ x ∈ l, I64 x) (hm : ∀ x ∈ m, I64 x) (h1 : l.length ≤ 100000) (h2 : m.length ≤ 100000) (c d : List UInt8) (h : putInts l ++ c = putInts m ++ d) : l = m := by
  have e1 := getInts_put [] l c 100000 0 hl (by omega) (by omega) rfl
  have e2 := getInts_put [] m d 100000 0 hm (by omega) (by omega) rfl
  rw [List.nil_append] at e1 e2
  rw [h, e2] at e1
  exact (congrArg Prod.fst e1).symm
theorem putTexts_apart {l m : List (List UInt8)} (hl : ∀ x ∈ l, x.length ≤ 281474976710656) (hm : ∀ x ∈ m, x.length ≤ 281474976710656) (h1 : l.length ≤ 100000) (h2 : m.length ≤ 100000) (c d : List UInt8) (h : putTexts l ++ c = putTexts m ++ d) : l = m := by
  have e1 := getTexts_put [] l c 100000 0 hl (by omega) (by omega) rfl
  have e2 := getTexts_put [] m d 100000 0 hm (by omega) (by omega) rfl
  rw [List.nil_append] at e1 e2
  rw [h, e2] at e1
  exact (congrArg Prod.fst e1).symm
end Go.Proofs.YtbjpmkoiabkcbaaGreatDoor
