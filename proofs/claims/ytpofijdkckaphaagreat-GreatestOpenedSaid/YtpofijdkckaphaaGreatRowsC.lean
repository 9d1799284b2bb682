/- Slices of structs of any number of cells: their cells, in plain Lean; what is read of them, and slices of the call's own. -/
import Derived.Test.YtpofijdkckaphaaGreatBase
namespace Go.Proofs.YtpofijdkckaphaaGreat
open Go.RowKit
theorem grown_tr {a b c : World} {row : Option Nat} (h : a.grownBy b row) (k : b.grownBy c row) : a.grownBy c row :=
  ⟨k.os.trans h.os, k.tape.trans h.tape, k.output.trans h.output, Nat.le_trans h.size k.size, fun j hj hne => (k.block j (Nat.lt_of_lt_of_le hj h.size) hne).trans (h.block j hj hne)⟩
variable {α : Type} {f : α → List Value} {k : Nat}
/-- the cells of a list of rows -/
def rowsC (f : α → List Value) (l : List α) : List Value := l.flatMap f
theorem rowsC_nil : rowsC f [] = [] := rfl
theorem rowsC_cons (x : α) (l : List α) : rowsC f (x :: l) = f x ++ rowsC f l := by simp [rowsC]
theorem rowsC_append (a b : List α) : rowsC f (a ++ b) = rowsC f a ++ rowsC f b := by simp [rowsC]
theorem rowsC_single (x : α) : rowsC f [x] = f x := by simp [rowsC]
theorem rowsC_length (hf : ∀ x, (f x).length = k) (l : List α) : (rowsC f l).length = l.length * k := by
  induction l with
  | nil => simp [rowsC]
  | cons x l ih => rw [rowsC_cons, List.length_append, ih, hf, List.length_cons, Nat.succ_mul]; omega
theorem rowsC_one (h1 : ∀ x, ∀ u ∈ f x, u.oneCell' = true) (l : List α) : ∀ u ∈ rowsC f l, u.oneCell' = true := by
  intro u hu
  obtain ⟨x, _, hx⟩ := List.mem_flatMap.1 hu
  exact h1 x u hx
theorem rowsC_drop (hf : ∀ x, (f x).length = k) (l : List α) (i : Nat) : rowsC f (l.drop i) = (rowsC f l).drop (i * k) := by
  induction l generalizing i with
  | nil => simp [rowsC]
  | cons x l ih =>
    cases i with
    | zero => simp
    | succ i =>
      rw [List.drop_succ_cons, ih, rowsC_cons, Nat.succ_mul, List.drop_append, hf, show (f x).drop (i * k + k) = [] from List.drop_eq_nil_of_le (by rw [hf]; omega), List.nil_append]
      congr 1; omega
theorem rowsC_take (hf : ∀ x, (f x).length = k) (l : List α) (i : Nat) : rowsC f (l.take i) = (rowsC f l).take (i * k) := by
  induction l generalizing i with
  | nil => simp [rowsC]
  | cons x l ih =>
    cases i with
    | zero => simp [rowsC]
    | succ i =>
      rw [List.take_succ_cons, rowsC_cons, ih, rowsC_cons, Nat.succ_mul, List.take_append, hf, List.take_of_length_le (l := f x) (by rw [hf]; omega)]
      congr 2; omega
theorem rowsC_get (hf : ∀ x, (f x).length = k) {l : List α} {i : Nat} {x : α} (h : l[i]? = some x) {j : Nat} (hj : j < k) : (rowsC f l)[i * k + j]? = (f x)[j]? := by
  rw [← List.getElem?_drop, ← rowsC_drop hf]
  obtain ⟨hi, rfl⟩ := List.getElem?_eq_some_iff.1 h
  rw [List.drop_eq_getElem_cons hi, rowsC_cons, List.getElem?_append_left (by rw [hf]; exact hj)]
/-- the cells of a row whose cells are read -/
theorem Rd.rows {w : World} {a : Option Addr} {l : List α} (hf : ∀ x, (f x).length = k) (hk : 0 < k) (h : Rd w a (rowsC f l)) {i : Nat} (hi : i < l.length) :
    ∃ g off x, a = some ⟨g, off, none⟩ ∧ Hid (l[i]? = some x) ∧ ∀ j v, (f x)[j]? = some v → w.cell? ⟨g, off + i * k + j, none⟩ = some v := by
  have hr : l[i]? = some l[i] := List.getElem?_eq_getElem hi
  obtain ⟨g, off, ha, hc⟩ := h.at (by rw [rowsC_length hf]; exact Nat.mul_pos (by omega) hk)
  refine ⟨g, off, l[i], ha, hr, fun j v hj => ?_⟩
  have hjk : j < k := by
    have := (List.getElem?_eq_some_iff.1 hj).1
    rwa [hf] at this
  have := hc (i * k + j) v (by rw [rowsC_get hf hr hjk]; exact hj)
  rwa [← Nat.add_assoc] at this
theorem Rd.takes {w : World} {a : Option Addr} {xs : List Value} (h : Rd w a xs) (n : Nat) : Rd w a (xs.take n) := fun j u hj => by
  rw [List.getElem?_take] at hj
  split at hj
  · exact h j u hj
  · cases hj
theorem Rd.rowsTake {w : World} {a : Option Addr} {l : List α} (hf : ∀ x, (f x).length = k) (h : Rd w a (rowsC f l)) (i : Nat) : Rd w a (rowsC f (l.take i)) := by
  rw [rowsC_take hf]; exact h.takes _
theorem Rd.rowsDrop {w : World} {g off : Nat} {l : List α} (hf : ∀ x, (f x).length = k) (h : Rd w (some ⟨g, off, none⟩) (rowsC f l)) (i : Nat) : Rd w (some ⟨g, off + i * k, none⟩) (rowsC f (l.drop i)) := Rd.mk fun j u hj => by
  rw [rowsC_drop hf, List.getElem?_drop] at hj
  obtain ⟨g', off', ha, hc⟩ := h _ u hj
  cases ha
  rwa [← Nat.add_assoc] at hc
end Go.Proofs.YtpofijdkckaphaaGreat
