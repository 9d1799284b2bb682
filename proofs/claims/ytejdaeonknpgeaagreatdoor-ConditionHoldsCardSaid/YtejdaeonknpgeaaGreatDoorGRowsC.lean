/- Slices of structs of any number of cells: their cells, in plain Lean; what is read of them, and slices of the call's own. -/
import Derived.Test.YtejdaeonknpgeaaGreatDoorBase
import Derived.Test.YtejdaeonknpgeaaGreatDoorLaw
import Derived.Deep.Slices
namespace Go.Proofs.YtejdaeonknpgeaaGreatDoor
open Go.RowKit
theorem grown_tr {a b c : World} {row : Option Nat} (h : a.grownBy b row) (k : b.grownBy c row) : a.grownBy c row :=
  ⟨k.os.trans h.os, k.tape.trans h.tape, k.output.trans h.output, Nat.le_trans h.size k.size, fun j hj hne => (k.block j (Nat.lt_of_lt_of_le hj h.size) hne).trans (h.block j hj hne)⟩
variable {α : Type} {f : α → List Value} {k : Nat}
/-- the cells of a list of rows -/
def rowsC (f : α → List Value) (l : List α) : List Value := l.flatMap f
theorem rowsC_nil : rowsC f [] = [] := rfl
theorem rowsC_cons (x : α) (l : List α) : rowsC f (x :: l) = f x ++ rowsC f l := by simp [rowsC]
theorem rowsC_append (a b : List α) : rowsC f (a ++ b) = rowsC f a ++ rowsC f b := by simp [rowsC]
theorem rowsC_single (x : α) : rowsC f [x] = f x := by simp [rowsC]
theorem rowsC_length (hf : ∀ x, (f x).length = k) (l : List α) : (rowsC f l).length = l.length * k := by
  induction l with
  | nil => simp [rowsC]
  | cons x l ih => rw [rowsC_cons, List.length_append, ih, hf, List.length_cons, Nat.succ_mul]; omega
theorem rowsC_one (h1 : ∀ x, ∀ u ∈ f x, u.oneCell' = true) (l : List α) : ∀ u ∈ rowsC f l, u.oneCell' = true := by
  intro u hu
  obtain ⟨x, _, hx⟩ := List.mem_flatMap.1 hu
  exact h1 x u hx
theorem rowsC_drop (hf : ∀ x, (f x).length = k) (l : List α) (i : Nat) : rowsC f (l.drop i) = (rowsC f l).drop (i * k) := by
  induction l generalizing i with
  | nil => simp [rowsC]
  | cons x l ih =>
    cases i with
    | zero => simp
    | succ i =>
      rw [List.drop_succ_cons, ih, rowsC_cons, Nat.succ_mul, List.drop_append, hf, show (f x).drop (i * k + k) = [] from List.drop_eq_nil_of_le (by rw [hf]; omega), List.nil_append]
      congr 1; omega
theorem rowsC_take (hf : ∀ x, (f x).length = k) (l : List α) (i : Nat) : rowsC f (l.take i) = (rowsC f l).take (i * k) := by
  induction l generalizing i with
  | nil => simp [rowsC]
  | cons x l ih =>
    cases i with
    | zero => simp [rowsC]
    | succ i =>
      rw [List.take_succ_cons, rowsC_cons, ih, rowsC_cons, Nat.succ_mul, List.take_append, hf, List.take_of_length_le (l := f x) (by rw [hf]; omega)]
      congr 2; omega
theorem rowsC_get (hf : ∀ x, (f x).length = k) {l : List α} {i : Nat} {x : α} (h : l[i]? = some x) {j : Nat} (hj : j < k) : (rowsC f l)[i * k + j]? = (f x)[j]? := by
  rw [← List.getElem?_drop, ← rowsC_drop hf]
  obtain ⟨hi, rfl⟩ := List.getElem?_eq_some_iff.1 h
  rw [List.drop_eq_getElem_cons hi, rowsC_cons, List.getElem?_append_left (by rw [hf]; exact hj)]
/-- the cells of a row whose cells are read -/
theorem Rd.rows {w : World} {a : Option Addr} {l : List α} (hf : ∀ x, (f x).length = k) (hk : 0 < k) (h : Rd w a (rowsC f l)) {i : Nat} (hi : i < l.length) :
    ∃ g off x, a = some ⟨g, off, none⟩ ∧ Hid (l[i]? = some x) ∧ ∀ j v, (f x)[j]? = some v → w.cell? ⟨g, off + i * k + j, none⟩ = some v := by
  have hr : l[i]? = some l[i] := List.getElem?_eq_getElem hi
  obtain ⟨g, off, ha, hc⟩ := h.at (by rw [rowsC_length hf]; exact Nat.mul_pos (by omega) hk)
  refine ⟨g, off, l[i], ha, hr, fun j v hj => ?_⟩
  have hjk : j < k := by
    have := (List.getElem?_eq_some_iff.1 hj).1
    rwa [hf] at this
  have := hc (i * k + j) v (by rw [rowsC_get hf hr hjk]; exact hj)
  rwa [← Nat.add_assoc] at this
theorem Rd.takes {w : World} {a : Option Addr} {xs : List Value} (h : Rd w a xs) (n : Nat) : Rd w a (xs.take n) := fun j u hj => by
  rw [List.getElem?_take] at hj
  split at hj
  · exact h j u hj
  · cases hj
theorem Rd.rowsTake {w : World} {a : Option Addr} {l : List α} (hf : ∀ x, (f x).length = k) (h : Rd w a (rowsC f l)) (i : Nat) : Rd w a (rowsC f (l.take i)) := by
  rw [rowsC_take hf]; exact h.takes _
theorem Rd.rowsDrop {w : World} {g off : Nat} {l : List α} (hf : ∀ x, (f x).length = k) (h : Rd w (some ⟨g, off, none⟩) (rowsC f l)) (i : Nat) : Rd w (some ⟨g, off + i * k, none⟩) (rowsC f (l.drop i)) := Rd.mk fun j u hj => by
  rw [rowsC_drop hf, List.getElem?_drop] at hj
  obtain ⟨g', off', ha, hc⟩ := h _ u hj
  cases ha
  rwa [← Nat.add_assoc] at hc
end Go.Proofs.YtejdaeonknpgeaaGreatDoor
/- A slice of structs, wherever it stands among a law's arguments: what can be read of it. -/
namespace Go.Proofs.YtejdaeonknpgeaaGreatDoor
open Go.ChangeShapes Go.WideShapes Go.ChangeAt Go.RowKit Go.Deep
theorem list_with {α : Type} {P : Nat → α → Prop} : ∀ (n : Nat), (∀ i, i < n → ∃ x, P i x) → ∃ l : List α, l.length = n ∧ ∀ i x, l[i]? = some x → P i x
  | 0, _ => ⟨[], rfl, fun i x h => by simp at h⟩
  | n + 1, h => by
    obtain ⟨l, hl, hp⟩ := list_with n (fun i hi => h i (by omega))
    obtain ⟨x, hx⟩ := h n (by omega)
    refine ⟨l ++ [x], by simp [hl], fun i y hy => ?_⟩
    rcases Nat.lt_or_ge i l.length with hi | hi
    · rw [List.getElem?_append_left hi] at hy; exact hp i y hy
    · rw [List.getElem?_append_right hi] at hy
      have hi0 : i - l.length = 0 := by
        have := (List.getElem?_eq_some_iff.1 hy).1
        simp at this; omega
      rw [hi0] at hy
      simp at hy
      subst hy
      obtain rfl : i = n := by omega
      exact hx
theorem trod_rows {α : Type} {f : α → List Value} {k : Nat} (hf : ∀ x, (f x).length = k) (hk : 0 < k) {P : Program} {H : Type} {enc : TypeId × Value → H} {W : World} {spare : Nat → Bool} {held : Bool} {fuel : Nat} {t e : TypeId} {cs : List Value} {x : DataW H × List MemPlace}
    (ht : P.underlying t = some (.slice e)) (hc : P.cellsOf e = k) (Inv : α → Prop) (hrec : ∀ n cs y, DataW.trod enc P W 0 spare held n e cs = some y → ∃ a, cs = f a ∧ Inv a) (h : DataW.trod enc P W 0 spare held fuel t cs = some x) :
    ∃ a l cap, cs = [.slice a l.length cap] ∧ Rd W a (rowsC f l) ∧ (∀ r ∈ l, Inv r) ∧ l.length ≤ cap ∧ cap ≤ 9223372036854775807 := by
  rcases open_slice ht h with ⟨rfl, -⟩ | ⟨a, len, cap, m, n, D, Pl, rfl, _, hl, hm, hmm, hx, hi⟩
  · exact ⟨none, [], 0, rfl, Rd.nil _ _, by simp, by simp, by simp⟩
  · have hmc : len ≤ m := by rw [hmm]; split <;> omega
    have hrec' : ∀ i, i < len → ∃ r : α, W.cells? 0 (a.add (i * k)) k = some (f r) ∧ Inv r := fun i hil => by
      obtain ⟨cs', hc', ht'⟩ := hi i (by omega)
      rw [hc] at hc'
      obtain ⟨r, rfl, h2⟩ := hrec _ _ _ ht'
      exact ⟨r, hc', h2⟩
    obtain ⟨L, hL, hP⟩ := list_with len hrec'
    refine ⟨some a, L, cap, by rw [hL], fun j u hj => ?_, fun r hr => ?_, by omega, by simpa [maxLen] using hm⟩
    · have hjl := (List.getElem?_eq_some_iff.1 hj).1
      rw [rowsC_length hf] at hjl
      have hk' : j / k < L.length := by
        rw [Nat.div_lt_iff_lt_mul hk]; exact hjl
      have hjm : j % k < k := Nat.mod_lt _ hk
      have hx : L[j / k]? = some L[j / k] := List.getElem?_eq_getElem hk'
      obtain ⟨hc', -⟩ := hP _ _ hx
      obtain ⟨-, hcl, hat⟩ := World.cells?_some hc'
      have hcell := hat (j % k) (by omega)
      have hjj : j / k * k + j % k = j := by rw [Nat.mul_comm]; exact Nat.div_add_mod j k
      rw [← rowsC_get hf hx hjm, hjj, hj] at hcell
      obtain ⟨g, off, sp⟩ := a
      have hsp : sp = none := by
        cases sp with
        | none => rfl
        | some x =>
          have hpos : 0 < L.length := Nat.lt_of_le_of_lt (Nat.zero_le _) hk'
          have hx0 : L[0]? = some L[0] := List.getElem?_eq_getElem (by omega)
          obtain ⟨hc0, -⟩ := hP _ _ hx0
          have h0 := (World.cells?_some hc0).2.2 0 (by omega)
          rw [Go.Deep.add_add, show 0 * k + 0 = 0 by omega] at h0
          have hne : (f L[0])[0]? ≠ none := by
            rw [List.getElem?_eq_getElem (by rw [hf]; exact hk)]; simp
          rw [← h0] at hne
          simp only [World.cell?, Addr.add, if_pos] at hne
          split at hne <;> simp at hne
      subst hsp
      refine ⟨g, off, rfl, ?_⟩
      rw [Go.Deep.add_add, hjj, Addr.add_lit] at hcell
      exact hcell
    · obtain ⟨i, hi, rfl⟩ := List.getElem_of_mem hr
      exact (hP i _ (List.getElem?_eq_getElem hi)).2
end Go.Proofs.YtejdaeonknpgeaaGreatDoor
