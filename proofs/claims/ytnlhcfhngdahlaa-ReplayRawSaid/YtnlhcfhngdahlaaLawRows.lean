/- A slice of structs, wherever it stands among a law's arguments: what can be read of it. -/
import Derived.Test.YtnlhcfhngdahlaaLaw
import Derived.Test.YtnlhcfhngdahlaaRowsC
import Derived.Deep.Slices
namespace Go.Proofs.Ytnlhcfhngdahlaa
open Go.ChangeShapes Go.WideShapes Go.ChangeAt Go.RowKit Go.Deep
theorem list_with {α : Type} {P : Nat → α → Prop} : ∀ (n : Nat), (∀ i, i < n → ∃ x, P i x) → ∃ l : List α, l.length = n ∧ ∀ i x, l[i]? = some x → P i x
  | 0, _ => ⟨[], rfl, fun i x h => by simp at h⟩
  | n + 1, h => by
    obtain ⟨l, hl, hp⟩ := list_with n (fun i hi => h i (by omega))
    obtain ⟨x, hx⟩ := h n (by omega)
    refine ⟨l ++ [x], by simp [hl], fun i y hy => ?_⟩
    rcases Nat.lt_or_ge i l.length with hi | hi
    · rw [List.getElem?_append_left hi] at hy; exact hp i y hy
    · rw [List.getElem?_append_right hi] at hy
      have hi0 : i - l.length = 0 := by
        have := (List.getElem?_eq_some_iff.1 hy).1
        simp at this; omega
      rw [hi0] at hy
      simp at hy
      subst hy
      obtain rfl : i = n := by omega
      exact hx
theorem trod_rows {α : Type} {f : α → List Value} {k : Nat} (hf : ∀ x, (f x).length = k) (hk : 0 < k) {P : Program} {H : Type} {enc : TypeId × Value → H} {W : World} {spare : Nat → Bool} {held : Bool} {fuel : Nat} {t e : TypeId} {cs : List Value} {x : DataW H × List MemPlace}
    (ht : P.underlying t = some (.slice e)) (hc : P.cellsOf e = k) (Inv : α → Prop) (hrec : ∀ n cs y, DataW.trod enc P W 0 spare held n e cs = some y → ∃ a, cs = f a ∧ Inv a) (h : DataW.trod enc P W 0 spare held fuel t cs = some x) :
    ∃ a l cap, cs = [.slice a l.length cap] ∧ Rd W a (rowsC f l) ∧ (∀ r ∈ l, Inv r) ∧ l.length ≤ cap ∧ cap ≤ 9223372036854775807 := by
  rcases open_slice ht h with ⟨rfl, -⟩ | ⟨a, len, cap, m, n, D, Pl, rfl, _, hl, hm, hmm, hx, hi⟩
  · exact ⟨none, [], 0, rfl, Rd.nil _ _, by simp, by simp, by simp⟩
  · have hmc : len ≤ m := by rw [hmm]; split <;> omega
    have hrec' : ∀ i, i < len → ∃ r : α, W.cells? 0 (a.add (i * k)) k = some (f r) ∧ Inv r := fun i hil => by
      obtain ⟨cs', hc', ht'⟩ := hi i (by omega)
      rw [hc] at hc'
      obtain ⟨r, rfl, h2⟩ := hrec _ _ _ ht'
      exact ⟨r, hc', h2⟩
    obtain ⟨L, hL, hP⟩ := list_with len hrec'
    refine ⟨some a, L, cap, by rw [hL], fun j u hj => ?_, fun r hr => ?_, by omega, by simpa [maxLen] using hm⟩
    · have hjl := (List.getElem?_eq_some_iff.1 hj).1
      rw [rowsC_length hf] at hjl
      have hk' : j / k < L.length := by
        rw [Nat.div_lt_iff_lt_mul hk]; exact hjl
      have hjm : j % k < k := Nat.mod_lt _ hk
      have hx : L[j / k]? = some L[j / k] := List.getElem?_eq_getElem hk'
      obtain ⟨hc', -⟩ := hP _ _ hx
      obtain ⟨-, hcl, hat⟩ := World.cells?_some hc'
      have hcell := hat (j % k) (by omega)
      have hjj : j / k * k + j % k = j := by rw [Nat.mul_comm]; exact Nat.div_add_mod j k
      rw [← rowsC_get hf hx hjm, hjj, hj] at hcell
      obtain ⟨g, off, sp⟩ := a
      have hsp : sp = none := by
        cases sp with
        | none => rfl
        | some x =>
          have hpos : 0 < L.length := Nat.lt_of_le_of_lt (Nat.zero_le _) hk'
          have hx0 : L[0]? = some L[0] := List.getElem?_eq_getElem (by omega)
          obtain ⟨hc0, -⟩ := hP _ _ hx0
          have h0 := (World.cells?_some hc0).2.2 0 (by omega)
          rw [Go.Deep.add_add, show 0 * k + 0 = 0 by omega] at h0
          have hne : (f L[0])[0]? ≠ none := by
            rw [List.getElem?_eq_getElem (by rw [hf]; exact hk)]; simp
          rw [← h0] at hne
          simp only [World.cell?, Addr.add, if_pos] at hne
          split at hne <;> simp at hne
      subst hsp
      refine ⟨g, off, rfl, ?_⟩
      rw [Go.Deep.add_add, hjj, Addr.add_lit] at hcell
      exact hcell
    · obtain ⟨i, hi, rfl⟩ := List.getElem_of_mem hr
      exact (hP i _ (List.getElem?_eq_getElem hi)).2
end Go.Proofs.Ytnlhcfhngdahlaa
