/- The order of members does not matter, nor do the names of persons. No program in sight. -/
import Derived.Test.YtejdaeonknpgeaaCndH
namespace Go.Proofs.Ytejdaeonknpgeaa
theorem dst_permO {α : Type} [DecidableEq α] {l l' : List α} (h : l.Perm l') : dst l = dst l' := by
  induction h with
  | nil => rfl
  | cons x hp ih => simp only [dst, ih, hp.mem_iff]
  | swap x y l =>
    simp only [dst, List.mem_cons]
    by_cases e : x = y
    · subst e; rfl
    · have e2 : ¬ y = x := fun h => e h.symm
      by_cases h1 : x ∈ l <;> by_cases h2 : y ∈ l <;> simp [e, e2, h1, h2] <;> omega
  | trans _ _ i1 i2 => exact i1.trans i2
theorem dst_injO {α β : Type} [DecidableEq α] [DecidableEq β] (f : α → β) (hf : ∀ x y, f x = f y → x = y) (l : List α) : dst (l.map f) = dst l := by
  induction l with
  | nil => rfl
  | cons x l ih =>
    have e : (f x ∈ l.map f) ↔ x ∈ l := by
      rw [List.mem_map]
      constructor
      · rintro ⟨y, hy, e⟩; exact hf y x e ▸ hy
      · intro h; exact ⟨x, h, rfl⟩
    simp only [List.map_cons, dst, ih, e]
def othB : List UInt8 := [111, 116, 104, 101, 114, 32]
def renM (m : Mem) : Mem := ⟨othB ++ m.person, m.number, m.dept, m.day, m.ans, m.aa, m.ac⟩
theorem othB_inj (x y : List UInt8) (h : othB ++ x = othB ++ y) : x = y := List.append_cancel_left h
theorem any_permO {α : Type} {l l' : List α} (h : l.Perm l') (p : α → Bool) : l.any p = l'.any p := by
  rw [Bool.eq_iff_iff, List.any_eq_true, List.any_eq_true]
  constructor
  · rintro ⟨x, hx, hp⟩; exact ⟨x, h.mem_iff.1 hx, hp⟩
  · rintro ⟨x, hx, hp⟩; exact ⟨x, h.mem_iff.2 hx, hp⟩
theorem pers_ren (l : List Mem) : dst ((l.map renM).map Mem.person) = dst (l.map Mem.person) := by
  rw [List.map_map, show (Mem.person ∘ renM) = ((fun x => othB ++ x) ∘ Mem.person) from rfl, ← List.map_map]
  exact dst_injO _ (fun x y h => othB_inj x y h) _
theorem leaf_ren (wi : Int → Int → Int → Bool) (t : Trm) (me : Mem) {o o' : List Mem} (h : o'.Perm (o.map renM)) : leafT wi t (renM me) o' = leafT wi t me o := by
  have e3 : dst (o'.map Mem.person) = dst (o.map Mem.person) := (dst_permO (h.map _)).trans (pers_ren o)
  have e4 : dst (me.dept :: o'.map Mem.dept) = dst (me.dept :: o.map Mem.dept) := by
    refine (dst_permO ((h.map Mem.dept).cons me.dept)).trans ?_
    rw [List.map_map]; rfl
  have fl : ∀ p : Mem → Bool, (∀ m, p (renM m) = p m) → dst ((o'.filter p).map Mem.person) = dst ((o.filter p).map Mem.person) := by
    intro p hp
    refine (dst_permO ((h.filter p).map _)).trans ?_
    rw [List.filter_map, show p ∘ renM = p from funext hp]
    exact pers_ren _
  have e5 := fl (fun m => wi me.day m.day t.years) (fun m => rfl)
  have e6 : o'.any (fun m => decide (m.number < me.number)) = o.any (fun m => decide (m.number < me.number)) := by
    rw [any_permO h, List.any_map]; rfl
  have e7 := fl (fun m => saysB t.field t.text m) (fun m => rfl)
  have e8 : saysB t.field t.text (renM me) = saysB t.field t.text me := rfl
  unfold leafT
  simp only [e3, e4, e5, e6, e7, e8, show (renM me).dept = me.dept from rfl, show (renM me).day = me.day from rfl, show (renM me).number = me.number from rfl]
theorem holds_ren (wi : Int → Int → Int → Bool) (T : List Trm) (me : Mem) {o o' : List Mem} (h : o'.Perm (o.map renM)) : ∀ f n, holdsT wi T (renM me) o' f n = holdsT wi T me o f n := by
  intro f
  induction f with
  | zero => intro n; rfl
  | succ f ih =>
    intro n
    simp only [holdsT, ih, leaf_ren wi _ me h]
theorem oth_ren (l : List Mem) (me : Mem) : (othF ((l.map renM).reverse) (renM me)).Perm ((othF l me).map renM) := by
  unfold othF
  rw [List.filter_reverse, List.filter_map]
  refine (List.reverse_perm _).trans ?_
  rw [show ((fun m : Mem => decide (m.person ≠ (renM me).person)) ∘ renM) = fun m : Mem => decide (m.person ≠ me.person) from funext fun m => by
    refine decide_eq_decide.2 (not_congr ⟨fun h => othB_inj _ _ h, fun h => ?_⟩)
    show othB ++ m.person = othB ++ me.person
    rw [h]]
def turnL (l : List Mem) : List Mem := (l.map renM).reverse
theorem turnL_len (l : List Mem) : (turnL l).length = l.length := by simp [turnL]
theorem turn_at (l : List Mem) (i : Nat) (hi : i < l.length) : (turnL l)[l.length - 1 - i]? = (l[i]?).map renM := by
  unfold turnL
  rw [List.getElem?_reverse (by simp; omega), List.length_map, show l.length - 1 - (l.length - 1 - i) = i by omega, List.getElem?_map]
/-- the next one of those that are turned round -/
theorem turn_next (l : List Mem) (k : Nat) (m : Mem) (hk : k < l.length) (hm : l[l.length - 1 - k]? = some m) : (turnL l).take (k + 1) = (turnL l).take k ++ [renM m] := by
  rw [List.take_add_one]
  have := turn_at l (l.length - 1 - k) (by omega)
  rw [show l.length - 1 - (l.length - 1 - k) = k by omega, hm] at this
  rw [this]; rfl
theorem term_turn (wi : Int → Int → Int → Bool) (T : List Trm) (l : List Mem) (i : Nat) (hi : i < l.length) : termF wi T 0 (turnL l) ((l.length : Int) - 1 - (i : Int)) = termF wi T 0 l (i : Int) := by
  have e1 : (((l.length : Int) - 1 - (i : Int))).toNat = l.length - 1 - i := by omega
  have h1 : (0 : Int) ≤ (l.length : Int) - 1 - (i : Int) := by omega
  have h2 : (0 : Int) ≤ (i : Int) := by omega
  unfold termF
  rw [if_pos h1, if_pos h2, e1, turn_at l i hi, Int.toNat_natCast, List.getElem?_eq_getElem hi]
  dsimp only [Option.map_some]
  rw [show turnL l = (l.map renM).reverse from rfl, holds_ren wi T _ (oth_ren l _)]
end Go.Proofs.Ytejdaeonknpgeaa
