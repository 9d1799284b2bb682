/- A law on a region that draws its order of evaluation: something that holds at its beginning, and that each operation keeps whenever it may come up, holds at its end. No program in sight. -/
import Derived.Test.YtpofijdkckaphaaGreatDoorBase
import Derived.Deep.DeepCutAuto
namespace Go.Proofs.YtpofijdkckaphaaGreatDoor
open Go.RowKit
section
variable {P : Program} {ops : Array Oper} {Q : Exit → Act → World → Prop}
/-- every edge that binds goes back in the text -/
def backB (ops : Array Oper) : Bool := (List.range ops.size).all fun i => ((ops[i]?).map (·.after.all fun e => !Region.binds .any e || decide (e.on < i))).getD true
theorem ready_nil (hB : backB ops = true) (listed : Array Bool) (hsz : listed.size = ops.size) (hr : Region.ready .any ops listed = []) : ∀ i, i < ops.size → listed.getD i false = true := by
  intro i
  induction i using Nat.strongRecOn with
  | ind i ih =>
    intro hi
    cases hc : listed.getD i false with
    | true => rfl
    | false =>
      exfalso
      have hil : i < listed.size := by omega
      have hc' : listed.getD i true = false := by
        rw [Array.getD_eq_getD_getElem?, Array.getElem?_eq_getElem hil] at hc ⊢
        exact hc
      have hmem : i ∈ Region.ready .any ops listed := by
        unfold Region.ready
        rw [List.mem_filter]
        refine ⟨List.mem_range.2 hi, ?_⟩
        have ho : ops[i]? = some ops[i] := Array.getElem?_eq_getElem hi
        rw [hc', ho]
        simp only [Bool.not_false, Bool.true_and, Option.map_some, Option.getD_some]
        rw [Array.all_eq_true]
        intro k hk
        unfold backB at hB
        rw [List.all_eq_true] at hB
        have h1 := hB i (List.mem_range.2 hi)
        rw [ho] at h1
        simp only [Option.map_some, Option.getD_some] at h1
        rw [Array.all_eq_true] at h1
        have h2 := h1 k hk
        cases hb : Region.binds .any (ops[i].after[k]) with
        | false => rfl
        | true =>
          rw [hb, Bool.not_true, Bool.false_or, decide_eq_true_eq] at h2
          rw [ih _ h2 (by omega), Bool.or_true]
      rw [hr] at hmem
      cases hmem
def upd (d : Nat → Bool) (i : Nat) : Nat → Bool := fun j => j == i || d j
def falses : List Bool → Nat
  | [] => 0
  | b :: l => (if b then 0 else 1) + falses l
theorem falses_set : ∀ (l : List Bool) (i : Nat), l[i]? = some false → falses (l.set i true) + 1 = falses l
  | [], i, h => by simp at h
  | b :: l, 0, h => by simp at h; subst h; simp [falses]; omega
  | b :: l, i + 1, h => by
    have := falses_set l i (by simpa using h)
    simp only [List.set_cons_succ, falses]
    omega
theorem falses_zero : ∀ (l : List Bool), falses l = 0 → ∀ i : Nat, l[i]? ≠ some false
  | [], _, i, h => by simp at h
  | b :: l, h0, 0, h => by simp at h; subst h; simp [falses] at h0
  | b :: l, h0, i + 1, h => falses_zero l (by simp only [falses] at h0; omega) i (by simpa using h)
theorem falses_le : ∀ (l : List Bool), falses l ≤ l.length
  | [] => Nat.le_refl _
  | b :: l => by have := falses_le l; simp only [falses, List.length_cons]; split <;> omega
/-- what each operation keeps, whenever it may come up -/
def StepsI (P : Program) (ops : Array Oper) (Q : Exit → Act → World → Prop) (I : (Nat → Bool) → Act → World → Prop) : Nat → List Oper → Prop
  | _, [] => True
  | i, o :: rest => (∀ (d : Nat → Bool) (a : Act) (w : World), d i = false → (∀ e ∈ o.after.toList, Region.binds .any e = true → d e.on = true) → I d a w →
      ∀ K : Act → World → Prop, (∀ a' w', I (upd d i) a' w' → K a' w') → if Region.wanted o (yielded ops a.tmps) = true then Oper.wp P o a w K Q else K (a.put o.dst undef) w) ∧ StepsI P ops Q I (i + 1) rest
theorem StepsI.at {I : (Nat → Bool) → Act → World → Prop} : ∀ (l : List Oper) (k : Nat), StepsI P ops Q I k l → ∀ i o, l[i]? = some o →
    (∀ (d : Nat → Bool) (a : Act) (w : World), d (k + i) = false → (∀ e ∈ o.after.toList, Region.binds .any e = true → d e.on = true) → I d a w →
      ∀ K : Act → World → Prop, (∀ a' w', I (upd d (k + i)) a' w' → K a' w') → if Region.wanted o (yielded ops a.tmps) = true then Oper.wp P o a w K Q else K (a.put o.dst undef) w)
  | [], _, _, i, o, h => by simp at h
  | o' :: l, k, hS, 0, o, h => by simp at h; subst h; exact hS.1
  | o' :: l, k, hS, i + 1, o, h => by
    have := StepsI.at l (k + 1) hS.2 i o (by simpa using h)
    rw [show k + 1 + i = k + (i + 1) by omega] at this
    exact this
theorem wpAny_inv {I : (Nat → Bool) → Act → World → Prop} {l : List Oper} (hB : backB l.toArray = true) (hs : StepsI P l.toArray Q I 0 l) (he : ∀ d a w, (∀ i, i < l.length → d i = true) → I d a w → Q .normal a w) :
    ∀ (fuel : Nat) (listed : Array Bool) (a : Act) (w : World), listed.size = l.length → falses listed.toList ≤ fuel → I (fun i => listed.getD i false) a w → wpAny P .any l.toArray Q fuel listed a w := by
  intro fuel
  induction fuel with
  | zero =>
    intro listed a w hsz hf hI
    have hall : ∀ i, i < l.length → listed.getD i false = true := by
      intro i hi
      have := falses_zero listed.toList (by omega) i
      rw [Array.getD_eq_getD_getElem?, Array.getElem?_eq_getElem (by omega)]
      simp only [Array.getElem?_toList, Array.getElem?_eq_getElem (show i < listed.size by omega)] at this
      simpa using this
    refine ⟨?_, he _ a w hall hI⟩
    unfold Region.ready
    rw [List.filter_eq_nil_iff]
    intro i hi
    have hi' : i < l.length := by simpa using List.mem_range.1 hi
    have h1 := hall i hi'
    rw [Array.getD_eq_getD_getElem?, Array.getElem?_eq_getElem (by omega)] at h1 ⊢
    simp only [Option.getD_some] at h1
    rw [Option.getD_some, h1]
    simp
  | succ fuel ih =>
    intro listed a w hsz hf hI
    refine ⟨fun hr => he _ a w (fun i hi => ready_nil hB listed (by simpa using hsz) hr i (by simpa using hi)) hI, ?_⟩
    intro i hi
    unfold Region.ready at hi
    rw [List.mem_filter] at hi
    obtain ⟨hi1, hi2⟩ := hi
    have hil : i < l.length := by simpa using List.mem_range.1 hi1
    have ho : l.toArray[i]? = some l[i] := by simp [hil]
    rw [ho] at hi2
    simp only [Option.map_some, Option.getD_some, Bool.and_eq_true, Bool.not_eq_true'] at hi2
    obtain ⟨hn, hedges⟩ := hi2
    have hg : listed[i]'(by omega) = false := by
      rw [Array.getD_eq_getD_getElem?, Array.getElem?_eq_getElem (by omega)] at hn
      exact hn
    refine wpOp_step ho (fun K' hK => ?_)
    have hstep := StepsI.at l 0 hs i l[i] (by simp [hil]) (fun i => listed.getD i false) a w
    simp only [Nat.zero_add] at hstep
    refine hstep ?_ ?_ hI K' ?_
    · rw [Array.getD_eq_getD_getElem?, Array.getElem?_eq_getElem (by omega)]; exact hg
    · intro e he' hb
      rw [Array.all_eq_true] at hedges
      obtain ⟨k, hk, rfl⟩ := List.getElem_of_mem he'
      have := hedges k (by simpa using hk)
      simp only [Array.getElem_toList] at hb ⊢
      rw [hb] at this
      simpa using this
    · intro a' w' hI'
      refine hK _ _ (ih _ a' w' (by simpa using hsz) ?_ ?_)
      · have := falses_set listed.toList i (by simp [hg, show i < listed.size by omega])
        rw [Array.toList_setIfInBounds]
        omega
      · have hd : (fun j => (listed.setIfInBounds i true).getD j false) = upd (fun j => listed.getD j false) i := by
          funext j
          unfold upd
          simp only [Array.getD_eq_getD_getElem?]
          by_cases hj : j = i
          · subst hj
            rw [Array.getElem?_setIfInBounds_self_of_lt (by omega)]
            simp
          · rw [Array.getElem?_setIfInBounds_ne (fun e => hj e.symm)]
            simp [hj]
        rw [hd]
        exact hI'
/-- THE LAW. -/
theorem wp_region_inv {id : Nat} {a : Act} {w : World} {l : List Oper} (I : (Nat → Bool) → Act → World → Prop) (hm : P.follows .mixedOrders = true) (hB : backB l.toArray = true)
    (h0 : I (fun _ => false) a w.drew) (hs : StepsI P l.toArray Q I 0 l) (he : ∀ d a w, (∀ i, i < l.length → d i = true) → I d a w → Q .normal a w) : (Code.region id l.toArray true).wp P Q a w := by
  refine wp_region_any hm ?_
  refine wpAny_inv hB hs he _ _ a _ (by simp) ?_ ?_
  · have := falses_le (Array.replicate l.toArray.size false).toList
    simpa using this
  · have hd : (fun i => (Array.replicate l.toArray.size false).getD i false) = fun _ => false := by
      funext i
      rw [Array.getD_eq_getD_getElem?, Array.getElem?_replicate]
      split <;> rfl
    rw [hd]
    exact h0
/-- A cut around a statement that is the last of its sequence: what follows is made a variable ('go_cut' asks for one). -/
theorem cut_last {c : Code} {a : Act} {w : World} (h : ∀ K : Act → World → Prop, Hid (∀ a w, Q .normal a w → K a w) → c.wp P (Exit.then K Q) a w) : c.wp P Q a w := by
  refine Code.wp_mono ?_ (h (fun a w => Q .normal a w) (fun _ _ h => h))
  intro e a w h
  cases e <;> exact h
end
end Go.Proofs.YtpofijdkckaphaaGreatDoor
