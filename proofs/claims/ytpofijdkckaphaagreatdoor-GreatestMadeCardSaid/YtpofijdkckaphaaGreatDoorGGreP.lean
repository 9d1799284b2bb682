/- The greatest set that opens itself: what the document says of it, over any test of a condition. No program in sight. -/
import Derived.Test.YtpofijdkckaphaaGreatDoorBase
namespace Go.Proofs.YtpofijdkckaphaaGreatDoor
/-- the seats of a set that go: op = opened, H A i = the condition of i holds among the members of A -/
def goesP (op : Int → Bool) (H : List Int → Int → Bool) (A : List Int) : List Int := A.filter fun i => !(op i || H A i)
def lessP (A B : List Int) : List Int := A.filter fun i => !decide (i ∈ B)
def runP (op : Int → Bool) (H : List Int → Int → Bool) : Nat → List Int → List (List Int) → List Int × List (List Int)
  | 0, A, r => (A, r)
  | f + 1, A, r => if goesP op H A = [] then (A, r) else runP op H f (lessP A (goesP op H A)) (r ++ [goesP op H A])
/-- the numbers from 0 to n - 1 -/
def upI (n : Nat) : List Int := (List.range n).map Int.ofNat
def setP (op : Int → Bool) (H : List Int → Int → Bool) (n : Nat) : List Int := (runP op H (n + 1) (upI n) []).1
def roundsP (op : Int → Bool) (H : List Int → Int → Bool) (n : Nat) : List (List Int) := (runP op H (n + 1) (upI n) []).2
/-- strictly ascending, of numbers from 0 to n - 1 -/
def riseP (n : Nat) (A : List Int) : Bool := decide (A.Pairwise (· < ·)) && A.all fun i => decide (0 ≤ i ∧ i < (n : Int))
def opensP (op : Int → Bool) (H : List Int → Int → Bool) (n : Nat) (A : List Int) : Bool :=
  riseP n A && (upI n).all fun i => !(op i && !decide (i ∈ A)) && !(!op i && (decide (i ∈ A) && !H A i))
def MonoH (H : List Int → Int → Bool) : Prop := ∀ A B i, (∀ x ∈ A, x ∈ B) → i ∈ A → H A i = true → H B i = true
theorem mem_upI {n : Nat} {i : Int} : i ∈ upI n ↔ 0 ≤ i ∧ i < (n : Int) := by
  unfold upI
  rw [List.mem_map]
  constructor
  · rintro ⟨k, hk, rfl⟩
    have := List.mem_range.1 hk
    exact ⟨Int.natCast_nonneg k, by show (k : Int) < n; omega⟩
  · rintro ⟨h0, h1⟩
    exact ⟨i.toNat, List.mem_range.2 (by omega), by show (i.toNat : Int) = i; omega⟩
theorem upI_pair (n : Nat) : (upI n).Pairwise (· < ·) := by
  unfold upI
  rw [List.pairwise_map]
  exact List.pairwise_lt_range.imp (fun {a b} h => by show (a : Int) < (b : Int); omega)
theorem upI_len (n : Nat) : (upI n).length = n := by simp [upI]
theorem goes_less (op : Int → Bool) (H : List Int → Int → Bool) (A : List Int) : lessP A (goesP op H A) = A.filter fun i => op i || H A i := by
  unfold lessP goesP
  refine List.filter_congr (fun i hi => ?_)
  rw [Bool.eq_iff_iff]
  simp only [List.mem_filter, Bool.not_eq_true', decide_eq_false_iff_not, hi, true_and]
  cases (op i || H A i) <;> simp
theorem less_sub {A B : List Int} : (lessP A B).Sublist A := List.filter_sublist
theorem less_mem {A B : List Int} {i : Int} : i ∈ lessP A B ↔ i ∈ A ∧ i ∉ B := by
  unfold lessP
  rw [List.mem_filter]
  simp
theorem goes_mem {op : Int → Bool} {H : List Int → Int → Bool} {A : List Int} {i : Int} : i ∈ goesP op H A ↔ i ∈ A ∧ op i = false ∧ H A i = false := by
  unfold goesP
  rw [List.mem_filter]
  simp
theorem goes_nil {op : Int → Bool} {H : List Int → Int → Bool} {A : List Int} : goesP op H A = [] ↔ ∀ i ∈ A, op i = true ∨ H A i = true := by
  rw [List.eq_nil_iff_forall_not_mem]
  constructor
  · intro h i hi
    have := h i
    rw [goes_mem] at this
    cases h1 : op i <;> cases h2 : H A i <;> simp_all
  · intro h i hi
    rw [goes_mem] at hi
    rcases h i hi.1 with h1 | h1
    · rw [hi.2.1] at h1; cases h1
    · rw [hi.2.2] at h1; cases h1
theorem less_lt {A B : List Int} {i : Int} (h1 : i ∈ A) (h2 : i ∈ B) : (lessP A B).length < A.length := by
  have hs : (lessP A B).length ≤ A.length := less_sub.length_le
  rcases Nat.lt_or_ge (lessP A B).length A.length with h | h
  · exact h
  · have he := (less_sub (A := A) (B := B)).eq_of_length (by omega)
    rw [← he] at h1
    exact absurd h2 (less_mem.1 h1).2
theorem goes_lt {op : Int → Bool} {H : List Int → Int → Bool} {A : List Int} (h : goesP op H A ≠ []) : (lessP A (goesP op H A)).length < A.length := by
  obtain ⟨i, hi⟩ := List.exists_mem_of_ne_nil _ h
  exact less_lt (goes_mem.1 hi).1 hi
/-- at the end none goes -/
theorem run_done (op : Int → Bool) (H : List Int → Int → Bool) : ∀ (f : Nat) (A : List Int) (r : List (List Int)), A.length < f → goesP op H (runP op H f A r).1 = [] := by
  intro f
  induction f with
  | zero => intro A r h; omega
  | succ f ih =>
    intro A r h
    rw [runP]
    split
    · assumption
    · rename_i hg
      exact ih _ _ (by have := goes_lt hg; omega)
theorem run_sub (op : Int → Bool) (H : List Int → Int → Bool) : ∀ (f : Nat) (A : List Int) (r : List (List Int)), (runP op H f A r).1.Sublist A := by
  intro f
  induction f with
  | zero => intro A r; exact List.Sublist.refl _
  | succ f ih =>
    intro A r
    rw [runP]
    split
    · exact List.Sublist.refl _
    · exact (ih _ _).trans less_sub
/-- what opens itself stays -/
theorem run_keeps {op : Int → Bool} {H : List Int → Int → Bool} (hm : MonoH H) {S : List Int} (hS : ∀ i ∈ S, op i = true ∨ H S i = true) : ∀ (f : Nat) (A : List Int) (r : List (List Int)), (∀ i ∈ S, i ∈ A) → ∀ i ∈ S, i ∈ (runP op H f A r).1 := by
  intro f
  induction f with
  | zero => intro A r h; exact h
  | succ f ih =>
    intro A r h
    rw [runP]
    split
    · exact h
    · refine ih _ _ (fun i hi => less_mem.2 ⟨h i hi, fun hg => ?_⟩)
      obtain ⟨_, h1, h2⟩ := goes_mem.1 hg
      rcases hS i hi with h3 | h3
      · rw [h1] at h3; cases h3
      · rw [hm S A i h hi h3] at h2; cases h2
theorem run_opened (op : Int → Bool) (H : List Int → Int → Bool) : ∀ (f : Nat) (A : List Int) (r : List (List Int)) (i : Int), i ∈ A → op i = true → i ∈ (runP op H f A r).1 := by
  intro f
  induction f with
  | zero => intro A r i h _; exact h
  | succ f ih =>
    intro A r i h ho
    rw [runP]
    split
    · exact h
    · refine ih _ _ i (less_mem.2 ⟨h, fun hg => ?_⟩) ho
      rw [(goes_mem.1 hg).2.1] at ho; cases ho
theorem set_done (op : Int → Bool) (H : List Int → Int → Bool) (n : Nat) : ∀ i ∈ setP op H n, op i = true ∨ H (setP op H n) i = true :=
  goes_nil.1 (run_done op H (n + 1) (upI n) [] (by rw [upI_len]; omega))
theorem set_sub (op : Int → Bool) (H : List Int → Int → Bool) (n : Nat) : (setP op H n).Sublist (upI n) := run_sub ..
theorem set_opened {op : Int → Bool} {H : List Int → Int → Bool} {n : Nat} {i : Int} (h : i ∈ upI n) (ho : op i = true) : i ∈ setP op H n := run_opened _ _ _ _ _ _ h ho
theorem set_keeps {op : Int → Bool} {H : List Int → Int → Bool} (hm : MonoH H) {n : Nat} {S : List Int} (hS : ∀ i ∈ S, op i = true ∨ H S i = true) (hu : ∀ i ∈ S, i ∈ upI n) : ∀ i ∈ S, i ∈ setP op H n := run_keeps hm hS _ _ _ hu
theorem rise_sub {n : Nat} {A : List Int} (h : A.Sublist (upI n)) : riseP n A = true := by
  unfold riseP
  rw [Bool.and_eq_true]
  refine ⟨decide_eq_true ((upI_pair n).sublist h), List.all_eq_true.2 (fun i hi => decide_eq_true (mem_upI.1 (h.subset hi)))⟩
theorem set_opens (op : Int → Bool) (H : List Int → Int → Bool) (n : Nat) : opensP op H n (setP op H n) = true := by
  unfold opensP
  rw [Bool.and_eq_true]
  refine ⟨rise_sub (set_sub ..), List.all_eq_true.2 (fun i hi => ?_)⟩
  have h1 := set_done op H n i
  have h2 := set_opened (op := op) (H := H) hi
  cases ho : op i with
  | true => rw [decide_eq_true (h2 ho)]; rfl
  | false =>
    by_cases hs : i ∈ setP op H n
    · rcases h1 hs with h3 | h3
      · rw [ho] at h3; cases h3
      · rw [h3, decide_eq_true hs]; rfl
    · rw [decide_eq_false hs]; rfl
/-- two parts of the numbers with the same elements are the same -/
theorem sub_ext {n : Nat} {A B : List Int} (hA : A.Sublist (upI n)) (hB : B.Sublist (upI n)) (h : ∀ i, i ∈ A ↔ i ∈ B) : A = B := by
  have h1 := (upI_pair n).sublist hA
  have h2 := (upI_pair n).sublist hB
  clear hA hB
  induction A generalizing B with
  | nil =>
    cases B with
    | nil => rfl
    | cons b B => exact absurd ((h b).2 List.mem_cons_self) (by simp)
  | cons a A ih =>
    cases B with
    | nil => exact absurd ((h a).1 List.mem_cons_self) (by simp)
    | cons b B =>
      rw [List.pairwise_cons] at h1 h2
      have hab : a = b := by
        rcases List.mem_cons.1 ((h a).1 List.mem_cons_self) with e | e
        · exact e
        · rcases List.mem_cons.1 ((h b).2 List.mem_cons_self) with e2 | e2
          · exact e2.symm
          · have := h2.1 a e
            have := h1.1 b e2
            omega
      subst hab
      rw [ih (fun i => ?_) h1.2 h2.2]
      constructor
      · intro hi
        rcases List.mem_cons.1 ((h i).1 (List.mem_cons_of_mem _ hi)) with e | e
        · have := h1.1 i hi; omega
        · exact e
      · intro hi
        rcases List.mem_cons.1 ((h i).2 (List.mem_cons_of_mem _ hi)) with e | e
        · have := h2.1 i hi; omega
        · exact e
/-- Whoever takes away some of those that go, until none goes, comes to the same set. -/
theorem set_any {op : Int → Bool} {H : List Int → Int → Bool} (hm : MonoH H) {n : Nat} {L : List Int} (hs : L.Sublist (upI n)) (hk : ∀ i ∈ setP op H n, i ∈ L) (hd : goesP op H L = []) : setP op H n = L :=
  sub_ext (set_sub ..) hs (fun i => ⟨hk i, set_keeps hm (goes_nil.1 hd) (fun _ hj => hs.subset hj) i⟩)
theorem step_any {op : Int → Bool} {H : List Int → Int → Bool} (hm : MonoH H) {n : Nat} {L B : List Int} (hk : ∀ i ∈ setP op H n, i ∈ L) (hB : ∀ i ∈ B, i ∈ goesP op H L) : ∀ i ∈ setP op H n, i ∈ lessP L B := fun i hi =>
  less_mem.2 ⟨hk i hi, fun hb => by
    obtain ⟨_, h1, h2⟩ := goes_mem.1 (hB i hb)
    rcases set_done op H n i hi with h3 | h3
    · rw [h1] at h3; cases h3
    · rw [hm _ L i hk hi h3] at h2; cases h2⟩
/-- to open the whole set changes nothing -/
theorem set_again {op op' : Int → Bool} {H : List Int → Int → Bool} (hm : MonoH H) {n : Nat} (ho : ∀ i ∈ upI n, op' i = (op i || decide (i ∈ setP op H n))) : setP op' H n = setP op H n := by
  have hu : ∀ i ∈ setP op H n, i ∈ upI n := fun i hi => (set_sub op H n).subset hi
  have hu' : ∀ i ∈ setP op' H n, i ∈ upI n := fun i hi => (set_sub op' H n).subset hi
  have h1 : ∀ i ∈ setP op H n, i ∈ setP op' H n := set_keeps hm (fun i hi => Or.inl (by rw [ho i (hu i hi), decide_eq_true hi, Bool.or_true])) hu
  refine sub_ext (set_sub ..) (set_sub ..) (fun i => ⟨?_, h1 i⟩)
  refine set_keeps hm (fun i hi => ?_) hu' i
  rcases set_done op' H n i hi with h | h
  · rw [ho i (hu' i hi), Bool.or_eq_true] at h
    rcases h with h | h
    · exact Or.inl h
    · have hs := of_decide_eq_true h
      rcases set_done op H n i hs with h2 | h2
      · exact Or.inl h2
      · exact Or.inr (hm _ _ i h1 hs h2)
  · exact Or.inr h
/-- if nobody needs anything, all stay -/
theorem set_free {op : Int → Bool} {H : List Int → Int → Bool} {n : Nat} (h : ∀ i ∈ upI n, H (upI n) i = true) : setP op H n = upI n := by
  unfold setP
  rw [runP, if_pos (goes_nil.2 (fun i hi => Or.inr (h i hi)))]
/-- the order of the seats does not matter: one half -/
theorem set_turn {op op' : Int → Bool} {H H' : List Int → Int → Bool} {n : Nat} {rv : Int → Int} (hm : MonoH H') (hr : ∀ i ∈ upI n, rv i ∈ upI n) (ho : ∀ i ∈ upI n, op' (rv i) = op i) (hH : ∀ A, (∀ i ∈ A, i ∈ upI n) → ∀ i ∈ A, H' (A.map rv) (rv i) = H A i) : ∀ i ∈ setP op H n, rv i ∈ setP op' H' n := by
  intro i hi
  have hu : ∀ i ∈ setP op H n, i ∈ upI n := fun i hi => (set_sub op H n).subset hi
  refine set_keeps hm (S := (setP op H n).map rv) (fun j hj => ?_) (fun j hj => ?_) _ (List.mem_map_of_mem hi)
  · obtain ⟨k, hk, rfl⟩ := List.mem_map.1 hj
    rw [ho k (hu k hk), hH _ hu k hk]
    exact set_done op H n k hk
  · obtain ⟨k, hk, rfl⟩ := List.mem_map.1 hj
    exact hr k (hu k hk)
theorem set_pair (op : Int → Bool) (H : List Int → Int → Bool) (n : Nat) : (setP op H n).Pairwise (· < ·) := (upI_pair n).sublist (set_sub ..)
/-- a list without twins all of whose elements another one has is no longer than that one -/
theorem len_inj {rv : Int → Int} : ∀ (A B : List Int), A.Pairwise (fun x y => rv x ≠ rv y) → (∀ i ∈ A, rv i ∈ B) → A.length ≤ B.length := by
  intro A
  induction A with
  | nil => intro B _ _; exact Nat.zero_le _
  | cons a A ih =>
    intro B hp h
    rw [List.pairwise_cons] at hp
    have ha := h a List.mem_cons_self
    have := ih (B.erase (rv a)) hp.2 (fun i hi => (List.mem_erase_of_ne (fun e => hp.1 i hi e.symm)).2 (h i (List.mem_cons_of_mem _ hi)))
    have he := List.length_erase_of_mem ha
    have := List.length_pos_of_mem ha
    rw [List.length_cons]
    omega
def partsP (n : Nat) (A : List Int) (R : List (List Int)) : Bool :=
  riseP n A && ((R.all fun r => !r.isEmpty && riseP n r) && (upI n).all fun i => decide ((A ++ R.flatten).count i = 1))
def stepsP (op : Int → Bool) (H : List Int → Int → Bool) : List Int → List (List Int) → Bool
  | _, [] => true
  | L, r :: R => (r.all fun i => !(op i || H L i)) && stepsP op H (lessP L r) R
def endP : List Int → List (List Int) → List Int
  | L, [] => L
  | L, r :: R => endP (lessP L r) R
def roundP (R : List (List Int)) (s : Int) : Int := match R.findIdx? fun r => decide (s ∈ r) with
  | some k => (k : Int)
  | none => -1
def needsP (H : List Int → Int → Bool) (n : Nat) (A : List Int) (s : Int) : List Int :=
  if riseP n A && decide (s ∈ A) then A.filter fun i => !(decide (i = s) || H (lessP A [i]) s) else []
theorem end_snoc (L : List Int) (R : List (List Int)) (r : List Int) : endP L (R ++ [r]) = lessP (endP L R) r := by
  induction R generalizing L with
  | nil => rfl
  | cons a R ih => exact ih _
theorem steps_snoc (op : Int → Bool) (H : List Int → Int → Bool) (L : List Int) (R : List (List Int)) (r : List Int) : stepsP op H L (R ++ [r]) = (stepsP op H L R && r.all fun i => !(op i || H (endP L R) i)) := by
  induction R generalizing L with
  | nil => simp [stepsP, endP]
  | cons a R ih => rw [List.cons_append, stepsP, ih, stepsP, endP, Bool.and_assoc]
/-- rounds that were taken so far, and what is left -/
structure Chk (op : Int → Bool) (H : List Int → Int → Bool) (n : Nat) (L : List Int) (R : List (List Int)) : Prop where
  sub : L.Sublist (upI n)
  fin : L = endP (upI n) R
  steps : stepsP op H (upI n) R = true
  all : (R.all fun r => !r.isEmpty && riseP n r) = true
  cnt : ∀ i ∈ upI n, (L ++ R.flatten).count i = 1
  keep : MonoH H → ∀ i ∈ setP op H n, i ∈ L
theorem pair_count {A : List Int} (h : A.Pairwise (· < ·)) {i : Int} (hi : i ∈ A) : A.count i = 1 := by
  have hn : A.Nodup := h.imp (fun {a b} hab => by omega)
  have h1 := List.nodup_iff_count.1 hn i
  have h2 := List.count_pos_iff.2 hi
  omega
theorem Chk.first (op : Int → Bool) (H : List Int → Int → Bool) (n : Nat) : Chk op H n (upI n) [] where
  sub := List.Sublist.refl _
  fin := rfl
  steps := rfl
  all := rfl
  cnt := fun i hi => by rw [List.flatten_nil, List.append_nil]; exact pair_count (upI_pair n) hi
  keep := fun _ i hi => (set_sub op H n).subset hi
theorem less_count {A B : List Int} {i : Int} : (lessP A B).count i = if i ∈ B then 0 else A.count i := by
  split
  · rename_i h
    exact List.count_eq_zero.2 (fun hc => (less_mem.1 hc).2 h)
  · rename_i h
    unfold lessP
    exact List.count_filter (by simpa using h)
theorem Chk.step {op : Int → Bool} {H : List Int → Int → Bool} {n : Nat} {L : List Int} {R : List (List Int)} (h : Chk op H n L R) {r : List Int} (hr : r.Sublist (goesP op H L)) (h0 : r ≠ []) : Chk op H n (lessP L r) (R ++ [r]) where
  sub := less_sub.trans h.sub
  fin := by rw [end_snoc, ← h.fin]
  steps := by
    rw [steps_snoc, h.steps, Bool.true_and, ← h.fin]
    refine List.all_eq_true.2 (fun i hi => ?_)
    obtain ⟨_, h1, h2⟩ := goes_mem.1 (hr.subset hi)
    rw [h1, h2]; rfl
  all := by
    rw [List.all_append, h.all, Bool.true_and]
    have hs : r.Sublist (upI n) := (hr.trans (List.filter_sublist (l := L))).trans h.sub
    have he : r.isEmpty = false := by cases r <;> simp_all
    simp [rise_sub hs, he]
  cnt := fun i hi => by
    have hc := h.cnt i hi
    have hs : r.Sublist L := hr.trans (List.filter_sublist (l := L))
    have hp := (upI_pair n).sublist (hs.trans h.sub)
    rw [List.count_append] at hc
    rw [List.flatten_append, List.count_append, List.count_append, less_count, List.flatten_singleton]
    by_cases hm : i ∈ r
    · rw [if_pos hm, pair_count hp hm]
      have := pair_count ((upI_pair n).sublist h.sub) (hs.subset hm)
      omega
    · rw [if_neg hm, List.count_eq_zero.2 hm]
      omega
  keep := fun hm => step_any hm (h.keep hm) (fun _ hi => hr.subset hi)
/-- what is left when none goes: the greatest set; the rounds are right -/
theorem Chk.set {op : Int → Bool} {H : List Int → Int → Bool} {n : Nat} {L : List Int} {R : List (List Int)} (h : Chk op H n L R) (hm : MonoH H) (hd : goesP op H L = []) : setP op H n = L :=
  set_any hm h.sub (h.keep hm) hd
theorem Chk.parts {op : Int → Bool} {H : List Int → Int → Bool} {n : Nat} {L : List Int} {R : List (List Int)} (h : Chk op H n L R) : partsP n L R = true := by
  unfold partsP
  rw [rise_sub h.sub, h.all, Bool.true_and, Bool.true_and]
  exact List.all_eq_true.2 (fun i hi => decide_eq_true (h.cnt i hi))
theorem Chk.opens {op : Int → Bool} {H : List Int → Int → Bool} {n : Nat} {L : List Int} {R : List (List Int)} (h : Chk op H n L R) (hm : MonoH H) (hd : goesP op H L = []) : opensP op H n L = true := by
  rw [← h.set hm hd]
  exact set_opens op H n
theorem Chk.shorter {op : Int → Bool} {H : List Int → Int → Bool} {n : Nat} {L : List Int} {R : List (List Int)} (h : Chk op H n L R) : L.length + R.length ≤ n := by
  have hp : (upI n).Nodup := (upI_pair n).imp (fun {a b} hab => by omega)
  have hl : (L ++ R.flatten).length ≤ n := by
    have hnd : (L ++ R.flatten).Nodup := by
      rw [List.nodup_iff_count]
      intro i
      by_cases hi : i ∈ upI n
      · rw [h.cnt i hi]; exact Nat.le_refl 1
      · have : i ∉ L ++ R.flatten := fun hc => by
          rcases List.mem_append.1 hc with hc | hc
          · exact hi (h.sub.subset hc)
          · obtain ⟨r, hr, hir⟩ := List.mem_flatten.1 hc
            have := List.all_eq_true.1 h.all r hr
            rw [Bool.and_eq_true] at this
            have h2 := this.2
            unfold riseP at h2
            rw [Bool.and_eq_true] at h2
            exact hi (mem_upI.2 (of_decide_eq_true (List.all_eq_true.1 h2.2 i hir)))
        rw [List.count_eq_zero.2 this]; exact Nat.zero_le _
    have := len_inj (rv := fun x => x) (L ++ R.flatten) (upI n) (hnd.imp (fun {a b} hab => hab)) (fun i hi => by
      rcases List.mem_append.1 hi with hc | hc
      · exact h.sub.subset hc
      · obtain ⟨r, hr, hir⟩ := List.mem_flatten.1 hc
        have := List.all_eq_true.1 h.all r hr
        rw [Bool.and_eq_true] at this
        have h2 := this.2
        unfold riseP at h2
        rw [Bool.and_eq_true] at h2
        exact mem_upI.2 (of_decide_eq_true (List.all_eq_true.1 h2.2 i hir)))
    rw [upI_len] at this
    exact this
  rw [List.length_append] at hl
  have hf : ∀ R : List (List Int), (R.all fun r => !r.isEmpty && riseP n r) = true → R.length ≤ R.flatten.length := by
    intro R
    induction R with
    | nil => intro _; exact Nat.zero_le _
    | cons r R ih =>
      intro h
      rw [List.all_cons, Bool.and_eq_true, Bool.and_eq_true] at h
      have := ih h.2
      have h1 : r ≠ [] := fun e => by rw [e] at h; simp at h
      have := List.length_pos_iff.2 h1
      rw [List.flatten_cons, List.length_append, List.length_cons]
      omega
  have := hf R h.all
  omega
/-- where a number stands, -1: nowhere -/
def idxS (A : List Int) (s : Int) : Int := match A.findIdx? fun x => decide (x = s) with
  | some k => (k : Int)
  | none => -1
theorem idx_mem {A : List Int} {s : Int} (h : s ∈ A) : ∃ k : Nat, idxS A s = (k : Int) ∧ A[k]? = some s := by
  unfold idxS
  cases hf : A.findIdx? fun x => decide (x = s) with
  | none => exact absurd (List.findIdx?_eq_none_iff.1 hf s h) (by simp)
  | some k =>
    refine ⟨k, rfl, ?_⟩
    obtain ⟨hk, h1, _⟩ := List.findIdx?_eq_some_iff_getElem.1 hf
    rw [List.getElem?_eq_getElem hk, of_decide_eq_true h1]
theorem idx_no {A : List Int} {s : Int} (h : s ∉ A) : idxS A s = -1 := by
  unfold idxS
  cases hf : A.findIdx? fun x => decide (x = s) with
  | none => rfl
  | some k =>
    obtain ⟨hk, h1, _⟩ := List.findIdx?_eq_some_iff_getElem.1 hf
    exact absurd (List.getElem_mem hk) (by rw [of_decide_eq_true h1]; exact h)
/-- the only place of a number in an ascending list -/
theorem idx_at {A : List Int} {s : Int} {k : Nat} (hp : A.Pairwise (· < ·)) (hk : A[k]? = some s) : idxS A s = (k : Int) := by
  obtain ⟨i, hi, hi2⟩ := idx_mem (List.mem_of_getElem? hk)
  rw [hi]
  obtain ⟨h1, h1e⟩ := List.getElem?_eq_some_iff.1 hi2
  obtain ⟨h2, h2e⟩ := List.getElem?_eq_some_iff.1 hk
  rcases Nat.lt_trichotomy i k with hlt | he | hlt
  · have := List.pairwise_iff_getElem.1 hp i k h1 h2 hlt
    omega
  · rw [he]
  · have := List.pairwise_iff_getElem.1 hp k i h2 h1 hlt
    omega
theorem idx_pos {A : List Int} {s : Int} : decide (0 ≤ idxS A s) = decide (s ∈ A) := by
  by_cases h : s ∈ A
  · obtain ⟨k, hk, _⟩ := idx_mem h
    rw [hk, decide_eq_true h]
    exact decide_eq_true (by omega)
  · rw [idx_no h, decide_eq_false h]
    rfl
/-- the first place of a number -/
theorem idx_first {A : List Int} {s : Int} {k : Nat} (hk : A[k]? = some s) (h : s ∉ A.take k) : idxS A s = (k : Int) := by
  unfold idxS
  obtain ⟨h2, h2e⟩ := List.getElem?_eq_some_iff.1 hk
  have hf : A.findIdx? (fun x => decide (x = s)) = some k := by
    rw [List.findIdx?_eq_some_iff_getElem]
    refine ⟨h2, decide_eq_true h2e, fun j hj => ?_⟩
    have hjm : A[j] ∈ A.take k := List.mem_take_iff_getElem.2 ⟨j, by omega, rfl⟩
    rw [Bool.not_eq_true, decide_eq_false_iff_not]
    exact fun e => h (e ▸ hjm)
  rw [hf]
theorem rise_step {n : Nat} {l : List Int} {k : Nat} {x : Int} (h : riseP n (l.take k) = true) (hx : l[k]? = some x) (h1 : 0 ≤ x ∧ x < (n : Int)) (h2 : ∀ y, 0 < k → l[k - 1]? = some y → y < x) : riseP n (l.take (k + 1)) = true := by
  unfold riseP at h ⊢
  rw [Bool.and_eq_true] at h ⊢
  have hp := of_decide_eq_true h.1
  have ht : l.take (k + 1) = l.take k ++ [x] := by rw [List.take_add_one, hx]; rfl
  rw [ht]
  refine ⟨decide_eq_true (List.pairwise_append.2 ⟨hp, List.pairwise_singleton _ _, fun a ha b hb => ?_⟩), ?_⟩
  · rw [List.mem_singleton] at hb
    subst hb
    obtain ⟨j, hj, rfl⟩ := List.getElem_of_mem ha
    have hkl := (List.getElem?_eq_some_iff.1 hx).1
    rw [List.length_take] at hj
    have hl : (l.take k).length = k := by rw [List.length_take]; omega
    have hy := h2 (l[k - 1]'(by omega)) (by omega) (List.getElem?_eq_getElem (by omega))
    rcases Nat.lt_or_ge j (k - 1) with hlt | hge
    · have h3 := List.pairwise_iff_getElem.1 hp j (k - 1) (by omega) (by omega) hlt
      rw [List.getElem_take, List.getElem_take] at h3
      rw [List.getElem_take]
      omega
    · have : j = k - 1 := by omega
      subst this
      rw [List.getElem_take]
      exact hy
  · rw [List.all_append, h.2, Bool.true_and, List.all_cons, List.all_nil, Bool.and_true]
    exact decide_eq_true h1
theorem rise_out {n : Nat} {l : List Int} {x : Int} (hx : x ∈ l) (h : ¬ (0 ≤ x ∧ x < (n : Int))) : riseP n l = false := by
  unfold riseP
  rw [Bool.and_eq_false_iff]
  refine Or.inr (Bool.eq_false_iff.2 (fun h2 => h (of_decide_eq_true (List.all_eq_true.1 h2 x hx))))
theorem rise_fall {n : Nat} {l : List Int} {k : Nat} {x y : Int} (hk : 0 < k) (hx : l[k]? = some x) (hy : l[k - 1]? = some y) (h : x ≤ y) : riseP n l = false := by
  unfold riseP
  rw [Bool.and_eq_false_iff]
  refine Or.inl (decide_eq_false (fun hp => ?_))
  obtain ⟨h1, h1e⟩ := List.getElem?_eq_some_iff.1 hx
  obtain ⟨h2, h2e⟩ := List.getElem?_eq_some_iff.1 hy
  have := List.pairwise_iff_getElem.1 hp (k - 1) k h2 h1 (by omega)
  omega
end Go.Proofs.YtpofijdkckaphaaGreatDoor
/- slices.Index and slices.Contains at ints. -/
namespace Go.Proofs.YtpofijdkckaphaaGreatDoor
open Go.RowKit
set_option maxRecDepth 100000 in
set_option maxHeartbeats 2000000 in
theorem iindex_walk (a : Option Addr) (l : List Int) (cap : Nat) (x : Int) (w : World) (hR : Rd w a (ints l)) (hl : l.length ≤ 281474976710656) :
    Calls Tryz.prog 58 #[.slice a l.length cap, .int .i64 x] w fun e w' => e = .returned (.int .i64 (idxS l x)) ∧ w = w' := by
  go_enter Tryz.func58, Tryz.ntmps58
  go_wp2_with fail
  go_loopw [8] (fun i wr => ∃ k : Nat, wr = w ∧ k ≤ l.length ∧ i = .int .i64 (k : Int) ∧ Hid (x ∉ l.take k)) (fun i _ => l.length - (intOf i).toNat)
  case atStart => exact ⟨0, rfl, Nat.zero_le _, rfl, Lib.hid (by simp)⟩
  case round =>
    obtain ⟨k, rfl, hk, rfl, hA⟩ := hrel
    by_cases hkt : k < l.length
    · obtain ⟨gx, off, y, rfl, hc, hx⟩ := hR.int (k := k) hkt
      have hkl : (k : Int) < (l.length : Int) := by omega
      by_cases hxy : x = y
      · subst hxy
        have hb : (x == x) = true := beq_self_eq_true x
        have hm := Lib.hid (idx_first hx.out hA.out)
        clear hA hx hR
        go_wp2
        go_ret
        exact ⟨by rw [hm.out]; rfl, rfl⟩
      · have hb : (x == y) = false := by rw [beq_eq_false_iff_ne]; exact hxy
        have hT : x ∉ l.take (k + 1) := fun h => by
          rw [take_at hx] at h
          rcases List.mem_append.1 h with h | h
          · exact hA.out h
          · simp at h; exact hxy h
        have HT := Lib.hid hT
        clear hT hA hx hR hxy
        go_wp2
        go_roundw
        case rel => exact ⟨k + 1, trivial, by omega, by go_num, HT⟩
        case measure => simp [intOf]; omega
    · have hkl : ¬ (k : Int) < (l.length : Int) := by omega
      obtain rfl : k = l.length := by omega
      have hm : x ∉ l := by have := hA.out; rwa [List.take_length] at this
      have HM := Lib.hid hm
      clear hA hm
      go_wp2
      go_ret
      exact ⟨by rw [idx_no HM.out]; rfl, rfl⟩
set_option maxRecDepth 100000 in
theorem icontains_walk (a : Option Addr) (l : List Int) (cap : Nat) (x : Int) (w : World) (hR : Rd w a (ints l)) (hl : l.length ≤ 281474976710656) :
    Calls Tryz.prog 35 #[.slice a l.length cap, .int .i64 x] w fun e w' => e = .returned (.bool (decide (x ∈ l))) ∧ w = w' := by
  have K1 := Lib.hid (iindex_walk a l cap x w hR hl)
  clear hR hl
  go_enter Tryz.func35, Tryz.ntmps35
  go_wp2_with (go_at_call 58; (with_reducible refine K1.out.mono ?_))
  rintro e w1 ⟨rfl, rfl⟩
  have HI := Lib.hid (idx_pos (A := l) (s := x))
  generalize idxS l x = i at *
  clear K1
  go_wp2
  go_ret
  exact ⟨by rw [← HI.out]; rfl, rfl⟩
end Go.Proofs.YtpofijdkckaphaaGreatDoor
