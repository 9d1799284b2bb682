/- A region that draws its order, whose last operation waits for all others: what is held by the others need not hold behind the last one. No program in sight. -/
import Derived.Test.YtpofijdkckaphaaGreatDoorRegion
import Derived.Deep.RegionHeld3
namespace Go.Proofs.YtpofijdkckaphaaGreatDoor
open Go.RowKit
section
variable {P : Program} {Q : Exit → Act → World → Prop} {S : World → Prop}
/-- what an operation waits for -/
def depsOf (ops : Array Oper) (i : Nat) : List Nat := match ops[i]? with
  | some o => (o.after.toList.filter (Region.binds .any)).map (·.on)
  | none => []
def waitsFor (ops : Array Oper) : List Nat → List Nat → List Nat
  | [], s => s
  | k :: ks, s => waitsFor ops ks (if s.contains k then s ++ depsOf ops k else s)
/-- the last operation waits for all others, directly or through others; no guard names it; every edge goes back -/
def lastB (l : List Oper) (o : Oper) : Bool :=
  let ops := (l ++ [o]).toArray
  (List.range l.length).all (fun i => (waitsFor ops (List.range l.length).reverse (depsOf ops l.length)).contains i) && l.all (fun o => match o.guard with | some (g, _) => decide (g < l.length) | none => true) && backB l.toArray && o.guard.isNone && (depsOf ops l.length).all (fun k => decide (k < l.length))
def Closed (ops : Array Oper) (listed : Array Bool) : Prop := ∀ i, listed.getD i false = true → ∀ k ∈ depsOf ops i, listed.getD k false = true
theorem waitsFor_listed {ops : Array Oper} {listed : Array Bool} (hC : Closed ops listed) : ∀ (ks s : List Nat), (∀ k ∈ s, listed.getD k false = true) → ∀ k ∈ waitsFor ops ks s, listed.getD k false = true
  | [], s, h, k, hk => h k hk
  | j :: ks, s, h, k, hk => by
    rw [waitsFor] at hk
    split at hk
    · rename_i hj
      refine waitsFor_listed hC ks _ (fun x hx => ?_) k hk
      rcases List.mem_append.1 hx with h1 | h1
      · exact h x h1
      · exact hC j (h j (List.contains_iff_mem.1 hj)) x h1
    · exact waitsFor_listed hC ks s h k hk
/-- behind the others: the last one -/
def Behind (P : Program) (o : Oper) (Q : Exit → Act → World → Prop) : Exit → Act → World → Prop
  | .normal, a, w => Oper.wp P o a w (fun a w => Q .normal a w) Q
  | e, a, w => Q e a w
theorem Oper.wp_behind {o x : Oper} {a : Act} {w : World} {K : Act → World → Prop} (h : o.wp P a w K (Behind P x Q)) : o.wp P a w K Q := by
  unfold Oper.wp at *
  generalize (execOp a.eval o).run P w = r at *
  cases r with
  | ok n w' =>
    cases n <;> simp only [Oper.upon] at h ⊢ <;>
      first
        | exact h
        | exact Calls.mono h (fun e w'' he => by cases e <;> exact he)
  | halt x w' => cases x <;> simp only [Oper.upon] at h ⊢ <;> exact h
theorem mem_ready' {ops : Array Oper} {listed : Array Bool} {i : Nat} : i ∈ Region.ready .any ops listed ↔ i < ops.size ∧ listed.getD i true = false ∧ ∀ k ∈ depsOf ops i, listed.getD k false = true := by
  unfold Region.ready depsOf
  rw [List.mem_filter, List.mem_range]
  constructor
  · rintro ⟨h1, h2⟩
    refine ⟨h1, ?_⟩
    have ho : ops[i]? = some ops[i] := Array.getElem?_eq_getElem h1
    rw [ho] at h2 ⊢
    simp only [Bool.and_eq_true, Bool.not_eq_true', Option.map_some, Option.getD_some, Array.all_eq_true] at h2
    refine ⟨h2.1, fun k hk => ?_⟩
    simp only [List.mem_map, List.mem_filter] at hk
    obtain ⟨e, ⟨he, hb⟩, rfl⟩ := hk
    obtain ⟨j, hj, rfl⟩ := List.getElem_of_mem he
    have := h2.2 j (by simpa using hj)
    simp only [Array.getElem_toList] at hb ⊢
    rw [hb] at this
    simpa using this
  · rintro ⟨h1, h2, h3⟩
    refine ⟨h1, ?_⟩
    have ho : ops[i]? = some ops[i] := Array.getElem?_eq_getElem h1
    rw [ho] at h3 ⊢
    simp only [Bool.and_eq_true, Bool.not_eq_true', Option.map_some, Option.getD_some, Array.all_eq_true]
    refine ⟨h2, fun j hj => ?_⟩
    cases hb : Region.binds .any (ops[i].after[j]) with
    | false => rfl
    | true =>
      have := h3 (ops[i].after[j]).on (by
        simp only [List.mem_map, List.mem_filter]
        exact ⟨_, ⟨by simp, hb⟩, rfl⟩)
      rw [this]
      rfl
theorem Closed.set {ops : Array Oper} {listed : Array Bool} (h : Closed ops listed) {i : Nat} (hd : ∀ k ∈ depsOf ops i, listed.getD k false = true) : Closed ops (listed.setIfInBounds i true) := by
  have hm : ∀ k, listed.getD k false = true → (listed.setIfInBounds i true).getD k false = true := fun k hk => by
    rw [Array.getD_eq_getD_getElem?] at hk ⊢
    rw [Array.getElem?_setIfInBounds]
    by_cases e : i = k
    · subst e
      by_cases hi : i < listed.size
      · simp [hi]
      · rw [Array.getElem?_eq_none (by omega)] at hk; cases hk
    · rw [if_neg e]; exact hk
  intro j hj k hk
  by_cases e : j = i
  · subst e; exact hm k (hd k hk)
  · refine hm k (h j ?_ k hk)
    rw [Array.getD_eq_getD_getElem?] at hj ⊢
    rw [Array.getElem?_setIfInBounds_ne (fun h => e h.symm)] at hj
    exact hj
theorem getD_push {listed : Array Bool} {k : Nat} (x d : Bool) (hk : k < listed.size) : (listed.push x).getD k d = listed.getD k d := by
  rw [Array.getD_eq_getD_getElem?, Array.getD_eq_getD_getElem?, Array.getElem?_push_lt hk, Array.getElem?_eq_getElem hk]
theorem wpAny_last {l : List Oper} {o : Oper} (hB : lastB l o = true) :
    ∀ (fuel : Nat) (listed : Array Bool) (a : Act) (w : World), listed.size = l.length → Closed l.toArray listed → wpAnyH P .any l.toArray (Behind P o Q) S fuel listed a w → wpAny P .any (l ++ [o]).toArray Q (fuel + 1) (listed.push false) a w := by
  unfold lastB at hB
  simp only [Bool.and_eq_true, List.all_eq_true] at hB
  obtain ⟨⟨⟨⟨hW, hG⟩, hback⟩, hgd⟩, hkl⟩ := hB
  replace hkl : ∀ k ∈ depsOf (l ++ [o]).toArray l.length, k < l.length := fun k hk => by simpa using hkl k hk
  have hgd' : o.guard = none := Option.isNone_iff_eq_none.1 hgd
  have hlast : (l ++ [o]).toArray[l.length]? = some o := by simp
  have hlow : ∀ i, i < l.length → (l ++ [o]).toArray[i]? = l.toArray[i]? := fun i hi => by simp [List.getElem?_append_left hi]
  have hdep : ∀ i, i < l.length → depsOf (l ++ [o]).toArray i = depsOf l.toArray i := fun i hi => by unfold depsOf; rw [hlow i hi]
  have hdeplt : ∀ i, i < l.length → ∀ k ∈ depsOf l.toArray i, k < l.length := fun i hi k hk => by
    unfold depsOf at hk
    rw [show l.toArray[i]? = some l[i] by simp [hi]] at hk
    simp only [List.mem_map, List.mem_filter] at hk
    obtain ⟨e, ⟨he, hbe⟩, rfl⟩ := hk
    unfold backB at hback
    rw [List.all_eq_true] at hback
    have h1 := hback i (List.mem_range.2 (by simpa using hi))
    rw [show l.toArray[i]? = some l[i] by simp [hi]] at h1
    simp only [Option.map_some, Option.getD_some] at h1
    rw [Array.all_eq_true] at h1
    obtain ⟨j, hj, rfl⟩ := List.getElem_of_mem he
    have := h1 j (by simpa using hj)
    simp only [Array.getElem_toList] at hbe ⊢
    rw [hbe, Bool.not_true, Bool.false_or, decide_eq_true_eq] at this
    omega
  have hyield : ∀ (x : Oper), x ∈ l → ∀ tmps, Region.wanted x (yielded (l ++ [o]).toArray tmps) = Region.wanted x (yielded l.toArray tmps) := by
    intro x hx tmps
    have := hG x hx
    unfold Region.wanted
    split at this
    · rename_i g b hg
      rw [hg]
      have hgl : g < l.length := by simpa using this
      simp only [yielded, hlow g hgl]
    · rename_i hg; rw [hg]
  -- the end: all others are listed
  have hend : ∀ (fuel : Nat) (listed : Array Bool) (a : Act) (w : World), listed.size = l.length → (∀ i, i < l.length → listed.getD i false = true) → Behind P o Q .normal a w → wpAny P .any (l ++ [o]).toArray Q (fuel + 1) (listed.push false) a w := by
    intro fuel listed a w hsz hall h
    have hall' : ∀ i, i < l.length → listed.getD i true = true := fun i hi => by
      have := hall i hi
      rw [Array.getD_eq_getD_getElem?, Array.getElem?_eq_getElem (by omega)] at this ⊢
      exact this
    have hdl : ∀ k ∈ depsOf (l ++ [o]).toArray l.length, k < l.length → (listed.push false).getD k false = true := fun k _ hk => by rw [getD_push _ _ (by omega)]; exact hall k hk
    have honly : ∀ i ∈ Region.ready .any (l ++ [o]).toArray (listed.push false), i = l.length := fun i hi => by
      obtain ⟨h1, h2, -⟩ := mem_ready'.1 hi
      rcases Nat.lt_or_ge i l.length with h3 | h3
      · rw [getD_push _ _ (by omega), hall' i h3] at h2; cases h2
      · simp at h1; omega
    have hdone : Region.ready .any (l ++ [o]).toArray ((listed.push false).setIfInBounds l.length true) = [] := by
      cases hr : Region.ready .any (l ++ [o]).toArray ((listed.push false).setIfInBounds l.length true) with
      | nil => rfl
      | cons i t =>
        obtain ⟨h1, h2, -⟩ := mem_ready'.1 (show i ∈ Region.ready .any (l ++ [o]).toArray ((listed.push false).setIfInBounds l.length true) by rw [hr]; simp)
        rw [Array.getD_eq_getD_getElem?] at h2
        rcases Nat.lt_or_ge i l.length with h3 | h3
        · rw [Array.getElem?_setIfInBounds_ne (by omega), ← Array.getD_eq_getD_getElem?, getD_push _ _ (by omega), hall' i h3] at h2; cases h2
        · have : i = l.length := by simp at h1; omega
          subst this
          rw [Array.getElem?_setIfInBounds_self_of_lt (by simp; omega)] at h2
          cases h2
    refine ⟨fun h0 => ?_, fun i hi => ?_⟩
    · -- the last one is ready
      exfalso
      have : l.length ∈ Region.ready .any (l ++ [o]).toArray (listed.push false) := by
        refine mem_ready'.2 ⟨by simp, by rw [Array.getD_eq_getD_getElem?, show l.length = listed.size from hsz.symm]; simp, fun k hk => ?_⟩
        refine hdl k hk ?_
        exact hkl k hk
      rw [h0] at this
      cases this
    · have := honly i hi
      subst this
      unfold wpOp
      simp only [hlast]
      have hw : Region.wanted o (yielded (l ++ [o]).toArray a.tmps) = true := by simp [Region.wanted, hgd']
      rw [if_pos hw]
      refine .inl (Oper.wp_mono (fun a w hq => ?_) h)
      cases fuel with
      | zero => exact ⟨hdone, hq⟩
      | succ n => exact ⟨fun _ => hq, by rw [hdone]; simp⟩
  intro fuel
  induction fuel with
  | zero =>
    intro listed a w hsz hC h
    exact hend 0 listed a w hsz (fun i hi => ready_nil hback listed (by simpa using hsz) h.1 i (by simpa using hi)) h.2
  | succ fuel ih =>
    intro listed a w hsz hC h
    by_cases hr : Region.ready .any l.toArray listed = []
    · exact hend (fuel + 1) listed a w hsz (fun i hi => ready_nil hback listed (by simpa using hsz) hr i (by simpa using hi)) (h.1 hr)
    · have hmem : ∀ i, i < l.length → (i ∈ Region.ready .any (l ++ [o]).toArray (listed.push false) ↔ i ∈ Region.ready .any l.toArray listed) := fun i hi => by
        rw [mem_ready', mem_ready', getD_push _ _ (by omega), hdep i hi]
        constructor
        · rintro ⟨-, h2, h3⟩
          exact ⟨by simpa using hi, h2, fun k hk => by have := h3 k hk; rwa [getD_push _ _ (by have := hdeplt i hi k hk; omega)] at this⟩
        · rintro ⟨-, h2, h3⟩
          exact ⟨by simp; omega, h2, fun k hk => by rw [getD_push _ _ (by have := hdeplt i hi k hk; omega)]; exact h3 k hk⟩
      have hnot : l.length ∉ Region.ready .any (l ++ [o]).toArray (listed.push false) := fun hn => by
        obtain ⟨-, -, h3⟩ := mem_ready'.1 hn
        apply hr
        have hCb : Closed (l ++ [o]).toArray (listed.push false) := fun i hi k hk => by
          have hil : i < l.length := by
            rcases Nat.lt_or_ge i l.length with h1 | h1
            · exact h1
            · rw [Array.getD_eq_getD_getElem?] at hi
              by_cases e : i = l.length
              · subst e; rw [show l.length = listed.size from hsz.symm] at hi; simp at hi
              · rw [Array.getElem?_eq_none (by simp; omega)] at hi; cases hi
          rw [getD_push _ _ (by omega)] at hi
          rw [hdep i hil] at hk
          rw [getD_push _ _ (by have := hdeplt i hil k hk; omega)]
          exact hC i hi k hk
        cases hr' : Region.ready .any l.toArray listed with
        | nil => rfl
        | cons i t =>
          exfalso
          obtain ⟨h1, h2, -⟩ := mem_ready'.1 (show i ∈ Region.ready .any l.toArray listed by rw [hr']; simp)
          have hil : i < l.length := by simpa using h1
          have := waitsFor_listed hCb _ _ h3 i (List.contains_iff_mem.1 (hW i (List.mem_range.2 hil)))
          rw [getD_push _ _ (by omega)] at this
          rw [Array.getD_eq_getD_getElem?, Array.getElem?_eq_getElem (by omega)] at h2 this
          simp at h2 this
          rw [h2] at this
          cases this
      refine ⟨fun h0 => absurd ?_ hr, fun i hi => ?_⟩
      · cases hr' : Region.ready .any l.toArray listed with
        | nil => rfl
        | cons i t =>
          exfalso
          have h1 : i ∈ Region.ready .any l.toArray listed := by rw [hr']; simp
          have hil : i < l.length := by simpa using (mem_ready'.1 h1).1
          have := (hmem i hil).2 h1
          rw [h0] at this
          cases this
      · have hil : i < l.length := by
          have h1 := (mem_ready'.1 hi).1
          rcases Nat.lt_or_ge i l.length with h2 | h2
          · exact h2
          · have : i = l.length := by simp at h1; omega
            subst this; exact absurd hi hnot
        have hi' := (hmem i hil).1 hi
        have hstep := h.2 i hi'
        have hd := (mem_ready'.1 hi').2.2
        have hset : (listed.push false).setIfInBounds i true = (listed.setIfInBounds i true).push false := by
          apply Array.ext
          · simp
          · intro k h1 h2
            simp at h1 h2
            rw [Array.getElem_setIfInBounds (by simpa using h1), Array.getElem_push, Array.getElem_push]
            simp only [Array.size_setIfInBounds]
            split
            · rename_i e
              subst e
              rw [dif_pos (by omega)]
              simp
            · rename_i e
              split
              · rw [Array.getElem_setIfInBounds_ne _ e]
              · rfl
        rw [hset]
        unfold wpOp at hstep ⊢
        have ho : l.toArray[i]? = some l[i] := by simp [hil]
        rw [hlow i hil, ho]
        rw [ho] at hstep
        simp only at hstep ⊢
        rw [hyield l[i] (List.getElem_mem hil)]
        split
        · rename_i hw
          rw [if_pos hw] at hstep
          rcases hstep with h1 | ⟨h1, h2⟩
          · exact .inl (Oper.wp_behind (Oper.wp_mono (fun a' w' hh => ih _ a' w' (by simpa using hsz) (hC.set hd) hh.2) h1))
          · exact .inr ⟨h1, h2⟩
        · rename_i hw
          rw [if_neg hw] at hstep
          exact ih _ _ _ (by simpa using hsz) (hC.set hd) hstep.2
/-- THE LAW. -/
theorem wp_region_held_last {id : Nat} {a : Act} {w : World} (n : Nat) (l : List Oper) (o : Oper) {ops : Array Oper} (he : ops = (l ++ [o]).toArray) (hn : l.length = n) (hm : P.follows .mixedOrders = true) (hB : lastB l o = true) (hS : S w.drew)
    (h : S w.drew → wpAnyH P .any l.toArray (Behind P o Q) S n (Array.replicate n false) a w.drew) : (Code.region id ops true).wp P Q a w := by
  subst he hn
  refine wp_region_any hm ?_
  have := wpAny_last (Q := Q) hB l.length (Array.replicate l.length false) a w.drew (by simp) (fun i hi k hk => by
    rw [Array.getD_eq_getD_getElem?, Array.getElem?_replicate] at hi
    split at hi <;> cases hi) (h hS)
  rw [show (Array.replicate l.length false).push false = Array.replicate (l ++ [o]).toArray.size false by rw [← Array.replicate_succ]; simp] at this
  rw [show (l ++ [o]).toArray.size = l.length + 1 by simp] at this ⊢
  exact this
/-- the last operation, and those before it: by pattern, so that 'rfl' writes it out -/
def lastOp : List Oper → Option Oper
  | [] => none
  | [o] => some o
  | _ :: o :: l => lastOp (o :: l)
theorem lastOp_eq : ∀ {l : List Oper} {o : Oper}, lastOp l = some o → l = l.dropLast ++ [o]
  | [], _, h => by cases h
  | [x], o, h => by cases h; rfl
  | x :: y :: l, o, h => by
    have := lastOp_eq (l := y :: l) h
    rw [List.dropLast_cons_cons, List.cons_append, ← this]
theorem wp_region_held_last' {id : Nat} {a : Act} {w : World} {ops : Array Oper} {o : Oper} (n : Nat) (ho : lastOp ops.toList = some o) (hn : ops.toList.dropLast.length = n) (hm : P.follows .mixedOrders = true) (hB : lastB ops.toList.dropLast o = true) (hS : S w.drew)
    (h : S w.drew → wpAnyH P .any ops.toList.dropLast.toArray (Behind P o Q) S n (Array.replicate n false) a w.drew) : (Code.region id ops true).wp P Q a w := by
  refine wp_region_held_last n ops.toList.dropLast o ?_ hn hm hB hS h
  rw [← lastOp_eq ho]
/-- an operation by its number: by pattern, so that 'rfl' writes it out -/
def nthOp : List Oper → Nat → Option Oper
  | [], _ => none
  | o :: _, 0 => some o
  | _ :: l, n + 1 => nthOp l n
theorem nthOp_eq : ∀ (l : List Oper) (n : Nat), nthOp l n = l[n]?
  | [], n => by simp [nthOp]
  | o :: l, 0 => rfl
  | o :: l, n + 1 => by rw [nthOp, nthOp_eq l n, List.getElem?_cons_succ]
theorem held_take {md : Region.Mode} {ops : Array Oper} (i : Nat) {oi : Oper} {v : Value} {fuel : Nat} {listed : Array Bool} {a : Act} {w : World} (hi : nthOp ops.toList i = some oi)
    (hs : Region.noSelect ops = true) (hf : Region.free md ops listed i = true) (hr : (Region.ready md ops listed).contains i = true)
    (hQ : ∀ c a w, Q (.panic c) (a.put oi.dst v) w → Q (.panic c) a w) (hy : YieldsIf P ops S oi v a) (hS : S w)
    (h : wpAnyH P md ops Q S fuel (listed.setIfInBounds i true) (a.put oi.dst v) w) : wpAnyH P md ops Q S (fuel + 1) listed a w :=
  wpAnyH_take (by rw [← hi, nthOp_eq]; simp) hs hf hr hQ hy hS h
theorem held_cons {md : Region.Mode} {ops : Array Oper} {fuel : Nat} {listed : Array Bool} {a : Act} {w : World} {i : Nat} {o : Oper} {rs : List Nat} (ho : nthOp ops.toList i = some o)
    (h : ∀ K' : Act → World → Prop, Shut (∀ a w, S w → (S w → wpAnyH P md ops Q S fuel (listed.setIfInBounds i true) a w) → K' a w) → if Region.wanted o (yielded ops a.tmps) = true then Oper.wp P o a w K' Q else K' (a.put o.dst undef) w)
    (hs : AllReadyH P md ops Q S fuel listed a w rs) : AllReadyH P md ops Q S fuel listed a w (i :: rs) :=
  AllReadyH.cons (by rw [← ho, nthOp_eq]; simp) h hs
end
end Go.Proofs.YtpofijdkckaphaaGreatDoor
