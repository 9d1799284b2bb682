/- Offices that are issued from again and again: what has been issued to whom: plain. -/
import Derived.Test.YtekhepklaokaiaaDoorGTokA
namespace Go.Proofs.YtekhepklaokaiaaDoor
open Go.RowKit
/-- a row's numbers are right -/
def rOk (r : Iss) : Prop := (1 ≤ r.per ∧ r.per ≤ 1048576) ∧ (0 ≤ r.prd ∧ r.prd ≤ 1099511627776) ∧ (1 ≤ r.cnt ∧ r.cnt ≤ 1000)
abbrev Asc (L : List Iss) : Prop := L.Pairwise fun x y => ltI x y.per y.prd
theorem good_iff (L : List Iss) : IGood L L.length ↔ (∀ r ∈ L, rOk r) ∧ Asc L := by
  constructor
  · intro h
    refine ⟨fun r hr => ?_, ?_⟩
    · obtain ⟨i, hi, rfl⟩ := List.getElem_of_mem hr
      have := h i _ hi (List.getElem?_eq_getElem hi)
      exact ⟨this.1, this.2.1, this.2.2.1⟩
    · rw [Asc, List.pairwise_iff_getElem]
      intro i j hi hj hij
      exact h.mono j i _ _ hij (List.getElem?_eq_getElem hi) (List.getElem?_eq_getElem hj)
  · rintro ⟨h1, h2⟩ i r hi hr
    have hm := h1 r (List.mem_of_getElem? hr)
    refine ⟨hm.1, hm.2.1, hm.2.2, fun x h0 hx => ?_⟩
    rw [Asc, List.pairwise_iff_getElem] at h2
    obtain ⟨hi', e⟩ := List.getElem?_eq_some_iff.1 hr
    obtain ⟨hj', e'⟩ := List.getElem?_eq_some_iff.1 hx
    have := h2 (i - 1) i hj' hi' (by omega)
    rwa [e, e'] at this
/-- how many tokens a person has had in a period -/
def cntI (L : List Iss) (a b : Int) : Int := match L[posI L a b]? with
  | some r => if r.per = a ∧ r.prd = b then r.cnt else 0
  | none => 0
theorem leftI_cnt {q : Int} {L : List Iss} {a b : Int} (hq : 0 ≤ q) : leftI q L a b = max 0 (q - cntI L a b) := by
  unfold leftI cntI
  cases L[posI L a b]? with
  | none => dsimp only; omega
  | some r =>
    dsimp only
    by_cases h : r.per = a ∧ r.prd = b
    · rw [if_pos h, if_pos h]
    · rw [if_neg h, if_neg h]; omega
theorem cntI_mem {L : List Iss} (hG : IGood L L.length) {r : Iss} (hr : r ∈ L) : cntI L r.per r.prd = r.cnt := by
  obtain ⟨i, hi, rfl⟩ := List.getElem_of_mem hr
  have hx : L[i]? = some L[i] := List.getElem?_eq_getElem hi
  rw [cntI, posI_at hG hx, hx]
  exact if_pos ⟨rfl, rfl⟩
theorem cntI_none {L : List Iss} {a b : Int} (h : ∀ r ∈ L, ¬ (r.per = a ∧ r.prd = b)) : cntI L a b = 0 := by
  rw [cntI]
  split
  · rename_i r hr; exact if_neg (h r (List.mem_of_getElem? hr))
  · rfl
/-- the same rows for a person and a period, the same count -/
theorem cntI_same {L L' : List Iss} (hG : IGood L L.length) (hG' : IGood L' L'.length) {a b : Int} (h : ∀ r : Iss, r.per = a ∧ r.prd = b → (r ∈ L ↔ r ∈ L')) : cntI L' a b = cntI L a b := by
  by_cases hx : ∃ r ∈ L, r.per = a ∧ r.prd = b
  · obtain ⟨r, hr, rfl, rfl⟩ := hx
    rw [cntI_mem hG hr, cntI_mem hG' ((h r ⟨rfl, rfl⟩).1 hr)]
  · rw [cntI_none (L := L) (fun r hr he => hx ⟨r, hr, he⟩), cntI_none (L := L') (fun r hr he => hx ⟨r, (h r he).2 hr, he⟩)]
theorem hasI_cnt {L : List Iss} (hG : IGood L L.length) {a b : Int} : (hasI L a b = true → 1 ≤ cntI L a b) ∧ (hasI L a b = false → cntI L a b = 0) := by
  refine ⟨fun h => ?_, fun h => ?_⟩
  · obtain ⟨r, hr, rfl, rfl⟩ := hasI_some h
    have hm := List.mem_of_getElem? hr
    rw [cntI_mem hG hm]
    exact (((good_iff L).1 hG).1 r hm).2.2.1
  · refine cntI_none fun r hr he => ?_
    obtain ⟨i, hi, rfl⟩ := List.getElem_of_mem hr
    exact hasI_false hG h i _ (List.getElem?_eq_getElem hi) he
/-- one more for a row that stands there -/
theorem more_good {L : List Iss} (hG : IGood L L.length) {k : Nat} {r : Iss} (hr : L[k]? = some r) (hc : r.cnt < 1000) : IGood (L.set k ⟨r.per, r.prd, r.cnt + 1⟩) (L.set k ⟨r.per, r.prd, r.cnt + 1⟩).length := by
  obtain ⟨h1, h2⟩ := (good_iff L).1 hG
  obtain ⟨hk, e⟩ := List.getElem?_eq_some_iff.1 hr
  have hrm := h1 r (List.mem_of_getElem? hr)
  refine (good_iff _).2 ⟨fun x hx => ?_, ?_⟩
  · rcases List.mem_or_eq_of_mem_set hx with h | rfl
    · exact h1 x h
    · exact ⟨hrm.1, hrm.2.1, by have := hrm.2.2; dsimp only; omega⟩
  · rw [Asc, List.pairwise_iff_getElem] at h2 ⊢
    intro i j hi hj hij
    rw [List.length_set] at hi hj
    have hh := h2 i j hi hj hij
    rw [List.getElem_set, List.getElem_set]
    split
    · rename_i hki
      subst hki
      rw [if_neg (by omega)]
      rw [e] at hh
      exact hh
    · split
      · rename_i hki
        subst hki
        rw [e] at hh
        exact hh
      · exact hh
theorem more_mem {L : List Iss} {k : Nat} {r : Iss} (hr : L[k]? = some r) (x : Iss) (hx : ¬ (x.per = r.per ∧ x.prd = r.prd)) : x ∈ L ↔ x ∈ L.set k ⟨r.per, r.prd, r.cnt + 1⟩ := by
  obtain ⟨hk, e⟩ := List.getElem?_eq_some_iff.1 hr
  constructor
  · intro h
    obtain ⟨i, hi, rfl⟩ := List.getElem_of_mem h
    have hik : i ≠ k := fun e2 => by subst e2; rw [e] at hx; exact hx ⟨rfl, rfl⟩
    have : (L.set k ⟨r.per, r.prd, r.cnt + 1⟩)[i]? = some L[i] := by rw [List.getElem?_set_ne (fun e => hik e.symm)]; exact List.getElem?_eq_getElem hi
    exact List.mem_of_getElem? this
  · intro h
    rcases List.mem_or_eq_of_mem_set h with h | rfl
    · exact h
    · exact absurd ⟨rfl, rfl⟩ hx
/-- a new row -/
theorem new_good {L : List Iss} (hG : IGood L L.length) {a b : Int} (ha : 1 ≤ a ∧ a ≤ 1048576) (hb : 0 ≤ b ∧ b ≤ 1099511627776) (hn : hasI L a b = false) :
    IGood (L.take (posI L a b) ++ ⟨a, b, 1⟩ :: L.drop (posI L a b)) (L.take (posI L a b) ++ ⟨a, b, 1⟩ :: L.drop (posI L a b)).length := by
  obtain ⟨h1, h2⟩ := (good_iff L).1 hG
  have hno := hasI_false hG hn
  have hlo := posI_lt L a b
  have hhi := posI_ge L a b
  have hmono := hG.mono
  generalize posI L a b = k at *
  refine (good_iff _).2 ⟨fun x hx => ?_, ?_⟩
  · rcases List.mem_append.1 hx with h | h
    · exact h1 x (List.mem_of_mem_take h)
    · rcases List.mem_cons.1 h with rfl | h
      · exact ⟨ha, hb, by dsimp only; omega⟩
      · exact h1 x (List.mem_of_mem_drop h)
  · have h3 : Asc (L.take k ++ L.drop k) := by rw [List.take_append_drop]; exact h2
    rw [Asc, List.pairwise_append] at h3 ⊢
    refine ⟨h3.1, List.pairwise_cons.2 ⟨fun y hy => ?_, h3.2.1⟩, fun x hx y hy => ?_⟩
    · obtain ⟨j, hj, rfl⟩ := List.getElem_of_mem hy
      rw [List.length_drop] at hj
      have e : (L.drop k)[j]? = L[k + j]? := List.getElem?_drop
      have hy2 : L[k + j]? = some (L.drop k)[j] := by rw [← e]; exact List.getElem?_eq_getElem (by rw [List.length_drop]; exact hj)
      have hne := hno _ _ hy2
      have hz : L[k]? = some L[k] := List.getElem?_eq_getElem (by omega)
      have hk := hhi _ hz
      by_cases hj0 : j = 0
      · subst hj0
        rw [Nat.add_zero, hz] at hy2
        have := Option.some.inj hy2
        rw [← this] at hne ⊢
        unfold ltI at *
        dsimp only
        omega
      · have hm := hmono (k + j) k _ _ (by omega) hz hy2
        unfold ltI at *
        dsimp only
        omega
    · rcases List.mem_cons.1 hy with rfl | hy
      · obtain ⟨i, hi, rfl⟩ := List.getElem_of_mem hx
        rw [List.length_take] at hi
        exact hlo i _ (by omega) (by rw [List.getElem_take]; exact List.getElem?_eq_getElem (by omega))
      · exact h3.2.2 x hx y hy
theorem new_mem {L : List Iss} {k : Nat} {z : Iss} (x : Iss) (hx : x ≠ z) : x ∈ L ↔ x ∈ L.take k ++ z :: L.drop k := by
  rw [List.mem_append, List.mem_cons]
  conv => lhs; rw [← List.take_append_drop k L, List.mem_append]
  constructor
  · rintro (h | h)
    · exact .inl h
    · exact .inr (.inr h)
  · rintro (h | h | h)
    · exact .inl h
    · exact absurd h hx
    · exact .inr h
/-- what an issue that succeeds makes of an office -/
theorem iss_step {p key q : Int} {L : List Iss} {a b x : Int} (hoff : offOk p key q) (hG : IGood L L.length) (hl : L.length < 1024) (hab : (1 ≤ a ∧ a ≤ 1048576) ∧ (0 ≤ b ∧ b ≤ 1099511627776)) (hx : ¬ (x = 1 ∨ memZ p.toNat x = false)) (hc : cntI L a b < q) :
    ∃ L', issF p key q L a b x = (L', ((gpw p.toNat x.toNat key : Nat) : Int), 0) ∧ IGood L' L'.length ∧ L'.length ≤ L.length + 1 ∧ cntI L' a b = cntI L a b + 1 ∧ ∀ a' b', ¬ (a' = a ∧ b' = b) → cntI L' a' b' = cntI L a' b' := by
  have hchk := chkI_ok hoff (by omega) hG
  have hq := hoff.2.2
  have hleft : leftI q L a b ≠ 0 := by rw [leftI_cnt hq.1]; omega
  cases hh : hasI L a b with
  | true =>
    obtain ⟨r, hr, h1, h2⟩ := hasI_some hh
    have hrm := List.mem_of_getElem? hr
    have hcr := cntI_mem hG hrm
    rw [h1, h2] at hcr
    have hG' := more_good hG hr (by omega)
    refine ⟨_, issF_more hchk hab hx hleft hr ⟨h1, h2⟩, ?_, by rw [List.length_set]; omega, ?_, fun a' b' hne => ?_⟩
    · rw [h1, h2] at hG'; exact hG'
    · rw [h1, h2] at hG'
      have hm : (⟨a, b, r.cnt + 1⟩ : Iss) ∈ L.set (posI L a b) ⟨a, b, r.cnt + 1⟩ := List.mem_set (List.getElem?_eq_some_iff.1 hr).1 _
      have := cntI_mem hG' hm
      dsimp only at this
      rw [this, hcr]
    · have hsm := more_mem hr
      rw [h1, h2] at hG' hsm
      exact cntI_same hG hG' fun y hy => hsm y (by rw [hy.1, hy.2]; exact hne)
  | false =>
    have hG' := new_good hG hab.1 hab.2 hh
    have h0 := (hasI_cnt hG).2 hh
    have hle := posI_le L a b
    refine ⟨_, issF_new hchk hab hx hleft hh hl, hG', by simp; omega, ?_, fun a' b' hne => ?_⟩
    · have hm : (⟨a, b, 1⟩ : Iss) ∈ L.take (posI L a b) ++ ⟨a, b, 1⟩ :: L.drop (posI L a b) := List.mem_append_right _ List.mem_cons_self
      have := cntI_mem hG' hm
      dsimp only at this
      rw [this, h0]; rfl
    · exact cntI_same hG hG' fun y hy => new_mem y (fun e => hne (by rw [← hy.1, ← hy.2, e]; exact ⟨rfl, rfl⟩))
theorem iss_spent {p key q : Int} {L : List Iss} {a b x : Int} (hoff : offOk p key q) (hG : IGood L L.length) (hl : L.length < 1024) (hab : (1 ≤ a ∧ a ≤ 1048576) ∧ (0 ≤ b ∧ b ≤ 1099511627776)) (hx : ¬ (x = 1 ∨ memZ p.toNat x = false)) (hc : q ≤ cntI L a b) :
    issF p key q L a b x = (L, 0, 43) :=
  issF_spent (chkI_ok hoff (by omega) hG) hab hx (by rw [leftI_cnt hoff.2.2.1]; omega)
end Go.Proofs.YtekhepklaokaiaaDoor
