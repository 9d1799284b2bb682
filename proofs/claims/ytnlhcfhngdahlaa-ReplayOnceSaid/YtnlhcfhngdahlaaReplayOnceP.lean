/- Each request is carried out at most once: plain. No program in sight. -/
import Derived.Test.YtnlhcfhngdahlaaReplayJ
namespace Go.Proofs.Ytnlhcfhngdahlaa
open Go.RowKit
theorem Good.posF {l : List Kpt} (h : Good l l.length) {i : Nat} {x : Kpt} (hx : l[i]? = some x) : posF l x.sen = i := by
  have hi := (List.getElem?_eq_some_iff.1 hx).1
  refine posF_eq (by omega) (fun j r hj hr => h.mono i j r x hj hr hx) (fun r hr => ?_)
  rw [hx] at hr; cases hr; omega
/-- a sender's last request, as the guard knows it -/
def AtG (l : List Kpt) (b : List UInt8) (s c : Int) (a : List UInt8) : Prop :=
  (c = 0 ∧ ∀ x ∈ l, x.sen ≠ s) ∨ (1 ≤ c ∧ ∃ x ∈ l, x.sen = s ∧ x.cnt = c ∧ x.mark = markF ⟨s, c, b⟩ ∧ x.ans = a)
theorem AtG.lo {l : List Kpt} {b : List UInt8} {s c : Int} {a : List UInt8} (h : AtG l b s c a) : 0 ≤ c := by rcases h with ⟨h, -⟩ | ⟨h, -⟩ <;> omega
theorem AtG.has {l : List Kpt} {b : List UInt8} {s c : Int} {a : List UInt8} (h : AtG l b s c a) (hG : Good l l.length) : (c = 0 ∧ hasF l s = false) ∨ (1 ≤ c ∧ hasF l s = true ∧ ∃ x, l[posF l s]? = some x ∧ x.sen = s ∧ x.cnt = c ∧ x.mark = markF ⟨s, c, b⟩ ∧ x.ans = a) := by
  rcases h with ⟨h, h1⟩ | ⟨h, x, hx, h1, h2, h3, h4⟩
  · refine .inl ⟨h, ?_⟩
    cases hh : hasF l s with
    | false => rfl
    | true =>
      obtain ⟨r, hr, hs⟩ := hasF_some hh
      exact absurd hs (h1 r (List.mem_of_getElem? hr))
  · obtain ⟨i, hi, rfl⟩ := List.getElem_of_mem hx
    have hx := List.getElem?_eq_getElem hi
    have hp := hG.posF hx
    rw [h1] at hp
    refine .inr ⟨h, ?_, l[i], by rw [hp]; exact hx, h1, h2, h3, h4⟩
    rw [hasF_at (r := l[i]) (by rw [hp]; exact hx), decide_eq_true h1]
theorem AtG.nextF {l : List Kpt} {b : List UInt8} {s c : Int} {a : List UInt8} (h : AtG l b s c a) (hG : Good l l.length) : nextF l s = c + 1 := by
  rcases h.has hG with ⟨h1, h2⟩ | ⟨h1, h2, x, hx, h3, h4, -⟩
  · rw [h1]
    unfold Go.Proofs.Ytnlhcfhngdahlaa.nextF
    unfold hasF at h2
    split
    · rename_i r hr
      rw [hr] at h2
      rw [if_neg (of_decide_eq_false h2)]
      rfl
    · rfl
  · unfold Go.Proofs.Ytnlhcfhngdahlaa.nextF
    rw [hx]
    simp only
    rw [if_pos h3, h4]
section
variable {l : List Kpt} {b : List UInt8} {s c n : Int} {a : List UInt8}
theorem AtG.fresh (h : AtG l b s c a) (hc : chkG l = 0) (hG : Good l l.length) (hr : okRq ⟨s, c + 1, b⟩) : lookF l ⟨s, c + 1, b⟩ = ([], true, 0) := lookF_fresh hc hr (h.nextF hG).symm
theorem AtG.again (h : AtG l b s c a) (hc : chkG l = 0) (hG : Good l l.length) (hr : okRq ⟨s, c, b⟩) : lookF l ⟨s, c, b⟩ = (a, false, 0) := by
  have hn : (⟨s, c, b⟩ : Rq).cnt ≠ Go.Proofs.Ytnlhcfhngdahlaa.nextF l (⟨s, c, b⟩ : Rq).sen := by
    show c ≠ Go.Proofs.Ytnlhcfhngdahlaa.nextF l s
    rw [h.nextF hG]; omega
  rcases h.has hG with ⟨h1, h2⟩ | ⟨h1, h2, x, hx, h3, h4, h5, h6⟩
  · have := hr.2.1.1
    simp only at this
    omega
  · rw [lookF_some hc hr hn hx h3, if_pos ⟨h4, h5⟩, h6]
theorem AtG.old (h : AtG l b s c a) (hc : chkG l = 0) (hG : Good l l.length) (hr : okRq ⟨s, n, b⟩) (h1 : n ≠ c + 1) (h2 : n ≠ c) : lookF l ⟨s, n, b⟩ = ([], false, 55) := by
  have hn : (⟨s, n, b⟩ : Rq).cnt ≠ Go.Proofs.Ytnlhcfhngdahlaa.nextF l (⟨s, n, b⟩ : Rq).sen := by
    show n ≠ Go.Proofs.Ytnlhcfhngdahlaa.nextF l s
    rw [h.nextF hG]; exact h1
  rcases h.has hG with ⟨h3, h4⟩ | ⟨h3, h4, x, hx, h5, h6, -⟩
  · exact lookF_none hc hr hn h4
  · rw [lookF_some hc hr hn hx h5, if_neg (fun e => h2 (by have := e.1; simp only at this; omega))]
end
/-- a row is set: the senders are the same -/
theorem good_set {l : List Kpt} (hG : Good l l.length) {k : Nat} {x y : Kpt} (hx : l[k]? = some x) (hs : y.sen = x.sen) (hy : (1 ≤ y.cnt ∧ y.cnt ≤ 1099511627776) ∧ y.mark.length = 32 ∧ y.ans.length ≤ 16384) : Good (l.set k y) (l.set k y).length := by
  have hk := (List.getElem?_eq_some_iff.1 hx).1
  have hsen : ∀ (i : Nat) (r : Kpt), (l.set k y)[i]? = some r → ∃ r', l[i]? = some r' ∧ r'.sen = r.sen := fun i r hr => by
    rw [List.getElem?_set] at hr
    split at hr
    · rename_i e
      subst e
      cases hr
      exact ⟨x, hx, hs.symm⟩
    · exact ⟨r, hr, rfl⟩
  intro i r hi hr
  rw [List.length_set] at hi
  obtain ⟨r', hr', hs'⟩ := hsen i r hr
  have ho := hG i r' hi hr'
  refine ⟨by rw [← hs']; exact ho.1, fun z h0 hz => ?_, ?_⟩
  · obtain ⟨z', hz', hzs⟩ := hsen _ _ hz
    have := ho.2.1 z' h0 hz'
    omega
  · rw [List.getElem?_set] at hr
    split at hr
    · rename_i e
      subst e
      cases hr
      exact ⟨hy.1, hy.2.1, hy.2.2⟩
    · rw [hr'] at hr; cases hr
      exact ⟨ho.2.2.1, ho.2.2.2.1, ho.2.2.2.2⟩
/-- a row is put in -/
theorem good_ins {l : List Kpt} (hG : Good l l.length) {y : Kpt} (hno : ∀ x ∈ l, x.sen ≠ y.sen) (hsy : 1 ≤ y.sen ∧ y.sen ≤ 1048576) (hy : (1 ≤ y.cnt ∧ y.cnt ≤ 1099511627776) ∧ y.mark.length = 32 ∧ y.ans.length ≤ 16384) :
    Good (l.take (posF l y.sen) ++ y :: l.drop (posF l y.sen)) (l.take (posF l y.sen) ++ y :: l.drop (posF l y.sen)).length := by
  obtain ⟨k, hk⟩ : ∃ k, k = posF l y.sen := ⟨_, rfl⟩
  have hkl := posF_le l y.sen
  have hlt := posF_lt l y.sen
  have hge := posF_ge l y.sen
  rw [← hk] at hkl hlt hge ⊢
  have htl : (l.take k).length = k := by rw [List.length_take]; omega
  have hat : ∀ i : Nat, (l.take k ++ y :: l.drop k)[i]? = if i < k then l[i]? else if i = k then some y else l[i - 1]? := fun i => by
    rcases Nat.lt_trichotomy i k with h | h | h
    · rw [if_pos h, List.getElem?_append_left (by omega), List.getElem?_take_of_lt h]
    · rw [if_neg (by omega), if_pos h, List.getElem?_append_right (by omega), htl, h, Nat.sub_self]; rfl
    · rw [if_neg (by omega), if_neg (by omega), List.getElem?_append_right (by omega), htl, show i - k = (i - k - 1) + 1 by omega, List.getElem?_cons_succ, List.getElem?_drop, show k + (i - k - 1) = i - 1 by omega]
  intro i r hi hr
  rw [hat] at hr
  unfold okAt
  rw [hat]
  have hlen : i ≤ l.length := by
    rw [List.length_append, htl, List.length_cons, List.length_drop] at hi
    omega
  rcases Nat.lt_trichotomy i k with h | h | h
  · rw [if_pos h] at hr
    have ho := hG i r (by omega) hr
    refine ⟨ho.1, fun z h0 hz => ?_, ho.2.2⟩
    rw [if_pos (by omega)] at hz
    exact ho.2.1 z h0 hz
  · rw [if_neg (by omega), if_pos h] at hr
    cases hr
    refine ⟨hsy, fun z h0 hz => ?_, hy⟩
    rw [if_pos (by omega)] at hz
    exact hlt (i - 1) z (by omega) hz
  · rw [if_neg (by omega), if_neg (by omega)] at hr
    have hi1 := (List.getElem?_eq_some_iff.1 hr).1
    have ho := hG (i - 1) r hi1 hr
    refine ⟨ho.1, fun z h0 hz => ?_, ho.2.2⟩
    by_cases e : i - 1 = k
    · rw [if_neg (by omega), if_pos e] at hz
      cases hz
      have h1 := hge r (by rw [← e]; exact hr)
      have h2 := hno r (List.mem_of_getElem? hr)
      omega
    · rw [if_neg (by omega), if_neg e] at hz
      exact ho.2.1 z (by omega) hz
/-- a fresh request is carried out -/
theorem AtG.done {l : List Kpt} {b : List UInt8} {s c : Int} {a a' : List UInt8} (h : AtG l b s c a) (hl : l.length < 64) (hc : chkG l = 0) (hG : Good l l.length) (hr : okRq ⟨s, c + 1, b⟩) (ha : a'.length ≤ 16384) :
    ∃ l', doneF l ⟨s, c + 1, b⟩ a' = (l', 0) ∧ l'.length ≤ l.length + 1 ∧ chkG l' = 0 ∧ Good l' l'.length ∧ AtG l' b s (c + 1) a' ∧ ∀ t d e, t ≠ s → AtG l b t d e → AtG l' b t d e := by
  have hf := h.fresh hc hG hr
  have hlo := h.lo
  have hm : (newK ⟨s, c + 1, b⟩ a').mark.length = 32 := sha_length _
  have hcnt : 1 ≤ (newK ⟨s, c + 1, b⟩ a').cnt ∧ (newK ⟨s, c + 1, b⟩ a').cnt ≤ 1099511627776 := hr.2.1
  rcases h.has hG with ⟨h1, h2⟩ | ⟨h1, h2, x, hx, h3, h4, h5, h6⟩
  · have hno : ∀ x ∈ l, x.sen ≠ s := by
      rcases h with ⟨-, h⟩ | ⟨h, -⟩
      · exact h
      · omega
    have hg2 := good_ins (y := newK ⟨s, c + 1, b⟩ a') hG hno hr.1 ⟨hcnt, hm, ha⟩
    refine ⟨_, doneF_ins (by rw [hf]) (by rw [hf]) ha h2 hl, ?_, ?_, hg2, ?_, ?_⟩
    · rw [ins_length (posF_le _ _)]; exact Nat.le_refl _
    · exact chkG_ok (by rw [ins_length (posF_le _ _)]; omega) hg2
    · exact .inr ⟨by omega, newK ⟨s, c + 1, b⟩ a', by simp, rfl, rfl, rfl, rfl⟩
    · intro t d e ht hA
      rcases hA with ⟨hd, hA⟩ | ⟨hd, z, hz, hA⟩
      · refine .inl ⟨hd, fun z hz => ?_⟩
        rcases List.mem_append.1 hz with hz | hz
        · exact hA z (List.mem_of_mem_take hz)
        · rcases List.mem_cons.1 hz with rfl | hz
          · exact fun e => ht e.symm
          · exact hA z (List.mem_of_mem_drop hz)
      · refine .inr ⟨hd, z, ?_, hA⟩
        have : z ∈ l.take (posF l s) ++ l.drop (posF l s) := by rw [List.take_append_drop]; exact hz
        rcases List.mem_append.1 this with h | h
        · exact List.mem_append_left _ h
        · exact List.mem_append_right _ (List.mem_cons_of_mem _ h)
  · have hg2 := good_set (y := newK ⟨s, c + 1, b⟩ a') hG hx h3.symm ⟨hcnt, hm, ha⟩
    have hk := (List.getElem?_eq_some_iff.1 hx).1
    refine ⟨_, doneF_set (by rw [hf]) (by rw [hf]) ha h2, by simp, ?_, hg2, ?_, ?_⟩
    · exact chkG_ok (by rw [List.length_set]; omega) hg2
    · exact .inr ⟨by omega, newK ⟨s, c + 1, b⟩ a', List.mem_set hk _, rfl, rfl, rfl, rfl⟩
    · intro t d e ht hA
      rcases hA with ⟨hd, hA⟩ | ⟨hd, z, hz, hA⟩
      · refine .inl ⟨hd, fun z hz => ?_⟩
        rcases List.mem_or_eq_of_mem_set hz with hz | rfl
        · exact hA z hz
        · exact fun e => ht e.symm
      · refine .inr ⟨hd, z, ?_, hA⟩
        obtain ⟨i, hi, rfl⟩ := List.getElem_of_mem hz
        have hne : posF l s ≠ i := fun e => by
          rw [e, List.getElem?_eq_getElem hi] at hx
          cases hx
          exact ht (hA.1.symm.trans h3)
        have : (l.set (posF l s) (newK ⟨s, c + 1, b⟩ a'))[i]? = some l[i] := by rw [List.getElem?_set_ne hne, List.getElem?_eq_getElem hi]
        exact List.mem_of_getElem? this
end Go.Proofs.Ytnlhcfhngdahlaa
