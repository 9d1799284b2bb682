/- No condition holds with fewer persons than are needed at least; a person's own members never help. No program in sight. -/
import Derived.Test.YtpofijdkckaphaaGreatDoorGCndC
import Derived.Test.YtpofijdkckaphaaGreatDoorGGreP
namespace Go.Proofs.YtpofijdkckaphaaGreatDoor
theorem dst_off {α : Type} [DecidableEq α] (x : α) (l : List α) : dst l = (if x ∈ l then 1 else 0) + dst (l.filter fun y => decide (y ≠ x)) := by
  induction l with
  | nil => rfl
  | cons y l ih =>
    by_cases e : y = x
    · subst e
      rw [List.filter_cons_of_neg (by simp), if_pos (List.mem_cons_self ..)]
      simp only [dst]
      by_cases h : y ∈ l
      · rw [if_pos h] at ih ⊢; omega
      · rw [if_neg h] at ih ⊢; omega
    · rw [List.filter_cons_of_pos (by simpa using e)]
      have e1 : (y ∈ l.filter fun z => decide (z ≠ x)) ↔ y ∈ l := by simp [List.mem_filter, e]
      have e2 : (x ∈ y :: l) ↔ x ∈ l := by
        rw [List.mem_cons]
        exact ⟨fun h => h.elim (fun h => (e h.symm).elim) id, .inr⟩
      simp only [dst, e1, e2]
      omega
/-- more of them are not fewer -/
theorem dst_subL {α : Type} [DecidableEq α] : ∀ (l l' : List α), (∀ x ∈ l, x ∈ l') → dst l ≤ dst l'
  | [], _, _ => Nat.zero_le _
  | x :: l, l', h => by
    simp only [dst]
    by_cases hx : x ∈ l
    · rw [if_pos hx]
      have := dst_subL l l' (fun y hy => h y (List.mem_cons_of_mem _ hy))
      omega
    · rw [if_neg hx]
      have e := dst_off x l'
      rw [if_pos (h x (List.mem_cons_self ..))] at e
      have := dst_subL l (l'.filter fun y => decide (y ≠ x)) (fun y hy => List.mem_filter.2 ⟨h y (List.mem_cons_of_mem _ hy), decide_eq_true (fun e : y = x => hx (e ▸ hy))⟩)
      omega
theorem dst_one {α : Type} [DecidableEq α] {l : List α} {x : α} (h : x ∈ l) : 1 ≤ dst l := by
  have := dst_subL [x] l (fun y hy => by rw [List.mem_singleton.1 hy]; exact h)
  simpa [dst] using this
theorem dst_flt (l : List Mem) (p : Mem → Bool) : dst ((l.filter p).map Mem.person) ≤ dst (l.map Mem.person) :=
  dst_subL _ _ (fun x hx => by
    obtain ⟨m, hm, rfl⟩ := List.mem_map.1 hx
    exact List.mem_map_of_mem (List.mem_filter.1 hm).1)
def leafL (t : Trm) : Int :=
  if t.kind = 3 ∨ t.kind = 5 ∨ t.kind = 7 then t.number else if t.kind = 4 then min t.number 2 else if t.kind = 6 then 2 else 1
theorem leaf_least {wi : Int → Int → Int → Bool} {t : Trm} {me : Mem} {o : List Mem} (h : leafT wi t me o = true) : leafL t ≤ 1 + (dst (o.map Mem.person) : Int) := by
  have hne : ∀ m : Mem, m ∈ o → 1 ≤ dst (o.map Mem.person) := fun m hm => dst_one (List.mem_map_of_mem hm)
  unfold leafT at h
  unfold leafL
  by_cases k3 : t.kind = 3
  · rw [if_pos k3] at h; rw [if_pos (.inl k3)]; exact of_decide_eq_true h
  rw [if_neg k3] at h
  by_cases k4 : t.kind = 4
  · rw [if_pos k4] at h
    rw [if_neg (by omega), if_pos k4]
    have h := of_decide_eq_true h
    cases ho : o with
    | nil => rw [ho] at h; simp [dst] at h ⊢; omega
    | cons m r => have := hne m (by rw [ho]; exact List.mem_cons_self ..); rw [ho] at this; omega
  rw [if_neg k4] at h
  by_cases k5 : t.kind = 5
  · rw [if_pos k5] at h; rw [if_pos (.inr (.inl k5))]
    have h := of_decide_eq_true h
    have := dst_flt o (fun m => wi me.day m.day t.years)
    omega
  rw [if_neg k5] at h
  by_cases k6 : t.kind = 6
  · rw [if_pos k6] at h
    rw [if_neg (by omega), if_neg k4, if_pos k6]
    obtain ⟨m, hm, -⟩ := List.any_eq_true.1 h
    have := hne m hm
    omega
  rw [if_neg k6] at h
  by_cases k7 : t.kind = 7
  · rw [if_pos k7] at h; rw [if_pos (.inr (.inr k7))]
    have h := of_decide_eq_true h
    have := dst_flt o (fun m => saysB t.field t.text m)
    split at h <;> omega
  rw [if_neg (by omega), if_neg k4, if_neg k6]
  omega
theorem foldl_max_le (r : List Int) (x X : Int) (hx : x ≤ X) (h : ∀ y ∈ r, y ≤ X) : r.foldl max x ≤ X := by
  induction r generalizing x with
  | nil => exact hx
  | cons y r ih => exact ih _ (by have := h y (List.mem_cons_self ..); omega) (fun z hz => h z (List.mem_cons_of_mem _ hz))
theorem maxL_le (r : List Int) (X : Int) (h0 : 0 ≤ X) (h : ∀ y ∈ r, y ≤ X) : maxL r ≤ X := by
  cases r with
  | nil => exact h0
  | cons x r => exact foldl_max_le r x X (h x (List.mem_cons_self ..)) (fun y hy => h y (List.mem_cons_of_mem _ hy))
theorem foldl_min_le (r : List Int) (x : Int) : r.foldl min x ≤ x ∧ ∀ y ∈ r, r.foldl min x ≤ y := by
  induction r generalizing x with
  | nil => exact ⟨Int.le_refl _, fun y hy => by simp at hy⟩
  | cons z r ih =>
    obtain ⟨h1, h2⟩ := ih (min x z)
    simp only [List.foldl_cons]
    refine ⟨by omega, fun y hy => ?_⟩
    rcases List.mem_cons.1 hy with rfl | hy
    · omega
    · exact h2 y hy
theorem minL_le (r : List Int) (y : Int) (h : y ∈ r) : minL r ≤ y := by
  cases r with
  | nil => simp at h
  | cons x r =>
    rcases List.mem_cons.1 h with rfl | h
    · exact (foldl_min_le r _).1
    · exact (foldl_min_le r x).2 y h
theorem holds_least (wi : Int → Int → Int → Bool) (T : List Trm) (me : Mem) (o : List Mem) : ∀ f n, holdsT wi T me o f n = true → leastT T f n ≤ 1 + (dst (o.map Mem.person) : Int) := by
  intro f
  induction f with
  | zero => intro n h; simp [holdsT] at h
  | succ f ih =>
    intro n h
    rw [holdsT] at h
    rw [leastT]
    cases ht : T[n]? with
    | none => rw [ht] at h; simp at h
    | some t =>
      rw [ht] at h
      dsimp only at h ⊢
      by_cases k1 : t.kind = 1
      · rw [if_pos k1] at h ⊢
        refine maxL_le _ _ (by omega) (fun y hy => ?_)
        obtain ⟨a, ha, rfl⟩ := List.mem_map.1 hy
        exact ih _ (List.all_eq_true.1 h a ha)
      rw [if_neg k1] at h ⊢
      by_cases k2 : t.kind = 2
      · rw [if_pos k2] at h ⊢
        obtain ⟨a, ha, hh⟩ := List.any_eq_true.1 h
        exact Int.le_trans (minL_le _ _ (List.mem_map_of_mem ha)) (ih _ hh)
      rw [if_neg k2] at h ⊢
      exact leaf_least h
theorem term_least {wi : Int → Int → Int → Bool} {T : List Trm} {M : List Mem} {i : Int} (h : termF wi T 0 M i = true) : leastF T ≤ persF M i := by
  unfold termF at h
  unfold persF leastF
  split at h
  · rename_i hi
    rw [if_pos hi]
    cases hm : M[i.toNat]? with
    | none => rw [hm] at h; simp at h
    | some m =>
      rw [hm] at h
      simp only [Bool.and_eq_true] at h
      rw [if_pos h.1]
      exact holds_least wi T m _ _ _ h.2.2
  · simp at h
theorem foldl_max_ge (r : List Int) (x : Int) : x ≤ r.foldl max x := by
  induction r generalizing x with
  | nil => exact Int.le_refl _
  | cons z r ih => have := ih (max x z); simp only [List.foldl_cons]; omega
theorem foldl_min_ge (r : List Int) (x X : Int) (hx : X ≤ x) (h : ∀ y ∈ r, X ≤ y) : X ≤ r.foldl min x := by
  induction r generalizing x with
  | nil => exact hx
  | cons y r ih => exact ih _ (by have := h y (List.mem_cons_self ..); omega) (fun z hz => h z (List.mem_cons_of_mem _ hz))
theorem least_pos {T : List Trm} (h : Seg T 0 T.length) : ∀ f n, n < T.length → T.length - n ≤ f → 1 ≤ leastT T f n := by
  intro f
  induction f with
  | zero => intro n h1 h2; omega
  | succ f ih =>
    intro n h1 h2
    obtain ⟨t, ht, hok, ha⟩ := h n (Nat.zero_le _) h1
    rw [leastT, ht]
    dsimp only
    simp only [okT, Bool.and_eq_true, beq_iff_eq] at hok
    have hkid : ∀ y ∈ t.args.map (fun a => leastT T f a.toNat), 1 ≤ y := by
      intro y hy
      obtain ⟨a, haa, rfl⟩ := List.mem_map.1 hy
      have := ha a haa
      exact ih _ (by omega) (by omega)
    have hsev : (t.kind = 1 ∨ t.kind = 2) → 0 < t.args.length := fun hk => by
      have := hok.1.2
      rw [sevB, decide_eq_true hk] at this
      exact of_decide_eq_true this.symm
    by_cases k1 : t.kind = 1
    · rw [if_pos k1]
      have hs := hsev (.inl k1)
      cases hA : t.args.map (fun a => leastT T f a.toNat) with
      | nil => have := congrArg List.length hA; simp at this; rw [this] at hs; simp at hs
      | cons x r =>
        have := hkid x (by rw [hA]; exact List.mem_cons_self ..)
        have := foldl_max_ge r x
        show 1 ≤ r.foldl max x
        omega
    rw [if_neg k1]
    by_cases k2 : t.kind = 2
    · rw [if_pos k2]
      have hs := hsev (.inr k2)
      cases hA : t.args.map (fun a => leastT T f a.toNat) with
      | nil => have := congrArg List.length hA; simp at this; rw [this] at hs; simp at hs
      | cons x r =>
        rw [hA] at hkid
        exact foldl_min_ge r x 1 (hkid x (List.mem_cons_self ..)) (fun y hy => hkid y (List.mem_cons_of_mem _ hy))
    rw [if_neg k2]
    have hb := hok.1.1
    unfold bareF countB at hb
    split at hb
    · split
      · omega
      · split
        · omega
        · split <;> omega
    · split at hb
      · simp only [Bool.and_eq_true, decide_eq_true_eq] at hb
        split
        · omega
        · split <;> omega
      · split at hb
        · simp only [Bool.and_eq_true, decide_eq_true_eq] at hb
          rw [if_pos (by omega)]; omega
        · split at hb
          · simp only [Bool.and_eq_true, decide_eq_true_eq] at hb
            rw [if_pos (by omega)]; omega
          · simp at hb
theorem leastF_pos {T : List Trm} (h : rightC T = true) : 1 ≤ leastF T := by
  rw [leastF, if_pos h]
  obtain ⟨-, h0, hs⟩ := right_all h
  exact least_pos hs _ 0 h0 (by omega)
/-- the members of a person beside the one at i are left out -/
structure Wo (l : List Mem) (i : Nat) (m : Mem) (k : Nat) (X : List Mem) (a : Nat) : Prop where
  o : othF X m = othF (l.take k) m
  p : i < k → X[a]? = some m
  n : X.length ≤ k
theorem Wo.nil (l : List Mem) (i : Nat) (m : Mem) : Wo l i m 0 [] 0 := ⟨rfl, fun h => absurd h (Nat.not_lt_zero _), Nat.le_refl _⟩
theorem wo_take {l : List Mem} {k : Nat} {x : Mem} (hx : l[k]? = some x) : l.take (k + 1) = l.take k ++ [x] := by rw [List.take_add_one, hx]; rfl
theorem Wo.here {l : List Mem} {i : Nat} {m : Mem} {X : List Mem} {a : Nat} (h : Wo l i m i X a) (hx : l[i]? = some m) : Wo l i m (i + 1) (X ++ [m]) X.length :=
  ⟨by rw [wo_take hx, othF_snoc, othF_snoc, if_pos rfl, if_pos rfl]; exact h.o, fun _ => by simp, by have := h.n; simp; omega⟩
theorem Wo.other {l : List Mem} {i k : Nat} {m x : Mem} {X : List Mem} {a : Nat} (h : Wo l i m k X a) (hx : l[k]? = some x) (hk : k ≠ i) (hp : x.person ≠ m.person) : Wo l i m (k + 1) (X ++ [x]) a :=
  ⟨by rw [wo_take hx, othF_snoc, othF_snoc, if_neg hp, if_neg hp, h.o], fun hi => by
    have h1 := h.p (by omega)
    rw [List.getElem?_append_left (List.getElem?_eq_some_iff.1 h1).1]; exact h1, by have := h.n; simp; omega⟩
theorem Wo.own {l : List Mem} {i k : Nat} {m x : Mem} {X : List Mem} {a : Nat} (h : Wo l i m k X a) (hx : l[k]? = some x) (hk : k ≠ i) (hp : x.person = m.person) : Wo l i m (k + 1) X a :=
  ⟨by rw [wo_take hx, othF_snoc, if_pos hp, h.o], fun hi => h.p (by omega), by have := h.n; omega⟩
theorem Wo.term {wi : Int → Int → Int → Bool} {T : List Trm} {l : List Mem} {i : Nat} {m : Mem} {X : List Mem} {a : Nat} (h : Wo l i m l.length X a) (hm : l[i]? = some m) : termF wi T 0 X (a : Int) = termF wi T 0 l (i : Int) := by
  have hi := (List.getElem?_eq_some_iff.1 hm).1
  have h2 := h.o
  rw [List.take_length] at h2
  unfold termF
  rw [if_pos (by omega), if_pos (by omega), Int.toNat_natCast, Int.toNat_natCast, h.p hi, hm]
  dsimp only
  rw [h2]
end Go.Proofs.YtpofijdkckaphaaGreatDoor
/- What holds in a set holds in every larger one, in any order. No program in sight. -/
namespace Go.Proofs.YtpofijdkckaphaaGreatDoor
theorem dst_mapS {l l' : List Mem} (h : ∀ m ∈ l, m ∈ l') {β : Type} [DecidableEq β] (f : Mem → β) : dst (l.map f) ≤ dst (l'.map f) :=
  dst_subL _ _ (fun x hx => by
    obtain ⟨m, hm, rfl⟩ := List.mem_map.1 hx
    exact List.mem_map_of_mem (h m hm))
theorem flt_mapS {l l' : List Mem} (h : ∀ m ∈ l, m ∈ l') (p : Mem → Bool) : dst ((l.filter p).map Mem.person) ≤ dst ((l'.filter p).map Mem.person) :=
  dst_mapS (fun m hm => List.mem_filter.2 ⟨h m (List.mem_filter.1 hm).1, (List.mem_filter.1 hm).2⟩) _
theorem leaf_mono {wi : Int → Int → Int → Bool} {t : Trm} {me : Mem} {o o' : List Mem} (hs : ∀ m ∈ o, m ∈ o') (h : leafT wi t me o = true) : leafT wi t me o' = true := by
  unfold leafT at h ⊢
  by_cases k3 : t.kind = 3
  · rw [if_pos k3] at h ⊢
    have := dst_mapS hs Mem.person
    have h := of_decide_eq_true h
    exact decide_eq_true (by omega)
  rw [if_neg k3] at h ⊢
  by_cases k4 : t.kind = 4
  · rw [if_pos k4] at h ⊢
    have : dst (me.dept :: o.map Mem.dept) ≤ dst (me.dept :: o'.map Mem.dept) := dst_subL _ _ (fun x hx => by
      rcases List.mem_cons.1 hx with rfl | hx
      · exact List.mem_cons_self ..
      · obtain ⟨m, hm, rfl⟩ := List.mem_map.1 hx
        exact List.mem_cons_of_mem _ (List.mem_map_of_mem (hs m hm)))
    have h := of_decide_eq_true h
    exact decide_eq_true (by omega)
  rw [if_neg k4] at h ⊢
  by_cases k5 : t.kind = 5
  · rw [if_pos k5] at h ⊢
    have := flt_mapS hs (fun m => wi me.day m.day t.years)
    have h := of_decide_eq_true h
    exact decide_eq_true (by omega)
  rw [if_neg k5] at h ⊢
  by_cases k6 : t.kind = 6
  · rw [if_pos k6] at h ⊢
    obtain ⟨m, hm, hh⟩ := List.any_eq_true.1 h
    exact List.any_eq_true.2 ⟨m, hs m hm, hh⟩
  rw [if_neg k6] at h ⊢
  by_cases k7 : t.kind = 7
  · rw [if_pos k7] at h ⊢
    have := flt_mapS hs (fun m => saysB t.field t.text m)
    have h := of_decide_eq_true h
    exact decide_eq_true (by split at h <;> split <;> first | omega | contradiction)
  rw [if_neg k7] at h ⊢
  exact h
theorem holds_mono {wi : Int → Int → Int → Bool} {T : List Trm} {me : Mem} {o o' : List Mem} (hs : ∀ m ∈ o, m ∈ o') : ∀ f n, holdsT wi T me o f n = true → holdsT wi T me o' f n = true := by
  intro f
  induction f with
  | zero => intro n h; simp [holdsT] at h
  | succ f ih =>
    intro n h
    rw [holdsT] at h ⊢
    cases ht : T[n]? with
    | none => rw [ht] at h; simp at h
    | some t =>
      rw [ht] at h
      dsimp only at h ⊢
      by_cases k1 : t.kind = 1
      · rw [if_pos k1] at h ⊢
        exact List.all_eq_true.2 (fun a ha => ih _ (List.all_eq_true.1 h a ha))
      rw [if_neg k1] at h ⊢
      by_cases k2 : t.kind = 2
      · rw [if_pos k2] at h ⊢
        obtain ⟨a, ha, hh⟩ := List.any_eq_true.1 h
        exact List.any_eq_true.2 ⟨a, ha, ih _ hh⟩
      rw [if_neg k2] at h ⊢
      exact leaf_mono hs h
theorem oth_mono {l l' : List Mem} (h : ∀ m ∈ l, m ∈ l') (me : Mem) : ∀ m ∈ othF l me, m ∈ othF l' me := fun m hm =>
  List.mem_filter.2 ⟨h m (List.mem_filter.1 hm).1, (List.mem_filter.1 hm).2⟩
theorem term_mono {wi : Int → Int → Int → Bool} {T : List Trm} {l l' : List Mem} {i j : Nat} {m : Mem} (h1 : l[i]? = some m) (h2 : l'[j]? = some m) (h : ∀ m ∈ l, m ∈ l') (ht : termF wi T 0 l (i : Int) = true) : termF wi T 0 l' (j : Int) = true := by
  unfold termF at ht ⊢
  rw [if_pos (by omega), Int.toNat_natCast, h1] at ht
  rw [if_pos (by omega), Int.toNat_natCast, h2]
  simp only [Bool.and_eq_true] at ht ⊢
  exact ⟨ht.1, ht.2.1, holds_mono (oth_mono h m) _ _ ht.2.2⟩
theorem pers_mono {l l' : List Mem} {i j : Nat} {m : Mem} (h1 : l[i]? = some m) (h2 : l'[j]? = some m) (h : ∀ m ∈ l, m ∈ l') : persF l (i : Int) ≤ persF l' (j : Int) := by
  unfold persF
  rw [if_pos (by omega), if_pos (by omega), Int.toNat_natCast, Int.toNat_natCast, h1, h2]
  dsimp only
  have := dst_mapS (oth_mono h m) Mem.person
  omega
/-- two of them change places -/
def swapL (L : List Mem) (i k : Nat) (x y : Mem) : List Mem := (L.set i y).set k x
theorem swapL_len (L : List Mem) (i k : Nat) (x y : Mem) : (swapL L i k x y).length = L.length := by simp [swapL]
theorem swapL_at (L : List Mem) (i k : Nat) (x y : Mem) (p : Nat) (hi : i < L.length) (hk : k < L.length) : (swapL L i k x y)[p]? = if p = k then some x else if p = i then some y else L[p]? := by
  unfold swapL
  rw [List.getElem?_set, List.getElem?_set]
  by_cases h1 : k = p
  · subst h1; simp [hk]
  · have h1' : ¬ p = k := fun e => h1 e.symm
    rw [if_neg h1]
    by_cases h2 : i = p
    · subst h2
      rw [if_pos rfl, if_pos hi, if_neg h1', if_pos rfl]
    · rw [if_neg h2, if_neg h1', if_neg (fun e => h2 e.symm)]
theorem swapL_mem {L : List Mem} {i k : Nat} {x y : Mem} (hx : L[i]? = some x) (hy : L[k]? = some y) (z : Mem) (hz : z ∈ L) : z ∈ swapL L i k x y := by
  have hi := (List.getElem?_eq_some_iff.1 hx).1
  have hk := (List.getElem?_eq_some_iff.1 hy).1
  obtain ⟨p, hp⟩ := List.mem_iff_getElem?.1 hz
  by_cases h1 : p = i
  · subst h1
    rw [hx] at hp; obtain rfl := Option.some.inj hp
    exact List.mem_of_getElem? (i := k) (by rw [swapL_at _ _ _ _ _ _ hi hk, if_pos rfl])
  · by_cases h2 : p = k
    · subst h2
      rw [hy] at hp; obtain rfl := Option.some.inj hp
      exact List.mem_of_getElem? (i := i) (by rw [swapL_at _ _ _ _ _ _ hi hk, if_neg (fun e => h1 e.symm), if_pos rfl])
    · exact List.mem_of_getElem? (i := p) (by rw [swapL_at _ _ _ _ _ _ hi hk, if_neg h2, if_neg h1]; exact hp)
/-- where the one at a lies behind the change -/
def trackF (a i k : Nat) : Nat := if a = i then k else if a = k then i else a
theorem track_at {L : List Mem} {i k a : Nat} {x y m : Mem} (hx : L[i]? = some x) (hy : L[k]? = some y) (ha : L[a]? = some m) : (swapL L i k x y)[trackF a i k]? = some m := by
  have hi := (List.getElem?_eq_some_iff.1 hx).1
  have hk := (List.getElem?_eq_some_iff.1 hy).1
  unfold trackF
  rw [swapL_at _ _ _ _ _ _ hi hk]
  by_cases h1 : a = i
  · subst h1
    rw [hx] at ha
    simp [ha]
  · rw [if_neg h1]
    by_cases h2 : a = k
    · subst h2
      rw [hy] at ha
      rw [if_pos rfl, if_neg (fun e => h1 e.symm), if_pos rfl, ha]
    · rw [if_neg h2, if_neg h2, if_neg h1, ha]
end Go.Proofs.YtpofijdkckaphaaGreatDoor
/- Seats: whether a seat's condition holds among the members of a set. No program in sight. -/
namespace Go.Proofs.YtpofijdkckaphaaGreatDoor
/-- a seat; ca, cc: where its condition's terms lie -/
structure Seat where
  mem : Mem
  T : List Trm
  ca : Option Addr
  cc : Nat
  opn : Bool
def noMem : Mem := ⟨[], 0, 0, 0, [], none, 0⟩
def memS (l : List Seat) (i : Int) : Mem := match l[i.toNat]? with
  | some x => x.mem
  | none => noMem
def opS (l : List Seat) (i : Int) : Bool := match l[i.toNat]? with
  | some x => x.opn
  | none => false
def holdS (wi : Int → Int → Int → Bool) (l : List Seat) (A : List Int) (s : Int) : Bool := match l[s.toNat]? with
  | some x => termF wi x.T 0 (A.map (memS l)) (idxS A s)
  | none => false
/-- what holds in a set holds in every larger one -/
theorem hold_mono (wi : Int → Int → Int → Bool) (l : List Seat) : MonoH (holdS wi l) := by
  intro A B s hs hA h
  unfold holdS at h ⊢
  cases hx : l[s.toNat]? with
  | none => rw [hx] at h; cases h
  | some x =>
    rw [hx] at h
    dsimp only at h ⊢
    obtain ⟨i, hi, hi2⟩ := idx_mem hA
    obtain ⟨j, hj, hj2⟩ := idx_mem (hs s hA)
    rw [hi] at h
    rw [hj]
    refine term_mono (m := memS l s) ?_ ?_ ?_ h
    · rw [List.getElem?_map, hi2]; rfl
    · rw [List.getElem?_map, hj2]; rfl
    · intro m hm
      obtain ⟨z, hz, rfl⟩ := List.mem_map.1 hm
      exact List.mem_map_of_mem (hs z hz)
/-- the seats turned round -/
def turnS (n : Nat) (i : Int) : Int := (n : Int) - 1 - i
theorem turn_up {n : Nat} {i : Int} (h : i ∈ upI n) : turnS n i ∈ upI n := by
  rw [mem_upI] at h ⊢
  unfold turnS
  omega
theorem turn_at {l : List Seat} {i : Int} (h : i ∈ upI l.length) : l.reverse[(turnS l.length i).toNat]? = l[i.toNat]? := by
  rw [mem_upI] at h
  unfold turnS
  rw [List.getElem?_reverse (by omega)]
  congr 1
  omega
theorem idx_turn (n : Nat) (A : List Int) (s : Int) : idxS (A.map (turnS n)) (turnS n s) = idxS A s := by
  unfold idxS
  rw [List.findIdx?_map]
  have : ((fun x => decide (x = turnS n s)) ∘ turnS n) = fun x => decide (x = s) := by
    funext x
    unfold turnS
    simp only [Function.comp]
    rw [Bool.eq_iff_iff, decide_eq_true_iff, decide_eq_true_iff]
    omega
  rw [this]
theorem hold_turn (wi : Int → Int → Int → Bool) (l : List Seat) (A : List Int) (hA : ∀ i ∈ A, i ∈ upI l.length) (s : Int) (hs : s ∈ A) : holdS wi l.reverse (A.map (turnS l.length)) (turnS l.length s) = holdS wi l A s := by
  unfold holdS
  rw [turn_at (hA s hs), idx_turn, List.map_map]
  have : A.map (memS l.reverse ∘ turnS l.length) = A.map (memS l) := List.map_congr_left (fun i hi => by
    unfold memS
    simp only [Function.comp]
    rw [turn_at (hA i hi)])
  rw [this]
theorem op_turn {l : List Seat} {i : Int} (h : i ∈ upI l.length) : opS l.reverse (turnS l.length i) = opS l i := by
  unfold opS
  rw [turn_at h]
/-- GreatestTurned: where a seat of the greatest set stands among the turned seats -/
theorem set_turned (wi : Int → Int → Int → Bool) (l : List Seat) : ∀ i ∈ setP (opS l) (holdS wi l) l.length, turnS l.length i ∈ setP (opS l.reverse) (holdS wi l.reverse) l.length :=
  set_turn (hold_mono wi _) (fun _ h => turn_up h) (fun _ h => op_turn h) (hold_turn wi l)
theorem set_turned_len (wi : Int → Int → Int → Bool) (l : List Seat) : (setP (opS l.reverse) (holdS wi l.reverse) l.length).length = (setP (opS l) (holdS wi l) l.length).length := by
  have h1 := set_turned wi l
  have h2 := set_turned wi l.reverse
  rw [List.length_reverse, List.reverse_reverse] at h2
  have hp : ∀ (A : List Int), A.Pairwise (· < ·) → A.Pairwise (fun x y => turnS l.length x ≠ turnS l.length y) := fun A h => h.imp (fun {a b} hab => by unfold turnS; omega)
  have ha := len_inj _ _ (hp _ (set_pair (opS l) (holdS wi l) l.length)) h1
  have hb := len_inj _ _ (hp _ (set_pair (opS l.reverse) (holdS wi l.reverse) l.length)) h2
  omega
/-- a seat that needs nothing -/
theorem hold_free (wi : Int → Int → Int → Bool) (l : List Seat) (hT : ∀ x ∈ l, ∀ m o, termF wi x.T 0 (m : List Mem) (o : Int) = decide (0 ≤ o ∧ o < (m.length : Int))) : ∀ i ∈ upI l.length, holdS wi l (upI l.length) i = true := by
  intro i hi
  have h := mem_upI.1 hi
  unfold holdS
  have hl : i.toNat < l.length := by omega
  rw [List.getElem?_eq_getElem hl]
  dsimp only
  rw [hT _ (List.getElem_mem hl)]
  obtain ⟨k, hk, hk2⟩ := idx_mem hi
  rw [hk, List.length_map]
  have := (List.getElem?_eq_some_iff.1 hk2).1
  exact decide_eq_true (by omega)
end Go.Proofs.YtpofijdkckaphaaGreatDoor
