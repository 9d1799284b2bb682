/- Conditions: which one is weaker, as the reference says it: parts, term by term. No program in sight. -/
import Derived.Test.YtejdaeonknpgeaaDoorGCndJP
namespace Go.Proofs.YtejdaeonknpgeaaDoor
/-- one condition's terms from i to m are another one's, s numbers further on -/
def Fl (s : Int) (A B : List Trm) (i m : Nat) : Prop := ∀ j, i ≤ j → j < m → ∃ x y, A[j]? = some x ∧ 0 ≤ (j : Int) + s ∧ B[((j : Int) + s).toNat]? = some y ∧ headEq x y = true ∧ y.args = x.args.map (· + s)
theorem Fl.join {s : Int} {A B : List Trm} {i m n : Nat} (h : Fl s A B i m) (h2 : Fl s A B m n) : Fl s A B i n := fun j h3 h4 => by
  by_cases hj : j < m
  · exact h j h3 hj
  · exact h2 j (by omega) h4
theorem args_flat {s : Int} {A B : List Trm} {G H : Nat → Option Nat} {p : Int → Int → Bool} (hp : ∀ (i k m m' : Nat), G i = some m → H k = some m' → (k : Int) = i + s → p (i : Int) (k : Int) = true → (m' : Int) = m + s ∧ Fl s A B i m) :
    ∀ (l l' : List Int) (nx nx' m m' : Nat), growA G l nx = some m → growA H l' nx' = some m' → l.length = l'.length → (nx' : Int) = nx + s → zipAll p l l' = true → (m' : Int) = m + s ∧ Fl s A B nx m ∧ l' = l.map (· + s)
  | [], [], nx, nx', m, m', h1, h2, _, hs, _ => by
    simp only [growA, Option.some.injEq] at h1 h2
    subst h1 h2
    exact ⟨hs, fun j h3 h4 => by omega, rfl⟩
  | [], _ :: _, _, _, _, _, _, _, hl, _, _ => by simp at hl
  | _ :: _, [], _, _, _, _, _, _, hl, _, _ => by simp at hl
  | a :: l, b :: l', nx, nx', m, m', h1, h2, hl, hs, hz => by
    simp only [growA] at h1 h2
    simp only [zipAll, Bool.and_eq_true] at hz
    split at h1
    · next ha =>
      split at h1
      · next n2 hg =>
        split at h2
        · next hb =>
          split at h2
          · next n2' hg' =>
            subst ha hb
            obtain ⟨e1, f1⟩ := hp nx nx' n2 n2' hg hg' hs hz.1
            obtain ⟨e2, f2, e3⟩ := args_flat hp l l' n2 n2' m m' h1 h2 (by simpa using hl) e1 hz.2
            exact ⟨e2, f1.join f2, by rw [List.map_cons, ← e3, hs]⟩
          · cases h2
        · cases h2
      · cases h1
    · cases h1
theorem same_flat (s : Int) (A B : List Trm) : ∀ (f d d' i k m m' : Nat), growT A d i = some m → growT B d' k = some m' → (k : Int) = i + s → sameT A B f i k = true → (m' : Int) = m + s ∧ Fl s A B i m
  | 0, _, _, _, _, _, _, _, _, _, h => by simp [sameT] at h
  | _ + 1, 0, _, _, _, _, _, h, _, _, _ => by simp [growT] at h
  | _ + 1, _ + 1, 0, _, _, _, _, _, h, _, _ => by simp [growT] at h
  | f + 1, d + 1, d' + 1, i, k, m, m', h1, h2, hs, h => by
    simp only [growT] at h1 h2
    split at h1
    · cases h1
    · next x hx =>
      split at h2
      · cases h2
      · next y hy =>
        split at h1
        · split at h2
          · simp only [sameT, hx, hy, Bool.and_eq_true] at h
            have hl : x.args.length = y.args.length := by
              have := h.1
              simp only [headEq, Bool.and_eq_true, decide_eq_true_eq] at this
              exact this.2.2.2.2.2
            obtain ⟨e1, f1, e2⟩ := args_flat (s := s) (A := A) (B := B) (p := fun a b => sameT A B f a.toNat b.toNat) (fun i k m m' g1 g2 e hp => same_flat s A B f d d' i k m m' g1 g2 e (by simpa using hp)) x.args y.args (i + 1) (k + 1) m m' h1 h2 hl (by omega) h.2
            refine ⟨e1, fun j h3 h4 => ?_⟩
            by_cases hj : j = i
            · subst hj
              refine ⟨x, y, hx, by omega, ?_, h.1, e2⟩
              rw [show ((j : Int) + s).toNat = k by omega]; exact hy
            · exact f1 j (by omega) h4
          · cases h2
        · cases h1
theorem zip_map {l : List Int} {s : Int} {p : Int → Int → Bool} (h : ∀ a ∈ l, p a (a + s) = true) : zipAll p l (l.map (· + s)) = true := by
  induction l with
  | nil => rfl
  | cons a l ih => simp only [List.map_cons, zipAll, h a (List.mem_cons_self ..), ih (fun b hb => h b (List.mem_cons_of_mem _ hb)), Bool.and_self]
theorem flat_same {s : Int} {A B : List Trm} {i m : Nat} (h : Fl s A B i m) (hS : Seg A i m) : ∀ f j, i ≤ j → j < m → m - j ≤ f → sameT A B f j ((j : Int) + s).toNat = true
  | 0, j, _, _, _ => by omega
  | f + 1, j, h1, h2, h3 => by
    obtain ⟨x, y, hx, h0, hy, hh, ha⟩ := h j h1 h2
    obtain ⟨x', hx', -, hb⟩ := hS j h1 h2
    rw [hx] at hx'
    obtain rfl := Option.some.inj hx'
    simp only [sameT, hx, hy, hh, Bool.true_and, ha]
    refine zip_map fun a hm => ?_
    have h4 := hb a hm
    have h5 := flat_same h hS f a.toNat (by omega) (by omega) (by omega)
    rwa [show ((a.toNat : Int) + s).toNat = (a + s).toNat by omega] at h5
/-- the reference's comparison: the terms of T from a to m, its Args less a, are those of X -/
def sameSeg (T : List Trm) (a m : Nat) (X : List Trm) : Bool := decide (a + X.length = m) && (List.range X.length).all fun i => match T[a + i]?, X[i]? with
  | some t, some x => headEq t x && decide (t.args.map (· - (a : Int)) = x.args)
  | _, _ => false
theorem sameSeg_iff (T : List Trm) (a m : Nat) (X : List Trm) : sameSeg T a m X = true ↔ a + X.length = m ∧ ∀ i, i < X.length → ∃ t x, T[a + i]? = some t ∧ X[i]? = some x ∧ headEq t x = true ∧ t.args.map (· - (a : Int)) = x.args := by
  unfold sameSeg
  rw [Bool.and_eq_true, decide_eq_true_eq, List.all_eq_true]
  refine and_congr_right fun _ => ⟨fun h i hi => ?_, fun h i hi => ?_⟩
  · have h1 := h i (List.mem_range.2 hi)
    split at h1
    · next t x ht hx =>
      rw [Bool.and_eq_true, decide_eq_true_eq] at h1
      exact ⟨t, x, ht, hx, h1.1, h1.2⟩
    · cases h1
  · obtain ⟨t, x, ht, hx, h1, h2⟩ := h i (List.mem_range.1 hi)
    rw [ht, hx]
    dsimp only
    rw [h1, h2]
    simp
theorem headEq_comm (x y : Trm) : headEq x y = headEq y x := by
  unfold headEq
  simp only [eq_comm]
/-- the second one's part from k on is the first one -/
theorem same_b {A B : List Trm} {d k m' : Nat} (hA : rightC A = true) (hB : growT B d k = some m') : sameT A B 24 0 k = sameSeg B k m' A := by
  obtain ⟨h24, h0, hS⟩ := right_all hA
  have gA : growT A 6 0 = some A.length := by simp only [rightC, Bool.and_eq_true, beq_iff_eq] at hA; exact hA.2
  rw [Bool.eq_iff_iff, sameSeg_iff]
  constructor
  · intro h
    obtain ⟨e1, f1⟩ := same_flat (k : Int) A B 24 6 d 0 k A.length m' gA hB (by omega) h
    refine ⟨by omega, fun i hi => ?_⟩
    obtain ⟨x, y, hx, -, hy, hh, ha⟩ := f1 i (Nat.zero_le _) hi
    refine ⟨y, x, ?_, hx, by rw [headEq_comm]; exact hh, ?_⟩
    · rw [← hy]; congr 1; omega
    · rw [ha, List.map_map]
      have : ((fun n : Int => n - (k : Int)) ∘ fun n : Int => n + (k : Int)) = id := by funext z; simp
      rw [this, List.map_id]
  · rintro ⟨e1, f1⟩
    have hf : Fl (k : Int) A B 0 A.length := fun j _ hj => by
      obtain ⟨t, x, ht, hx, hh, ha⟩ := f1 j hj
      refine ⟨x, t, hx, by omega, ?_, by rw [headEq_comm]; exact hh, ?_⟩
      · rw [← ht]; congr 1; omega
      · rw [← ha, List.map_map]
        have : ((fun n : Int => n + (k : Int)) ∘ fun n : Int => n - (k : Int)) = id := by funext z; simp
        rw [this, List.map_id]
    have h := flat_same hf hS 24 0 (Nat.le_refl _) h0 (by omega)
    simpa using h
/-- the first one's part from k on is the second one -/
theorem same_a {A B : List Trm} {d k m : Nat} (hA : rightC A = true) (hB : rightC B = true) (hg : growT A d k = some m) : sameT A B 24 k 0 = sameSeg A k m B := by
  obtain ⟨h24, h0, hSA⟩ := right_all hA
  obtain ⟨k1, k2, hS⟩ := growT_seg A d k m hg
  have gB : growT B 6 0 = some B.length := by simp only [rightC, Bool.and_eq_true, beq_iff_eq] at hB; exact hB.2
  rw [Bool.eq_iff_iff, sameSeg_iff]
  constructor
  · intro h
    obtain ⟨e1, f1⟩ := same_flat (-(k : Int)) A B 24 d 6 k 0 m B.length hg gB (by omega) h
    refine ⟨by omega, fun i hi => ?_⟩
    obtain ⟨x, y, hx, -, hy, hh, ha⟩ := f1 (k + i) (by omega) (by omega)
    refine ⟨x, y, hx, ?_, hh, ?_⟩
    · rw [← hy]; congr 1; omega
    · rw [ha]; rfl
  · rintro ⟨e1, f1⟩
    have hf : Fl (-(k : Int)) A B k m := fun j h3 h4 => by
      obtain ⟨t, x, ht, hx, hh, ha⟩ := f1 (j - k) (by omega)
      refine ⟨t, x, ?_, by omega, ?_, hh, ?_⟩
      · rw [← ht]; congr 1; omega
      · rw [← hx]; congr 1; omega
      · rw [← ha]; rfl
    have h := flat_same hf hS 24 k (Nat.le_refl _) k1 (by omega)
    rwa [show ((k : Int) + -(k : Int)).toNat = 0 by omega] at h
theorem growA_arg {G : Nat → Option Nat} : ∀ (l : List Int) (nx m k : Nat) (a : Int), growA G l nx = some m → l[k]? = some a → ∃ n m2 : Nat, a = (n : Int) ∧ G n = some m2 ∧ (match l[k + 1]? with | some e => e = (m2 : Int) | none => m2 = m)
  | [], _, _, _, _, _, h => by simp at h
  | b :: l, nx, m, k, a, h, hk => by
    simp only [growA] at h
    split at h
    · next hb =>
      split at h
      · next n2 hg =>
        cases k with
        | zero =>
          simp only [List.getElem?_cons_zero, Option.some.injEq] at hk
          subst hk
          refine ⟨nx, n2, hb, hg, ?_⟩
          rw [List.getElem?_cons_succ]
          cases l with
          | nil => simp only [growA, Option.some.injEq] at h; simpa using h
          | cons c l =>
            simp only [growA] at h
            split at h
            · next hc => simpa using hc
            · cases h
        | succ k =>
          rw [List.getElem?_cons_succ] at hk
          rw [List.getElem?_cons_succ]
          exact growA_arg l n2 m k a h hk
      · cases h
    · cases h
/-- where the part of an Arg ends -/
def endF (T : List Trm) (l : List Int) (k : Nat) : Nat := match l[k + 1]? with
  | some e => e.toNat
  | none => T.length
/-- the reference's has -/
def hasF (T X : List Trm) : Bool := match T[0]? with
  | some t => (List.range t.args.length).any fun k => match t.args[k]? with
    | some a => sameSeg T a.toNat (endF T t.args k) X
    | none => false
  | none => false
def kindF (kind : Int) (T : List Trm) : Bool := match T[0]? with
  | some t => decide (t.kind = kind)
  | none => false
/-- the reference's Weaker -/
def weakR (A B : List Trm) : Bool := (rightC A && rightC B) && (sameSeg A 0 A.length B || ((kindF 2 B && hasF B A) || (kindF 1 A && hasF A B)))
theorem any_idx {l : List Int} {p : Int → Bool} {q : Nat → Int → Bool} (h : ∀ k a, l[k]? = some a → p a = q k a) : l.any p = (List.range l.length).any fun k => match l[k]? with
    | some a => q k a
    | none => false := by
  rw [Bool.eq_iff_iff, List.any_eq_true, List.any_eq_true]
  constructor
  · rintro ⟨a, ha, hp⟩
    obtain ⟨k, hk⟩ := List.mem_iff_getElem?.1 ha
    refine ⟨k, List.mem_range.2 (List.getElem?_eq_some_iff.1 hk).1, ?_⟩
    rw [hk]
    dsimp only
    rw [← h k a hk]; exact hp
  · rintro ⟨k, hk, hq⟩
    split at hq
    · next a ha => exact ⟨a, List.mem_iff_getElem?.2 ⟨k, ha⟩, by rw [h k a ha]; exact hq⟩
    · cases hq
/-- the Args of the first term of a right condition -/
theorem right_arg {T : List Trm} (hT : rightC T = true) {t : Trm} (ht : T[0]? = some t) {k : Nat} {a : Int} (hk : t.args[k]? = some a) : ∃ n : Nat, a = (n : Int) ∧ growT T 5 n = some (endF T t.args k) := by
  have g : growT T 6 0 = some T.length := by simp only [rightC, Bool.and_eq_true, beq_iff_eq] at hT; exact hT.2
  rw [growT, ht] at g
  dsimp only at g
  split at g
  · obtain ⟨n, m2, e, hg, hm⟩ := growA_arg t.args 1 T.length k a g hk
    refine ⟨n, e, ?_⟩
    rw [hg]
    unfold endF
    split at hm
    · next e' he => subst hm; simp
    · next he => rw [hm]
  · cases g
theorem weakR_eq (A B : List Trm) : weakF A B = weakR A B := by
  unfold weakF weakR
  cases hA : rightC A with
  | false => rfl
  | true =>
  cases hB : rightC B with
  | false => rfl
  | true =>
  have gA : growT A 6 0 = some A.length := by simp only [rightC, Bool.and_eq_true, beq_iff_eq] at hA; exact hA.2
  have e1 : sameT A B 24 0 0 = sameSeg A 0 A.length B := same_a hA hB gA
  have e2 : firstAny 2 B (fun k => sameT A B 24 0 k.toNat) = (kindF 2 B && hasF B A) := by
    unfold firstAny kindF hasF
    cases ht : B[0]? with
    | none => rfl
    | some t =>
      dsimp only
      congr 1
      refine any_idx (q := fun k a => sameSeg B a.toNat (endF B t.args k) A) fun k a hk => ?_
      obtain ⟨n, rfl, hg⟩ := right_arg hB ht hk
      rw [Int.toNat_natCast]
      exact same_b hA hg
  have e3 : firstAny 1 A (fun k => sameT A B 24 k.toNat 0) = (kindF 1 A && hasF A B) := by
    unfold firstAny kindF hasF
    cases ht : A[0]? with
    | none => rfl
    | some t =>
      dsimp only
      congr 1
      refine any_idx (q := fun k a => sameSeg A a.toNat (endF A t.args k) B) fun k a hk => ?_
      obtain ⟨n, rfl, hg⟩ := right_arg hA ht hk
      rw [Int.toNat_natCast]
      exact same_a hA hB hg
  rw [e1, e2, e3]
end Go.Proofs.YtejdaeonknpgeaaDoor
