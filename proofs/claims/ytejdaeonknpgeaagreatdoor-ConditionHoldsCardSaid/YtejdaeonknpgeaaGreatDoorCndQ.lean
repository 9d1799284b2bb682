/- Conditions that are made: their terms stand in order. No program in sight. -/
import Derived.Test.YtejdaeonknpgeaaGreatDoorCndP
namespace Go.Proofs.YtejdaeonknpgeaaGreatDoor
/-- terms that make a right part of a condition from a number on -/
def GrowsAt (d n : Nat) (X : List Trm) : Prop := ∀ T Y : List Trm, T.length = n → growT (T ++ X ++ Y) d n = some (n + X.length)
/-- parts one after the other -/
def KidsAt (d : Nat) (A : List Int) (n : Nat) (X : List Trm) : Prop := ∀ T Y : List Trm, T.length = n → growA (growT (T ++ X ++ Y) d) A n = some (n + X.length)
theorem get_mid (T X Y : List Trm) (t : Trm) : (T ++ t :: X ++ Y)[T.length]? = some t := by simp
theorem grows_leaf {t : Trm} (h : okT t = true) (ha : t.args = []) {d : Nat} (hd : 1 ≤ d) (n : Nat) : GrowsAt d n [t] := by
  intro T Y hT
  obtain ⟨d, rfl⟩ : ∃ e, d = e + 1 := ⟨d - 1, by omega⟩
  subst hT
  simp only [growT, get_mid]
  rw [if_pos h, ha]
  rfl
theorem kids_nil (d n : Nat) : KidsAt d [] n [] := fun _ _ _ => rfl
theorem kids_snoc {d n : Nat} {A : List Int} {X Z : List Trm} (h : KidsAt d A n X) (hz : GrowsAt d (n + X.length) Z) : KidsAt d (A ++ [((n + X.length : Nat) : Int)]) n (X ++ Z) := by
  intro T Y hT
  have h1 := h T (Z ++ Y) hT
  have h2 := hz (T ++ X) Y (by rw [List.length_append, hT])
  have e1 : T ++ (X ++ Z) ++ Y = T ++ X ++ (Z ++ Y) := by simp
  have e2 : T ++ X ++ Z ++ Y = T ++ X ++ (Z ++ Y) := by simp
  rw [e1]
  rw [e2] at h2
  rw [growA_next h1 h2, List.length_append]
  congr 1; omega
theorem grows_node {t : Trm} (h : okT t = true) {d n : Nat} {X : List Trm} (hk : KidsAt d t.args (n + 1) X) : GrowsAt (d + 1) n (t :: X) := by
  intro T Y hT
  subst hT
  have h1 := hk (T ++ [t]) Y (by simp)
  have e1 : T ++ [t] ++ X ++ Y = T ++ t :: X ++ Y := by simp
  rw [e1] at h1
  simp only [growT, get_mid]
  rw [if_pos h, h1, List.length_cons]
  congr 1; omega
theorem grows_right {X : List Trm} (h : GrowsAt 6 0 X) (hl : X.length ≤ 24) : rightC X = true := by
  have h1 := h [] [] rfl
  simp only [List.nil_append, List.append_nil, Nat.zero_add] at h1
  simp [rightC, hl, h1]
theorem growT_mono (T : List Trm) : ∀ (d e n m : Nat), d ≤ e → growT T d n = some m → growT T e n = some m
  | 0, _, _, _, _, h => by simp [growT] at h
  | d + 1, 0, _, _, h, _ => by omega
  | d + 1, e + 1, n, m, hde, h => by
    simp only [growT] at h ⊢
    split at h
    · cases h
    · next t ht =>
      split at h
      · next ho =>
        simp only [ho, if_true]
        have key : ∀ (l : List Int) (nx m : Nat), growA (growT T d) l nx = some m → growA (growT T e) l nx = some m := by
          intro l
          induction l with
          | nil => intro nx m h; exact h
          | cons k r ih =>
            intro nx m h
            simp only [growA] at h ⊢
            split at h
            · next hk =>
              split at h
              · next n2 hg =>
                rw [if_pos hk, growT_mono T d e nx n2 (by omega) hg]
                exact ih _ _ h
              · cases h
            · cases h
        exact key _ _ _ h
      · cases h
theorem GrowsAt.mono {d e n : Nat} {X : List Trm} (h : GrowsAt d n X) (hde : d ≤ e) : GrowsAt e n X := fun T Y hT => growT_mono _ d e _ _ hde (h T Y hT)
end Go.Proofs.YtejdaeonknpgeaaGreatDoor
