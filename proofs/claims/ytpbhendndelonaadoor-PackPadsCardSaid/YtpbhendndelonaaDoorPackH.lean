/- Strip: what a padded string is a padding of. -/
import Derived.Test.YtpbhendndelonaaDoorPackG
namespace Go.Proofs.YtpbhendndelonaaDoor
open Go.RowKit
/-- does a unit from z + 1 to 1024 divide n? -/
def fits (n z : Nat) : Bool := (List.range 1024).any fun i => decide (z ≤ i) && n % (i + 1) == 0
theorem fits_yes {n z k : Nat} (h1 : z + 1 ≤ k) (h2 : k ≤ 1024) (h3 : n % k = 0) : fits n z = true := by
  rw [fits, List.any_eq_true]
  refine ⟨k - 1, by rw [List.mem_range]; omega, ?_⟩
  rw [Bool.and_eq_true, beq_iff_eq, decide_eq_true_eq, show k - 1 + 1 = k by omega]
  exact ⟨by omega, h3⟩
theorem fits_iff (n z : Nat) : fits n z = true ↔ ∃ k, z + 1 ≤ k ∧ k ≤ 1024 ∧ n % k = 0 := by
  constructor
  · intro h
    rw [fits, List.any_eq_true] at h
    obtain ⟨i, hi, h⟩ := h
    rw [List.mem_range] at hi
    rw [Bool.and_eq_true, beq_iff_eq, decide_eq_true_eq] at h
    exact ⟨i + 1, by omega, by omega, h.2⟩
  · rintro ⟨k, h1, h2, h3⟩
    exact fits_yes h1 h2 h3
theorem fits_no {n z : Nat} (h : ∀ k, z + 1 ≤ k → k ≤ 1024 → n % k ≠ 0) : fits n z = false := by
  rw [Bool.eq_false_iff]
  intro h'
  obtain ⟨k, h1, h2, h3⟩ := (fits_iff n z).1 h'
  exact h k h1 h2 h3
/-- the string of which s is a padding -/
def stripF (s : List UInt8) : Option (List UInt8) :=
  if Lib.hasSuffix (trimL s) [128] = true ∧ s.length ≤ 16384 ∧ fits s.length (s.length - (trimL s).length) = true then some ((trimL s).take ((trimL s).length - 1)) else none
def stripRes (s : List UInt8) : Value := match stripF s with
  | some o => .tuple #[.string ⟨o.toArray⟩, .int .i64 0]
  | none => .tuple #[.string ⟨#[]⟩, .int .i64 4]
theorem stripRes_some {s : List UInt8} (h1 : Lib.hasSuffix (trimL s) [128] = true) (h2 : s.length ≤ 16384) (h3 : fits s.length (s.length - (trimL s).length) = true) :
    stripRes s = .tuple #[.string ⟨(Lib.trimSuffix (trimL s) [128]).toArray⟩, .int .i64 0] := by
  rw [stripRes, stripF, if_pos ⟨h1, h2, h3⟩, Lib.trimSuffix, if_pos h1]; rfl
theorem stripRes_none {s : List UInt8} (h : ¬ (Lib.hasSuffix (trimL s) [128] = true ∧ s.length ≤ 16384 ∧ fits s.length (s.length - (trimL s).length) = true)) :
    stripRes s = .tuple #[.string ⟨#[]⟩, .int .i64 4] := by
  rw [stripRes, stripF, if_neg h]
theorem trimL_length (s : List UInt8) : (trimL s).length ≤ s.length := by rw [trimL, List.length_take]; omega

/-! ### What a padding's zeros leave -/
theorem bt_pad (s : List UInt8) (z j : Nat) (h1 : s.length + 1 ≤ j) : bt (s ++ [128] ++ List.replicate z 0) j = 0 := by
  rw [bt, List.append_assoc, List.getElem?_append_right (by omega), List.getElem?_append_right (by simp; omega), List.getElem?_replicate]
  split <;> rfl
theorem trimN_pad (s : List UInt8) (z : Nat) : ∀ j, trimN (s ++ [128] ++ List.replicate z 0) (s.length + 1 + j) = s.length + 1
  | 0 => by
    rw [Nat.add_zero, trimN, bt, List.append_assoc, List.getElem?_append_right (by omega), Nat.sub_self]
    simp
  | j + 1 => by
    rw [← Nat.add_assoc, trimN, if_pos (bt_pad s z _ (by omega)), trimN_pad s z j]
theorem trimL_pad (s : List UInt8) (z : Nat) : trimL (s ++ [128] ++ List.replicate z 0) = s ++ [128] := by
  have hl : List.length (s ++ [128] ++ List.replicate z (0 : UInt8)) = s.length + 1 + z := by simp; omega
  rw [trimL, hl, trimN_pad, List.take_append_of_le_length (by simp), List.take_of_length_le (by simp)]
theorem suffix_one (s : List UInt8) (c : UInt8) : Lib.hasSuffix (s ++ [c]) [c] = true := by
  rw [Lib.hasSuffix, List.isSuffixOf_iff_suffix]; exact List.suffix_append s [c]
theorem pad_mod (s : List UInt8) (u : Nat) (hu : 1 ≤ u) : (padL s u).length = u * (s.length / u + 1) := by
  have := Nat.mod_lt s.length (show 0 < u by omega)
  have h2 := Nat.div_add_mod s.length u
  rw [padL_length, Nat.mul_add, Nat.mul_one]
  omega
theorem strip_pad (s : List UInt8) (u : Nat) (hu : 1 ≤ u) (hu2 : u ≤ 1024) (hl : (padL s u).length ≤ 16384) : stripF (padL s u) = some s := by
  have ht : trimL (padL s u) = s ++ [128] := trimL_pad s _
  have hm := pad_mod s u hu
  rw [stripF, ht, if_pos ⟨suffix_one s 128, hl, fits_yes (k := u) (by rw [padL_length]; simp; omega) hu2 (by rw [hm]; exact Nat.mul_mod_right _ _)⟩]
  simp
set_option maxRecDepth 100000 in
theorem strip_walk (s : List UInt8) (w : World) (hs : s.length ≤ 1048576) :
    Calls Tryd.prog 19 #[.string ⟨s.toArray⟩] w fun e w' => e = .returned (stripRes s) ∧ w = w' := by
  have htl := trimL_length s
  obtain ⟨t, ht⟩ : ∃ t, t = trimL s := ⟨_, rfl⟩
  have h1 : Lib.hasSuffix t [128] = true → s.length ≤ 16384 → fits s.length (s.length - t.length) = true → stripRes s = .tuple #[.string ⟨(Lib.trimSuffix t [128]).toArray⟩, .int .i64 0] := fun a b c => by
    rw [ht] at a c ⊢; exact stripRes_some a b c
  have h2 : ¬ (Lib.hasSuffix t [128] = true ∧ s.length ≤ 16384 ∧ fits s.length (s.length - t.length) = true) → stripRes s = .tuple #[.string ⟨#[]⟩, .int .i64 4] := fun a => by
    rw [ht] at a; exact stripRes_none a
  have H1 := Lib.hid h1
  have H2 := Lib.hid h2
  clear h1 h2
  have HT := Lib.hid ht
  clear ht
  go_enter Tryd.func19, Tryd.ntmps19
  go_wp2_with (go_at_call 27; (with_reducible refine (trimRight_walk s _ (by omega)).mono ?_))
  rintro e w1 ⟨rfl, rfl⟩
  rw [← HT.out] at htl ⊢
  have hcs := Tryd.strings_CutSuffix ⟨t.toArray⟩ ⟨#[128]⟩ w (by show t.length ≤ _; omega)
  go_wp2_with (go_at_call 28; (with_reducible refine hcs.mono ?_))
  rintro e w1 ⟨rfl, hw⟩
  obtain rfl : w = w1 := hw.symm
  clear hcs
  obtain ⟨o, ho⟩ : ∃ o, o = Lib.trimSuffix t [128] := ⟨_, rfl⟩
  obtain ⟨b, hb⟩ : ∃ b, b = Lib.hasSuffix t [128] := ⟨_, rfl⟩
  have h1 := H1.out
  have h2 := H2.out
  rw [← ho, ← hb] at h1
  rw [← hb] at h2
  clear H1 H2
  have HO := Lib.hid ho
  have HB := Lib.hid hb
  rw [← ho, ← hb]
  clear ho hb
  cases b with
  | false =>
    have hr := h2 (fun h => by cases h.1)
    have HR := Lib.hid hr
    clear h1 h2 hr
    go_wp2
    go_ret2
    exact ⟨by rw [HR.out]; rfl, rfl⟩
  | true =>
    rcases Nat.lt_or_ge 16384 s.length with hbig | hsm
    · have hr := h2 (fun h => by omega)
      have HR := Lib.hid hr
      clear h1 h2 hr
      go_wp2
      go_ret2
      exact ⟨by rw [HR.out]; rfl, rfl⟩
    · have H1 := Lib.hid h1
      have H2 := Lib.hid h2
      clear h1 h2
      obtain ⟨z, hz⟩ : ∃ z, z = s.length - t.length := ⟨_, rfl⟩
      have hzi : (s.length : Int) - (t.length : Int) = (z : Int) := by omega
      have hz1 : z ≤ 16384 := by omega
      have HZ := Lib.hid hz
      clear hz
      go_wp2
      go_loopw [7] (fun u wr => ∃ k : Nat, wr = w ∧ z + 1 ≤ k ∧ k ≤ 16385 ∧ u = .int .i64 (k : Int) ∧ Hid (∀ j, z + 1 ≤ j → j < k → s.length % j ≠ 0)) (fun u _ => 16386 - (intOf u).toNat)
      case atStart => exact ⟨z + 1, rfl, Nat.le_refl _, by omega, by go_num, Lib.hid (fun j a b => by omega)⟩
      case round =>
        obtain ⟨k, rfl, hk1, hk2, rfl, HK⟩ := hrel
        have hk0 : (0 : Int) < (k : Int) := by omega
        by_cases hkt : k ≤ 1024
        · obtain ⟨r, hr⟩ : ∃ r, r = s.length % k := ⟨_, rfl⟩
          have hri : (s.length : Int) % (k : Int) = (r : Int) := by rw [hr, Int.natCast_emod]
          have HR := Lib.hid hr
          clear hr
          cases r with
          | zero =>
            have hres := H1.out (by trivial) hsm (by rw [← HZ.out]; exact fits_yes hk1 hkt HR.out.symm)
            have HRES := Lib.hid hres
            clear hres
            go_wp2
            go_ret2
            exact ⟨by rw [HRES.out]; rfl, rfl⟩
          | succ r =>
            have hne : (((r + 1 : Nat) : Int) == 0) = false := by rw [beq_eq_false_iff_ne]; omega
            go_wp2
            go_roundw
            case rel => exact ⟨k + 1, trivial, by omega, by omega, by go_num, Lib.hid (fun j a b => by
              by_cases hj : j = k
              · rw [hj, ← HR.out]; omega
              · exact HK.out j a (by omega))⟩
            case measure => simp [intOf]; omega
        · have hres := H2.out (fun h => by
            rw [← HZ.out, fits_no (fun j a b => HK.out j a (by omega))] at h
            exact absurd h.2.2 (by simp))
          have HRES := Lib.hid hres
          clear hres
          go_wp2
          go_ret2
          exact ⟨by rw [HRES.out]; rfl, rfl⟩
end Go.Proofs.YtpbhendndelonaaDoor
