/- Strip: the reference's. -/
import Derived.Test.YtpbhendndelonaaDoorPackR
namespace Go.Proofs.YtpbhendndelonaaDoor
open Go.RowKit
theorem trimN_zero (s : List UInt8) : ∀ n i, trimN s n ≤ i → i < n → bt s i = 0
  | 0, i, _, h => by omega
  | n + 1, i, h, h2 => by
    rw [trimN] at h
    split at h
    · rename_i h0
      by_cases hi : i = n
      · rw [hi]; exact h0
      · exact trimN_zero s n i h (by omega)
    · omega
theorem bt_eq {s : List UInt8} {i n : Nat} (h : i < s.length) (hb : bt s i = n) : s[i] = UInt8.ofNat n := by
  rw [bt, List.getElem?_eq_getElem h] at hb
  rw [← hb]; simp
theorem pad_form {s : List UInt8} {T : Nat} (hT : T = trimN s s.length) (h1 : 1 ≤ T) (hb : bt s (T - 1) = 128) :
    s = s.take (T - 1) ++ [128] ++ List.replicate (s.length - T) 0 := by
  have hle := trimN_le s s.length
  rw [← hT] at hle
  have h2 := drop_bt (l := s) (n := T - 1) (by omega)
  rw [hb, show T - 1 + 1 = T by omega] at h2
  have h3 : s.drop T = List.replicate (s.length - T) 0 := by
    rw [List.eq_replicate_iff]
    refine ⟨by simp, fun b hbm => ?_⟩
    obtain ⟨i, hi, rfl⟩ := List.getElem_of_mem hbm
    rw [List.length_drop] at hi
    rw [List.getElem_drop]
    exact bt_eq _ (trimN_zero s s.length (T + i) (by omega) (by omega))
  rw [h3] at h2
  conv => lhs; rw [← List.take_append_drop (T - 1) s, h2]
  rw [List.append_assoc]; rfl
theorem strip_no1 {s : List UInt8} {T : Nat} (hT : T = trimN s s.length) (h : T = 0 ∨ bt s (T - 1) ≠ 128) : stripRes s = .tuple #[.string ⟨#[]⟩, .int .i64 4] := by
  refine stripRes_none fun hc => ?_
  have hs := hc.1
  rw [Lib.hasSuffix, List.isSuffixOf_iff_suffix] at hs
  obtain ⟨t, ht⟩ := hs
  have hle := trimN_le s s.length
  have hl : (trimL s).length = T := by rw [trimL, List.length_take, ← hT]; omega
  have hl2 : t.length + 1 = T := by rw [← hl, ← ht]; simp
  rcases h with h | h
  · omega
  · refine h ?_
    have h3 : (trimL s)[T - 1]? = some 128 := by rw [← ht, List.getElem?_append_right (by omega)]; simp [← hl2]
    rw [trimL, ← hT, List.getElem?_take_of_lt (by omega)] at h3
    rw [bt, h3]; rfl
theorem strip_no2 {s : List UInt8} (h : 16384 < s.length) : stripRes s = .tuple #[.string ⟨#[]⟩, .int .i64 4] := stripRes_none fun hc => by omega
theorem strip_yes {s o : List UInt8} {k : Nat} (h1 : 1 ≤ k) (h2 : k ≤ 1024) (hl : s.length ≤ 16384) (h : padL o k = s) : stripRes s = .tuple #[.string ⟨o.toArray⟩, .int .i64 0] := by
  subst h
  rw [stripRes, strip_pad o k h1 h2 hl]
theorem strip_no3 {s : List UInt8} {T : Nat} (hT : T = trimN s s.length) (h1 : 1 ≤ T) (hb : bt s (T - 1) = 128) (h : ∀ k, 1 ≤ k → k ≤ 1024 → padL (s.take (T - 1)) k ≠ s) :
    stripRes s = .tuple #[.string ⟨#[]⟩, .int .i64 4] := by
  refine stripRes_none fun hc => ?_
  obtain ⟨k, k1, k2, k3⟩ := (fits_iff _ _).1 hc.2.2
  have hle := trimN_le s s.length
  have hl : (trimL s).length = T := by rw [trimL, List.length_take, ← hT]; omega
  rw [hl] at k1
  have hf := pad_form hT h1 hb
  refine h k (by omega) k2 ?_
  have ho : (s.take (T - 1)).length = T - 1 := by rw [List.length_take]; omega
  have hz : k - 1 - (s.take (T - 1)).length % k = s.length - T := by
    rw [ho]
    obtain ⟨z, hz⟩ : ∃ z, z = s.length - T := ⟨_, rfl⟩
    have hn : s.length = (T - 1) + 1 + z := by omega
    have h4 := Nat.div_add_mod (T - 1) k
    have h5 := Nat.mod_lt (T - 1) (show 0 < k by omega)
    have h6 : ((T - 1) % k + 1 + z) % k = 0 := by
      rw [hn, ← h4, Nat.add_assoc, Nat.add_assoc, Nat.mul_add_mod] at k3
      rw [Nat.add_assoc]; exact k3
    have h7 : (T - 1) % k + 1 + z = k := by
      obtain ⟨q, hq⟩ := Nat.dvd_of_mod_eq_zero h6
      rcases q with _ | _ | q
      · omega
      · omega
      · have : k * (q + 1 + 1) = k * q + k + k := by rw [Nat.mul_add, Nat.mul_add]; omega
        omega
    omega
  rw [padL, hz]
  exact hf.symm
set_option maxRecDepth 100000 in
theorem rstrip_walk (s : List UInt8) (w : World) (hs : s.length ≤ 1048576) :
    Calls Tryd.prog 20 #[.string ⟨s.toArray⟩] w fun e w' => e = .returned (stripRes s) ∧ Below w.heap.size w w' := by
  go_enter Tryd.func20, Tryd.ntmps20
  go_wp2
  go_loopw [4] (fun u wr => ∃ m : Nat, wr = w ∧ m ≤ s.length ∧ u = .int .i64 ((m : Int) - 1) ∧ Hid (trimN s m = trimN s s.length)) (fun u _ => (intOf u + 1).toNat)
  case atStart => exact ⟨s.length, rfl, Nat.le_refl _, rfl, Lib.hid rfl⟩
  case round =>
    obtain ⟨m, rfl, hm, rfl, HT⟩ := hrel
    cases m with
    | zero =>
      have hr := strip_no1 (s := s) (T := 0) (by rw [← HT.out]; rfl) (.inl rfl)
      have HR := Lib.hid hr
      clear hr
      have e0 : (((0 : Nat) : Int) - 1) = -1 := rfl
      rw [e0]
      go_wp2
      go_ret2
      exact ⟨by rw [HR.out]; rfl, Below.refl _ _⟩
    | succ m =>
      have e0 : (((m + 1 : Nat) : Int) - 1) = (m : Int) := by omega
      rw [e0]
      have hml : (m : Int) < (s.length : Int) := by omega
      by_cases h0 : bt s m = 0
      · have hT2 : trimN s m = trimN s s.length := by have := HT.out; rw [trimN, if_pos h0] at this; exact this
        have HT2 := Lib.hid hT2
        clear hT2
        go_wp2
        go_roundw
        case rel => exact ⟨m, trivial, by omega, rfl, HT2⟩
        case measure => simp [intOf]
      · have hT : m + 1 = trimN s s.length := by rw [← HT.out, trimN, if_neg h0]
        have hb0 : ((bt s m : Int) == 0) = false := by rw [beq_eq_false_iff_ne]; omega
        have HT2 := Lib.hid hT
        clear hT HT
        by_cases h8 : bt s m = 128
        · have hb8 : ((bt s m : Int) != 128) = false := by rw [h8]; rfl
          rcases Nat.lt_or_ge 16384 s.length with hbig | hsm
          · have HR := Lib.hid (strip_no2 hbig)
            clear h8
            go_wp2
            go_ret2
            exact ⟨by rw [HR.out]; rfl, Below.refl _ _⟩
          · have HN := Lib.hid (fun h => strip_no3 HT2.out (by omega) h8 h)
            have e1 : m + 1 - 1 = m := rfl
            rw [e1] at HN
            have hol : (s.take m).length = m := by rw [List.length_take]; omega
            clear h8 h0
            go_wp2
            go_loopw [5, 6, 7] (fun u _ _ wx => ∃ k : Nat, 1 ≤ k ∧ k ≤ 1025 ∧ u = .int .i64 (k : Int) ∧ Hid (∀ j, 1 ≤ j → j < k → padL (s.take m) j ≠ s) ∧ Below wr.heap.size wr wx) (fun u _ _ _ => 1025 - (intOf u).toNat)
            case atStart => exact ⟨1, Nat.le_refl _, by omega, rfl, Lib.hid (fun j a b => by omega), Below.refl _ _⟩
            case round =>
              obtain ⟨k, hk1, hk2, rfl, HK, hbw⟩ := hrel
              have hk0 : (0 : Int) < (k : Int) := by omega
              by_cases hkt : k ≤ 1024
              · by_cases hbig : (padL (s.take m) k).length > 16384
                · have hpr : padRes (s.take m) k = .tuple #[.string ⟨#[]⟩, .int .i64 3] := by rw [padRes, if_pos hbig]
                  have hne : padL (s.take m) k ≠ s := fun h => by rw [h] at hbig; omega
                  have HPR := Lib.hid hpr
                  have HNE := Lib.hid hne
                  clear hpr hne hbig
                  go_wp2_with (go_at_call 17; (with_reducible refine (rpad_walk _ k _ (by omega) hk1 hkt).mono ?_))
                  rintro e w2 ⟨rfl, hb2⟩
                  rw [HPR.out]
                  replace hbw := hbw.trans (hb2.mono hbw.size)
                  clear hb2
                  go_wp2
                  go_roundw
                  case rel => exact ⟨k + 1, by omega, by omega, by go_num, Lib.hid (fun j a b => by
                    by_cases hj : j = k
                    · rw [hj]; exact HNE.out
                    · exact HK.out j a (by omega)), hbw⟩
                  case measure => simp [intOf]; omega
                · have hpr : padRes (s.take m) k = .tuple #[.string ⟨(padL (s.take m) k).toArray⟩, .int .i64 0] := by rw [padRes, if_neg hbig]
                  have HPR := Lib.hid hpr
                  clear hpr hbig
                  by_cases he : padL (s.take m) k = s
                  · have HR := Lib.hid (strip_yes hk1 hkt hsm he)
                    rw [he] at HPR
                    clear he
                    go_wp2_with (go_at_call 17; (with_reducible refine (rpad_walk _ k _ (by omega) hk1 hkt).mono ?_))
                    rintro e w2 ⟨rfl, hb2⟩
                    rw [HPR.out]
                    replace hbw := hbw.trans (hb2.mono hbw.size)
                    clear hb2
                    go_wp2
                    go_ret2
                    exact ⟨by rw [HR.out]; rfl, hbw⟩
                  · have HNE := Lib.hid he
                    have hbe : (padL (s.take m) k == s) = false := by rw [beq_eq_false_iff_ne]; exact he
                    obtain ⟨x, hx⟩ : ∃ x, x = padL (s.take m) k := ⟨_, rfl⟩
                    rw [← hx] at hbe HPR
                    clear he hx
                    go_wp2_with (go_at_call 17; (with_reducible refine (rpad_walk _ k _ (by omega) hk1 hkt).mono ?_))
                    rintro e w2 ⟨rfl, hb2⟩
                    rw [HPR.out]
                    replace hbw := hbw.trans (hb2.mono hbw.size)
                    clear hb2
                    go_wp2
                    go_roundw
                    case rel => exact ⟨k + 1, by omega, by omega, by go_num, Lib.hid (fun j a b => by
                      by_cases hj : j = k
                      · rw [hj]; exact HNE.out
                      · exact HK.out j a (by omega)), hbw⟩
                    case measure => simp [intOf]; omega
              · have HR := Lib.hid (HN.out (fun k a b => HK.out k a (by omega)))
                go_wp2
                go_ret2
                exact ⟨by rw [HR.out]; rfl, hbw⟩
        · have hb8 : ((bt s m : Int) != 128) = true := by rw [bne_iff_ne]; omega
          have HR := Lib.hid (strip_no1 HT2.out (.inr h8))
          clear h8 h0
          go_wp2
          go_ret2
          exact ⟨by rw [HR.out]; rfl, Below.refl _ _⟩
end Go.Proofs.YtpbhendndelonaaDoor
