/- Chains of records: a copy; a chain with one more record: the program's. -/
import Derived.Test.YtgjjpijcakafhaaGCustodyE
import Derived.Lib.SliceRun
namespace Go.Proofs.Ytgjjpijcakafhaa
open Go.RowKit
set_option maxRecDepth 100000 in
set_option maxHeartbeats 1000000 in
theorem clone_walk (a : Option Addr) (l : List Rec) (cap : Nat) (w : World) (hR : Rd w a (recs l)) (hn : l.length ≤ 100000) :
    Calls Try.prog 32 #[.slice a l.length cap] w fun e w' => ∃ a' cap', e = .returned (.slice a' l.length cap') ∧ Ow w' w.heap.size 5 a' l.length cap' (recs l) ∧ Below w.heap.size w w' := by
  cases a with
  | none =>
    have h0 : l = [] := by
      cases l with
      | nil => rfl
      | cons r l =>
        obtain ⟨g, off, ha, _⟩ := hR 0 (.int .i64 r.num) rfl
        cases ha
    subst h0
    have he := Lib.run_eql_slice_nil (P := Try.prog) w 22 24 none 0 cap 0 0 Try.underlying22
    rw [List.length_nil]
    go_enter Try.func32, Try.ntmps32
    go_wp2
    go_ret
    exact ⟨none, 0, rfl, Ow.nil _ _ _, Below.refl _ _⟩
  | some p =>
    have hw1 := (Below.refl w.heap.size w).alloc (Nat.le_refl _) (.cells #[] 24)
    have hO := Ow.empty w 24 5
    have hR1 := hR.keep hw1
    have hrl := recs_length l
    have he := Lib.run_eql_slice_nil (P := Try.prog) w 22 24 (some p) l.length cap 0 0 Try.underlying22
    go_enter Try.func32, Try.ntmps32
    go_wp2_with (at_builtin; refine wpList_apps (w0 := w) (B := w.heap.size) rfl _ _ _ _ rfl el_rec rfl hO hw1 (Nat.le_refl _) hw1.size rfl (Src.slice Try.underlying22 hrl hR1 (recs_one l)) (by omega) ?_)
    intro a' cap' w2 hO2 hb2 _
    go_wp2
    go_ret
    exact ⟨a', cap', rfl, hO2, hb2⟩
set_option maxRecDepth 100000 in
set_option maxHeartbeats 2000000 in
theorem add_walk' (a : Option Addr) (l : List Rec) (cap : Nat) (t k : Int) (body : List UInt8) (w : World) (hR : Rd w a (recs l)) (hn : l.length ≤ 281474976710656) (hc : l.length ≤ cap) (hI : ∀ r ∈ l, r.In) :
    Calls Try.prog 8 #[.slice a l.length cap, .int .i64 t, .int .i64 k, .string ⟨body.toArray⟩] w (AddRes w (addF l t k body) (addL l t k body)) := by
  obtain ⟨n, hln⟩ : ∃ n, n = l.length := ⟨_, rfl⟩
  obtain ⟨i0, hi0⟩ : ∃ i, i = (checkF l).1 := ⟨_, rfl⟩
  obtain ⟨e0, he0⟩ : ∃ e, e = (checkF l).2 := ⟨_, rfl⟩
  have k1 : Calls Try.prog 7 #[.slice a n cap] w fun e w' => e = .returned (.tuple #[.int .i64 i0, .int .i64 e0]) ∧ Below w.heap.size w w' := by
    rw [hln, hi0, he0]; exact ccheck_walk a l cap w hR hn hc hI
  have K1 := Lib.hid k1
  have HN := Lib.hid hln
  have HE := Lib.hid he0
  rw [← hln] at hn hc ⊢
  clear k1 hi0 hln
  go_enter Try.func8, Try.ntmps8
  go_wp2_with (go_at_call 7; (with_reducible refine K1.out.mono ?_))
  rintro e w1 ⟨rfl, hB⟩
  clear K1
  by_cases h0 : e0 = 0
  rotate_left
  · have hne : (e0 != 0) = true := by rw [bne_iff_ne]; exact h0
    have hA : addF l t k body = e0 := by rw [addF, if_pos (by rw [← he0]; exact h0), he0]
    have hL : addL l t k body = [] := by rw [addL, hA, if_neg h0]
    have HA2 := Lib.hid hA
    have HL2 := Lib.hid hL
    clear hA hL he0
    go_wp2
    go_ret2
    rw [HA2.out, HL2.out]; exact AddRes.no hB
  subst h0
  have hrt := checkF_ok he0.symm
  have hsm := hrt.len (Nat.le_refl _)
  rw [← HN.out] at hsm
  obtain ⟨s, hs⟩ : ∃ s, s = (lastF l).1 := ⟨_, rfl⟩
  obtain ⟨t0, ht0⟩ : ∃ t0, t0 = (lastF l).2 := ⟨_, rfl⟩
  have k2 : Calls Try.prog 29 #[.slice a n cap] w1 fun e w' => e = .returned (.tuple #[.string ⟨s.toArray⟩, .int .i64 t0]) ∧ Below w1.heap.size w1 w' := by
    rw [HN.out, hs, ht0]
    exact last_walk a l cap w1 (hR.keep hB) (by rw [← HN.out]; omega) (by have := hrt.fits (Nat.le_refl _) hI; rwa [List.take_length] at this)
  have hA0 : addF l t k body = if ¬ (0 ≤ t ∧ t ≤ 1099511627776) ∨ t < t0 then 16 else if ¬ (1 ≤ k ∧ k ≤ 7) then 2 else if 16384 < body.length ∨ 1024 ≤ n then 3 else 0 := by
    rw [addF, if_neg (by rw [← he0]; simp), ht0, HN.out]
  have HA := Lib.hid hA0
  have HS := Lib.hid hs
  have K2 := Lib.hid k2
  clear k2 hA0 hs ht0 he0 HE
  go_wp2_with (go_at_call 29; (with_reducible refine K2.out.mono ?_))
  rintro e w2 ⟨rfl, hB2⟩
  replace hR := hR.keep (below_tr hB hB2)
  replace hB := hB.trans (hB2.mono hB.size)
  clear hB2 K2
  by_cases hE : 0 ≤ t ∧ t ≤ 1099511627776
  rotate_left
  · have k2 : ∀ V, Calls Try.prog 30 #[.int .i64 t] V fun e w' => e = .returned (.bool false) ∧ V = w' := fun V => by
      have := time_walk t V
      rw [decide_eq_false hE] at this; exact this
    have K2 := Lib.hid k2
    have hA : addF l t k body = 16 := by rw [HA.out, if_pos (.inl hE)]
    have hL : addL l t k body = [] := by rw [addL, hA, if_neg (by decide)]
    have HA2 := Lib.hid hA
    have HL2 := Lib.hid hL
    clear k2 hE hA hL
    go_wp2_with (go_at_call 30; (with_reducible refine (K2.out _).mono ?_); rintro e w3 ⟨rfl, rfl⟩)
    go_ret2
    rw [HA2.out, HL2.out]; exact AddRes.no hB
  have k2 : ∀ V, Calls Try.prog 30 #[.int .i64 t] V fun e w' => e = .returned (.bool true) ∧ V = w' := fun V => by
    have := time_walk t V
    rw [decide_eq_true hE] at this; exact this
  have K2 := Lib.hid k2
  clear k2
  by_cases hG : t < t0
  · have d6 : decide (t < t0) = true := decide_eq_true hG
    have hA : addF l t k body = 16 := by rw [HA.out, if_pos (.inr hG)]
    have hL : addL l t k body = [] := by rw [addL, hA, if_neg (by decide)]
    have HA2 := Lib.hid hA
    have HL2 := Lib.hid hL
    clear hE hA hL
    go_wp2_with (go_at_call 30; (with_reducible refine (K2.out _).mono ?_); rintro e w3 ⟨rfl, rfl⟩)
    go_ret2
    rw [HA2.out, HL2.out]; exact AddRes.no hB
  have d6 : decide (t < t0) = false := decide_eq_false hG
  have hF3 : ¬ (¬ (0 ≤ t ∧ t ≤ 1099511627776) ∨ t < t0) := by simp only [not_or, Classical.not_not]; exact ⟨hE, hG⟩
  rw [if_neg hF3] at HA
  by_cases hH : 1 ≤ k ∧ k ≤ 7
  rotate_left
  · have k3 : ∀ V, Calls Try.prog 31 #[.int .i64 k] V fun e w' => e = .returned (.bool false) ∧ V = w' := fun V => by
      have := kind_walk k V
      rw [decide_eq_false hH] at this; exact this
    have K3 := Lib.hid k3
    have hA : addF l t k body = 2 := by rw [HA.out, if_pos hH]
    have hL : addL l t k body = [] := by rw [addL, hA, if_neg (by decide)]
    have HA2 := Lib.hid hA
    have HL2 := Lib.hid hL
    clear k3 hF3 hE hG hH hA hL
    go_wp2_with (first
      | (go_at_call 30; (with_reducible refine (K2.out _).mono ?_); rintro e w3 ⟨rfl, rfl⟩)
      | (go_at_call 31; (with_reducible refine (K3.out _).mono ?_); rintro e w3 ⟨rfl, rfl⟩))
    go_ret2
    rw [HA2.out, HL2.out]; exact AddRes.no hB
  have k3 : ∀ V, Calls Try.prog 31 #[.int .i64 k] V fun e w' => e = .returned (.bool true) ∧ V = w' := fun V => by
    have := kind_walk k V
    rw [decide_eq_true hH] at this; exact this
  have K3 := Lib.hid k3
  rw [if_neg (fun h => h hH)] at HA
  clear k3 hF3 hE hG hH
  by_cases hM : 16384 < body.length ∨ 1024 ≤ n
  · have hA : addF l t k body = 3 := by rw [HA.out, if_pos hM]
    have hL : addL l t k body = [] := by rw [addL, hA, if_neg (by decide)]
    have HA2 := Lib.hid hA
    have HL2 := Lib.hid hL
    clear hA hL HA
    by_cases hM2 : 16384 < body.length
    · have d7 : decide ((body.length : Int) > 16384) = true := decide_eq_true (by omega)
      clear hM
      go_wp2_with (first
        | (go_at_call 30; (with_reducible refine (K2.out _).mono ?_); rintro e w3 ⟨rfl, rfl⟩)
        | (go_at_call 31; (with_reducible refine (K3.out _).mono ?_); rintro e w3 ⟨rfl, rfl⟩))
      go_ret2
      rw [HA2.out, HL2.out]; exact AddRes.no hB
    · have d7 : decide ((body.length : Int) > 16384) = false := decide_eq_false (by omega)
      have d8 : decide ((n : Int) ≥ 1024) = true := decide_eq_true (by omega)
      clear hM
      go_wp2_with (first
        | (go_at_call 30; (with_reducible refine (K2.out _).mono ?_); rintro e w3 ⟨rfl, rfl⟩)
        | (go_at_call 31; (with_reducible refine (K3.out _).mono ?_); rintro e w3 ⟨rfl, rfl⟩))
      go_ret2
      rw [HA2.out, HL2.out]; exact AddRes.no hB
  · have hA : addF l t k body = 0 := by rw [HA.out, if_neg hM]
    have hL : addL l t k body = l ++ [⟨n, t, k, body, s⟩] := by rw [addL, hA, if_pos rfl, ← HN.out, ← HS.out]
    have HA2 := Lib.hid hA
    have HL2 := Lib.hid hL
    have d7 : decide ((body.length : Int) > 16384) = false := decide_eq_false (by omega)
    have d8 : decide ((n : Int) ≥ 1024) = false := decide_eq_false (by omega)
    have k4 : Calls Try.prog 32 #[.slice a n cap] w2 fun e w' => ∃ a' cap', e = .returned (.slice a' n cap') ∧ Ow w' w2.heap.size 5 a' n cap' (recs l) ∧ Below w2.heap.size w2 w' := by
      rw [HN.out]; exact clone_walk a l cap w2 hR (by rw [← HN.out]; omega)
    have K4 := Lib.hid k4
    clear k4 hM hA hL HA hR
    go_wp2_with (first
      | (go_at_call 30; (with_reducible refine (K2.out _).mono ?_); rintro e w3 ⟨rfl, rfl⟩)
      | (go_at_call 31; (with_reducible refine (K3.out _).mono ?_); rintro e w3 ⟨rfl, rfl⟩)
      | (go_at_call 32; (with_reducible refine K4.out.mono ?_)))
    rintro e w3 ⟨a3, c3, rfl, hO, hB3⟩
    have hB4 := hB.trans (hB3.mono hB.size)
    replace hO := hO.lower hB.size
    have hb0 := hB4.size
    have hn2 : (n + 1) * 56 ≤ 140737488355328 := by omega
    clear hB3 K2 K3 K4
    go_wp2_with (at_builtin; refine wpList_app1 (w0 := w) (B := w.heap.size) rfl _ _ _ rfl el_rec rfl hO hB4 (Nat.le_refl _) hb0 (cs := [.int .i64 (n : Int), .int .i64 t, .int .i64 k, .string ⟨body.toArray⟩, .string ⟨s.toArray⟩]) rfl rfl ?one hn2 ?_)
    case one => intro u hu; simp at hu; rcases hu with rfl | rfl | rfl | rfl | rfl <;> rfl
    intro a4 c4 w4 hO4 hB5 _
    go_wp2
    go_ret2
    rw [HA2.out, HL2.out]
    exact ⟨a4, c4, by rw [List.length_append, ← HN.out]; rfl, by rw [List.length_append, ← HN.out, recs_append]; exact hO4, hB5⟩
end Go.Proofs.Ytgjjpijcakafhaa
