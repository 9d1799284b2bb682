/- Chains of records: what may follow, and which chains are right: the program's. -/
import Derived.Test.YtgjjpijcakafhaaGCustodyB
namespace Go.Proofs.Ytgjjpijcakafhaa
open Go.RowKit
set_option maxRecDepth 100000 in
set_option maxHeartbeats 2000000 in
theorem follows_walk (a : Option Addr) (l : List Rec) (cap : Nat) (r : Rec) (w : World) (hR : Rd w a (recs l)) (hn : l.length ≤ 281474976710656) (hF : Fits l) :
    Calls Try.prog 28 #[.slice a l.length cap, .agg #[.int .i64 r.num, .int .i64 r.time, .int .i64 r.kind, .string ⟨r.body.toArray⟩, .string ⟨r.before.toArray⟩]] w fun e w' => e = .returned (.int .i64 (followsF l r)) ∧ Below w.heap.size w w' := by
  obtain ⟨s, hs⟩ : ∃ s, s = (lastF l).1 := ⟨_, rfl⟩
  obtain ⟨t, ht⟩ : ∃ t, t = (lastF l).2 := ⟨_, rfl⟩
  have hk := Rk.new w r
  have hB := (Below.refl w.heap.size w).alloc (Nat.le_refl _) (.cells #[.int .i64 r.num, .int .i64 r.time, .int .i64 r.kind, .string ⟨r.body.toArray⟩, .string ⟨r.before.toArray⟩] 24)
  have k1 : ∀ V, Rd V a (recs l) → Calls Try.prog 29 #[.slice a l.length cap] V fun e w' => e = .returned (.tuple #[.string ⟨s.toArray⟩, .int .i64 t]) ∧ Below V.heap.size V w' := fun V h => by
    have := last_walk a l cap V h hn hF
    rw [← hs, ← ht] at this; exact this
  have HS := Lib.hid hs
  have HT := Lib.hid ht
  have K1 := Lib.hid (k1 _ (hR.keep hB))
  clear hs ht k1 hF hR
  obtain ⟨n, hln⟩ : ∃ n, n = l.length := ⟨_, rfl⟩
  have HN := Lib.hid hln
  rw [← hln] at K1 hn ⊢
  clear hln
  go_enter Try.func28, Try.ntmps28
  go_wp2_with (go_at_call 29; (with_reducible refine K1.out.mono ?_))
  rintro e w2 ⟨rfl, hb2⟩
  replace hB := hB.trans (hb2.mono hB.size)
  replace hk := hk.keep hb2
  clear hb2 K1
  generalize hg : w.heap.size = g at *
  have c0 := hk.c0
  have c1 := hk.c1
  have c2 := hk.c2
  have c3 := hk.c3
  have c4 := hk.c4
  by_cases hA : 1024 ≤ n
  · have d1 : decide ((n : Int) ≥ 1024) = true := decide_eq_true (by omega)
    go_wp2
    go_ret
    exact ⟨ret_int (by rw [followsF, if_pos (.inl (by rw [← HN.out]; exact hA))]), hg ▸ hB⟩
  have d1 : decide ((n : Int) ≥ 1024) = false := decide_eq_false (by omega)
  by_cases hBd : 16384 < r.body.length
  · have d2 : decide ((r.body.length : Int) > 16384) = true := decide_eq_true (by omega)
    go_wp2
    go_ret
    exact ⟨ret_int (by rw [followsF, if_pos (.inr hBd)]), hg ▸ hB⟩
  have d2 : decide ((r.body.length : Int) > 16384) = false := decide_eq_false (by omega)
  have hF1 : ¬ (1024 ≤ l.length ∨ 16384 < r.body.length) := by rw [← HN.out]; omega
  by_cases hC : r.num = (n : Int)
  rotate_left
  · have d3 : (r.num != (n : Int)) = true := by rw [bne_iff_ne]; exact hC
    go_wp2
    go_ret
    exact ⟨ret_int (by rw [followsF, if_neg hF1, if_pos (.inl (by rw [← HN.out]; exact hC))]), hg ▸ hB⟩
  have d3 : (r.num != (n : Int)) = false := by rw [bne_eq_false_iff_eq]; exact hC
  by_cases hD : r.before = s
  rotate_left
  · have d4 : (r.before != s) = true := by rw [bne_iff_ne]; exact hD
    have d5 : (r.before == s) = false := by rw [beq_eq_false_iff_ne]; exact hD
    go_wp2
    go_ret
    exact ⟨ret_int (by rw [followsF, if_neg hF1, if_pos (.inr (by rw [← HS.out]; exact hD))]), hg ▸ hB⟩
  have d4 : (r.before != s) = false := by rw [bne_eq_false_iff_eq]; exact hD
  have d5 : (r.before == s) = true := by rw [beq_iff_eq]; exact hD
  have hF2 : ¬ (r.num ≠ (l.length : Int) ∨ r.before ≠ (lastF l).1) := by
    rw [← HN.out, ← HS.out]; simp [hC, hD]
  by_cases hE : 0 ≤ r.time ∧ r.time ≤ 1099511627776
  rotate_left
  · have k2 : ∀ V, Calls Try.prog 30 #[.int .i64 r.time] V fun e w' => e = .returned (.bool false) ∧ V = w' := fun V => by
      have := time_walk r.time V
      rw [decide_eq_false hE] at this; exact this
    have K2 := Lib.hid k2
    have HE := Lib.hid hE
    clear k2 hE
    go_wp2_with (go_at_call 30; (with_reducible refine (K2.out _).mono ?_); rintro e w3 ⟨rfl, rfl⟩)
    go_ret
    exact ⟨ret_int (by rw [followsF, if_neg hF1, if_neg hF2, if_pos (.inl HE.out)]), hg ▸ hB⟩
  have k2 : ∀ V, Calls Try.prog 30 #[.int .i64 r.time] V fun e w' => e = .returned (.bool true) ∧ V = w' := fun V => by
    have := time_walk r.time V
    rw [decide_eq_true hE] at this; exact this
  have K2 := Lib.hid k2
  clear k2
  by_cases hG : r.time < t
  · have d6 : decide (r.time < t) = true := decide_eq_true hG
    go_wp2_with (go_at_call 30; (with_reducible refine (K2.out _).mono ?_); rintro e w3 ⟨rfl, rfl⟩)
    go_ret
    exact ⟨ret_int (by rw [followsF, if_neg hF1, if_neg hF2, if_pos (.inr (by rw [← HT.out]; exact hG))]), hg ▸ hB⟩
  have d6 : decide (r.time < t) = false := decide_eq_false hG
  have hF3 : ¬ (¬ (0 ≤ r.time ∧ r.time ≤ 1099511627776) ∨ r.time < (lastF l).2) := by rw [← HT.out]; simp only [not_or, Classical.not_not]; exact ⟨hE, hG⟩
  by_cases hH : 1 ≤ r.kind ∧ r.kind ≤ 7
  rotate_left
  · have k3 : ∀ V, Calls Try.prog 31 #[.int .i64 r.kind] V fun e w' => e = .returned (.bool false) ∧ V = w' := fun V => by
      have := kind_walk r.kind V
      rw [decide_eq_false hH] at this; exact this
    have K3 := Lib.hid k3
    have HF1 := Lib.hid hF1
    have HF2 := Lib.hid hF2
    have HF3 := Lib.hid hF3
    have HH := Lib.hid hH
    clear k3 hF1 hF2 hF3 hE hG hH
    go_wp2_with (first
      | (go_at_call 30; (with_reducible refine (K2.out _).mono ?_); rintro e w3 ⟨rfl, rfl⟩)
      | (go_at_call 31; (with_reducible refine (K3.out _).mono ?_); rintro e w3 ⟨rfl, rfl⟩))
    go_ret
    exact ⟨ret_int (by rw [followsF, if_neg HF1.out, if_neg HF2.out, if_neg HF3.out, if_pos HH.out]), hg ▸ hB⟩
  · have k3 : ∀ V, Calls Try.prog 31 #[.int .i64 r.kind] V fun e w' => e = .returned (.bool true) ∧ V = w' := fun V => by
      have := kind_walk r.kind V
      rw [decide_eq_true hH] at this; exact this
    have K3 := Lib.hid k3
    have HF1 := Lib.hid hF1
    have HF2 := Lib.hid hF2
    have HF3 := Lib.hid hF3
    have HH := Lib.hid hH
    clear k3 hF1 hF2 hF3 hE hG hH
    go_wp2_with (first
      | (go_at_call 30; (with_reducible refine (K2.out _).mono ?_); rintro e w3 ⟨rfl, rfl⟩)
      | (go_at_call 31; (with_reducible refine (K3.out _).mono ?_); rintro e w3 ⟨rfl, rfl⟩))
    go_ret
    exact ⟨ret_int (by rw [followsF, if_neg HF1.out, if_neg HF2.out, if_neg HF3.out, if_neg (fun h => h HH.out)]), hg ▸ hB⟩
end Go.Proofs.Ytgjjpijcakafhaa
