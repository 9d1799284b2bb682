/- Chains of records: which chains are right: the reference's. -/
import Derived.Test.YtipoljcgfcjlnaaGreatDoorGCustodyD
import Derived.Deep.DeepCutAuto
namespace Go.Proofs.YtipoljcgfcjlnaaGreatDoor
open Go.RowKit
theorem lastF_take {l : List Rec} {j : Nat} {x : Rec} (h : l[j]? = some x) : lastF (l.take (j + 1)) = (digF x, x.time) := by
  have hj := (List.getElem?_eq_some_iff.1 h).1
  apply lastF_at
  rw [List.length_take, Nat.min_eq_left (by omega), Nat.add_sub_cancel, List.getElem?_take_of_lt (by omega)]
  exact h
set_option maxRecDepth 100000 in
set_option maxHeartbeats 2000000 in
theorem rone_walk (a : Option Addr) (l : List Rec) (cap i : Nat) (r : Rec) (w : World) (hR : Rd w a (recs l)) (hn : l.length ≤ 281474976710656) (hI : ∀ x ∈ l, x.In) (hr : l[i]? = some r) (hRt : Right l i) :
    Calls Tryz.prog 68 #[.slice a l.length cap, .int .i64 (i : Int)] w fun e w' => e = .returned (.int .i64 (followsF (l.take i) r)) ∧ Below w.heap.size w w' := by
  have hil := (List.getElem?_eq_some_iff.1 hr).1
  have hlt : (l.take i).length = i := by rw [List.length_take]; omega
  obtain ⟨s, hs⟩ : ∃ s, s = (lastF (l.take i)).1 := ⟨_, rfl⟩
  obtain ⟨t, ht⟩ : ∃ t, t = (lastF (l.take i)).2 := ⟨_, rfl⟩
  obtain ⟨g, off, r', rfl, hr', c0, c1, c2, c3, c4⟩ := hR.rec (k := i) hil
  obtain rfl : r' = r := Option.some.inj (hr'.out.symm.trans hr)
  have hbx := Rk.new w r'
  have hB := (Below.refl w.heap.size w).alloc (Nat.le_refl _) (.cells #[.int .i64 r'.num, .int .i64 r'.time, .int .i64 r'.kind, .string ⟨r'.body.toArray⟩, .string ⟨r'.before.toArray⟩] 76)
  have hR1 := hR.keep hB
  have ht0 : 0 ≤ t := by
    rw [ht]
    cases i with
    | zero => exact Int.le_refl 0
    | succ j =>
      have hx : l[j]? = some l[j] := List.getElem?_eq_getElem (by omega)
      rw [lastF_take hx]
      have := follows_short (hRt j l[j] (by omega) hx)
      omega
  obtain ⟨n, hln⟩ : ∃ n, n = l.length := ⟨_, rfl⟩
  have hin : (i : Int) < (n : Int) := by omega
  have HS := Lib.hid hs
  have HT := Lib.hid ht
  have HLT := Lib.hid hlt
  have HRT := Lib.hid hRt
  have HI := Lib.hid hI
  have HLN := Lib.hid hln
  rw [← hln] at hn ⊢
  clear hs ht hlt hRt hI hr hr' hR
  go_enter Tryz.func68, Tryz.ntmps68
  go_upto_if 13 with fail
  generalize w.alloc (.cells #[.int .i64 r'.num, .int .i64 r'.time, .int .i64 r'.kind, .string ⟨r'.body.toArray⟩, .string ⟨r'.before.toArray⟩] 76) = w1 at *
  clear c0 c1 c2 c3 c4
  generalize hg : w.heap.size = gb at *
  go_cut [6, 7] (fun x y wx => x = .string ⟨s.toArray⟩ ∧ y = .int .i64 t ∧ Rk wx gb r' ∧ Below gb w wx)
  case first =>
    cases i with
    | zero =>
      have e1 : s = [] := by rw [HS.out]; rfl
      have e2 : t = 0 := by rw [HT.out]; rfl
      go_wp2_with fail
      go_meet
      exact ⟨by rw [e1], by rw [e2], hbx, hB⟩
    | succ j =>
      have hjl : j < l.length := by have := HLN.out; omega
      obtain ⟨g', off', x, he, hx, c0, c1, c2, c3, c4⟩ := hR1.rec (k := j) hjl
      simp only [Option.some.injEq, Addr.mk.injEq, and_true] at he
      obtain ⟨rfl, rfl⟩ := he
      have hlf := lastF_take hx.out
      have hsx : s = digF x := by rw [HS.out, hlf]
      have htx : t = x.time := by rw [HT.out, hlf]
      have hsh := follows_short (HRT.out j x (by omega) hx.out)
      have k1 : ∀ V, Calls Tryz.prog 47 #[.agg #[.int .i64 x.num, .int .i64 x.time, .int .i64 x.kind, .string ⟨x.body.toArray⟩, .string ⟨x.before.toArray⟩]] V fun e' w' => e' = .returned (.string ⟨s.toArray⟩) ∧ Below V.heap.size V w' := fun V => by
        rw [hsx]; exact rdig_walk x V (HI.out x (mem_at hx)) (by omega)
      have K1 := Lib.hid k1
      have HTX := Lib.hid htx
      have hj1 : (j : Int) < (n : Int) := by omega
      clear k1 hsx htx hlf hsh hx hR1
      have d0 := fun d os => cell_regrown c0 d os
      have d1 := fun d os => cell_regrown c1 d os
      have d2 := fun d os => cell_regrown c2 d os
      have d3 := fun d os => cell_regrown c3 d os
      have d4 := fun d os => cell_regrown c4 d os
      go_wp2_with fail
      refine wp_region_quiet_below (by kernel_rfl) (by kernel_rfl) ?_
      repeat (go_big_quiet_step (first
        | (go_at_call 47; with_reducible exact Calls.regrown_of (K1.out _))))
      refine wpQuiet_nil ?_
      rintro w3 ⟨p2, rfl⟩
      have hb2 := below_regrown w1 p2.d p2.os
      go_wp2_with fail
      go_meet
      exact ⟨rfl, by rw [HTX.out], hbx.keep hb2, hB.trans (hb2.mono (by have := hB.size; omega))⟩
  case rest =>
    clear hbx hB hR1
    obtain ⟨rfl, rfl, hk, hB⟩ := hcut
    have c0 := hk.c0
    have c1 := hk.c1
    have c2 := hk.c2
    have c3 := hk.c3
    have c4 := hk.c4
    have hmx : max 0 t = t := Int.max_eq_right ht0
    clear HRT HI HLN hin
    by_cases hA : 1024 ≤ i
    · have d1 : decide ((i : Int) ≥ 1024) = true := decide_eq_true (by omega)
      go_wp2
      go_ret
      exact ⟨ret_int (by rw [followsF, if_pos (.inl (by rw [HLT.out]; exact hA))]), hg ▸ hB⟩
    have d1 : decide ((i : Int) ≥ 1024) = false := decide_eq_false (by omega)
    by_cases hBd : 16384 < r'.body.length
    · have d2 : decide ((r'.body.length : Int) > 16384) = true := decide_eq_true (by omega)
      go_wp2
      go_ret
      exact ⟨ret_int (by rw [followsF, if_pos (.inr hBd)]), hg ▸ hB⟩
    have d2 : decide ((r'.body.length : Int) > 16384) = false := decide_eq_false (by omega)
    have hF1 : ¬ (1024 ≤ (l.take i).length ∨ 16384 < r'.body.length) := by rw [HLT.out]; omega
    by_cases hC : r'.num = (i : Int)
    rotate_left
    · have d3 : (r'.num != (i : Int)) = true := by rw [bne_iff_ne]; exact hC
      go_wp2
      go_ret
      exact ⟨ret_int (by rw [followsF, if_neg hF1, if_pos (.inl (by rw [HLT.out]; exact hC))]), hg ▸ hB⟩
    have d3 : (r'.num != (i : Int)) = false := by rw [bne_eq_false_iff_eq]; exact hC
    by_cases hD : r'.before = s
    rotate_left
    · have d4 : (r'.before != s) = true := by rw [bne_iff_ne]; exact hD
      have d5 : (r'.before == s) = false := by rw [beq_eq_false_iff_ne]; exact hD
      go_wp2
      go_ret
      exact ⟨ret_int (by rw [followsF, if_neg hF1, if_pos (.inr (by rw [← HS.out]; exact hD))]), hg ▸ hB⟩
    have d4 : (r'.before != s) = false := by rw [bne_eq_false_iff_eq]; exact hD
    have d5 : (r'.before == s) = true := by rw [beq_iff_eq]; exact hD
    have hF2 : ¬ (r'.num ≠ ((l.take i).length : Int) ∨ r'.before ≠ (lastF (l.take i)).1) := by
      rw [HLT.out, ← HS.out]; simp [hC, hD]
    have HF1 := Lib.hid hF1
    have HF2 := Lib.hid hF2
    clear hF1 hF2 hC hD
    by_cases hG : r'.time < t
    · have d6 : decide (r'.time < t) = true := decide_eq_true hG
      go_wp2
      go_ret
      exact ⟨ret_int (by rw [followsF, if_neg HF1.out, if_neg HF2.out, if_pos (.inr (by rw [← HT.out]; exact hG))]), hg ▸ hB⟩
    have d6 : decide (r'.time < t) = false := decide_eq_false hG
    by_cases hE : r'.time ≤ 1099511627776
    rotate_left
    · have d7 : decide (r'.time > 1099511627776) = true := decide_eq_true (by omega)
      go_wp2
      go_ret
      exact ⟨ret_int (by rw [followsF, if_neg HF1.out, if_neg HF2.out, if_pos (.inl (fun h => by have := h.2; omega))]), hg ▸ hB⟩
    have d7 : decide (r'.time > 1099511627776) = false := decide_eq_false (by omega)
    have hF3 : ¬ (¬ (0 ≤ r'.time ∧ r'.time ≤ 1099511627776) ∨ r'.time < (lastF (l.take i)).2) := by rw [← HT.out]; omega
    have HF3 := Lib.hid hF3
    clear hF3 hG hE
    by_cases hH : 1 ≤ r'.kind ∧ r'.kind ≤ 7
    · have d8 : decide (r'.kind < 1) = false := decide_eq_false (by omega)
      have d9 : decide (r'.kind > 7) = false := decide_eq_false (by omega)
      have HH := Lib.hid hH
      clear hH
      go_wp2
      go_ret
      exact ⟨ret_int (by rw [followsF, if_neg HF1.out, if_neg HF2.out, if_neg HF3.out, if_neg (fun h => h HH.out)]), hg ▸ hB⟩
    · have HH := Lib.hid hH
      by_cases h1 : r'.kind < 1
      · have d8 : decide (r'.kind < 1) = true := decide_eq_true h1
        clear hH h1
        go_wp2
        go_ret
        exact ⟨ret_int (by rw [followsF, if_neg HF1.out, if_neg HF2.out, if_neg HF3.out, if_pos HH.out]), hg ▸ hB⟩
      · have d8 : decide (r'.kind < 1) = false := decide_eq_false h1
        have d9 : decide (r'.kind > 7) = true := decide_eq_true (by omega)
        clear hH h1
        go_wp2
        go_ret
        exact ⟨ret_int (by rw [followsF, if_neg HF1.out, if_neg HF2.out, if_neg HF3.out, if_pos HH.out]), hg ▸ hB⟩
set_option maxRecDepth 100000 in
set_option maxHeartbeats 2000000 in
theorem rcheck_walk (a : Option Addr) (l : List Rec) (cap : Nat) (w : World) (hR : Rd w a (recs l)) (hn : l.length ≤ 281474976710656) (hI : ∀ r ∈ l, r.In) :
    Calls Tryz.prog 42 #[.slice a l.length cap] w fun e w' => e = .returned (.tuple #[.int .i64 (checkF l).1, .int .i64 (checkF l).2]) ∧ Below w.heap.size w w' := by
  go_enter Tryz.func42, Tryz.ntmps42
  go_wp2_with fail
  go_loopw [8] (fun i wr => ∃ k : Nat, k ≤ l.length ∧ i = .int .i64 (k : Int) ∧ Right l k ∧ Below w.heap.size w wr) (fun i _ => l.length - (intOf i).toNat)
  case atStart => exact ⟨0, Nat.zero_le _, rfl, Right.zero l, Below.refl _ _⟩
  case round =>
    obtain ⟨k, hk, rfl, hRt, hB⟩ := hrel
    by_cases hkt : k < l.length
    · obtain ⟨r, hr⟩ : ∃ r, l[k]? = some r := ⟨_, List.getElem?_eq_getElem hkt⟩
      obtain ⟨e, he⟩ : ∃ e, e = followsF (l.take k) r := ⟨_, rfl⟩
      have k1 : Calls Tryz.prog 68 #[.slice a l.length cap, .int .i64 (k : Int)] wr fun e' w' => e' = .returned (.int .i64 e) ∧ Below wr.heap.size wr w' := by
        rw [he]; exact rone_walk a l cap k r wr (hR.keep hB) hn hI hr hRt
      have K1 := Lib.hid k1
      have HR := Lib.hid hR
      have HI := Lib.hid hI
      have HRt := Lib.hid hRt
      have HE := Lib.hid he
      have HX := Lib.hid hr
      have hkl : (k : Int) < (l.length : Int) := by omega
      clear k1 hR hI hRt he hr
      go_wp2_with (go_at_call 68; (with_reducible refine K1.out.mono ?_))
      rintro e' w2 ⟨rfl, hb2⟩
      replace hB := hB.trans (hb2.mono hB.size)
      clear hb2 K1
      by_cases h0 : e = 0
      · subst h0
        go_wp2
        go_roundw
        case rel => exact ⟨k + 1, by omega, by go_num, HRt.out.succ HX.out HE.out.symm, hB⟩
        case measure => simp [intOf]; omega
      · have hne : (e != 0) = true := by rw [bne_iff_ne]; exact h0
        go_wp2
        go_ret2
        refine ⟨?_, hB⟩
        rw [checkF_no HX.out HRt.out (by rw [← HE.out]; exact h0), ← HE.out]; rfl
    · have hkl : ¬ ((k : Int) < (l.length : Int)) := by omega
      have HI := Lib.hid (checkF_right (l := l) (by rw [show l.length = k by omega]; exact hRt))
      clear hRt hI hR
      go_wp2
      go_ret2
      exact ⟨by rw [HI.out]; rfl, hB⟩
end Go.Proofs.YtipoljcgfcjlnaaGreatDoor
