/- The journal: the reference's good records. -/
import Derived.Test.YthelmlmheioljaaJournalR
namespace Go.Proofs.Ythelmlmheioljaa
open Go.RowKit
theorem jel_str : ElemOf Try.prog 40 9 (.string ⟨#[]⟩) 1 16 := ⟨Try.underlying40, by kernel_rfl, rfl, by decide, by decide⟩
theorem belowN (w : World) (n : Nat) : Below w.heap.size w (w.drewN n) := ⟨rfl, rfl, rfl, Nat.le_refl _, fun _ _ => rfl⟩
set_option maxRecDepth 100000 in
set_option maxHeartbeats 2000000 in
theorem rgood_walk (d : List UInt8) (w : World) (hd : d.length ≤ 65536) :
    Calls Try.prog 34 #[.string ⟨d.toArray⟩] w fun e w' => ∃ a cap, e = .returned (.tuple #[.slice a (goods d).length cap, .int .i64 (endF (goods d) : Int)]) ∧ Rd w' a (strs (goods d)) ∧ Below w.heap.size w w' := by
  go_enter Try.func34, Try.ntmps34
  go_wp2
  go_loopw [4, 5] (fun u v wr => ∃ (L : List (List UInt8)) (f a k : Nat) (sa : Option Addr) (cap : Nat), a = endF L ∧ k = L.length ∧ u = .slice sa k cap ∧ v = .int .i64 (a : Int) ∧ Upto d L f ∧ Ow wr w.heap.size 1 sa k cap (strs L) ∧ Below w.heap.size w wr) (fun _ v _ => d.length - (intOf v).toNat)
  case atStart => exact ⟨[], d.length, 0, 0, none, 0, rfl, rfl, rfl, rfl, Upto.start d, Ow.nil _ _ _, Below.refl _ _⟩
  case round =>
    obtain ⟨L, f, a, k, sa, cap, ha, hk, rfl, rfl, hU, hown, hbw⟩ := hrel
    have hae : a ≤ d.length := by rw [ha]; exact hU.2.2
    have hk12 : 12 * k ≤ a := by rw [ha, hk]; exact endF_count L
    have hai : (a : Int) ≤ (d.length : Int) := by omega
    obtain ⟨D, hD⟩ : ∃ D, D = d.drop a := ⟨_, rfl⟩
    have hDl : D.length = d.length - a := by rw [hD, List.length_drop]
    have HD := Lib.hid hD
    have HA := Lib.hid ha
    have HK := Lib.hid hk
    have HU := Lib.hid hU
    clear ha hk hU hD
    by_cases h12 : d.length - a < 12
    · have hnf : ¬ fitsF D := fun h => by have := h.2.2; omega
      have hfin := HU.out.done (by rw [← HA.out, ← HK.out, ← HD.out]; exact recF_nofit hnf)
      have HFIN := Lib.hid hfin
      have hd12 : decide ((d.length : Int) - (a : Int) ≥ 12) = false := decide_eq_false (by omega)
      clear hnf hfin h12
      go_wp2
      go_ret2
      exact ⟨sa, cap, by rw [← HFIN.out, ← HA.out, ← HK.out]; rfl, by rw [← HFIN.out]; exact hown.rd, hbw⟩
    · have hb0 : bt d a = bt D 0 := by rw [HD.out, bt_drop, Nat.add_zero]
      have hb1 : bt d (a + 1) = bt D 1 := by rw [HD.out, bt_drop]
      have hb2 : bt d (a + 2) = bt D 2 := by rw [HD.out, bt_drop]
      have hb3 : bt d (a + 3) = bt D 3 := by rw [HD.out, bt_drop]
      obtain ⟨z, hzz⟩ : ∃ z, z = size4 D := ⟨_, rfl⟩
      have hz32 : z < 4294967296 := by rw [hzz, size4]; exact num7_lt D 4
      obtain ⟨a1, ha1⟩ : ∃ a1, a1 = a + 1 := ⟨_, rfl⟩
      obtain ⟨a2, ha2⟩ : ∃ a2, a2 = a + 2 := ⟨_, rfl⟩
      obtain ⟨a3, ha3⟩ : ∃ a3, a3 = a + 3 := ⟨_, rfl⟩
      rw [← ha1] at hb1
      rw [← ha2] at hb2
      rw [← ha3] at hb3
      have l0 := bt_lt d a
      have l1 := bt_lt d a1
      have l2 := bt_lt d a2
      have l3 := bt_lt d a3
      have i1 : (a : Int) + 1 = (a1 : Int) := by omega
      have i2 : (a : Int) + 2 = (a2 : Int) := by omega
      have i3 : (a : Int) + 3 = (a3 : Int) := by omega
      have j0 : (a : Int) < (d.length : Int) := by omega
      have j1 : (a1 : Int) < (d.length : Int) := by omega
      have j2 : (a2 : Int) < (d.length : Int) := by omega
      have j3 : (a3 : Int) < (d.length : Int) := by omega
      have hd12 : decide ((d.length : Int) - (a : Int) ≥ 12) = true := decide_eq_true (by omega)
      have h4 : 4 ≤ D.length := by omega
      have ho4 := or4 D
      rw [← hb0, ← hb1, ← hb2, ← hb3, ← hzz] at ho4
      have HZ := Lib.hid hzz
      clear hb0 hb1 hb2 hb3 ha1 ha2 ha3 hzz h12
      go_wp2
      go_quiet (fail)
      clear ho4 l0 l1 l2 l3 i1 i2 i3 j0 j1 j2 j3
      have hbq : Below wr.heap.size wr (wr.drewN nq) := belowN wr nq
      replace hown := hown.keep hbq
      replace hbw := hbw.trans (hbq.mono hbw.size)
      clear hbq
      generalize wr.drewN nq = w2 at *
      obtain ⟨p, hp⟩ : ∃ p, p = a + 12 := ⟨_, rfl⟩
      obtain ⟨q, hq⟩ : ∃ q, q = p + z := ⟨_, rfl⟩
      have i1 : (a : Int) + 12 = (p : Int) := by omega
      have i2 : (p : Int) + (z : Int) = (q : Int) := by omega
      by_cases hzb : 4096 < z
      · have hnf : ¬ fitsF D := fun h => by have := h.2.1; rw [← HZ.out] at this; omega
        have HFIN := Lib.hid (HU.out.done (by rw [← HA.out, ← HK.out, ← HD.out]; exact recF_nofit hnf))
        have d1 : decide ((z : Int) > 4096) = true := decide_eq_true (by omega)
        clear hnf hp hq
        go_wp2
        go_ret2
        exact ⟨sa, cap, by rw [← HFIN.out, ← HA.out, ← HK.out]; rfl, by rw [← HFIN.out]; exact hown.rd, hbw⟩
      have d1 : decide ((z : Int) > 4096) = false := decide_eq_false (by omega)
      by_cases hqb : d.length < q
      · have hnf : ¬ fitsF D := fun h => by have := h.2.2; rw [← HZ.out] at this; omega
        have HFIN := Lib.hid (HU.out.done (by rw [← HA.out, ← HK.out, ← HD.out]; exact recF_nofit hnf))
        have d2 : decide ((q : Int) > (d.length : Int)) = true := decide_eq_true (by omega)
        have d3 : decide (d.length < q) = true := decide_eq_true hqb
        clear hnf hp hq
        go_wp2
        go_ret2
        exact ⟨sa, cap, by rw [← HFIN.out, ← HA.out, ← HK.out]; rfl, by rw [← HFIN.out]; exact hown.rd, hbw⟩
      have hf : fitsF D := ⟨h4, by rw [← HZ.out]; omega, by rw [← HZ.out]; omega⟩
      have hbo := bodyF_length hf
      have hokf := ok_frame (n := k) hf
      have hrf := recF_okF (n := k) hf
      rw [← HZ.out] at hbo hokf
      have hbody : bodyF D = (D.drop 4).take z := by rw [bodyF, HZ.out]
      obtain ⟨a4, ha4⟩ : ∃ a4, a4 = a + 4 := ⟨_, rfl⟩
      obtain ⟨q4, hq4⟩ : ∃ q4, q4 = a4 + z := ⟨_, rfl⟩
      obtain ⟨m, hm⟩ : ∃ m, m = 12 + z := ⟨_, rfl⟩
      obtain ⟨s, hs⟩ : ∃ s, s = bodyF D := ⟨_, rfl⟩
      have hsb : List.take z (List.drop a4 d) = s := by rw [hs, hbody, HD.out, List.drop_drop, ha4]
      have hfm : List.take m (List.drop a d) = D.take (12 + z) := by rw [HD.out, hm]
      have hqa : q - a = m := by omega
      have hq4a : q4 - a4 = z := by omega
      have i3 : (a : Int) + 4 = (a4 : Int) := by omega
      have i4 : (a4 : Int) + (z : Int) = (q4 : Int) := by omega
      have j1 : (a4 : Int) ≤ (q4 : Int) := by omega
      have j2 : (q4 : Int) ≤ (d.length : Int) := by omega
      have j3 : (a : Int) ≤ (q : Int) := by omega
      have j4 : (q : Int) ≤ (d.length : Int) := by omega
      have d2 : decide ((q : Int) > (d.length : Int)) = false := decide_eq_false (by omega)
      have d3 : decide (d.length < q) = false := decide_eq_false hqb
      have hsl : s.length ≤ 4096 := by rw [hs, hbo]; omega
      have hzl : s.length = z := by rw [hs]; exact hbo
      obtain ⟨Y, hY⟩ : ∃ Y, Y = frameF k s := ⟨_, rfl⟩
      have hcall : ∀ W, Calls Try.prog 31 #[.int .i64 (k : Int), .string ⟨s.toArray⟩] W fun e w' => e = .returned (.string ⟨Y.toArray⟩) ∧ Below W.heap.size W w' := fun W => by
        rw [hY]; exact rframe_walk k s W (by omega) (by omega)
      have HC := Lib.hid hcall
      have HSB := Lib.hid hsb
      have hok : (List.take m (List.drop a d) == Y) = okF D k := by rw [hfm, hY, hs]; exact hokf
      have hq5 : q ≤ 65536 := by omega
      have hqz : q = a + (12 + z) := by omega
      have HQZ := Lib.hid hqz
      rw [← hs] at hrf
      have HR := Lib.hid hrf
      clear hp hq ha4 hq4 hm hs hfm hcall hsb hY hokf hbo hbody hf hrf hqz
      go_wp2
      rw [HSB.out]
      cases hb : okF D k with
      | true =>
        have hrf := HR.out
        rw [if_pos hb] at hrf
        rw [hb] at hok
        obtain ⟨g, hg, hU2, hle2⟩ := HU.out.next (s := s) (by rw [← HA.out, ← HK.out, ← HD.out]; exact hrf)
        have HU2 := Lib.hid hU2
        have HAE := Lib.hid (show q = endF (L ++ [s]) by rw [endF_snoc, ← HA.out, hzl]; exact HQZ.out)
        have hne : (List.take m (List.drop a d) != Y) = false := by rw [bne, hok]; rfl
        have haq : a < q := by have := HQZ.out; omega
        clear hrf hb hg hU2 hle2 HU HR
        refine wp_region_quiet_below (by kernel_rfl) (by kernel_rfl) ?_
        repeat (go_big_quiet_step (first | (go_at_call 31; exact Calls.regrown_of (HC.out _))))
        refine wpQuiet_nil ?_
        rintro w3 ⟨p1, rfl⟩
        have hbg := below_regrown w2 p1.d p1.os
        replace hown := hown.keep hbg
        replace hbw := hbw.trans (hbg.mono hbw.size)
        clear hbg
        generalize Go.Sort.grow (redrawn w2 p1.d) p1.os = w4 at *
        have hws := hbw.size
        go_wp2_with (at_builtin; refine wpList_app1 (w0 := w) (B := w.heap.size) rfl _ _ _ rfl jel_str rfl hown hbw (Nat.le_refl _) hws (cs := [_]) rfl rfl (one1 rfl) (by omega) ?_)
        intro a5 cap5 w5 hown5 hbw5 _
        rw [strs_snoc] at hown5
        go_wp2
        go_roundw
        case rel => exact ⟨L ++ [s], g, q, k + 1, a5, cap5, HAE.out, by rw [HK.out]; simp, rfl, rfl, HU2.out, hown5, hbw5⟩
        case measure => simp [intOf]; omega
      | false =>
        have hrf := HR.out
        rw [if_neg (by rw [hb]; simp)] at hrf
        rw [hb] at hok
        have HFIN := Lib.hid (HU.out.done (by rw [← HA.out, ← HK.out, ← HD.out]; exact hrf))
        have hne : (List.take m (List.drop a d) != Y) = true := by rw [bne, hok]; rfl
        clear hrf hb HU HR
        refine wp_region_quiet_below (by kernel_rfl) (by kernel_rfl) ?_
        repeat (go_big_quiet_step (first | (go_at_call 31; exact Calls.regrown_of (HC.out _))))
        refine wpQuiet_nil ?_
        rintro w3 ⟨p1, rfl⟩
        have hbg := below_regrown w2 p1.d p1.os
        replace hown := hown.keep hbg
        replace hbw := hbw.trans (hbg.mono hbw.size)
        go_wp2
        go_ret2
        exact ⟨sa, cap, by rw [← HFIN.out, ← HA.out, ← HK.out]; rfl, by rw [← HFIN.out]; exact hown.rd, hbw⟩
end Go.Proofs.Ythelmlmheioljaa
