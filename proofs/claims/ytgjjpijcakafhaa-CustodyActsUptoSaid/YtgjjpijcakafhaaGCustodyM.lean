/- Chains of records: the root over digests: the reference's. -/
import Derived.Test.YtgjjpijcakafhaaGAppStep
namespace Go.Proofs.Ytgjjpijcakafhaa
open Go.RowKit
set_option maxRecDepth 100000 in
theorem rpart_walk (n : Nat) (w : World) (hn : 1 ≤ n) (hn2 : n ≤ 281474976710656) :
    Calls Try.prog 57 #[.int .i64 (n : Int)] w fun e w' => e = .returned (.int .i64 (part n : Int)) ∧ w = w' := by
  go_enter Try.func57, Try.ntmps57
  go_wp2_with fail
  go_loop [3] (fun i => ∃ k : Nat, 0 < k ∧ k ≤ n ∧ i = .int .i64 (k : Int) ∧ partL n k = part n) (fun i => n - (intOf i).toNat)
  case atStart => exact ⟨1, by omega, by omega, rfl, rfl⟩
  case round =>
    obtain ⟨k, hk0, hk, rfl, hp⟩ := hrel
    have hq : ((n : Int) - 1).tdiv 2 = (((n - 1) / 2 : Nat) : Int) := by
      rw [show (n : Int) - 1 = ((n - 1 : Nat) : Int) by omega]; rfl
    by_cases h : k ≤ (n - 1) / 2
    · have hd : decide ((k : Int) ≤ (((n - 1) / 2 : Nat) : Int)) = true := decide_eq_true (by omega)
      have hp2 := partL_more hk0 h
      have hm : ((2 * k : Nat) : Int) = (k : Int) * 2 := by omega
      go_wp2_with fail
      refine ⟨⟨2 * k, by omega, by omega, by rw [hm], by rw [← hp2]; exact hp⟩, ?_⟩
      simp [intOf]; omega
    · have hd : decide ((k : Int) ≤ (((n - 1) / 2 : Nat) : Int)) = false := decide_eq_false (by omega)
      have hp2 : (k : Int) = ((part n : Nat) : Int) := by rw [← hp, partL_end h]
      have HP := Lib.hid hp2
      clear hp hp2
      go_wp2
      go_ret
      exact ⟨ret_int HP.out, rfl⟩
set_option maxRecDepth 100000 in
set_option maxHeartbeats 2000000 in
theorem rroot_walk (N : Nat) : ∀ (a : Option Addr) (l : List (List UInt8)) (n cap : Nat) (w : World), l.length ≤ N → n = l.length → Rd w a (strs l) → n ≤ cap → n ≤ 281474976710656 → (∀ x ∈ l, x.length ≤ 32) →
    Calls Try.prog 43 #[.slice a n cap] w fun e w' => e = .returned (.string ⟨(rootF l).toArray⟩) ∧ Below w.heap.size w w' := by
  induction N with
  | zero =>
    intro a l n cap w hN hn hR _ _ _
    obtain rfl : n = 0 := by omega
    have hr := rootF_one (l := l) (by omega)
    rw [show l = [] from List.eq_nil_of_length_eq_zero (by omega)] at hr ⊢
    have HR := Lib.hid hr
    clear hr
    go_enter Try.func43, Try.ntmps43
    go_wp2
    go_ret
    exact ⟨ret_str (by rw [HR.out]; rfl), Below.refl _ _⟩
  | succ N ih =>
    intro a l n cap w hN hn hR hc hn2 h32
    by_cases h0 : n = 0
    · subst h0
      have hr := rootF_one (l := l) (by omega)
      rw [show l = [] from List.eq_nil_of_length_eq_zero (by omega)] at hr ⊢
      have HR := Lib.hid hr
      clear hr hn ih hN h32 hR
      go_enter Try.func43, Try.ntmps43
      go_wp2
      go_ret
      exact ⟨ret_str (by rw [HR.out]; rfl), Below.refl _ _⟩
    by_cases h1 : n = 1
    · subst h1
      obtain ⟨g, off, x, rfl, hcell, hx⟩ := hR.str (k := 0) (by omega)
      have hr := rootF_one (l := l) (by omega)
      have HR := Lib.hid (show rootF l = x by rw [hr, List.getD, hx.out]; rfl)
      rw [Nat.add_zero] at hcell
      clear hr hn ih hN h32 hR
      go_enter Try.func43, Try.ntmps43
      go_wp2
      go_ret
      exact ⟨ret_str HR.out.symm, Below.refl _ _⟩
    · have hb := part_bd (n := n) (by omega)
      obtain ⟨g, off, x, rfl, _, _⟩ := hR.str (k := 0) (by omega)
      obtain ⟨p, hp⟩ : ∃ p, p = part n := ⟨_, rfl⟩
      rw [← hp] at hb
      have hpn : (p : Int) ≤ (n : Int) := by omega
      have hpc : (p : Int) ≤ (cap : Int) := by omega
      have hnc : (n : Int) ≤ (cap : Int) := by omega
      have hR1 := hR.strTake p
      have hR2 := hR.strDrop p
      have hl1 : (l.take p).length = p := by rw [List.length_take]; omega
      have hl2 : (l.drop p).length = n - p := by rw [List.length_drop]; omega
      have k1 : ∀ V, Rd V (some ⟨g, off, none⟩) (strs (l.take p)) → Calls Try.prog 43 #[.slice (some ⟨g, off, none⟩) p cap] V fun e w' => e = .returned (.string ⟨(rootF (l.take p)).toArray⟩) ∧ Below V.heap.size V w' := fun V h =>
        ih _ (l.take p) p cap V (by omega) hl1.symm h (by omega) (by omega) (mem_take32 h32 p)
      have k2 : ∀ V, Rd V (some ⟨g, off + p, none⟩) (strs (l.drop p)) → Calls Try.prog 43 #[.slice (some ⟨g, off + p, none⟩) (n - p) (cap - p)] V fun e w' => e = .returned (.string ⟨(rootF (l.drop p)).toArray⟩) ∧ Below V.heap.size V w' := fun V h =>
        ih _ (l.drop p) (n - p) (cap - p) V (by omega) hl2.symm h (by omega) (by omega) (mem_drop32 h32 p)
      have hr1 := rootF_len (mem_take32 h32 p)
      have hr2 := rootF_len (mem_drop32 h32 p)
      have hr := rootF_more (l := l) (by omega)
      rw [← hn, ← hp] at hr
      have k3 : ∀ V, Calls Try.prog 58 #[.string ⟨(rootF (l.take p)).toArray⟩, .string ⟨(rootF (l.drop p)).toArray⟩] V fun e w' => e = .returned (.string ⟨(rootF l).toArray⟩) ∧ Below V.heap.size V w' := fun V => by
        rw [hr]; exact rpair_walk _ _ V (by omega)
      have k0 : ∀ V, Calls Try.prog 57 #[.int .i64 (n : Int)] V fun e w' => e = .returned (.int .i64 (p : Int)) ∧ V = w' := fun V => by
        rw [hp]; exact rpart_walk n V (by omega) hn2
      have K0 := Lib.hid k0
      have K1 := Lib.hid k1
      have K2 := Lib.hid k2
      have K3 := Lib.hid k3
      generalize rootF (l.take p) = r1 at *
      generalize rootF (l.drop p) = r2 at *
      generalize rootF l = r3 at *
      have HL := Lib.hid hl1
      clear k0 k1 k2 k3 hr hr1 hr2 ih hN h32 hl1 hl2 hp hn hR HL
      go_enter Try.func43, Try.ntmps43
      go_wp2_with (go_at_call 57; (with_reducible refine (K0.out _).mono ?_); rintro e w3 ⟨rfl, rfl⟩)
      refine wp_region_quiet_below (by kernel_rfl) (by kernel_rfl) ?_
      repeat (go_big_quiet_step (first
        | (go_at_call 43; with_reducible exact Calls.regrown_of (K1.out _ (hR1.keep (below_regrown _ _ _))))
        | (go_at_call 43; with_reducible exact Calls.regrown_of (K2.out _ (hR2.keep (below_regrown _ _ _))))
        | (go_at_call 58; with_reducible exact Calls.regrown_of (K3.out _))))
      refine wpQuiet_nil ?_
      rintro w3 ⟨p2, rfl⟩
      have hb2 := below_regrown w p2.d p2.os
      go_wp2
      go_ret
      exact ⟨rfl, hb2⟩
set_option maxRecDepth 100000 in
set_option maxHeartbeats 1000000 in
theorem rdigests_walk (a : Option Addr) (l : List Rec) (cap : Nat) (w : World) (hR : Rd w a (recs l)) (hn : l.length ≤ 100000) (hS : Short l) :
    Calls Try.prog 44 #[.slice a l.length cap] w fun e w' => ∃ a' cap', e = .returned (.slice a' l.length cap') ∧ Ow w' w.heap.size 1 a' l.length cap' (strs (l.map digF)) ∧ Below w.heap.size w w' := by
  go_enter Try.func44, Try.ntmps44
  go_wp2_with fail
  go_loopw [3, 8] (fun v i wr => ∃ (k : Nat) (sa : Option Addr) (sc : Nat), k ≤ l.length ∧ i = .int .i64 (k : Int) ∧ v = .slice sa k sc ∧ Ow wr w.heap.size 1 sa k sc (strs ((l.take k).map digF)) ∧ Below w.heap.size w wr) (fun _ i _ => l.length - (intOf i).toNat)
  case atStart => exact ⟨0, none, 0, Nat.zero_le _, rfl, rfl, Ow.nil _ _ _, Below.refl _ _⟩
  case round =>
    obtain ⟨k, sa, sc, hk, rfl, rfl, hO, hB⟩ := hrel
    by_cases hkt : k < l.length
    · obtain ⟨g, off, r, rfl, hr, c0, c1, c2, c3, c4⟩ := (hR.keep hB).rec (k := k) hkt
      have hkl : (k : Int) < (l.length : Int) := by omega
      obtain ⟨hri, hrb⟩ := hS r (mem_at hr)
      have k1 : ∀ V, Calls Try.prog 6 #[.agg #[.int .i64 r.num, .int .i64 r.time, .int .i64 r.kind, .string ⟨r.body.toArray⟩, .string ⟨r.before.toArray⟩]] V fun e' w' => e' = .returned (.string ⟨(digF r).toArray⟩) ∧ Below V.heap.size V w' := fun V => rdig_walk r V hri hrb
      have K1 := Lib.hid k1
      have HR := Lib.hid hR
      have HS := Lib.hid hS
      have hsn : strs ((l.take k).map digF) ++ [.string ⟨(digF r).toArray⟩] = strs ((l.take (k + 1)).map digF) := by rw [take_at hr, List.map_append, strs_snoc]; rfl
      have HN := Lib.hid hsn
      have hwl := hB.size
      clear k1 hR hS hsn hri hrb
      generalize digF r = dg at *
      go_wp2_with (go_at_call 6; (with_reducible refine (K1.out _).mono ?_))
      rintro e w2 ⟨rfl, hb2⟩
      have hb3 := ((Below.refl wr.heap.size wr).alloc (Nat.le_refl _) (.cells #[.int .i64 r.num, .int .i64 r.time, .int .i64 r.kind, .string ⟨r.body.toArray⟩, .string ⟨r.before.toArray⟩] 24)).trans (hb2.mono (by simp))
      replace hO := hO.keep hb3
      replace hB := hB.trans (hb3.mono hwl)
      have hsz := hB.size
      clear hb2 hb3 c0 c1 c2 c3 c4
      have hby : (k + 1) * 16 ≤ 140737488355328 := by omega
      go_wp2_with (at_builtin; refine wpList_app1 (w0 := w) (B := w.heap.size) rfl _ _ _ rfl el_strs rfl hO hB (Nat.le_refl _) hsz (cs := [_]) rfl rfl (one1 rfl) hby ?_)
      intro a3 c3 w3 hO3 hB3 _
      go_wp2
      go_roundw
      case rel => exact ⟨k + 1, a3, c3, by omega, by go_num, rfl, by rw [← HN.out, List.map_take]; exact hO3, hB3⟩
      case measure => simp [intOf]; omega
    · obtain rfl : k = l.length := by omega
      rw [List.take_length] at hO
      go_wp2
      go_ret
      exact ⟨sa, sc, rfl, hO, hB⟩
end Go.Proofs.Ytgjjpijcakafhaa
