/- Chains of records: what extends what, heads, the head of no records: the reference's; Begin. -/
import Derived.Test.YtgjjpijcakafhaaGCustodyQ
namespace Go.Proofs.Ytgjjpijcakafhaa
open Go.RowKit
set_option maxRecDepth 100000 in
set_option maxHeartbeats 2000000 in
theorem rextends_walk (a : Option Addr) (l : List Rec) (n c : Nat) (b : Option Addr) (m : List Rec) (p d : Nat) (w : World) (hln : n = l.length) (hmp : p = m.length) (hR : Rd w a (recs l)) (hS : Rd w b (recs m)) (hn : n ≤ 281474976710656) (hp : p ≤ 281474976710656) (hI : ∀ r ∈ l, r.In) (hJ : ∀ r ∈ m, r.In) :
    Calls Try.prog 21 #[.slice a n c, .slice b p d] w fun e w' => e = .returned (.bool (extF l m)) ∧ Below w.heap.size w w' := by
  obtain ⟨i1, hi1⟩ : ∃ i, i = (checkF l).1 := ⟨_, rfl⟩
  obtain ⟨e1, he1⟩ : ∃ e, e = (checkF l).2 := ⟨_, rfl⟩
  obtain ⟨i2, hi2⟩ : ∃ i, i = (checkF m).1 := ⟨_, rfl⟩
  obtain ⟨e2, he2⟩ : ∃ e, e = (checkF m).2 := ⟨_, rfl⟩
  have k1 : Calls Try.prog 18 #[.slice a n c] w fun e w' => e = .returned (.tuple #[.int .i64 i1, .int .i64 e1]) ∧ Below w.heap.size w w' := by
    rw [hln, hi1, he1]; exact rcheck_walk a l c w hR (by omega) hI
  have k2 : ∀ V, Rd V b (recs m) → Calls Try.prog 18 #[.slice b p d] V fun e w' => e = .returned (.tuple #[.int .i64 i2, .int .i64 e2]) ∧ Below V.heap.size V w' := fun V h => by
    rw [hmp, hi2, he2]; exact rcheck_walk b m d V h (by omega) hJ
  have K1 := Lib.hid k1
  have K2 := Lib.hid k2
  have HL := Lib.hid hln
  have HP := Lib.hid hmp
  have HE1 := Lib.hid he1
  have HE2 := Lib.hid he2
  clear k1 k2 hi1 hi2 hln hmp hI hJ he1 he2
  go_enter Try.func21, Try.ntmps21
  go_wp2_with (go_at_call 18; (with_reducible refine K1.out.mono ?_))
  rintro e w1 ⟨rfl, hB⟩
  replace hR := hR.keep hB
  replace hS := hS.keep hB
  go_wp2_with (go_at_call 18; (with_reducible refine (K2.out _ hS).mono ?_))
  rintro e w2 ⟨rfl, hb2⟩
  replace hR := hR.keep hb2
  replace hS := hS.keep hb2
  replace hB := hB.trans (hb2.mono hB.size)
  clear hb2 K1 K2
  by_cases h1 : e1 = 0
  rotate_left
  · have d1 : (e1 != 0) = true := by rw [bne_iff_ne]; exact h1
    have HX := Lib.hid (extF_no1 (l := l) (m := m) (by rw [← HE1.out]; exact h1))
    go_wp2
    go_ret
    exact ⟨by rw [HX.out]; rfl, hB⟩
  by_cases h2 : e2 = 0
  rotate_left
  · have d2 : (e2 != 0) = true := by rw [bne_iff_ne]; exact h2
    have HX := Lib.hid (extF_no2 (l := l) (m := m) (by rw [← HE2.out]; exact h2))
    subst h1
    go_wp2
    go_ret
    exact ⟨by rw [HX.out]; rfl, hB⟩
  subst h1
  subst h2
  by_cases h3 : n ≤ p
  rotate_left
  · have d3 : decide ((n : Int) > (p : Int)) = true := decide_eq_true (by omega)
    have HX := Lib.hid (extF_no3 (l := l) (m := m) (by rw [← HL.out, ← HP.out]; exact h3))
    go_wp2
    go_ret
    exact ⟨by rw [HX.out]; rfl, hB⟩
  have d3 : decide ((n : Int) > (p : Int)) = false := decide_eq_false (by omega)
  have HX := Lib.hid (extF_yes (l := l) (m := m) HE1.out.symm HE2.out.symm (by rw [← HL.out, ← HP.out]; exact h3))
  go_wp2_with fail
  go_loopw [36] (fun i wr => ∃ k : Nat, k ≤ n ∧ i = .int .i64 (k : Int) ∧ Hid (l.take k = m.take k) ∧ Below w2.heap.size w2 wr) (fun i _ => n - (intOf i).toNat)
  case atStart => exact ⟨0, Nat.zero_le _, rfl, rfl, Below.refl _ _⟩
  case round =>
    obtain ⟨k, hk, rfl, hE, hB3⟩ := hrel
    have hBw := hB.trans (hB3.mono hB.size)
    have hsz := hBw.size
    by_cases hkt : k < n
    · obtain ⟨g, off, r, rfl, hr, c0, c1, c2, c3, c4⟩ := (hR.keep hB3).rec (k := k) (by rw [← HL.out]; exact hkt)
      obtain ⟨g', off', x, rfl, hx, e0, e1, e2, e3, e4⟩ := (hS.keep hB3).rec (k := k) (by rw [← HP.out]; omega)
      have hkl : (k : Int) < (n : Int) := by omega
      have hkp : (k : Int) < (p : Int) := by omega
      have hgw : g' < wr.heap.size := World.block_lt_of_cell? wr _ e0
      have hx2 : Hid ((m.take l.length)[k]? = some x) := by
        show (m.take l.length)[k]? = some x
        rw [List.getElem?_take_of_lt (by rw [← HL.out]; exact hkt)]; exact hx.out
      by_cases hrx : x = r
      · subst hrx
        have hn' := take_same hE.out hr hx
        have HN := Lib.hid hn'
        clear hn' hr hx hE hR hS hx2
        go_wp2_with fail
        go_quiet (fail)
        go_wp2_with fail
        go_roundw
        case rel => exact ⟨k + 1, by omega, by go_num, HN, below_drewC (hB3.alloc hB3.size _) _⟩
        case measure => simp [intOf]; omega
      · have he := eqL_at hr hx2 (fun e => hrx e.symm)
        rw [← HX.out] at he
        have HE := Lib.hid he
        have hf := rec_first hrx
        clear he hr hx hE hR hS hrx hx2
        rcases hf with hf | ⟨h0, hf⟩ | ⟨h0, h1, hf⟩ | ⟨h0, h1, h2, hf⟩ | ⟨h0, h1, h2, h3, hf⟩
        all_goals
          go_wp2_with fail
          go_quiet (fail)
          go_wp2
          go_ret
          exact ⟨by rw [HE.out]; rfl, below_drewC (hBw.alloc hsz _) _⟩
    · have hkl : ¬ ((k : Int) < (n : Int)) := by omega
      have hl2 : k = l.length := by rw [← HL.out]; omega
      have he : extF l m = true := by
        rw [HX.out]
        refine eqL_iff.2 ?_
        have := hE.out
        rw [hl2, List.take_length] at this
        exact this
      have HE := Lib.hid he
      clear he hE hR hS hl2
      go_wp2
      go_ret
      exact ⟨by rw [HE.out]; rfl, hBw⟩
/-- the head of no records -/
def beginF (t : Int) : Head := if 0 ≤ t ∧ t ≤ 1099511627776 then ⟨0, [], [], t⟩ else ⟨0, [], [], 0⟩
def beginE (t : Int) : Int := if 0 ≤ t ∧ t ≤ 1099511627776 then 0 else 2
set_option maxRecDepth 100000 in
theorem cbegin_walk (t : Int) (w : World) :
    Calls Try.prog 23 #[.int .i64 t] w fun e w' => e = .returned (.tuple #[.agg #[.int .i64 (beginF t).count, .string ⟨(beginF t).last.toArray⟩, .string ⟨(beginF t).root.toArray⟩, .int .i64 (beginF t).time], .int .i64 (beginE t)]) ∧ Below w.heap.size w w' := by
  by_cases hE : 0 ≤ t ∧ t ≤ 1099511627776
  · have HF := Lib.hid (show beginF t = ⟨0, [], [], t⟩ by rw [beginF, if_pos hE])
    have HG := Lib.hid (show beginE t = 0 by rw [beginE, if_pos hE])
    have k2 : ∀ V, Calls Try.prog 30 #[.int .i64 t] V fun e w' => e = .returned (.bool true) ∧ V = w' := fun V => by
      have := time_walk t V
      rw [decide_eq_true hE] at this; exact this
    have K2 := Lib.hid k2
    clear k2 hE
    go_enter Try.func23, Try.ntmps23
    go_wp2_with (go_at_call 30; (with_reducible refine (K2.out _).mono ?_); rintro e w3 ⟨rfl, rfl⟩)
    exact bodyPost_ret (Hk.ret (t := 2) (u := 3) (g := w.heap.size) (x := ⟨0, [], [], t⟩) rfl _ rfl (heap_alloc_new w _)) rfl ⟨by rw [HF.out, HG.out]; rfl, (Below.refl _ _).alloc (Nat.le_refl _) _⟩
  · have HF := Lib.hid (show beginF t = ⟨0, [], [], 0⟩ by rw [beginF, if_neg hE])
    have HG := Lib.hid (show beginE t = 2 by rw [beginE, if_neg hE])
    have k2 : ∀ V, Calls Try.prog 30 #[.int .i64 t] V fun e w' => e = .returned (.bool false) ∧ V = w' := fun V => by
      have := time_walk t V
      rw [decide_eq_false hE] at this; exact this
    have K2 := Lib.hid k2
    clear k2 hE
    go_enter Try.func23, Try.ntmps23
    go_wp2_with (go_at_call 30; (with_reducible refine (K2.out _).mono ?_); rintro e w3 ⟨rfl, rfl⟩)
    exact bodyPost_ret (Hk.ret (t := 2) (u := 3) (g := w.heap.size) (x := ⟨0, [], [], 0⟩) rfl _ rfl (heap_alloc_new w _)) rfl ⟨by rw [HF.out, HG.out]; rfl, (Below.refl _ _).alloc (Nat.le_refl _) _⟩
set_option maxRecDepth 100000 in
theorem rcbegin_walk (t : Int) (w : World) :
    Calls Try.prog 24 #[.int .i64 t] w fun e w' => e = .returned (.tuple #[.agg #[.int .i64 (beginF t).count, .string ⟨(beginF t).last.toArray⟩, .string ⟨(beginF t).root.toArray⟩, .int .i64 (beginF t).time], .int .i64 (beginE t)]) ∧ Below w.heap.size w w' := by
  by_cases h0 : t < 0
  · have HF := Lib.hid (show beginF t = ⟨0, [], [], 0⟩ by rw [beginF, if_neg (by omega)])
    have HG := Lib.hid (show beginE t = 2 by rw [beginE, if_neg (by omega)])
    have d1 : decide (t < 0) = true := decide_eq_true h0
    clear h0
    go_enter Try.func24, Try.ntmps24
    go_wp2_with fail
    exact bodyPost_ret (Hk.ret (t := 2) (u := 3) (g := w.heap.size) (x := ⟨0, [], [], 0⟩) rfl _ rfl (heap_alloc_new w _)) rfl ⟨by rw [HF.out, HG.out]; rfl, (Below.refl _ _).alloc (Nat.le_refl _) _⟩
  · have d1 : decide (t < 0) = false := decide_eq_false h0
    by_cases h1 : t > 1099511627776
    · have HF := Lib.hid (show beginF t = ⟨0, [], [], 0⟩ by rw [beginF, if_neg (by omega)])
      have HG := Lib.hid (show beginE t = 2 by rw [beginE, if_neg (by omega)])
      have d2 : decide (t > 1099511627776) = true := decide_eq_true h1
      clear h0 h1
      go_enter Try.func24, Try.ntmps24
      go_wp2_with fail
      exact bodyPost_ret (Hk.ret (t := 2) (u := 3) (g := w.heap.size) (x := ⟨0, [], [], 0⟩) rfl _ rfl (heap_alloc_new w _)) rfl ⟨by rw [HF.out, HG.out]; rfl, (Below.refl _ _).alloc (Nat.le_refl _) _⟩
    · have HF := Lib.hid (show beginF t = ⟨0, [], [], t⟩ by rw [beginF, if_pos (by omega)])
      have HG := Lib.hid (show beginE t = 0 by rw [beginE, if_pos (by omega)])
      have d2 : decide (t > 1099511627776) = false := decide_eq_false h1
      clear h0 h1
      go_enter Try.func24, Try.ntmps24
      go_wp2_with fail
      exact bodyPost_ret (Hk.ret (t := 2) (u := 3) (g := w.heap.size) (x := ⟨0, [], [], t⟩) rfl _ rfl (heap_alloc_new w _)) rfl ⟨by rw [HF.out, HG.out]; rfl, (Below.refl _ _).alloc (Nat.le_refl _) _⟩
end Go.Proofs.Ytgjjpijcakafhaa
