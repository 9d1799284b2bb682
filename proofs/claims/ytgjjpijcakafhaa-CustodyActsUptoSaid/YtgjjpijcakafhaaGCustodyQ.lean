/- Chains of records: Same; what extends what. -/
import Derived.Test.YtgjjpijcakafhaaGCustodyO
namespace Go.Proofs.Ytgjjpijcakafhaa
open Go.RowKit
/-- a chain is the beginning of another one -/
def extF (l m : List Rec) : Bool := decide ((checkF l).2 = 0) && decide ((checkF m).2 = 0) && decide (l.length ≤ m.length) && eqL l (m.take l.length)
theorem extF_no1 {l m : List Rec} (h : ¬ (checkF l).2 = 0) : extF l m = false := by simp [extF, h]
theorem extF_no2 {l m : List Rec} (h : ¬ (checkF m).2 = 0) : extF l m = false := by simp [extF, h]
theorem extF_no3 {l m : List Rec} (h : ¬ l.length ≤ m.length) : extF l m = false := by
  rw [extF, decide_eq_false h]; simp
theorem extF_yes {l m : List Rec} (h1 : (checkF l).2 = 0) (h2 : (checkF m).2 = 0) (h3 : l.length ≤ m.length) : extF l m = eqL l (m.take l.length) := by
  rw [extF, decide_eq_true h1, decide_eq_true h2, decide_eq_true h3]; simp
set_option maxRecDepth 100000 in
set_option maxHeartbeats 2000000 in
theorem rsame_walk (a : Option Addr) (l : List Rec) (c : Nat) (b : Option Addr) (m : List Rec) (n d : Nat) (w : World) (hR : Rd w a (recs l)) (hS : Rd w b (recs m)) (hn : l.length ≤ 281474976710656) (hm : n = m.length) :
    Calls Try.prog 15 #[.slice a l.length c, .slice b n d] w fun e w' => e = .returned (.bool (eqL l m)) ∧ Below w.heap.size w w' := by
  by_cases hl : l.length = n
  rotate_left
  · have he := eqL_no (l := l) (m := m) (fun e => hl (by rw [hm, e]))
    have HE := Lib.hid he
    have d1 : ((l.length : Int) != (n : Int)) = true := by rw [bne_iff_ne]; omega
    clear he hm hR hS
    go_enter Try.func15, Try.ntmps15
    go_wp2
    go_ret
    exact ⟨by rw [HE.out]; rfl, Below.refl _ _⟩
  · subst hl
    have HM := Lib.hid hm
    clear hm
    go_enter Try.func15, Try.ntmps15
    go_wp2_with fail
    go_loopw [14] (fun i wr => ∃ k : Nat, k ≤ l.length ∧ i = .int .i64 (k : Int) ∧ Hid (l.take k = m.take k) ∧ Below w.heap.size w wr) (fun i _ => l.length - (intOf i).toNat)
    case atStart => exact ⟨0, Nat.zero_le _, rfl, rfl, Below.refl _ _⟩
    case round =>
      obtain ⟨k, hk, rfl, hE, hB⟩ := hrel
      by_cases hkt : k < l.length
      · obtain ⟨g, off, r, rfl, hr, c0, c1, c2, c3, c4⟩ := (hR.keep hB).rec (k := k) hkt
        obtain ⟨g', off', x, rfl, hx, e0, e1, e2, e3, e4⟩ := (hS.keep hB).rec (k := k) (by rw [← HM.out]; exact hkt)
        have hkl : (k : Int) < (l.length : Int) := by omega
        have hgw : g' < wr.heap.size := World.block_lt_of_cell? wr _ e0
        by_cases hrx : x = r
        · subst hrx
          have hn' := take_same hE.out hr hx
          have HN := Lib.hid hn'
          clear hn' hr hx hE hR hS
          go_wp2_with fail
          go_quiet (fail)
          go_wp2_with fail
          go_roundw
          case rel => exact ⟨k + 1, by omega, by go_num, HN, below_drewC (hB.alloc hB.size _) _⟩
          case measure => simp [intOf]; omega
        · have he := eqL_at hr hx (fun e => hrx e.symm)
          have HE := Lib.hid he
          have hf := rec_first hrx
          clear he hr hx hE hR hS hrx
          rcases hf with hf | ⟨h0, hf⟩ | ⟨h0, h1, hf⟩ | ⟨h0, h1, h2, hf⟩ | ⟨h0, h1, h2, h3, hf⟩
          all_goals
            go_wp2_with fail
            go_quiet (fail)
            go_wp2
            go_ret
            exact ⟨by rw [HE.out]; rfl, below_drewC (hB.alloc hB.size _) _⟩
      · have hkl : ¬ ((k : Int) < (l.length : Int)) := by omega
        have hl2 : k = l.length := by omega
        have he : eqL l m = true := eqL_iff.2 (by
          have := hE.out
          rw [hl2, List.take_length] at this
          rw [this, HM.out, List.take_length])
        have HE := Lib.hid he
        clear he hE hR hS
        go_wp2
        go_ret
        exact ⟨by rw [HE.out]; rfl, hB⟩
set_option maxRecDepth 100000 in
set_option maxHeartbeats 2000000 in
theorem extends_walk (a : Option Addr) (l : List Rec) (n c : Nat) (b : Option Addr) (m : List Rec) (p d : Nat) (w : World) (hln : n = l.length) (hmp : p = m.length) (hR : Rd w a (recs l)) (hS : Rd w b (recs m)) (hn : n ≤ 281474976710656) (hp : p ≤ 281474976710656) (hc : n ≤ c) (hd : p ≤ d) (hI : ∀ r ∈ l, r.In) (hJ : ∀ r ∈ m, r.In) :
    Calls Try.prog 20 #[.slice a n c, .slice b p d] w fun e w' => e = .returned (.bool (extF l m)) ∧ Below w.heap.size w w' := by
  obtain ⟨i1, hi1⟩ : ∃ i, i = (checkF l).1 := ⟨_, rfl⟩
  obtain ⟨e1, he1⟩ : ∃ e, e = (checkF l).2 := ⟨_, rfl⟩
  obtain ⟨i2, hi2⟩ : ∃ i, i = (checkF m).1 := ⟨_, rfl⟩
  obtain ⟨e2, he2⟩ : ∃ e, e = (checkF m).2 := ⟨_, rfl⟩
  have k1 : Calls Try.prog 7 #[.slice a n c] w fun e w' => e = .returned (.tuple #[.int .i64 i1, .int .i64 e1]) ∧ Below w.heap.size w w' := by
    rw [hln, hi1, he1]; exact ccheck_walk a l c w hR (by omega) (by omega) hI
  have k2 : ∀ V, Rd V b (recs m) → Calls Try.prog 7 #[.slice b p d] V fun e w' => e = .returned (.tuple #[.int .i64 i2, .int .i64 e2]) ∧ Below V.heap.size V w' := fun V h => by
    rw [hmp, hi2, he2]; exact ccheck_walk b m d V h (by omega) (by omega) hJ
  have K1 := Lib.hid k1
  have K2 := Lib.hid k2
  have HL := Lib.hid hln
  have HP := Lib.hid hmp
  have HE1 := Lib.hid he1
  have HE2 := Lib.hid he2
  clear k1 k2 hi1 hi2 hln hmp hI hJ he1 he2
  go_enter Try.func20, Try.ntmps20
  go_wp2_with (go_at_call 7; (with_reducible refine K1.out.mono ?_))
  rintro e w1 ⟨rfl, hB⟩
  replace hR := hR.keep hB
  replace hS := hS.keep hB
  go_wp2_with (go_at_call 7; (with_reducible refine (K2.out _ hS).mono ?_))
  rintro e w2 ⟨rfl, hb2⟩
  replace hR := hR.keep hb2
  replace hS := hS.keep hb2
  replace hB := hB.trans (hb2.mono hB.size)
  clear hb2 K1 K2
  by_cases h1 : e1 = 0
  rotate_left
  · have d1 : (e1 == 0) = false := by rw [beq_eq_false_iff_ne]; exact h1
    have HX := Lib.hid (extF_no1 (l := l) (m := m) (by rw [← HE1.out]; exact h1))
    go_wp2
    go_ret
    exact ⟨by rw [HX.out]; rfl, hB⟩
  by_cases h2 : e2 = 0
  rotate_left
  · have d2 : (e2 == 0) = false := by rw [beq_eq_false_iff_ne]; exact h2
    have HX := Lib.hid (extF_no2 (l := l) (m := m) (by rw [← HE2.out]; exact h2))
    subst h1
    go_wp2
    go_ret
    exact ⟨by rw [HX.out]; rfl, hB⟩
  subst h1
  subst h2
  by_cases h3 : n ≤ p
  rotate_left
  · have d3 : decide ((n : Int) ≤ (p : Int)) = false := decide_eq_false (by omega)
    have HX := Lib.hid (extF_no3 (l := l) (m := m) (by rw [← HL.out, ← HP.out]; exact h3))
    go_wp2
    go_ret
    exact ⟨by rw [HX.out]; rfl, hB⟩
  have d3 : decide ((n : Int) ≤ (p : Int)) = true := decide_eq_true (by omega)
  have hnd : (n : Int) ≤ (d : Int) := by omega
  have HX := Lib.hid (extF_yes (l := l) (m := m) HE1.out.symm HE2.out.symm (by rw [← HL.out, ← HP.out]; exact h3))
  have k3 : Calls Try.prog 45 #[.slice a n c, .slice b n d] w2 fun e w' => e = .returned (.bool (extF l m)) ∧ Below w2.heap.size w2 w' := by
    rw [HX.out, HL.out]
    exact equal_walk a l c b (m.take l.length) l.length d w2 hR (hS.recTake _) (by rw [← HL.out]; omega) (by rw [List.length_take, ← HL.out, ← HP.out]; omega)
  have K3 := Lib.hid k3
  clear k3 hR hS HX
  go_wp2_with (go_at_call 45; (with_reducible refine K3.out.mono ?_))
  rintro e w3 ⟨rfl, hb3⟩
  go_wp2
  go_ret
  exact ⟨rfl, hB.trans (hb3.mono hB.size)⟩
end Go.Proofs.Ytgjjpijcakafhaa
