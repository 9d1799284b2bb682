/- Guards: the law's sanity check. -/
import Derived.Test.YtnlhcfhngdahlaaReplayK
import Derived.Test.YtnlhcfhngdahlaaReplayL
namespace Go.Proofs.Ytnlhcfhngdahlaa
open Go.RowKit
def r0 : Rq := ⟨5, 1, [120]⟩
theorem ok_r0 : okRq r0 := by decide
def k0 : Kpt := newK r0 [121, 101, 115]
theorem mark_len (r : Rq) : (markF r).length = 32 := sha_length _
theorem good_one (k : Kpt) (h1 : 1 ≤ k.sen ∧ k.sen ≤ 1048576) (h2 : 1 ≤ k.cnt ∧ k.cnt ≤ 1099511627776) (h3 : k.mark.length = 32) (h4 : k.ans.length ≤ 16384) : chkG [k] = 0 :=
  chkG_ok (by simp) (fun i r hi hr => by
    have : i = 0 := by simp at hi; omega
    subst this
    simp at hr
    subst hr
    exact ⟨h1, fun x h => absurd h (by omega), h2, h3, h4⟩)
theorem chk_nil : chkG [] = 0 := chkG_ok (by simp) (Good.zero _)
theorem chk_k0 : chkG [k0] = 0 := good_one k0 (by decide) (by decide) (mark_len _) (by decide)
theorem look_a : lookF [] r0 = ([], true, 0) := lookF_fresh chk_nil ok_r0 rfl
theorem done_a : doneF [] r0 [121, 101, 115] = ([k0], 0) := by
  rw [doneF_ins (by rw [look_a]) (by rw [look_a]) (by decide) rfl (by decide)]
  rfl
theorem look_b : lookF [k0] r0 = ([121, 101, 115], false, 0) := by
  rw [lookF_some (x := k0) chk_k0 ok_r0 (by decide) rfl rfl, if_pos ⟨rfl, rfl⟩]
  rfl
theorem done_b : doneF [k0] r0 [110, 111] = ([k0], 55) := doneF_old (by rw [look_b]) (by rw [look_b])
theorem good_k0 : Good [k0] 1 := by
  rcases chkG_cases [k0] with ⟨-, -, h⟩ | h
  · exact h
  · rw [chk_k0] at h; cases h
set_option maxRecDepth 100000 in
set_option maxHeartbeats 4000000 in
theorem awake_walk (w : World) : Calls Try.prog 6 #[] w fun e w' => e = .returned (.bool true) ∧ Below w.heap.size w w' := by
  have i5 : I64 r0.sen := ⟨by decide, by decide⟩
  have i1 : I64 r0.cnt := ⟨by decide, by decide⟩
  have KL0 : Hid (∀ V, Calls Try.prog 14 #[.agg #[.slice none 0 0], .agg #[.int .i64 5, .int .i64 1, .string ⟨#[120]⟩]] V fun e w' => e = .returned (.tuple #[.string ⟨#[]⟩, .bool true, .int .i64 0]) ∧ Below V.heap.size V w') := Lib.hid fun V => by
    have := klook_walk none [] 0 r0 V (Rd.nil _ _) (by simp) i5 i1
    rw [look_a] at this
    exact this
  have KD0 : Hid (∀ V, Calls Try.prog 15 #[.agg #[.slice none 0 0], .agg #[.int .i64 5, .int .i64 1, .string ⟨#[120]⟩], .string ⟨#[121, 101, 115]⟩] V fun e w' => ∃ a c, e = .returned (.tuple #[.agg #[.slice a 1 c], .int .i64 0]) ∧ Rd w' a (rowsC kpC [k0]) ∧ Below V.heap.size V w') := Lib.hid fun V => by
    have := kdone_walk none [] 0 r0 [121, 101, 115] V (Rd.nil _ _) (by simp) i5 i1 (by decide)
    rw [done_a] at this
    exact this.mono (fun e w' ⟨a, c, h1, h2, h3⟩ => ⟨a, c, h1, h2.rd, h3⟩)
  have KL1 : Hid (∀ V a c, Rd V a (rowsC kpC [k0]) → Calls Try.prog 14 #[.agg #[.slice a 1 c], .agg #[.int .i64 5, .int .i64 1, .string ⟨#[120]⟩]] V fun e w' => e = .returned (.tuple #[.string ⟨#[121, 101, 115]⟩, .bool false, .int .i64 0]) ∧ Below V.heap.size V w') := Lib.hid fun V a c hR => by
    have := klook_walk a [k0] c r0 V hR (by simp) i5 i1
    rw [look_b] at this
    exact this
  have KD1 : Hid (∀ V a c, Rd V a (rowsC kpC [k0]) → Calls Try.prog 15 #[.agg #[.slice a 1 c], .agg #[.int .i64 5, .int .i64 1, .string ⟨#[120]⟩], .string ⟨#[110, 111]⟩] V fun e w' => ∃ a c, e = .returned (.tuple #[.agg #[.slice a 1 c], .int .i64 55]) ∧ Below V.heap.size V w') := Lib.hid fun V a c hR => by
    have := kdone_walk a [k0] c r0 [110, 111] V hR (by simp) i5 i1 (by decide)
    rw [done_b] at this
    exact this.mono (fun e w' ⟨a, c, h1, h2, h3⟩ => ⟨a, c, h1, h3⟩)
  have hcb : ∀ r ∈ [k0], -4611686018427387904 ≤ r.cnt ∧ r.cnt ≤ 4611686018427387904 := fun r hr => by simp at hr; subst hr; decide
  have KN : Hid (∀ V a c, Rd V a (rowsC kpC [k0]) → Calls Try.prog 16 #[.agg #[.slice a 1 c], .int .i64 5] V fun e w' => e = .returned (.int .i64 2) ∧ Below V.heap.size V w') := Lib.hid fun V a c hR => knext_walk a [k0] c 5 V hR (by simp) good_k0 hcb
  have KO : Hid (∀ V a c, Rd V a (rowsC kpC [k0]) → Calls Try.prog 16 #[.agg #[.slice a 1 c], .int .i64 6] V fun e w' => e = .returned (.int .i64 1) ∧ Below V.heap.size V w') := Lib.hid fun V a c hR => knext_walk a [k0] c 6 V hR (by simp) good_k0 hcb
  have KC : Hid (∀ V a c, Rd V a (rowsC kpC [k0]) → Calls Try.prog 17 #[.agg #[.slice a 1 c]] V fun e w' => e = .returned (.int .i64 0) ∧ Below V.heap.size V w') := Lib.hid fun V a c hR => by
    have := kcheck_walk a [k0] c V hR (by simp)
    rw [chk_k0] at this
    exact this
  obtain ⟨m, hm⟩ : ∃ m, m = markF r0 := ⟨_, rfl⟩
  have hml : m.length = 32 := by rw [hm]; exact mark_len _
  have KM : Hid (∀ V, Calls Try.prog 18 #[.agg #[.int .i64 5, .int .i64 1, .string ⟨#[120]⟩]] V fun e w' => e = .returned (.string ⟨m.toArray⟩) ∧ Below V.heap.size V w') := Lib.hid fun V => by
    have := kmark_walk r0 V i5 i1 (by decide)
    rw [← hm] at this
    exact this
  clear i5 i1 hcb hm
  generalize k0 = k at *
  obtain ⟨gr, hgr⟩ : ∃ gr, gr = w.heap.size := ⟨_, rfl⟩
  have hQ := Bx.new w 26 [.int .i64 5, .int .i64 1, .string ⟨#[120]⟩]
  have hB := (Below.refl w.heap.size w).alloc (Nat.le_refl _) (.cells #[.int .i64 5, .int .i64 1, .string ⟨#[120]⟩] 26)
  rw [← hgr] at hQ
  have hgw : w.heap.size = gr := hgr.symm
  have HGR := Lib.hid hgr
  clear hgr
  go_enter Try.func6, Try.ntmps6
  go_upto_region 2 with (fail)
  generalize w.alloc (.cells #[.int .i64 5, .int .i64 1, .string ⟨#[120]⟩] 26) = w1 at *
  clear hgw
  have q0 := hQ.cell 0 (v := .int .i64 5) rfl
  have q1 := hQ.cell 1 (v := .int .i64 1) rfl
  have q2 := hQ.cell 2 (v := .string ⟨#[120]⟩) rfl
  go_wp2_with (go_at_call 14; (with_reducible refine (KL0.out _).mono ?_))
  rintro e w2 ⟨rfl, hb2⟩
  replace hB := below_tr hB hb2
  replace hQ := hQ.keep hb2
  clear hb2 KL0
  clear q0 q1 q2
  have q0 := hQ.cell 0 (v := .int .i64 5) rfl
  have q1 := hQ.cell 1 (v := .int .i64 1) rfl
  have q2 := hQ.cell 2 (v := .string ⟨#[120]⟩) rfl
  go_wp2_with (go_at_call 15; (with_reducible refine (KD0.out _).mono ?_))
  rintro e w3 ⟨a, c, rfl, hR, hb3⟩
  replace hB := below_tr hB hb3
  replace hQ := hQ.keep hb3
  clear hb3 KD0
  have hA := (Below.refl w3.heap.size w3).alloc (Nat.le_refl _) (.cells #[.slice a 1 c] 24)
  replace hB := below_tr hB hA
  replace hQ := hQ.keep hA
  replace hR := hR.keep hA
  have hG := Bx.new w3 24 [.slice a 1 c]
  obtain ⟨gg, hgg⟩ : ∃ gg, gg = w3.heap.size := ⟨_, rfl⟩
  rw [← hgg] at hG
  have hgw : w3.heap.size = gg := hgg.symm
  clear hgg hA
  go_upto_region 4 with (fail)
  generalize w3.alloc (.cells #[.slice a 1 c] 24) = w4 at *
  clear hgw
  clear q0 q1 q2
  have q0 := hQ.cell 0 (v := .int .i64 5) rfl
  have q1 := hQ.cell 1 (v := .int .i64 1) rfl
  have q2 := hQ.cell 2 (v := .string ⟨#[120]⟩) rfl
  have g0 := hG.cell 0 (v := .slice a 1 c) rfl
  go_wp2_with (go_at_call 14; (with_reducible refine (KL1.out _ _ _ hR).mono ?_))
  rintro e w5 ⟨rfl, hb5⟩
  replace hB := below_tr hB hb5
  replace hQ := hQ.keep hb5
  replace hG := hG.keep hb5
  replace hR := hR.keep hb5
  clear hb5 KL1 g0
  clear q0 q1 q2
  have q0 := hQ.cell 0 (v := .int .i64 5) rfl
  have q1 := hQ.cell 1 (v := .int .i64 1) rfl
  have q2 := hQ.cell 2 (v := .string ⟨#[120]⟩) rfl
  have g0 := hG.cell 0 (v := .slice a 1 c) rfl
  go_wp2_with (go_at_call 15; (with_reducible refine (KD1.out _ _ _ hR).mono ?_))
  rintro e w6 ⟨a', c', rfl, hb6⟩
  have hA := hb6.trans ((Below.refl w6.heap.size w6).alloc (Nat.le_refl _) (.cells #[.slice a' 1 c'] 24) |>.mono hb6.size)
  replace hB := below_tr hB hA
  replace hQ := hQ.keep hA
  replace hG := hG.keep hA
  replace hR := hR.keep hA
  clear hb6 hA KD1 g0
  go_upto_region 6 with (fail)
  generalize w6.alloc (.cells #[.slice a' 1 c'] 24) = w7 at *
  clear q0 q1 q2
  have q0 := hQ.cell 0 (v := .int .i64 5) rfl
  have q1 := hQ.cell 1 (v := .int .i64 1) rfl
  have q2 := hQ.cell 2 (v := .string ⟨#[120]⟩) rfl
  have g0 := hG.cell 0 (v := .slice a 1 c) rfl
  go_wp2_with (go_at_call 16; (with_reducible refine (KN.out _ _ _ hR).mono ?_))
  rintro e w8 ⟨rfl, hb8⟩
  replace hB := below_tr hB hb8
  replace hQ := hQ.keep hb8
  replace hG := hG.keep hb8
  replace hR := hR.keep hb8
  clear hb8 KN g0
  clear q0 q1 q2
  have q0 := hQ.cell 0 (v := .int .i64 5) rfl
  have q1 := hQ.cell 1 (v := .int .i64 1) rfl
  have q2 := hQ.cell 2 (v := .string ⟨#[120]⟩) rfl
  have g0 := hG.cell 0 (v := .slice a 1 c) rfl
  go_wp2_with (go_at_call 16; (with_reducible refine (KO.out _ _ _ hR).mono ?_))
  rintro e w9 ⟨rfl, hb9⟩
  replace hB := below_tr hB hb9
  replace hQ := hQ.keep hb9
  replace hG := hG.keep hb9
  replace hR := hR.keep hb9
  clear hb9 KO g0
  clear q0 q1 q2
  have q0 := hQ.cell 0 (v := .int .i64 5) rfl
  have q1 := hQ.cell 1 (v := .int .i64 1) rfl
  have q2 := hQ.cell 2 (v := .string ⟨#[120]⟩) rfl
  have g0 := hG.cell 0 (v := .slice a 1 c) rfl
  go_wp2_with (go_at_call 17; (with_reducible refine (KC.out _ _ _ hR).mono ?_))
  rintro e w10 ⟨rfl, hb10⟩
  replace hB := below_tr hB hb10
  replace hQ := hQ.keep hb10
  replace hG := hG.keep hb10
  replace hR := hR.keep hb10
  clear hb10 KC g0
  clear q0 q1 q2
  have q0 := hQ.cell 0 (v := .int .i64 5) rfl
  have q1 := hQ.cell 1 (v := .int .i64 1) rfl
  have q2 := hQ.cell 2 (v := .string ⟨#[120]⟩) rfl
  have g0 := hG.cell 0 (v := .slice a 1 c) rfl
  go_wp2_with (go_at_call 18; (with_reducible refine (KM.out _).mono ?_))
  rintro e w11 ⟨rfl, hb11⟩
  have HB := Lib.hid (below_tr hB hb11)
  have hml2 : (m.length : Int) = 32 := by rw [hml]; rfl
  clear hB hQ hG hR hb11 KM q0 q1 q2 g0 hml
  go_wp2
  go_ret
  exact ⟨rfl, HB.out⟩
end Go.Proofs.Ytnlhcfhngdahlaa
