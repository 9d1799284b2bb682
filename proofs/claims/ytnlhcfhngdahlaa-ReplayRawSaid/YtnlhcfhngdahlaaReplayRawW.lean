/- The law ReplayRaw walked. -/
import Derived.Test.YtnlhcfhngdahlaaReplayN
namespace Go.Proofs.Ytnlhcfhngdahlaa
open Go.RowKit
set_option maxRecDepth 100000 in
set_option maxHeartbeats 4000000 in
theorem raw_walk (w : World) (a : Option Addr) (l : List Kpt) (cap : Nat) (hR : Rd w a (rowsC kpC l)) (r : Rq) (h1 : I64 r.sen) (h2 : I64 r.cnt) (ans : List UInt8) :
    Calls Try.prog 3 #[.agg #[.slice a l.length cap], .agg #[.int .i64 r.sen, .int .i64 r.cnt, .string ⟨r.body.toArray⟩], .string ⟨ans.toArray⟩] w fun e w' => e = .returned (.bool true) ∧ Below w.heap.size w w' := by
  obtain ⟨gg, hgg⟩ : ∃ gg, gg = w.heap.size := ⟨_, rfl⟩
  have hA1 := (Below.refl w.heap.size w).alloc (Nat.le_refl _) (.cells #[.slice a l.length cap] 24)
  have hG := (Bx.new w 24 [.slice a l.length cap]).alloc (rqB r)
  have hQ : Bx ((w.alloc (.cells #[.slice a l.length cap] 24)).alloc (rqB r)) (w.heap.size + 1) 26 [.int .i64 r.sen, .int .i64 r.cnt, .string ⟨r.body.toArray⟩] := by
    have := Bx.new (w.alloc (.cells #[.slice a l.length cap] 24)) 26 [.int .i64 r.sen, .int .i64 r.cnt, .string ⟨r.body.toArray⟩]
    simpa using this
  have hB := hA1.alloc (by simp) (rqB r)
  replace hR := hR.keep hB
  rw [← hgg] at hG hQ
  have hgw : w.heap.size = gg := hgg.symm
  have HGG := Lib.hid hgg
  clear hgg hA1
  have KA := Lib.hid (fun V => awake_walk V)
  by_cases q1 : 70 < l.length
  · have t1 : decide ((l.length : Int) > 70) = true := decide_eq_true (by omega)
    clear q1
    go_enter Try.func3, Try.ntmps3
    go_wp2_with (go_at_call 6; (with_reducible refine (KA.out _).mono ?_))
    rintro e w1 ⟨rfl, hb1⟩
    have HB := Lib.hid (below_tr hB hb1)
    clear hB hG hQ hR hb1 hgw
    go_wp2
    go_ret
    exact ⟨rfl, HB.out⟩
  have t1 : decide ((l.length : Int) > 70) = false := decide_eq_false (by omega)
  by_cases q2 : 500 < r.body.length
  · have t2 : decide ((r.body.length : Int) > 500) = true := decide_eq_true (by omega)
    clear q1 q2
    go_enter Try.func3, Try.ntmps3
    go_wp2_with (go_at_call 6; (with_reducible refine (KA.out _).mono ?_))
    rintro e w1 ⟨rfl, hb1⟩
    have HB := Lib.hid (below_tr hB hb1)
    clear hB hG hQ hR hb1 hgw
    go_wp2
    go_ret
    exact ⟨rfl, HB.out⟩
  have t2 : decide ((r.body.length : Int) > 500) = false := decide_eq_false (by omega)
  by_cases q3 : 500 < ans.length
  · have t3 : decide ((ans.length : Int) > 500) = true := decide_eq_true (by omega)
    clear q1 q2 q3
    go_enter Try.func3, Try.ntmps3
    go_wp2_with (go_at_call 6; (with_reducible refine (KA.out _).mono ?_))
    rintro e w1 ⟨rfl, hb1⟩
    have HB := Lib.hid (below_tr hB hb1)
    clear hB hG hQ hR hb1 hgw
    go_wp2
    go_ret
    exact ⟨rfl, HB.out⟩
  have t3 : decide ((ans.length : Int) > 500) = false := decide_eq_false (by omega)
  have KG : Hid (∀ V, Rd V a (rowsC kpC l) → Calls Try.prog 7 #[.agg #[.slice a l.length cap], .agg #[.int .i64 r.sen, .int .i64 r.cnt, .string ⟨r.body.toArray⟩], .string ⟨ans.toArray⟩] V fun e w' => e = .returned (.bool true) ∧ Below V.heap.size V w') := Lib.hid fun V hV => agree_walk a l cap r ans V hV (by omega) h1 h2 (by omega) (by omega)
  clear q1 q2 q3 h1 h2
  go_enter Try.func3, Try.ntmps3
  go_wp2_with (go_at_call 6; (with_reducible refine (KA.out _).mono ?_))
  rintro e w1 ⟨rfl, hb1⟩
  replace hB := below_tr hB hb1
  replace hG := hG.keep hb1
  replace hQ := hQ.keep hb1
  replace hR := hR.keep hb1
  clear hb1 hgw
  have g0 := hG.cell 0 (v := .slice a l.length cap) rfl
  have q0 := hQ.cell 0 (v := .int .i64 r.sen) rfl
  have q1 := hQ.cell 1 (v := .int .i64 r.cnt) rfl
  have q2 := hQ.cell 2 (v := .string ⟨r.body.toArray⟩) rfl
  go_wp2_with (go_at_call 7; (with_reducible refine (KG.out _ hR).mono ?_))
  rintro e w2 ⟨rfl, hb2⟩
  have HB := Lib.hid (below_tr hB hb2)
  clear hB hG hQ hR hb2 g0 q0 q1 q2
  go_wp2
  go_ret
  exact ⟨rfl, HB.out⟩
end Go.Proofs.Ytnlhcfhngdahlaa
