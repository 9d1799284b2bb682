/- Chains of records: the last record, what may follow, and which chains are right. -/
import Derived.Test.YtgjjpijcakafhaaCustodyB
namespace Go.Proofs.Ytgjjpijcakafhaa
open Go.RowKit
theorem Rd.rec {w : World} {a : Option Addr} {l : List Rec} (h : Rd w a (recs l)) {k : Nat} (hk : k < l.length) :
    ∃ g off r, a = some ⟨g, off, none⟩ ∧ Hid (l[k]? = some r) ∧ w.cell? ⟨g, off + k * 5, none⟩ = some (.int .i64 r.num) ∧ w.cell? ⟨g, off + k * 5 + 1, none⟩ = some (.int .i64 r.time) ∧ w.cell? ⟨g, off + k * 5 + 2, none⟩ = some (.int .i64 r.kind) ∧ w.cell? ⟨g, off + k * 5 + 3, none⟩ = some (.string ⟨r.body.toArray⟩) ∧ w.cell? ⟨g, off + k * 5 + 4, none⟩ = some (.string ⟨r.before.toArray⟩) := by
  have hr : l[k]? = some l[k] := List.getElem?_eq_getElem hk
  obtain ⟨g, off, ha, hc⟩ := h.at (by rw [recs_length]; omega)
  refine ⟨g, off, l[k], ha, hr, ?_, ?_, ?_, ?_, ?_⟩
  · exact hc (k * 5) _ (recs_get hr (f := 0) (by omega))
  · have := hc (k * 5 + 1) _ (recs_get hr (f := 1) (by omega)); rwa [← Nat.add_assoc] at this
  · have := hc (k * 5 + 2) _ (recs_get hr (f := 2) (by omega)); rwa [← Nat.add_assoc] at this
  · have := hc (k * 5 + 3) _ (recs_get hr (f := 3) (by omega)); rwa [← Nat.add_assoc] at this
  · have := hc (k * 5 + 4) _ (recs_get hr (f := 4) (by omega)); rwa [← Nat.add_assoc] at this
theorem lastF_at {l : List Rec} {r : Rec} (h : l[l.length - 1]? = some r) : lastF l = (digF r, r.time) := by
  unfold lastF
  rw [List.getLast?_eq_getElem?, h]
theorem lastF_nil {l : List Rec} (h : l.length = 0) : lastF l = ([], 0) := by
  rw [List.eq_nil_of_length_eq_zero h]; rfl
/-- the last record, if there is one, is no longer than this -/
def Fits (l : List Rec) : Prop := ∀ r, l[l.length - 1]? = some r → r.In ∧ r.body.length + r.before.length ≤ 70368744000000
set_option maxRecDepth 100000 in
set_option maxHeartbeats 1000000 in
theorem last_walk (a : Option Addr) (l : List Rec) (cap : Nat) (w : World) (hR : Rd w a (recs l)) (hn : l.length ≤ 281474976710656) (hF : Fits l) :
    Calls Try.prog 29 #[.slice a l.length cap] w fun e w' => e = .returned (.tuple #[.string ⟨(lastF l).1.toArray⟩, .int .i64 (lastF l).2]) ∧ Below w.heap.size w w' := by
  by_cases h0 : l.length = 0
  · rw [lastF_nil h0, h0]
    go_enter Try.func29, Try.ntmps29
    go_wp2
    go_ret2
    exact ⟨rfl, Below.refl _ _⟩
  · obtain ⟨n, hln⟩ : ∃ n, l.length = n + 1 := ⟨l.length - 1, by omega⟩
    obtain ⟨g, off, r, rfl, hr, c0, c1, c2, c3, c4⟩ := hR.rec (k := n) (by omega)
    have hr' : l[l.length - 1]? = some r := by rw [hln]; exact hr.out
    obtain ⟨hi, hb⟩ := hF r hr'
    rw [lastF_at hr', hln]
    have hn1 : n + 1 ≤ 281474976710656 := by omega
    have HR := Lib.hid hi
    have hk := Rk.new w r
    have hB := (Below.refl w.heap.size w).alloc (Nat.le_refl _) (.cells #[.int .i64 r.num, .int .i64 r.time, .int .i64 r.kind, .string ⟨r.body.toArray⟩, .string ⟨r.before.toArray⟩] 24)
    clear hF hR hr' hr hln h0 hi hn
    go_enter Try.func29, Try.ntmps29
    go_wp2_with fail
    generalize w.alloc (.cells #[.int .i64 r.num, .int .i64 r.time, .int .i64 r.kind, .string ⟨r.body.toArray⟩, .string ⟨r.before.toArray⟩] 24) = w1 at *
    generalize hg' : w.heap.size = g' at *
    have d0 := fun d os => cell_regrown hk.c0 d os
    have d1 := fun d os => cell_regrown hk.c1 d os
    have d2 := fun d os => cell_regrown hk.c2 d os
    have d3 := fun d os => cell_regrown hk.c3 d os
    have d4 := fun d os => cell_regrown hk.c4 d os
    refine wp_region_quiet_below (by kernel_rfl) (by kernel_rfl) ?_
    repeat (go_big_quiet_step (first
      | (go_at_call 16; with_reducible exact Calls.regrown_of (dig_walk r _ HR.out hb))))
    refine wpQuiet_nil ?_
    rintro w3 ⟨p2, rfl⟩
    have hb2 := below_regrown w1 p2.d p2.os
    go_wp2
    go_ret2
    exact ⟨rfl, hg' ▸ hB.trans (hb2.mono (by have := hB.size; omega))⟩
set_option maxRecDepth 100000 in
theorem time_walk (t : Int) (w : World) : Calls Try.prog 30 #[.int .i64 t] w fun e w' => e = .returned (.bool (decide (0 ≤ t ∧ t ≤ 1099511627776))) ∧ w = w' := by
  go_enter Try.func30, Try.ntmps30
  by_cases h0 : 0 ≤ t
  · have d0 : decide (t ≥ 0) = true := decide_eq_true h0
    go_wp2
    go_ret
    exact ⟨ret_bool (by simp [h0]), rfl⟩
  · have d0 : decide (t ≥ 0) = false := decide_eq_false h0
    go_wp2
    go_ret
    exact ⟨ret_bool (by simp [h0]), rfl⟩
set_option maxRecDepth 100000 in
theorem kind_walk (t : Int) (w : World) : Calls Try.prog 31 #[.int .i64 t] w fun e w' => e = .returned (.bool (decide (1 ≤ t ∧ t ≤ 7))) ∧ w = w' := by
  go_enter Try.func31, Try.ntmps31
  by_cases h0 : 1 ≤ t
  · have d0 : decide (t ≥ 1) = true := decide_eq_true h0
    go_wp2
    go_ret
    exact ⟨ret_bool (by simp [h0]), rfl⟩
  · have d0 : decide (t ≥ 1) = false := decide_eq_false h0
    go_wp2
    go_ret
    exact ⟨ret_bool (by simp [h0]), rfl⟩
end Go.Proofs.Ytgjjpijcakafhaa
