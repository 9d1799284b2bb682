/- Chains of records: the program's digest of a record; what the last record gives. -/
import Derived.Test.YtipoljcgfcjlnaaGreatDoorGPutR
namespace Go.Proofs.YtipoljcgfcjlnaaGreatDoor
open Go.RowKit
theorem index3 (w : World) {t : TypeId} (ht : Tryz.prog.underlying t = some (.array 3 3)) (cs : Array Value) (i : Nat) (hi : i < 3) (v : Value) (hv : cs[i]? = some v) :
    (Instr.index t (.agg cs) (.int .i64 (i : Int))).run Tryz.prog w = .ok v w := by
  simp [Instr.index, asIntOf, run_underlying ht, part, Tryz.sizeOf3, Tryz.isAgg3, hv]
  intro h
  omega
theorem nums_at {a b c x : Int} {k : Nat} (h : [a, b, c][k]? = some x) : (#[Value.int .i64 a, .int .i64 b, .int .i64 c])[k]? = some (.int .i64 x) := by
  match k, h with
  | 0, h => simp at h; subst h; rfl
  | 1, h => simp at h; subst h; rfl
  | 2, h => simp at h; subst h; rfl
  | k + 3, h => simp at h
set_option maxRecDepth 100000 in
set_option maxHeartbeats 1000000 in
theorem dig_walk (r : Rec) (w : World) (hi : r.In) (hb : r.body.length + r.before.length ≤ 70368744000000) :
    Calls Tryz.prog 85 #[.agg #[.int .i64 r.num, .int .i64 r.time, .int .i64 r.kind, .string ⟨r.body.toArray⟩, .string ⟨r.before.toArray⟩]] w fun e w' => e = .returned (.string ⟨(digF r).toArray⟩) ∧ Below w.heap.size w w' := by
  have hl := recB_length hi (by omega) (by omega)
  have hR := Rk.new w r
  have hB := (Below.refl w.heap.size w).alloc (Nat.le_refl _) (.cells #[.int .i64 r.num, .int .i64 r.time, .int .i64 r.kind, .string ⟨r.body.toArray⟩, .string ⟨r.before.toArray⟩] 76)
  have h1 := putInt_ten hi.num
  have h2 := putInt_ten hi.time
  have h3 := putInt_ten hi.kind
  have h4 := putInt_ten (I64.nat (show r.body.length ≤ 281474976710656 by omega))
  obtain ⟨ns, hns⟩ : ∃ ns, ns = [r.num, r.time, r.kind] := ⟨_, rfl⟩
  obtain ⟨P, hP⟩ : ∃ P : Nat → List UInt8, P = fun k => (ns.take k).flatMap putInt := ⟨_, rfl⟩
  have hP0 : P 0 = [] := by rw [hP]; rfl
  have hP3 : P 3 = putInt r.num ++ putInt r.time ++ putInt r.kind := by rw [hP, hns]; simp
  have hstep : ∀ k x, ns[k]? = some x → P k ++ putInt x = P (k + 1) := fun k x h => by
    rw [hP]; simp only []; rw [take_at (show Hid (ns[k]? = some x) from h), List.flatMap_append]; simp
  have k1 : ∀ k x, ns[k]? = some x → ∀ V, Calls Tryz.prog 37 #[.string ⟨(P k).toArray⟩, .int .i64 x] V fun e w' => e = .returned (.string ⟨(P (k + 1)).toArray⟩) ∧ Below V.heap.size V w' := fun k x h V => by
    have hx : I64 x := by
      have := List.mem_of_getElem? h
      rw [hns] at this; simp at this
      rcases this with rfl | rfl | rfl
      · exact hi.num
      · exact hi.time
      · exact hi.kind
    have hk : k < 3 := by
      have := (List.getElem?_eq_some_iff.1 h).1; rw [hns] at this; exact this
    have hlen : (P k).length ≤ 100 := by
      rw [hP, hns]
      match k, hk with
      | 0, _ => simp
      | 1, _ => simp; omega
      | 2, _ => simp; omega
    have := putInt_any (P k) x V hx (by omega)
    rw [hstep k x h] at this; exact this
  have k4 : ∀ V, Calls Tryz.prog 36 #[.string ⟨(P 3).toArray⟩, .string ⟨r.body.toArray⟩] V fun e w' => e = .returned (.string ⟨(P 3 ++ putText r.body).toArray⟩) ∧ Below V.heap.size V w' := fun V => putText_any _ r.body V (by rw [hP3]; simp only [List.length_append]; omega) (by omega)
  have k5 : ∀ V, Calls Tryz.prog 36 #[.string ⟨(P 3 ++ putText r.body).toArray⟩, .string ⟨r.before.toArray⟩] V fun e w' => e = .returned (.string ⟨(recB r).toArray⟩) ∧ Below V.heap.size V w' := fun V => by
    have := putText_any (P 3 ++ putText r.body) r.before V (by rw [hP3]; simp only [putText, List.length_append]; omega) (by omega)
    rw [hP3] at this ⊢; exact this
  have k6 : ∀ V, Calls Tryz.prog 92 #[.string ⟨(recB r).toArray⟩] V fun e w' => e = .returned (.string ⟨(digF r).toArray⟩) ∧ Below V.heap.size V w' := fun V => sum_walk (recB r) V (by omega)
  have K1 := Lib.hid k1
  have K4 := Lib.hid k4
  have K5 := Lib.hid k5
  have K6 := Lib.hid k6
  have HNS := Lib.hid hns
  clear k1 k4 k5 k6 h1 h2 h3 h4 hP3 hstep hP hl hb hi
  generalize P 3 ++ putText r.body = s7 at *
  generalize recB r = s8 at *
  generalize digF r = s9 at *
  have c0 := hR.c0
  have c1 := hR.c1
  have c2 := hR.c2
  go_enter Tryz.func85, Tryz.ntmps85
  go_wp2_with fail
  generalize w.alloc (.cells #[.int .i64 r.num, .int .i64 r.time, .int .i64 r.kind, .string ⟨r.body.toArray⟩, .string ⟨r.before.toArray⟩] 76) = w1 at *
  generalize hg : w.heap.size = g at *
  clear c0 c1 c2
  go_loopw [3, 13] (fun v i wr => ∃ k : Nat, k ≤ 3 ∧ v = .string ⟨(P k).toArray⟩ ∧ i = .int .i64 (k : Int) ∧ Rk wr g r ∧ Below g w wr) (fun _ i _ => 3 - (intOf i).toNat)
  case atStart => exact ⟨0, by omega, by rw [hP0], rfl, hR, hB⟩
  case round =>
    clear hR hB hP0 hns
    obtain ⟨k, hk, rfl, rfl, hR, hB⟩ := hrel
    by_cases hkt : k < 3
    · obtain ⟨x, hx⟩ : ∃ x, ns[k]? = some x := ⟨_, List.getElem?_eq_getElem (by rw [HNS.out]; exact hkt)⟩
      have hix := index3 wr Tryz.underlying37 #[.int .i64 r.num, .int .i64 r.time, .int .i64 r.kind] k hkt _ (nums_at (by rw [← HNS.out]; exact hx))
      have KX := Lib.hid (K1.out k x hx)
      clear hx
      go_wp2_with (go_at_call 37; (with_reducible refine (KX.out _).mono ?_))
      rintro e w2 ⟨rfl, hb2⟩
      go_wp2
      go_roundw
      case rel => exact ⟨k + 1, by omega, rfl, by go_num, hR.keep hb2, hB.trans (hb2.mono (by have := hB.size; omega))⟩
      case measure => simp [intOf]; omega
    · obtain rfl : k = 3 := by omega
      go_wp2_with fail
      have c3 := fun d os => cell_regrown hR.c3 d os
      have c4 := fun d os => cell_regrown hR.c4 d os
      refine wp_region_quiet_below (by kernel_rfl) (by kernel_rfl) ?_
      repeat (go_big_quiet_step (first
        | (go_at_call 36; with_reducible exact Calls.regrown_of (K4.out _))
        | (go_at_call 36; with_reducible exact Calls.regrown_of (K5.out _))
        | (go_at_call 92; with_reducible exact Calls.regrown_of (K6.out _))))
      refine wpQuiet_nil ?_
      rintro w3 ⟨p2, rfl⟩
      have hb2 := below_regrown wr p2.d p2.os
      go_wp2
      go_ret
      exact ⟨rfl, hg ▸ hB.trans (hb2.mono (by have := hB.size; omega))⟩
end Go.Proofs.YtipoljcgfcjlnaaGreatDoor
/- Chains of records: the last record, what may follow, and which chains are right. -/
namespace Go.Proofs.YtipoljcgfcjlnaaGreatDoor
open Go.RowKit
theorem Rd.rec {w : World} {a : Option Addr} {l : List Rec} (h : Rd w a (recs l)) {k : Nat} (hk : k < l.length) :
    ∃ g off r, a = some ⟨g, off, none⟩ ∧ Hid (l[k]? = some r) ∧ w.cell? ⟨g, off + k * 5, none⟩ = some (.int .i64 r.num) ∧ w.cell? ⟨g, off + k * 5 + 1, none⟩ = some (.int .i64 r.time) ∧ w.cell? ⟨g, off + k * 5 + 2, none⟩ = some (.int .i64 r.kind) ∧ w.cell? ⟨g, off + k * 5 + 3, none⟩ = some (.string ⟨r.body.toArray⟩) ∧ w.cell? ⟨g, off + k * 5 + 4, none⟩ = some (.string ⟨r.before.toArray⟩) := by
  have hr : l[k]? = some l[k] := List.getElem?_eq_getElem hk
  obtain ⟨g, off, ha, hc⟩ := h.at (by rw [recs_length]; omega)
  refine ⟨g, off, l[k], ha, hr, ?_, ?_, ?_, ?_, ?_⟩
  · exact hc (k * 5) _ (recs_get hr (f := 0) (by omega))
  · have := hc (k * 5 + 1) _ (recs_get hr (f := 1) (by omega)); rwa [← Nat.add_assoc] at this
  · have := hc (k * 5 + 2) _ (recs_get hr (f := 2) (by omega)); rwa [← Nat.add_assoc] at this
  · have := hc (k * 5 + 3) _ (recs_get hr (f := 3) (by omega)); rwa [← Nat.add_assoc] at this
  · have := hc (k * 5 + 4) _ (recs_get hr (f := 4) (by omega)); rwa [← Nat.add_assoc] at this
theorem lastF_at {l : List Rec} {r : Rec} (h : l[l.length - 1]? = some r) : lastF l = (digF r, r.time) := by
  unfold lastF
  rw [List.getLast?_eq_getElem?, h]
theorem lastF_nil {l : List Rec} (h : l.length = 0) : lastF l = ([], 0) := by
  rw [List.eq_nil_of_length_eq_zero h]; rfl
/-- the last record, if there is one, is no longer than this -/
def Fits (l : List Rec) : Prop := ∀ r, l[l.length - 1]? = some r → r.In ∧ r.body.length + r.before.length ≤ 70368744000000
set_option maxRecDepth 100000 in
set_option maxHeartbeats 1000000 in
theorem last_walk (a : Option Addr) (l : List Rec) (cap : Nat) (w : World) (hR : Rd w a (recs l)) (hn : l.length ≤ 281474976710656) (hF : Fits l) :
    Calls Tryz.prog 65 #[.slice a l.length cap] w fun e w' => e = .returned (.tuple #[.string ⟨(lastF l).1.toArray⟩, .int .i64 (lastF l).2]) ∧ Below w.heap.size w w' := by
  by_cases h0 : l.length = 0
  · rw [lastF_nil h0, h0]
    go_enter Tryz.func65, Tryz.ntmps65
    go_wp2
    go_ret2
    exact ⟨rfl, Below.refl _ _⟩
  · obtain ⟨n, hln⟩ : ∃ n, l.length = n + 1 := ⟨l.length - 1, by omega⟩
    obtain ⟨g, off, r, rfl, hr, c0, c1, c2, c3, c4⟩ := hR.rec (k := n) (by omega)
    have hr' : l[l.length - 1]? = some r := by rw [hln]; exact hr.out
    obtain ⟨hi, hb⟩ := hF r hr'
    rw [lastF_at hr', hln]
    have hn1 : n + 1 ≤ 281474976710656 := by omega
    have HR := Lib.hid hi
    have hk := Rk.new w r
    have hB := (Below.refl w.heap.size w).alloc (Nat.le_refl _) (.cells #[.int .i64 r.num, .int .i64 r.time, .int .i64 r.kind, .string ⟨r.body.toArray⟩, .string ⟨r.before.toArray⟩] 76)
    clear hF hR hr' hr hln h0 hi hn
    go_enter Tryz.func65, Tryz.ntmps65
    go_wp2_with fail
    generalize w.alloc (.cells #[.int .i64 r.num, .int .i64 r.time, .int .i64 r.kind, .string ⟨r.body.toArray⟩, .string ⟨r.before.toArray⟩] 76) = w1 at *
    generalize hg' : w.heap.size = g' at *
    have d0 := fun d os => cell_regrown hk.c0 d os
    have d1 := fun d os => cell_regrown hk.c1 d os
    have d2 := fun d os => cell_regrown hk.c2 d os
    have d3 := fun d os => cell_regrown hk.c3 d os
    have d4 := fun d os => cell_regrown hk.c4 d os
    refine wp_region_quiet_below (by kernel_rfl) (by kernel_rfl) ?_
    repeat (go_big_quiet_step (first
      | (go_at_call 85; with_reducible exact Calls.regrown_of (dig_walk r _ HR.out hb))))
    refine wpQuiet_nil ?_
    rintro w3 ⟨p2, rfl⟩
    have hb2 := below_regrown w1 p2.d p2.os
    go_wp2
    go_ret2
    exact ⟨rfl, hg' ▸ hB.trans (hb2.mono (by have := hB.size; omega))⟩
set_option maxRecDepth 100000 in
theorem time_walk (t : Int) (w : World) : Calls Tryz.prog 83 #[.int .i64 t] w fun e w' => e = .returned (.bool (decide (0 ≤ t ∧ t ≤ 1099511627776))) ∧ w = w' := by
  go_enter Tryz.func83, Tryz.ntmps83
  by_cases h0 : 0 ≤ t
  · have d0 : decide (t ≥ 0) = true := decide_eq_true h0
    go_wp2
    go_ret
    exact ⟨ret_bool (by apply Bool.eq_iff_iff.2; simp <;> omega), rfl⟩
  · have d0 : decide (t ≥ 0) = false := decide_eq_false h0
    go_wp2
    go_ret
    exact ⟨ret_bool (by apply Bool.eq_iff_iff.2; simp <;> omega), rfl⟩
set_option maxRecDepth 100000 in
theorem kind_walk (t : Int) (w : World) : Calls Tryz.prog 84 #[.int .i64 t] w fun e w' => e = .returned (.bool (decide (1 ≤ t ∧ t ≤ 7))) ∧ w = w' := by
  go_enter Tryz.func84, Tryz.ntmps84
  by_cases h0 : 1 ≤ t
  · have d0 : decide (t ≥ 1) = true := decide_eq_true h0
    go_wp2
    go_ret
    exact ⟨ret_bool (by apply Bool.eq_iff_iff.2; simp <;> omega), rfl⟩
  · have d0 : decide (t ≥ 1) = false := decide_eq_false h0
    go_wp2
    go_ret
    exact ⟨ret_bool (by apply Bool.eq_iff_iff.2; simp <;> omega), rfl⟩
end Go.Proofs.YtipoljcgfcjlnaaGreatDoor
