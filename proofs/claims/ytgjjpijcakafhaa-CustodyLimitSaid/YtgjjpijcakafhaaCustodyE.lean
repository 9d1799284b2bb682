/- Chains of records: which chains are right: the program's Check. -/
import Derived.Test.YtgjjpijcakafhaaCustodyD
namespace Go.Proofs.Ytgjjpijcakafhaa
open Go.RowKit
theorem Rd.recTake {w : World} {a : Option Addr} {l : List Rec} (h : Rd w a (recs l)) (k : Nat) : Rd w a (recs (l.take k)) := fun j u hj => by
  refine h j u ?_
  have e : recs l = recs (l.take k) ++ recs (l.drop k) := by rw [← recs_append, List.take_append_drop]
  have := (List.getElem?_eq_some_iff.1 hj).1
  rw [e, List.getElem?_append_left this]; exact hj
theorem Right.fits {l : List Rec} {k : Nat} (h : Right l k) (hk : k ≤ l.length) (hI : ∀ r ∈ l, r.In) : Fits (l.take k) := fun r hr => by
  rw [List.length_take, Nat.min_eq_left hk] at hr
  by_cases h0 : k = 0
  · subst h0; simp at hr
  · rw [List.getElem?_take_of_lt (by omega)] at hr
    have := follows_short (h (k - 1) r (by omega) hr)
    exact ⟨hI r (List.mem_of_getElem? hr), by omega⟩
set_option maxRecDepth 100000 in
set_option maxHeartbeats 2000000 in
theorem ccheck_walk (a : Option Addr) (l : List Rec) (cap : Nat) (w : World) (hR : Rd w a (recs l)) (hn : l.length ≤ 281474976710656) (hc : l.length ≤ cap) (hI : ∀ r ∈ l, r.In) :
    Calls Try.prog 7 #[.slice a l.length cap] w fun e w' => e = .returned (.tuple #[.int .i64 (checkF l).1, .int .i64 (checkF l).2]) ∧ Below w.heap.size w w' := by
  go_enter Try.func7, Try.ntmps7
  go_wp2_with fail
  go_loopw [9] (fun i wr => ∃ k : Nat, k ≤ l.length ∧ i = .int .i64 (k : Int) ∧ Right l k ∧ Below w.heap.size w wr) (fun i _ => l.length - (intOf i).toNat)
  case atStart => exact ⟨0, Nat.zero_le _, rfl, Right.zero l, Below.refl _ _⟩
  case round =>
    obtain ⟨k, hk, rfl, hRt, hB⟩ := hrel
    by_cases hkt : k < l.length
    · obtain ⟨g, off, r, rfl, hr, c0, c1, c2, c3, c4⟩ := (hR.keep hB).rec (k := k) hkt
      have hRk := ((hR.keep hB).recTake k)
      have hFt := hRt.fits hk hI
      have hlk : (l.take k).length = k := by rw [List.length_take]; omega
      have hki : (k : Int) ≤ (cap : Int) := by omega
      have hkl : (k : Int) < (l.length : Int) := by omega
      obtain ⟨e, he⟩ : ∃ e, e = followsF (l.take k) r := ⟨_, rfl⟩
      have k1 : ∀ V, Rd V (some ⟨g, off, none⟩) (recs (l.take k)) → Calls Try.prog 28 #[.slice (some ⟨g, off, none⟩) k cap, .agg #[.int .i64 r.num, .int .i64 r.time, .int .i64 r.kind, .string ⟨r.body.toArray⟩, .string ⟨r.before.toArray⟩]] V fun e' w' => e' = .returned (.int .i64 e) ∧ Below V.heap.size V w' := fun V h => by
        have := follows_walk (some ⟨g, off, none⟩) (l.take k) cap r V h (by omega) hFt
        rw [hlk, ← he] at this; exact this
      have K1 := Lib.hid k1
      have HR := Lib.hid hR
      have HI := Lib.hid hI
      have HRt := Lib.hid hRt
      have HE := Lib.hid he
      have hwl := hB.size
      clear k1 hR hI hRt he hFt
      have hb1 := (Below.refl wr.heap.size wr).alloc (Nat.le_refl _) (.cells #[.int .i64 r.num, .int .i64 r.time, .int .i64 r.kind, .string ⟨r.body.toArray⟩, .string ⟨r.before.toArray⟩] 24)
      replace hRk := hRk.keep hb1
      have hbx := Rk.new wr r
      replace hB := hB.trans (hb1.mono hwl)
      go_wp2_with fail
      generalize wr.alloc (.cells #[.int .i64 r.num, .int .i64 r.time, .int .i64 r.kind, .string ⟨r.body.toArray⟩, .string ⟨r.before.toArray⟩] 24) = w1 at *
      clear c0 c1 c2 c3 c4 hb1
      generalize wr.heap.size = gb at *
      have d0 := fun d os => cell_regrown hbx.c0 d os
      have d1 := fun d os => cell_regrown hbx.c1 d os
      have d2 := fun d os => cell_regrown hbx.c2 d os
      have d3 := fun d os => cell_regrown hbx.c3 d os
      have d4 := fun d os => cell_regrown hbx.c4 d os
      refine wp_region_quiet_below (by kernel_rfl) (by kernel_rfl) ?_
      repeat (go_big_quiet_step (first
        | (go_at_call 28; with_reducible exact Calls.regrown_of (K1.out _ (hRk.keep (below_regrown _ _ _))))))
      refine wpQuiet_nil ?_
      rintro w3 ⟨p2, rfl⟩
      have hb2 := below_regrown w1 p2.d p2.os
      replace hB := hB.trans (hb2.mono (by have := hB.size; omega))
      clear d0 d1 d2 d3 d4 hbx hb2 hRk K1
      by_cases h0 : e = 0
      · subst h0
        go_wp2
        go_roundw
        case rel => exact ⟨k + 1, by omega, by go_num, HRt.out.succ hr.out HE.out.symm, hB⟩
        case measure => simp [intOf]; omega
      · have hne : (e != 0) = true := by rw [bne_iff_ne]; exact h0
        go_wp2
        go_ret2
        refine ⟨?_, hB⟩
        rw [checkF_no hr.out HRt.out (by rw [← HE.out]; exact h0), ← HE.out]; rfl
    · have hkl : ¬ ((k : Int) < (l.length : Int)) := by omega
      have HI := Lib.hid (checkF_right (l := l) (by rw [show l.length = k by omega]; exact hRt))
      clear hRt hI hR
      go_wp2
      go_ret2
      exact ⟨by rw [HI.out]; rfl, hB⟩
end Go.Proofs.Ytgjjpijcakafhaa
