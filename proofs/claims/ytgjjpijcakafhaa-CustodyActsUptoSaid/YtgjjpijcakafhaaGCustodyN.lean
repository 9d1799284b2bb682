/- Chains of records: heads: the program's and the reference's. -/
import Derived.Test.YtgjjpijcakafhaaGCustodyM
import Derived.Test.YtgjjpijcakafhaaGCustodyL
namespace Go.Proofs.Ytgjjpijcakafhaa
open Go.RowKit
structure Head where
  count : Int
  last : List UInt8
  root : List UInt8
  time : Int
/-- block g is a head -/
def Hk (w : World) (g : Nat) (h : Head) : Prop := w.heap[g]? = some (.cells #[.int .i64 h.count, .string ⟨h.last.toArray⟩, .string ⟨h.root.toArray⟩, .int .i64 h.time] 40 (0, 0))
theorem Hk.lt {w : World} {g : Nat} {h : Head} (k : Hk w g h) : g < w.heap.size := (Array.getElem?_eq_some_iff.1 k).1
theorem Hk.c0 {w : World} {g : Nat} {h : Head} (k : Hk w g h) : w.cell? ⟨g, 0, none⟩ = some (.int .i64 h.count) := by rw [Lib.cell_of_heap k]; rfl
theorem Hk.c1 {w : World} {g : Nat} {h : Head} (k : Hk w g h) : w.cell? ⟨g, 1, none⟩ = some (.string ⟨h.last.toArray⟩) := by rw [Lib.cell_of_heap k]; rfl
theorem Hk.c2 {w : World} {g : Nat} {h : Head} (k : Hk w g h) : w.cell? ⟨g, 2, none⟩ = some (.string ⟨h.root.toArray⟩) := by rw [Lib.cell_of_heap k]; rfl
theorem Hk.c3 {w : World} {g : Nat} {h : Head} (k : Hk w g h) : w.cell? ⟨g, 3, none⟩ = some (.int .i64 h.time) := by rw [Lib.cell_of_heap k]; rfl
theorem Hk.free {w : World} {g : Nat} {h : Head} (k : Hk w g h) (j : Nat) : w.frozen? ⟨g, j, none⟩ = false := Lib.frozen_of_heap k j
theorem Hk.keep {w w' : World} {g : Nat} {h : Head} (k : Hk w g h) (hb : Below w.heap.size w w') : Hk w' g h := (hb.block g k.lt).trans k
theorem Hk.store {w : World} {g : Nat} {h : Head} (k : Hk w g h) (h' : Head) :
    Hk ((((w.setCell ⟨g, 0, none⟩ (.int .i64 h'.count)).setCell ⟨g, 1, none⟩ (.string ⟨h'.last.toArray⟩)).setCell ⟨g, 2, none⟩ (.string ⟨h'.root.toArray⟩)).setCell ⟨g, 3, none⟩ (.int .i64 h'.time)) g h' := by
  have k' : w.heap[g]? = some (.cells #[.int .i64 h.count, .string ⟨h.last.toArray⟩, .string ⟨h.root.toArray⟩, .int .i64 h.time] 40 (0, 0)) := k
  simp [Hk, World.setCell, Array.getElem?_modify, k']
theorem Hk.ret {fn : Func} {t u : Tmp} (h : fn.results = #[.cell t 40, .tmp u]) (tmps : Array Value) {w : World} {g : Nat} {x : Head} (ht : tmps.getD t undef = .pointer (some ⟨g, 0, none⟩)) (hD : Hk w g x) :
    (results fn tmps).run Try.prog w = .ok (.tuple #[.agg #[.int .i64 x.count, .string ⟨x.last.toArray⟩, .string ⟨x.root.toArray⟩, .int .i64 x.time], tmps.getD u undef]) w := by
  have c0 := hD.c0
  have c1 := hD.c1
  have c2 := hD.c2
  have c3 := hD.c3
  have ht' : tmps[t]?.getD undef = .pointer (some ⟨g, 0, none⟩) := by simpa using ht
  simp [results, h, ht', go_sem, c0, c1, c2, c3]
theorem below4 {B g : Nat} {w w1 : World} (h : Below B w w1) (hg : B ≤ g) (x y z u : Value) : Below B w ((((w1.setCell ⟨g, 0, none⟩ x).setCell ⟨g, 1, none⟩ y).setCell ⟨g, 2, none⟩ z).setCell ⟨g, 3, none⟩ u) :=
  (((h.setCell (p := ⟨g, 0, none⟩) hg x).setCell (p := ⟨g, 1, none⟩) hg y).setCell (p := ⟨g, 2, none⟩) hg z).setCell (p := ⟨g, 3, none⟩) hg u
/-- the head of a chain -/
def headF (l : List Rec) : Head := if (checkF l).2 = 0 then ⟨(l.length : Int), (lastF l).1, rootF (l.map digF), (lastF l).2⟩ else ⟨0, [], [], 0⟩
set_option maxRecDepth 100000 in
set_option maxHeartbeats 2000000 in
theorem head_walk (a : Option Addr) (l : List Rec) (cap : Nat) (w : World) (hR : Rd w a (recs l)) (hn : l.length ≤ 281474976710656) (hc : l.length ≤ cap) (hI : ∀ r ∈ l, r.In) :
    Calls Try.prog 14 #[.slice a l.length cap] w fun e w' => e = .returned (.tuple #[.agg #[.int .i64 (headF l).count, .string ⟨(headF l).last.toArray⟩, .string ⟨(headF l).root.toArray⟩, .int .i64 (headF l).time], .int .i64 (checkF l).2]) ∧ Below w.heap.size w w' := by
  have hB := (Below.refl w.heap.size w).alloc (Nat.le_refl _) (.cells #[.int .i64 0, .string ⟨#[]⟩, .string ⟨#[]⟩, .int .i64 0] 40)
  have hk : Hk (w.alloc (.cells #[.int .i64 0, .string ⟨#[]⟩, .string ⟨#[]⟩, .int .i64 0] 40)) w.heap.size ⟨0, [], [], 0⟩ := heap_alloc_new w _
  replace hR := hR.keep hB
  obtain ⟨n, hln⟩ : ∃ n, n = l.length := ⟨_, rfl⟩
  obtain ⟨i0, hi0⟩ : ∃ i, i = (checkF l).1 := ⟨_, rfl⟩
  obtain ⟨e0, he0⟩ : ∃ e, e = (checkF l).2 := ⟨_, rfl⟩
  have k1 : Calls Try.prog 7 #[.slice a n cap] (w.alloc (.cells #[.int .i64 0, .string ⟨#[]⟩, .string ⟨#[]⟩, .int .i64 0] 40)) fun e w' => e = .returned (.tuple #[.int .i64 i0, .int .i64 e0]) ∧ Below (w.alloc (.cells #[.int .i64 0, .string ⟨#[]⟩, .string ⟨#[]⟩, .int .i64 0] 40)).heap.size (w.alloc (.cells #[.int .i64 0, .string ⟨#[]⟩, .string ⟨#[]⟩, .int .i64 0] 40)) w' := by
    rw [hln, hi0, he0]; exact ccheck_walk a l cap _ hR hn hc hI
  have K1 := Lib.hid k1
  have HN := Lib.hid hln
  have HE := Lib.hid he0
  rw [← hln] at hn hc ⊢
  clear k1 hi0 hln
  go_enter Try.func14, Try.ntmps14
  go_wp2_with (go_at_call 7; (with_reducible refine K1.out.mono ?_))
  rintro e w1 ⟨rfl, hb1⟩
  replace hk := hk.keep hb1
  replace hR := hR.keep hb1
  replace hB := hB.trans (hb1.mono hB.size)
  clear K1 hb1
  obtain ⟨g, hg⟩ : ∃ g, g = w.heap.size := ⟨_, rfl⟩
  have hwg : w.heap.size ≤ g := by omega
  rw [← hg] at hk ⊢
  clear hg
  have c0 := hk.c0
  have c1 := hk.c1
  have c2 := hk.c2
  have c3 := hk.c3
  have f0 := hk.free 0
  have f1 := hk.free 1
  have f2 := hk.free 2
  have f3 := hk.free 3
  by_cases h0 : e0 = 0
  rotate_left
  · have hne : (e0 != 0) = true := by rw [bne_iff_ne]; exact h0
    have hH : headF l = ⟨0, [], [], 0⟩ := by rw [headF, if_neg (by rw [← he0]; exact h0)]
    have HH := Lib.hid hH
    clear hH he0
    go_wp2
    exact bodyPost_ret (Hk.ret (t := 2) (u := 3) rfl _ rfl (hk.store ⟨0, [], [], 0⟩)) rfl ⟨by rw [HH.out, ← HE.out]; rfl, below4 hB hwg _ _ _ _⟩
  subst h0
  have hrt := checkF_ok he0.symm
  have hsm := hrt.len (Nat.le_refl _)
  rw [← HN.out] at hsm
  obtain ⟨s, hs⟩ : ∃ s, s = (lastF l).1 := ⟨_, rfl⟩
  obtain ⟨t0, ht0⟩ : ∃ t0, t0 = (lastF l).2 := ⟨_, rfl⟩
  obtain ⟨rt, hrtF⟩ : ∃ rt, rt = rootF (l.map digF) := ⟨_, rfl⟩
  have hH : headF l = ⟨(n : Int), s, rt, t0⟩ := by rw [headF, if_pos he0.symm, hs, ht0, hrtF, HN.out]
  have HH := Lib.hid hH
  have k2 : Calls Try.prog 29 #[.slice a n cap] w1 fun e w' => e = .returned (.tuple #[.string ⟨s.toArray⟩, .int .i64 t0]) ∧ Below w1.heap.size w1 w' := by
    rw [HN.out, hs, ht0]
    exact last_walk a l cap w1 hR (by rw [← HN.out]; omega) (by have := hrt.fits (Nat.le_refl _) hI; rwa [List.take_length] at this)
  have k3 : ∀ V, Rd V a (recs l) → Calls Try.prog 38 #[.slice a n cap] V fun e w' => ∃ a' cap', e = .returned (.slice a' n cap') ∧ Ow w' V.heap.size 1 a' n cap' (strs (l.map digF)) ∧ Below V.heap.size V w' := fun V h => by
    rw [HN.out]; exact digests_walk a l cap V h (by rw [← HN.out]; omega) (hrt.short hI)
  have k4 : ∀ V a' cap', Rd V a' (strs (l.map digF)) → n ≤ cap' → Calls Try.prog 37 #[.slice a' n cap'] V fun e w' => e = .returned (.string ⟨rt.toArray⟩) ∧ Below V.heap.size V w' := fun V a' cap' h h2 => by
    rw [hrtF]; exact root_walk n a' (l.map digF) n cap' V (by rw [List.length_map, ← HN.out]; omega) (by rw [List.length_map, ← HN.out]) h h2 (by omega) (dig32 l)
  have K2 := Lib.hid k2
  have K3 := Lib.hid k3
  have K4 := Lib.hid k4
  clear k2 k3 k4 hH hs ht0 hrtF hrt hI
  clear he0
  go_wp2_with (go_at_call 29; (with_reducible refine K2.out.mono ?_))
  rintro e w2 ⟨rfl, hb2⟩
  replace hk := hk.keep hb2
  replace hR := hR.keep hb2
  replace hB := hB.trans (hb2.mono hB.size)
  clear K2 hb2 c0 c1 c2 c3 f0 f1 f2 f3
  go_wp2_with (go_at_call 38; (with_reducible refine (K3.out _ hR).mono ?_))
  rintro e w3 ⟨a3, c3, rfl, hO, hb3⟩
  replace hk := hk.keep hb3
  replace hB := hB.trans (hb3.mono hB.size)
  have hcc := hO.2.1
  clear hb3 K3 hR
  go_wp2_with (go_at_call 37; (with_reducible refine (K4.out _ _ _ hO.rd hcc).mono ?_))
  rintro e w4 ⟨rfl, hb4⟩
  replace hk := hk.keep hb4
  replace hB := hB.trans (hb4.mono hB.size)
  clear hb4 K4 hO
  have c0 := hk.c0
  have c1 := hk.c1
  have c2 := hk.c2
  have c3 := hk.c3
  have f0 := hk.free 0
  have f1 := hk.free 1
  have f2 := hk.free 2
  have f3 := hk.free 3
  go_wp2
  exact bodyPost_ret (Hk.ret (t := 2) (u := 3) rfl _ rfl (hk.store ⟨(n : Int), s, rt, t0⟩)) rfl ⟨by rw [HH.out, ← HE.out]; rfl, below4 hB hwg _ _ _ _⟩
end Go.Proofs.Ytgjjpijcakafhaa
