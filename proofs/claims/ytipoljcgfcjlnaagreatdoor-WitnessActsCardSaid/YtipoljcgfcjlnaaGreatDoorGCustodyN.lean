/- Chains of records: heads: the program's and the reference's. -/
import Derived.Test.YtipoljcgfcjlnaaGreatDoorGAppStep
import Derived.Test.YtipoljcgfcjlnaaGreatDoorGCustodyL
import Derived.Test.YtipoljcgfcjlnaaGreatDoorGPutR
import Derived.Test.YtipoljcgfcjlnaaGreatDoorGHandG
namespace Go.Proofs.YtipoljcgfcjlnaaGreatDoor
open Go.RowKit
structure Head where
  count : Int
  last : List UInt8
  root : List UInt8
  time : Int
/-- block g is a head -/
def Hk (w : World) (g : Nat) (h : Head) : Prop := w.heap[g]? = some (.cells #[.int .i64 h.count, .string ⟨h.last.toArray⟩, .string ⟨h.root.toArray⟩, .int .i64 h.time] 24 (0, 0))
theorem Hk.lt {w : World} {g : Nat} {h : Head} (k : Hk w g h) : g < w.heap.size := (Array.getElem?_eq_some_iff.1 k).1
theorem Hk.c0 {w : World} {g : Nat} {h : Head} (k : Hk w g h) : w.cell? ⟨g, 0, none⟩ = some (.int .i64 h.count) := by rw [Lib.cell_of_heap k]; rfl
theorem Hk.c1 {w : World} {g : Nat} {h : Head} (k : Hk w g h) : w.cell? ⟨g, 1, none⟩ = some (.string ⟨h.last.toArray⟩) := by rw [Lib.cell_of_heap k]; rfl
theorem Hk.c2 {w : World} {g : Nat} {h : Head} (k : Hk w g h) : w.cell? ⟨g, 2, none⟩ = some (.string ⟨h.root.toArray⟩) := by rw [Lib.cell_of_heap k]; rfl
theorem Hk.c3 {w : World} {g : Nat} {h : Head} (k : Hk w g h) : w.cell? ⟨g, 3, none⟩ = some (.int .i64 h.time) := by rw [Lib.cell_of_heap k]; rfl
theorem Hk.free {w : World} {g : Nat} {h : Head} (k : Hk w g h) (j : Nat) : w.frozen? ⟨g, j, none⟩ = false := Lib.frozen_of_heap k j
theorem Hk.keep {w w' : World} {g : Nat} {h : Head} (k : Hk w g h) (hb : Below w.heap.size w w') : Hk w' g h := (hb.block g k.lt).trans k
theorem Hk.store {w : World} {g : Nat} {h : Head} (k : Hk w g h) (h' : Head) :
    Hk ((((w.setCell ⟨g, 0, none⟩ (.int .i64 h'.count)).setCell ⟨g, 1, none⟩ (.string ⟨h'.last.toArray⟩)).setCell ⟨g, 2, none⟩ (.string ⟨h'.root.toArray⟩)).setCell ⟨g, 3, none⟩ (.int .i64 h'.time)) g h' := by
  have k' : w.heap[g]? = some (.cells #[.int .i64 h.count, .string ⟨h.last.toArray⟩, .string ⟨h.root.toArray⟩, .int .i64 h.time] 24 (0, 0)) := k
  simp [Hk, World.setCell, Array.getElem?_modify, k']
theorem Hk.ret {fn : Func} {t u : Tmp} (h : fn.results = #[.cell t 24, .tmp u]) (tmps : Array Value) {w : World} {g : Nat} {x : Head} (ht : tmps.getD t undef = .pointer (some ⟨g, 0, none⟩)) (hD : Hk w g x) :
    (results fn tmps).run Tryz.prog w = .ok (.tuple #[.agg #[.int .i64 x.count, .string ⟨x.last.toArray⟩, .string ⟨x.root.toArray⟩, .int .i64 x.time], tmps.getD u undef]) w := by
  have c0 := hD.c0
  have c1 := hD.c1
  have c2 := hD.c2
  have c3 := hD.c3
  have ht' : tmps[t]?.getD undef = .pointer (some ⟨g, 0, none⟩) := by simpa using ht
  simp [results, h, ht', go_sem, c0, c1, c2, c3]
theorem below4 {B g : Nat} {w w1 : World} (h : Below B w w1) (hg : B ≤ g) (x y z u : Value) : Below B w ((((w1.setCell ⟨g, 0, none⟩ x).setCell ⟨g, 1, none⟩ y).setCell ⟨g, 2, none⟩ z).setCell ⟨g, 3, none⟩ u) :=
  (((h.setCell (p := ⟨g, 0, none⟩) hg x).setCell (p := ⟨g, 1, none⟩) hg y).setCell (p := ⟨g, 2, none⟩) hg z).setCell (p := ⟨g, 3, none⟩) hg u
/-- the head of a chain -/
def headF (l : List Rec) : Head := if (checkF l).2 = 0 then ⟨(l.length : Int), (lastF l).1, rootF (l.map digF), (lastF l).2⟩ else ⟨0, [], [], 0⟩
set_option maxRecDepth 100000 in
set_option maxHeartbeats 2000000 in
theorem head_walk (a : Option Addr) (l : List Rec) (cap : Nat) (w : World) (hR : Rd w a (recs l)) (hn : l.length ≤ 281474976710656) (hc : l.length ≤ cap) (hI : ∀ r ∈ l, r.In) :
    Calls Tryz.prog 41 #[.slice a l.length cap] w fun e w' => e = .returned (.tuple #[.agg #[.int .i64 (headF l).count, .string ⟨(headF l).last.toArray⟩, .string ⟨(headF l).root.toArray⟩, .int .i64 (headF l).time], .int .i64 (checkF l).2]) ∧ Below w.heap.size w w' := by
  have hB := (Below.refl w.heap.size w).alloc (Nat.le_refl _) (.cells #[.int .i64 0, .string ⟨#[]⟩, .string ⟨#[]⟩, .int .i64 0] 24)
  have hk : Hk (w.alloc (.cells #[.int .i64 0, .string ⟨#[]⟩, .string ⟨#[]⟩, .int .i64 0] 24)) w.heap.size ⟨0, [], [], 0⟩ := heap_alloc_new w _
  replace hR := hR.keep hB
  obtain ⟨n, hln⟩ : ∃ n, n = l.length := ⟨_, rfl⟩
  obtain ⟨i0, hi0⟩ : ∃ i, i = (checkF l).1 := ⟨_, rfl⟩
  obtain ⟨e0, he0⟩ : ∃ e, e = (checkF l).2 := ⟨_, rfl⟩
  have k1 : Calls Tryz.prog 40 #[.slice a n cap] (w.alloc (.cells #[.int .i64 0, .string ⟨#[]⟩, .string ⟨#[]⟩, .int .i64 0] 24)) fun e w' => e = .returned (.tuple #[.int .i64 i0, .int .i64 e0]) ∧ Below (w.alloc (.cells #[.int .i64 0, .string ⟨#[]⟩, .string ⟨#[]⟩, .int .i64 0] 24)).heap.size (w.alloc (.cells #[.int .i64 0, .string ⟨#[]⟩, .string ⟨#[]⟩, .int .i64 0] 24)) w' := by
    rw [hln, hi0, he0]; exact ccheck_walk a l cap _ hR hn hc hI
  have K1 := Lib.hid k1
  have HN := Lib.hid hln
  have HE := Lib.hid he0
  rw [← hln] at hn hc ⊢
  clear k1 hi0 hln
  go_enter Tryz.func41, Tryz.ntmps41
  go_wp2_with (go_at_call 40; (with_reducible refine K1.out.mono ?_))
  rintro e w1 ⟨rfl, hb1⟩
  replace hk := hk.keep hb1
  replace hR := hR.keep hb1
  replace hB := hB.trans (hb1.mono hB.size)
  clear K1 hb1
  obtain ⟨g, hg⟩ : ∃ g, g = w.heap.size := ⟨_, rfl⟩
  have hwg : w.heap.size ≤ g := by omega
  rw [← hg] at hk ⊢
  clear hg
  have c0 := hk.c0
  have c1 := hk.c1
  have c2 := hk.c2
  have c3 := hk.c3
  have f0 := hk.free 0
  have f1 := hk.free 1
  have f2 := hk.free 2
  have f3 := hk.free 3
  by_cases h0 : e0 = 0
  rotate_left
  · have hne : (e0 != 0) = true := by rw [bne_iff_ne]; exact h0
    have hH : headF l = ⟨0, [], [], 0⟩ := by rw [headF, if_neg (by rw [← he0]; exact h0)]
    have HH := Lib.hid hH
    clear hH he0
    go_wp2
    exact bodyPost_ret (Hk.ret (t := 2) (u := 3) rfl _ rfl (hk.store ⟨0, [], [], 0⟩)) rfl ⟨by rw [HH.out, ← HE.out]; rfl, below4 hB hwg _ _ _ _⟩
  subst h0
  have hrt := checkF_ok he0.symm
  have hsm := hrt.len (Nat.le_refl _)
  rw [← HN.out] at hsm
  obtain ⟨s, hs⟩ : ∃ s, s = (lastF l).1 := ⟨_, rfl⟩
  obtain ⟨t0, ht0⟩ : ∃ t0, t0 = (lastF l).2 := ⟨_, rfl⟩
  obtain ⟨rt, hrtF⟩ : ∃ rt, rt = rootF (l.map digF) := ⟨_, rfl⟩
  have hH : headF l = ⟨(n : Int), s, rt, t0⟩ := by rw [headF, if_pos he0.symm, hs, ht0, hrtF, HN.out]
  have HH := Lib.hid hH
  have k2 : Calls Tryz.prog 65 #[.slice a n cap] w1 fun e w' => e = .returned (.tuple #[.string ⟨s.toArray⟩, .int .i64 t0]) ∧ Below w1.heap.size w1 w' := by
    rw [HN.out, hs, ht0]
    exact last_walk a l cap w1 hR (by rw [← HN.out]; omega) (by have := hrt.fits (Nat.le_refl _) hI; rwa [List.take_length] at this)
  have k3 : ∀ V, Rd V a (recs l) → Calls Tryz.prog 67 #[.slice a n cap] V fun e w' => ∃ a' cap', e = .returned (.slice a' n cap') ∧ Ow w' V.heap.size 1 a' n cap' (strs (l.map digF)) ∧ Below V.heap.size V w' := fun V h => by
    rw [HN.out]; exact digests_walk a l cap V h (by rw [← HN.out]; omega) (hrt.short hI)
  have k4 : ∀ V a' cap', Rd V a' (strs (l.map digF)) → n ≤ cap' → Calls Tryz.prog 66 #[.slice a' n cap'] V fun e w' => e = .returned (.string ⟨rt.toArray⟩) ∧ Below V.heap.size V w' := fun V a' cap' h h2 => by
    rw [hrtF]; exact root_walk n a' (l.map digF) n cap' V (by rw [List.length_map, ← HN.out]; omega) (by rw [List.length_map, ← HN.out]) h h2 (by omega) (dig32 l)
  have K2 := Lib.hid k2
  have K3 := Lib.hid k3
  have K4 := Lib.hid k4
  clear k2 k3 k4 hH hs ht0 hrtF hrt hI
  clear he0
  go_wp2_with (go_at_call 65; (with_reducible refine K2.out.mono ?_))
  rintro e w2 ⟨rfl, hb2⟩
  replace hk := hk.keep hb2
  replace hR := hR.keep hb2
  replace hB := hB.trans (hb2.mono hB.size)
  clear K2 hb2 c0 c1 c2 c3 f0 f1 f2 f3
  go_wp2_with (go_at_call 67; (with_reducible refine (K3.out _ hR).mono ?_))
  rintro e w3 ⟨a3, c3, rfl, hO, hb3⟩
  replace hk := hk.keep hb3
  replace hB := hB.trans (hb3.mono hB.size)
  have hcc := hO.2.1
  clear hb3 K3 hR
  go_wp2_with (go_at_call 66; (with_reducible refine (K4.out _ _ _ hO.rd hcc).mono ?_))
  rintro e w4 ⟨rfl, hb4⟩
  replace hk := hk.keep hb4
  replace hB := hB.trans (hb4.mono hB.size)
  clear hb4 K4 hO
  have c0 := hk.c0
  have c1 := hk.c1
  have c2 := hk.c2
  have c3 := hk.c3
  have f0 := hk.free 0
  have f1 := hk.free 1
  have f2 := hk.free 2
  have f3 := hk.free 3
  go_wp2
  exact bodyPost_ret (Hk.ret (t := 2) (u := 3) rfl _ rfl (hk.store ⟨(n : Int), s, rt, t0⟩)) rfl ⟨by rw [HH.out, ← HE.out]; rfl, below4 hB hwg _ _ _ _⟩
end Go.Proofs.YtipoljcgfcjlnaaGreatDoor
/- Stamps of a witness: what is signed. -/
namespace Go.Proofs.YtipoljcgfcjlnaaGreatDoor
open Go.RowKit
structure Stm where
  head : Head
  seen : Int
  key : Int
  r : Int
  s : Int
abbrev Head.val (h : Head) : Value := .agg #[.int .i64 h.count, .string ⟨h.last.toArray⟩, .string ⟨h.root.toArray⟩, .int .i64 h.time]
abbrev Head.cells (h : Head) : List Value := [.int .i64 h.count, .string ⟨h.last.toArray⟩, .string ⟨h.root.toArray⟩, .int .i64 h.time]
abbrev Stm.val (x : Stm) : Value := .agg #[.int .i64 x.head.count, .string ⟨x.head.last.toArray⟩, .string ⟨x.head.root.toArray⟩, .int .i64 x.head.time, .int .i64 x.seen, .int .i64 x.key, .int .i64 x.r, .int .i64 x.s]
abbrev Stm.cells (x : Stm) : List Value := [.int .i64 x.head.count, .string ⟨x.head.last.toArray⟩, .string ⟨x.head.root.toArray⟩, .int .i64 x.head.time, .int .i64 x.seen, .int .i64 x.key, .int .i64 x.r, .int .i64 x.s]
/-- numbers of 64 bits, texts that are not long -/
structure Head.In (h : Head) : Prop where
  count : I64 h.count
  time : I64 h.time
  last : h.last.length ≤ 1000
  root : h.root.length ≤ 1000
/-- what a witness signs -/
def wtextF (h : Head) (seen : Int) : List UInt8 := putInt h.count ++ putText h.last ++ putText h.root ++ putInt h.time ++ putInt seen
theorem putText_len (s : List UInt8) (h : s.length ≤ 1000) : (putText s).length ≤ 1010 := by
  have := putInt_ten (I64.nat (show s.length ≤ 281474976710656 by omega))
  simp only [putText, List.length_append]; omega
theorem wtextF_len {h : Head} (hI : h.In) {seen : Int} (hs : I64 seen) : (wtextF h seen).length ≤ 3000 := by
  have a := putInt_ten hI.count
  have b := putInt_ten hI.time
  have c := putInt_ten hs
  have d := putText_len _ hI.last
  have e := putText_len _ hI.root
  simp only [wtextF, List.length_append]; omega
set_option maxRecDepth 100000 in
set_option maxHeartbeats 1000000 in
theorem wtext_walk (h : Head) (seen : Int) (w : World) (hI : h.In) (hs : I64 seen) :
    Calls Tryz.prog 15 #[.agg #[.int .i64 h.count, .string ⟨h.last.toArray⟩, .string ⟨h.root.toArray⟩, .int .i64 h.time], .int .i64 seen] w fun e w' => e = .returned (.string ⟨(wtextF h seen).toArray⟩) ∧ Below w.heap.size w w' := by
  obtain ⟨n, l, r, t⟩ := h
  obtain ⟨i1, i2, i3, i4⟩ := hI
  dsimp only at i1 i2 i3 i4 ⊢
  have l1 := putInt_ten i1
  have l2 := putText_len _ i3
  have l3 := putText_len _ i4
  have l4 := putInt_ten i2
  have k1 : ∀ V, Calls Tryz.prog 37 #[.string ⟨#[]⟩, .int .i64 n] V fun e w' => e = .returned (.string ⟨(putInt n).toArray⟩) ∧ Below V.heap.size V w' := fun V => putInt_nil n V i1
  have k2 : ∀ V, Calls Tryz.prog 36 #[.string ⟨(putInt n).toArray⟩, .string ⟨l.toArray⟩] V fun e w' => e = .returned (.string ⟨(putInt n ++ putText l).toArray⟩) ∧ Below V.heap.size V w' := fun V => putText_any _ l V (by omega) (by omega)
  have k3 : ∀ V, Calls Tryz.prog 36 #[.string ⟨(putInt n ++ putText l).toArray⟩, .string ⟨r.toArray⟩] V fun e w' => e = .returned (.string ⟨(putInt n ++ putText l ++ putText r).toArray⟩) ∧ Below V.heap.size V w' := fun V => putText_any _ r V (by rw [List.length_append]; omega) (by omega)
  have k4 : ∀ V, Calls Tryz.prog 37 #[.string ⟨(putInt n ++ putText l ++ putText r).toArray⟩, .int .i64 t] V fun e w' => e = .returned (.string ⟨(putInt n ++ putText l ++ putText r ++ putInt t).toArray⟩) ∧ Below V.heap.size V w' := fun V => putInt_any _ t V i2 (by simp only [List.length_append]; omega)
  have k5 : ∀ V, Calls Tryz.prog 37 #[.string ⟨(putInt n ++ putText l ++ putText r ++ putInt t).toArray⟩, .int .i64 seen] V fun e w' => e = .returned (.string ⟨(wtextF ⟨n, l, r, t⟩ seen).toArray⟩) ∧ Below V.heap.size V w' := fun V => putInt_any _ seen V hs (by simp only [List.length_append]; omega)
  generalize wtextF ⟨n, l, r, t⟩ seen = s5 at *
  generalize putInt n ++ putText l ++ putText r ++ putInt t = s4 at *
  generalize putInt n ++ putText l ++ putText r = s3 at *
  generalize putInt n ++ putText l = s2 at *
  generalize putInt n = s1 at *
  have K1 := Lib.hid k1
  have K2 := Lib.hid k2
  have K3 := Lib.hid k3
  have K4 := Lib.hid k4
  have K5 := Lib.hid k5
  have hb0 := (Below.refl w.heap.size w).alloc (Nat.le_refl _) (.cells #[.int .i64 n, .string ⟨l.toArray⟩, .string ⟨r.toArray⟩, .int .i64 t] 24)
  have hk := Bx.new w 24 [.int .i64 n, .string ⟨l.toArray⟩, .string ⟨r.toArray⟩, .int .i64 t]
  clear k1 k2 k3 k4 k5 l1 l2 l3 l4 i1 i2 i3 i4 hs
  go_enter Tryz.func15, Tryz.ntmps15
  go_wp2
  have h48 : ∃ W, W = w.alloc (.cells #[.int .i64 n, .string ⟨l.toArray⟩, .string ⟨r.toArray⟩, .int .i64 t] 24) := ⟨_, rfl⟩
  obtain ⟨W, hW⟩ := h48
  rw [← hW]
  simp only [← hW] at hk hb0
  obtain ⟨g, hg⟩ : ∃ g, g = w.heap.size := ⟨_, rfl⟩
  rw [← hg] at hk ⊢
  have c0 := fun d os => cell_regrown (hk.cell 0 rfl) d os
  have c1 := fun d os => cell_regrown (hk.cell 1 rfl) d os
  have c2 := fun d os => cell_regrown (hk.cell 2 rfl) d os
  clear hW hg
  refine wp_region_quiet_below (by kernel_rfl) (by kernel_rfl) ?_
  repeat (go_big_quiet_step (first
    | (go_at_call 37; with_reducible exact Calls.regrown_of (K1.out _))
    | (go_at_call 36; with_reducible exact Calls.regrown_of (K2.out _))
    | (go_at_call 36; with_reducible exact Calls.regrown_of (K3.out _))))
  refine wpQuiet_nil ?_
  rintro w9 ⟨p1, rfl⟩
  have hb9 := below_regrown W p1.d p1.os
  clear c0 c1 c2
  replace hk := hk.keep hb9
  generalize Sort.grow (redrawn W p1.d) p1.os = w10 at *
  have c3 := hk.cell 3 rfl
  go_wp2_with (first
    | (go_at_call 37; ((with_reducible refine (K4.out _).mono ?_)); rintro e w11 ⟨rfl, hb11⟩)
    | (go_at_call 37; ((with_reducible refine (K5.out _).mono ?_)); rintro e w12 ⟨rfl, hb12⟩))
  go_ret
  exact ⟨rfl, hb0.trans ((below_tr hb9 (below_tr hb11 hb12)).mono hb0.size)⟩
end Go.Proofs.YtipoljcgfcjlnaaGreatDoor
