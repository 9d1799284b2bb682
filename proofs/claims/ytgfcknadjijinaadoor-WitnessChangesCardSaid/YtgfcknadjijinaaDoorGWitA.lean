/- Stamps of a witness: what is signed. -/
import Derived.Test.YtgfcknadjijinaaDoorGHandG
import Derived.Test.YtgfcknadjijinaaDoorGCustodyN
namespace Go.Proofs.YtgfcknadjijinaaDoor
open Go.RowKit
structure Stm where
  head : Head
  seen : Int
  key : Int
  r : Int
  s : Int
abbrev Head.val (h : Head) : Value := .agg #[.int .i64 h.count, .string ⟨h.last.toArray⟩, .string ⟨h.root.toArray⟩, .int .i64 h.time]
abbrev Head.cells (h : Head) : List Value := [.int .i64 h.count, .string ⟨h.last.toArray⟩, .string ⟨h.root.toArray⟩, .int .i64 h.time]
abbrev Stm.val (x : Stm) : Value := .agg #[.int .i64 x.head.count, .string ⟨x.head.last.toArray⟩, .string ⟨x.head.root.toArray⟩, .int .i64 x.head.time, .int .i64 x.seen, .int .i64 x.key, .int .i64 x.r, .int .i64 x.s]
abbrev Stm.cells (x : Stm) : List Value := [.int .i64 x.head.count, .string ⟨x.head.last.toArray⟩, .string ⟨x.head.root.toArray⟩, .int .i64 x.head.time, .int .i64 x.seen, .int .i64 x.key, .int .i64 x.r, .int .i64 x.s]
/-- numbers of 64 bits, texts that are not long -/
structure Head.In (h : Head) : Prop where
  count : I64 h.count
  time : I64 h.time
  last : h.last.length ≤ 1000
  root : h.root.length ≤ 1000
/-- what a witness signs -/
def wtextF (h : Head) (seen : Int) : List UInt8 := putInt h.count ++ putText h.last ++ putText h.root ++ putInt h.time ++ putInt seen
theorem putText_len (s : List UInt8) (h : s.length ≤ 1000) : (putText s).length ≤ 1010 := by
  have := putInt_ten (I64.nat (show s.length ≤ 281474976710656 by omega))
  simp only [putText, List.length_append]; omega
theorem wtextF_len {h : Head} (hI : h.In) {seen : Int} (hs : I64 seen) : (wtextF h seen).length ≤ 3000 := by
  have a := putInt_ten hI.count
  have b := putInt_ten hI.time
  have c := putInt_ten hs
  have d := putText_len _ hI.last
  have e := putText_len _ hI.root
  simp only [wtextF, List.length_append]; omega
set_option maxRecDepth 100000 in
set_option maxHeartbeats 1000000 in
theorem wtext_walk (h : Head) (seen : Int) (w : World) (hI : h.In) (hs : I64 seen) :
    Calls Tryd.prog 23 #[.agg #[.int .i64 h.count, .string ⟨h.last.toArray⟩, .string ⟨h.root.toArray⟩, .int .i64 h.time], .int .i64 seen] w fun e w' => e = .returned (.string ⟨(wtextF h seen).toArray⟩) ∧ Below w.heap.size w w' := by
  obtain ⟨n, l, r, t⟩ := h
  obtain ⟨i1, i2, i3, i4⟩ := hI
  dsimp only at i1 i2 i3 i4 ⊢
  have l1 := putInt_ten i1
  have l2 := putText_len _ i3
  have l3 := putText_len _ i4
  have l4 := putInt_ten i2
  have k1 : ∀ V, Calls Tryd.prog 42 #[.string ⟨#[]⟩, .int .i64 n] V fun e w' => e = .returned (.string ⟨(putInt n).toArray⟩) ∧ Below V.heap.size V w' := fun V => putInt_nil n V i1
  have k2 : ∀ V, Calls Tryd.prog 41 #[.string ⟨(putInt n).toArray⟩, .string ⟨l.toArray⟩] V fun e w' => e = .returned (.string ⟨(putInt n ++ putText l).toArray⟩) ∧ Below V.heap.size V w' := fun V => putText_any _ l V (by omega) (by omega)
  have k3 : ∀ V, Calls Tryd.prog 41 #[.string ⟨(putInt n ++ putText l).toArray⟩, .string ⟨r.toArray⟩] V fun e w' => e = .returned (.string ⟨(putInt n ++ putText l ++ putText r).toArray⟩) ∧ Below V.heap.size V w' := fun V => putText_any _ r V (by rw [List.length_append]; omega) (by omega)
  have k4 : ∀ V, Calls Tryd.prog 42 #[.string ⟨(putInt n ++ putText l ++ putText r).toArray⟩, .int .i64 t] V fun e w' => e = .returned (.string ⟨(putInt n ++ putText l ++ putText r ++ putInt t).toArray⟩) ∧ Below V.heap.size V w' := fun V => putInt_any _ t V i2 (by simp only [List.length_append]; omega)
  have k5 : ∀ V, Calls Tryd.prog 42 #[.string ⟨(putInt n ++ putText l ++ putText r ++ putInt t).toArray⟩, .int .i64 seen] V fun e w' => e = .returned (.string ⟨(wtextF ⟨n, l, r, t⟩ seen).toArray⟩) ∧ Below V.heap.size V w' := fun V => putInt_any _ seen V hs (by simp only [List.length_append]; omega)
  generalize wtextF ⟨n, l, r, t⟩ seen = s5 at *
  generalize putInt n ++ putText l ++ putText r ++ putInt t = s4 at *
  generalize putInt n ++ putText l ++ putText r = s3 at *
  generalize putInt n ++ putText l = s2 at *
  generalize putInt n = s1 at *
  have K1 := Lib.hid k1
  have K2 := Lib.hid k2
  have K3 := Lib.hid k3
  have K4 := Lib.hid k4
  have K5 := Lib.hid k5
  have hb0 := (Below.refl w.heap.size w).alloc (Nat.le_refl _) (.cells #[.int .i64 n, .string ⟨l.toArray⟩, .string ⟨r.toArray⟩, .int .i64 t] 29)
  have hk := Bx.new w 29 [.int .i64 n, .string ⟨l.toArray⟩, .string ⟨r.toArray⟩, .int .i64 t]
  clear k1 k2 k3 k4 k5 l1 l2 l3 l4 i1 i2 i3 i4 hs
  go_enter Tryd.func23, Tryd.ntmps23
  go_wp2
  have h48 : ∃ W, W = w.alloc (.cells #[.int .i64 n, .string ⟨l.toArray⟩, .string ⟨r.toArray⟩, .int .i64 t] 29) := ⟨_, rfl⟩
  obtain ⟨W, hW⟩ := h48
  rw [← hW]
  simp only [← hW] at hk hb0
  obtain ⟨g, hg⟩ : ∃ g, g = w.heap.size := ⟨_, rfl⟩
  rw [← hg] at hk ⊢
  have c0 := fun d os => cell_regrown (hk.cell 0 rfl) d os
  have c1 := fun d os => cell_regrown (hk.cell 1 rfl) d os
  have c2 := fun d os => cell_regrown (hk.cell 2 rfl) d os
  clear hW hg
  refine wp_region_quiet_below (by kernel_rfl) (by kernel_rfl) ?_
  repeat (go_big_quiet_step (first
    | (go_at_call 42; with_reducible exact Calls.regrown_of (K1.out _))
    | (go_at_call 41; with_reducible exact Calls.regrown_of (K2.out _))
    | (go_at_call 41; with_reducible exact Calls.regrown_of (K3.out _))))
  refine wpQuiet_nil ?_
  rintro w9 ⟨p1, rfl⟩
  have hb9 := below_regrown W p1.d p1.os
  clear c0 c1 c2
  replace hk := hk.keep hb9
  generalize Sort.grow (redrawn W p1.d) p1.os = w10 at *
  have c3 := hk.cell 3 rfl
  go_wp2_with (first
    | (go_at_call 42; ((with_reducible refine (K4.out _).mono ?_)); rintro e w11 ⟨rfl, hb11⟩)
    | (go_at_call 42; ((with_reducible refine (K5.out _).mono ?_)); rintro e w12 ⟨rfl, hb12⟩))
  go_ret
  exact ⟨rfl, hb0.trans ((below_tr hb9 (below_tr hb11 hb12)).mono hb0.size)⟩
end Go.Proofs.YtgfcknadjijinaaDoor
