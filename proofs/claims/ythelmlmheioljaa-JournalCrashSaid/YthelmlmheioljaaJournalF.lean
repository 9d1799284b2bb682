/- The journal: Arm, Append: the program's. -/
import Derived.Test.YthelmlmheioljaaJournalE
namespace Go.Proofs.Ythelmlmheioljaa
open Go.RowKit
/-- a disk and an error code -/
abbrev DR := List UInt8 × Int × Bool × Int
def dres (x : DR) : Value := .tuple #[.agg #[.string ⟨x.1.toArray⟩, .int .i64 x.2.1, .bool x.2.2.1], .int .i64 x.2.2.2]
def armF (d : List UInt8) (f : Int) (b : Bool) (n : Int) : DR :=
  if checkF d f = 0 then (if b = true then ([], 0, false, 54) else if 0 ≤ n ∧ n ≤ 65536 then (d, n, false, 0) else ([], 0, false, 2)) else ([], 0, false, 53)
theorem Dk.set1 {w : World} {g : Nat} {d : List UInt8} {f : Int} {b : Bool} (h : Dk w g d f b) (f' : Int) : Dk (w.setCell ⟨g, 1, none⟩ (.int .i64 f')) g d f' b := by
  have h' : w.heap[g]? = some (.cells #[.string ⟨d.toArray⟩, .int .i64 f, .bool b] 23 (0, 0)) := h
  simp [Dk, World.setCell, Array.getElem?_modify, h']
theorem Dk.other {w : World} {g g' : Nat} {d : List UInt8} {f : Int} {b : Bool} (h : Dk w g d f b) (hne : g ≠ g') (o : Nat) (v : Value) : Dk (w.setCell ⟨g', o, none⟩ v) g d f b :=
  (heap_setCell_other w ⟨g', o, none⟩ g v hne).trans h
theorem below3 {B g : Nat} {w w1 : World} (h : Below B w w1) (hg : B ≤ g) (x y z : Value) : Below B w (((w1.setCell ⟨g, 0, none⟩ x).setCell ⟨g, 1, none⟩ y).setCell ⟨g, 2, none⟩ z) :=
  ((h.setCell (p := ⟨g, 0, none⟩) hg _).setCell (p := ⟨g, 1, none⟩) hg _).setCell (p := ⟨g, 2, none⟩) hg _
set_option maxRecDepth 100000 in
theorem jarm_walk (d : List UInt8) (f : Int) (b : Bool) (n : Int) (w : World) (hd : d.length ≤ 281474976710656) :
    Calls Try.prog 17 #[.agg #[.string ⟨d.toArray⟩, .int .i64 f, .bool b], .int .i64 n] w fun e w' => e = .returned (dres (armF d f b n)) ∧ Below w.heap.size w w' := by
  have hb0 := ((Below.refl w.heap.size w).alloc (Nat.le_refl _) (.cells #[.string ⟨d.toArray⟩, .int .i64 f, .bool b] 23)).alloc (by simp) (.cells #[.string ⟨#[]⟩, .int .i64 0, .bool false] 23)
  have hD := (Dk.new w d f b).alloc (.cells #[.string ⟨#[]⟩, .int .i64 0, .bool false] 23)
  have hE := Dk.new (w.alloc (.cells #[.string ⟨d.toArray⟩, .int .i64 f, .bool b] 23)) [] 0 false
  rw [World.size_alloc] at hE
  go_enter Try.func17, Try.ntmps17
  go_wp2_with (go_at_call 28; (with_reducible refine (jcheck_walk d f b _ hd).mono ?_))
  rintro e w1 ⟨rfl, hb1⟩
  replace hD := hD.keep hb1
  replace hE := hE.keep hb1
  replace hb0 := hb0.trans (hb1.mono (by simp; omega))
  have c0 := hD.c0
  have c1 := hD.c1
  have c2 := hD.c2
  have g1 := hD.free 1
  have e0 := hE.c0
  have e1 := hE.c1
  have e2 := hE.c2
  have f0 := hE.free 0
  have f1 := hE.free 1
  have f2 := hE.free 2
  clear hb1
  rcases checkF_cases d f with ⟨hc, -, -, -⟩ | hc
  · cases b with
    | true =>
      have hA : armF d f true n = ([], 0, false, 54) := by rw [armF, if_pos hc, if_pos rfl]
      have HA := Lib.hid hA
      rw [hc]
      clear hc hA
      go_wp2
      exact bodyPost_ret (Dk.ret (t := 4) (u := 5) rfl _ rfl (hE.store [] 0 false)) rfl ⟨by rw [HA.out]; rfl, below3 hb0 (by omega) _ _ _⟩
    | false =>
      obtain ⟨c, hcc⟩ : ∃ c, c = (decide ((0 : Int) ≤ n) && decide (n ≤ 65536)) := ⟨_, rfl⟩
      have HCC := Lib.hid hcc
      rw [hc]
      go_wp2_with (go_at_call 32; (with_reducible refine (in_walk _ _ _ _).mono ?_))
      rintro e w2 ⟨rfl, rfl⟩
      rw [← HCC.out]
      cases c with
      | false =>
        have hA : armF d f false n = ([], 0, false, 2) := by
          rw [armF, if_pos hc, if_neg (by simp), if_neg]
          intro ⟨x, y⟩; simp [x, y] at hcc
        have HA := Lib.hid hA
        clear hc hA hcc
        go_wp2
        exact bodyPost_ret (Dk.ret (t := 4) (u := 5) rfl _ rfl (hE.store [] 0 false)) rfl ⟨by rw [HA.out]; rfl, below3 hb0 (by omega) _ _ _⟩
      | true =>
        have hn : 0 ≤ n ∧ n ≤ 65536 := by simpa using hcc.symm
        have hA : armF d f false n = (d, n, false, 0) := by rw [armF, if_pos hc, if_neg (by simp), if_pos hn]
        have HA := Lib.hid hA
        clear hc hA hcc
        have hD2 := hD.set1 n
        have hE2 := hE.other (g' := w.heap.size) (by omega) 1 (.int .i64 n)
        have c0' := hD2.c0
        have c1' := hD2.c1
        have c2' := hD2.c2
        have e0' := hE2.c0
        have e1' := hE2.c1
        have e2' := hE2.c2
        have f0' := hE2.free 0
        have f1' := hE2.free 1
        have f2' := hE2.free 2
        go_wp2
        exact bodyPost_ret (Dk.ret (t := 4) (u := 5) rfl _ rfl (hE2.store d n false)) rfl ⟨by rw [HA.out]; rfl, below3 (hb0.setCell (p := ⟨w.heap.size, 1, none⟩) (Nat.le_refl _) _) (by omega) _ _ _⟩
  · have hA : armF d f b n = ([], 0, false, 53) := by rw [armF, if_neg (by omega)]
    have HA := Lib.hid hA
    rw [hc]
    clear hc hA
    go_wp2
    exact bodyPost_ret (Dk.ret (t := 4) (u := 5) rfl _ rfl (hE.store [] 0 false)) rfl ⟨by rw [HA.out]; rfl, below3 hb0 (by omega) _ _ _⟩
end Go.Proofs.Ythelmlmheioljaa
