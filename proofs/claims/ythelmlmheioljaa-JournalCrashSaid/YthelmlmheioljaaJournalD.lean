/- The journal: Read, Start, Arm: the program's. -/
import Derived.Test.YthelmlmheioljaaJournalG
namespace Go.Proofs.Ythelmlmheioljaa
open Go.RowKit
/-- a disk's cells -/
def dcells (d : List UInt8) (f : Int) (b : Bool) : Obj := .cells #[.string ⟨d.toArray⟩, .int .i64 f, .bool b] 23
/-- block g is a disk -/
def Dk (w : World) (g : Nat) (d : List UInt8) (f : Int) (b : Bool) : Prop := w.heap[g]? = some (.cells #[.string ⟨d.toArray⟩, .int .i64 f, .bool b] 23 (0, 0))
theorem Dk.lt {w : World} {g : Nat} {d : List UInt8} {f : Int} {b : Bool} (h : Dk w g d f b) : g < w.heap.size := (Array.getElem?_eq_some_iff.1 h).1
theorem Dk.c0 {w : World} {g : Nat} {d : List UInt8} {f : Int} {b : Bool} (h : Dk w g d f b) : w.cell? ⟨g, 0, none⟩ = some (.string ⟨d.toArray⟩) := by rw [Lib.cell_of_heap h]; rfl
theorem Dk.c1 {w : World} {g : Nat} {d : List UInt8} {f : Int} {b : Bool} (h : Dk w g d f b) : w.cell? ⟨g, 1, none⟩ = some (.int .i64 f) := by rw [Lib.cell_of_heap h]; rfl
theorem Dk.c2 {w : World} {g : Nat} {d : List UInt8} {f : Int} {b : Bool} (h : Dk w g d f b) : w.cell? ⟨g, 2, none⟩ = some (.bool b) := by rw [Lib.cell_of_heap h]; rfl
theorem Dk.free {w : World} {g : Nat} {d : List UInt8} {f : Int} {b : Bool} (h : Dk w g d f b) (j : Nat) : w.frozen? ⟨g, j, none⟩ = false := Lib.frozen_of_heap h j
theorem Dk.keep {w w' : World} {g : Nat} {d : List UInt8} {f : Int} {b : Bool} (h : Dk w g d f b) (hb : Below w.heap.size w w') : Dk w' g d f b := (hb.block g h.lt).trans h
theorem Dk.new (w : World) (d : List UInt8) (f : Int) (b : Bool) : Dk (w.alloc (.cells #[.string ⟨d.toArray⟩, .int .i64 f, .bool b] 23)) w.heap.size d f b := World.alloc_heap_new w _
theorem Dk.alloc {w : World} {g : Nat} {d : List UInt8} {f : Int} {b : Bool} (h : Dk w g d f b) (o : Obj) : Dk (w.alloc o) g d f b := (Below.heap_alloc w o g h.lt).trans h
/-- the records that Read gives -/
def readF (d : List UInt8) (f : Int) : List (List UInt8) := if checkF d f = 0 then goods d else []
theorem readF_ok {d : List UInt8} {f : Int} (h : checkF d f = 0) : readF d f = goods d := by rw [readF, if_pos h]
theorem readF_no {d : List UInt8} {f : Int} (h : checkF d f = 53) : readF d f = [] := by rw [readF, if_neg (by omega)]
set_option maxRecDepth 100000 in
theorem jread_fresh (d : List UInt8) (f : Int) (b : Bool) (w : World) (hd : d.length ≤ 281474976710656) :
    Calls Try.prog 20 #[.agg #[.string ⟨d.toArray⟩, .int .i64 f, .bool b]] w fun e w' => ∃ a cap, e = .returned (.tuple #[.slice a (readF d f).length cap, .int .i64 (endF (readF d f) : Int), .int .i64 (checkF d f)]) ∧ Rd w' a (strs (readF d f)) ∧ Below w.heap.size w w' ∧ ∀ g off, a = some ⟨g, off, none⟩ → w.heap.size ≤ g := by
  have hb0 := (Below.refl w.heap.size w).alloc (Nat.le_refl _) (.cells #[.string ⟨d.toArray⟩, .int .i64 f, .bool b] 23)
  have hD := Dk.new w d f b
  go_enter Try.func20, Try.ntmps20
  go_wp2_with (go_at_call 28; (with_reducible refine (jcheck_walk d f b _ hd).mono ?_))
  rintro e w1 ⟨rfl, hb1⟩
  replace hD := hD.keep hb1
  replace hb0 := hb0.trans (hb1.mono (by simp))
  have c0 := hD.c0
  clear hb1 hD
  rcases checkF_cases d f with ⟨hc, hl, h1, h2⟩ | hc
  · have HR := Lib.hid (readF_ok hc)
    have HC := Lib.hid hc
    rw [hc]
    clear hc
    go_wp2_with (go_at_call 33; (with_reducible refine (good_fresh d _ hl).mono ?_))
    rintro e w2 ⟨a, cap, rfl, hR, hb2, hfr⟩
    have hsz1 := hb0.size
    generalize hg : goods d = gs at *
    generalize hen : endF gs = en at *
    generalize hln : gs.length = ln at *
    have HG := Lib.hid hg
    have HE := Lib.hid hen
    have HL := Lib.hid hln
    clear hg hen hln
    go_wp2
    go_ret3
    exact ⟨a, cap, by rw [HC.out, HR.out, HL.out, HE.out]; rfl, by rw [HR.out]; exact hR, hb0.trans (hb2.mono hb0.size), fun g off he => Nat.le_trans hsz1 (hfr g off he)⟩
  · have HR := Lib.hid (readF_no hc)
    have HC := Lib.hid hc
    rw [hc]
    clear hc
    go_wp2
    go_ret3
    exact ⟨none, 0, by rw [HC.out, HR.out]; rfl, by rw [HR.out]; exact Rd.nil _ _, hb0, fun _ _ he => by cases he⟩
theorem jread_walk (d : List UInt8) (f : Int) (b : Bool) (w : World) (hd : d.length ≤ 281474976710656) :
    Calls Try.prog 20 #[.agg #[.string ⟨d.toArray⟩, .int .i64 f, .bool b]] w fun e w' => ∃ a cap, e = .returned (.tuple #[.slice a (readF d f).length cap, .int .i64 (endF (readF d f) : Int), .int .i64 (checkF d f)]) ∧ Rd w' a (strs (readF d f)) ∧ Below w.heap.size w w' :=
  (jread_fresh d f b w hd).mono fun _ _ ⟨a, cap, h1, h2, h3, _⟩ => ⟨a, cap, h1, h2, h3⟩
end Go.Proofs.Ythelmlmheioljaa
