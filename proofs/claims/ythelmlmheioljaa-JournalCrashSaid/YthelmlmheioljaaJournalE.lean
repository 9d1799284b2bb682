/- The journal: Start, Arm: the program's. -/
import Derived.Test.YthelmlmheioljaaJournalD
namespace Go.Proofs.Ythelmlmheioljaa
open Go.RowKit
theorem Dk.store {w : World} {g : Nat} {d : List UInt8} {f : Int} {b : Bool} (h : Dk w g d f b) (d' : List UInt8) (f' : Int) (b' : Bool) :
    Dk (((w.setCell ⟨g, 0, none⟩ (.string ⟨d'.toArray⟩)).setCell ⟨g, 1, none⟩ (.int .i64 f')).setCell ⟨g, 2, none⟩ (.bool b')) g d' f' b' := by
  have h' : w.heap[g]? = some (.cells #[.string ⟨d.toArray⟩, .int .i64 f, .bool b] 23 (0, 0)) := h
  simp [Dk, World.setCell, Array.getElem?_modify, h']
theorem Dk.ret {fn : Func} {t u : Tmp} (h : fn.results = #[.cell t 23, .tmp u]) (tmps : Array Value) {w : World} {g : Nat} {d : List UInt8} {f : Int} {b : Bool} (ht : tmps.getD t undef = .pointer (some ⟨g, 0, none⟩)) (hD : Dk w g d f b) :
    (results fn tmps).run Try.prog w = .ok (.tuple #[.agg #[.string ⟨d.toArray⟩, .int .i64 f, .bool b], tmps.getD u undef]) w := by
  have c0 := hD.c0
  have c1 := hD.c1
  have c2 := hD.c2
  have ht' : tmps[t]?.getD undef = .pointer (some ⟨g, 0, none⟩) := by simpa using ht
  simp [results, h, ht', go_sem, c0, c1, c2]
/-- what Start leaves -/
def startF (d : List UInt8) (f : Int) : List UInt8 := if checkF d f = 0 then d.take (endF (goods d)) else []
set_option maxRecDepth 100000 in
theorem jstart_walk (d : List UInt8) (f : Int) (b : Bool) (w : World) (hd : d.length ≤ 281474976710656) :
    Calls Try.prog 19 #[.agg #[.string ⟨d.toArray⟩, .int .i64 f, .bool b]] w fun e w' => e = .returned (.tuple #[.agg #[.string ⟨(startF d f).toArray⟩, .int .i64 0, .bool false], .int .i64 (checkF d f)]) ∧ Below w.heap.size w w' := by
  have hb0 := ((Below.refl w.heap.size w).alloc (Nat.le_refl _) (.cells #[.string ⟨d.toArray⟩, .int .i64 f, .bool b] 23)).alloc (by simp) (.cells #[.string ⟨#[]⟩, .int .i64 0, .bool false] 23)
  have hD := (Dk.new w d f b).alloc (.cells #[.string ⟨#[]⟩, .int .i64 0, .bool false] 23)
  have hE := Dk.new (w.alloc (.cells #[.string ⟨d.toArray⟩, .int .i64 f, .bool b] 23)) [] 0 false
  rw [World.size_alloc] at hE
  go_enter Try.func19, Try.ntmps19
  go_wp2_with (go_at_call 20; (with_reducible refine (jread_walk d f b _ hd).mono ?_))
  rintro e w1 ⟨a, cap, rfl, -, hb1⟩
  replace hD := hD.keep hb1
  replace hE := hE.keep hb1
  replace hb0 := hb0.trans (hb1.mono (by simp; omega))
  have c0 := hD.c0
  have e0 := hE.c0
  have e1 := hE.c1
  have e2 := hE.c2
  have f0 := hE.free 0
  have f1 := hE.free 1
  have f2 := hE.free 2
  clear hb1 hD
  rcases checkF_cases d f with ⟨hc, hl, h1, h2⟩ | hc
  · have hle := goods_end d
    have hS : startF d f = d.take (endF (readF d f)) := by rw [startF, if_pos hc, readF_ok hc]
    rw [← readF_ok hc] at hle
    have HS := Lib.hid hS
    have HC := Lib.hid hc
    rw [hc]
    clear hc hS
    generalize endF (readF d f) = n at *
    have hni : (n : Int) ≤ (d.length : Int) := by omega
    go_wp2
    have hF := hE.store (d.take n) 0 false
    refine bodyPost_ret (Dk.ret (t := 2) (u := 3) rfl _ rfl hF) rfl ⟨by rw [HC.out, HS.out]; rfl, ?_⟩
    exact ((hb0.setCell (p := ⟨w.heap.size + 1, 0, none⟩) (by simp) _).setCell (p := ⟨w.heap.size + 1, 1, none⟩) (by simp) _).setCell (p := ⟨w.heap.size + 1, 2, none⟩) (by simp) _
  · have hS : startF d f = [] := by rw [startF, if_neg (by omega)]
    have HS := Lib.hid hS
    have HC := Lib.hid hc
    have HR := Lib.hid (readF_no hc)
    rw [hc]
    clear hc hS
    go_wp2
    have hF := hE.store [] 0 false
    refine bodyPost_ret (Dk.ret (t := 2) (u := 3) rfl _ rfl hF) rfl ⟨by rw [HC.out, HS.out]; rfl, ?_⟩
    exact ((hb0.setCell (p := ⟨w.heap.size + 1, 0, none⟩) (by simp) _).setCell (p := ⟨w.heap.size + 1, 1, none⟩) (by simp) _).setCell (p := ⟨w.heap.size + 1, 2, none⟩) (by simp) _
end Go.Proofs.Ythelmlmheioljaa
