/- A block of its own whose cells are known (a struct's box). No program in sight. -/
import Derived.Test.YtcnffdgmdeflmaaGreatDoorBase
import Derived.BigRegion
import Derived.Deep.RegionLaw
namespace Go.Proofs.YtcnffdgmdeflmaaGreatDoor
open Go.RowKit
/-- block g holds these cells -/
def Bx (w : World) (g : Nat) (t : TypeId) (cs : List Value) : Prop := w.heap[g]? = some (.cells cs.toArray t (0, 0))
theorem Bx.new (w : World) (t : TypeId) (cs : List Value) : Bx (w.alloc (.cells cs.toArray t)) w.heap.size t cs := heap_alloc_new w _
theorem Bx.lt {w : World} {g : Nat} {t : TypeId} {cs : List Value} (h : Bx w g t cs) : g < w.heap.size := (Array.getElem?_eq_some_iff.1 h).1
theorem Bx.keep {w w' : World} {g : Nat} {t : TypeId} {cs : List Value} (h : Bx w g t cs) (hb : Below w.heap.size w w') : Bx w' g t cs := (hb.block g h.lt).trans h
theorem Bx.drew {w : World} {g : Nat} {t : TypeId} {cs : List Value} (h : Bx w g t cs) : Bx w.drew g t cs := h
theorem Bx.alloc {w : World} {g : Nat} {t : TypeId} {cs : List Value} (h : Bx w g t cs) (o : Obj) : Bx (w.alloc o) g t cs := h.keep ((Below.refl _ _).alloc (Nat.le_refl _) _)
theorem Bx.grown {w w' : World} {g : Nat} {t : TypeId} {cs : List Value} {row : Option Nat} (h : Bx w g t cs) (hb : w.grownBy w' row) (hne : some g ≠ row) : Bx w' g t cs := (hb.block g h.lt hne).trans h
theorem Bx.other {w : World} {g : Nat} {t : TypeId} {cs : List Value} (h : Bx w g t cs) {b : Nat} (hne : g ≠ b) (o : Nat) (v : Value) : Bx (w.setCell ⟨b, o, none⟩ v) g t cs := (heap_setCell_other w ⟨b, o, none⟩ g v hne).trans h
theorem Bx.cell {w : World} {g : Nat} {t : TypeId} {cs : List Value} (h : Bx w g t cs) (j : Nat) {v : Value} (hv : cs[j]? = some v) : w.cell? ⟨g, j, none⟩ = some v := by
  rw [Lib.cell_of_heap h]; simpa using hv
theorem Bx.free {w : World} {g : Nat} {t : TypeId} {cs : List Value} (h : Bx w g t cs) (j : Nat) : w.frozen? ⟨g, j, none⟩ = false := Lib.frozen_of_heap h j
theorem Bx.set {w : World} {g : Nat} {t : TypeId} {cs : List Value} (h : Bx w g t cs) (j : Nat) (v : Value) : Bx (w.setCell ⟨g, j, none⟩ v) g t (cs.set j v) := by
  have h' : w.heap[g]? = some (.cells cs.toArray t (0, 0)) := h
  simp [Bx, World.setCell, Array.getElem?_modify, h', Array.setIfInBounds]
  intro hj
  exact (List.set_eq_of_length_le hj).symm
end Go.Proofs.YtcnffdgmdeflmaaGreatDoor
/- 'append' onto a slice of the call's own: as in Base, and in which block the new slice lies. No program in sight. -/
namespace Go.Proofs.YtcnffdgmdeflmaaGreatDoor
open Go.RowKit
/-- 'append' onto a slice of the call's own, of whatever make: a run of it. -/
theorem run_app_at {P : Program} (w : World) (base : Nat) (t u ty e : TypeId) {z : Value} {size bytes : Nat} (hE : ElemOf P t e z size bytes)
    (a : Option Addr) (n cap : Nat) (xs : List Value) (hown : Ow w base size a n cap xs)
    (src : Value) (m : Nat) (news : List Value) (hS : Src P w u src size m news)
    (hbytes : (n + m) * bytes ≤ 140737488355328) (hbase : base ≤ w.heap.size) :
    ∃ a' cap' w', (Builtin.append_ #[t, u] ty #[.slice a n cap, src]).run P w = .ok (.slice a' (n + m) cap') w' ∧ Ow w' base size a' (n + m) cap' (xs ++ news) ∧ w.grownBy w' (rowOf a) ∧ (rowOf a' = rowOf a ∨ rowOf a' = some w.heap.size) := by
  obtain ⟨i, hi, hz, hsize, hby⟩ := info_parts hE.i
  have h63 : n + m ≤ maxLen := by
    have h := Nat.le_mul_of_pos_right (n + m) hE.b
    simp only [maxLen]; omega
  have hl := hS.l
  have hlen : (xs ++ news).length = (n + m) * size := by rw [List.length_append, hown.1, hl, Nat.add_mul]
  obtain ⟨hxl, hnc, hcm, hown⟩ := hown
  have hS1 := hS.len
  have hS2 := hS.cells
  have hS3 := hS.cells'
  by_cases hroom : n + m ≤ cap
  · rcases hown with ⟨rfl, rfl⟩ | ⟨g, off, rfl, hbg, hgs, hx, hf⟩
    · obtain rfl : n = 0 := by omega
      obtain rfl : m = 0 := by omega
      have hn : news = [] := List.eq_nil_of_length_eq_zero (by simpa using hl)
      have hx : xs = [] := List.eq_nil_of_length_eq_zero (by simpa using hxl)
      subst hn hx
      refine ⟨none, 0, w, ?_, Ow.nil _ _ _, World.grownBy.refl _ _, .inl rfl⟩
      rcases hS.ty with ⟨eu, hdu⟩ | hdu <;> simp [Builtin.append_, run_underlying hE.u, run_underlying hdu, sizeOf, typeInfo, hi, hsize, hS1, hS2]
    · have hin : ∀ j, j < news.length → off + n * size + j < off + cap * size := fun j hj => by
        have h2 := Nat.mul_le_mul_right size hroom
        rw [Nat.add_mul] at h2
        omega
      have hcell : ∀ j, j < news.length → (w.cell? ⟨g, off + n * size + j, none⟩).isSome = true ∧ w.frozen? ⟨g, off + n * size + j, none⟩ = false := fun j hj => by
        have := hf (n * size + j) (by have := hin j hj; omega)
        rwa [← Nat.add_assoc] at this
      have hst := run_storeCells_cells (P := P) g (off + n * size) news 0 w (by simpa using fun j hj => (hcell j hj).1) (by simpa using fun j hj => (hcell j hj).2) hS.one
      simp only [Nat.add_zero] at hst
      refine ⟨some ⟨g, off, none⟩, cap, w.setCells g (off + n * size) news, ?_, ⟨hlen, hroom, hcm, .inr ⟨g, off, rfl, hbg, by simpa using Nat.lt_of_lt_of_le hgs (grownBy_setCells w g (off + n * size) news).size, ?_, ?_⟩⟩, grownBy_setCells w g _ news, .inl rfl⟩
      · rcases hS.ty with ⟨eu, hdu⟩ | hdu <;> simp [Builtin.append_, run_underlying hE.u, run_underlying hdu, sizeOf, typeInfo, hi, hsize, hroom, hS1, hS2, Addr.add_lit, hst]
      · intro j u hj
        by_cases hjx : j < xs.length
        · rw [List.getElem?_append_left hjx] at hj
          rw [World.cell?_setCells_out g news _ _ _ (fun _ _ => Or.inl (by simp only; omega))]
          exact hx j u hj
        · rw [List.getElem?_append_right (by omega)] at hj
          have hjn := (List.getElem?_eq_some_iff.1 hj).1
          have := World.cell?_setCells_in g news (off + n * size) w (fun k hk => (hcell k hk).1) (j - xs.length) hjn
          rw [show off + n * size + (j - xs.length) = off + j by omega] at this
          rw [this, ← (List.getElem?_eq_some_iff.1 hj).2]
      · intro j hj
        refine ⟨?_, by rw [World.frozen?_setCells]; exact (hf j hj).2⟩
        by_cases hin2 : off + n * size ≤ off + j ∧ off + j < off + n * size + news.length
        · have := World.cell?_setCells_in g news (off + n * size) w (fun k hk => (hcell k hk).1) (off + j - (off + n * size)) (by omega)
          rw [show off + n * size + (off + j - (off + n * size)) = off + j by omega] at this
          rw [this]; rfl
        · rw [World.cell?_setCells_out g news _ _ _ (fun _ _ => by simp only; omega)]
          exact (hf j hj).1
  · have holds : (Builtin.firstCells size n (.slice a n cap)).run P w.drew = .ok xs.toArray w.drew := by
      rcases hown with ⟨rfl, rfl⟩ | ⟨g, off, rfl, hbg, hgs, hx, hf⟩
      · obtain rfl : n = 0 := by omega
        have hx : xs = [] := List.eq_nil_of_length_eq_zero (by simpa using hxl)
        subst hx
        simp [Builtin.firstCells]
      · exact run_firstCells_some (P := P) w.drew size n ⟨g, off, none⟩ n cap xs hxl (fun j u hj => by rw [Addr.add_lit]; exact hx j u hj)
    have hsmall : ¬ (9223372036854775807 < ((n : Int) + (m : Int))) := by simp only [maxLen] at h63; omega
    have h48' : ¬ (281474976710656 < Builtin.nextslicecap (n + m) cap * i.bytes) := by
      have := growslice_fits (bytes := bytes) (show cap < n + m by omega) hbytes
      rw [hby]; omega
    have hge := grownCap_ge w (n + m) cap e
    refine ⟨some ⟨w.heap.size, 0, none⟩, grownCap w (n + m) cap e, w.drew.alloc (.cells (xs.toArray ++ news.toArray ++ Builtin.zeroCells z.cells (grownCap w (n + m) cap e - (n + m))) e), ?_, ?_, ⟨rfl, rfl, rfl, by simp, fun k hk _ => Below.heap_alloc w.drew _ k hk⟩, .inr rfl⟩
    · rcases hS.ty with ⟨eu, hdu⟩ | hdu <;> simp [Builtin.append_, run_underlying hE.u, run_underlying hdu, sizeOf, typeInfo, zeroValue, hi, hz, hroom, hsmall, h48', Question.forced, hS1, holds, newRow, grownCap, hsize, hS3]
      all_goals (congr 2; apply Array.ext'; simp [List.append_assoc])
    · have hsz : (xs.toArray ++ news.toArray ++ Builtin.zeroCells z.cells (grownCap w (n + m) cap e - (n + m))).size = grownCap w (n + m) cap e * size := by
        simp only [Array.size_append, List.size_toArray, size_zeroCells, hE.z, hxl, hl, ← Nat.add_mul]
        congr 1
        omega
      have hnew := heap_alloc_new w.drew (.cells (xs.toArray ++ news.toArray ++ Builtin.zeroCells z.cells (grownCap w (n + m) cap e - (n + m))) e)
      rw [World.size_drew] at hnew
      refine ⟨hlen, hge, grownCap_le_maxLen w (n + m) cap e h63, .inr ⟨w.heap.size, 0, rfl, hbase, by simp, fun j u hj => ?_, fun j hj => ?_⟩⟩
      · rw [Nat.zero_add, cell_of_row _ _ j _ e (0, 0) hnew]
        have hjl := (List.getElem?_eq_some_iff.1 hj).1
        rw [Array.getElem?_append_left (by simpa using hjl)]
        simpa using hj
      · rw [Nat.zero_add, cell_of_row _ _ j _ e (0, 0) hnew]
        exact ⟨by rw [Array.getElem?_eq_getElem (by rw [hsz]; exact hj)]; rfl, frozen_of_row _ _ _ _ e hnew⟩

section
variable {P : Program} {w w0 : World} {B : Nat} {ops : Array Oper} {rest : List Oper} {o : Oper} {a : Act} {Q : Exit → Act → World → Prop}

/-- 'append(s, x...)' at the walk: s the call's own, x whatever is read. -/
theorem wpList_apps_at (hgd : o.guard = none) (s x : Operand) (t u : TypeId)
    (ho : o.op = .call { callee := .builtin .append, args := #[s, x], argTypes := #[t, u] }) {e : TypeId} {z : Value} {size bytes : Nat} (hE : ElemOf P t e z size bytes)
    {base : Nat} {sa : Option Addr} {n cap : Nat} {xs : List Value} (hs : a.eval s = .slice sa n cap) (hown : Ow w base size sa n cap xs) (hb : Below B w0 w) (hB : B ≤ base) (hbase : base ≤ w.heap.size)
    {src : Value} {m : Nat} {news : List Value} (hx : a.eval x = src) (hS : Src P w u src size m news) (hbytes : (n + m) * bytes ≤ 140737488355328)
    (hK : ∀ a' cap' w1, Ow w1 base size a' (n + m) cap' (xs ++ news) → Below B w0 w1 → w.grownBy w1 (rowOf sa) → (rowOf a' = rowOf sa ∨ rowOf a' = some w.heap.size) → wpList P ops Q rest (a.put o.dst (.slice a' (n + m) cap')) w1) : wpList P ops Q (o :: rest) a w := by
  refine wpList_plain hgd fun K hK' => ?_
  obtain ⟨a', cap', w', hr, h2, h3, h4⟩ := run_app_at (P := P) w base t u o.type e hE sa n cap xs hown src m news hS hbytes hbase
  unfold Oper.wp execOp
  simp only [ho, resolve, invoke, builtin, Sem.run_bind, Sem.run_pure, Result.andThen_ok, List.map_toArray, List.map_cons, List.map_nil, hs, hx, hr]
  exact hK' _ _ (hK a' cap' w' h2 (hb.grown h3 (by omega) (fun k hk => by have := (hown.row k hk).1; omega)) h3 h4)

/-- 'append(s, x)' of one element: x lies in a new block. -/
theorem wpList_app1_at (hgd : o.guard = none) (s x : Operand) (t : TypeId)
    (ho : o.op = .call { callee := .builtin .append, args := #[s, x], argTypes := #[t, t] }) {e : TypeId} {z : Value} {size bytes : Nat} (hE : ElemOf P t e z size bytes)
    {base : Nat} {sa : Option Addr} {n cap : Nat} {xs : List Value} (hs : a.eval s = .slice sa n cap) (hown : Ow w base size sa n cap xs) (hb : Below B w0 w) (hB : B ≤ base) (hbase : base ≤ w.heap.size)
    {cs : List Value} {e' : TypeId} (hx : a.eval x = .slice (some ⟨w.heap.size, 0, none⟩) 1 1) (hcs : cs.length = size) (h1 : ∀ u ∈ cs, u.oneCell' = true) (hbytes : (n + 1) * bytes ≤ 140737488355328)
    (hK : ∀ a' cap' w1, Ow w1 base size a' (n + 1) cap' (xs ++ cs) → Below B w0 w1 → w.grownBy w1 (rowOf sa) → (rowOf a' = rowOf sa ∨ rowOf a' = some (w.heap.size + 1)) → wpList P ops Q rest (a.put o.dst (.slice a' (n + 1) cap')) w1) : wpList P ops Q (o :: rest) a (w.alloc (.cells cs.toArray e')) := by
  have hg := World.grownBy_alloc w (.cells cs.toArray e') none
  refine wpList_apps_at (P := P) (w0 := w0) (B := B) hgd s x t t ho hE hs (hown.kept hg (by cases rowOf sa <;> simp)) (hb.alloc (by omega) _) hB (by simp; omega) hx
    (Src.slice hE.u (by omega) (Rd.mk fun j u hj => ?_) h1) hbytes (fun a' cap' w1 a1 a2 a3 a4 => hK a' cap' w1 a1 a2 ⟨a3.os, a3.tape, a3.output, by have := a3.size; simp at this; omega, fun k hk hne => (a3.block k (by simp; omega) hne).trans (Below.heap_alloc w _ k hk)⟩ (by simpa using a4))
  rw [Nat.zero_add, World.cell?_alloc_at _ _ _ _ rfl]
  simpa using hj
end
end Go.Proofs.YtcnffdgmdeflmaaGreatDoor
/- 'append' of whatever is read onto nil, as a step of a region that draws its order; two such slices and their box. -/
namespace Go.Proofs.YtcnffdgmdeflmaaGreatDoor
open Go.RowKit
theorem step_copyn {P : Program} {w : World} {ops : Array Oper} {o : Oper} {a : Act} {K : Act → World → Prop} {Q : Exit → Act → World → Prop} {E : Prop} (hgd : o.guard = none) (s x : Operand) (t u : TypeId)
    (ho : o.op = .call { callee := .builtin .append, args := #[s, x], argTypes := #[t, u] }) {e : TypeId} {z : Value} {size bytes : Nat} (hE : ElemOf P t e z size bytes) (hs : a.eval s = .slice none 0 0)
    {src : Value} {m : Nat} {news : List Value} (hx : a.eval x = src) (hS : Src P w u src size m news) (hbytes : m * bytes ≤ 140737488355328) {B : Nat} (hB : B ≤ w.heap.size)
    (hK : ∀ a' cap' w1, Ow w1 B size a' m cap' news → Below w.heap.size w w1 → (rowOf a' = none ∨ rowOf a' = some w.heap.size) → K (a.put o.dst (.slice a' m cap')) w1) :
    if Region.wanted o (yielded ops a.tmps) = true then Oper.wp P o a w K Q else E := by
  have hw : Region.wanted o (yielded ops a.tmps) = true := by simp [Region.wanted, hgd]
  rw [if_pos hw]
  obtain ⟨a', cap', w', hr, h2, h3, h4⟩ := run_app_at (P := P) w B t u o.type e hE none 0 0 [] (Ow.nil _ _ _) src m news hS (by rw [Nat.zero_add]; exact hbytes) hB
  rw [Nat.zero_add] at hr h2
  rw [List.nil_append] at h2
  unfold Oper.wp execOp
  simp only [ho, resolve, invoke, builtin, Sem.run_bind, Sem.run_pure, Result.andThen_ok, List.map_toArray, List.map_cons, List.map_nil, hs, hx, hr]
  exact hK a' cap' w' h2 ⟨h3.os, h3.tape, h3.output, h3.size, fun k hk => h3.block k hk (by simp [rowOf])⟩ h4
/-- two slices of the call's own lie in different blocks -/
def Apart2 (a b : Option Addr) : Prop := ∀ g, rowOf a = some g → rowOf b ≠ some g
theorem Apart2.symm {a b : Option Addr} (h : Apart2 a b) : Apart2 b a := fun g hb ha => h g ha hb
theorem Apart2.keep {a b : Option Addr} (h : Apart2 a b) : rowOf b = none ∨ rowOf b ≠ rowOf a := by
  cases hb : rowOf b with
  | none => exact .inl rfl
  | some g => exact .inr fun e => h g e.symm hb
theorem Apart2.next {a b a' : Option Addr} {n : Nat} (h : Apart2 a b) (hb : ∀ g, rowOf b = some g → g < n) (ha : rowOf a' = rowOf a ∨ rowOf a' = some (n + 1)) : Apart2 a' b := by
  intro g hg hbg
  rcases ha with e | e
  · exact h g (e ▸ hg) hbg
  · have := hb g hbg
    rw [e] at hg
    have := Option.some.inj hg
    omega
theorem apart_new {a b : Option Addr} {s B : Nat} (hb : ∀ g, rowOf b = some g → B ≤ g ∧ g < s) (ha : rowOf a = none ∨ rowOf a = some s) : Apart2 a b := by
  intro g hg hbg
  rcases ha with e | e
  · rw [e] at hg; cases hg
  · rw [e] at hg
    have := hb g hbg
    have := Option.some.inj hg
    omega
theorem row_new {a : Option Addr} {s go : Nat} (hg : go < s) (ha : rowOf a = none ∨ rowOf a = some s) : ∀ g, rowOf a = some g → g ≠ go := by
  intro g h
  rcases ha with e | e
  · rw [e] at h; cases h
  · rw [e] at h
    have := Option.some.inj h
    omega
theorem row_old {a : Option Addr} {s B : Nat} (ha : ∀ g, rowOf a = some g → B ≤ g ∧ g < s) : ∀ g, rowOf a = some g → g ≠ s := fun g h => by have := ha g h; omega
end Go.Proofs.YtcnffdgmdeflmaaGreatDoor
