/- 'append' as a step of a region that draws its order, onto a slice of the call's own of any make. -/
import Derived.Test.YtpofijdkckaphaaGreatDoorBase
import Derived.BigRegion
import Derived.Deep.RegionLaw
namespace Go.Proofs.YtpofijdkckaphaaGreatDoor
open Go.RowKit
theorem step_appn {P : Program} {w w0 : World} {B : Nat} {ops : Array Oper} {o : Oper} {a : Act} {K : Act → World → Prop} {Q : Exit → Act → World → Prop} {E : Prop} (hgd : o.guard = none) (s x : Operand) (t : TypeId)
    (ho : o.op = .call { callee := .builtin .append, args := #[s, x], argTypes := #[t, t] }) {e : TypeId} {z : Value} {size bytes : Nat} (hE : ElemOf P t e z size bytes)
    {base : Nat} {sa : Option Addr} {n cap : Nat} {xs : List Value} (hs : a.eval s = .slice sa n cap) (hown : Ow w base size sa n cap xs) (hb : Below B w0 w) (hB : B ≤ base) (hbase : base ≤ w.heap.size)
    {m c : Nat} {cs : List Value} {e' : TypeId} (hx : a.eval x = .slice (some ⟨w.heap.size, 0, none⟩) m c) (hcs : cs.length = m * size) (h1 : ∀ u ∈ cs, u.oneCell' = true) (hbytes : (n + m) * bytes ≤ 140737488355328)
    (hK : ∀ a' cap' w1, Ow w1 base size a' (n + m) cap' (xs ++ cs) → Below B w0 w1 → w.grownBy w1 (rowOf sa) → K (a.put o.dst (.slice a' (n + m) cap')) w1) :
    if Region.wanted o (yielded ops a.tmps) = true then Oper.wp P o a (w.alloc (.cells cs.toArray e')) K Q else E := by
  have hw : Region.wanted o (yielded ops a.tmps) = true := by simp [Region.wanted, hgd]
  rw [if_pos hw]
  have hg := World.grownBy_alloc w (.cells cs.toArray e') none
  obtain ⟨a', cap', w', hr, h2, h3⟩ := run_app (P := P) (w.alloc (.cells cs.toArray e')) base t t o.type e hE sa n cap xs (hown.kept hg (by cases rowOf sa <;> simp))
    (.slice (some ⟨w.heap.size, 0, none⟩) m c) m cs (Src.slice hE.u hcs (Rd.mk fun j u hj => by rw [Nat.zero_add, World.cell?_alloc_at _ _ _ _ rfl]; simpa using hj) h1) hbytes (by simp; omega)
  unfold Oper.wp execOp
  simp only [ho, resolve, invoke, builtin, Sem.run_bind, Sem.run_pure, Result.andThen_ok, List.map_toArray, List.map_cons, List.map_nil, hs, hx, hr]
  have hrow := hown.row
  exact hK a' cap' w' h2 ((hb.alloc (by omega) _).grown h3 (by simp; omega) (fun k hk => by have := (hrow k hk).1; omega)) ⟨h3.os, h3.tape, h3.output, by have := h3.size; simp at this; omega, fun k hk hne => (h3.block k (by simp; omega) hne).trans (Below.heap_alloc w _ k hk)⟩
/-- The same, of whatever is read. -/
theorem step_apps {P : Program} {w w0 : World} {B : Nat} {ops : Array Oper} {o : Oper} {a : Act} {K : Act → World → Prop} {Q : Exit → Act → World → Prop} {E : Prop} (hgd : o.guard = none) (s x : Operand) (t u : TypeId)
    (ho : o.op = .call { callee := .builtin .append, args := #[s, x], argTypes := #[t, u] }) {e : TypeId} {z : Value} {size bytes : Nat} (hE : ElemOf P t e z size bytes)
    {base : Nat} {sa : Option Addr} {n cap : Nat} {xs : List Value} (hs : a.eval s = .slice sa n cap) (hown : Ow w base size sa n cap xs) (hb : Below B w0 w) (hB : B ≤ base) (hbase : base ≤ w.heap.size)
    {src : Value} {m : Nat} {news : List Value} (hx : a.eval x = src) (hS : Src P w u src size m news) (hbytes : (n + m) * bytes ≤ 140737488355328)
    (hK : ∀ a' cap' w1, Ow w1 base size a' (n + m) cap' (xs ++ news) → Below B w0 w1 → w.grownBy w1 (rowOf sa) → K (a.put o.dst (.slice a' (n + m) cap')) w1) :
    if Region.wanted o (yielded ops a.tmps) = true then Oper.wp P o a w K Q else E := by
  have hw : Region.wanted o (yielded ops a.tmps) = true := by simp [Region.wanted, hgd]
  rw [if_pos hw]
  obtain ⟨a', cap', w', hr, h2, h3⟩ := run_app (P := P) w base t u o.type e hE sa n cap xs hown src m news hS hbytes hbase
  unfold Oper.wp execOp
  simp only [ho, resolve, invoke, builtin, Sem.run_bind, Sem.run_pure, Result.andThen_ok, List.map_toArray, List.map_cons, List.map_nil, hs, hx, hr]
  exact hK a' cap' w' h2 (hb.grown h3 (by omega) (fun k hk => by have := (hown.row k hk).1; omega)) h3
end Go.Proofs.YtpofijdkckaphaaGreatDoor
/- 'append' onto a slice of the call's own: as in Base, and in which block the new slice lies. No program in sight. -/
namespace Go.Proofs.YtpofijdkckaphaaGreatDoor
open Go.RowKit
/-- 'append' onto a slice of the call's own, of whatever make: a run of it. -/
theorem run_app_at {P : Program} (w : World) (base : Nat) (t u ty e : TypeId) {z : Value} {size bytes : Nat} (hE : ElemOf P t e z size bytes)
    (a : Option Addr) (n cap : Nat) (xs : List Value) (hown : Ow w base size a n cap xs)
    (src : Value) (m : Nat) (news : List Value) (hS : Src P w u src size m news)
    (hbytes : (n + m) * bytes ≤ 140737488355328) (hbase : base ≤ w.heap.size) :
    ∃ a' cap' w', (Builtin.append_ #[t, u] ty #[.slice a n cap, src]).run P w = .ok (.slice a' (n + m) cap') w' ∧ Ow w' base size a' (n + m) cap' (xs ++ news) ∧ w.grownBy w' (rowOf a) ∧ (rowOf a' = rowOf a ∨ rowOf a' = some w.heap.size) := by
  obtain ⟨i, hi, hz, hsize, hby⟩ := info_parts hE.i
  have h63 : n + m ≤ maxLen := by
    have h := Nat.le_mul_of_pos_right (n + m) hE.b
    simp only [maxLen]; omega
  have hl := hS.l
  have hlen : (xs ++ news).length = (n + m) * size := by rw [List.length_append, hown.1, hl, Nat.add_mul]
  obtain ⟨hxl, hnc, hcm, hown⟩ := hown
  have hS1 := hS.len
  have hS2 := hS.cells
  have hS3 := hS.cells'
  by_cases hroom : n + m ≤ cap
  · rcases hown with ⟨rfl, rfl⟩ | ⟨g, off, rfl, hbg, hgs, hx, hf⟩
    · obtain rfl : n = 0 := by omega
      obtain rfl : m = 0 := by omega
      have hn : news = [] := List.eq_nil_of_length_eq_zero (by simpa using hl)
      have hx : xs = [] := List.eq_nil_of_length_eq_zero (by simpa using hxl)
      subst hn hx
      refine ⟨none, 0, w, ?_, Ow.nil _ _ _, World.grownBy.refl _ _, .inl rfl⟩
      rcases hS.ty with ⟨eu, hdu⟩ | hdu <;> simp [Builtin.append_, run_underlying hE.u, run_underlying hdu, sizeOf, typeInfo, hi, hsize, hS1, hS2]
    · have hin : ∀ j, j < news.length → off + n * size + j < off + cap * size := fun j hj => by
        have h2 := Nat.mul_le_mul_right size hroom
        rw [Nat.add_mul] at h2
        omega
      have hcell : ∀ j, j < news.length → (w.cell? ⟨g, off + n * size + j, none⟩).isSome = true ∧ w.frozen? ⟨g, off + n * size + j, none⟩ = false := fun j hj => by
        have := hf (n * size + j) (by have := hin j hj; omega)
        rwa [← Nat.add_assoc] at this
      have hst := run_storeCells_cells (P := P) g (off + n * size) news 0 w (by simpa using fun j hj => (hcell j hj).1) (by simpa using fun j hj => (hcell j hj).2) hS.one
      simp only [Nat.add_zero] at hst
      refine ⟨some ⟨g, off, none⟩, cap, w.setCells g (off + n * size) news, ?_, ⟨hlen, hroom, hcm, .inr ⟨g, off, rfl, hbg, by simpa using Nat.lt_of_lt_of_le hgs (grownBy_setCells w g (off + n * size) news).size, ?_, ?_⟩⟩, grownBy_setCells w g _ news, .inl rfl⟩
      · rcases hS.ty with ⟨eu, hdu⟩ | hdu <;> simp [Builtin.append_, run_underlying hE.u, run_underlying hdu, sizeOf, typeInfo, hi, hsize, hroom, hS1, hS2, Addr.add_lit, hst]
      · intro j u hj
        by_cases hjx : j < xs.length
        · rw [List.getElem?_append_left hjx] at hj
          rw [World.cell?_setCells_out g news _ _ _ (fun _ _ => Or.inl (by simp only; omega))]
          exact hx j u hj
        · rw [List.getElem?_append_right (by omega)] at hj
          have hjn := (List.getElem?_eq_some_iff.1 hj).1
          have := World.cell?_setCells_in g news (off + n * size) w (fun k hk => (hcell k hk).1) (j - xs.length) hjn
          rw [show off + n * size + (j - xs.length) = off + j by omega] at this
          rw [this, ← (List.getElem?_eq_some_iff.1 hj).2]
      · intro j hj
        refine ⟨?_, by rw [World.frozen?_setCells]; exact (hf j hj).2⟩
        by_cases hin2 : off + n * size ≤ off + j ∧ off + j < off + n * size + news.length
        · have := World.cell?_setCells_in g news (off + n * size) w (fun k hk => (hcell k hk).1) (off + j - (off + n * size)) (by omega)
          rw [show off + n * size + (off + j - (off + n * size)) = off + j by omega] at this
          rw [this]; rfl
        · rw [World.cell?_setCells_out g news _ _ _ (fun _ _ => by simp only; omega)]
          exact (hf j hj).1
  · have holds : (Builtin.firstCells size n (.slice a n cap)).run P w.drew = .ok xs.toArray w.drew := by
      rcases hown with ⟨rfl, rfl⟩ | ⟨g, off, rfl, hbg, hgs, hx, hf⟩
      · obtain rfl : n = 0 := by omega
        have hx : xs = [] := List.eq_nil_of_length_eq_zero (by simpa using hxl)
        subst hx
        simp [Builtin.firstCells]
      · exact run_firstCells_some (P := P) w.drew size n ⟨g, off, none⟩ n cap xs hxl (fun j u hj => by rw [Addr.add_lit]; exact hx j u hj)
    have hsmall : ¬ (9223372036854775807 < ((n : Int) + (m : Int))) := by simp only [maxLen] at h63; omega
    have h48' : ¬ (281474976710656 < Builtin.nextslicecap (n + m) cap * i.bytes) := by
      have := growslice_fits (bytes := bytes) (show cap < n + m by omega) hbytes
      rw [hby]; omega
    have hge := grownCap_ge w (n + m) cap e
    refine ⟨some ⟨w.heap.size, 0, none⟩, grownCap w (n + m) cap e, w.drew.alloc (.cells (xs.toArray ++ news.toArray ++ Builtin.zeroCells z.cells (grownCap w (n + m) cap e - (n + m))) e), ?_, ?_, ⟨rfl, rfl, rfl, by simp, fun k hk _ => Below.heap_alloc w.drew _ k hk⟩, .inr rfl⟩
    · rcases hS.ty with ⟨eu, hdu⟩ | hdu <;> simp [Builtin.append_, run_underlying hE.u, run_underlying hdu, sizeOf, typeInfo, zeroValue, hi, hz, hroom, hsmall, h48', Question.forced, hS1, holds, newRow, grownCap, hsize, hS3]
      all_goals (congr 2; apply Array.ext'; simp [List.append_assoc])
    · have hsz : (xs.toArray ++ news.toArray ++ Builtin.zeroCells z.cells (grownCap w (n + m) cap e - (n + m))).size = grownCap w (n + m) cap e * size := by
        simp only [Array.size_append, List.size_toArray, size_zeroCells, hE.z, hxl, hl, ← Nat.add_mul]
        congr 1
        omega
      have hnew := heap_alloc_new w.drew (.cells (xs.toArray ++ news.toArray ++ Builtin.zeroCells z.cells (grownCap w (n + m) cap e - (n + m))) e)
      rw [World.size_drew] at hnew
      refine ⟨hlen, hge, grownCap_le_maxLen w (n + m) cap e h63, .inr ⟨w.heap.size, 0, rfl, hbase, by simp, fun j u hj => ?_, fun j hj => ?_⟩⟩
      · rw [Nat.zero_add, cell_of_row _ _ j _ e (0, 0) hnew]
        have hjl := (List.getElem?_eq_some_iff.1 hj).1
        rw [Array.getElem?_append_left (by simpa using hjl)]
        simpa using hj
      · rw [Nat.zero_add, cell_of_row _ _ j _ e (0, 0) hnew]
        exact ⟨by rw [Array.getElem?_eq_getElem (by rw [hsz]; exact hj)]; rfl, frozen_of_row _ _ _ _ e hnew⟩

section
variable {P : Program} {w w0 : World} {B : Nat} {ops : Array Oper} {rest : List Oper} {o : Oper} {a : Act} {Q : Exit → Act → World → Prop}

/-- 'append(s, x...)' at the walk: s the call's own, x whatever is read. -/
theorem wpList_apps_at (hgd : o.guard = none) (s x : Operand) (t u : TypeId)
    (ho : o.op = .call { callee := .builtin .append, args := #[s, x], argTypes := #[t, u] }) {e : TypeId} {z : Value} {size bytes : Nat} (hE : ElemOf P t e z size bytes)
    {base : Nat} {sa : Option Addr} {n cap : Nat} {xs : List Value} (hs : a.eval s = .slice sa n cap) (hown : Ow w base size sa n cap xs) (hb : Below B w0 w) (hB : B ≤ base) (hbase : base ≤ w.heap.size)
    {src : Value} {m : Nat} {news : List Value} (hx : a.eval x = src) (hS : Src P w u src size m news) (hbytes : (n + m) * bytes ≤ 140737488355328)
    (hK : ∀ a' cap' w1, Ow w1 base size a' (n + m) cap' (xs ++ news) → Below B w0 w1 → w.grownBy w1 (rowOf sa) → (rowOf a' = rowOf sa ∨ rowOf a' = some w.heap.size) → wpList P ops Q rest (a.put o.dst (.slice a' (n + m) cap')) w1) : wpList P ops Q (o :: rest) a w := by
  refine wpList_plain hgd fun K hK' => ?_
  obtain ⟨a', cap', w', hr, h2, h3, h4⟩ := run_app_at (P := P) w base t u o.type e hE sa n cap xs hown src m news hS hbytes hbase
  unfold Oper.wp execOp
  simp only [ho, resolve, invoke, builtin, Sem.run_bind, Sem.run_pure, Result.andThen_ok, List.map_toArray, List.map_cons, List.map_nil, hs, hx, hr]
  exact hK' _ _ (hK a' cap' w' h2 (hb.grown h3 (by omega) (fun k hk => by have := (hown.row k hk).1; omega)) h3 h4)

/-- 'append(s, x)' of one element: x lies in a new block. -/
theorem wpList_app1_at (hgd : o.guard = none) (s x : Operand) (t : TypeId)
    (ho : o.op = .call { callee := .builtin .append, args := #[s, x], argTypes := #[t, t] }) {e : TypeId} {z : Value} {size bytes : Nat} (hE : ElemOf P t e z size bytes)
    {base : Nat} {sa : Option Addr} {n cap : Nat} {xs : List Value} (hs : a.eval s = .slice sa n cap) (hown : Ow w base size sa n cap xs) (hb : Below B w0 w) (hB : B ≤ base) (hbase : base ≤ w.heap.size)
    {cs : List Value} {e' : TypeId} (hx : a.eval x = .slice (some ⟨w.heap.size, 0, none⟩) 1 1) (hcs : cs.length = size) (h1 : ∀ u ∈ cs, u.oneCell' = true) (hbytes : (n + 1) * bytes ≤ 140737488355328)
    (hK : ∀ a' cap' w1, Ow w1 base size a' (n + 1) cap' (xs ++ cs) → Below B w0 w1 → w.grownBy w1 (rowOf sa) → (rowOf a' = rowOf sa ∨ rowOf a' = some (w.heap.size + 1)) → wpList P ops Q rest (a.put o.dst (.slice a' (n + 1) cap')) w1) : wpList P ops Q (o :: rest) a (w.alloc (.cells cs.toArray e')) := by
  have hg := World.grownBy_alloc w (.cells cs.toArray e') none
  refine wpList_apps_at (P := P) (w0 := w0) (B := B) hgd s x t t ho hE hs (hown.kept hg (by cases rowOf sa <;> simp)) (hb.alloc (by omega) _) hB (by simp; omega) hx
    (Src.slice hE.u (by omega) (Rd.mk fun j u hj => ?_) h1) hbytes (fun a' cap' w1 a1 a2 a3 a4 => hK a' cap' w1 a1 a2 ⟨a3.os, a3.tape, a3.output, by have := a3.size; simp at this; omega, fun k hk hne => (a3.block k (by simp; omega) hne).trans (Below.heap_alloc w _ k hk)⟩ (by simpa using a4))
  rw [Nat.zero_add, World.cell?_alloc_at _ _ _ _ rfl]
  simpa using hj
end
end Go.Proofs.YtpofijdkckaphaaGreatDoor
/- 'append' as a step of a region that draws its order: as in AppStep, and in which block the new slice lies. -/
namespace Go.Proofs.YtpofijdkckaphaaGreatDoor
open Go.RowKit
theorem step_appn_at {P : Program} {w w0 : World} {B : Nat} {ops : Array Oper} {o : Oper} {a : Act} {K : Act → World → Prop} {Q : Exit → Act → World → Prop} {E : Prop} (hgd : o.guard = none) (s x : Operand) (t : TypeId)
    (ho : o.op = .call { callee := .builtin .append, args := #[s, x], argTypes := #[t, t] }) {e : TypeId} {z : Value} {size bytes : Nat} (hE : ElemOf P t e z size bytes)
    {base : Nat} {sa : Option Addr} {n cap : Nat} {xs : List Value} (hs : a.eval s = .slice sa n cap) (hown : Ow w base size sa n cap xs) (hb : Below B w0 w) (hB : B ≤ base) (hbase : base ≤ w.heap.size)
    {m c : Nat} {cs : List Value} {e' : TypeId} (hx : a.eval x = .slice (some ⟨w.heap.size, 0, none⟩) m c) (hcs : cs.length = m * size) (h1 : ∀ u ∈ cs, u.oneCell' = true) (hbytes : (n + m) * bytes ≤ 140737488355328)
    (hK : ∀ a' cap' w1, Ow w1 base size a' (n + m) cap' (xs ++ cs) → Below B w0 w1 → w.grownBy w1 (rowOf sa) → (rowOf a' = rowOf sa ∨ rowOf a' = some (w.heap.size + 1)) → K (a.put o.dst (.slice a' (n + m) cap')) w1) :
    if Region.wanted o (yielded ops a.tmps) = true then Oper.wp P o a (w.alloc (.cells cs.toArray e')) K Q else E := by
  have hw : Region.wanted o (yielded ops a.tmps) = true := by simp [Region.wanted, hgd]
  rw [if_pos hw]
  have hg := World.grownBy_alloc w (.cells cs.toArray e') none
  obtain ⟨a', cap', w', hr, h2, h3, h4⟩ := run_app_at (P := P) (w.alloc (.cells cs.toArray e')) base t t o.type e hE sa n cap xs (hown.kept hg (by cases rowOf sa <;> simp))
    (.slice (some ⟨w.heap.size, 0, none⟩) m c) m cs (Src.slice hE.u hcs (Rd.mk fun j u hj => by rw [Nat.zero_add, World.cell?_alloc_at _ _ _ _ rfl]; simpa using hj) h1) hbytes (by simp; omega)
  unfold Oper.wp execOp
  simp only [ho, resolve, invoke, builtin, Sem.run_bind, Sem.run_pure, Result.andThen_ok, List.map_toArray, List.map_cons, List.map_nil, hs, hx, hr]
  have hrow := hown.row
  exact hK a' cap' w' h2 ((hb.alloc (by omega) _).grown h3 (by simp; omega) (fun k hk => by have := (hrow k hk).1; omega)) ⟨h3.os, h3.tape, h3.output, by have := h3.size; simp at this; omega, fun k hk hne => (h3.block k (by simp; omega) hne).trans (Below.heap_alloc w _ k hk)⟩ (by simpa using h4)
end Go.Proofs.YtpofijdkckaphaaGreatDoor
