/- A guard and a request as a law's arguments: what can be read of them. -/
import Derived.Test.YtnlhcfhngdahlaaLawRows
import Derived.Test.YtnlhcfhngdahlaaReplayP
import Derived.Lib.SmallJoins
namespace Go.Proofs.Ytnlhcfhngdahlaa
open Go.ChangeShapes Go.WideShapes Go.ChangeAt Go.RowKit Go.Deep
theorem kept_fields : ∃ f0 f1 f2 f3 : Field, Try.prog.underlying 37 = some (.struct #[f0, f1, f2, f3]) ∧ (f0.type = 3 ∧ f0.offset = 0) ∧ (f1.type = 3 ∧ f1.offset = 1) ∧ (f2.type = 9 ∧ f2.offset = 2) ∧ (f3.type = 9 ∧ f3.offset = 3) :=
  ⟨_, _, _, _, Try.underlying37, ⟨rfl, rfl⟩, ⟨rfl, rfl⟩, ⟨rfl, rfl⟩, ⟨rfl, rfl⟩⟩
theorem rq_fields : ∃ f0 f1 f2 : Field, Try.prog.underlying 26 = some (.struct #[f0, f1, f2]) ∧ (f0.type = 3 ∧ f0.offset = 0) ∧ (f1.type = 3 ∧ f1.offset = 1) ∧ (f2.type = 9 ∧ f2.offset = 2) :=
  ⟨_, _, _, Try.underlying26, ⟨rfl, rfl⟩, ⟨rfl, rfl⟩, ⟨rfl, rfl⟩⟩
theorem guard_fields : ∃ f0 : Field, Try.prog.underlying 24 = some (.struct #[f0]) ∧ (f0.type = 22 ∧ f0.offset = 0) :=
  ⟨_, Try.underlying24, ⟨rfl, rfl⟩⟩
theorem cells_int : Try.prog.cellsOf 3 = 1 := by kernel_rfl
theorem cells_str : Try.prog.cellsOf 9 = 1 := by kernel_rfl
theorem cells_kept : Try.prog.cellsOf 37 = 4 := by kernel_rfl
theorem cells_rq : Try.prog.cellsOf 26 = 3 := by kernel_rfl
theorem cells_guard : Try.prog.cellsOf 24 = 1 := by kernel_rfl
theorem cells_keps : Try.prog.cellsOf 22 = 1 := by kernel_rfl
set_option maxRecDepth 100000 in
theorem kept_of {H : Type} {enc : TypeId × Value → H} {W : World} {base : Nat} {spare : Nat → Bool} {held : Bool} (n : Nat) (cs : List Value) (x : DataW H × List MemPlace)
    (h : DataW.trod enc Try.prog W base spare held n 37 cs = some x) : ∃ r : Kpt, cs = kpC r ∧ r.In := by
  obtain ⟨f0, f1, f2, f3, hs, ⟨t0, o0⟩, ⟨t1, o1⟩, ⟨t2, o2⟩, ⟨t3, o3⟩⟩ := kept_fields
  obtain ⟨xs, n', rfl, hx, hcl, hxl, hf⟩ := DataW.trod_struct hs h
  rw [cells_kept] at hcl
  match cs, hcl with
  | [c0, c1, c2, c3], _ =>
  match xs, hxl with
  | [y0, y1, y2, y3], _ =>
  have g0 := hf 0 f0 rfl
  have g1 := hf 1 f1 rfl
  have g2 := hf 2 f2 rfl
  have g3 := hf 3 f3 rfl
  rw [t0, o0, cells_int] at g0
  rw [t1, o1, cells_int] at g1
  rw [t2, o2, cells_str] at g2
  rw [t3, o3, cells_str] at g3
  simp only [List.drop_zero, List.drop_succ_cons, List.take_succ_cons, List.take_zero, List.getElem?_cons_zero, List.getElem?_cons_succ] at g0 g1 g2 g3
  obtain ⟨v0, e0, -, w0⟩ := DataW.trod_int Try.underlying3 g0
  obtain ⟨v1, e1, -, w1⟩ := DataW.trod_int Try.underlying3 g1
  obtain ⟨v2, e2, -, -⟩ := DataW.trod_string Try.underlying9 g2
  obtain ⟨v3, e3, -, -⟩ := DataW.trod_string Try.underlying9 g3
  simp only [List.cons.injEq, and_true] at e0 e1 e2 e3
  subst e0 e1 e2 e3
  exact ⟨⟨v0, v1, v2.data.toList, v3.data.toList⟩, by simp [kpC], I64.of_wf w0, I64.of_wf w1⟩
set_option maxRecDepth 100000 in
theorem Reads.guard {W : World} {v : Value} {N : Nat} (h : Reads Try.prog W 24 v N) :
    ∃ a l cap, v = .agg #[.slice a l.length cap] ∧ Rd W a (rowsC kpC l) ∧ ∀ r ∈ l, r.In := by
  obtain ⟨⟨base, hv⟩, H, enc, d, ps, hd, hw, hN⟩ := h
  obtain ⟨f0, hs, t0, o0⟩ := guard_fields
  obtain ⟨cs, rfl, hsz⟩ := okWide_struct hs hv
  obtain ⟨fuel, hf⟩ := hd
  obtain ⟨y0, n, -, hl, h0⟩ := trod_struct1 hs hf
  rw [cells_guard] at hsz
  obtain ⟨c⟩ := cs
  match c, hsz with
  | [c0], _ =>
  rw [t0, o0, cells_keps] at h0
  simp only [Value.cells, List.drop_zero, List.take_succ_cons, List.take_zero] at h0
  obtain ⟨a, l, cap, e, h1, h2, -, -⟩ := trod_rows kpC_len (by decide) Try.underlying22 cells_kept (fun r => r.In) (fun n cs y => kept_of n cs y) h0
  simp only [List.cons.injEq, and_true] at e
  subst e
  exact ⟨a, l, cap, rfl, h1, h2⟩
set_option maxRecDepth 100000 in
theorem Reads.rq {W : World} {v : Value} {N : Nat} (h : Reads Try.prog W 26 v N) :
    ∃ r : Rq, v = .agg #[.int .i64 r.sen, .int .i64 r.cnt, .string ⟨r.body.toArray⟩] ∧ I64 r.sen ∧ I64 r.cnt := by
  obtain ⟨⟨base, hv⟩, H, enc, d, ps, hd, hw, hN⟩ := h
  obtain ⟨f0, f1, f2, hs, ⟨t0, o0⟩, ⟨t1, o1⟩, ⟨t2, o2⟩⟩ := rq_fields
  obtain ⟨cs, rfl, hsz⟩ := okWide_struct hs hv
  obtain ⟨fuel, hf⟩ := hd
  obtain ⟨xs, n', -, hx, hcl, hxl, hf⟩ := DataW.trod_struct hs hf
  rw [cells_rq] at hsz
  obtain ⟨c⟩ := cs
  match c, hsz with
  | [c0, c1, c2], _ =>
  match xs, hxl with
  | [y0, y1, y2], _ =>
  have g0 := hf 0 f0 rfl
  have g1 := hf 1 f1 rfl
  have g2 := hf 2 f2 rfl
  rw [t0, o0, cells_int] at g0
  rw [t1, o1, cells_int] at g1
  rw [t2, o2, cells_str] at g2
  simp only [Value.cells, List.drop_zero, List.drop_succ_cons, List.take_succ_cons, List.take_zero, List.getElem?_cons_zero, List.getElem?_cons_succ] at g0 g1 g2
  obtain ⟨v0, e0, -, w0⟩ := DataW.trod_int Try.underlying3 g0
  obtain ⟨v1, e1, -, w1⟩ := DataW.trod_int Try.underlying3 g1
  obtain ⟨v2, e2, -, -⟩ := DataW.trod_string Try.underlying9 g2
  simp only [List.cons.injEq, and_true] at e0 e1 e2
  subst e0 e1 e2
  exact ⟨⟨v0, v1, v2.data.toList⟩, by simp, I64.of_wf w0, I64.of_wf w1⟩
end Go.Proofs.Ytnlhcfhngdahlaa
