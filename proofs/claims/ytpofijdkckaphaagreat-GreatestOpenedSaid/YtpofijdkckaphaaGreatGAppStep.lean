/- 'append' as a step of a region that draws its order, onto a slice of the call's own of any make. -/
import Derived.Test.YtpofijdkckaphaaGreatBase
import Derived.BigRegion
import Derived.Deep.RegionLaw
import Derived.Test.YtpofijdkckaphaaGreatAppAt
namespace Go.Proofs.YtpofijdkckaphaaGreat
open Go.RowKit
theorem step_appn {P : Program} {w w0 : World} {B : Nat} {ops : Array Oper} {o : Oper} {a : Act} {K : Act → World → Prop} {Q : Exit → Act → World → Prop} {E : Prop} (hgd : o.guard = none) (s x : Operand) (t : TypeId)
    (ho : o.op = .call { callee := .builtin .append, args := #[s, x], argTypes := #[t, t] }) {e : TypeId} {z : Value} {size bytes : Nat} (hE : ElemOf P t e z size bytes)
    {base : Nat} {sa : Option Addr} {n cap : Nat} {xs : List Value} (hs : a.eval s = .slice sa n cap) (hown : Ow w base size sa n cap xs) (hb : Below B w0 w) (hB : B ≤ base) (hbase : base ≤ w.heap.size)
    {m c : Nat} {cs : List Value} {e' : TypeId} (hx : a.eval x = .slice (some ⟨w.heap.size, 0, none⟩) m c) (hcs : cs.length = m * size) (h1 : ∀ u ∈ cs, u.oneCell' = true) (hbytes : (n + m) * bytes ≤ 140737488355328)
    (hK : ∀ a' cap' w1, Ow w1 base size a' (n + m) cap' (xs ++ cs) → Below B w0 w1 → w.grownBy w1 (rowOf sa) → K (a.put o.dst (.slice a' (n + m) cap')) w1) :
    if Region.wanted o (yielded ops a.tmps) = true then Oper.wp P o a (w.alloc (.cells cs.toArray e')) K Q else E := by
  have hw : Region.wanted o (yielded ops a.tmps) = true := by simp [Region.wanted, hgd]
  rw [if_pos hw]
  have hg := World.grownBy_alloc w (.cells cs.toArray e') none
  obtain ⟨a', cap', w', hr, h2, h3⟩ := run_app (P := P) (w.alloc (.cells cs.toArray e')) base t t o.type e hE sa n cap xs (hown.kept hg (by cases rowOf sa <;> simp))
    (.slice (some ⟨w.heap.size, 0, none⟩) m c) m cs (Src.slice hE.u hcs (Rd.mk fun j u hj => by rw [Nat.zero_add, World.cell?_alloc_at _ _ _ _ rfl]; simpa using hj) h1) hbytes (by simp; omega)
  unfold Oper.wp execOp
  simp only [ho, resolve, invoke, builtin, Sem.run_bind, Sem.run_pure, Result.andThen_ok, List.map_toArray, List.map_cons, List.map_nil, hs, hx, hr]
  have hrow := hown.row
  exact hK a' cap' w' h2 ((hb.alloc (by omega) _).grown h3 (by simp; omega) (fun k hk => by have := (hrow k hk).1; omega)) ⟨h3.os, h3.tape, h3.output, by have := h3.size; simp at this; omega, fun k hk hne => (h3.block k (by simp; omega) hne).trans (Below.heap_alloc w _ k hk)⟩
/-- The same, of whatever is read. -/
theorem step_apps {P : Program} {w w0 : World} {B : Nat} {ops : Array Oper} {o : Oper} {a : Act} {K : Act → World → Prop} {Q : Exit → Act → World → Prop} {E : Prop} (hgd : o.guard = none) (s x : Operand) (t u : TypeId)
    (ho : o.op = .call { callee := .builtin .append, args := #[s, x], argTypes := #[t, u] }) {e : TypeId} {z : Value} {size bytes : Nat} (hE : ElemOf P t e z size bytes)
    {base : Nat} {sa : Option Addr} {n cap : Nat} {xs : List Value} (hs : a.eval s = .slice sa n cap) (hown : Ow w base size sa n cap xs) (hb : Below B w0 w) (hB : B ≤ base) (hbase : base ≤ w.heap.size)
    {src : Value} {m : Nat} {news : List Value} (hx : a.eval x = src) (hS : Src P w u src size m news) (hbytes : (n + m) * bytes ≤ 140737488355328)
    (hK : ∀ a' cap' w1, Ow w1 base size a' (n + m) cap' (xs ++ news) → Below B w0 w1 → w.grownBy w1 (rowOf sa) → K (a.put o.dst (.slice a' (n + m) cap')) w1) :
    if Region.wanted o (yielded ops a.tmps) = true then Oper.wp P o a w K Q else E := by
  have hw : Region.wanted o (yielded ops a.tmps) = true := by simp [Region.wanted, hgd]
  rw [if_pos hw]
  obtain ⟨a', cap', w', hr, h2, h3⟩ := run_app (P := P) w base t u o.type e hE sa n cap xs hown src m news hS hbytes hbase
  unfold Oper.wp execOp
  simp only [ho, resolve, invoke, builtin, Sem.run_bind, Sem.run_pure, Result.andThen_ok, List.map_toArray, List.map_cons, List.map_nil, hs, hx, hr]
  exact hK a' cap' w' h2 (hb.grown h3 (by omega) (fun k hk => by have := (hown.row k hk).1; omega)) h3
end Go.Proofs.YtpofijdkckaphaaGreat
/- 'append' as a step of a region that draws its order: as in AppStep, and in which block the new slice lies. -/
namespace Go.Proofs.YtpofijdkckaphaaGreat
open Go.RowKit
theorem step_appn_at {P : Program} {w w0 : World} {B : Nat} {ops : Array Oper} {o : Oper} {a : Act} {K : Act → World → Prop} {Q : Exit → Act → World → Prop} {E : Prop} (hgd : o.guard = none) (s x : Operand) (t : TypeId)
    (ho : o.op = .call { callee := .builtin .append, args := #[s, x], argTypes := #[t, t] }) {e : TypeId} {z : Value} {size bytes : Nat} (hE : ElemOf P t e z size bytes)
    {base : Nat} {sa : Option Addr} {n cap : Nat} {xs : List Value} (hs : a.eval s = .slice sa n cap) (hown : Ow w base size sa n cap xs) (hb : Below B w0 w) (hB : B ≤ base) (hbase : base ≤ w.heap.size)
    {m c : Nat} {cs : List Value} {e' : TypeId} (hx : a.eval x = .slice (some ⟨w.heap.size, 0, none⟩) m c) (hcs : cs.length = m * size) (h1 : ∀ u ∈ cs, u.oneCell' = true) (hbytes : (n + m) * bytes ≤ 140737488355328)
    (hK : ∀ a' cap' w1, Ow w1 base size a' (n + m) cap' (xs ++ cs) → Below B w0 w1 → w.grownBy w1 (rowOf sa) → (rowOf a' = rowOf sa ∨ rowOf a' = some (w.heap.size + 1)) → K (a.put o.dst (.slice a' (n + m) cap')) w1) :
    if Region.wanted o (yielded ops a.tmps) = true then Oper.wp P o a (w.alloc (.cells cs.toArray e')) K Q else E := by
  have hw : Region.wanted o (yielded ops a.tmps) = true := by simp [Region.wanted, hgd]
  rw [if_pos hw]
  have hg := World.grownBy_alloc w (.cells cs.toArray e') none
  obtain ⟨a', cap', w', hr, h2, h3, h4⟩ := run_app_at (P := P) (w.alloc (.cells cs.toArray e')) base t t o.type e hE sa n cap xs (hown.kept hg (by cases rowOf sa <;> simp))
    (.slice (some ⟨w.heap.size, 0, none⟩) m c) m cs (Src.slice hE.u hcs (Rd.mk fun j u hj => by rw [Nat.zero_add, World.cell?_alloc_at _ _ _ _ rfl]; simpa using hj) h1) hbytes (by simp; omega)
  unfold Oper.wp execOp
  simp only [ho, resolve, invoke, builtin, Sem.run_bind, Sem.run_pure, Result.andThen_ok, List.map_toArray, List.map_cons, List.map_nil, hs, hx, hr]
  have hrow := hown.row
  exact hK a' cap' w' h2 ((hb.alloc (by omega) _).grown h3 (by simp; omega) (fun k hk => by have := (hrow k hk).1; omega)) ⟨h3.os, h3.tape, h3.output, by have := h3.size; simp at this; omega, fun k hk hne => (h3.block k (by simp; omega) hne).trans (Below.heap_alloc w _ k hk)⟩ (by simpa using h4)
end Go.Proofs.YtpofijdkckaphaaGreat
