/- 'make' of a length that is a variable, and such bytes as a string. No function in sight. -/
import Derived.Test.YtekhepklaokaiaaDoorBase
import Derived.BigRegion
namespace Go.Proofs.YtekhepklaokaiaaDoor
open Go.RowKit
theorem mk_str {P : Program} (W : World) (src dst e : TypeId) (hs : P.underlying src = some (.slice e)) (he : P.underlying e = some (.int .u8)) (hd : P.underlying dst = some .string) (g k : Nat)
    (h : W.heap[g]? = some (.cells (madeCells #[.int .u8 0] k) e (0, 0))) : (convert src dst (.slice (some ⟨g, 0, none⟩) k k)).run P W = .ok (.string ⟨(List.replicate k (0 : UInt8)).toArray⟩) W :=
  run_bytes_str W src dst e hs he hd (l := List.replicate k 0) (by simp) (Rd.mk fun j u hj => by
    rw [Nat.zero_add, Lib.cell_of_heap h, ← Array.getElem?_toList, toList_madeCells_one]
    simpa [u8s] using hj)
theorem mk_run {P : Program} (W : World) {t e : TypeId} {z : Value} {bytes : Nat} (hE : ElemOf P t e z 1 bytes) (hz : z.cells = #[z]) (ki : IntKind) (n : Nat) (hn : bytes * n ≤ 140737488355328) :
    (Instr.makeSlice t (.int ki (n : Int)) (.int ki (n : Int))).run P W = .ok (.slice (some ⟨W.heap.size, 0, none⟩) n n) (W.alloc (.cells (madeCells #[z] n) e)) := by
  obtain ⟨i, hi, hzz, hsize, hby⟩ := info_parts hE.i
  have hn1 : n ≤ bytes * n := Nat.le_mul_of_pos_left n hE.b
  have h := run_make (P := P) W t e i z hE.u hi hzz ki ki n n (by omega) (Int.le_refl _) (by rw [hby, ← Int.natCast_mul]; omega) (by omega)
  rw [hz, hsize, Int.toNat_natCast, Nat.mul_one] at h
  exact h
theorem mk_str1 {P : Program} (W : World) (src dst e : TypeId) (hs : P.underlying src = some (.slice e)) (he : P.underlying e = some (.int .u8)) (hd : P.underlying dst = some .string) (k : Nat) :
    (convert src dst (.slice (some ⟨W.heap.size, 0, none⟩) k k)).run P (W.alloc (.cells (madeCells #[.int .u8 0] k) e)) = .ok (.string ⟨(List.replicate k (0 : UInt8)).toArray⟩) (W.alloc (.cells (madeCells #[.int .u8 0] k) e)) :=
  mk_str _ src dst e hs he hd _ k (heap_alloc_new W _)
theorem Ow.slots {w : World} {base size : Nat} {g off n cap : Nat} {xs : List Value} (h : Ow w base size (some ⟨g, off, none⟩) n cap xs) : (∀ j u, xs[j]? = some u → w.cell? ⟨g, off + j, none⟩ = some u) ∧ ∀ j, j < cap * size → w.frozen? ⟨g, off + j, none⟩ = false := by
  obtain ⟨_, _, _, ⟨h1, _⟩ | ⟨g', off', ha, _, _, hx, hf⟩⟩ := h
  · simp at h1
  · simp only [Option.some.injEq, Addr.mk.injEq, and_true] at ha
    obtain ⟨rfl, rfl⟩ := ha
    exact ⟨hx, fun j hj => (hf j hj).2⟩
end Go.Proofs.YtekhepklaokaiaaDoor
