/- law17: reporters. -/
import Derived.Test.YtejdaeonknpgeaaGreatDoorGCndM
import Derived.Test.YtejdaeonknpgeaaGreatDoorGCndG
import Derived.Test.YtejdaeonknpgeaaGreatDoorGCndL
namespace Go.Proofs.YtejdaeonknpgeaaGreatDoor
open Go.RowKit
def repT (n : Int) : Trm := ⟨3, n, 0, [], [], [], none, 0⟩
def RepRes (n : Int) (w : World) (e : Ending) (w' : World) : Prop :=
  ∃ g, e = .returned (.agg #[.slice (some ⟨g, 0, none⟩) 1 1]) ∧ RdT w' (some ⟨g, 0, none⟩) [repT n] ∧ Below w.heap.size w w'
set_option maxRecDepth 100000 in
theorem reporters_walk (n : Int) (hn : 0 ≤ n ∧ n ≤ 1000) (w : World) :
    Calls Tryz.prog 21 #[.int .i64 n] w (RepRes n w) := by
  have b1 := (Below.refl w.heap.size w).alloc (Nat.le_refl _) (.cells #[.slice (some ⟨w.heap.size + 1, 0, none⟩) 1 1] 34)
  have h1 := Bx.new w 34 [.slice (some ⟨w.heap.size + 1, 0, none⟩) 1 1]
  change Bx (w.alloc (.cells #[.slice (some ⟨w.heap.size + 1, 0, none⟩) 1 1] 34)) _ _ _ at h1
  have hs : (w.alloc (.cells #[.slice (some ⟨w.heap.size + 1, 0, none⟩) 1 1] 34)).heap.size = w.heap.size + 1 := by simp
  have b2 := b1.alloc b1.size (.cells #[.int .i64 3, .int .i64 n, .int .i64 0, .string ⟨#[]⟩, .string ⟨#[]⟩, .slice none 0 0] 57)
  have h2 := h1.alloc (.cells #[.int .i64 3, .int .i64 n, .int .i64 0, .string ⟨#[]⟩, .string ⟨#[]⟩, .slice none 0 0] 57)
  have hR : Rd ((w.alloc (.cells #[.slice (some ⟨w.heap.size + 1, 0, none⟩) 1 1] 34)).alloc (.cells #[.int .i64 3, .int .i64 n, .int .i64 0, .string ⟨#[]⟩, .string ⟨#[]⟩, .slice none 0 0] 57)) (some ⟨w.heap.size + 1, 0, none⟩) (rowsC trC [repT n]) := Rd.mk fun j u hj => by rw [Nat.zero_add, World.cell?_alloc_at _ _ _ _ hs.symm]; simpa [rowsC, trC, repT] using hj
  have HR := Lib.hid hR
  have H2 := Lib.hid h2
  have B2 := Lib.hid b2
  clear h1 b1 h2 b2 hR hs
  go_enter Tryz.func21, Tryz.ntmps21
  go_wp2_with fail
  refine bodyPost_ret (Cond.ret (t := 2) rfl _ rfl H2.out) rfl ⟨w.heap.size + 1, rfl, ⟨HR.out, fun t ht => ?_, fun t ht => ?_⟩, B2.out⟩
  · rw [List.mem_singleton.1 ht]; exact Rd.nil _ _
  · rw [List.mem_singleton.1 ht]
    exact term_in 3 n 0 [] [] [] none 0 (by omega) (by omega) (by omega) (by simp) (by simp) (by simp) (by simp) (by simp)
end Go.Proofs.YtejdaeonknpgeaaGreatDoor
