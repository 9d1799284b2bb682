/- The constants and the beginning. -/
import Derived.Test.YtnlhcfhngdahlaaDigestR
import Derived.Test.YtnlhcfhngdahlaaDigestS
import Derived.Laws.Tables
namespace Go.Proofs.Ytnlhcfhngdahlaa
open Go.RowKit
set_option maxRecDepth 100000 in
theorem begin_walk (w : World) : Calls Try.prog 47 #[] w fun e w' => e = .returned (.agg (u32s H0).toArray) ∧ Below w.heap.size w w' := by
  go_enter Try.func47, Try.ntmps47
  go_wp2
  refine bodyPost_ret (results_cell_row rfl _ _ w.heap.size _ (u32s H0).toArray _ _ rfl (heap_alloc_new w _) Try.underlying74 rfl (by kernel_rfl)) rfl ⟨rfl, (Below.refl _ _).alloc (Nat.le_refl _) _⟩
set_option maxRecDepth 100000 in
theorem first_walk (w : World) : Calls Try.prog 38 #[] w fun e w' => e = .returned (.agg (u32s H0).toArray) ∧ Below w.heap.size w w' := by
  go_enter Try.func38, Try.ntmps38
  go_wp2
  refine bodyPost_ret (results_cell_row rfl _ _ w.heap.size _ (u32s H0).toArray _ _ rfl (heap_alloc_new w _) Try.underlying63 rfl (by kernel_rfl)) rfl ⟨rfl, (Below.refl _ _).alloc (Nat.le_refl _) _⟩
set_option maxRecDepth 100000 in
theorem constants_walk (w : World) : Calls Try.prog 48 #[] w fun e w' => e = .returned (.pointer (some ⟨w.heap.size, 0, none⟩)) ∧ Wd w' w.heap.size 65 KS ∧ Below w.heap.size w w' := by
  go_enter Try.func48, Try.ntmps48
  go_wp2_with (refine wpList_build rfl _ _ rfl ?hf ?_)
  case hf => kernel_rfl
  generalize hA : Option.getD (Program.built _ _ _) _ = A
  have hA' : A = (u32s KS).toArray := by rw [← hA]; kernel_rfl
  clear hA
  subst hA'
  go_wp2
  go_ret
  exact ⟨rfl, heap_alloc_new w _, (Below.refl _ _).alloc (Nat.le_refl _) _⟩
set_option maxRecDepth 100000 in
set_option maxHeartbeats 1000000 in
theorem rconstants_walk (w : World) : Calls Try.prog 39 #[] w fun e w' => e = .returned (.agg (u32s KS).toArray) ∧ Below w.heap.size w w' := by
  go_enter Try.func39, Try.ntmps39
  go_wp2_with (refine wpList_build rfl _ _ rfl ?hf ?_)
  case hf => kernel_rfl
  generalize hA : Option.getD (Program.built _ _ _) _ = A
  have hA' : A = (u32s KS).toArray := by rw [← hA]; kernel_rfl
  clear hA
  subst hA'
  go_wp2
  rw [run_storeCells_from (P := Try.prog) w.heap.size 65 (u32s KS) 0 _ _ (heap_alloc_new w _) (by kernel_rfl) (by intro v hv; obtain ⟨_, _, rfl⟩ := List.mem_map.1 hv; rfl)]
  generalize hw2 : World.setRow _ _ _ = w2
  have hW : w2.heap[w.heap.size]? = some (.cells (u32s KS).toArray 65 (0, 0)) := by rw [← hw2]; exact setRow_heap _ _ _ _ _ _ (heap_alloc_new w _)
  have hB : Below w.heap.size w w2 := by
    rw [← hw2]
    exact ⟨rfl, rfl, rfl, by simp, fun k hk => (setRow_other _ _ _ _ (by omega)).trans (Below.heap_alloc w _ k hk)⟩
  clear hw2
  simp only [Result.andThen]
  go_wp2
  refine bodyPost_ret (results_cell_row rfl _ _ w.heap.size _ (u32s KS).toArray _ _ rfl hW Try.underlying65 rfl (by kernel_rfl)) rfl ⟨rfl, hB⟩
end Go.Proofs.Ytnlhcfhngdahlaa
