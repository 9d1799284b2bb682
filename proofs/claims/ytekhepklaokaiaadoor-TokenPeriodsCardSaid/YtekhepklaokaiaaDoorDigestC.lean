/- The constants and the beginning. -/
import Derived.Test.YtekhepklaokaiaaDoorDigestR
import Derived.Test.YtekhepklaokaiaaDoorDigestS
import Derived.Laws.Tables
namespace Go.Proofs.YtekhepklaokaiaaDoor
open Go.RowKit
set_option maxRecDepth 100000 in
theorem begin_walk (w : World) : Calls Tryd.prog 50 #[] w fun e w' => e = .returned (.agg (u32s H0).toArray) ∧ Below w.heap.size w w' := by
  go_enter Tryd.func50, Tryd.ntmps50
  go_wp2
  refine bodyPost_ret (results_cell_row rfl _ _ w.heap.size _ (u32s H0).toArray _ _ rfl (heap_alloc_new w _) Tryd.underlying79 rfl (by kernel_rfl)) rfl ⟨rfl, (Below.refl _ _).alloc (Nat.le_refl _) _⟩
set_option maxRecDepth 100000 in
theorem constants_walk (w : World) : Calls Tryd.prog 51 #[] w fun e w' => e = .returned (.pointer (some ⟨w.heap.size, 0, none⟩)) ∧ Wd w' w.heap.size 88 KS ∧ Below w.heap.size w w' := by
  go_enter Tryd.func51, Tryd.ntmps51
  go_wp2_with (refine wpList_build rfl _ _ rfl ?hf ?_)
  case hf => kernel_rfl
  generalize hA : Option.getD (Program.built _ _ _) _ = A
  have hA' : A = (u32s KS).toArray := by rw [← hA]; kernel_rfl
  clear hA
  subst hA'
  go_wp2
  go_ret
  exact ⟨rfl, heap_alloc_new w _, (Below.refl _ _).alloc (Nat.le_refl _) _⟩
end Go.Proofs.YtekhepklaokaiaaDoor
