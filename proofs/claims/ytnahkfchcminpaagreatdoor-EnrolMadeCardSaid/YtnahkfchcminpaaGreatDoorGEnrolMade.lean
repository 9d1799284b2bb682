/- For every input the law EnrolMade returns true: all functions return what the reference returns, for made rolls, and people who sign what they should, or something else. The row's listed variables are tied to the program's text. -/
import Derived.Test.YtnahkfchcminpaaGreatDoorCards
import Derived.Test.YtnahkfchcminpaaGreatDoorTie
import Derived.Test.YtnahkfchcminpaaGreatDoorLaw
import Derived.Test.YtnahkfchcminpaaGreatDoorGEnrMadeW
import Derived.Deep.DeepHandedRow
import Derived.Lib.LaidTab
import Derived.SevenTiedAt
namespace Go.Proofs.YtnahkfchcminpaaGreatDoor
open Go.ChangeShapes Go.WideShapes Go.ChangeAt Go.RowKit
theorem u8_nat {n : Int} (h : (Lit.int .u8 n).wf = true) : ∃ m : Nat, n = (m : Int) ∧ m < 256 := by
  simp only [Lit.wf, Bool.and_eq_true, decide_eq_true_eq] at h
  have h1 : IntKind.u8.min = 0 := rfl
  have h2 : IntKind.u8.max = 255 := rfl
  exact ⟨n.toNat, by omega, by omega⟩
theorem u16_nat {n : Int} (h : (Lit.int .u16 n).wf = true) : ∃ m : Nat, n = (m : Int) ∧ m < 65536 := by
  simp only [Lit.wf, Bool.and_eq_true, decide_eq_true_eq] at h
  have h1 : IntKind.u16.min = 0 := rfl
  have h2 : IntKind.u16.max = 65535 := rfl
  exact ⟨n.toNat, by omega, by omega⟩
theorem gTab : Tryz.prog.globalNamed "reportescrow/field.bases" = some 0 := by kernel_rfl
theorem gTabType : (Tryz.prog.globals[0]?).map (·.type) = some 110 := by kernel_rfl
theorem cellsT : Tryz.prog.cellsOf 110 = 4 := by kernel_rfl
theorem cellsE : Tryz.prog.cellsOf 3 = 1 := by kernel_rfl
theorem table {W : World} (h : laidMetH Tryz.prog Rows.enrolMadeRow.laid W) : Lib.TabIs Tryz.prog W "reportescrow/field.bases" .i64 [2, 3, 5, 7] :=
  Lib.tabIs_of_head (rest := []) gTab gTabType Tryz.underlying110 Tryz.underlying3 cellsE cellsT h
theorem bases_of {W : World} (h : laidMetH Tryz.prog Rows.enrolMadeRow.laid W) : Bases W :=
  ⟨(table h).cell gTab 0 (by decide), (table h).cell gTab 1 (by decide), (table h).cell gTab 2 (by decide), (table h).cell gTab 3 (by decide)⟩
/-- a block's cells turned to these -/
def turned (cs : Array Value) : Obj → Obj
  | .cells _ t frozen => .cells cs t frozen
  | o => o
noncomputable def laidWorld (os : Os) : World :=
  { World.holding Tryz.prog os ⟨#[], #[], []⟩ with heap := ((World.holding Tryz.prog os ⟨#[], #[], []⟩).heap.modify 0 (turned #[.int .i64 2, .int .i64 3, .int .i64 5, .int .i64 7])) }
set_option maxRecDepth 100000 in
theorem laid_met (os : Os) : laidMet Tryz.prog Rows.enrolMadeRow.laid ((laidWorld os).forCall (fun _ _ => 0) ⟨#[], #[.slice none 0 0, .int .i64 0], []⟩).memory :=
  laidMet_of_run' 8 (by kernel_rfl) (by kernel_rfl)
theorem reads (os : Os) {H : Type} (enc : TypeId × Value → H) : ∃ places, DataW.whole enc Tryz.prog ((laidWorld os).forCall (fun _ _ => 0) ⟨#[], #[.slice none 0 0, .int .i64 0], []⟩).memory Tryz.f5.params.toList Rows.enrolMadeSpec.vars false #[Value.slice none 0 0, Value.int .i64 0].toList 8 = some ([.nil, .lit (.int .i64 0)], [], places) :=
  ⟨[], by kernel_rfl⟩
set_option maxRecDepth 100000 in
set_option maxHeartbeats 2000000 in
theorem enrolMade_lifted (os : Os) (started : os.Started) (H : Type) (enc : TypeId × Value → H) (F : Stop.Interp) :
    ReturnsInHanded {} Tryz.checked os 5 .any ((OpenSpec.ofChange Rows.enrolMadeSpec).preRow enc Tryz.prog Tryz.f5 Rows.enrolMadeRow.domain false Rows.enrolMadeRow.laid) (((OpenSpec.ofChange Rows.enrolMadeSpec).at F).post enc Tryz.prog Tryz.f5 false true false false) := by
  obtain ⟨places, hx⟩ := reads os enc
  refine returnsInHanded_of_row (C := Tryz.checked) (s := OpenSpec.ofChange Rows.enrolMadeSpec) (by kernel_rfl) started (by kernel_rfl) Tryz.func5
    (witness_row_at (enc := enc) (C := Tryz.checked) false (laidWorld os) #[.slice none 0 0, .int .i64 0] rfl (by kernel_rfl) (by kernel_rfl) (by kernel_rfl)
      (OpenSpec.preRow_of_cond 8 hx (by kernel_rfl) (fun k hk => by cases hk) (by kernel_rfl) (laid_met os))) ?_
  intro W base args ds gs before hval hW _ _ hsz hL _ _
  refine law_contract (C := Tryz.checked) (s := Rows.enrolMadeSpec) rfl (fun ds h => by match ds, h with | [_, _], _ => rfl) rfl Tryz.underlying4 (by kernel_rfl) (by kernel_rfl) W base args ds gs before hval hW hsz ?_
  intro h
  rw [Tryz.params5] at h
  obtain ⟨v0, l0, n0, m0, e0, e10, h0, h⟩ := h.cons
  obtain ⟨v1, l1, n1, m1, rfl, e11, h1, h⟩ := h.cons
  obtain rfl := h.nil
  obtain ⟨p0, a0, q0, rfl, r0, b0, d0, c0⟩ := h0.ints Tryz.underlying22 Tryz.underlying3 (by kernel_rfl) (by kernel_rfl)
  obtain ⟨a1, rfl, b1⟩ := h1.i64 Tryz.underlying3
  obtain rfl : args = #[.slice p0 a0.length q0, .int .i64 a1] := by cases args; simp_all
  exact emade_walk W (bases_of hL) p0 a0 q0 r0 d0 a1 b1
theorem EnrolMade_said : Rows.EnrolMadeSaid :=
  OpenClaim.holds_of_cond 5 Tryz.f5 rfl rfl rfl rfl rfl rfl rfl ⟨rfl, rfl, rfl, rfl, rfl⟩ rfl rfl rfl rfl rfl (by kernel_rfl) Tryz.func5 (by kernel_rfl)
    (of_decide_eq_true (by kernel_rfl)) (by unfold Func.isWrapper; first | (rw [if_pos (by decide +kernel)]; kernel_rfl) | (rw [if_neg (by decide +kernel)]; exact ⟨rfl, rfl⟩))
    (fun os started H enc _ F => by rw [OpenClaim.pre_eq_preRow]; exact enrolMade_lifted os started H enc F)
theorem enrolMade_plain (f : FuncId) (fn : Func) (hf : Tryz.pinned.checked.prog.funcNamed "reportescrow/reportescrowlaw23.EnrolMade" = some f) (hfn : Tryz.pinned.checked.prog.funcs[f]? = some fn) :
    false = Tryz.pinned.checked.prog.looks [] ∧ ∀ (j : Nat) t, fn.params[j]? = some t → Tryz.pinned.checked.prog.wantsStandIn t = false := by
  obtain rfl : f = 5 := Option.some.inj ((show Tryz.prog.funcNamed "reportescrow/reportescrowlaw23.EnrolMade" = some 5 by kernel_rfl).symm.trans hf) |>.symm
  obtain rfl : fn = Tryz.f5 := (Option.some.inj (Tryz.func5.symm.trans hfn)).symm
  refine ⟨by kernel_rfl, fun j t ht => ?_⟩
  rw [Tryz.params5] at ht
  have hm := Array.mem_of_getElem? ht
  simp only [List.mem_toArray, List.mem_cons, List.not_mem_nil, or_false] at hm
  rcases hm with rfl | rfl
  · exact (show Tryz.prog.wantsStandIn 22 = false by kernel_rfl)
  · exact (show Tryz.prog.wantsStandIn 3 = false by kernel_rfl)
theorem EnrolMade_holds : Rows.EnrolMadeCardSaid :=
  Claim7.holds_tied_plain_at .later [] _ _ _ _ EnrolMade_said (fun _ h => by cases h) (by kernel_rfl) (fun _ h => by cases h) enrolMade_row_tie rfl ⟨rfl, rfl⟩ (by kernel_rfl) rfl enrolMade_plain (by kernel_rfl)
#print axioms EnrolMade_holds
end Go.Proofs.YtnahkfchcminpaaGreatDoor
