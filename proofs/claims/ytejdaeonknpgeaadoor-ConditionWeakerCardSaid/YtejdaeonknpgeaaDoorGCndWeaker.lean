/- For every input the law ConditionWeaker returns true: which conditions are weaker than others in their form, as the reference says it. The row's listed variables are tied to the program's text. -/
import Derived.Test.YtejdaeonknpgeaaDoorCards
import Derived.Test.YtejdaeonknpgeaaDoorTie
import Derived.Test.YtejdaeonknpgeaaDoorLaw
import Derived.Test.YtejdaeonknpgeaaDoorGCndWW
import Derived.Deep.DeepHandedRow
import Derived.Deep.DeepWitnessRowRef
import Derived.Lib.LaidTab
import Derived.LaidSub
import Derived.SevenTiedAt
namespace Go.Proofs.YtejdaeonknpgeaaDoor
open Go.ChangeShapes Go.WideShapes Go.ChangeAt Go.RowKit
theorem gTab : Tryd.prog.globalNamed "strings.asciiSpace" = some 0 := by kernel_rfl
theorem gTabType : (Tryd.prog.globals[0]?).map (·.type) = some 111 := by kernel_rfl
theorem cellsT : Tryd.prog.cellsOf 111 = 256 := by kernel_rfl
theorem cellsE : Tryd.prog.cellsOf 5 = 1 := by kernel_rfl
theorem laid_ascii : (Rows.conditionWeakerRow.laid.filter fun x => x.1 == "strings.asciiSpace") = [("strings.asciiSpace", Lib.tabData .u8 Lib.asciiSpaceTab)] := by kernel_rfl
theorem spc_of {W : World} (h : laidMetH Tryd.prog Rows.conditionWeakerRow.laid W) : Spc W := by
  have h1 : laidMet Tryd.prog Rows.conditionWeakerRow.laid W := h
  have h2 := h1.filter fun x => x.1 == "strings.asciiSpace"
  rw [laid_ascii] at h2
  exact Lib.tabIs_of_head gTab gTabType Tryd.underlying111 Tryd.underlying5 cellsE cellsT h2
/-- a block's cells turned to these -/
def turned (cs : Array Value) : Obj → Obj
  | .cells _ t frozen => .cells cs t frozen
  | o => o
noncomputable def laidWorld (os : Os) : World :=
  { World.holding Tryd.prog os ⟨#[.cells ([9, 13, 1, 32, 133, 101, 160, 5760, 5600, 8192, 8202, 1, 8232, 8233, 1, 8239, 8287, 48, 12288, 12288, 1].map fun (z : Nat) => Value.int .u16 (z : Int)).toArray 129, .cells #[.slice (some ⟨(World.settled Tryd.prog os).heap.size, 0, none⟩) 7 7, .slice none 0 0, .int .i64 2] 126], #[], []⟩ with
    heap := (((World.holding Tryd.prog os ⟨#[.cells ([9, 13, 1, 32, 133, 101, 160, 5760, 5600, 8192, 8202, 1, 8232, 8233, 1, 8239, 8287, 48, 12288, 12288, 1].map fun (z : Nat) => Value.int .u16 (z : Int)).toArray 129, .cells #[.slice (some ⟨(World.settled Tryd.prog os).heap.size, 0, none⟩) 7 7, .slice none 0 0, .int .i64 2] 126], #[], []⟩).heap.modify 0 (turned (Lib.asciiSpaceTab.map fun z => Value.int .u8 z).toArray)).modify 1 (turned #[.pointer (some ⟨(World.settled Tryd.prog os).heap.size + 1, 0, none⟩)])) }
set_option maxRecDepth 100000 in
theorem laid_met (os : Os) : laidMet Tryd.prog Rows.conditionWeakerRow.laid ((laidWorld os).forCall (fun _ _ => 0) ⟨#[], #[.slice none 0 0], []⟩).memory :=
  laidMet_of_run' 10 (by kernel_rfl) (by kernel_rfl)
theorem reads (os : Os) {H : Type} (enc : TypeId × Value → H) : ∃ places, DataW.whole enc Tryd.prog ((laidWorld os).forCall (fun _ _ => 0) ⟨#[], #[.slice none 0 0], []⟩).memory Tryd.f3.params.toList Rows.conditionWeakerSpec.vars false #[Value.slice none 0 0].toList 8 = some ([.nil], [], places) :=
  ⟨[], by kernel_rfl⟩
set_option maxRecDepth 100000 in
set_option maxHeartbeats 2000000 in
theorem conditionWeaker_lifted (os : Os) (started : os.Started) (H : Type) (enc : TypeId × Value → H) (F : Stop.Interp) :
    ReturnsInHanded {} Tryd.checked os 3 .any ((OpenSpec.ofChange Rows.conditionWeakerSpec).preRow enc Tryd.prog Tryd.f3 Rows.conditionWeakerRow.domain false Rows.conditionWeakerRow.laid) (((OpenSpec.ofChange Rows.conditionWeakerSpec).at F).post enc Tryd.prog Tryd.f3 false true false false) := by
  obtain ⟨places, hx⟩ := reads os enc
  refine returnsInHanded_of_row (C := Tryd.checked) (s := OpenSpec.ofChange Rows.conditionWeakerSpec) (by kernel_rfl) started (by kernel_rfl) Tryd.func3
    (witness_row_atRef (enc := enc) (C := Tryd.checked) false (laidWorld os) #[.slice none 0 0] rfl (by kernel_rfl) (by kernel_rfl) (by kernel_rfl)
      (OpenSpec.preRow_of_cond 8 hx (by kernel_rfl) (fun k hk => by cases hk) (by kernel_rfl) (laid_met os))) ?_
  intro W base args ds gs before hval hW _ _ hsz hL _ _
  refine law_contract (C := Tryd.checked) (s := Rows.conditionWeakerSpec) rfl (fun ds h => by match ds, h with | [_], _ => rfl) rfl Tryd.underlying4 (by kernel_rfl) (by kernel_rfl) W base args ds gs before hval hW hsz ?_
  intro h
  rw [Tryd.params3] at h
  obtain ⟨v0, l0, n0, m0, e0, e10, h0, h⟩ := h.cons
  obtain rfl := h.nil
  obtain ⟨p0, a0, q0, rfl, r0, b0, d0, c0⟩ := h0.ints Tryd.underlying22 Tryd.underlying3 (by kernel_rfl) (by kernel_rfl)
  obtain rfl : args = #[.slice p0 a0.length q0] := by cases args; simp_all
  exact weaker17_walk W p0 a0 q0 r0 (spc_of hL) d0
theorem ConditionWeaker_said : Rows.ConditionWeakerSaid :=
  OpenClaim.holds_of_cond 3 Tryd.f3 rfl rfl rfl rfl rfl rfl rfl ⟨rfl, rfl, rfl, rfl, rfl⟩ rfl rfl rfl rfl rfl (by kernel_rfl) Tryd.func3 (by kernel_rfl)
    (of_decide_eq_true (by kernel_rfl)) (by unfold Func.isWrapper; first | (rw [if_pos (by decide +kernel)]; kernel_rfl) | (rw [if_neg (by decide +kernel)]; exact ⟨rfl, rfl⟩))
    (fun os started H enc _ F => by rw [OpenClaim.pre_eq_preRow]; exact conditionWeaker_lifted os started H enc F)
theorem conditionWeaker_plain (f : FuncId) (fn : Func) (hf : Tryd.pinned.checked.prog.funcNamed "reportescrow/reportescrowlaw17.ConditionWeaker" = some f) (hfn : Tryd.pinned.checked.prog.funcs[f]? = some fn) :
    false = Tryd.pinned.checked.prog.looks [] ∧ ∀ (j : Nat) t, fn.params[j]? = some t → Tryd.pinned.checked.prog.wantsStandIn t = false := by
  obtain rfl : f = 3 := Option.some.inj ((show Tryd.prog.funcNamed "reportescrow/reportescrowlaw17.ConditionWeaker" = some 3 by kernel_rfl).symm.trans hf) |>.symm
  obtain rfl : fn = Tryd.f3 := (Option.some.inj (Tryd.func3.symm.trans hfn)).symm
  refine ⟨by kernel_rfl, fun j t ht => ?_⟩
  rw [Tryd.params3] at ht
  have hm := Array.mem_of_getElem? ht
  simp only [List.mem_toArray, List.mem_cons, List.not_mem_nil, or_false] at hm
  rcases hm with rfl
  · exact (show Tryd.prog.wantsStandIn 22 = false by kernel_rfl)
theorem ConditionWeaker_holds : Rows.ConditionWeakerCardSaid :=
  Claim7.holds_tied_plain_at .later [] _ _ _ _ ConditionWeaker_said (fun _ h => by cases h) (by kernel_rfl) (fun _ h => by cases h) conditionWeaker_row_tie rfl ⟨rfl, rfl⟩ (by kernel_rfl) rfl conditionWeaker_plain (by kernel_rfl)
#print axioms ConditionWeaker_holds
end Go.Proofs.YtejdaeonknpgeaaDoor
