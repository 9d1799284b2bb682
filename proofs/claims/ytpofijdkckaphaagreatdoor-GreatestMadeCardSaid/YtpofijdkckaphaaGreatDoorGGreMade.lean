/- For every input the law GreatestMade returns true: the functions of layer 28 agree with the reference on made seats, on the greatest sets and rounds, on such in which something was changed, and on too many seats. The row's listed variables are tied to the program's text. -/
import Derived.Test.YtpofijdkckaphaaGreatDoorCards
import Derived.Test.YtpofijdkckaphaaGreatDoorTie
import Derived.Test.YtpofijdkckaphaaGreatDoorLaw
import Derived.Test.YtpofijdkckaphaaGreatDoorGGreMadeW
import Derived.Deep.DeepHandedRow
import Derived.Deep.DeepWitnessRowRef
import Derived.Lib.LaidTab
import Derived.LaidSub
import Derived.SevenTiedAt
namespace Go.Proofs.YtpofijdkckaphaaGreatDoor
open Go.ChangeShapes Go.WideShapes Go.ChangeAt Go.RowKit
theorem gTab : Tryz.prog.globalNamed "strings.asciiSpace" = some 0 := by kernel_rfl
theorem gTabType : (Tryz.prog.globals[0]?).map (·.type) = some 167 := by kernel_rfl
theorem cellsT : Tryz.prog.cellsOf 167 = 256 := by kernel_rfl
theorem cellsE : Tryz.prog.cellsOf 5 = 1 := by kernel_rfl
theorem laid_ascii : (Rows.greatestMadeRow.laid.filter fun x => x.1 == "strings.asciiSpace") = [("strings.asciiSpace", Lib.tabData .u8 Lib.asciiSpaceTab)] := by kernel_rfl
theorem spc_of {W : World} (h : laidMetH Tryz.prog Rows.greatestMadeRow.laid W) : Spc W := by
  have h1 : laidMet Tryz.prog Rows.greatestMadeRow.laid W := h
  have h2 := h1.filter fun x => x.1 == "strings.asciiSpace"
  rw [laid_ascii] at h2
  exact Lib.tabIs_of_head gTab gTabType Tryz.underlying167 Tryz.underlying5 cellsE cellsT h2
/-- a block's cells turned to these -/
def turned (cs : Array Value) : Obj → Obj
  | .cells _ t frozen => .cells cs t frozen
  | o => o
noncomputable def laidWorld (os : Os) : World :=
  { World.holding Tryz.prog os ⟨#[.cells ([9, 13, 1, 32, 133, 101, 160, 5760, 5600, 8192, 8202, 1, 8232, 8233, 1, 8239, 8287, 48, 12288, 12288, 1].map fun (z : Nat) => Value.int .u16 (z : Int)).toArray 186, .cells #[.slice (some ⟨(World.settled Tryz.prog os).heap.size, 0, none⟩) 7 7, .slice none 0 0, .int .i64 2] 183], #[], []⟩ with
    heap := (((World.holding Tryz.prog os ⟨#[.cells ([9, 13, 1, 32, 133, 101, 160, 5760, 5600, 8192, 8202, 1, 8232, 8233, 1, 8239, 8287, 48, 12288, 12288, 1].map fun (z : Nat) => Value.int .u16 (z : Int)).toArray 186, .cells #[.slice (some ⟨(World.settled Tryz.prog os).heap.size, 0, none⟩) 7 7, .slice none 0 0, .int .i64 2] 183], #[], []⟩).heap.modify 0 (turned (Lib.asciiSpaceTab.map fun z => Value.int .u8 z).toArray)).modify 1 (turned #[.pointer (some ⟨(World.settled Tryz.prog os).heap.size + 1, 0, none⟩)])) }
set_option maxRecDepth 100000 in
theorem laid_met (os : Os) : laidMet Tryz.prog Rows.greatestMadeRow.laid ((laidWorld os).forCall (fun _ _ => 0) ⟨#[], #[.slice none 0 0, .int .i64 0], []⟩).memory :=
  laidMet_of_run' 10 (by kernel_rfl) (by kernel_rfl)
theorem reads (os : Os) {H : Type} (enc : TypeId × Value → H) : ∃ places, DataW.whole enc Tryz.prog ((laidWorld os).forCall (fun _ _ => 0) ⟨#[], #[.slice none 0 0, .int .i64 0], []⟩).memory Tryz.f6.params.toList Rows.greatestMadeSpec.vars false #[Value.slice none 0 0, Value.int .i64 0].toList 8 = some ([.nil, .lit (.int .i64 0)], [], places) :=
  ⟨[], by kernel_rfl⟩
set_option maxRecDepth 100000 in
set_option maxHeartbeats 2000000 in
theorem greatestMade_lifted (os : Os) (started : os.Started) (H : Type) (enc : TypeId × Value → H) (F : Stop.Interp) :
    ReturnsInHanded {} Tryz.checked os 6 .any ((OpenSpec.ofChange Rows.greatestMadeSpec).preRow enc Tryz.prog Tryz.f6 Rows.greatestMadeRow.domain false Rows.greatestMadeRow.laid) (((OpenSpec.ofChange Rows.greatestMadeSpec).at F).post enc Tryz.prog Tryz.f6 false true false false) := by
  obtain ⟨places, hx⟩ := reads os enc
  refine returnsInHanded_of_row (C := Tryz.checked) (s := OpenSpec.ofChange Rows.greatestMadeSpec) (by kernel_rfl) started (by kernel_rfl) Tryz.func6
    (witness_row_atRef (enc := enc) (C := Tryz.checked) false (laidWorld os) #[.slice none 0 0, .int .i64 0] rfl (by kernel_rfl) (by kernel_rfl) (by kernel_rfl)
      (OpenSpec.preRow_of_cond 8 hx (by kernel_rfl) (fun k hk => by cases hk) (by kernel_rfl) (laid_met os))) ?_
  intro W base args ds gs before hval hW _ _ hsz hL _ _
  refine law_contract (C := Tryz.checked) (s := Rows.greatestMadeSpec) rfl (fun ds h => by match ds, h with | [_, _], _ => rfl) rfl Tryz.underlying4 (by kernel_rfl) (by kernel_rfl) W base args ds gs before hval hW hsz ?_
  intro h
  rw [Tryz.params6] at h
  obtain ⟨v0, l0, n0, m0, e0, e10, h0, h⟩ := h.cons
  obtain ⟨v1, l1, n1, m1, rfl, e11, h1, h⟩ := h.cons
  obtain rfl := h.nil
  obtain ⟨p0, a0, q0, rfl, r0, b0, d0, c0⟩ := h0.ints Tryz.underlying22 Tryz.underlying3 (by kernel_rfl) (by kernel_rfl)
  obtain ⟨a1, rfl, b1⟩ := h1.i64 Tryz.underlying3
  obtain rfl : args = #[.slice p0 a0.length q0, .int .i64 a1] := by cases args; simp_all
  exact made_law28_walk W p0 a0 q0 r0 (spc_of hL) d0 a1
theorem GreatestMade_said : Rows.GreatestMadeSaid :=
  OpenClaim.holds_of_cond 6 Tryz.f6 rfl rfl rfl rfl rfl rfl rfl ⟨rfl, rfl, rfl, rfl, rfl⟩ rfl rfl rfl rfl rfl (by kernel_rfl) Tryz.func6 (by kernel_rfl)
    (of_decide_eq_true (by kernel_rfl)) (by unfold Func.isWrapper; first | (rw [if_pos (by decide +kernel)]; kernel_rfl) | (rw [if_neg (by decide +kernel)]; exact ⟨rfl, rfl⟩))
    (fun os started H enc _ F => by rw [OpenClaim.pre_eq_preRow]; exact greatestMade_lifted os started H enc F)
theorem greatestMade_plain (f : FuncId) (fn : Func) (hf : Tryz.pinned.checked.prog.funcNamed "reportescrow/reportescrowlaw28.GreatestMade" = some f) (hfn : Tryz.pinned.checked.prog.funcs[f]? = some fn) :
    false = Tryz.pinned.checked.prog.looks [] ∧ ∀ (j : Nat) t, fn.params[j]? = some t → Tryz.pinned.checked.prog.wantsStandIn t = false := by
  obtain rfl : f = 6 := Option.some.inj ((show Tryz.prog.funcNamed "reportescrow/reportescrowlaw28.GreatestMade" = some 6 by kernel_rfl).symm.trans hf) |>.symm
  obtain rfl : fn = Tryz.f6 := (Option.some.inj (Tryz.func6.symm.trans hfn)).symm
  refine ⟨by kernel_rfl, fun j t ht => ?_⟩
  rw [Tryz.params6] at ht
  have hm := Array.mem_of_getElem? ht
  simp only [List.mem_toArray, List.mem_cons, List.not_mem_nil, or_false] at hm
  rcases hm with rfl | rfl
  · exact (show Tryz.prog.wantsStandIn 22 = false by kernel_rfl)
  · exact (show Tryz.prog.wantsStandIn 3 = false by kernel_rfl)
theorem GreatestMade_holds : Rows.GreatestMadeCardSaid :=
  Claim7.holds_tied_plain_at .later [] _ _ _ _ GreatestMade_said (fun _ h => by cases h) (by kernel_rfl) (fun _ h => by cases h) greatestMade_row_tie rfl ⟨rfl, rfl⟩ (by kernel_rfl) rfl greatestMade_plain (by kernel_rfl)
#print axioms GreatestMade_holds
end Go.Proofs.YtpofijdkckaphaaGreatDoor
