/- For every input the law GreatestRaw returns true: what all functions return for any few seats, sets and rounds, as the reference says it. The row's listed variables are tied to the program's text. -/
import Derived.Test.YtpofijdkckaphaaGreatDoorCards
import Derived.Test.YtpofijdkckaphaaGreatDoorTie
import Derived.Test.YtpofijdkckaphaaGreatDoorLaw
import Derived.Test.YtpofijdkckaphaaGreatDoorGLawSeat
import Derived.Deep.DeepHandedRow
import Derived.Deep.DeepWitnessRowRef
import Derived.Lib.LaidTab
import Derived.LaidSub
import Derived.SevenTiedAt
namespace Go.Proofs.YtpofijdkckaphaaGreatDoor
open Go.ChangeShapes Go.WideShapes Go.ChangeAt Go.RowKit
theorem gTab : Tryz.prog.globalNamed "strings.asciiSpace" = some 0 := by kernel_rfl
theorem gTabType : (Tryz.prog.globals[0]?).map (·.type) = some 167 := by kernel_rfl
theorem cellsT : Tryz.prog.cellsOf 167 = 256 := by kernel_rfl
theorem cellsE : Tryz.prog.cellsOf 5 = 1 := by kernel_rfl
theorem laid_ascii : (Rows.greatestRawRow.laid.filter fun x => x.1 == "strings.asciiSpace") = [("strings.asciiSpace", Lib.tabData .u8 Lib.asciiSpaceTab)] := by kernel_rfl
theorem spc_of {W : World} (h : laidMetH Tryz.prog Rows.greatestRawRow.laid W) : Spc W := by
  have h1 : laidMet Tryz.prog Rows.greatestRawRow.laid W := h
  have h2 := h1.filter fun x => x.1 == "strings.asciiSpace"
  rw [laid_ascii] at h2
  exact Lib.tabIs_of_head gTab gTabType Tryz.underlying167 Tryz.underlying5 cellsE cellsT h2
/-- a block's cells turned to these -/
def turned (cs : Array Value) : Obj → Obj
  | .cells _ t frozen => .cells cs t frozen
  | o => o
noncomputable def laidWorld (os : Os) : World :=
  { World.holding Tryz.prog os ⟨#[.cells ([9, 13, 1, 32, 133, 101, 160, 5760, 5600, 8192, 8202, 1, 8232, 8233, 1, 8239, 8287, 48, 12288, 12288, 1].map fun (z : Nat) => Value.int .u16 (z : Int)).toArray 186, .cells #[.slice (some ⟨(World.settled Tryz.prog os).heap.size, 0, none⟩) 7 7, .slice none 0 0, .int .i64 2] 183], #[], []⟩ with
    heap := (((World.holding Tryz.prog os ⟨#[.cells ([9, 13, 1, 32, 133, 101, 160, 5760, 5600, 8192, 8202, 1, 8232, 8233, 1, 8239, 8287, 48, 12288, 12288, 1].map fun (z : Nat) => Value.int .u16 (z : Int)).toArray 186, .cells #[.slice (some ⟨(World.settled Tryz.prog os).heap.size, 0, none⟩) 7 7, .slice none 0 0, .int .i64 2] 183], #[], []⟩).heap.modify 0 (turned (Lib.asciiSpaceTab.map fun z => Value.int .u8 z).toArray)).modify 1 (turned #[.pointer (some ⟨(World.settled Tryz.prog os).heap.size + 1, 0, none⟩)])) }
set_option maxRecDepth 100000 in
theorem laid_met (os : Os) : laidMet Tryz.prog Rows.greatestRawRow.laid ((laidWorld os).forCall (fun _ _ => 0) ⟨#[], #[.slice none 0 0, .slice none 0 0, .slice none 0 0], []⟩).memory :=
  laidMet_of_run' 10 (by kernel_rfl) (by kernel_rfl)
theorem reads (os : Os) {H : Type} (enc : TypeId × Value → H) : ∃ places, DataW.whole enc Tryz.prog ((laidWorld os).forCall (fun _ _ => 0) ⟨#[], #[.slice none 0 0, .slice none 0 0, .slice none 0 0], []⟩).memory Tryz.f5.params.toList Rows.greatestRawSpec.vars false #[Value.slice none 0 0, Value.slice none 0 0, Value.slice none 0 0].toList 8 = some ([.nil, .nil, .nil], [], places) :=
  ⟨[], by kernel_rfl⟩
set_option maxRecDepth 100000 in
set_option maxHeartbeats 2000000 in
theorem greatestRaw_lifted (os : Os) (started : os.Started) (H : Type) (enc : TypeId × Value → H) (F : Stop.Interp) :
    ReturnsInHanded {} Tryz.checked os 5 .any ((OpenSpec.ofChange Rows.greatestRawSpec).preRow enc Tryz.prog Tryz.f5 Rows.greatestRawRow.domain false Rows.greatestRawRow.laid) (((OpenSpec.ofChange Rows.greatestRawSpec).at F).post enc Tryz.prog Tryz.f5 false true false false) := by
  obtain ⟨places, hx⟩ := reads os enc
  refine returnsInHanded_of_row (C := Tryz.checked) (s := OpenSpec.ofChange Rows.greatestRawSpec) (by kernel_rfl) started (by kernel_rfl) Tryz.func5
    (witness_row_atRef (enc := enc) (C := Tryz.checked) false (laidWorld os) #[.slice none 0 0, .slice none 0 0, .slice none 0 0] rfl (by kernel_rfl) (by kernel_rfl) (by kernel_rfl)
      (OpenSpec.preRow_of_cond 8 hx (by kernel_rfl) (fun k hk => by cases hk) (by kernel_rfl) (laid_met os))) ?_
  intro W base args ds gs before hval hW _ _ hsz hL _ _
  refine law_contract (C := Tryz.checked) (s := Rows.greatestRawSpec) rfl (fun ds h => by match ds, h with | [_, _, _], _ => rfl) rfl Tryz.underlying4 (by kernel_rfl) (by kernel_rfl) W base args ds gs before hval hW hsz ?_
  intro h
  rw [Tryz.params5] at h
  obtain ⟨v0, l0, n0, m0, e0, e10, h0, h⟩ := h.cons
  obtain ⟨v1, l1, n1, m1, rfl, e11, h1, h⟩ := h.cons
  obtain ⟨v2, l2, n2, m2, rfl, e12, h2, h⟩ := h.cons
  obtain rfl := h.nil
  obtain ⟨p0, a0, q0, rfl, r0, b0, d0⟩ := reads_seats h0
  obtain ⟨p2, a2, q2, rfl, r2, b2, d2⟩ := reads_lists h2
  obtain ⟨p1, a1, q1, rfl, r1, b1, d1, c1⟩ := h1.ints Tryz.underlying22 Tryz.underlying3 (by kernel_rfl) (by kernel_rfl)
  obtain rfl : args = #[.slice p0 a0.length q0, .slice p1 a1.length q1, .slice p2 a2.length q2] := by cases args; simp_all
  exact raw28_walk W (spc_of hL) p0 a0 q0 r0 b0 d0 p1 a1 q1 r1 d1 p2 a2 q2 r2 b2 d2
theorem GreatestRaw_said : Rows.GreatestRawSaid :=
  OpenClaim.holds_of_cond 5 Tryz.f5 rfl rfl rfl rfl rfl rfl rfl ⟨rfl, rfl, rfl, rfl, rfl⟩ rfl rfl rfl rfl rfl (by kernel_rfl) Tryz.func5 (by kernel_rfl)
    (of_decide_eq_true (by kernel_rfl)) (by unfold Func.isWrapper; first | (rw [if_pos (by decide +kernel)]; kernel_rfl) | (rw [if_neg (by decide +kernel)]; exact ⟨rfl, rfl⟩))
    (fun os started H enc _ F => by rw [OpenClaim.pre_eq_preRow]; exact greatestRaw_lifted os started H enc F)
theorem greatestRaw_plain (f : FuncId) (fn : Func) (hf : Tryz.pinned.checked.prog.funcNamed "reportescrow/reportescrowlaw28.GreatestRaw" = some f) (hfn : Tryz.pinned.checked.prog.funcs[f]? = some fn) :
    false = Tryz.pinned.checked.prog.looks [] ∧ ∀ (j : Nat) t, fn.params[j]? = some t → Tryz.pinned.checked.prog.wantsStandIn t = false := by
  obtain rfl : f = 5 := Option.some.inj ((show Tryz.prog.funcNamed "reportescrow/reportescrowlaw28.GreatestRaw" = some 5 by kernel_rfl).symm.trans hf) |>.symm
  obtain rfl : fn = Tryz.f5 := (Option.some.inj (Tryz.func5.symm.trans hfn)).symm
  refine ⟨by kernel_rfl, fun j t ht => ?_⟩
  rw [Tryz.params5] at ht
  have hm := Array.mem_of_getElem? ht
  simp only [List.mem_toArray, List.mem_cons, List.not_mem_nil, or_false] at hm
  rcases hm with rfl | rfl | rfl
  · exact (show Tryz.prog.wantsStandIn 27 = false by kernel_rfl)
  · exact (show Tryz.prog.wantsStandIn 22 = false by kernel_rfl)
  · exact (show Tryz.prog.wantsStandIn 36 = false by kernel_rfl)
theorem GreatestRaw_holds : Rows.GreatestRawCardSaid :=
  Claim7.holds_tied_plain_at .later [] _ _ _ _ GreatestRaw_said (fun _ h => by cases h) (by kernel_rfl) (fun _ h => by cases h) greatestRaw_row_tie rfl ⟨rfl, rfl⟩ (by kernel_rfl) rfl greatestRaw_plain (by kernel_rfl)
#print axioms GreatestRaw_holds
end Go.Proofs.YtpofijdkckaphaaGreatDoor
