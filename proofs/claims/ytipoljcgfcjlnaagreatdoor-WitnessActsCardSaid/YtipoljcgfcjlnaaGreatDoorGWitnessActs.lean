/- For every input the law WitnessActs returns true: stamps, which ones are right, follow or contradict others, and which chains they cover, or the error. The row's listed variables are tied to the program's text. -/
import Derived.Test.YtipoljcgfcjlnaaGreatDoorCards
import Derived.Test.YtipoljcgfcjlnaaGreatDoorTie
import Derived.Test.YtipoljcgfcjlnaaGreatDoorLaw
import Derived.Test.YtipoljcgfcjlnaaGreatDoorGLawStamp
import Derived.Deep.DeepHandedRow
import Derived.Lib.LaidTab
import Derived.SevenTiedAt
namespace Go.Proofs.YtipoljcgfcjlnaaGreatDoor
open Go.ChangeShapes Go.WideShapes Go.ChangeAt Go.RowKit
theorem u8_nat {n : Int} (h : (Lit.int .u8 n).wf = true) : ∃ m : Nat, n = (m : Int) ∧ m < 256 := by
  simp only [Lit.wf, Bool.and_eq_true, decide_eq_true_eq] at h
  have h1 : IntKind.u8.min = 0 := rfl
  have h2 : IntKind.u8.max = 255 := rfl
  exact ⟨n.toNat, by omega, by omega⟩
theorem u16_nat {n : Int} (h : (Lit.int .u16 n).wf = true) : ∃ m : Nat, n = (m : Int) ∧ m < 65536 := by
  simp only [Lit.wf, Bool.and_eq_true, decide_eq_true_eq] at h
  have h1 : IntKind.u16.min = 0 := rfl
  have h2 : IntKind.u16.max = 65535 := rfl
  exact ⟨n.toNat, by omega, by omega⟩
theorem gTab : Tryz.prog.globalNamed "reportescrow/field.bases" = some 0 := by kernel_rfl
theorem gTabType : (Tryz.prog.globals[0]?).map (·.type) = some 99 := by kernel_rfl
theorem cellsT : Tryz.prog.cellsOf 99 = 4 := by kernel_rfl
theorem cellsE : Tryz.prog.cellsOf 3 = 1 := by kernel_rfl
theorem table {W : World} (h : laidMetH Tryz.prog Rows.witnessActsRow.laid W) : Lib.TabIs Tryz.prog W "reportescrow/field.bases" .i64 [2, 3, 5, 7] :=
  Lib.tabIs_of_head (rest := []) gTab gTabType Tryz.underlying99 Tryz.underlying3 cellsE cellsT h
theorem bases_of {W : World} (h : laidMetH Tryz.prog Rows.witnessActsRow.laid W) : Bases W :=
  ⟨(table h).cell gTab 0 (by decide), (table h).cell gTab 1 (by decide), (table h).cell gTab 2 (by decide), (table h).cell gTab 3 (by decide)⟩
/-- a block's cells turned to these -/
def turned (cs : Array Value) : Obj → Obj
  | .cells _ t frozen => .cells cs t frozen
  | o => o
noncomputable def laidWorld (os : Os) : World :=
  { World.holding Tryz.prog os ⟨#[], #[], []⟩ with heap := ((World.holding Tryz.prog os ⟨#[], #[], []⟩).heap.modify 0 (turned #[.int .i64 2, .int .i64 3, .int .i64 5, .int .i64 7])) }
set_option maxRecDepth 100000 in
theorem laid_met (os : Os) : laidMet Tryz.prog Rows.witnessActsRow.laid ((laidWorld os).forCall (fun _ _ => 0) ⟨#[], #[.slice none 0 0, .int .i64 0, .agg #[.int .i64 0, .string ByteArray.empty, .string ByteArray.empty, .int .i64 0, .int .i64 0, .int .i64 0, .int .i64 0, .int .i64 0], .int .i64 0, .int .i64 0, .int .i64 0], []⟩).memory :=
  laidMet_of_run' 8 (by kernel_rfl) (by kernel_rfl)
theorem reads (os : Os) {H : Type} (enc : TypeId × Value → H) : ∃ places, DataW.whole enc Tryz.prog ((laidWorld os).forCall (fun _ _ => 0) ⟨#[], #[.slice none 0 0, .int .i64 0, .agg #[.int .i64 0, .string ByteArray.empty, .string ByteArray.empty, .int .i64 0, .int .i64 0, .int .i64 0, .int .i64 0, .int .i64 0], .int .i64 0, .int .i64 0, .int .i64 0], []⟩).memory Tryz.f3.params.toList Rows.witnessActsSpec.vars false #[Value.slice none 0 0, Value.int .i64 0, Value.agg #[.int .i64 0, .string ByteArray.empty, .string ByteArray.empty, .int .i64 0, .int .i64 0, .int .i64 0, .int .i64 0, .int .i64 0], Value.int .i64 0, Value.int .i64 0, Value.int .i64 0].toList 8 = some ([.nil, .lit (.int .i64 0), .agg [.agg [.lit (.int .i64 0), .lit (.string []), .lit (.string []), .lit (.int .i64 0)], .lit (.int .i64 0), .lit (.int .i64 0), .agg [.lit (.int .i64 0), .lit (.int .i64 0)]], .lit (.int .i64 0), .lit (.int .i64 0), .lit (.int .i64 0)], [], places) :=
  ⟨[], by kernel_rfl⟩
set_option maxRecDepth 100000 in
set_option maxHeartbeats 2000000 in
theorem witnessActs_lifted (os : Os) (started : os.Started) (H : Type) (enc : TypeId × Value → H) (F : Stop.Interp) :
    ReturnsInHanded {} Tryz.checked os 3 .any ((OpenSpec.ofChange Rows.witnessActsSpec).preRow enc Tryz.prog Tryz.f3 Rows.witnessActsRow.domain false Rows.witnessActsRow.laid) (((OpenSpec.ofChange Rows.witnessActsSpec).at F).post enc Tryz.prog Tryz.f3 false true false false) := by
  obtain ⟨places, hx⟩ := reads os enc
  refine returnsInHanded_of_row (C := Tryz.checked) (s := OpenSpec.ofChange Rows.witnessActsSpec) (by kernel_rfl) started (by kernel_rfl) Tryz.func3
    (witness_row_at (enc := enc) (C := Tryz.checked) false (laidWorld os) #[.slice none 0 0, .int .i64 0, .agg #[.int .i64 0, .string ByteArray.empty, .string ByteArray.empty, .int .i64 0, .int .i64 0, .int .i64 0, .int .i64 0, .int .i64 0], .int .i64 0, .int .i64 0, .int .i64 0] rfl (by kernel_rfl) (by kernel_rfl) (by kernel_rfl)
      (OpenSpec.preRow_of_cond 8 hx (by kernel_rfl) (fun k hk => by cases hk) (by kernel_rfl) (laid_met os))) ?_
  intro W base args ds gs before hval hW _ _ hsz hL _ _
  refine law_contract (C := Tryz.checked) (s := Rows.witnessActsSpec) rfl (fun ds h => by match ds, h with | [_, _, _, _, _, _], _ => rfl) rfl Tryz.underlying4 (by kernel_rfl) (by kernel_rfl) W base args ds gs before hval hW hsz ?_
  intro h
  rw [Tryz.params3] at h
  obtain ⟨v0, l0, n0, m0, e0, e10, h0, h⟩ := h.cons
  obtain ⟨v1, l1, n1, m1, rfl, e11, h1, h⟩ := h.cons
  obtain ⟨v2, l2, n2, m2, rfl, e12, h2, h⟩ := h.cons
  obtain ⟨v3, l3, n3, m3, rfl, e13, h3, h⟩ := h.cons
  obtain ⟨v4, l4, n4, m4, rfl, e14, h4, h⟩ := h.cons
  obtain ⟨v5, l5, n5, m5, rfl, e15, h5, h⟩ := h.cons
  obtain rfl := h.nil
  obtain ⟨p0, a0, q0, rfl, r0, b0, d0, c0⟩ := h0.ints Tryz.underlying22 Tryz.underlying3 (by kernel_rfl) (by kernel_rfl)
  obtain ⟨a1, rfl, b1⟩ := h1.i64 Tryz.underlying3
  obtain ⟨x2, rfl, r2, u2, o2, w2, z2⟩ := reads_stamp h2
  obtain ⟨a3, rfl, b3⟩ := h3.i64 Tryz.underlying3
  obtain ⟨a4, rfl, b4⟩ := h4.i64 Tryz.underlying3
  obtain ⟨a5, rfl, b5⟩ := h5.i64 Tryz.underlying3
  obtain rfl : args = #[.slice p0 a0.length q0, .int .i64 a1, x2.val, .int .i64 a3, .int .i64 a4, .int .i64 a5] := by cases args; simp_all
  exact wacts_walk2 W (bases_of hL) p0 a0 q0 r0 d0 a1 b1 x2 r2 u2 o2 w2 z2 a3 b3 a4 b4 a5 b5
theorem WitnessActs_said : Rows.WitnessActsSaid :=
  OpenClaim.holds_of_cond 3 Tryz.f3 rfl rfl rfl rfl rfl rfl rfl ⟨rfl, rfl, rfl, rfl, rfl⟩ rfl rfl rfl rfl rfl (by kernel_rfl) Tryz.func3 (by kernel_rfl)
    (of_decide_eq_true (by kernel_rfl)) (by unfold Func.isWrapper; first | (rw [if_pos (by decide +kernel)]; kernel_rfl) | (rw [if_neg (by decide +kernel)]; exact ⟨rfl, rfl⟩))
    (fun os started H enc _ F => by rw [OpenClaim.pre_eq_preRow]; exact witnessActs_lifted os started H enc F)
theorem witnessActs_plain (f : FuncId) (fn : Func) (hf : Tryz.pinned.checked.prog.funcNamed "reportescrow/reportescrowlaw21.WitnessActs" = some f) (hfn : Tryz.pinned.checked.prog.funcs[f]? = some fn) :
    false = Tryz.pinned.checked.prog.looks [] ∧ ∀ (j : Nat) t, fn.params[j]? = some t → Tryz.pinned.checked.prog.wantsStandIn t = false := by
  obtain rfl : f = 3 := Option.some.inj ((show Tryz.prog.funcNamed "reportescrow/reportescrowlaw21.WitnessActs" = some 3 by kernel_rfl).symm.trans hf) |>.symm
  obtain rfl : fn = Tryz.f3 := (Option.some.inj (Tryz.func3.symm.trans hfn)).symm
  refine ⟨by kernel_rfl, fun j t ht => ?_⟩
  rw [Tryz.params3] at ht
  have hm := Array.mem_of_getElem? ht
  simp only [List.mem_toArray, List.mem_cons, List.not_mem_nil, or_false] at hm
  rcases hm with rfl | rfl | rfl | rfl | rfl | rfl
  · exact (show Tryz.prog.wantsStandIn 22 = false by kernel_rfl)
  · exact (show Tryz.prog.wantsStandIn 3 = false by kernel_rfl)
  · exact (show Tryz.prog.wantsStandIn 28 = false by kernel_rfl)
  · exact (show Tryz.prog.wantsStandIn 3 = false by kernel_rfl)
  · exact (show Tryz.prog.wantsStandIn 3 = false by kernel_rfl)
  · exact (show Tryz.prog.wantsStandIn 3 = false by kernel_rfl)
theorem WitnessActs_holds : Rows.WitnessActsCardSaid :=
  Claim7.holds_tied_plain_at .later [] _ _ _ _ WitnessActs_said (fun _ h => by cases h) (by kernel_rfl) (fun _ h => by cases h) witnessActs_row_tie rfl ⟨rfl, rfl⟩ (by kernel_rfl) rfl witnessActs_plain (by kernel_rfl)
#print axioms WitnessActs_holds
end Go.Proofs.YtipoljcgfcjlnaaGreatDoor
