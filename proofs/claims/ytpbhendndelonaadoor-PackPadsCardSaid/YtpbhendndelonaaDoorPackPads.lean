/- For every input the law PackPads returns true: padded strings, and what is in them, or the error. The row's listed variables are tied to the program's text. -/
import Derived.Test.YtpbhendndelonaaDoorCards
import Derived.Test.YtpbhendndelonaaDoorTie
import Derived.Test.YtpbhendndelonaaDoorLaw
import Derived.Test.YtpbhendndelonaaDoorPackPadsW
import Derived.Deep.DeepHandedRow
import Derived.Lib.LaidTab
import Derived.SevenTiedAt
namespace Go.Proofs.YtpbhendndelonaaDoor
open Go.ChangeShapes Go.WideShapes Go.ChangeAt Go.RowKit
theorem u8_nat {n : Int} (h : (Lit.int .u8 n).wf = true) : ∃ m : Nat, n = (m : Int) ∧ m < 256 := by
  simp only [Lit.wf, Bool.and_eq_true, decide_eq_true_eq] at h
  have h1 : IntKind.u8.min = 0 := rfl
  have h2 : IntKind.u8.max = 255 := rfl
  exact ⟨n.toNat, by omega, by omega⟩
theorem gTab : Tryd.prog.globalNamed "reportescrow/field.bases" = some 0 := by kernel_rfl
theorem gTabType : (Tryd.prog.globals[0]?).map (·.type) = some 53 := by kernel_rfl
theorem cellsT : Tryd.prog.cellsOf 53 = 4 := by kernel_rfl
theorem cellsE : Tryd.prog.cellsOf 3 = 1 := by kernel_rfl
theorem table {W : World} (h : laidMetH Tryd.prog Rows.packPadsRow.laid W) : Lib.TabIs Tryd.prog W "reportescrow/field.bases" .i64 [2, 3, 5, 7] :=
  Lib.tabIs_of_head gTab gTabType Tryd.underlying53 Tryd.underlying3 cellsE cellsT h
theorem bases_of {W : World} (h : laidMetH Tryd.prog Rows.packPadsRow.laid W) : Bases W :=
  ⟨(table h).cell gTab 0 (by decide), (table h).cell gTab 1 (by decide), (table h).cell gTab 2 (by decide), (table h).cell gTab 3 (by decide)⟩
/-- a block's cells turned to these -/
def turned (cs : Array Value) : Obj → Obj
  | .cells _ t frozen => .cells cs t frozen
  | o => o
/-- the cells of numbers, and of aggregates of numbers -/
def flat2 : DataW Unit → List Value
  | .agg parts => parts.flatMap fun
    | .lit (.int k n) => [.int k n]
    | .agg ps => ps.flatMap fun
      | .lit (.int k n) => [.int k n]
      | _ => []
    | _ => []
  | _ => []
noncomputable def laidWorld (os : Os) : World :=
  { World.holding Tryd.prog os ⟨#[], #[], []⟩ with heap := ((((World.holding Tryd.prog os ⟨#[], #[], []⟩).heap.modify 0 (turned #[.int .i64 2, .int .i64 3, .int .i64 5, .int .i64 7])).modify 3 (turned (flat2 Rows.laid_unicode_utf8_acceptRanges).toArray)).modify 2 (turned (flat2 Rows.laid_unicode_utf8_first).toArray)) }
set_option maxRecDepth 100000 in
theorem laid_met (os : Os) : laidMet Tryd.prog Rows.packPadsRow.laid ((laidWorld os).forCall (fun _ _ => 0) ⟨#[], #[.string ByteArray.empty, .int .i64 0, .int .u8 0, .int .i64 0, .int .i64 0], []⟩).memory :=
  laidMet_of_run' 8 (by kernel_rfl) (by kernel_rfl)
theorem reads (os : Os) {H : Type} (enc : TypeId × Value → H) : ∃ places, DataW.whole enc Tryd.prog ((laidWorld os).forCall (fun _ _ => 0) ⟨#[], #[.string ByteArray.empty, .int .i64 0, .int .u8 0, .int .i64 0, .int .i64 0], []⟩).memory Tryd.f5.params.toList Rows.packPadsSpec.vars false #[Value.string ByteArray.empty, Value.int .i64 0, Value.int .u8 0, Value.int .i64 0, Value.int .i64 0].toList 8 = some ([.lit (.string []), .lit (.int .i64 0), .lit (.int .u8 0), .lit (.int .i64 0), .lit (.int .i64 0)], [], places) :=
  ⟨[], by kernel_rfl⟩
set_option maxRecDepth 100000 in
set_option maxHeartbeats 2000000 in
theorem packPads_lifted (os : Os) (started : os.Started) (H : Type) (enc : TypeId × Value → H) (F : Stop.Interp) :
    ReturnsInHanded {} Tryd.checked os 5 .any ((OpenSpec.ofChange Rows.packPadsSpec).preRow enc Tryd.prog Tryd.f5 Rows.packPadsRow.domain false Rows.packPadsRow.laid) (((OpenSpec.ofChange Rows.packPadsSpec).at F).post enc Tryd.prog Tryd.f5 false true false false) := by
  obtain ⟨places, hx⟩ := reads os enc
  refine returnsInHanded_of_row (C := Tryd.checked) (s := OpenSpec.ofChange Rows.packPadsSpec) (by kernel_rfl) started (by kernel_rfl) Tryd.func5
    (witness_row_at (enc := enc) (C := Tryd.checked) false (laidWorld os) #[.string ByteArray.empty, .int .i64 0, .int .u8 0, .int .i64 0, .int .i64 0] rfl (by kernel_rfl) (by kernel_rfl) (by kernel_rfl)
      (OpenSpec.preRow_of_cond 8 hx (by kernel_rfl) (fun k hk => by cases hk) (by kernel_rfl) (laid_met os))) ?_
  intro W base args ds gs before hval hW _ _ hsz hL _ _
  refine law_contract (C := Tryd.checked) (s := Rows.packPadsSpec) rfl (fun ds h => by match ds, h with | [_, _, _, _, _], _ => rfl) rfl Tryd.underlying4 (by kernel_rfl) (by kernel_rfl) W base args ds gs before hval hW hsz ?_
  intro h
  rw [Tryd.params5] at h
  obtain ⟨v0, l0, n0, m0, e0, e10, h0, h⟩ := h.cons
  obtain ⟨v1, l1, n1, m1, rfl, e11, h1, h⟩ := h.cons
  obtain ⟨v2, l2, n2, m2, rfl, e12, h2, h⟩ := h.cons
  obtain ⟨v3, l3, n3, m3, rfl, e13, h3, h⟩ := h.cons
  obtain ⟨v4, l4, n4, m4, rfl, e14, h4, h⟩ := h.cons
  obtain rfl := h.nil
  obtain ⟨a0, rfl, b0, c0⟩ := h0.string Tryd.underlying9
  obtain ⟨a1, rfl, b1⟩ := h1.i64 Tryd.underlying3
  obtain ⟨a2, rfl, b2⟩ := h2.int Tryd.underlying5
  obtain ⟨a3, rfl, b3⟩ := h3.i64 Tryd.underlying3
  obtain ⟨a4, rfl, b4⟩ := h4.i64 Tryd.underlying3
  obtain rfl : args = #[.string ⟨a0.toArray⟩, .int .i64 a1, .int .u8 a2, .int .i64 a3, .int .i64 a4] := by cases args; simp_all
  obtain ⟨z2, rfl, y2⟩ := u8_nat b2
  exact pads_walk W (bases_of hL) a0 b0 a1 b1 z2 y2 a3 b3 a4 b4
theorem PackPads_said : Rows.PackPadsSaid :=
  OpenClaim.holds_of_cond 5 Tryd.f5 rfl rfl rfl rfl rfl rfl rfl ⟨rfl, rfl, rfl, rfl, rfl⟩ rfl rfl rfl rfl rfl (by kernel_rfl) Tryd.func5 (by kernel_rfl)
    (of_decide_eq_true (by kernel_rfl)) (by unfold Func.isWrapper; first | (rw [if_pos (by decide +kernel)]; kernel_rfl) | (rw [if_neg (by decide +kernel)]; exact ⟨rfl, rfl⟩))
    (fun os started H enc _ F => by rw [OpenClaim.pre_eq_preRow]; exact packPads_lifted os started H enc F)
theorem packPads_plain (f : FuncId) (fn : Func) (hf : Tryd.pinned.checked.prog.funcNamed "reportescrow/reportescrowlaw05.PackPads" = some f) (hfn : Tryd.pinned.checked.prog.funcs[f]? = some fn) :
    false = Tryd.pinned.checked.prog.looks [] ∧ ∀ (j : Nat) t, fn.params[j]? = some t → Tryd.pinned.checked.prog.wantsStandIn t = false := by
  obtain rfl : f = 5 := Option.some.inj ((show Tryd.prog.funcNamed "reportescrow/reportescrowlaw05.PackPads" = some 5 by kernel_rfl).symm.trans hf) |>.symm
  obtain rfl : fn = Tryd.f5 := (Option.some.inj (Tryd.func5.symm.trans hfn)).symm
  refine ⟨by kernel_rfl, fun j t ht => ?_⟩
  rw [Tryd.params5] at ht
  have hm := Array.mem_of_getElem? ht
  simp only [List.mem_toArray, List.mem_cons, List.not_mem_nil, or_false] at hm
  rcases hm with rfl | rfl | rfl | rfl | rfl
  · exact (show Tryd.prog.wantsStandIn 9 = false by kernel_rfl)
  · exact (show Tryd.prog.wantsStandIn 3 = false by kernel_rfl)
  · exact (show Tryd.prog.wantsStandIn 5 = false by kernel_rfl)
  · exact (show Tryd.prog.wantsStandIn 3 = false by kernel_rfl)
  · exact (show Tryd.prog.wantsStandIn 3 = false by kernel_rfl)
theorem PackPads_holds : Rows.PackPadsCardSaid :=
  Claim7.holds_tied_plain_at .later [] _ _ _ _ PackPads_said (fun _ h => by cases h) (by kernel_rfl) (fun _ h => by cases h) packPads_row_tie rfl ⟨rfl, rfl⟩ (by kernel_rfl) rfl packPads_plain (by kernel_rfl)
#print axioms PackPads_holds
end Go.Proofs.YtpbhendndelonaaDoor
