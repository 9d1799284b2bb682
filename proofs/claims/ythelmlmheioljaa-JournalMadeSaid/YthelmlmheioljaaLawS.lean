/- A struct of a string, an integer and a bool as a law's argument, read. -/
import Derived.Test.YthelmlmheioljaaLaw
import Derived.Lib.SmallJoins
import Derived.ChangeArms
namespace Go.Proofs.Ythelmlmheioljaa
open Go.ChangeShapes Go.WideShapes Go.ChangeAt Go.RowKit Go.Deep Go.Deep Go.Joins
theorem Reads.sib {P : Program} {W : World} {t : TypeId} {v : Value} {N : Nat} {f0 f1 f2 : Field} (ht : P.underlying t = some (.struct #[f0, f1, f2])) (hone : oneCellFields P #[f0, f1, f2] = true) (hC : P.cellsOf t = 3)
    (h0 : P.underlying f0.type = some .string) (h1 : P.underlying f1.type = some (.int .i64)) (h2 : P.underlying f2.type = some .bool) (h : Reads P W t v N) :
    ∃ (l : List UInt8) (f : Int) (b : Bool), v = .agg #[.string ⟨l.toArray⟩, .int .i64 f, .bool b] ∧ l.length ≤ 140737488351232 ∧ I64 f := by
  obtain ⟨⟨base, hv⟩, H, enc, d, ps, hd, hw, hN⟩ := h
  obtain ⟨v0, v1, v2, y0, y1, y2, n, rfl, rfl, rfl, k0, k1, k2⟩ := open_agg3 ht hone hC hv hd
  obtain ⟨s, hs, hx, _⟩ := DataW.trod_string h0 k0
  obtain ⟨f, hf, hy, wf⟩ := DataW.trod_int h1 k1
  obtain ⟨b, hb, hz⟩ := DataW.trod_bool h2 k2
  simp at hs hf hb
  subst hs hf hb hx
  refine ⟨s.data.toList, f, b, by simp, ?_, I64.of_wf wf⟩
  have := hw s.data.toList.length (by simp [DataW.weights, ht, DataW.weightsEach])
  simpa [reachBytes] using this
end Go.Proofs.Ythelmlmheioljaa
