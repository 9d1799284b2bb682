/- Which numbers are permitted; how wide elements are. -/
import Derived.Test.YtekhepklaokaiaaDoorGPackY
namespace Go.Proofs.YtekhepklaokaiaaDoor
open Go.RowKit
theorem index4 (w : World) {t : TypeId} (ht : Tryd.prog.underlying t = some (.array 4 3)) (cs : Array Value) (i : Nat) (hi : i < 4) (v : Value) (hv : cs[i]? = some v) :
    (Instr.index t (.agg cs) (.int .i64 (i : Int))).run Tryd.prog w = .ok v w := by
  simp [Instr.index, asIntOf, run_underlying ht, part, Tryd.sizeOf3, Tryd.isAgg3, hv]
  intro h
  omega
/-- the table of bases, as it is laid -/
def Bases (w : World) : Prop := w.cell? ⟨0, 0, none⟩ = some (.int .i64 2) ∧ w.cell? ⟨0, 1, none⟩ = some (.int .i64 3) ∧ w.cell? ⟨0, 2, none⟩ = some (.int .i64 5) ∧ w.cell? ⟨0, 3, none⟩ = some (.int .i64 7)
theorem Bases.keep {w w' : World} (h : Bases w) (hb : Below w.heap.size w w') : Bases w' := by
  obtain ⟨a, b, c, d⟩ := h
  exact ⟨(hb.cell (World.block_lt_of_cell? w _ a)).trans a, (hb.cell (World.block_lt_of_cell? w _ b)).trans b, (hb.cell (World.block_lt_of_cell? w _ c)).trans c, (hb.cell (World.block_lt_of_cell? w _ d)).trans d⟩
theorem base_at (j : Nat) (h : j < 4) : ∃ b : Nat, basesL[j]? = some (b : Int) ∧ (ints basesL)[j]? = some (.int .i64 (b : Int)) ∧ 2 ≤ b ∧ b < 16 ∧ (j = 0 → b = 2) ∧ basesL.drop j = (b : Int) :: basesL.drop (j + 1) := by
  match j, h with
  | 0, _ => exact ⟨2, rfl, rfl, by decide, by decide, fun _ => rfl, rfl⟩
  | 1, _ => exact ⟨3, rfl, rfl, by decide, by decide, fun h => by omega, rfl⟩
  | 2, _ => exact ⟨5, rfl, rfl, by decide, by decide, fun h => by omega, rfl⟩
  | 3, _ => exact ⟨7, rfl, rfl, by decide, by decide, fun h => by omega, rfl⟩
set_option maxRecDepth 100000 in
theorem valid_two (w : World) (hB : Bases w) :
    Calls Tryd.prog 46 #[.int .i64 2] w fun e w' => e = .returned (.bool true) ∧ w = w' := by
  obtain ⟨g0, g1, g2, g3⟩ := hB
  go_enter Tryd.func46, Tryd.ntmps46
  go_wp2
  go_loopw [4, 21] (fun _ i wr => wr = w ∧ i = .int .i64 0) (fun _ _ _ => 0)
  case atStart => exact ⟨rfl, rfl⟩
  case round =>
    obtain ⟨rfl, rfl⟩ := hrel
    have hix : (Instr.index 87 (.agg #[.int .i64 2, .int .i64 3, .int .i64 5, .int .i64 7]) (.int .i64 0)).run Tryd.prog wr = .ok (.int .i64 2) wr := index4 wr Tryd.underlying87 _ 0 (by decide) _ rfl
    go_wp2
    go_ret
    exact ⟨rfl, rfl⟩
set_option maxRecDepth 100000 in
theorem valid_odd (p : Int) (w : World) (hB : Bases w) (hq : 3 ≤ p) (hq2 : p ≤ 1073741824) (hqe : p % 2 = 1) :
    Calls Tryd.prog 46 #[.int .i64 p] w fun e w' => e = .returned (.bool (vlF p basesL)) ∧ w = w' := by
  obtain ⟨g0, g1, g2, g3⟩ := hB
  have k3 : (2 : Int) < p := by omega
  have hps : ∀ (b : Nat) (w : World), b < 16 → Calls Tryd.prog 57 #[.int .i64 p, .int .i64 (b : Int)] w fun e w' => e = .returned (.bool (passF p (b : Int))) ∧ w = w' := fun b w hb => by
    obtain ⟨q, rfl⟩ : ∃ q : Nat, p = (q : Int) + 1 := ⟨(p - 1).toNat, by omega⟩
    exact passes_walk q b w (by omega) (by omega) hb (by omega)
  have HPS := Lib.hid hps
  clear hps
  go_enter Tryd.func46, Tryd.ntmps46
  go_wp2
  go_loopw [4, 21] (fun _ i wr => ∃ j : Nat, wr = w ∧ j ≤ 4 ∧ i = .int .i64 (j : Int) ∧ vlF p (basesL.drop j) = vlF p basesL) (fun _ i _ => 4 - (intOf i).toNat)
  case atStart => exact ⟨0, rfl, by omega, rfl, rfl⟩
  case round =>
    obtain ⟨j, rfl, hj, rfl, hv⟩ := hrel
    have HV := Lib.hid hv
    clear hv
    by_cases hjt : j < 4
    · obtain ⟨b, hb, hbi, hb2, hb16, -, hdr⟩ := base_at j hjt
      have hix := index4 wr Tryd.underlying87 #[.int .i64 2, .int .i64 3, .int .i64 5, .int .i64 7] j hjt (.int .i64 (b : Int)) (by simpa [ints, basesL] using hbi)
      have hR := HV.out
      rw [hdr, vlF] at hR
      have hm1 := Int.emod_nonneg p (show (b : Int) ≠ 0 by omega)
      by_cases eb : p = (b : Int)
      · rw [if_pos eb] at hR
        have HR := Lib.hid hR
        have bb : (p == (b : Int)) = true := by rw [beq_iff_eq]; exact eb
        clear hR HV eb hdr hb hbi
        go_wp2
        go_ret
        exact ⟨ret_bool HR.out, rfl⟩
      · rw [if_neg eb] at hR
        have bb : (p == (b : Int)) = false := by rw [beq_eq_false_iff_ne]; exact eb
        by_cases em : p % (b : Int) = 0
        · replace hR : false = vlF p basesL := by rw [← hR]; simp [em]
          have HR := Lib.hid hR
          have bm : (p % (b : Int) == 0) = true := by rw [beq_iff_eq]; exact em
          clear hR HV eb em hdr hb hbi
          go_wp2
          go_ret
          exact ⟨ret_bool HR.out, rfl⟩
        · have bm : (p % (b : Int) == 0) = false := by rw [beq_eq_false_iff_ne]; exact em
          cases hp : passF p (b : Int) with
          | false =>
            replace hR : false = vlF p basesL := by rw [← hR]; simp [hp]
            have HR := Lib.hid hR
            clear hR HV eb em hdr hb hbi
            have HP := Lib.hid hp
            clear hp
            go_wp2_with (go_at_call 57; (with_reducible refine (HPS.out b _ hb16).mono ?_))
            rintro e w2 ⟨rfl, rfl⟩
            rw [HP.out]
            go_wp2
            go_ret
            exact ⟨ret_bool HR.out, rfl⟩
          | true =>
            replace hR : vlF p (basesL.drop (j + 1)) = vlF p basesL := by rw [← hR]; simp [em, hp]
            have HR := Lib.hid hR
            clear hR HV eb em hdr hb hbi
            have HP := Lib.hid hp
            clear hp
            go_wp2_with (go_at_call 57; (with_reducible refine (HPS.out b _ hb16).mono ?_))
            rintro e w2 ⟨rfl, rfl⟩
            rw [HP.out]
            go_wp2
            go_roundw
            case rel => exact ⟨j + 1, trivial, by omega, by go_num, HR.out⟩
            case measure => simp [intOf]; omega
    · obtain rfl : j = 4 := by omega
      have HR := HV
      clear HV hjt
      go_wp2
      go_ret
      exact ⟨ret_bool HR.out, rfl⟩
end Go.Proofs.YtekhepklaokaiaaDoor
