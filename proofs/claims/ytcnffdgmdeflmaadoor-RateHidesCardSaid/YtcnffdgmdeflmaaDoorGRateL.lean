/- The play's numbers: a list that follows from a seed. -/
import Derived.Test.YtcnffdgmdeflmaaDoorGRateE
import Derived.Test.YtcnffdgmdeflmaaDoorDice
namespace Go.Proofs.YtcnffdgmdeflmaaDoor
open Go.RowKit
def fillX (p seed : Int) : Nat → Int
  | 0 => seed % p
  | i + 1 => (fillX p seed i * 7 + 3 * (i : Int) + 5) % p
def fillL (p seed : Int) (n : Nat) : List Int := (List.range n).map fun i => fillX p seed (i + 1)
theorem fillX_bd {p : Int} (hp : 1 ≤ p) (seed : Int) (i : Nat) : 0 ≤ fillX p seed i ∧ fillX p seed i < p := by
  cases i <;> exact ⟨Int.emod_nonneg _ (by omega), Int.emod_lt_of_pos _ (by omega)⟩
theorem fillL_length (p seed : Int) (n : Nat) : (fillL p seed n).length = n := by simp [fillL]
theorem fillL_succ (p seed : Int) (n : Nat) : fillL p seed (n + 1) = fillL p seed n ++ [fillX p seed (n + 1)] := by rw [fillL, List.range_succ, List.map_append]; rfl
set_option maxRecDepth 100000 in
set_option maxHeartbeats 2000000 in
theorem fill_walk (p seed : Int) (n : Nat) (w : World) (hp : 1 ≤ p) (hp2 : p ≤ 1073741824) (hn : n ≤ 100000) :
    Calls Tryd.prog 11 #[.int .i64 p, .int .i64 seed, .int .i64 (n : Int)] w fun e w' => ∃ a c, e = .returned (.slice a n c) ∧ Ow w' w.heap.size 1 a n c (ints (fillL p seed n)) ∧ Below w.heap.size w w' := by
  have K1 := Lib.hid (fun V => dmod_walk seed p V hp (by omega))
  go_enter Tryd.func11, Tryd.ntmps11
  go_wp2_with (go_at_call 21; (with_reducible refine (K1.out _).mono ?_))
  rintro e w1 ⟨rfl, rfl⟩
  go_wp2_with fail
  go_loopw [7, 8, 9] (fun v x i wr => ∃ (k : Nat) (a : Option Addr) (c : Nat), k ≤ n ∧ i = .int .i64 (k : Int) ∧ (∃ t, x = .int .i64 t ∧ Hid (t = fillX p seed k) ∧ 0 ≤ t ∧ t < p) ∧ v = .slice a k c ∧ Ow wr w.heap.size 1 a k c (ints (fillL p seed k)) ∧ Below w.heap.size w wr) (fun _ _ i _ => n - (intOf i).toNat)
  case atStart => exact ⟨0, none, 0, by omega, rfl, ⟨_, rfl, Lib.hid rfl, (fillX_bd hp seed 0).1, (fillX_bd hp seed 0).2⟩, rfl, Ow.nil _ _ _, Below.refl _ _⟩
  case round =>
    obtain ⟨k, a, c, hk, rfl, ⟨t, rfl, hT, t0, t1⟩, rfl, hO, hB⟩ := hrel
    by_cases hkt : k < n
    · have hkl : (k : Int) < (n : Int) := by omega
      have a1 : IntKind.i64.wrap (t * 7) = t * 7 := by rw [IntKind.wrap_i64]; omega
      have a2 : IntKind.i64.wrap (3 * (k : Int)) = 3 * (k : Int) := by rw [IntKind.wrap_i64]; omega
      have a3 : IntKind.i64.wrap (t * 7 + 3 * (k : Int)) = t * 7 + 3 * (k : Int) := by rw [IntKind.wrap_i64]; omega
      have a4 : IntKind.i64.wrap (t * 7 + 3 * (k : Int) + 5) = t * 7 + 3 * (k : Int) + 5 := by rw [IntKind.wrap_i64]; omega
      have a5 : (t * 7 + 3 * (k : Int) + 5).tmod p = (t * 7 + 3 * (k : Int) + 5) % p := Int.tmod_eq_emod_of_nonneg (by omega)
      have b0 := Int.emod_nonneg (t * 7 + 3 * (k : Int) + 5) (show p ≠ 0 by omega)
      have b1 := Int.emod_lt_of_pos (t * 7 + 3 * (k : Int) + 5) (show 0 < p by omega)
      obtain ⟨u, hu⟩ : ∃ u, u = (t * 7 + 3 * (k : Int) + 5) % p := ⟨_, rfl⟩
      rw [← hu] at a5 b0 b1
      have HU := Lib.hid (show u = fillX p seed (k + 1) by rw [fillX, ← hT.out]; exact hu)
      have hp0 : (p == 0) = false := by rw [beq_eq_false_iff_ne]; omega
      have hp1 : p ≠ 0 := by omega
      have a6 : IntKind.i64.wrap u = u := by rw [IntKind.wrap_i64]; omega
      clear hu hT
      go_wp2_with (at_builtin; refine wpList_app1 (w0 := w) (B := w.heap.size) rfl _ _ _ rfl elI4 rfl hO hB (Nat.le_refl _) hB.size rfl (by rfl) (one1 rfl) (by omega) ?_)
      intro b' c' w2 hO3 hB3 _
      have e3 : ints (fillL p seed k) ++ [.int .i64 u] = ints (fillL p seed (k + 1)) := by rw [ints_snoc, fillL_succ, HU.out]
      rw [e3] at hO3
      clear hO hB e3
      go_wp2
      go_roundw
      case rel => exact ⟨k + 1, b', c', by omega, by go_num, ⟨u, rfl, HU, b0, b1⟩, rfl, hO3, hB3⟩
      case measure => simp [intOf]; omega
    · have hkl : ¬ (k : Int) < (n : Int) := by omega
      obtain rfl : k = n := by omega
      clear hT
      go_wp2
      go_ret
      exact ⟨a, c, rfl, hO, hB⟩
end Go.Proofs.YtcnffdgmdeflmaaDoor
