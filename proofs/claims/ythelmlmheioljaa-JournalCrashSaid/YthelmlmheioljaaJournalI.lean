/- The journal's iterator over good records. -/
import Derived.RangeFuncNested
import Derived.RangeFuncBound
import Derived.RangeFuncCalls
import Derived.RangeFuncLeaves
import Derived.RangeFuncBox
import Derived.Shelf.Abstract
import Derived.Shelf.RegionOpen
import Derived.WalkKit
import Derived.OwnWalkIn
import Derived.TacticsInMore
import Derived.LoopNIn
import Derived.LoopIn
import Derived.Maps.AppendAt
import Derived.Test.YthelmlmheioljaaJournalC
namespace Go.Proofs.Ythelmlmheioljaa
open Go.RowKit Go.Shelf
attribute [local go_sem] Oper.semAt_some
/-- records, each with the index behind its frame -/
def pairsF : Nat → List (List UInt8) → List (Nat × List UInt8)
  | _, [] => []
  | a, s :: l => (a + (12 + s.length), s) :: pairsF (a + (12 + s.length)) l
theorem pairsF_snoc (s : List UInt8) : ∀ l a, pairsF a (l ++ [s]) = pairsF a l ++ [(a + endF (l ++ [s]), s)]
  | [], a => by simp [pairsF, endF]
  | x :: l, a => by
    show (a + (12 + x.length), x) :: pairsF (a + (12 + x.length)) (l ++ [s]) = _
    rw [pairsF_snoc s l]
    simp [pairsF, endF]; omega
theorem pairsF_append (y : List (List UInt8)) : ∀ x a, pairsF a (x ++ y) = pairsF a x ++ pairsF (a + endF x) y
  | [], a => by simp [pairsF, endF]
  | s :: x, a => by
    show (a + (12 + s.length), s) :: pairsF (a + (12 + s.length)) (x ++ y) = _
    rw [pairsF_append y x]
    simp [pairsF, endF]; congr 1; omega
theorem pairsF_length : ∀ l a, (pairsF a l).length = l.length
  | [], _ => rfl
  | x :: l, a => by simp [pairsF, pairsF_length l]
theorem pairsF_snd : ∀ l a, (pairsF a l).map Prod.snd = l
  | [], _ => rfl
  | x :: l, a => by simp [pairsF, pairsF_snd l]
abbrev encR (x : Nat × List UInt8) : Array Value := #[.int .i64 (x.1 : Int), .string ⟨x.2.toArray⟩]
theorem drop_all (d : List UInt8) (a : Nat) : (d.drop a).take (d.length - a) = d.drop a := List.take_of_length_le (by simp)
set_option maxRecDepth 100000 in
set_option maxHeartbeats 1000000 in
theorem records1_in (n : Nat) (hn : 1 ≤ n) (l Bn : Nat) (d : List UInt8) (hd : d.length ≤ 65536) (B : Nat) (J Jx : List (Nat × List UInt8) → World → Prop) (hJ : AbidesFrom B J)
    (hY : ∀ pre x W, J pre W → pre.length < (goods d).length → YieldAt Fence.wide (n - 1) Try.prog l (encR x) W fun e W' =>
      (e = .returned (.bool true) ∧ J (pre ++ [x]) W' ∧ W'.heap[Bn]? = W.heap[Bn]?) ∨ (e = .returned (.bool false) ∧ Jx (pre ++ [x]) W'))
    (W : World) (hBn : W.cell? ⟨Bn, 0, none⟩ = some (.string ⟨d.toArray⟩)) (h0 : J [] W) :
    CallsIn Fence.wide n Try.prog 41 #[.func (.yield l) #[] #[], .pointer (some ⟨Bn, 0, none⟩)] W fun e W' => (∃ v, e = .returned v) ∧
      ((∃ ys, ys = pairsF 0 (goods d) ∧ J ys W') ∨ (∃ pre, pre <+: pairsF 0 (goods d) ∧ Jx pre W')) := by
  refine callsIn_of_wp Try.func41 rfl trivial ?_ rfl
  simp only [Try.ntmps41, List.size_toArray, List.length_cons, List.length_nil, Nat.reduceAdd, Nat.reduceSub, Array.replicate_succ, Array.replicate_zero, List.push_toArray, List.append_toArray, List.nil_append, List.cons_append]
  gi_wp2
  gi_loopw [3, 4] (fun u v wr => ∃ (L : List (List UInt8)) (f a k : Nat), a = endF L ∧ k = L.length ∧ u = .int .i64 (a : Int) ∧ v = .int .i64 (k : Int) ∧ Upto d L f ∧ J (pairsF 0 L) wr ∧ wr.cell? ⟨Bn, 0, none⟩ = some (.string ⟨d.toArray⟩)) (fun u _ _ => d.length - (intOf u).toNat)
  case atStart => exact ⟨[], d.length, 0, 0, rfl, rfl, rfl, rfl, Upto.start d, h0, hBn⟩
  case round =>
    obtain ⟨L, f, a, k, ha, hk, rfl, rfl, hU, hJs, hc⟩ := hrel
    have hae : a ≤ d.length := by rw [ha]; exact hU.2.2
    have hk12 : 12 * k ≤ a := by rw [ha, hk]; exact endF_count L
    have hai : (a : Int) ≤ (d.length : Int) := by omega
    have HA := Lib.hid ha
    have HK := Lib.hid hk
    have HU := Lib.hid hU
    clear ha hk hU
    cases hr : recF (d.drop a) k with
    | none =>
      have hrec := fun w => record_none (n := k) (d := (d.drop a).take (d.length - a)) (by rw [drop_all]; exact hr) w (by rw [drop_all, List.length_drop]; omega) (by omega)
      have HREC := Lib.hid hrec
      have HD := Lib.hid (HU.out.done (by rw [← HA.out, ← HK.out]; exact hr))
      clear hrec hr
      gi_wp2_with (refine ⟨trivial, ?_⟩; gi_at_call 42; refine (callsIn_wide.2 (HREC.out _)).mono ?_)
      rintro e w1 ⟨t, rfl, hb1⟩
      have hJ1 := hJ _ _ _ none hJs (below_grownBy hb1 none) (fun r e => by cases e)
      clear hJs hc
      gi_wp2
      refine bodyPost_ret (results_none rfl _ _ _) rfl ?_
      exact ⟨⟨_, rfl⟩, .inl ⟨_, by rw [HD.out], hJ1⟩⟩
    | some s =>
      have hrec := fun w => record_some (n := k) (d := (d.drop a).take (d.length - a)) (by rw [drop_all]; exact hr) w (by rw [drop_all, List.length_drop]; omega) (by omega)
      have HREC := Lib.hid hrec
      obtain ⟨g, hg, hU2, hle2⟩ := HU.out.next (by rw [← HA.out, ← HK.out]; exact hr)
      rw [endF_snoc, ← HA.out] at hle2
      obtain ⟨b, hb⟩ : ∃ b, b = a + (12 + s.length) := ⟨_, rfl⟩
      have hc1 : (4 : Int) + (s.length : Int) + 8 = ((12 + s.length : Nat) : Int) := by omega
      obtain ⟨c, hc2⟩ : ∃ c, c = 12 + s.length := ⟨_, rfl⟩
      rw [← hc2] at hc1 hb hle2
      have hc3 : (a : Int) + (c : Int) = (b : Int) := by omega
      have hp : pairsF 0 (L ++ [s]) = pairsF 0 L ++ [(b, s)] := by rw [pairsF_snoc, endF_snoc, ← HA.out, Nat.zero_add, hb, hc2]
      have hbe : b = endF (L ++ [s]) := by rw [endF_snoc, ← HA.out, hb, hc2]
      have hsl : s.length ≤ 4096 := (recF_some hr).2.2.1
      have hlen : (pairsF 0 L).length < (goods d).length := by rw [pairsF_length, hU2.1]; simp
      have hb65 : b ≤ 65536 := by omega
      have hab : a < b := by omega
      have HP := Lib.hid hp
      have HU2 := Lib.hid hU2
      have HBE := Lib.hid hbe
      clear hrec hr hg hU2 hp hbe hb hc2 HU
      gi_wp2_with (refine ⟨trivial, ?_⟩; gi_at_call 42; refine (callsIn_wide.2 (HREC.out _)).mono ?_)
      rintro e w1 ⟨rfl, hb1⟩
      have hJ1 := hJ _ _ _ none hJs (below_grownBy hb1 none) (fun r e => by cases e)
      have hc1' := (hb1.cell (World.block_lt_of_cell? wr _ hc)).trans hc
      clear hJs hc hb1
      obtain ⟨fn, tmps, assign, body, hy, hR⟩ := hY (pairsF 0 L) (b, s) w1 hJ1 hlen
      gi_wp2
      refine hR.mono ?_
      rintro e W3 (⟨rfl, hJ3, hk3⟩ | ⟨rfl, hJx3⟩)
      · have hc3' := (World.cell?_of_block (a := ⟨Bn, 0, none⟩) hk3).trans hc1'
        rw [← HP.out] at hJ3
        gi_wp2
        go_roundw
        case rel => exact ⟨L ++ [s], g, b, k + 1, HBE.out, by rw [HK.out]; simp, rfl, by go_num, HU2.out, hJ3, hc3'⟩
        case measure => simp [intOf]; omega
      · rw [← HP.out] at hJx3
        gi_wp2
        refine bodyPost_ret (results_none rfl _ _ _) rfl ?_
        refine ⟨⟨_, rfl⟩, .inr ⟨_, ?_, hJx3⟩⟩
        rw [HU2.out.1, pairsF_append _ (L ++ [s])]
        exact List.prefix_append _ _
theorem records_stops (n : Nat) (hn : 1 ≤ n) (Bn : Nat) (d : List UInt8) (hd : d.length ≤ 65536) (w : World) (hBw : Bn < w.heap.size) (hc : w.cell? ⟨Bn, 0, none⟩ = some (.string ⟨d.toArray⟩)) :
    SeqStopsK Fence.wide n Try.prog 41 #[.pointer (some ⟨Bn, 0, none⟩)] encR (fun A B => B.heap[Bn]? = A.heap[Bn]?) (fun ys => ys = pairsF 0 (goods d)) (fun pre => pre <+: pairsF 0 (goods d)) (goods d).length w := fun l J Jx W hW hJ _ hY h0 =>
  records1_in n hn l Bn d hd W.heap.size J Jx hJ hY W ((hW.cell (p := ⟨Bn, 0, none⟩) hBw).trans hc) h0
theorem records_walk (d : List UInt8) (w : World) :
    Calls Try.prog 38 #[.string ⟨d.toArray⟩] w fun e w' => e = .returned (.func (.func 41) #[] #[.pointer (some ⟨w.heap.size, 0, none⟩)]) ∧ w' = w.alloc (.cells #[.string ⟨d.toArray⟩] 9) := by
  go_enter Try.func38, Try.ntmps38
  go_wp2
  go_ret
  exact ⟨rfl, rfl⟩
end Go.Proofs.Ythelmlmheioljaa
