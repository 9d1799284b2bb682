/- Lists of numbers, and rings, that are the same: the reference's Same. -/
import Derived.Test.YtcnffdgmdeflmaaDoorGRateD
namespace Go.Proofs.YtcnffdgmdeflmaaDoor
open Go.RowKit
set_option maxRecDepth 100000 in
set_option maxHeartbeats 2000000 in
theorem lsame_eq (a : Option Addr) (l : List Int) (c : Nat) (b : Option Addr) (d : Nat) (w : World) (hR : Rd w a (ints l)) (hS : Rd w b (ints l)) (hn : l.length ≤ 281474976710656) :
    Calls Tryd.prog 16 #[.slice a l.length c, .slice b l.length d] w fun e w' => e = .returned (.bool true) ∧ Below w.heap.size w w' := by
  go_enter Tryd.func16, Tryd.ntmps16
  go_wp2_with fail
  go_loopw [14] (fun i wr => ∃ k : Nat, k ≤ l.length ∧ i = .int .i64 (k : Int) ∧ Below w.heap.size w wr) (fun i _ => l.length - (intOf i).toNat)
  case atStart => exact ⟨0, Nat.zero_le _, rfl, Below.refl _ _⟩
  case round =>
    obtain ⟨k, hk, rfl, hB⟩ := hrel
    by_cases hkt : k < l.length
    · have hkl : (k : Int) < (l.length : Int) := by omega
      obtain ⟨g, off, x, rfl, c0, hx⟩ := (hR.keep hB).int (k := k) hkt
      obtain ⟨g', off', y, rfl, e0, hy⟩ := (hS.keep hB).int (k := k) hkt
      obtain rfl := same_at hx hy
      clear hx hy hR hS
      go_wp2_with fail
      go_roundw
      case rel => exact ⟨k + 1, by omega, by go_num, hB⟩
      case measure => simp [intOf]; omega
    · have hkl : ¬ (k : Int) < (l.length : Int) := by omega
      go_wp2
      go_ret
      exact ⟨rfl, hB⟩
set_option maxRecDepth 100000 in
set_option maxHeartbeats 2000000 in
theorem rsame_eq (ca : Option Addr) (C : List Int) (cc : Nat) (za : Option Addr) (Z : List Int) (zc : Nat) (ca' : Option Addr) (cc' : Nat) (za' : Option Addr) (zc' : Nat) (w : World) (h1 : Rd w ca (ints C)) (h2 : Rd w za (ints Z)) (h3 : Rd w ca' (ints C)) (h4 : Rd w za' (ints Z)) (hC : C.length ≤ 281474976710656) (hZ : Z.length ≤ 281474976710656) :
    Calls Tryd.prog 15 #[.agg #[.slice ca C.length cc, .slice za Z.length zc], .agg #[.slice ca' C.length cc', .slice za' Z.length zc']] w fun e w' => e = .returned (.bool true) ∧ Below w.heap.size w w' := by
  obtain ⟨w0, hw0⟩ : ∃ w0, w0 = (w.alloc (.cells #[.slice ca C.length cc, .slice za Z.length zc] 32)).alloc (.cells #[.slice ca' C.length cc', .slice za' Z.length zc'] 32) := ⟨_, rfl⟩
  have hb0 : Below w.heap.size w w0 := by rw [hw0]; exact (((Below.refl w.heap.size w).alloc (Nat.le_refl _) _).alloc (by simp) _)
  have hG : Bx w0 w.heap.size 32 [.slice ca C.length cc, .slice za Z.length zc] := by rw [hw0]; exact (Bx.new w 32 [.slice ca C.length cc, .slice za Z.length zc]).alloc _
  have hH : Bx w0 (w.heap.size + 1) 32 [.slice ca' C.length cc', .slice za' Z.length zc'] := by
    rw [hw0]
    have := Bx.new (w.alloc (.cells #[.slice ca C.length cc, .slice za Z.length zc] 32)) 32 [.slice ca' C.length cc', .slice za' Z.length zc']
    simpa using this
  have K1 := Lib.hid (fun V a b => lsame_eq ca C cc ca' cc' V a b hC)
  have K2 := Lib.hid (fun V a b => lsame_eq za Z zc za' zc' V a b hZ)
  go_enter Tryd.func15, Tryd.ntmps15
  go_upto_region 1 with (fail)
  rw [← hw0]
  clear hw0
  have g0 := hG.cell 0 (v := .slice ca C.length cc) rfl
  have g1 := hH.cell 0 (v := .slice ca' C.length cc') rfl
  go_wp2_with (go_at_call 16; (with_reducible refine (K1.out _ (h1.keep hb0) (h3.keep hb0)).mono ?_))
  rintro e w1 ⟨rfl, hb1⟩
  have hb2 := below_tr hb0 hb1
  have g2 := (hG.keep hb1).cell 1 (v := .slice za Z.length zc) rfl
  have g3 := (hH.keep hb1).cell 1 (v := .slice za' Z.length zc') rfl
  clear g0 g1 hG hH
  go_wp2_with (go_at_call 16; (with_reducible refine (K2.out _ (h2.keep hb2) (h4.keep hb2)).mono ?_))
  rintro e w2 ⟨rfl, hb3⟩
  have HB := Lib.hid (below_tr hb2 hb3)
  clear hb0 hb1 hb2 hb3 g2 g3 K1 K2 h1 h2 h3 h4
  go_wp2
  go_ret
  exact ⟨rfl, HB.out⟩
end Go.Proofs.YtcnffdgmdeflmaaDoor
