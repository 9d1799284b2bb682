/- Guards: the reference's Same, of guards that are the same. -/
import Derived.Test.YtnlhcfhngdahlaaReplayC
namespace Go.Proofs.Ytnlhcfhngdahlaa
open Go.RowKit
set_option maxRecDepth 100000 in
set_option maxHeartbeats 2000000 in
theorem ksame_walk (a : Option Addr) (l : List Kpt) (c : Nat) (b : Option Addr) (d : Nat) (w : World) (hR : Rd w a (rowsC kpC l)) (hS : Rd w b (rowsC kpC l)) (hn : l.length ≤ 281474976710656) :
    Calls Try.prog 21 #[.agg #[.slice a l.length c], .agg #[.slice b l.length d]] w fun e w' => e = .returned (.bool true) ∧ Below w.heap.size w w' := by
  obtain ⟨w0, hw0⟩ : ∃ w0, w0 = (w.alloc (.cells #[.slice a l.length c] 24)).alloc (.cells #[.slice b l.length d] 24) := ⟨_, rfl⟩
  obtain ⟨g, hg⟩ : ∃ g, g = w.heap.size := ⟨_, rfl⟩
  have hb0 : Below w.heap.size w w0 := by rw [hw0]; exact (((Below.refl w.heap.size w).alloc (Nat.le_refl _) _).alloc (by simp) _)
  have hG : Bx w0 g 24 [.slice a l.length c] := by rw [hw0, hg]; exact (Bx.new w 24 [.slice a l.length c]).alloc _
  have hH : Bx w0 (g + 1) 24 [.slice b l.length d] := by
    rw [hw0, hg]
    have := Bx.new (w.alloc (.cells #[.slice a l.length c] 24)) 24 [.slice b l.length d]
    simpa using this
  have hR0 := hR.keep hb0
  have hS0 := hS.keep hb0
  have hgw : w.heap.size = g := hg.symm
  clear hg
  go_enter Try.func21, Try.ntmps21
  go_wp2_with fail
  rw [← hw0]
  clear hw0 hR hS
  have HGW := Lib.hid hgw
  rw [hgw] at hb0
  clear hgw
  go_loopw [5] (fun i wr => ∃ k : Nat, k ≤ l.length ∧ i = .int .i64 (k : Int) ∧ Below g w wr ∧ Bx wr g 24 [.slice a l.length c] ∧ Bx wr (g + 1) 24 [.slice b l.length d] ∧ Rd wr a (rowsC kpC l) ∧ Rd wr b (rowsC kpC l)) (fun i _ => l.length - (intOf i).toNat)
  case atStart => exact ⟨0, Nat.zero_le _, rfl, hb0, hG, hH, hR0, hS0⟩
  case round =>
    clear hb0 hG hH hR0 hS0
    obtain ⟨k, hk, rfl, hB, hG, hH, hR, hS⟩ := hrel
    have g0 := hG.cell 0 (v := .slice a l.length c) rfl
    have h0 := hH.cell 0 (v := .slice b l.length d) rfl
    by_cases hkt : k < l.length
    · have hkl : (k : Int) < (l.length : Int) := by omega
      obtain ⟨p, off, r, hpa, hr, c0, c1, c2, c3⟩ := hR.kp (k := k) hkt
      obtain ⟨p', off', x, hpb, hx, e0, e1, e2, e3⟩ := hS.kp (k := k) hkt
      obtain rfl := same_at hr hx
      have hb3 := (Below.refl wr.heap.size wr).drew
      replace hB := hB.trans (hb3.mono (by have := hB.size; have := hG.lt; omega))
      have HG := Lib.hid (hG.keep hb3)
      have HH := Lib.hid (hH.keep hb3)
      have HR := Lib.hid (hR.keep hb3)
      have HS := Lib.hid (hS.keep hb3)
      have HB := Lib.hid hB
      subst hpa hpb
      clear hG hH hR hS hr hx hb3 hB
      go_wp2_with fail
      go_region
      go_wp2_with fail
      go_roundw
      case rel => exact ⟨k + 1, by omega, by go_num, HB.out, HG.out, HH.out, HR.out, HS.out⟩
      case measure => simp [intOf]; omega
    · have hkl : ¬ (k : Int) < (l.length : Int) := by omega
      go_wp2
      go_ret
      exact ⟨rfl, by rw [HGW.out]; exact hB⟩
end Go.Proofs.Ytnlhcfhngdahlaa
