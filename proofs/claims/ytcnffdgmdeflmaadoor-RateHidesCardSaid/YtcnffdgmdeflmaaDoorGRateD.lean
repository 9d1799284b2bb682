/- Rings of keys: whoever says that they know a secret. -/
import Derived.Test.YtcnffdgmdeflmaaDoorGRateC
import Derived.Lib.QuietBelow
namespace Go.Proofs.YtcnffdgmdeflmaaDoor
open Go.RowKit
/-- what is wrong with whoever says that they know the secret of a key -/
def allowF (p : Nat) (keys : List Int) (me secret : Int) : Int :=
  if keysOk p keys = false then 44
  else if ¬ (0 ≤ me ∧ me < keys.length) then 5
  else if ¬ (0 ≤ secret ∧ secret < p) ∨ ((gpw p 4 secret : Nat) : Int) ≠ keys.getD me.toNat 0 then 47
  else 0
set_option maxRecDepth 100000 in
set_option maxHeartbeats 4000000 in
theorem allowed_walk (p : Nat) (a : Option Addr) (keys : List Int) (cap : Nat) (me secret : Int) (w : World) (hB : Bases w) (hs : safeP (p : Int) = true) (hR : Rd w a (ints keys)) (hl : keys.length ≤ 281474976710656) :
    Calls Tryd.prog 22 #[.int .i64 (p : Int), .slice a keys.length cap, .int .i64 me, .int .i64 secret] w fun e w' => e = .returned (.int .i64 (allowF p keys me secret)) ∧ Below w.heap.size w w' := by
  obtain ⟨h3, h30, -⟩ := safeP_bd hs
  have KS := Lib.hid (fun V h => ratesafe_walk (p : Int) V h hs)
  have KM := Lib.hid (fun V h hV => rmembers_walk p a keys cap V h hs hV hl)
  have KP := Lib.hid (fun V => hPublic_walk p secret V (by omega) (by omega))
  clear hs
  cases hk : keysOk p keys with
  | false =>
    have HA := Lib.hid (show allowF p keys me secret = 44 by rw [allowF, if_pos hk])
    rw [hk] at KM
    clear hk
    go_enter Tryd.func22, Tryd.ntmps22
    go_wp2_with (go_at_call 31; (with_reducible refine (KS.out _ hB).mono ?_))
    rintro e w1 ⟨rfl, rfl⟩
    go_wp2_with (go_at_call 32; (with_reducible refine (KM.out _ hB hR).mono ?_))
    rintro e w1 ⟨rfl, hb1⟩
    go_wp2
    go_ret
    exact ⟨by rw [HA.out]; rfl, hb1⟩
  | true =>
    rw [hk] at KM
    by_cases hme : 0 ≤ me ∧ me < keys.length
    rotate_left
    · have HA := Lib.hid (show allowF p keys me secret = 5 by rw [allowF, if_neg (by rw [hk]; decide), if_pos hme])
      have hw : IntKind.i64.wrap ((keys.length : Int) - 1) = (keys.length : Int) - 1 := by rw [IntKind.wrap_i64]; omega
      have HI := Lib.hid (fun V : World => in_no (n := me) (lo := 0) (hi := (keys.length : Int) - 1) V (by omega))
      clear hk hme
      go_enter Tryd.func22, Tryd.ntmps22
      go_wp2_with (go_at_call 31; (with_reducible refine (KS.out _ hB).mono ?_))
      rintro e w1 ⟨rfl, rfl⟩
      go_wp2_with (go_at_call 32; (with_reducible refine (KM.out _ hB hR).mono ?_))
      rintro e w1 ⟨rfl, hb1⟩
      go_wp2_with (go_at_call 36; (with_reducible refine (HI.out _).mono ?_))
      rintro e w2 ⟨rfl, rfl⟩
      go_wp2
      go_ret
      exact ⟨by rw [HA.out]; rfl, hb1⟩
    obtain ⟨j, rfl, hj⟩ : ∃ j : Nat, me = (j : Int) ∧ j < keys.length := ⟨me.toNat, by omega, by omega⟩
    have hw : IntKind.i64.wrap ((keys.length : Int) - 1) = (keys.length : Int) - 1 := by rw [IntKind.wrap_i64]; omega
    have HI := Lib.hid (fun V : World => in_yes (n := (j : Int)) (lo := 0) (hi := (keys.length : Int) - 1) V (by omega))
    have hw2 : IntKind.i64.wrap ((p : Int) - 1) = (p : Int) - 1 := by rw [IntKind.wrap_i64]; omega
    have hji : (j : Int) < (keys.length : Int) := by omega
    by_cases hsc : 0 ≤ secret ∧ secret < p
    rotate_left
    · have HA := Lib.hid (show allowF p keys j secret = 47 by rw [allowF, if_neg (by rw [hk]; decide), if_neg (fun h => h hme), if_pos (.inl hsc)])
      have HJ := Lib.hid (fun V : World => in_no (n := secret) (lo := 0) (hi := (p : Int) - 1) V (by omega))
      clear hk hme hsc
      go_enter Tryd.func22, Tryd.ntmps22
      go_wp2_with (go_at_call 31; (with_reducible refine (KS.out _ hB).mono ?_))
      rintro e w1 ⟨rfl, rfl⟩
      go_wp2_with (go_at_call 32; (with_reducible refine (KM.out _ hB hR).mono ?_))
      rintro e w1 ⟨rfl, hb1⟩
      go_wp2_with (go_at_call 36; (with_reducible refine (HI.out _).mono ?_))
      rintro e w2 ⟨rfl, rfl⟩
      go_wp2_with fail
      refine wp_region_quiet_below (by kernel_rfl) (by kernel_rfl) ?_
      repeat (go_big_quiet_step (first | (go_at_call 36; with_reducible exact Calls.regrown_of (Calls.calm (HJ.out _)))))
      refine wpQuiet_nil ?_
      rintro w3 ⟨p2, rfl⟩
      have hb3 := below_tr hb1 (below_regrown _ p2.d p2.os)
      go_wp2
      go_ret
      exact ⟨by rw [HA.out]; rfl, hb3⟩
    have HJ := Lib.hid (fun V : World => in_yes (n := secret) (lo := 0) (hi := (p : Int) - 1) V (by omega))
    obtain ⟨g, off, x, rfl, -, hx⟩ := hR.int (k := j) hj
    have HX := Lib.hid (fun V (h : Rd V (some ⟨g, off, none⟩) (ints keys)) => (show V.cell? ⟨g, off + j, none⟩ = some (.int .i64 x) by
      obtain ⟨g', off', x', e, hc, hx'⟩ := h.int (k := j) hj
      cases e
      rw [← same_at hx hx']
      exact hc))
    have hgx : keys.getD j 0 = x := by rw [List.getD, hx.out]; rfl
    by_cases hpub : ((gpw p 4 secret : Nat) : Int) = x
    · have HA := Lib.hid (show allowF p keys j secret = 0 by
        rw [allowF, if_neg (by rw [hk]; decide), if_neg (fun h => h hme), if_neg]
        rintro (h | h)
        · exact h hsc
        · rw [Int.toNat_natCast, hgx] at h; exact h hpub)
      have t1 : (((gpw p 4 secret : Nat) : Int) != x) = false := by rw [bne_eq_false_iff_eq]; exact hpub
      generalize gpw p 4 secret = z at *
      clear hk hme hsc hpub hgx hx
      go_enter Tryd.func22, Tryd.ntmps22
      go_wp2_with (go_at_call 31; (with_reducible refine (KS.out _ hB).mono ?_))
      rintro e w1 ⟨rfl, rfl⟩
      go_wp2_with (go_at_call 32; (with_reducible refine (KM.out _ hB hR).mono ?_))
      rintro e w1 ⟨rfl, hb1⟩
      have d1 := fun d os => cell_regrown (HX.out _ (hR.keep hb1)) d os
      go_wp2_with (go_at_call 36; (with_reducible refine (HI.out _).mono ?_))
      rintro e w2 ⟨rfl, rfl⟩
      go_wp2_with fail
      refine wp_region_quiet_below (by kernel_rfl) (by kernel_rfl) ?_
      repeat (go_big_quiet_step (first | (go_at_call 36; with_reducible exact Calls.regrown_of (Calls.calm (HJ.out _))) | (go_at_call 41; with_reducible exact Calls.regrown_of (KP.out _))))
      refine wpQuiet_nil ?_
      rintro w3 ⟨p2, rfl⟩
      have hb3 := below_tr hb1 (below_regrown _ p2.d p2.os)
      go_wp2
      go_ret
      exact ⟨by rw [HA.out]; rfl, hb3⟩
    · have HA := Lib.hid (show allowF p keys j secret = 47 by
        rw [allowF, if_neg (by rw [hk]; decide), if_neg (fun h => h hme), if_pos (.inr (by rw [Int.toNat_natCast, hgx]; exact hpub))])
      have t1 : (((gpw p 4 secret : Nat) : Int) != x) = true := by rw [bne_iff_ne]; exact hpub
      generalize gpw p 4 secret = z at *
      clear hk hme hsc hpub hgx hx
      go_enter Tryd.func22, Tryd.ntmps22
      go_wp2_with (go_at_call 31; (with_reducible refine (KS.out _ hB).mono ?_))
      rintro e w1 ⟨rfl, rfl⟩
      go_wp2_with (go_at_call 32; (with_reducible refine (KM.out _ hB hR).mono ?_))
      rintro e w1 ⟨rfl, hb1⟩
      have d1 := fun d os => cell_regrown (HX.out _ (hR.keep hb1)) d os
      go_wp2_with (go_at_call 36; (with_reducible refine (HI.out _).mono ?_))
      rintro e w2 ⟨rfl, rfl⟩
      go_wp2_with fail
      refine wp_region_quiet_below (by kernel_rfl) (by kernel_rfl) ?_
      repeat (go_big_quiet_step (first | (go_at_call 36; with_reducible exact Calls.regrown_of (Calls.calm (HJ.out _))) | (go_at_call 41; with_reducible exact Calls.regrown_of (KP.out _))))
      refine wpQuiet_nil ?_
      rintro w3 ⟨p2, rfl⟩
      have hb3 := below_tr hb1 (below_regrown _ p2.d p2.os)
      go_wp2
      go_ret
      exact ⟨by rw [HA.out]; rfl, hb3⟩
end Go.Proofs.YtcnffdgmdeflmaaDoor
/- Lists of numbers, and rings, that are the same: the reference's Same. -/
namespace Go.Proofs.YtcnffdgmdeflmaaDoor
open Go.RowKit
set_option maxRecDepth 100000 in
set_option maxHeartbeats 2000000 in
theorem lsame_eq (a : Option Addr) (l : List Int) (c : Nat) (b : Option Addr) (d : Nat) (w : World) (hR : Rd w a (ints l)) (hS : Rd w b (ints l)) (hn : l.length ≤ 281474976710656) :
    Calls Tryd.prog 16 #[.slice a l.length c, .slice b l.length d] w fun e w' => e = .returned (.bool true) ∧ Below w.heap.size w w' := by
  go_enter Tryd.func16, Tryd.ntmps16
  go_wp2_with fail
  go_loopw [14] (fun i wr => ∃ k : Nat, k ≤ l.length ∧ i = .int .i64 (k : Int) ∧ Below w.heap.size w wr) (fun i _ => l.length - (intOf i).toNat)
  case atStart => exact ⟨0, Nat.zero_le _, rfl, Below.refl _ _⟩
  case round =>
    obtain ⟨k, hk, rfl, hB⟩ := hrel
    by_cases hkt : k < l.length
    · have hkl : (k : Int) < (l.length : Int) := by omega
      obtain ⟨g, off, x, rfl, c0, hx⟩ := (hR.keep hB).int (k := k) hkt
      obtain ⟨g', off', y, rfl, e0, hy⟩ := (hS.keep hB).int (k := k) hkt
      obtain rfl := same_at hx hy
      clear hx hy hR hS
      go_wp2_with fail
      go_roundw
      case rel => exact ⟨k + 1, by omega, by go_num, hB⟩
      case measure => simp [intOf]; omega
    · have hkl : ¬ (k : Int) < (l.length : Int) := by omega
      go_wp2
      go_ret
      exact ⟨rfl, hB⟩
set_option maxRecDepth 100000 in
set_option maxHeartbeats 2000000 in
theorem rsame_eq (ca : Option Addr) (C : List Int) (cc : Nat) (za : Option Addr) (Z : List Int) (zc : Nat) (ca' : Option Addr) (cc' : Nat) (za' : Option Addr) (zc' : Nat) (w : World) (h1 : Rd w ca (ints C)) (h2 : Rd w za (ints Z)) (h3 : Rd w ca' (ints C)) (h4 : Rd w za' (ints Z)) (hC : C.length ≤ 281474976710656) (hZ : Z.length ≤ 281474976710656) :
    Calls Tryd.prog 15 #[.agg #[.slice ca C.length cc, .slice za Z.length zc], .agg #[.slice ca' C.length cc', .slice za' Z.length zc']] w fun e w' => e = .returned (.bool true) ∧ Below w.heap.size w w' := by
  obtain ⟨w0, hw0⟩ : ∃ w0, w0 = (w.alloc (.cells #[.slice ca C.length cc, .slice za Z.length zc] 32)).alloc (.cells #[.slice ca' C.length cc', .slice za' Z.length zc'] 32) := ⟨_, rfl⟩
  have hb0 : Below w.heap.size w w0 := by rw [hw0]; exact (((Below.refl w.heap.size w).alloc (Nat.le_refl _) _).alloc (by simp) _)
  have hG : Bx w0 w.heap.size 32 [.slice ca C.length cc, .slice za Z.length zc] := by rw [hw0]; exact (Bx.new w 32 [.slice ca C.length cc, .slice za Z.length zc]).alloc _
  have hH : Bx w0 (w.heap.size + 1) 32 [.slice ca' C.length cc', .slice za' Z.length zc'] := by
    rw [hw0]
    have := Bx.new (w.alloc (.cells #[.slice ca C.length cc, .slice za Z.length zc] 32)) 32 [.slice ca' C.length cc', .slice za' Z.length zc']
    simpa using this
  have K1 := Lib.hid (fun V a b => lsame_eq ca C cc ca' cc' V a b hC)
  have K2 := Lib.hid (fun V a b => lsame_eq za Z zc za' zc' V a b hZ)
  go_enter Tryd.func15, Tryd.ntmps15
  go_upto_region 1 with (fail)
  rw [← hw0]
  clear hw0
  have g0 := hG.cell 0 (v := .slice ca C.length cc) rfl
  have g1 := hH.cell 0 (v := .slice ca' C.length cc') rfl
  go_wp2_with (go_at_call 16; (with_reducible refine (K1.out _ (h1.keep hb0) (h3.keep hb0)).mono ?_))
  rintro e w1 ⟨rfl, hb1⟩
  have hb2 := below_tr hb0 hb1
  have g2 := (hG.keep hb1).cell 1 (v := .slice za Z.length zc) rfl
  have g3 := (hH.keep hb1).cell 1 (v := .slice za' Z.length zc') rfl
  clear g0 g1 hG hH
  go_wp2_with (go_at_call 16; (with_reducible refine (K2.out _ (h2.keep hb2) (h4.keep hb2)).mono ?_))
  rintro e w2 ⟨rfl, hb3⟩
  have HB := Lib.hid (below_tr hb2 hb3)
  clear hb0 hb1 hb2 hb3 g2 g3 K1 K2 h1 h2 h3 h4
  go_wp2
  go_ret
  exact ⟨rfl, HB.out⟩
end Go.Proofs.YtcnffdgmdeflmaaDoor
