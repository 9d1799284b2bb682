/- Rings of keys: whoever says that they know a secret. -/
import Derived.Test.YtcnffdgmdeflmaaDoorGRateC
import Derived.Lib.QuietBelow
namespace Go.Proofs.YtcnffdgmdeflmaaDoor
open Go.RowKit
/-- what is wrong with whoever says that they know the secret of a key -/
def allowF (p : Nat) (keys : List Int) (me secret : Int) : Int :=
  if keysOk p keys = false then 44
  else if ¬ (0 ≤ me ∧ me < keys.length) then 5
  else if ¬ (0 ≤ secret ∧ secret < p) ∨ ((gpw p 4 secret : Nat) : Int) ≠ keys.getD me.toNat 0 then 47
  else 0
set_option maxRecDepth 100000 in
set_option maxHeartbeats 4000000 in
theorem allowed_walk (p : Nat) (a : Option Addr) (keys : List Int) (cap : Nat) (me secret : Int) (w : World) (hB : Bases w) (hs : safeP (p : Int) = true) (hR : Rd w a (ints keys)) (hl : keys.length ≤ 281474976710656) :
    Calls Tryd.prog 22 #[.int .i64 (p : Int), .slice a keys.length cap, .int .i64 me, .int .i64 secret] w fun e w' => e = .returned (.int .i64 (allowF p keys me secret)) ∧ Below w.heap.size w w' := by
  obtain ⟨h3, h30, -⟩ := safeP_bd hs
  have KS := Lib.hid (fun V h => ratesafe_walk (p : Int) V h hs)
  have KM := Lib.hid (fun V h hV => rmembers_walk p a keys cap V h hs hV hl)
  have KP := Lib.hid (fun V => hPublic_walk p secret V (by omega) (by omega))
  clear hs
  cases hk : keysOk p keys with
  | false =>
    have HA := Lib.hid (show allowF p keys me secret = 44 by rw [allowF, if_pos hk])
    rw [hk] at KM
    clear hk
    go_enter Tryd.func22, Tryd.ntmps22
    go_wp2_with (go_at_call 31; (with_reducible refine (KS.out _ hB).mono ?_))
    rintro e w1 ⟨rfl, rfl⟩
    go_wp2_with (go_at_call 32; (with_reducible refine (KM.out _ hB hR).mono ?_))
    rintro e w1 ⟨rfl, hb1⟩
    go_wp2
    go_ret
    exact ⟨by rw [HA.out]; rfl, hb1⟩
  | true =>
    rw [hk] at KM
    by_cases hme : 0 ≤ me ∧ me < keys.length
    rotate_left
    · have HA := Lib.hid (show allowF p keys me secret = 5 by rw [allowF, if_neg (by rw [hk]; decide), if_pos hme])
      have hw : IntKind.i64.wrap ((keys.length : Int) - 1) = (keys.length : Int) - 1 := by rw [IntKind.wrap_i64]; omega
      have HI := Lib.hid (fun V : World => in_no (n := me) (lo := 0) (hi := (keys.length : Int) - 1) V (by omega))
      clear hk hme
      go_enter Tryd.func22, Tryd.ntmps22
      go_wp2_with (go_at_call 31; (with_reducible refine (KS.out _ hB).mono ?_))
      rintro e w1 ⟨rfl, rfl⟩
      go_wp2_with (go_at_call 32; (with_reducible refine (KM.out _ hB hR).mono ?_))
      rintro e w1 ⟨rfl, hb1⟩
      go_wp2_with (go_at_call 36; (with_reducible refine (HI.out _).mono ?_))
      rintro e w2 ⟨rfl, rfl⟩
      go_wp2
      go_ret
      exact ⟨by rw [HA.out]; rfl, hb1⟩
    obtain ⟨j, rfl, hj⟩ : ∃ j : Nat, me = (j : Int) ∧ j < keys.length := ⟨me.toNat, by omega, by omega⟩
    have hw : IntKind.i64.wrap ((keys.length : Int) - 1) = (keys.length : Int) - 1 := by rw [IntKind.wrap_i64]; omega
    have HI := Lib.hid (fun V : World => in_yes (n := (j : Int)) (lo := 0) (hi := (keys.length : Int) - 1) V (by omega))
    have hw2 : IntKind.i64.wrap ((p : Int) - 1) = (p : Int) - 1 := by rw [IntKind.wrap_i64]; omega
    have hji : (j : Int) < (keys.length : Int) := by omega
    by_cases hsc : 0 ≤ secret ∧ secret < p
    rotate_left
    · have HA := Lib.hid (show allowF p keys j secret = 47 by rw [allowF, if_neg (by rw [hk]; decide), if_neg (fun h => h hme), if_pos (.inl hsc)])
      have HJ := Lib.hid (fun V : World => in_no (n := secret) (lo := 0) (hi := (p : Int) - 1) V (by omega))
      clear hk hme hsc
      go_enter Tryd.func22, Tryd.ntmps22
      go_wp2_with (go_at_call 31; (with_reducible refine (KS.out _ hB).mono ?_))
      rintro e w1 ⟨rfl, rfl⟩
      go_wp2_with (go_at_call 32; (with_reducible refine (KM.out _ hB hR).mono ?_))
      rintro e w1 ⟨rfl, hb1⟩
      go_wp2_with (go_at_call 36; (with_reducible refine (HI.out _).mono ?_))
      rintro e w2 ⟨rfl, rfl⟩
      go_wp2_with fail
      refine wp_region_quiet_below (by kernel_rfl) (by kernel_rfl) ?_
      repeat (go_big_quiet_step (first | (go_at_call 36; with_reducible exact Calls.regrown_of (Calls.calm (HJ.out _)))))
      refine wpQuiet_nil ?_
      rintro w3 ⟨p2, rfl⟩
      have hb3 := below_tr hb1 (below_regrown _ p2.d p2.os)
      go_wp2
      go_ret
      exact ⟨by rw [HA.out]; rfl, hb3⟩
    have HJ := Lib.hid (fun V : World => in_yes (n := secret) (lo := 0) (hi := (p : Int) - 1) V (by omega))
    obtain ⟨g, off, x, rfl, -, hx⟩ := hR.int (k := j) hj
    have HX := Lib.hid (fun V (h : Rd V (some ⟨g, off, none⟩) (ints keys)) => (show V.cell? ⟨g, off + j, none⟩ = some (.int .i64 x) by
      obtain ⟨g', off', x', e, hc, hx'⟩ := h.int (k := j) hj
      cases e
      rw [← same_at hx hx']
      exact hc))
    have hgx : keys.getD j 0 = x := by rw [List.getD, hx.out]; rfl
    by_cases hpub : ((gpw p 4 secret : Nat) : Int) = x
    · have HA := Lib.hid (show allowF p keys j secret = 0 by
        rw [allowF, if_neg (by rw [hk]; decide), if_neg (fun h => h hme), if_neg]
        rintro (h | h)
        · exact h hsc
        · rw [Int.toNat_natCast, hgx] at h; exact h hpub)
      have t1 : (((gpw p 4 secret : Nat) : Int) != x) = false := by rw [bne_eq_false_iff_eq]; exact hpub
      generalize gpw p 4 secret = z at *
      clear hk hme hsc hpub hgx hx
      go_enter Tryd.func22, Tryd.ntmps22
      go_wp2_with (go_at_call 31; (with_reducible refine (KS.out _ hB).mono ?_))
      rintro e w1 ⟨rfl, rfl⟩
      go_wp2_with (go_at_call 32; (with_reducible refine (KM.out _ hB hR).mono ?_))
      rintro e w1 ⟨rfl, hb1⟩
      have d1 := fun d os => cell_regrown (HX.out _ (hR.keep hb1)) d os
      go_wp2_with (go_at_call 36; (with_reducible refine (HI.out _).mono ?_))
      rintro e w2 ⟨rfl, rfl⟩
      go_wp2_with fail
      refine wp_region_quiet_below (by kernel_rfl) (by kernel_rfl) ?_
      repeat (go_big_quiet_step (first | (go_at_call 36; with_reducible exact Calls.regrown_of (Calls.calm (HJ.out _))) | (go_at_call 41; with_reducible exact Calls.regrown_of (KP.out _))))
      refine wpQuiet_nil ?_
      rintro w3 ⟨p2, rfl⟩
      have hb3 := below_tr hb1 (below_regrown _ p2.d p2.os)
      go_wp2
      go_ret
      exact ⟨by rw [HA.out]; rfl, hb3⟩
    · have HA := Lib.hid (show allowF p keys j secret = 47 by
        rw [allowF, if_neg (by rw [hk]; decide), if_neg (fun h => h hme), if_pos (.inr (by rw [Int.toNat_natCast, hgx]; exact hpub))])
      have t1 : (((gpw p 4 secret : Nat) : Int) != x) = true := by rw [bne_iff_ne]; exact hpub
      generalize gpw p 4 secret = z at *
      clear hk hme hsc hpub hgx hx
      go_enter Tryd.func22, Tryd.ntmps22
      go_wp2_with (go_at_call 31; (with_reducible refine (KS.out _ hB).mono ?_))
      rintro e w1 ⟨rfl, rfl⟩
      go_wp2_with (go_at_call 32; (with_reducible refine (KM.out _ hB hR).mono ?_))
      rintro e w1 ⟨rfl, hb1⟩
      have d1 := fun d os => cell_regrown (HX.out _ (hR.keep hb1)) d os
      go_wp2_with (go_at_call 36; (with_reducible refine (HI.out _).mono ?_))
      rintro e w2 ⟨rfl, rfl⟩
      go_wp2_with fail
      refine wp_region_quiet_below (by kernel_rfl) (by kernel_rfl) ?_
      repeat (go_big_quiet_step (first | (go_at_call 36; with_reducible exact Calls.regrown_of (Calls.calm (HJ.out _))) | (go_at_call 41; with_reducible exact Calls.regrown_of (KP.out _))))
      refine wpQuiet_nil ?_
      rintro w3 ⟨p2, rfl⟩
      have hb3 := below_tr hb1 (below_regrown _ p2.d p2.os)
      go_wp2
      go_ret
      exact ⟨by rw [HA.out]; rfl, hb3⟩
end Go.Proofs.YtcnffdgmdeflmaaDoor
/- Marks of handles: the program's. -/
namespace Go.Proofs.YtcnffdgmdeflmaaDoor
open Go.RowKit
set_option maxRecDepth 100000 in
set_option maxHeartbeats 2000000 in
theorem mark_ok (p h : Nat) (secret : Int) (w : World) (hB : Bases w) (hs : safeP (p : Int) = true) (h1 : h ≠ 1) (hm : memZ p (h : Int) = true) (hsc : 1 ≤ secret ∧ secret < p) :
    Calls Tryd.prog 18 #[.int .i64 (p : Int), .int .i64 (h : Int), .int .i64 secret] w fun e w' => e = .returned (.tuple #[.string ⟨(putInt ((gpw p h secret : Nat) : Int)).toArray⟩, .int .i64 0]) ∧ Below w.heap.size w w' := by
  obtain ⟨h3, h30, -⟩ := safeP_bd hs
  have hmb : (0 : Int) < (h : Int) ∧ (h : Int) < 2 * (p : Int) + 1 := by
    simp only [memZ, memH, Bool.and_eq_true, decide_eq_true_eq] at hm
    omega
  have KS := Lib.hid (fun V h => ratesafe_walk (p : Int) V h hs)
  have KM := Lib.hid (fun V hB => hMember_walk p (h : Int) V hB hs)
  rw [hm] at KM
  have KP := Lib.hid (fun V => hPower_walk p h secret V (by omega) (by omega) (by omega))
  have hg := gpw_lt p h secret
  have KT := Lib.hid (fun V => putInt_nil ((gpw p h secret : Nat) : Int) V ⟨by omega, by omega⟩)
  have hw2 : IntKind.i64.wrap ((p : Int) - 1) = (p : Int) - 1 := by rw [IntKind.wrap_i64]; omega
  have HI := Lib.hid (fun V : World => in_yes (n := secret) (lo := 1) (hi := (p : Int) - 1) V (by omega))
  have t1 : ((h : Int) == 1) = false := by rw [beq_eq_false_iff_ne]; omega
  generalize gpw p h secret = y at *
  clear hs hm hmb hsc h1 hg
  go_enter Tryd.func18, Tryd.ntmps18
  go_wp2_with (go_at_call 31; (with_reducible refine (KS.out _ hB).mono ?_))
  rintro e w1 ⟨rfl, rfl⟩
  go_wp2_with (go_at_call 35; (with_reducible refine (KM.out _ hB).mono ?_))
  rintro e w2 ⟨rfl, hb2⟩
  go_wp2_with (go_at_call 36; (with_reducible refine (HI.out _).mono ?_))
  rintro e w3 ⟨rfl, rfl⟩
  go_wp2_with (go_at_call 24; (with_reducible refine (KP.out _).mono ?_))
  rintro e w4 ⟨rfl, hb4⟩
  go_wp2_with (go_at_call 37; (with_reducible refine (KT.out _).mono ?_))
  rintro e w5 ⟨rfl, hb5⟩
  go_wp2
  go_ret2
  exact ⟨rfl, below_tr (below_tr hb2 hb4) hb5⟩
end Go.Proofs.YtcnffdgmdeflmaaDoor
