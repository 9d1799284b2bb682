/- Lists of numbers, and rings, that are the same: the reference's Same. -/
import Derived.Test.YtcnffdgmdeflmaaGreatDoorGRateD
import Derived.Test.YtcnffdgmdeflmaaGreatDoorGRateRE
namespace Go.Proofs.YtcnffdgmdeflmaaGreatDoor
open Go.RowKit
set_option maxRecDepth 100000 in
set_option maxHeartbeats 2000000 in
theorem lsame_eq (a : Option Addr) (l : List Int) (c : Nat) (b : Option Addr) (d : Nat) (w : World) (hR : Rd w a (ints l)) (hS : Rd w b (ints l)) (hn : l.length ≤ 281474976710656) :
    Calls Tryz.prog 48 #[.slice a l.length c, .slice b l.length d] w fun e w' => e = .returned (.bool true) ∧ Below w.heap.size w w' := by
  go_enter Tryz.func48, Tryz.ntmps48
  go_wp2_with fail
  go_loopw [14] (fun i wr => ∃ k : Nat, k ≤ l.length ∧ i = .int .i64 (k : Int) ∧ Below w.heap.size w wr) (fun i _ => l.length - (intOf i).toNat)
  case atStart => exact ⟨0, Nat.zero_le _, rfl, Below.refl _ _⟩
  case round =>
    obtain ⟨k, hk, rfl, hB⟩ := hrel
    by_cases hkt : k < l.length
    · have hkl : (k : Int) < (l.length : Int) := by omega
      obtain ⟨g, off, x, rfl, c0, hx⟩ := (hR.keep hB).int (k := k) hkt
      obtain ⟨g', off', y, rfl, e0, hy⟩ := (hS.keep hB).int (k := k) hkt
      obtain rfl := same_at hx hy
      clear hx hy hR hS
      go_wp2_with fail
      go_roundw
      case rel => exact ⟨k + 1, by omega, by go_num, hB⟩
      case measure => simp [intOf]; omega
    · have hkl : ¬ (k : Int) < (l.length : Int) := by omega
      go_wp2
      go_ret
      exact ⟨rfl, hB⟩
set_option maxRecDepth 100000 in
set_option maxHeartbeats 2000000 in
theorem rsame_eq (ca : Option Addr) (C : List Int) (cc : Nat) (za : Option Addr) (Z : List Int) (zc : Nat) (ca' : Option Addr) (cc' : Nat) (za' : Option Addr) (zc' : Nat) (w : World) (h1 : Rd w ca (ints C)) (h2 : Rd w za (ints Z)) (h3 : Rd w ca' (ints C)) (h4 : Rd w za' (ints Z)) (hC : C.length ≤ 281474976710656) (hZ : Z.length ≤ 281474976710656) :
    Calls Tryz.prog 21 #[.agg #[.slice ca C.length cc, .slice za Z.length zc], .agg #[.slice ca' C.length cc', .slice za' Z.length zc']] w fun e w' => e = .returned (.bool true) ∧ Below w.heap.size w w' := by
  obtain ⟨w0, hw0⟩ : ∃ w0, w0 = (w.alloc (.cells #[.slice ca C.length cc, .slice za Z.length zc] 30)).alloc (.cells #[.slice ca' C.length cc', .slice za' Z.length zc'] 30) := ⟨_, rfl⟩
  have hb0 : Below w.heap.size w w0 := by rw [hw0]; exact (((Below.refl w.heap.size w).alloc (Nat.le_refl _) _).alloc (by simp) _)
  have hG : Bx w0 w.heap.size 30 [.slice ca C.length cc, .slice za Z.length zc] := by rw [hw0]; exact (Bx.new w 30 [.slice ca C.length cc, .slice za Z.length zc]).alloc _
  have hH : Bx w0 (w.heap.size + 1) 30 [.slice ca' C.length cc', .slice za' Z.length zc'] := by
    rw [hw0]
    have := Bx.new (w.alloc (.cells #[.slice ca C.length cc, .slice za Z.length zc] 30)) 30 [.slice ca' C.length cc', .slice za' Z.length zc']
    simpa using this
  have K1 := Lib.hid (fun V a b => lsame_eq ca C cc ca' cc' V a b hC)
  have K2 := Lib.hid (fun V a b => lsame_eq za Z zc za' zc' V a b hZ)
  go_enter Tryz.func21, Tryz.ntmps21
  go_upto_region 1 with (fail)
  rw [← hw0]
  clear hw0
  have g0 := hG.cell 0 (v := .slice ca C.length cc) rfl
  have g1 := hH.cell 0 (v := .slice ca' C.length cc') rfl
  go_wp2_with (go_at_call 48; (with_reducible refine (K1.out _ (h1.keep hb0) (h3.keep hb0)).mono ?_))
  rintro e w1 ⟨rfl, hb1⟩
  have hb2 := below_tr hb0 hb1
  have g2 := (hG.keep hb1).cell 1 (v := .slice za Z.length zc) rfl
  have g3 := (hH.keep hb1).cell 1 (v := .slice za' Z.length zc') rfl
  clear g0 g1 hG hH
  go_wp2_with (go_at_call 48; (with_reducible refine (K2.out _ (h2.keep hb2) (h4.keep hb2)).mono ?_))
  rintro e w2 ⟨rfl, hb3⟩
  have HB := Lib.hid (below_tr hb2 hb3)
  clear hb0 hb1 hb2 hb3 g2 g3 K1 K2 h1 h2 h3 h4
  go_wp2
  go_ret
  exact ⟨rfl, HB.out⟩
end Go.Proofs.YtcnffdgmdeflmaaGreatDoor
/- Marks for whatever numbers, the program's and the reference's; both answer alike in all. -/
namespace Go.Proofs.YtcnffdgmdeflmaaGreatDoor
open Go.RowKit
/-- a mark, and the error -/
def markF (p : Nat) (h s : Int) : List UInt8 × Int :=
  if h = 1 ∨ memZ p h = false then ([], 1) else if ¬ (1 ≤ s ∧ s < p) then ([], 7) else (putInt ((gpw p h.toNat s : Nat) : Int), 0)
set_option maxRecDepth 100000 in
set_option maxHeartbeats 2000000 in
theorem mark_walk (p : Nat) (h secret : Int) (w : World) (hB : Bases w) (hs : safeP (p : Int) = true) :
    Calls Tryz.prog 46 #[.int .i64 (p : Int), .int .i64 h, .int .i64 secret] w fun e w' => e = .returned (.tuple #[.string ⟨(markF p h secret).1.toArray⟩, .int .i64 (markF p h secret).2]) ∧ Below w.heap.size w w' := by
  obtain ⟨h3, h30, -⟩ := safeP_bd hs
  have KS := Lib.hid (fun V h => ratesafe_walk (p : Int) V h hs)
  have KM := Lib.hid (fun V hB => hMember_walk p h V hB hs)
  have hw2 : IntKind.i64.wrap ((p : Int) - 1) = (p : Int) - 1 := by rw [IntKind.wrap_i64]; omega
  by_cases h1 : h = 1
  · have HF := Lib.hid (show markF p h secret = ([], 1) by rw [markF, if_pos (.inl h1)])
    have t1 : (h == 1) = true := by rw [beq_iff_eq]; exact h1
    rw [HF.out]
    clear hs h1 KM
    go_enter Tryz.func46, Tryz.ntmps46
    go_wp2_with (go_at_call 34; (with_reducible refine (KS.out _ hB).mono ?_))
    rintro e w1 ⟨rfl, rfl⟩
    go_wp2
    go_ret2
    exact ⟨rfl, Below.refl _ _⟩
  have t1 : (h == 1) = false := by rw [beq_eq_false_iff_ne]; exact h1
  cases hm : memZ p h with
  | false =>
    have HF := Lib.hid (show markF p h secret = ([], 1) by rw [markF, if_pos (.inr hm)])
    rw [HF.out]
    rw [hm] at KM
    clear hs h1 hm
    go_enter Tryz.func46, Tryz.ntmps46
    go_wp2_with (go_at_call 34; (with_reducible refine (KS.out _ hB).mono ?_))
    rintro e w1 ⟨rfl, rfl⟩
    go_wp2_with (go_at_call 66; (with_reducible refine (KM.out _ hB).mono ?_))
    rintro e w2 ⟨rfl, hb2⟩
    go_wp2
    go_ret2
    exact ⟨rfl, hb2⟩
  | true =>
    by_cases hsc : 1 ≤ secret ∧ secret < p
    · have hmb := memZ_bd hm
      obtain ⟨x, rfl⟩ : ∃ x : Nat, h = (x : Int) := ⟨h.toNat, by omega⟩
      have HF := Lib.hid (show markF p (x : Int) secret = (putInt ((gpw p x secret : Nat) : Int), 0) by
        rw [markF, if_neg (by rintro (a | a); exact h1 a; rw [hm] at a; cases a), if_neg (fun a => a hsc), Int.toNat_natCast])
      rw [HF.out]
      exact mark_ok p x secret w hB hs (by omega) hm hsc
    · have HF := Lib.hid (show markF p h secret = ([], 7) by
        rw [markF, if_neg (by rintro (a | a); exact h1 a; rw [hm] at a; cases a), if_pos hsc])
      have HI := Lib.hid (fun V : World => in_no (n := secret) (lo := 1) (hi := (p : Int) - 1) V (by omega))
      rw [HF.out]
      rw [hm] at KM
      clear hs h1 hm hsc
      go_enter Tryz.func46, Tryz.ntmps46
      go_wp2_with (go_at_call 34; (with_reducible refine (KS.out _ hB).mono ?_))
      rintro e w1 ⟨rfl, rfl⟩
      go_wp2_with (go_at_call 66; (with_reducible refine (KM.out _ hB).mono ?_))
      rintro e w2 ⟨rfl, hb2⟩
      go_wp2_with (go_at_call 54; (with_reducible refine (HI.out _).mono ?_))
      rintro e w3 ⟨rfl, rfl⟩
      go_wp2
      go_ret2
      exact ⟨rfl, hb2⟩
set_option maxRecDepth 100000 in
set_option maxHeartbeats 2000000 in
theorem rmark_walk (p : Nat) (h secret : Int) (w : World) (hs : rsafe (p : Int) = true) :
    Calls Tryz.prog 47 #[.int .i64 (p : Int), .int .i64 h, .int .i64 secret] w fun e w' => e = .returned (.tuple #[.string ⟨(markF p h secret).1.toArray⟩, .int .i64 (markF p h secret).2]) ∧ Below w.heap.size w w' := by
  obtain ⟨h3, h30, -⟩ := rsafe_bd hs
  have KS := Lib.hid (fun V => rratesafe_walk (p : Int) V hs)
  have KM := Lib.hid (fun V => rMember_walk p h V hs)
  clear hs
  cases hm : memZ p h with
  | false =>
    have HF := Lib.hid (show markF p h secret = ([], 1) by rw [markF, if_pos (.inr hm)])
    rw [HF.out]
    rw [hm] at KM
    clear hm
    go_enter Tryz.func47, Tryz.ntmps47
    go_wp2_with (go_at_call 36; (with_reducible refine (KS.out _).mono ?_))
    (try rintro e w1 ⟨rfl, rfl⟩)
    go_wp2_with (go_at_call 68; (with_reducible refine (KM.out _).mono ?_))
    (try rintro e w1 ⟨rfl, rfl⟩)
    (try go_wp2)
    go_ret2
    exact ⟨rfl, Below.refl _ _⟩
  | true =>
    rw [hm] at KM
    by_cases h1 : h = 1
    · have HF := Lib.hid (show markF p h secret = ([], 1) by rw [markF, if_pos (.inl h1)])
      have t1 : (h == 1) = true := by rw [beq_iff_eq]; exact h1
      rw [HF.out]
      clear hm h1
      go_enter Tryz.func47, Tryz.ntmps47
      go_wp2_with (go_at_call 36; (with_reducible refine (KS.out _).mono ?_))
      (try rintro e w1 ⟨rfl, rfl⟩)
      go_wp2_with (go_at_call 68; (with_reducible refine (KM.out _).mono ?_))
      (try rintro e w1 ⟨rfl, rfl⟩)
      (try go_wp2)
      go_ret2
      exact ⟨rfl, Below.refl _ _⟩
    have t1 : (h == 1) = false := by rw [beq_eq_false_iff_ne]; exact h1
    by_cases hsc : 1 ≤ secret ∧ secret < p
    · have hmb := memZ_bd hm
      obtain ⟨x, rfl⟩ : ∃ x : Nat, h = (x : Int) := ⟨h.toNat, by omega⟩
      have HF := Lib.hid (show markF p (x : Int) secret = (putInt ((gpw p x secret : Nat) : Int), 0) by
        rw [markF, if_neg (by rintro (a | a); exact h1 a; rw [hm] at a; cases a), if_neg (fun a => a hsc), Int.toNat_natCast])
      rw [HF.out]
      have KP := Lib.hid (fun V => rPower_walk p x secret V (by omega) (by omega) (by omega))
      have hg := gpw_lt p x secret
      have KT := Lib.hid (fun V => rputInt_walk [] ((gpw p x secret : Nat) : Int) V ⟨by omega, by omega⟩ (by simp))
      rw [List.nil_append] at KT
      have d1 : decide (secret < 1) = false := decide_eq_false (by omega)
      have d2 : decide (secret ≥ (p : Int)) = false := decide_eq_false (by omega)
      obtain ⟨d3, d4⟩ := hsc
      generalize gpw p x secret = y at *
      clear hm h1 hmb hg
      go_enter Tryz.func47, Tryz.ntmps47
      go_wp2_with (go_at_call 36; (with_reducible refine (KS.out _).mono ?_))
      (try rintro e w1 ⟨rfl, rfl⟩)
      go_wp2_with (go_at_call 68; (with_reducible refine (KM.out _).mono ?_))
      (try rintro e w1 ⟨rfl, rfl⟩)
      go_wp2_with (go_at_call 23; (with_reducible refine (KP.out _).mono ?_))
      (try rintro e w1 ⟨rfl, rfl⟩)
      go_wp2_with (go_at_call 75; (with_reducible refine (KT.out _).mono ?_))
      rintro e w1 ⟨rfl, hb1⟩
      go_wp2
      go_ret2
      exact ⟨rfl, hb1⟩
    · have HF := Lib.hid (show markF p h secret = ([], 7) by
        rw [markF, if_neg (by rintro (a | a); exact h1 a; rw [hm] at a; cases a), if_pos hsc])
      rw [HF.out]
      clear hm h1
      rcases Int.lt_or_le secret 1 with h0 | h0
      · have d1 : decide (secret < 1) = true := decide_eq_true h0
        clear hsc
        go_enter Tryz.func47, Tryz.ntmps47
        go_wp2_with (go_at_call 36; (with_reducible refine (KS.out _).mono ?_))
        (try rintro e w1 ⟨rfl, rfl⟩)
        go_wp2_with (go_at_call 68; (with_reducible refine (KM.out _).mono ?_))
        (try rintro e w1 ⟨rfl, rfl⟩)
        (try go_wp2)
        go_ret2
        exact ⟨rfl, Below.refl _ _⟩
      · have d1 : decide (secret < 1) = false := decide_eq_false (by omega)
        have d2 : decide (secret ≥ (p : Int)) = true := decide_eq_true (by omega)
        have d3 : (p : Int) ≤ secret := by omega
        clear hsc
        go_enter Tryz.func47, Tryz.ntmps47
        go_wp2_with (go_at_call 36; (with_reducible refine (KS.out _).mono ?_))
        (try rintro e w1 ⟨rfl, rfl⟩)
        go_wp2_with (go_at_call 68; (with_reducible refine (KM.out _).mono ?_))
        (try rintro e w1 ⟨rfl, rfl⟩)
        (try go_wp2)
        go_ret2
        exact ⟨rfl, Below.refl _ _⟩
end Go.Proofs.YtcnffdgmdeflmaaGreatDoor
