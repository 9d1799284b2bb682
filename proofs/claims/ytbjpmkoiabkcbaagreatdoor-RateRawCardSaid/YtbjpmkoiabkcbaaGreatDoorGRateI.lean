/- Marks of handles: the program's. -/
import Derived.Test.YtbjpmkoiabkcbaaGreatDoorGRateC
import Derived.Test.YtbjpmkoiabkcbaaGreatDoorGRateRE
import Derived.Test.YtbjpmkoiabkcbaaGreatDoorGHandC
namespace Go.Proofs.YtbjpmkoiabkcbaaGreatDoor
open Go.RowKit
set_option maxRecDepth 100000 in
set_option maxHeartbeats 2000000 in
theorem mark_ok (p h : Nat) (secret : Int) (w : World) (hB : Bases w) (hs : safeP (p : Int) = true) (h1 : h ≠ 1) (hm : memZ p (h : Int) = true) (hsc : 1 ≤ secret ∧ secret < p) :
    Calls Tryz.prog 14 #[.int .i64 (p : Int), .int .i64 (h : Int), .int .i64 secret] w fun e w' => e = .returned (.tuple #[.string ⟨(putInt ((gpw p h secret : Nat) : Int)).toArray⟩, .int .i64 0]) ∧ Below w.heap.size w w' := by
  obtain ⟨h3, h30, -⟩ := safeP_bd hs
  have hmb : (0 : Int) < (h : Int) ∧ (h : Int) < 2 * (p : Int) + 1 := by
    simp only [memZ, memH, Bool.and_eq_true, decide_eq_true_eq] at hm
    omega
  have KS := Lib.hid (fun V h => ratesafe_walk (p : Int) V h hs)
  have KM := Lib.hid (fun V hB => hMember_walk p (h : Int) V hB hs)
  rw [hm] at KM
  have KP := Lib.hid (fun V => hPower_walk p h secret V (by omega) (by omega) (by omega))
  have hg := gpw_lt p h secret
  have KT := Lib.hid (fun V => putInt_nil ((gpw p h secret : Nat) : Int) V ⟨by omega, by omega⟩)
  have hw2 : IntKind.i64.wrap ((p : Int) - 1) = (p : Int) - 1 := by rw [IntKind.wrap_i64]; omega
  have HI := Lib.hid (fun V : World => in_yes (n := secret) (lo := 1) (hi := (p : Int) - 1) V (by omega))
  have t1 : ((h : Int) == 1) = false := by rw [beq_eq_false_iff_ne]; omega
  generalize gpw p h secret = y at *
  clear hs hm hmb hsc h1 hg
  go_enter Tryz.func14, Tryz.ntmps14
  go_wp2_with (go_at_call 28; (with_reducible refine (KS.out _ hB).mono ?_))
  rintro e w1 ⟨rfl, rfl⟩
  go_wp2_with (go_at_call 40; (with_reducible refine (KM.out _ hB).mono ?_))
  rintro e w2 ⟨rfl, hb2⟩
  go_wp2_with (go_at_call 41; (with_reducible refine (HI.out _).mono ?_))
  rintro e w3 ⟨rfl, rfl⟩
  go_wp2_with (go_at_call 21; (with_reducible refine (KP.out _).mono ?_))
  rintro e w4 ⟨rfl, hb4⟩
  go_wp2_with (go_at_call 42; (with_reducible refine (KT.out _).mono ?_))
  rintro e w5 ⟨rfl, hb5⟩
  go_wp2
  go_ret2
  exact ⟨rfl, below_tr (below_tr hb2 hb4) hb5⟩
end Go.Proofs.YtbjpmkoiabkcbaaGreatDoor
/- Marks for whatever numbers, the program's and the reference's; both answer alike in all. -/
namespace Go.Proofs.YtbjpmkoiabkcbaaGreatDoor
open Go.RowKit
/-- a mark, and the error -/
def markF (p : Nat) (h s : Int) : List UInt8 × Int :=
  if h = 1 ∨ memZ p h = false then ([], 1) else if ¬ (1 ≤ s ∧ s < p) then ([], 7) else (putInt ((gpw p h.toNat s : Nat) : Int), 0)
set_option maxRecDepth 100000 in
set_option maxHeartbeats 2000000 in
theorem mark_walk (p : Nat) (h secret : Int) (w : World) (hB : Bases w) (hs : safeP (p : Int) = true) :
    Calls Tryz.prog 14 #[.int .i64 (p : Int), .int .i64 h, .int .i64 secret] w fun e w' => e = .returned (.tuple #[.string ⟨(markF p h secret).1.toArray⟩, .int .i64 (markF p h secret).2]) ∧ Below w.heap.size w w' := by
  obtain ⟨h3, h30, -⟩ := safeP_bd hs
  have KS := Lib.hid (fun V h => ratesafe_walk (p : Int) V h hs)
  have KM := Lib.hid (fun V hB => hMember_walk p h V hB hs)
  have hw2 : IntKind.i64.wrap ((p : Int) - 1) = (p : Int) - 1 := by rw [IntKind.wrap_i64]; omega
  by_cases h1 : h = 1
  · have HF := Lib.hid (show markF p h secret = ([], 1) by rw [markF, if_pos (.inl h1)])
    have t1 : (h == 1) = true := by rw [beq_iff_eq]; exact h1
    rw [HF.out]
    clear hs h1 KM
    go_enter Tryz.func14, Tryz.ntmps14
    go_wp2_with (go_at_call 28; (with_reducible refine (KS.out _ hB).mono ?_))
    rintro e w1 ⟨rfl, rfl⟩
    go_wp2
    go_ret2
    exact ⟨rfl, Below.refl _ _⟩
  have t1 : (h == 1) = false := by rw [beq_eq_false_iff_ne]; exact h1
  cases hm : memZ p h with
  | false =>
    have HF := Lib.hid (show markF p h secret = ([], 1) by rw [markF, if_pos (.inr hm)])
    rw [HF.out]
    rw [hm] at KM
    clear hs h1 hm
    go_enter Tryz.func14, Tryz.ntmps14
    go_wp2_with (go_at_call 28; (with_reducible refine (KS.out _ hB).mono ?_))
    rintro e w1 ⟨rfl, rfl⟩
    go_wp2_with (go_at_call 40; (with_reducible refine (KM.out _ hB).mono ?_))
    rintro e w2 ⟨rfl, hb2⟩
    go_wp2
    go_ret2
    exact ⟨rfl, hb2⟩
  | true =>
    by_cases hsc : 1 ≤ secret ∧ secret < p
    · have hmb := memZ_bd hm
      obtain ⟨x, rfl⟩ : ∃ x : Nat, h = (x : Int) := ⟨h.toNat, by omega⟩
      have HF := Lib.hid (show markF p (x : Int) secret = (putInt ((gpw p x secret : Nat) : Int), 0) by
        rw [markF, if_neg (by rintro (a | a); exact h1 a; rw [hm] at a; cases a), if_neg (fun a => a hsc), Int.toNat_natCast])
      rw [HF.out]
      exact mark_ok p x secret w hB hs (by omega) hm hsc
    · have HF := Lib.hid (show markF p h secret = ([], 7) by
        rw [markF, if_neg (by rintro (a | a); exact h1 a; rw [hm] at a; cases a), if_pos hsc])
      have HI := Lib.hid (fun V : World => in_no (n := secret) (lo := 1) (hi := (p : Int) - 1) V (by omega))
      rw [HF.out]
      rw [hm] at KM
      clear hs h1 hm hsc
      go_enter Tryz.func14, Tryz.ntmps14
      go_wp2_with (go_at_call 28; (with_reducible refine (KS.out _ hB).mono ?_))
      rintro e w1 ⟨rfl, rfl⟩
      go_wp2_with (go_at_call 40; (with_reducible refine (KM.out _ hB).mono ?_))
      rintro e w2 ⟨rfl, hb2⟩
      go_wp2_with (go_at_call 41; (with_reducible refine (HI.out _).mono ?_))
      rintro e w3 ⟨rfl, rfl⟩
      go_wp2
      go_ret2
      exact ⟨rfl, hb2⟩
set_option maxRecDepth 100000 in
set_option maxHeartbeats 2000000 in
theorem rmark_walk (p : Nat) (h secret : Int) (w : World) (hs : rsafe (p : Int) = true) :
    Calls Tryz.prog 15 #[.int .i64 (p : Int), .int .i64 h, .int .i64 secret] w fun e w' => e = .returned (.tuple #[.string ⟨(markF p h secret).1.toArray⟩, .int .i64 (markF p h secret).2]) ∧ Below w.heap.size w w' := by
  obtain ⟨h3, h30, -⟩ := rsafe_bd hs
  have KS := Lib.hid (fun V => rratesafe_walk (p : Int) V hs)
  have KM := Lib.hid (fun V => rMember_walk p h V hs)
  clear hs
  cases hm : memZ p h with
  | false =>
    have HF := Lib.hid (show markF p h secret = ([], 1) by rw [markF, if_pos (.inr hm)])
    rw [HF.out]
    rw [hm] at KM
    clear hm
    go_enter Tryz.func15, Tryz.ntmps15
    go_wp2_with (go_at_call 43; (with_reducible refine (KS.out _).mono ?_))
    (try rintro e w1 ⟨rfl, rfl⟩)
    go_wp2_with (go_at_call 44; (with_reducible refine (KM.out _).mono ?_))
    (try rintro e w1 ⟨rfl, rfl⟩)
    (try go_wp2)
    go_ret2
    exact ⟨rfl, Below.refl _ _⟩
  | true =>
    rw [hm] at KM
    by_cases h1 : h = 1
    · have HF := Lib.hid (show markF p h secret = ([], 1) by rw [markF, if_pos (.inl h1)])
      have t1 : (h == 1) = true := by rw [beq_iff_eq]; exact h1
      rw [HF.out]
      clear hm h1
      go_enter Tryz.func15, Tryz.ntmps15
      go_wp2_with (go_at_call 43; (with_reducible refine (KS.out _).mono ?_))
      (try rintro e w1 ⟨rfl, rfl⟩)
      go_wp2_with (go_at_call 44; (with_reducible refine (KM.out _).mono ?_))
      (try rintro e w1 ⟨rfl, rfl⟩)
      (try go_wp2)
      go_ret2
      exact ⟨rfl, Below.refl _ _⟩
    have t1 : (h == 1) = false := by rw [beq_eq_false_iff_ne]; exact h1
    by_cases hsc : 1 ≤ secret ∧ secret < p
    · have hmb := memZ_bd hm
      obtain ⟨x, rfl⟩ : ∃ x : Nat, h = (x : Int) := ⟨h.toNat, by omega⟩
      have HF := Lib.hid (show markF p (x : Int) secret = (putInt ((gpw p x secret : Nat) : Int), 0) by
        rw [markF, if_neg (by rintro (a | a); exact h1 a; rw [hm] at a; cases a), if_neg (fun a => a hsc), Int.toNat_natCast])
      rw [HF.out]
      have KP := Lib.hid (fun V => rPower_walk p x secret V (by omega) (by omega) (by omega))
      have hg := gpw_lt p x secret
      have KT := Lib.hid (fun V => rputInt_walk [] ((gpw p x secret : Nat) : Int) V ⟨by omega, by omega⟩ (by simp))
      rw [List.nil_append] at KT
      have d1 : decide (secret < 1) = false := decide_eq_false (by omega)
      have d2 : decide (secret ≥ (p : Int)) = false := decide_eq_false (by omega)
      obtain ⟨d3, d4⟩ := hsc
      generalize gpw p x secret = y at *
      clear hm h1 hmb hg
      go_enter Tryz.func15, Tryz.ntmps15
      go_wp2_with (go_at_call 43; (with_reducible refine (KS.out _).mono ?_))
      (try rintro e w1 ⟨rfl, rfl⟩)
      go_wp2_with (go_at_call 44; (with_reducible refine (KM.out _).mono ?_))
      (try rintro e w1 ⟨rfl, rfl⟩)
      go_wp2_with (go_at_call 18; (with_reducible refine (KP.out _).mono ?_))
      (try rintro e w1 ⟨rfl, rfl⟩)
      go_wp2_with (go_at_call 45; (with_reducible refine (KT.out _).mono ?_))
      rintro e w1 ⟨rfl, hb1⟩
      go_wp2
      go_ret2
      exact ⟨rfl, hb1⟩
    · have HF := Lib.hid (show markF p h secret = ([], 7) by
        rw [markF, if_neg (by rintro (a | a); exact h1 a; rw [hm] at a; cases a), if_pos hsc])
      rw [HF.out]
      clear hm h1
      rcases Int.lt_or_le secret 1 with h0 | h0
      · have d1 : decide (secret < 1) = true := decide_eq_true h0
        clear hsc
        go_enter Tryz.func15, Tryz.ntmps15
        go_wp2_with (go_at_call 43; (with_reducible refine (KS.out _).mono ?_))
        (try rintro e w1 ⟨rfl, rfl⟩)
        go_wp2_with (go_at_call 44; (with_reducible refine (KM.out _).mono ?_))
        (try rintro e w1 ⟨rfl, rfl⟩)
        (try go_wp2)
        go_ret2
        exact ⟨rfl, Below.refl _ _⟩
      · have d1 : decide (secret < 1) = false := decide_eq_false (by omega)
        have d2 : decide (secret ≥ (p : Int)) = true := decide_eq_true (by omega)
        have d3 : (p : Int) ≤ secret := by omega
        clear hsc
        go_enter Tryz.func15, Tryz.ntmps15
        go_wp2_with (go_at_call 43; (with_reducible refine (KS.out _).mono ?_))
        (try rintro e w1 ⟨rfl, rfl⟩)
        go_wp2_with (go_at_call 44; (with_reducible refine (KM.out _).mono ?_))
        (try rintro e w1 ⟨rfl, rfl⟩)
        (try go_wp2)
        go_ret2
        exact ⟨rfl, Below.refl _ _⟩
end Go.Proofs.YtbjpmkoiabkcbaaGreatDoor
/- Rings where a number is no safe prime: every function says so, the program's and the reference's. -/
namespace Go.Proofs.YtbjpmkoiabkcbaaGreatDoor
open Go.RowKit
set_option maxRecDepth 100000 in
theorem ratesafe_no (p : Int) (w : World) (hB : Bases w) (hs : safeP p = false) :
    Calls Tryz.prog 28 #[.int .i64 p] w fun e w' => e = .returned (.bool false) ∧ w = w' := by
  have KM := Lib.hid (hmod_no p w hB hs)
  clear hs hB
  go_enter Tryz.func28, Tryz.ntmps28
  go_wp2_with (go_at_call 57; (with_reducible refine KM.out.mono ?_))
  rintro e w1 ⟨rfl, rfl⟩
  go_wp2
  go_ret
  exact ⟨rfl, rfl⟩
set_option maxRecDepth 100000 in
theorem rratesafe_no (p : Int) (w : World) (hs : rsafe p = false) :
    Calls Tryz.prog 43 #[.int .i64 p] w fun e w' => e = .returned (.bool false) ∧ w = w' := by
  have KM := Lib.hid (rmod_walk p w)
  rw [hs] at KM
  clear hs
  go_enter Tryz.func43, Tryz.ntmps43
  go_wp2_with (go_at_call 68; (with_reducible refine KM.out.mono ?_))
  (try rintro e w1 ⟨rfl, rfl⟩)
  (try go_wp2)
  go_ret
  exact ⟨rfl, rfl⟩
set_option maxRecDepth 100000 in
theorem allowed_no (p : Int) (a : Option Addr) (kl cap : Nat) (me secret : Int) (w : World) (hB : Bases w) (hs : safeP p = false) :
    Calls Tryz.prog 19 #[.int .i64 p, .slice a kl cap, .int .i64 me, .int .i64 secret] w fun e w' => e = .returned (.int .i64 2) ∧ w = w' := by
  have KS := Lib.hid (ratesafe_no p w hB hs)
  clear hs hB
  go_enter Tryz.func19, Tryz.ntmps19
  go_wp2_with (go_at_call 28; (with_reducible refine KS.out.mono ?_))
  rintro e w1 ⟨rfl, rfl⟩
  go_wp2
  go_ret
  exact ⟨rfl, rfl⟩
set_option maxRecDepth 100000 in
theorem knows_no (p : Int) (a : Option Addr) (kl cap : Nat) (me secret : Int) (w : World) (hs : rsafe p = false) :
    Calls Tryz.prog 33 #[.int .i64 p, .slice a kl cap, .int .i64 me, .int .i64 secret] w fun e w' => e = .returned (.int .i64 2) ∧ w = w' := by
  have KS := Lib.hid (rratesafe_no p w hs)
  clear hs
  go_enter Tryz.func33, Tryz.ntmps33
  go_wp2_with (go_at_call 43; (with_reducible refine KS.out.mono ?_))
  rintro e w1 ⟨rfl, rfl⟩
  go_wp2
  go_ret
  exact ⟨rfl, rfl⟩
set_option maxRecDepth 100000 in
theorem mark_no0 (p : Int) (h secret : Int) (w : World) (hB : Bases w) (hs : safeP p = false) :
    Calls Tryz.prog 14 #[.int .i64 p, .int .i64 h, .int .i64 secret] w fun e w' => e = .returned (.tuple #[.string ⟨([] : List UInt8).toArray⟩, .int .i64 2]) ∧ w = w' := by
  have KS := Lib.hid (ratesafe_no p w hB hs)
  clear hs hB
  go_enter Tryz.func14, Tryz.ntmps14
  go_wp2_with (go_at_call 28; (with_reducible refine KS.out.mono ?_))
  rintro e w1 ⟨rfl, rfl⟩
  go_wp2
  go_ret2
  exact ⟨rfl, rfl⟩
theorem mark_no {p h secret : Int} {w : World} (hB : Bases w) (hs : safeP p = false) :
    Calls Tryz.prog 14 #[.int .i64 p, .int .i64 h, .int .i64 secret] w fun e w' => e = .returned (.tuple #[.string ⟨([] : List UInt8).toArray⟩, .int .i64 2]) ∧ Below w.heap.size w w' := Calls.calm (mark_no0 p h secret w hB hs)
set_option maxRecDepth 100000 in
theorem rmark_no0 (p : Int) (h secret : Int) (w : World) (hs : rsafe p = false) :
    Calls Tryz.prog 15 #[.int .i64 p, .int .i64 h, .int .i64 secret] w fun e w' => e = .returned (.tuple #[.string ⟨([] : List UInt8).toArray⟩, .int .i64 2]) ∧ w = w' := by
  have KS := Lib.hid (rratesafe_no p w hs)
  clear hs
  go_enter Tryz.func15, Tryz.ntmps15
  go_wp2_with (go_at_call 43; (with_reducible refine KS.out.mono ?_))
  rintro e w1 ⟨rfl, rfl⟩
  go_wp2
  go_ret2
  exact ⟨rfl, rfl⟩
theorem rmark_no {p h secret : Int} {w : World} (hs : rsafe p = false) :
    Calls Tryz.prog 15 #[.int .i64 p, .int .i64 h, .int .i64 secret] w fun e w' => e = .returned (.tuple #[.string ⟨([] : List UInt8).toArray⟩, .int .i64 2]) ∧ Below w.heap.size w w' := Calls.calm (rmark_no0 p h secret w hs)
set_option maxRecDepth 100000 in
theorem verify_no {p : Int} {a : Option Addr} {kl cap : Nat} {text : List UInt8} {ca : Option Addr} {cl cc : Nat} {za : Option Addr} {zl zc : Nat} {w : World} (hB : Bases w) (hs : safeP p = false) :
    Calls Tryz.prog 9 #[.int .i64 p, .slice a kl cap, .string ⟨text.toArray⟩, .agg #[.slice ca cl cc, .slice za zl zc]] w fun e w' => e = .returned (.bool false) ∧ Below w.heap.size w w' := by
  have hb0 := (Below.refl w.heap.size w).alloc (Nat.le_refl _) (.cells #[.slice ca cl cc, .slice za zl zc] 24)
  have KS := Lib.hid (ratesafe_no p (w.alloc (.cells #[.slice ca cl cc, .slice za zl zc] 24)) (hB.keep hb0) hs)
  clear hs hB
  go_enter Tryz.func9, Tryz.ntmps9
  go_upto_region 1 with (fail)
  generalize w.alloc (.cells #[.slice ca cl cc, .slice za zl zc] 24) = w0 at *
  go_wp2_with (go_at_call 28; (with_reducible refine KS.out.mono ?_))
  rintro e w1 ⟨rfl, rfl⟩
  go_wp2
  go_ret
  exact ⟨rfl, hb0⟩
set_option maxRecDepth 100000 in
theorem rrverify_no {p : Int} {a : Option Addr} {kl cap : Nat} {text : List UInt8} {ca : Option Addr} {cl cc : Nat} {za : Option Addr} {zl zc : Nat} {w : World} (hs : rsafe p = false) :
    Calls Tryz.prog 17 #[.int .i64 p, .slice a kl cap, .string ⟨text.toArray⟩, .agg #[.slice ca cl cc, .slice za zl zc]] w fun e w' => e = .returned (.bool false) ∧ Below w.heap.size w w' := by
  have hb0 := (Below.refl w.heap.size w).alloc (Nat.le_refl _) (.cells #[.slice ca cl cc, .slice za zl zc] 24)
  have KS := Lib.hid (rratesafe_no p (w.alloc (.cells #[.slice ca cl cc, .slice za zl zc] 24)) hs)
  clear hs
  go_enter Tryz.func17, Tryz.ntmps17
  go_upto_region 1 with (fail)
  generalize w.alloc (.cells #[.slice ca cl cc, .slice za zl zc] 24) = w0 at *
  go_wp2_with (go_at_call 43; (with_reducible refine KS.out.mono ?_))
  rintro e w1 ⟨rfl, rfl⟩
  go_wp2
  go_ret
  exact ⟨rfl, hb0⟩
set_option maxRecDepth 100000 in
theorem explain_no {p : Int} {a : Option Addr} {kl cap : Nat} {me secret : Int} {text : List UInt8} {ca : Option Addr} {cl cc : Nat} {za : Option Addr} {zl zc : Nat} {w : World} (hB : Bases w) (hs : safeP p = false) :
    Calls Tryz.prog 8 #[.int .i64 p, .slice a kl cap, .int .i64 me, .int .i64 secret, .string ⟨text.toArray⟩, .agg #[.slice ca cl cc, .slice za zl zc]] w (ListRes w [] 2) := by
  have hb0 := (Below.refl w.heap.size w).alloc (Nat.le_refl _) (.cells #[.slice ca cl cc, .slice za zl zc] 24)
  have KS := Lib.hid (allowed_no p a kl cap me secret (w.alloc (.cells #[.slice ca cl cc, .slice za zl zc] 24)) (hB.keep hb0) hs)
  clear hs hB
  go_enter Tryz.func8, Tryz.ntmps8
  go_upto_region 1 with (fail)
  generalize w.alloc (.cells #[.slice ca cl cc, .slice za zl zc] 24) = w0 at *
  go_wp2_with (go_at_call 19; (with_reducible refine KS.out.mono ?_))
  rintro e w1 ⟨rfl, rfl⟩
  go_wp2
  go_ret2
  exact ⟨none, 0, rfl, Rd.nil _ _, Nat.le_refl _, hb0⟩
set_option maxRecDepth 100000 in
theorem rrexplain_no {p : Int} {a : Option Addr} {kl cap : Nat} {me secret : Int} {text : List UInt8} {ca : Option Addr} {cl cc : Nat} {za : Option Addr} {zl zc : Nat} {w : World} (hs : rsafe p = false) :
    Calls Tryz.prog 13 #[.int .i64 p, .slice a kl cap, .int .i64 me, .int .i64 secret, .string ⟨text.toArray⟩, .agg #[.slice ca cl cc, .slice za zl zc]] w (ListRes w [] 2) := by
  have hb0 := (Below.refl w.heap.size w).alloc (Nat.le_refl _) (.cells #[.slice ca cl cc, .slice za zl zc] 24)
  have KS := Lib.hid (knows_no p a kl cap me secret (w.alloc (.cells #[.slice ca cl cc, .slice za zl zc] 24)) hs)
  clear hs
  go_enter Tryz.func13, Tryz.ntmps13
  go_upto_region 1 with (fail)
  generalize w.alloc (.cells #[.slice ca cl cc, .slice za zl zc] 24) = w0 at *
  go_wp2_with (go_at_call 33; (with_reducible refine KS.out.mono ?_))
  rintro e w1 ⟨rfl, rfl⟩
  go_wp2
  go_ret2
  exact ⟨none, 0, rfl, Rd.nil _ _, Nat.le_refl _, hb0⟩
set_option maxRecDepth 100000 in
theorem prove_no {p : Int} {a : Option Addr} {kl cap : Nat} {me secret : Int} {text : List UInt8} {ra : Option Addr} {rl rc : Nat} {w : World} (hB : Bases w) (hs : safeP p = false) :
    Calls Tryz.prog 7 #[.int .i64 p, .slice a kl cap, .int .i64 me, .int .i64 secret, .string ⟨text.toArray⟩, .slice ra rl rc] w (RingRes w [] [] 2) := by
  obtain ⟨gr, hgr⟩ : ∃ g, g = w.heap.size := ⟨_, rfl⟩
  have hb0 := (Below.refl w.heap.size w).alloc (Nat.le_refl _) (.cells #[.slice none 0 0, .slice none 0 0] 24)
  have hG := Bx.new w 24 [.slice none 0 0, .slice none 0 0]
  rw [← hgr] at hG
  have HGB := Lib.hid hgr
  have hgw : w.heap.size = gr := hgr.symm
  clear hgr
  change Bx (w.alloc (.cells #[.slice none 0 0, .slice none 0 0] 24)) _ _ _ at hG
  have KS := Lib.hid (allowed_no p a kl cap me secret (w.alloc (.cells #[.slice none 0 0, .slice none 0 0] 24)) (hB.keep hb0) hs)
  clear hs hB
  go_enter Tryz.func7, Tryz.ntmps7
  go_upto_region 1 with (fail)
  generalize w.alloc (.cells #[.slice none 0 0, .slice none 0 0] 24) = w0 at *
  clear hgw
  go_wp2_with (go_at_call 19; (with_reducible refine KS.out.mono ?_))
  rintro e w1 ⟨rfl, rfl⟩
  have hgr : w.heap.size ≤ gr := Nat.le_of_eq HGB.out.symm
  have g0 := hG.cell 0 (v := .slice none 0 0) rfl
  have g1 := hG.cell 1 (v := .slice none 0 0) rfl
  have f0 := hG.free 0
  have f1 := hG.free 1
  have hF : Bx ((w0.setCell ⟨gr, 0, none⟩ (.slice none 0 0)).setCell ⟨gr, 1, none⟩ (.slice none 0 0)) gr 24 [.slice none 0 0, .slice none 0 0] := (hG.set 0 (.slice none 0 0)).set 1 (.slice none 0 0)
  have hFB := (hb0.setCell (p := ⟨gr, 0, none⟩) hgr (.slice none 0 0)).setCell (p := ⟨gr, 1, none⟩) hgr (.slice none 0 0)
  clear hG hb0
  go_wp2_with fail
  refine bodyPost_ret (Ring.ret (t := 12) (u := 13) rfl _ rfl hF) rfl ?_
  exact ⟨none, 0, none, 0, rfl, Rd.nil _ _, Rd.nil _ _, Fresh.nil _, Fresh.nil _, hFB⟩
set_option maxRecDepth 100000 in
theorem rrprove_no {p : Int} {a : Option Addr} {kl cap : Nat} {me secret : Int} {text : List UInt8} {ra : Option Addr} {rl rc : Nat} {w : World} (hs : rsafe p = false) :
    Calls Tryz.prog 12 #[.int .i64 p, .slice a kl cap, .int .i64 me, .int .i64 secret, .string ⟨text.toArray⟩, .slice ra rl rc] w (RingRes w [] [] 2) := by
  obtain ⟨gr, hgr⟩ : ∃ g, g = w.heap.size := ⟨_, rfl⟩
  have hb0 := (Below.refl w.heap.size w).alloc (Nat.le_refl _) (.cells #[.slice none 0 0, .slice none 0 0] 24)
  have hG := Bx.new w 24 [.slice none 0 0, .slice none 0 0]
  rw [← hgr] at hG
  have HGB := Lib.hid hgr
  have hgw : w.heap.size = gr := hgr.symm
  clear hgr
  change Bx (w.alloc (.cells #[.slice none 0 0, .slice none 0 0] 24)) _ _ _ at hG
  have KS := Lib.hid (knows_no p a kl cap me secret (w.alloc (.cells #[.slice none 0 0, .slice none 0 0] 24)) hs)
  clear hs
  go_enter Tryz.func12, Tryz.ntmps12
  go_upto_region 1 with (fail)
  generalize w.alloc (.cells #[.slice none 0 0, .slice none 0 0] 24) = w0 at *
  clear hgw
  go_wp2_with (go_at_call 33; (with_reducible refine KS.out.mono ?_))
  rintro e w1 ⟨rfl, rfl⟩
  have hgr : w.heap.size ≤ gr := Nat.le_of_eq HGB.out.symm
  have g0 := hG.cell 0 (v := .slice none 0 0) rfl
  have g1 := hG.cell 1 (v := .slice none 0 0) rfl
  have f0 := hG.free 0
  have f1 := hG.free 1
  have hF : Bx ((w0.setCell ⟨gr, 0, none⟩ (.slice none 0 0)).setCell ⟨gr, 1, none⟩ (.slice none 0 0)) gr 24 [.slice none 0 0, .slice none 0 0] := (hG.set 0 (.slice none 0 0)).set 1 (.slice none 0 0)
  have hFB := (hb0.setCell (p := ⟨gr, 0, none⟩) hgr (.slice none 0 0)).setCell (p := ⟨gr, 1, none⟩) hgr (.slice none 0 0)
  clear hG hb0
  go_wp2_with fail
  refine bodyPost_ret (Ring.ret (t := 12) (u := 13) rfl _ rfl hF) rfl ?_
  exact ⟨none, 0, none, 0, rfl, Rd.nil _ _, Rd.nil _ _, Fresh.nil _, Fresh.nil _, hFB⟩
end Go.Proofs.YtbjpmkoiabkcbaaGreatDoor
