/- Parts of the seats, by counting and by sorting. No program in sight. -/
import Derived.Test.YtpofijdkckaphaaGreatDoorGGreP
import Derived.Test.YtpofijdkckaphaaGreatDoorGIn
namespace Go.Proofs.YtpofijdkckaphaaGreatDoor
def sortI (l : List Int) : List Int := l.mergeSort fun x y => decide (x ≤ y)
theorem rise_mem {n : Nat} {A : List Int} (h : riseP n A = true) : ∀ i ∈ A, i ∈ upI n := fun i hi => by
  unfold riseP at h
  rw [Bool.and_eq_true] at h
  exact mem_upI.2 (of_decide_eq_true (List.all_eq_true.1 h.2 i hi))
theorem rise_pair {n : Nat} {A : List Int} (h : riseP n A = true) : A.Pairwise (· < ·) := by
  unfold riseP at h
  rw [Bool.and_eq_true] at h
  exact of_decide_eq_true h.1
theorem rise_len {n : Nat} {A : List Int} (h : riseP n A = true) : A.length ≤ n := by
  have := len_inj (rv := fun x => x) A (upI n) ((rise_pair h).imp (fun {a b} hab => by omega)) (rise_mem h)
  rwa [upI_len] at this
theorem sort_eq {n : Nat} {L : List Int} (hL : ∀ i ∈ L, i ∈ upI n) : decide (sortI L = upI n) = (upI n).all fun i => decide (L.count i = 1) := by
  have hp : (sortI L).Perm L := List.mergeSort_perm _ _
  rw [Bool.eq_iff_iff, decide_eq_true_iff, List.all_eq_true]
  constructor
  · intro h i hi
    rw [h] at hp
    rw [← hp.count_eq]
    exact decide_eq_true (pair_count (upI_pair n) hi)
  · intro h
    have hq : L.Perm (upI n) := List.perm_iff_count.2 (fun i => by
      by_cases hi : i ∈ upI n
      · rw [of_decide_eq_true (h i hi), pair_count (upI_pair n) hi]
      · rw [List.count_eq_zero.2 hi, List.count_eq_zero.2 (fun hc => hi (hL i hc))])
    have hs : (sortI L).Pairwise (fun x y => decide (x ≤ y) = true) := List.pairwise_mergeSort (fun a b c h1 h2 => by simp at h1 h2 ⊢; omega) (fun a b => by simp; omega) L
    refine (hp.trans hq).eq_of_pairwise (le := fun a b => a ≤ b) (fun a b _ _ h1 h2 => by omega) (hs.imp fun {a b} h => of_decide_eq_true h) ((upI_pair n).imp fun {a b} h => by omega)
/-- what parted reckons, round by round -/
theorem parts_sort (n : Nat) (A : List Int) (R : List (List Int)) : partsP n A R = (riseP n A && ((R.all fun r => !r.isEmpty && riseP n r) && decide (sortI (A ++ R.flatten) = upI n))) := by
  unfold partsP
  cases hA : riseP n A with
  | false => rfl
  | true =>
    cases hR : (R.all fun r => !r.isEmpty && riseP n r) with
    | false => rfl
    | true =>
      rw [sort_eq]
      intro i hi
      rcases List.mem_append.1 hi with h | h
      · exact rise_mem hA i h
      · obtain ⟨r, hr, hir⟩ := List.mem_flatten.1 h
        have := List.all_eq_true.1 hR r hr
        rw [Bool.and_eq_true] at this
        exact rise_mem this.2 i hir
end Go.Proofs.YtpofijdkckaphaaGreatDoor
/- Seats: the program's Set, Rounds, Opens. -/
namespace Go.Proofs.YtpofijdkckaphaaGreatDoor
open Go.RowKit
set_option maxRecDepth 100000 in
theorem gset_walk (l : List Seat) (a : Option Addr) (c : Nat) (w : World) (hS : RdS w a l) (hl : l.length ≤ 32) :
    Calls Tryz.prog 11 #[.slice a l.length c] w fun e w' => ∃ a1 c1, e = .returned (.tuple #[.slice a1 (setP (opS l) (holdS wiF l) l.length).length c1, .int .i64 0]) ∧ Rd w' a1 (ints (setP (opS l) (holdS wiF l) l.length)) ∧ Below w.heap.size w w' := by
  have K1 := Lib.hid (run_walk l a c w hS hl)
  clear hS
  generalize setP (opS l) (holdS wiF l) l.length = G at *
  generalize roundsP (opS l) (holdS wiF l) l.length = H at *
  go_enter Tryz.func11, Tryz.ntmps11
  go_wp2_with (go_at_call 33; (with_reducible refine K1.out.mono ?_); (first | rintro e w1 ⟨a1, c1, a2, c2, R, rfl, hR1, hR2, hR3, hb1⟩ | rintro e w1 a1 c1 a2 c2 R rfl hR1 hR2 hR3 hb1))
  go_ret2
  exact ⟨a1, c1, rfl, hR1, hb1⟩
set_option maxRecDepth 100000 in
theorem grounds_walk (l : List Seat) (a : Option Addr) (c : Nat) (w : World) (hS : RdS w a l) (hl : l.length ≤ 32) :
    Calls Tryz.prog 26 #[.slice a l.length c] w fun e w' => ∃ a2 c2 R, e = .returned (.tuple #[.slice a2 R.length c2, .int .i64 0]) ∧ RdL w' a2 R ∧ R.map IL.lst = roundsP (opS l) (holdS wiF l) l.length ∧ Below w.heap.size w w' := by
  have K1 := Lib.hid (run_walk l a c w hS hl)
  clear hS
  generalize setP (opS l) (holdS wiF l) l.length = G at *
  generalize roundsP (opS l) (holdS wiF l) l.length = H at *
  go_enter Tryz.func26, Tryz.ntmps26
  go_wp2_with (go_at_call 33; (with_reducible refine K1.out.mono ?_); (first | rintro e w1 ⟨a1, c1, a2, c2, R, rfl, hR1, hR2, hR3, hb1⟩ | rintro e w1 a1 c1 a2 c2 R rfl hR1 hR2 hR3 hb1))
  go_ret2
  exact ⟨a2, c2, R, rfl, hR2, hR3, hb1⟩
/-- one seat in Opens -/
def okS (op : Int → Bool) (H : List Int → Int → Bool) (A : List Int) (i : Int) : Bool := !(op i && !decide (i ∈ A)) && !(!op i && (decide (i ∈ A) && !H A i))
theorem opens_eq (op : Int → Bool) (H : List Int → Int → Bool) (n : Nat) (A : List Int) : opensP op H n A = (riseP n A && (upI n).all (okS op H A)) := rfl
theorem all_up_step {f : Int → Bool} {k : Nat} (h : (upI k).all f = true) (hk : f (k : Int) = true) : (upI (k + 1)).all f = true := by
  rw [upI_succ, List.all_append, h, List.all_cons, hk]; rfl
theorem all_up_no {f : Int → Bool} {n k : Nat} (hkn : k < n) (hk : f (k : Int) = false) : (upI n).all f = false := by
  rw [Bool.eq_false_iff]
  intro h
  have := List.all_eq_true.1 h (k : Int) (mem_upI.2 ⟨by omega, by omega⟩)
  rw [hk] at this; cases this
set_option maxRecDepth 100000 in
set_option maxHeartbeats 2000000 in
theorem opens_walk (l : List Seat) (a : Option Addr) (c : Nat) (A : List Int) (sa : Option Addr) (sc : Nat) (w : World) (hS : RdS w a l) (hA : Rd w sa (ints A)) (hl : l.length ≤ 32) (hAl : A.length ≤ 1000) :
    Calls Tryz.prog 12 #[.slice a l.length c, .slice sa A.length sc] w fun e w' => e = .returned (.bool (opensP (opS l) (holdS wiF l) l.length A)) ∧ Below w.heap.size w w' := by
  have hl2 : decide ((l.length : Int) > 32) = false := decide_eq_false (by omega)
  have hl3 : ¬ (32 < l.length) := by omega
  have e1 : IntKind.i64.wrap ((l.length : Int) - 1) = (l.length : Int) - 1 := by rw [IntKind.wrap_i64] <;> omega
  have KR := Lib.hid (rising_walk l.length ((l.length : Int) - 1) sa A sc w rfl hA (by omega))
  rw [opens_eq]
  cases hr : riseP l.length A with
  | false =>
    rw [hr] at KR
    clear hS hA
    go_enter Tryz.func12, Tryz.ntmps12
    go_wp2_with (go_at_call 34; (with_reducible refine KR.out.mono ?_); rintro e w1 ⟨rfl, rfl⟩)
    go_ret
    exact ⟨rfl, Below.refl _ _⟩
  | true =>
    rw [hr] at KR
    have HS := Lib.hid hS
    have HA := Lib.hid hA
    have HIN := Lib.hid (rise_mem hr)
    have HAL := Lib.hid hAl
    have HLL := Lib.hid hl
    clear hS hA hr hAl hl
    go_enter Tryz.func12, Tryz.ntmps12
    go_wp2_with (go_at_call 34; (with_reducible refine KR.out.mono ?_); rintro e w1 ⟨rfl, rfl⟩)
    go_loopw [21] (fun i wr => ∃ k : Nat, k ≤ l.length ∧ i = .int .i64 (k : Int) ∧ Hid ((upI k).all (okS (opS l) (holdS wiF l) A) = true) ∧ Below w.heap.size w wr) (fun i _ => l.length - (intOf i).toNat)
    case atStart => exact ⟨0, by omega, rfl, Lib.hid rfl, Below.refl _ _⟩
    case round =>
      obtain ⟨k, hk, rfl, hok, hB⟩ := hrel
      by_cases hkt : k < l.length
      · have hkl : (k : Int) < (l.length : Int) := by omega
        have HKT := Lib.hid hkt
        have hS := HS.out.keep hB
        obtain ⟨gl, ol, x, rfl, hx, d0, d1, d2, d3, d4, d5, d6⟩ := hS.seat hkt
        have hbx := (Below.refl wr.heap.size wr).alloc (Nat.le_refl _) (.cells #[.string ⟨x.mem.person.toArray⟩, .int .i64 x.mem.number, .int .i64 x.mem.dept, .int .i64 x.mem.day, .slice x.mem.aa x.mem.ans.length x.mem.ac, .slice x.ca x.T.length x.cc, .bool x.opn] 44)
        have hX := Bx.new wr 44 [.string ⟨x.mem.person.toArray⟩, .int .i64 x.mem.number, .int .i64 x.mem.dept, .int .i64 x.mem.day, .slice x.mem.aa x.mem.ans.length x.mem.ac, .slice x.ca x.T.length x.cc, .bool x.opn]
        change Bx (wr.alloc (.cells #[.string ⟨x.mem.person.toArray⟩, .int .i64 x.mem.number, .int .i64 x.mem.dept, .int .i64 x.mem.day, .slice x.mem.aa x.mem.ans.length x.mem.ac, .slice x.ca x.T.length x.cc, .bool x.opn] 44)) _ _ _ at hX
        have hop := opS_at hx.out
        have hS1 := hS.keep hbx
        have hA1 := (HA.out.keep hB).keep hbx
        have hB1 := below_tr hB hbx
        clear hS hx
        go_upto_region 6 with (fail)
        generalize wr.alloc (.cells #[.string ⟨x.mem.person.toArray⟩, .int .i64 x.mem.number, .int .i64 x.mem.dept, .int .i64 x.mem.day, .slice x.mem.aa x.mem.ans.length x.mem.ac, .slice x.ca x.T.length x.cc, .bool x.opn] 44) = w2 at *
        generalize wr.heap.size = gx at *
        clear hbx hB d0 d1 d2 d3 d4 d5 d6
        have x6 := hX.cell 6 rfl
        have KC := Lib.hid (icontains_walk sa A sc (k : Int) w2 hA1 (by have := HAL.out; omega))
        have KH := Lib.hid (gholds_walk l _ c A sa sc k w2 hS1 hA1 HIN.out hkt HAL.out)
        have hstep : okS (opS l) (holdS wiF l) A (k : Int) = (!(x.opn && !decide ((k : Int) ∈ A)) && !(!x.opn && (decide ((k : Int) ∈ A) && !holdS wiF l A (k : Int)))) := by unfold okS; rw [hop]
        have HB1 := Lib.hid hB1
        clear hX hop hS1 hA1 hB1
        generalize holdS wiF l A (k : Int) = hh at *
        generalize decide ((k : Int) ∈ A) = ii at *
        generalize x.opn = oo at *
        cases oo with
        | true =>
          cases ii with
          | true =>
            have HT := Lib.hid (all_up_step hok.out (show okS (opS l) (holdS wiF l) A (k : Int) = true by rw [hstep]; rfl))
            clear hok hstep
            go_wp2_with (go_at_call 35; (with_reducible refine KC.out.mono ?_); (first | rintro e w3 ⟨rfl, rfl⟩ | rintro e w3 rfl rfl))
            go_roundw
            case rel => exact ⟨k + 1, by omega, by go_num, HT, HB1.out⟩
            case measure => simp [intOf]; omega
          | false =>
            have HF := Lib.hid (all_up_no HKT.out (show okS (opS l) (holdS wiF l) A (k : Int) = false by rw [hstep]; rfl))
            clear hok hstep
            go_wp2_with (go_at_call 35; (with_reducible refine KC.out.mono ?_); (first | rintro e w3 ⟨rfl, rfl⟩ | rintro e w3 rfl rfl))
            go_ret
            exact ⟨by rw [HF.out]; rfl, HB1.out⟩
        | false =>
          cases ii with
          | false =>
            have HT := Lib.hid (all_up_step hok.out (show okS (opS l) (holdS wiF l) A (k : Int) = true by rw [hstep]; rfl))
            clear hok hstep
            go_wp2_with (go_at_call 35; (with_reducible refine KC.out.mono ?_); (first | rintro e w3 ⟨rfl, rfl⟩ | rintro e w3 rfl rfl))
            go_roundw
            case rel => exact ⟨k + 1, by omega, by go_num, HT, HB1.out⟩
            case measure => simp [intOf]; omega
          | true =>
            cases hh with
            | true =>
              have HT := Lib.hid (all_up_step hok.out (show okS (opS l) (holdS wiF l) A (k : Int) = true by rw [hstep]; rfl))
              clear hok hstep
              go_wp2_with (first | (go_at_call 35; (with_reducible refine KC.out.mono ?_); (first | rintro e w3 ⟨rfl, rfl⟩ | rintro e w3 rfl rfl)) | (go_at_call 36; (with_reducible refine KH.out.mono ?_); (first | rintro e w4 ⟨rfl, hb4⟩ | rintro e w4 rfl hb4)))
              go_roundw
              case rel => exact ⟨k + 1, by omega, by go_num, HT, below_tr HB1.out hb4⟩
              case measure => simp [intOf]; omega
            | false =>
              have HF := Lib.hid (all_up_no HKT.out (show okS (opS l) (holdS wiF l) A (k : Int) = false by rw [hstep]; rfl))
              clear hok hstep
              go_wp2_with (first | (go_at_call 35; (with_reducible refine KC.out.mono ?_); (first | rintro e w3 ⟨rfl, rfl⟩ | rintro e w3 rfl rfl)) | (go_at_call 36; (with_reducible refine KH.out.mono ?_); (first | rintro e w4 ⟨rfl, hb4⟩ | rintro e w4 rfl hb4)))
              go_ret
              exact ⟨by rw [HF.out]; rfl, below_tr HB1.out hb4⟩
      · have hkl : ¬ (k : Int) < (l.length : Int) := by omega
        obtain rfl : k = l.length := by omega
        go_wp2
        go_ret
        exact ⟨by rw [hok.out]; rfl, hB⟩
end Go.Proofs.YtpofijdkckaphaaGreatDoor
