/- Public keys of the group of a safe prime. -/
import Derived.Test.YtbjpmkoiabkcbaaGreatDoorGHandE
import Derived.Test.YtbjpmkoiabkcbaaGreatDoorGNum
import Derived.Lib.QuietBelow
namespace Go.Proofs.YtbjpmkoiabkcbaaGreatDoor
open Go.RowKit
set_option maxRecDepth 100000 in
theorem hPublic_walk (p : Nat) (e : Int) (w : World) (hp : 3 ≤ p) (hp2 : p ≤ 1073741824) :
    Calls Tryz.prog 49 #[.int .i64 (p : Int), .int .i64 e] w fun r w' => r = .returned (.int .i64 ((gpw p 4 e : Nat) : Int)) ∧ Below w.heap.size w w' := by
  have kp : ∀ V, Calls Tryz.prog 21 #[.int .i64 (p : Int), .int .i64 4, .int .i64 e] V fun r w' => r = .returned (.int .i64 ((gpw p 4 e : Nat) : Int)) ∧ Below V.heap.size V w' := fun V => hPower_walk p 4 e V (by omega) hp2 (by omega)
  generalize gpw p 4 e = z at *
  have KP := Lib.hid kp
  clear kp
  go_enter Tryz.func49, Tryz.ntmps49
  go_wp2_with (go_at_call 21; (with_reducible refine (KP.out _).mono ?_))
  rintro e' w1 ⟨rfl, hb⟩
  go_wp2
  go_ret
  exact ⟨rfl, hb⟩
end Go.Proofs.YtbjpmkoiabkcbaaGreatDoor
/- Rings of keys: elements of the field, the challenge, whoever says that they know a secret. -/
namespace Go.Proofs.YtbjpmkoiabkcbaaGreatDoor
open Go.RowKit
/-- all numbers are elements -/
def elsF (p : Int) (l : List Int) : Bool := l.all fun x => decide (0 ≤ x ∧ x < p)
theorem elsF_true {p : Int} {l : List Int} (h : ∀ x ∈ l.take l.length, 0 ≤ x ∧ x < p) : elsF p l = true := by
  rw [List.take_length] at h
  exact List.all_eq_true.2 fun x hx => decide_eq_true (h x hx)
theorem elsF_false {p : Int} {l : List Int} {x : Int} (hx : x ∈ l) (h : ¬ (0 ≤ x ∧ x < p)) : elsF p l = false := by
  cases hm : elsF p l with
  | false => rfl
  | true => exact absurd (of_decide_eq_true (List.all_eq_true.1 hm x hx)) h
theorem elsF_all {p : Int} {l : List Int} (h : elsF p l = true) : ∀ x ∈ l, 0 ≤ x ∧ x < p := fun x hx => of_decide_eq_true (List.all_eq_true.1 h x hx)
set_option maxRecDepth 100000 in
set_option maxHeartbeats 2000000 in
theorem elements_walk (p : Int) (a : Option Addr) (l : List Int) (cap : Nat) (w : World) (hB : Bases w) (hs : safeP p = true) (hR : Rd w a (ints l)) (hl : l.length ≤ 281474976710656) :
    Calls Tryz.prog 20 #[.int .i64 p, .slice a l.length cap] w fun e w' => e = .returned (.bool (elsF p l)) ∧ Below w.heap.size w w' := by
  obtain ⟨h3, h30, -⟩ := safeP_bd hs
  have hv : validP p = true := by
    simp only [safeP, Bool.and_eq_true] at hs
    exact hs.2.1
  have kv : ∀ V, Bases V → Calls Tryz.prog 50 #[.int .i64 p] V fun e w' => e = .returned (.bool true) ∧ V = w' := fun V h => by rw [← hv]; exact hvalid_walk p V h h3
  have KV := Lib.hid kv
  clear kv hv hs
  go_enter Tryz.func20, Tryz.ntmps20
  go_wp2_with fail
  go_loopw [9] (fun i wr => ∃ k : Nat, k ≤ l.length ∧ i = .int .i64 (k : Int) ∧ Hid (∀ x ∈ l.take k, 0 ≤ x ∧ x < p) ∧ Below w.heap.size w wr) (fun i _ => l.length - (intOf i).toNat)
  case atStart => exact ⟨0, Nat.zero_le _, rfl, Lib.hid (by simp), Below.refl _ _⟩
  case round =>
    obtain ⟨k, hk, rfl, hA, hB'⟩ := hrel
    by_cases hkt : k < l.length
    · obtain ⟨gx, off, x, rfl, hc, hx⟩ := (hR.keep hB').int (k := k) hkt
      have hkl : (k : Int) < (l.length : Int) := by omega
      by_cases hz : 0 ≤ x
      · have t1 : decide (x < 0) = false := decide_eq_false (by omega)
        by_cases hy : x < p
        · have t2 : decide (x ≥ p) = false := decide_eq_false (by omega)
          have HT : Hid (∀ y ∈ l.take (k + 1), 0 ≤ y ∧ y < p) := Lib.hid fun y hy' => by
            rw [take_at hx] at hy'
            rcases List.mem_append.1 hy' with h | h
            · exact hA.out y h
            · simp at h; rw [h]; exact ⟨hz, hy⟩
          clear hA hx hR hB
          go_wp2_with fail
          go_roundw
          case rel => exact ⟨k + 1, by omega, by go_num, HT, hB'⟩
          case measure => simp [intOf]; omega
        · have t2 : decide (x ≥ p) = true := decide_eq_true (by omega)
          have HF := Lib.hid (elsF_false (mem_at hx) (fun h => hy h.2))
          clear hA hx hR hB
          go_wp2
          go_ret
          exact ⟨by rw [HF.out]; rfl, hB'⟩
      · have t1 : decide (x < 0) = true := decide_eq_true (by omega)
        have HF := Lib.hid (elsF_false (p := p) (mem_at hx) (fun h => hz h.1))
        clear hA hx hR hB
        go_wp2
        go_ret
        exact ⟨by rw [HF.out]; rfl, hB'⟩
    · have hkl : ¬ (k : Int) < (l.length : Int) := by omega
      obtain rfl : k = l.length := by omega
      have HM := Lib.hid (elsF_true hA.out)
      have hBw := hB.keep hB'
      clear hA hB
      go_wp2_with (go_at_call 50; (with_reducible refine (KV.out _ hBw).mono ?_))
      go_ret
      exact ⟨by rw [HM.out]; rfl, hB'⟩
/-- the challenge of a ring -/
def rchF (p : Int) (keys coms : List Int) (text : List UInt8) : Int := elem p (putInts keys ++ putInts coms ++ putText text)
theorem rchF_bd {p : Int} (hp : 2 ≤ p) (keys coms : List Int) (text : List UInt8) : 1 ≤ rchF p keys coms text ∧ rchF p keys coms text < p := by
  unfold rchF elem
  have h1 := Int.emod_nonneg ((num7 (sha (putInts keys ++ putInts coms ++ putText text)) 7 : Nat) : Int) (show p - 1 ≠ 0 by omega)
  have h2 := Int.emod_lt_of_pos ((num7 (sha (putInts keys ++ putInts coms ++ putText text)) 7 : Nat) : Int) (show 0 < p - 1 by omega)
  omega
theorem putInts_short {l : List Int} (hx : ∀ x ∈ l, I64 x) (h : l.length ≤ 100000) : (putInts l).length ≤ 1000010 := by
  have : ∀ (m : List Int), (∀ x ∈ m, I64 x) → (m.flatMap putInt).length ≤ 10 * m.length := fun m hm => by
    induction m with
    | nil => simp
    | cons x m ih =>
      have h1 := putInt_ten (hm x (by simp))
      have h2 := ih fun y hy => hm y (List.mem_cons_of_mem _ hy)
      simp only [List.flatMap_cons, List.length_append, List.length_cons]
      omega
  have h1 := this l hx
  have h2 := putInt_ten (I64.nat (n := l.length) (by omega))
  simp only [putInts, List.length_append]
  omega
set_option maxRecDepth 100000 in
theorem rchal_walk' (p : Int) (a : Option Addr) (keys : List Int) (cap : Nat) (b : Option Addr) (coms : List Int) (cap2 : Nat) (text : List UInt8) (w : World) (hp : 2 ≤ p) (hp2 : p < 4294967296) (hR : Rd w a (ints keys)) (hS : Rd w b (ints coms))
    (hk : ∀ x ∈ keys, I64 x) (hc : ∀ x ∈ coms, I64 x) (hkl : keys.length ≤ 100000) (hcl : coms.length ≤ 100000) (ht : text.length ≤ 1000000) :
    Calls Tryz.prog 24 #[.int .i64 p, .slice a keys.length cap, .slice b coms.length cap2, .string ⟨text.toArray⟩] w fun e w' => e = .returned (.int .i64 (rchF p keys coms text)) ∧ Below w.heap.size w w' := by
  have l1 := putInts_short hk hkl
  have l2 := putInts_short hc hcl
  have l3 := putInt_ten (I64.nat (n := text.length) (by omega))
  have k1 : ∀ V, Rd V a (ints keys) → Calls Tryz.prog 56 #[.string ⟨#[]⟩, .slice a keys.length cap] V fun e w' => e = .returned (.string ⟨(putInts keys).toArray⟩) ∧ Below V.heap.size V w' := fun V hV => by
    have := putInts_any [] a cap keys V (by simp) hV (by omega) hk (by omega)
    rw [List.nil_append] at this
    exact this
  have k2 : ∀ V, Rd V b (ints coms) → Calls Tryz.prog 56 #[.string ⟨(putInts keys).toArray⟩, .slice b coms.length cap2] V fun e w' => e = .returned (.string ⟨(putInts keys ++ putInts coms).toArray⟩) ∧ Below V.heap.size V w' := fun V hV => putInts_any _ b cap2 coms V (by omega) hV (by omega) hc (by omega)
  have k3 : ∀ V, Calls Tryz.prog 55 #[.string ⟨(putInts keys ++ putInts coms).toArray⟩, .string ⟨text.toArray⟩] V fun e w' => e = .returned (.string ⟨(putInts keys ++ putInts coms ++ putText text).toArray⟩) ∧ Below V.heap.size V w' := fun V => putText_any _ text V (by rw [List.length_append]; omega) (by omega)
  have k4 : ∀ V, Calls Tryz.prog 54 #[.int .i64 p, .string ⟨(putInts keys ++ putInts coms ++ putText text).toArray⟩] V fun e w' => e = .returned (.int .i64 (rchF p keys coms text)) ∧ Below V.heap.size V w' := fun V => element_walk p _ V hp hp2 (by simp only [List.length_append, putText]; omega)
  generalize rchF p keys coms text = z at *
  generalize putInts keys ++ putInts coms ++ putText text = s3 at *
  generalize putInts keys ++ putInts coms = s2 at *
  generalize putInts keys = s1 at *
  have K1 := Lib.hid k1
  have K2 := Lib.hid k2
  have K3 := Lib.hid k3
  have K4 := Lib.hid k4
  clear k1 k2 k3 k4 l1 l2 l3 hk hc
  go_enter Tryz.func24, Tryz.ntmps24
  go_wp2_with (go_at_call 56; (with_reducible refine (K1.out _ hR).mono ?_))
  rintro e w1 ⟨rfl, hb1⟩
  go_wp2_with (go_at_call 56; (with_reducible refine (K2.out _ (hS.keep hb1)).mono ?_))
  rintro e w2 ⟨rfl, hb2⟩
  go_wp2_with (go_at_call 55; (with_reducible refine (K3.out _).mono ?_))
  rintro e w3 ⟨rfl, hb3⟩
  go_wp2_with (go_at_call 54; (with_reducible refine (K4.out _).mono ?_))
  rintro e w4 ⟨rfl, hb4⟩
  go_wp2
  go_ret
  exact ⟨rfl, below_tr (below_tr (below_tr hb1 hb2) hb3) hb4⟩
end Go.Proofs.YtbjpmkoiabkcbaaGreatDoor
/- Rings of keys: whoever says that they know a secret. -/
namespace Go.Proofs.YtbjpmkoiabkcbaaGreatDoor
open Go.RowKit
/-- what is wrong with whoever says that they know the secret of a key -/
def allowF (p : Nat) (keys : List Int) (me secret : Int) : Int :=
  if keysOk p keys = false then 44
  else if ¬ (0 ≤ me ∧ me < keys.length) then 5
  else if ¬ (0 ≤ secret ∧ secret < p) ∨ ((gpw p 4 secret : Nat) : Int) ≠ keys.getD me.toNat 0 then 47
  else 0
set_option maxRecDepth 100000 in
set_option maxHeartbeats 4000000 in
theorem allowed_walk (p : Nat) (a : Option Addr) (keys : List Int) (cap : Nat) (me secret : Int) (w : World) (hB : Bases w) (hs : safeP (p : Int) = true) (hR : Rd w a (ints keys)) (hl : keys.length ≤ 281474976710656) :
    Calls Tryz.prog 19 #[.int .i64 (p : Int), .slice a keys.length cap, .int .i64 me, .int .i64 secret] w fun e w' => e = .returned (.int .i64 (allowF p keys me secret)) ∧ Below w.heap.size w w' := by
  obtain ⟨h3, h30, -⟩ := safeP_bd hs
  have KS := Lib.hid (fun V h => ratesafe_walk (p : Int) V h hs)
  have KM := Lib.hid (fun V h hV => rmembers_walk p a keys cap V h hs hV hl)
  have KP := Lib.hid (fun V => hPublic_walk p secret V (by omega) (by omega))
  clear hs
  cases hk : keysOk p keys with
  | false =>
    have HA := Lib.hid (show allowF p keys me secret = 44 by rw [allowF, if_pos hk])
    rw [hk] at KM
    clear hk
    go_enter Tryz.func19, Tryz.ntmps19
    go_wp2_with (go_at_call 28; (with_reducible refine (KS.out _ hB).mono ?_))
    rintro e w1 ⟨rfl, rfl⟩
    go_wp2_with (go_at_call 29; (with_reducible refine (KM.out _ hB hR).mono ?_))
    rintro e w1 ⟨rfl, hb1⟩
    go_wp2
    go_ret
    exact ⟨by rw [HA.out]; rfl, hb1⟩
  | true =>
    rw [hk] at KM
    by_cases hme : 0 ≤ me ∧ me < keys.length
    rotate_left
    · have HA := Lib.hid (show allowF p keys me secret = 5 by rw [allowF, if_neg (by rw [hk]; decide), if_pos hme])
      have hw : IntKind.i64.wrap ((keys.length : Int) - 1) = (keys.length : Int) - 1 := by rw [IntKind.wrap_i64]; omega
      have HI := Lib.hid (fun V : World => in_no (n := me) (lo := 0) (hi := (keys.length : Int) - 1) V (by omega))
      clear hk hme
      go_enter Tryz.func19, Tryz.ntmps19
      go_wp2_with (go_at_call 28; (with_reducible refine (KS.out _ hB).mono ?_))
      rintro e w1 ⟨rfl, rfl⟩
      go_wp2_with (go_at_call 29; (with_reducible refine (KM.out _ hB hR).mono ?_))
      rintro e w1 ⟨rfl, hb1⟩
      go_wp2_with (go_at_call 41; (with_reducible refine (HI.out _).mono ?_))
      rintro e w2 ⟨rfl, rfl⟩
      go_wp2
      go_ret
      exact ⟨by rw [HA.out]; rfl, hb1⟩
    obtain ⟨j, rfl, hj⟩ : ∃ j : Nat, me = (j : Int) ∧ j < keys.length := ⟨me.toNat, by omega, by omega⟩
    have hw : IntKind.i64.wrap ((keys.length : Int) - 1) = (keys.length : Int) - 1 := by rw [IntKind.wrap_i64]; omega
    have HI := Lib.hid (fun V : World => in_yes (n := (j : Int)) (lo := 0) (hi := (keys.length : Int) - 1) V (by omega))
    have hw2 : IntKind.i64.wrap ((p : Int) - 1) = (p : Int) - 1 := by rw [IntKind.wrap_i64]; omega
    have hji : (j : Int) < (keys.length : Int) := by omega
    by_cases hsc : 0 ≤ secret ∧ secret < p
    rotate_left
    · have HA := Lib.hid (show allowF p keys j secret = 47 by rw [allowF, if_neg (by rw [hk]; decide), if_neg (fun h => h hme), if_pos (.inl hsc)])
      have HJ := Lib.hid (fun V : World => in_no (n := secret) (lo := 0) (hi := (p : Int) - 1) V (by omega))
      clear hk hme hsc
      go_enter Tryz.func19, Tryz.ntmps19
      go_wp2_with (go_at_call 28; (with_reducible refine (KS.out _ hB).mono ?_))
      rintro e w1 ⟨rfl, rfl⟩
      go_wp2_with (go_at_call 29; (with_reducible refine (KM.out _ hB hR).mono ?_))
      rintro e w1 ⟨rfl, hb1⟩
      go_wp2_with (go_at_call 41; (with_reducible refine (HI.out _).mono ?_))
      rintro e w2 ⟨rfl, rfl⟩
      go_wp2_with fail
      refine wp_region_quiet_below (by kernel_rfl) (by kernel_rfl) ?_
      repeat (go_big_quiet_step (first | (go_at_call 41; with_reducible exact Calls.regrown_of (Calls.calm (HJ.out _)))))
      refine wpQuiet_nil ?_
      rintro w3 ⟨p2, rfl⟩
      have hb3 := below_tr hb1 (below_regrown _ p2.d p2.os)
      go_wp2
      go_ret
      exact ⟨by rw [HA.out]; rfl, hb3⟩
    have HJ := Lib.hid (fun V : World => in_yes (n := secret) (lo := 0) (hi := (p : Int) - 1) V (by omega))
    obtain ⟨g, off, x, rfl, -, hx⟩ := hR.int (k := j) hj
    have HX := Lib.hid (fun V (h : Rd V (some ⟨g, off, none⟩) (ints keys)) => (show V.cell? ⟨g, off + j, none⟩ = some (.int .i64 x) by
      obtain ⟨g', off', x', e, hc, hx'⟩ := h.int (k := j) hj
      cases e
      rw [← same_at hx hx']
      exact hc))
    have hgx : keys.getD j 0 = x := by rw [List.getD, hx.out]; rfl
    by_cases hpub : ((gpw p 4 secret : Nat) : Int) = x
    · have HA := Lib.hid (show allowF p keys j secret = 0 by
        rw [allowF, if_neg (by rw [hk]; decide), if_neg (fun h => h hme), if_neg]
        rintro (h | h)
        · exact h hsc
        · rw [Int.toNat_natCast, hgx] at h; exact h hpub)
      have t1 : (((gpw p 4 secret : Nat) : Int) != x) = false := by rw [bne_eq_false_iff_eq]; exact hpub
      generalize gpw p 4 secret = z at *
      clear hk hme hsc hpub hgx hx
      go_enter Tryz.func19, Tryz.ntmps19
      go_wp2_with (go_at_call 28; (with_reducible refine (KS.out _ hB).mono ?_))
      rintro e w1 ⟨rfl, rfl⟩
      go_wp2_with (go_at_call 29; (with_reducible refine (KM.out _ hB hR).mono ?_))
      rintro e w1 ⟨rfl, hb1⟩
      have d1 := fun d os => cell_regrown (HX.out _ (hR.keep hb1)) d os
      go_wp2_with (go_at_call 41; (with_reducible refine (HI.out _).mono ?_))
      rintro e w2 ⟨rfl, rfl⟩
      go_wp2_with fail
      refine wp_region_quiet_below (by kernel_rfl) (by kernel_rfl) ?_
      repeat (go_big_quiet_step (first | (go_at_call 41; with_reducible exact Calls.regrown_of (Calls.calm (HJ.out _))) | (go_at_call 49; with_reducible exact Calls.regrown_of (KP.out _))))
      refine wpQuiet_nil ?_
      rintro w3 ⟨p2, rfl⟩
      have hb3 := below_tr hb1 (below_regrown _ p2.d p2.os)
      go_wp2
      go_ret
      exact ⟨by rw [HA.out]; rfl, hb3⟩
    · have HA := Lib.hid (show allowF p keys j secret = 47 by
        rw [allowF, if_neg (by rw [hk]; decide), if_neg (fun h => h hme), if_pos (.inr (by rw [Int.toNat_natCast, hgx]; exact hpub))])
      have t1 : (((gpw p 4 secret : Nat) : Int) != x) = true := by rw [bne_iff_ne]; exact hpub
      generalize gpw p 4 secret = z at *
      clear hk hme hsc hpub hgx hx
      go_enter Tryz.func19, Tryz.ntmps19
      go_wp2_with (go_at_call 28; (with_reducible refine (KS.out _ hB).mono ?_))
      rintro e w1 ⟨rfl, rfl⟩
      go_wp2_with (go_at_call 29; (with_reducible refine (KM.out _ hB hR).mono ?_))
      rintro e w1 ⟨rfl, hb1⟩
      have d1 := fun d os => cell_regrown (HX.out _ (hR.keep hb1)) d os
      go_wp2_with (go_at_call 41; (with_reducible refine (HI.out _).mono ?_))
      rintro e w2 ⟨rfl, rfl⟩
      go_wp2_with fail
      refine wp_region_quiet_below (by kernel_rfl) (by kernel_rfl) ?_
      repeat (go_big_quiet_step (first | (go_at_call 41; with_reducible exact Calls.regrown_of (Calls.calm (HJ.out _))) | (go_at_call 49; with_reducible exact Calls.regrown_of (KP.out _))))
      refine wpQuiet_nil ?_
      rintro w3 ⟨p2, rfl⟩
      have hb3 := below_tr hb1 (below_regrown _ p2.d p2.os)
      go_wp2
      go_ret
      exact ⟨by rw [HA.out]; rfl, hb3⟩
end Go.Proofs.YtbjpmkoiabkcbaaGreatDoor
/- Lists of numbers, and rings, that are the same: the reference's Same. -/
namespace Go.Proofs.YtbjpmkoiabkcbaaGreatDoor
open Go.RowKit
set_option maxRecDepth 100000 in
set_option maxHeartbeats 2000000 in
theorem lsame_eq (a : Option Addr) (l : List Int) (c : Nat) (b : Option Addr) (d : Nat) (w : World) (hR : Rd w a (ints l)) (hS : Rd w b (ints l)) (hn : l.length ≤ 281474976710656) :
    Calls Tryz.prog 16 #[.slice a l.length c, .slice b l.length d] w fun e w' => e = .returned (.bool true) ∧ Below w.heap.size w w' := by
  go_enter Tryz.func16, Tryz.ntmps16
  go_wp2_with fail
  go_loopw [14] (fun i wr => ∃ k : Nat, k ≤ l.length ∧ i = .int .i64 (k : Int) ∧ Below w.heap.size w wr) (fun i _ => l.length - (intOf i).toNat)
  case atStart => exact ⟨0, Nat.zero_le _, rfl, Below.refl _ _⟩
  case round =>
    obtain ⟨k, hk, rfl, hB⟩ := hrel
    by_cases hkt : k < l.length
    · have hkl : (k : Int) < (l.length : Int) := by omega
      obtain ⟨g, off, x, rfl, c0, hx⟩ := (hR.keep hB).int (k := k) hkt
      obtain ⟨g', off', y, rfl, e0, hy⟩ := (hS.keep hB).int (k := k) hkt
      obtain rfl := same_at hx hy
      clear hx hy hR hS
      go_wp2_with fail
      go_roundw
      case rel => exact ⟨k + 1, by omega, by go_num, hB⟩
      case measure => simp [intOf]; omega
    · have hkl : ¬ (k : Int) < (l.length : Int) := by omega
      go_wp2
      go_ret
      exact ⟨rfl, hB⟩
set_option maxRecDepth 100000 in
set_option maxHeartbeats 2000000 in
theorem rsame_eq (ca : Option Addr) (C : List Int) (cc : Nat) (za : Option Addr) (Z : List Int) (zc : Nat) (ca' : Option Addr) (cc' : Nat) (za' : Option Addr) (zc' : Nat) (w : World) (h1 : Rd w ca (ints C)) (h2 : Rd w za (ints Z)) (h3 : Rd w ca' (ints C)) (h4 : Rd w za' (ints Z)) (hC : C.length ≤ 281474976710656) (hZ : Z.length ≤ 281474976710656) :
    Calls Tryz.prog 10 #[.agg #[.slice ca C.length cc, .slice za Z.length zc], .agg #[.slice ca' C.length cc', .slice za' Z.length zc']] w fun e w' => e = .returned (.bool true) ∧ Below w.heap.size w w' := by
  obtain ⟨w0, hw0⟩ : ∃ w0, w0 = (w.alloc (.cells #[.slice ca C.length cc, .slice za Z.length zc] 24)).alloc (.cells #[.slice ca' C.length cc', .slice za' Z.length zc'] 24) := ⟨_, rfl⟩
  have hb0 : Below w.heap.size w w0 := by rw [hw0]; exact (((Below.refl w.heap.size w).alloc (Nat.le_refl _) _).alloc (by simp) _)
  have hG : Bx w0 w.heap.size 24 [.slice ca C.length cc, .slice za Z.length zc] := by rw [hw0]; exact (Bx.new w 24 [.slice ca C.length cc, .slice za Z.length zc]).alloc _
  have hH : Bx w0 (w.heap.size + 1) 24 [.slice ca' C.length cc', .slice za' Z.length zc'] := by
    rw [hw0]
    have := Bx.new (w.alloc (.cells #[.slice ca C.length cc, .slice za Z.length zc] 24)) 24 [.slice ca' C.length cc', .slice za' Z.length zc']
    simpa using this
  have K1 := Lib.hid (fun V a b => lsame_eq ca C cc ca' cc' V a b hC)
  have K2 := Lib.hid (fun V a b => lsame_eq za Z zc za' zc' V a b hZ)
  go_enter Tryz.func10, Tryz.ntmps10
  go_upto_region 1 with (fail)
  rw [← hw0]
  clear hw0
  have g0 := hG.cell 0 (v := .slice ca C.length cc) rfl
  have g1 := hH.cell 0 (v := .slice ca' C.length cc') rfl
  go_wp2_with (go_at_call 16; (with_reducible refine (K1.out _ (h1.keep hb0) (h3.keep hb0)).mono ?_))
  rintro e w1 ⟨rfl, hb1⟩
  have hb2 := below_tr hb0 hb1
  have g2 := (hG.keep hb1).cell 1 (v := .slice za Z.length zc) rfl
  have g3 := (hH.keep hb1).cell 1 (v := .slice za' Z.length zc') rfl
  clear g0 g1 hG hH
  go_wp2_with (go_at_call 16; (with_reducible refine (K2.out _ (h2.keep hb2) (h4.keep hb2)).mono ?_))
  rintro e w2 ⟨rfl, hb3⟩
  have HB := Lib.hid (below_tr hb2 hb3)
  clear hb0 hb1 hb2 hb3 g2 g3 K1 K2 h1 h2 h3 h4
  go_wp2
  go_ret
  exact ⟨rfl, HB.out⟩
end Go.Proofs.YtbjpmkoiabkcbaaGreatDoor
