/- Rings of keys: the reference's: elements, the challenge, whoever says that they know a secret. -/
import Derived.Test.YtbjpmkoiabkcbaaGreatDoorGPutR
namespace Go.Proofs.YtbjpmkoiabkcbaaGreatDoor
open Go.RowKit
set_option maxRecDepth 100000 in
theorem relements_walk (p : Int) (a : Option Addr) (l : List Int) (cap : Nat) (w : World) (hs : rsafe p = true) (hR : Rd w a (ints l)) (hl : l.length ≤ 281474976710656) :
    Calls Tryz.prog 34 #[.int .i64 p, .slice a l.length cap] w fun e w' => e = .returned (.bool (elsF p l)) ∧ Below w.heap.size w w' := by
  obtain ⟨h3, h30, -⟩ := rsafe_bd hs
  have hv := ((rsafe_iff p).1 hs).2.1
  have kv : ∀ V, Calls Tryz.prog 61 #[.int .i64 p] V fun e w' => e = .returned (.bool true) ∧ V = w' := fun V => by
    rw [← hv]; exact rvalid_walk p V
  have KV := Lib.hid kv
  clear kv hv hs
  go_enter Tryz.func34, Tryz.ntmps34
  go_wp2_with fail
  go_loopw [9] (fun i wr => ∃ k : Nat, k ≤ l.length ∧ i = .int .i64 (k : Int) ∧ Hid (∀ x ∈ l.take k, 0 ≤ x ∧ x < p) ∧ Below w.heap.size w wr) (fun i _ => l.length - (intOf i).toNat)
  case atStart => exact ⟨0, Nat.zero_le _, rfl, Lib.hid (by simp), Below.refl _ _⟩
  case round =>
    obtain ⟨k, hk, rfl, hA, hB'⟩ := hrel
    by_cases hkt : k < l.length
    · obtain ⟨gx, off, x, rfl, hc, hx⟩ := (hR.keep hB').int (k := k) hkt
      have hkl : (k : Int) < (l.length : Int) := by omega
      by_cases hxp : 0 ≤ x ∧ x < p
      · have HT : Hid (∀ y ∈ l.take (k + 1), 0 ≤ y ∧ y < p) := fun y hy => by
          rw [take_at hx] at hy
          rcases List.mem_append.1 hy with hy | hy
          · exact hA.out y hy
          · simp at hy; rw [hy]; exact hxp
        have d1 : decide (x < 0) = false := decide_eq_false (by omega)
        have d2 : decide (x ≥ p) = false := decide_eq_false (by omega)
        obtain ⟨x0, x1⟩ := hxp
        clear hA hx hR
        go_wp2
        go_roundw
        case rel => exact ⟨k + 1, by omega, by go_num, HT, hB'⟩
        case measure => simp [intOf]; omega
      · have HF := Lib.hid (elsF_false (mem_at hx) hxp)
        clear hA hx hR
        rcases Int.lt_or_le x 0 with h0 | h0
        · have d1 : decide (x < 0) = true := decide_eq_true h0
          clear hxp
          go_wp2
          go_ret
          exact ⟨by rw [HF.out]; rfl, hB'⟩
        · have d1 : decide (x < 0) = false := decide_eq_false (by omega)
          have d2 : decide (x ≥ p) = true := decide_eq_true (by omega)
          have d3 : p ≤ x := by omega
          clear hxp
          go_wp2
          go_ret
          exact ⟨by rw [HF.out]; rfl, hB'⟩
    · have hkl : ¬ (k : Int) < (l.length : Int) := by omega
      obtain rfl : k = l.length := by omega
      have HM := Lib.hid (elsF_true hA.out)
      clear hA
      go_wp2_with (go_at_call 61; (with_reducible refine (KV.out _).mono ?_))
      (try rintro e w1 ⟨rfl, rfl⟩)
      (try go_wp2)
      go_ret
      exact ⟨by rw [HM.out]; rfl, hB'⟩
set_option maxRecDepth 100000 in
theorem rrchal_walk (p : Int) (a : Option Addr) (keys : List Int) (cap : Nat) (b : Option Addr) (coms : List Int) (cap2 : Nat) (text : List UInt8) (w : World) (hp : 2 ≤ p) (hp2 : p < 4294967296) (hR : Rd w a (ints keys)) (hS : Rd w b (ints coms))
    (hk : ∀ x ∈ keys, I64 x) (hc : ∀ x ∈ coms, I64 x) (hkl : keys.length ≤ 100000) (hcl : coms.length ≤ 100000) (ht : text.length ≤ 1000000) :
    Calls Tryz.prog 38 #[.int .i64 p, .slice a keys.length cap, .slice b coms.length cap2, .string ⟨text.toArray⟩] w fun e w' => e = .returned (.int .i64 (rchF p keys coms text)) ∧ Below w.heap.size w w' := by
  have l1 := putInts_short hk hkl
  have l2 := putInts_short hc hcl
  have l3 := putInt_ten (I64.nat (n := text.length) (by omega))
  have k1 : ∀ V, Rd V a (ints keys) → Calls Tryz.prog 65 #[.string ⟨#[]⟩, .slice a keys.length cap] V fun e w' => e = .returned (.string ⟨(putInts keys).toArray⟩) ∧ Below V.heap.size V w' := fun V hV => by
    have := rputInts_walk [] a cap keys V (by simp) hV (by omega) hk (by omega)
    rw [List.nil_append] at this
    exact this
  have k2 : ∀ V, Rd V b (ints coms) → Calls Tryz.prog 65 #[.string ⟨(putInts keys).toArray⟩, .slice b coms.length cap2] V fun e w' => e = .returned (.string ⟨(putInts keys ++ putInts coms).toArray⟩) ∧ Below V.heap.size V w' := fun V hV => rputInts_walk _ b cap2 coms V (by omega) hV (by omega) hc (by omega)
  have k3 : ∀ V, Calls Tryz.prog 64 #[.string ⟨(putInts keys ++ putInts coms).toArray⟩, .string ⟨text.toArray⟩] V fun e w' => e = .returned (.string ⟨(putInts keys ++ putInts coms ++ putText text).toArray⟩) ∧ Below V.heap.size V w' := fun V => rputText_walk _ text V (by rw [List.length_append]; omega) (by omega)
  have k4 : ∀ V, Calls Tryz.prog 63 #[.int .i64 p, .string ⟨(putInts keys ++ putInts coms ++ putText text).toArray⟩] V fun e w' => e = .returned (.int .i64 (rchF p keys coms text)) ∧ Below V.heap.size V w' := fun V => relement_walk p _ V hp hp2 (by simp only [List.length_append, putText]; omega)
  generalize rchF p keys coms text = z at *
  generalize putInts keys ++ putInts coms ++ putText text = s3 at *
  generalize putInts keys ++ putInts coms = s2 at *
  generalize putInts keys = s1 at *
  have K1 := Lib.hid k1
  have K2 := Lib.hid k2
  have K3 := Lib.hid k3
  have K4 := Lib.hid k4
  clear k1 k2 k3 k4 l1 l2 l3 hk hc
  go_enter Tryz.func38, Tryz.ntmps38
  go_wp2_with (go_at_call 65; (with_reducible refine (K1.out _ hR).mono ?_))
  rintro e w1 ⟨rfl, hb1⟩
  go_wp2_with (go_at_call 65; (with_reducible refine (K2.out _ (hS.keep hb1)).mono ?_))
  rintro e w2 ⟨rfl, hb2⟩
  go_wp2_with (go_at_call 64; (with_reducible refine (K3.out _).mono ?_))
  rintro e w3 ⟨rfl, hb3⟩
  go_wp2_with (go_at_call 63; (with_reducible refine (K4.out _).mono ?_))
  rintro e w4 ⟨rfl, hb4⟩
  go_wp2
  go_ret
  exact ⟨rfl, below_tr (below_tr (below_tr hb1 hb2) hb3) hb4⟩
set_option maxRecDepth 100000 in
set_option maxHeartbeats 4000000 in
theorem knows_walk (p : Nat) (a : Option Addr) (keys : List Int) (cap : Nat) (me secret : Int) (w : World) (hs : rsafe (p : Int) = true) (hR : Rd w a (ints keys)) (hl : keys.length ≤ 281474976710656) :
    Calls Tryz.prog 33 #[.int .i64 (p : Int), .slice a keys.length cap, .int .i64 me, .int .i64 secret] w fun e w' => e = .returned (.int .i64 (allowF p keys me secret)) ∧ Below w.heap.size w w' := by
  obtain ⟨h3, h30, -⟩ := rsafe_bd hs
  have KS := Lib.hid (fun V => rratesafe_walk (p : Int) V hs)
  have KM := Lib.hid (fun V hV => rrmembers_walk p a keys cap V hs hV hl)
  have KP := Lib.hid (fun V => rPublic_walk p secret V (by omega) (by omega))
  clear hs
  cases hk : keysOk p keys with
  | false =>
    have HA := Lib.hid (show allowF p keys me secret = 44 by rw [allowF, if_pos hk])
    rw [hk] at KM
    clear hk
    go_enter Tryz.func33, Tryz.ntmps33
    go_wp2_with (go_at_call 43; (with_reducible refine (KS.out _).mono ?_))
    (try rintro e w1 ⟨rfl, rfl⟩)
    go_wp2_with (go_at_call 46; (with_reducible refine (KM.out _ hR).mono ?_))
    rintro e w1 ⟨rfl, hb1⟩
    go_wp2
    go_ret
    exact ⟨by rw [HA.out]; rfl, hb1⟩
  | true =>
    rw [hk] at KM
    by_cases hme : 0 ≤ me ∧ me < keys.length
    rotate_left
    · have HA := Lib.hid (show allowF p keys me secret = 5 by rw [allowF, if_neg (by rw [hk]; decide), if_pos hme])
      clear hk
      rcases Int.lt_or_le me 0 with h0 | h0
      · have d1 : decide (me < 0) = true := decide_eq_true h0
        clear hme
        go_enter Tryz.func33, Tryz.ntmps33
        go_wp2_with (go_at_call 43; (with_reducible refine (KS.out _).mono ?_))
        (try rintro e w1 ⟨rfl, rfl⟩)
        go_wp2_with (go_at_call 46; (with_reducible refine (KM.out _ hR).mono ?_))
        rintro e w1 ⟨rfl, hb1⟩
        go_wp2
        go_ret
        exact ⟨by rw [HA.out]; rfl, hb1⟩
      · have d1 : decide (me < 0) = false := decide_eq_false (by omega)
        have d2 : decide (me ≥ (keys.length : Int)) = true := decide_eq_true (by omega)
        have d3 : (keys.length : Int) ≤ me := by omega
        clear hme
        go_enter Tryz.func33, Tryz.ntmps33
        go_wp2_with (go_at_call 43; (with_reducible refine (KS.out _).mono ?_))
        (try rintro e w1 ⟨rfl, rfl⟩)
        go_wp2_with (go_at_call 46; (with_reducible refine (KM.out _ hR).mono ?_))
        rintro e w1 ⟨rfl, hb1⟩
        go_wp2
        go_ret
        exact ⟨by rw [HA.out]; rfl, hb1⟩
    obtain ⟨j, rfl, hj⟩ : ∃ j : Nat, me = (j : Int) ∧ j < keys.length := ⟨me.toNat, by omega, by omega⟩
    have hji : (j : Int) < (keys.length : Int) := by omega
    have hj0 : (0 : Int) ≤ (j : Int) := by omega
    have e1 : decide ((j : Int) < 0) = false := decide_eq_false (by omega)
    have e2 : decide ((j : Int) ≥ (keys.length : Int)) = false := decide_eq_false (by omega)
    have e3 : ¬ (keys.length : Int) ≤ (j : Int) := by omega
    by_cases hsc : 0 ≤ secret ∧ secret < p
    rotate_left
    · have HA := Lib.hid (show allowF p keys j secret = 47 by rw [allowF, if_neg (by rw [hk]; decide), if_neg (fun h => h hme), if_pos (.inl hsc)])
      obtain ⟨g, off, x, rfl, -, hx⟩ := hR.int (k := j) hj
      clear hk hme
      rcases Int.lt_or_le secret 0 with h0 | h0
      · have d1 : decide (secret < 0) = true := decide_eq_true h0
        clear hsc
        go_enter Tryz.func33, Tryz.ntmps33
        go_wp2_with (go_at_call 43; (with_reducible refine (KS.out _).mono ?_))
        (try rintro e w1 ⟨rfl, rfl⟩)
        go_wp2_with (go_at_call 46; (with_reducible refine (KM.out _ hR).mono ?_))
        rintro e w1 ⟨rfl, hb1⟩
        go_wp2_with fail
        go_quiet (fail)
        go_wp2
        go_ret
        exact ⟨by rw [HA.out]; rfl, below_drewN hb1 _⟩
      · have d1 : decide (secret < 0) = false := decide_eq_false (by omega)
        have d2 : decide (secret ≥ (p : Int)) = true := decide_eq_true (by omega)
        have d3 : (p : Int) ≤ secret := by omega
        clear hsc
        go_enter Tryz.func33, Tryz.ntmps33
        go_wp2_with (go_at_call 43; (with_reducible refine (KS.out _).mono ?_))
        (try rintro e w1 ⟨rfl, rfl⟩)
        go_wp2_with (go_at_call 46; (with_reducible refine (KM.out _ hR).mono ?_))
        rintro e w1 ⟨rfl, hb1⟩
        go_wp2_with fail
        go_quiet (fail)
        go_wp2
        go_ret
        exact ⟨by rw [HA.out]; rfl, below_drewN hb1 _⟩
    obtain ⟨hs0, hs1⟩ := hsc
    have d1 : decide (secret < 0) = false := decide_eq_false (by omega)
    have d2 : decide (secret ≥ (p : Int)) = false := decide_eq_false (by omega)
    have d3 : ¬ (p : Int) ≤ secret := by omega
    obtain ⟨g, off, x, rfl, -, hx⟩ := hR.int (k := j) hj
    have HX := Lib.hid (fun V (h : Rd V (some ⟨g, off, none⟩) (ints keys)) => (show V.cell? ⟨g, off + j, none⟩ = some (.int .i64 x) by
      obtain ⟨g', off', x', e, hc, hx'⟩ := h.int (k := j) hj
      cases e
      rw [← same_at hx hx']
      exact hc))
    have hgx : keys.getD j 0 = x := by rw [List.getD, hx.out]; rfl
    obtain ⟨v, hv, HA⟩ : ∃ v : Bool, (((gpw p 4 secret : Nat) : Int) != x) = v ∧ Hid (allowF p keys j secret = if v then 47 else 0) := by
      by_cases hpub : ((gpw p 4 secret : Nat) : Int) = x
      · refine ⟨false, by rw [bne_eq_false_iff_eq]; exact hpub, ?_⟩
        show _ = (0 : Int)
        rw [allowF, if_neg (by rw [hk]; decide), if_neg (fun h => h hme), if_neg]
        rintro (h | h)
        · exact h ⟨hs0, hs1⟩
        · rw [Int.toNat_natCast, hgx] at h; exact h hpub
      · refine ⟨true, by rw [bne_iff_ne]; exact hpub, ?_⟩
        show _ = (47 : Int)
        rw [allowF, if_neg (by rw [hk]; decide), if_neg (fun h => h hme), if_pos (.inr (by rw [Int.toNat_natCast, hgx]; exact hpub))]
    generalize gpw p 4 secret = z at *
    clear hk hme hgx hx
    go_enter Tryz.func33, Tryz.ntmps33
    go_wp2_with (go_at_call 43; (with_reducible refine (KS.out _).mono ?_))
    (try rintro e w1 ⟨rfl, rfl⟩)
    go_wp2_with (go_at_call 46; (with_reducible refine (KM.out _ hR).mono ?_))
    rintro e w1 ⟨rfl, hb1⟩
    have c0 := HX.out _ (hR.keep hb1)
    go_wp2_with fail
    go_quiet (first | (go_at_call 6; with_reducible exact hstill (KP.out _)))
    cases v
    all_goals
      go_wp2
      go_ret
      exact ⟨by rw [HA.out]; rfl, below_drewN hb1 _⟩
end Go.Proofs.YtbjpmkoiabkcbaaGreatDoor
