/- Rings of keys: elements of the field, the challenge, whoever says that they know a secret. -/
import Derived.Test.YtcnffdgmdeflmaaGreatDoorGNum
namespace Go.Proofs.YtcnffdgmdeflmaaGreatDoor
open Go.RowKit
/-- all numbers are elements -/
def elsF (p : Int) (l : List Int) : Bool := l.all fun x => decide (0 ≤ x ∧ x < p)
theorem elsF_true {p : Int} {l : List Int} (h : ∀ x ∈ l.take l.length, 0 ≤ x ∧ x < p) : elsF p l = true := by
  rw [List.take_length] at h
  exact List.all_eq_true.2 fun x hx => decide_eq_true (h x hx)
theorem elsF_false {p : Int} {l : List Int} {x : Int} (hx : x ∈ l) (h : ¬ (0 ≤ x ∧ x < p)) : elsF p l = false := by
  cases hm : elsF p l with
  | false => rfl
  | true => exact absurd (of_decide_eq_true (List.all_eq_true.1 hm x hx)) h
theorem elsF_all {p : Int} {l : List Int} (h : elsF p l = true) : ∀ x ∈ l, 0 ≤ x ∧ x < p := fun x hx => of_decide_eq_true (List.all_eq_true.1 h x hx)
set_option maxRecDepth 100000 in
set_option maxHeartbeats 2000000 in
theorem elements_walk (p : Int) (a : Option Addr) (l : List Int) (cap : Nat) (w : World) (hB : Bases w) (hs : safeP p = true) (hR : Rd w a (ints l)) (hl : l.length ≤ 281474976710656) :
    Calls Tryz.prog 26 #[.int .i64 p, .slice a l.length cap] w fun e w' => e = .returned (.bool (elsF p l)) ∧ Below w.heap.size w w' := by
  obtain ⟨h3, h30, -⟩ := safeP_bd hs
  have hv : validP p = true := by
    simp only [safeP, Bool.and_eq_true] at hs
    exact hs.2.1
  have kv : ∀ V, Bases V → Calls Tryz.prog 56 #[.int .i64 p] V fun e w' => e = .returned (.bool true) ∧ V = w' := fun V h => by rw [← hv]; exact hvalid_walk p V h h3
  have KV := Lib.hid kv
  clear kv hv hs
  go_enter Tryz.func26, Tryz.ntmps26
  go_wp2_with fail
  go_loopw [9] (fun i wr => ∃ k : Nat, k ≤ l.length ∧ i = .int .i64 (k : Int) ∧ Hid (∀ x ∈ l.take k, 0 ≤ x ∧ x < p) ∧ Below w.heap.size w wr) (fun i _ => l.length - (intOf i).toNat)
  case atStart => exact ⟨0, Nat.zero_le _, rfl, Lib.hid (by simp), Below.refl _ _⟩
  case round =>
    obtain ⟨k, hk, rfl, hA, hB'⟩ := hrel
    by_cases hkt : k < l.length
    · obtain ⟨gx, off, x, rfl, hc, hx⟩ := (hR.keep hB').int (k := k) hkt
      have hkl : (k : Int) < (l.length : Int) := by omega
      by_cases hz : 0 ≤ x
      · have t1 : decide (x < 0) = false := decide_eq_false (by omega)
        by_cases hy : x < p
        · have t2 : decide (x ≥ p) = false := decide_eq_false (by omega)
          have HT : Hid (∀ y ∈ l.take (k + 1), 0 ≤ y ∧ y < p) := Lib.hid fun y hy' => by
            rw [take_at hx] at hy'
            rcases List.mem_append.1 hy' with h | h
            · exact hA.out y h
            · simp at h; rw [h]; exact ⟨hz, hy⟩
          clear hA hx hR hB
          go_wp2_with fail
          go_roundw
          case rel => exact ⟨k + 1, by omega, by go_num, HT, hB'⟩
          case measure => simp [intOf]; omega
        · have t2 : decide (x ≥ p) = true := decide_eq_true (by omega)
          have HF := Lib.hid (elsF_false (mem_at hx) (fun h => hy h.2))
          clear hA hx hR hB
          go_wp2
          go_ret
          exact ⟨by rw [HF.out]; rfl, hB'⟩
      · have t1 : decide (x < 0) = true := decide_eq_true (by omega)
        have HF := Lib.hid (elsF_false (p := p) (mem_at hx) (fun h => hz h.1))
        clear hA hx hR hB
        go_wp2
        go_ret
        exact ⟨by rw [HF.out]; rfl, hB'⟩
    · have hkl : ¬ (k : Int) < (l.length : Int) := by omega
      obtain rfl : k = l.length := by omega
      have HM := Lib.hid (elsF_true hA.out)
      have hBw := hB.keep hB'
      clear hA hB
      go_wp2_with (go_at_call 56; (with_reducible refine (KV.out _ hBw).mono ?_))
      go_ret
      exact ⟨by rw [HM.out]; rfl, hB'⟩
/-- the challenge of a ring -/
def rchF (p : Int) (keys coms : List Int) (text : List UInt8) : Int := elem p (putInts keys ++ putInts coms ++ putText text)
theorem rchF_bd {p : Int} (hp : 2 ≤ p) (keys coms : List Int) (text : List UInt8) : 1 ≤ rchF p keys coms text ∧ rchF p keys coms text < p := by
  unfold rchF elem
  have h1 := Int.emod_nonneg ((num7 (sha (putInts keys ++ putInts coms ++ putText text)) 7 : Nat) : Int) (show p - 1 ≠ 0 by omega)
  have h2 := Int.emod_lt_of_pos ((num7 (sha (putInts keys ++ putInts coms ++ putText text)) 7 : Nat) : Int) (show 0 < p - 1 by omega)
  omega
theorem putInts_short {l : List Int} (hx : ∀ x ∈ l, I64 x) (h : l.length ≤ 100000) : (putInts l).length ≤ 1000010 := by
  have : ∀ (m : List Int), (∀ x ∈ m, I64 x) → (m.flatMap putInt).length ≤ 10 * m.length := fun m hm => by
    induction m with
    | nil => simp
    | cons x m ih =>
      have h1 := putInt_ten (hm x (by simp))
      have h2 := ih fun y hy => hm y (List.mem_cons_of_mem _ hy)
      simp only [List.flatMap_cons, List.length_append, List.length_cons]
      omega
  have h1 := this l hx
  have h2 := putInt_ten (I64.nat (n := l.length) (by omega))
  simp only [putInts, List.length_append]
  omega
set_option maxRecDepth 100000 in
theorem rchal_walk' (p : Int) (a : Option Addr) (keys : List Int) (cap : Nat) (b : Option Addr) (coms : List Int) (cap2 : Nat) (text : List UInt8) (w : World) (hp : 2 ≤ p) (hp2 : p < 4294967296) (hR : Rd w a (ints keys)) (hS : Rd w b (ints coms))
    (hk : ∀ x ∈ keys, I64 x) (hc : ∀ x ∈ coms, I64 x) (hkl : keys.length ≤ 100000) (hcl : coms.length ≤ 100000) (ht : text.length ≤ 1000000) :
    Calls Tryz.prog 30 #[.int .i64 p, .slice a keys.length cap, .slice b coms.length cap2, .string ⟨text.toArray⟩] w fun e w' => e = .returned (.int .i64 (rchF p keys coms text)) ∧ Below w.heap.size w w' := by
  have l1 := putInts_short hk hkl
  have l2 := putInts_short hc hcl
  have l3 := putInt_ten (I64.nat (n := text.length) (by omega))
  have k1 : ∀ V, Rd V a (ints keys) → Calls Tryz.prog 62 #[.string ⟨#[]⟩, .slice a keys.length cap] V fun e w' => e = .returned (.string ⟨(putInts keys).toArray⟩) ∧ Below V.heap.size V w' := fun V hV => by
    have := putInts_any [] a cap keys V (by simp) hV (by omega) hk (by omega)
    rw [List.nil_append] at this
    exact this
  have k2 : ∀ V, Rd V b (ints coms) → Calls Tryz.prog 62 #[.string ⟨(putInts keys).toArray⟩, .slice b coms.length cap2] V fun e w' => e = .returned (.string ⟨(putInts keys ++ putInts coms).toArray⟩) ∧ Below V.heap.size V w' := fun V hV => putInts_any _ b cap2 coms V (by omega) hV (by omega) hc (by omega)
  have k3 : ∀ V, Calls Tryz.prog 61 #[.string ⟨(putInts keys ++ putInts coms).toArray⟩, .string ⟨text.toArray⟩] V fun e w' => e = .returned (.string ⟨(putInts keys ++ putInts coms ++ putText text).toArray⟩) ∧ Below V.heap.size V w' := fun V => putText_any _ text V (by rw [List.length_append]; omega) (by omega)
  have k4 : ∀ V, Calls Tryz.prog 60 #[.int .i64 p, .string ⟨(putInts keys ++ putInts coms ++ putText text).toArray⟩] V fun e w' => e = .returned (.int .i64 (rchF p keys coms text)) ∧ Below V.heap.size V w' := fun V => element_walk p _ V hp hp2 (by simp only [List.length_append, putText]; omega)
  generalize rchF p keys coms text = z at *
  generalize putInts keys ++ putInts coms ++ putText text = s3 at *
  generalize putInts keys ++ putInts coms = s2 at *
  generalize putInts keys = s1 at *
  have K1 := Lib.hid k1
  have K2 := Lib.hid k2
  have K3 := Lib.hid k3
  have K4 := Lib.hid k4
  clear k1 k2 k3 k4 l1 l2 l3 hk hc
  go_enter Tryz.func30, Tryz.ntmps30
  go_wp2_with (go_at_call 62; (with_reducible refine (K1.out _ hR).mono ?_))
  rintro e w1 ⟨rfl, hb1⟩
  go_wp2_with (go_at_call 62; (with_reducible refine (K2.out _ (hS.keep hb1)).mono ?_))
  rintro e w2 ⟨rfl, hb2⟩
  go_wp2_with (go_at_call 61; (with_reducible refine (K3.out _).mono ?_))
  rintro e w3 ⟨rfl, hb3⟩
  go_wp2_with (go_at_call 60; (with_reducible refine (K4.out _).mono ?_))
  rintro e w4 ⟨rfl, hb4⟩
  go_wp2
  go_ret
  exact ⟨rfl, below_tr (below_tr (below_tr hb1 hb2) hb3) hb4⟩
end Go.Proofs.YtcnffdgmdeflmaaGreatDoor
