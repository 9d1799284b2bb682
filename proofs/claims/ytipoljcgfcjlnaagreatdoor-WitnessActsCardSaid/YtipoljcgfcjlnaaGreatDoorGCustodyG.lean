/- Chains of records: the root over digests: the program's. -/
import Derived.Test.YtipoljcgfcjlnaaGreatDoorGCustodyD
namespace Go.Proofs.YtipoljcgfcjlnaaGreatDoor
open Go.RowKit
/-- the greatest power of two, from k on, that leaves something of n -/
def partL (n k : Nat) : Nat := if _h : 0 < k ∧ k ≤ (n - 1) / 2 then partL n (2 * k) else k
termination_by n - k
decreasing_by omega
def part (n : Nat) : Nat := partL n 1
theorem partL_more {n k : Nat} (h1 : 0 < k) (h : k ≤ (n - 1) / 2) : partL n k = partL n (2 * k) := by rw [partL, dif_pos ⟨h1, h⟩]
theorem partL_end {n k : Nat} (h : ¬ k ≤ (n - 1) / 2) : partL n k = k := by rw [partL, dif_neg (fun x => h x.2)]
theorem partL_bd (n : Nat) : ∀ (m k : Nat), n - k ≤ m → 0 < k → k < n → 0 < partL n k ∧ partL n k < n
  | 0, k, hm, h1, h2 => by omega
  | m + 1, k, hm, h1, h2 => by
    by_cases h : k ≤ (n - 1) / 2
    · rw [partL_more h1 h]
      exact partL_bd n m (2 * k) (by omega) (by omega) (by omega)
    · rw [partL_end h]; omega
theorem part_bd {n : Nat} (h : 2 ≤ n) : 0 < part n ∧ part n < n := partL_bd n n 1 (by omega) (by omega) (by omega)
def rootF (l : List (List UInt8)) : List UInt8 :=
  if _h : l.length ≤ 1 then l.getD 0 [] else pairL (rootF (l.take (part l.length))) (rootF (l.drop (part l.length)))
termination_by l.length
decreasing_by
  · have := part_bd (show 2 ≤ l.length by omega); rw [List.length_take]; omega
  · have := part_bd (show 2 ≤ l.length by omega); rw [List.length_drop]; omega
theorem rootF_one {l : List (List UInt8)} (h : l.length ≤ 1) : rootF l = l.getD 0 [] := by rw [rootF, dif_pos h]
theorem rootF_more {l : List (List UInt8)} (h : ¬ l.length ≤ 1) : rootF l = pairL (rootF (l.take (part l.length))) (rootF (l.drop (part l.length))) := by rw [rootF, dif_neg h]
theorem pairL_length (a b : List UInt8) : (pairL a b).length = 32 := sha_length _
theorem rootF_len {l : List (List UInt8)} (h : ∀ x ∈ l, x.length ≤ 32) : (rootF l).length ≤ 32 := by
  by_cases h1 : l.length ≤ 1
  · rw [rootF_one h1]
    cases l with
    | nil => simp
    | cons x l => exact h x (by simp)
  · rw [rootF_more h1, pairL_length]; omega
theorem Rd.strTake {w : World} {a : Option Addr} {l : List (List UInt8)} (h : Rd w a (strs l)) (k : Nat) : Rd w a (strs (l.take k)) := fun j u hj => by
  refine h j u ?_
  have := (List.getElem?_eq_some_iff.1 hj).1
  rw [strs_length] at this
  rw [List.length_take] at this
  have hx : (strs (l.take k))[j]? = (strs l)[j]? := by simp [strs, List.getElem?_take]; omega
  rw [← hx]; exact hj
theorem Rd.strDrop {w : World} {g off : Nat} {l : List (List UInt8)} (h : Rd w (some ⟨g, off, none⟩) (strs l)) (k : Nat) : Rd w (some ⟨g, off + k, none⟩) (strs (l.drop k)) := Rd.mk fun j u hj => by
  have hx : (strs (l.drop k))[j]? = (strs l)[k + j]? := by simp [strs, List.getElem?_drop]
  rw [hx] at hj
  obtain ⟨g', off', ha, hc⟩ := h (k + j) u hj
  simp only [Option.some.injEq, Addr.mk.injEq, and_true] at ha
  obtain ⟨rfl, rfl⟩ := ha
  rw [Nat.add_assoc]; exact hc
set_option maxRecDepth 100000 in
theorem left_walk (n : Nat) (w : World) (hn : 1 ≤ n) (hn2 : n ≤ 281474976710656) :
    Calls Tryz.prog 86 #[.int .i64 (n : Int)] w fun e w' => e = .returned (.int .i64 (part n : Int)) ∧ w = w' := by
  go_enter Tryz.func86, Tryz.ntmps86
  go_wp2_with fail
  go_loop [3] (fun i => ∃ k : Nat, 0 < k ∧ k ≤ n ∧ i = .int .i64 (k : Int) ∧ partL n k = part n) (fun i => n - (intOf i).toNat)
  case atStart => exact ⟨1, by omega, by omega, rfl, rfl⟩
  case round =>
    obtain ⟨k, hk0, hk, rfl, hp⟩ := hrel
    have hq : ((n : Int) - 1).tdiv 2 = (((n - 1) / 2 : Nat) : Int) := by
      rw [show (n : Int) - 1 = ((n - 1 : Nat) : Int) by omega]; rfl
    by_cases h : k ≤ (n - 1) / 2
    · have hd : decide ((k : Int) ≤ (((n - 1) / 2 : Nat) : Int)) = true := decide_eq_true (by omega)
      have hp2 := partL_more hk0 h
      have hm : ((2 * k : Nat) : Int) = (k : Int) * 2 := by omega
      go_wp2_with fail
      refine ⟨⟨2 * k, by omega, by omega, by rw [hm], by rw [← hp2]; exact hp⟩, ?_⟩
      simp [intOf]; omega
    · have hd : decide ((k : Int) ≤ (((n - 1) / 2 : Nat) : Int)) = false := decide_eq_false (by omega)
      have hp2 : (k : Int) = ((part n : Nat) : Int) := by rw [← hp, partL_end h]
      have HP := Lib.hid hp2
      clear hp hp2
      go_wp2
      go_ret
      exact ⟨ret_int HP.out, rfl⟩
theorem mem_take32 {l : List (List UInt8)} (h : ∀ x ∈ l, x.length ≤ 32) (k : Nat) : ∀ x ∈ l.take k, x.length ≤ 32 := fun x hx => h x (List.mem_of_mem_take hx)
theorem mem_drop32 {l : List (List UInt8)} (h : ∀ x ∈ l, x.length ≤ 32) (k : Nat) : ∀ x ∈ l.drop k, x.length ≤ 32 := fun x hx => h x (List.mem_of_mem_drop hx)
set_option maxRecDepth 100000 in
set_option maxHeartbeats 2000000 in
theorem root_walk (N : Nat) : ∀ (a : Option Addr) (l : List (List UInt8)) (n cap : Nat) (w : World), l.length ≤ N → n = l.length → Rd w a (strs l) → n ≤ cap → n ≤ 281474976710656 → (∀ x ∈ l, x.length ≤ 32) →
    Calls Tryz.prog 66 #[.slice a n cap] w fun e w' => e = .returned (.string ⟨(rootF l).toArray⟩) ∧ Below w.heap.size w w' := by
  induction N with
  | zero =>
    intro a l n cap w hN hn hR _ _ _
    obtain rfl : n = 0 := by omega
    have hr := rootF_one (l := l) (by omega)
    rw [show l = [] from List.eq_nil_of_length_eq_zero (by omega)] at hr ⊢
    have HR := Lib.hid hr
    clear hr
    go_enter Tryz.func66, Tryz.ntmps66
    go_wp2
    go_ret
    exact ⟨ret_str (by rw [HR.out]; rfl), Below.refl _ _⟩
  | succ N ih =>
    intro a l n cap w hN hn hR hc hn2 h32
    by_cases h0 : n = 0
    · subst h0
      have hr := rootF_one (l := l) (by omega)
      rw [show l = [] from List.eq_nil_of_length_eq_zero (by omega)] at hr ⊢
      have HR := Lib.hid hr
      clear hr hn ih hN h32 hR
      go_enter Tryz.func66, Tryz.ntmps66
      go_wp2
      go_ret
      exact ⟨ret_str (by rw [HR.out]; rfl), Below.refl _ _⟩
    by_cases h1 : n = 1
    · subst h1
      obtain ⟨g, off, x, rfl, hcell, hx⟩ := hR.str (k := 0) (by omega)
      have hr := rootF_one (l := l) (by omega)
      have HR := Lib.hid (show rootF l = x by rw [hr, List.getD, hx.out]; rfl)
      rw [Nat.add_zero] at hcell
      clear hr hn ih hN h32 hR
      go_enter Tryz.func66, Tryz.ntmps66
      go_wp2
      go_ret
      exact ⟨ret_str HR.out.symm, Below.refl _ _⟩
    · have hb := part_bd (n := n) (by omega)
      obtain ⟨g, off, x, rfl, _, _⟩ := hR.str (k := 0) (by omega)
      obtain ⟨p, hp⟩ : ∃ p, p = part n := ⟨_, rfl⟩
      rw [← hp] at hb
      have hpn : (p : Int) ≤ (n : Int) := by omega
      have hpc : (p : Int) ≤ (cap : Int) := by omega
      have hnc : (n : Int) ≤ (cap : Int) := by omega
      have hR1 := hR.strTake p
      have hR2 := hR.strDrop p
      have hl1 : (l.take p).length = p := by rw [List.length_take]; omega
      have hl2 : (l.drop p).length = n - p := by rw [List.length_drop]; omega
      have k1 : ∀ V, Rd V (some ⟨g, off, none⟩) (strs (l.take p)) → Calls Tryz.prog 66 #[.slice (some ⟨g, off, none⟩) p cap] V fun e w' => e = .returned (.string ⟨(rootF (l.take p)).toArray⟩) ∧ Below V.heap.size V w' := fun V h =>
        ih _ (l.take p) p cap V (by omega) hl1.symm h (by omega) (by omega) (mem_take32 h32 p)
      have k2 : ∀ V, Rd V (some ⟨g, off + p, none⟩) (strs (l.drop p)) → Calls Tryz.prog 66 #[.slice (some ⟨g, off + p, none⟩) (n - p) (cap - p)] V fun e w' => e = .returned (.string ⟨(rootF (l.drop p)).toArray⟩) ∧ Below V.heap.size V w' := fun V h =>
        ih _ (l.drop p) (n - p) (cap - p) V (by omega) hl2.symm h (by omega) (by omega) (mem_drop32 h32 p)
      have hr1 := rootF_len (mem_take32 h32 p)
      have hr2 := rootF_len (mem_drop32 h32 p)
      have hr := rootF_more (l := l) (by omega)
      rw [← hn, ← hp] at hr
      have k3 : ∀ V, Calls Tryz.prog 87 #[.string ⟨(rootF (l.take p)).toArray⟩, .string ⟨(rootF (l.drop p)).toArray⟩] V fun e w' => e = .returned (.string ⟨(rootF l).toArray⟩) ∧ Below V.heap.size V w' := fun V => by
        rw [hr]; exact pair_walk _ _ V (by omega)
      have k0 : ∀ V, Calls Tryz.prog 86 #[.int .i64 (n : Int)] V fun e w' => e = .returned (.int .i64 (p : Int)) ∧ V = w' := fun V => by
        rw [hp]; exact left_walk n V (by omega) hn2
      have K0 := Lib.hid k0
      have K1 := Lib.hid k1
      have K2 := Lib.hid k2
      have K3 := Lib.hid k3
      generalize rootF (l.take p) = r1 at *
      generalize rootF (l.drop p) = r2 at *
      generalize rootF l = r3 at *
      have HL := Lib.hid hl1
      clear k0 k1 k2 k3 hr hr1 hr2 ih hN h32 hl1 hl2 hp hn hR HL
      go_enter Tryz.func66, Tryz.ntmps66
      go_wp2_with (go_at_call 86; (with_reducible refine (K0.out _).mono ?_); rintro e w3 ⟨rfl, rfl⟩)
      refine wp_region_quiet_below (by kernel_rfl) (by kernel_rfl) ?_
      repeat (go_big_quiet_step (first
        | (go_at_call 66; with_reducible exact Calls.regrown_of (K1.out _ (hR1.keep (below_regrown _ _ _))))
        | (go_at_call 66; with_reducible exact Calls.regrown_of (K2.out _ (hR2.keep (below_regrown _ _ _))))
        | (go_at_call 87; with_reducible exact Calls.regrown_of (K3.out _))))
      refine wpQuiet_nil ?_
      rintro w3 ⟨p2, rfl⟩
      have hb2 := below_regrown w p2.d p2.os
      go_wp2
      go_ret
      exact ⟨rfl, hb2⟩
end Go.Proofs.YtipoljcgfcjlnaaGreatDoor
