/- Conditions: whether a condition is valid: the reference's. -/
import Derived.Test.YtpofijdkckaphaaGreatDoorGCndRB
import Derived.Test.YtpofijdkckaphaaGreatDoorRegionL
import Derived.Lib.QuietBelow
namespace Go.Proofs.YtpofijdkckaphaaGreatDoor
open Go.RowKit
theorem ordI_eq (r : Option Nat) (m : Nat) : (ordI r == (m : Int)) = (r == some m) := by
  rw [Bool.eq_iff_iff, beq_iff_eq, beq_iff_eq]
  cases r with
  | none => simp [ordI]
  | some k => simp [ordI]; omega
set_option maxRecDepth 100000 in
set_option maxHeartbeats 4000000 in
theorem rcond_walk (T : List Trm) (a : Option Addr) (c : Nat) (w : World) (hT : T.length ≤ 1000) (hR : RdT w a T) (hS : Spc w) :
    Calls Tryz.prog 81 #[.agg #[.slice a T.length c]] w fun e w' => e = .returned (.bool (rightC T)) ∧ Below w.heap.size w w' := by
  have HE : Hid (rightC T = (decide (T.length ≤ 24) && (growT T 6 0 == some T.length))) := Lib.hid rfl
  have HZ : T.length = 0 → growT T 6 0 = none := fun h => growT_none (List.getElem?_eq_none (by omega))
  have HZ := Lib.hid HZ
  generalize rightC T = R at *
  have hb0 := (Below.refl w.heap.size w).alloc (Nat.le_refl _) (.cells #[.slice a T.length c] 42)
  have h1 := Bx.new w 42 [.slice a T.length c]
  change Bx (w.alloc (.cells #[.slice a T.length c] 42)) _ _ _ at h1
  have HR1 := Lib.hid (hR.keep hb0)
  have HS1 := Lib.hid (hS.keep hb0)
  go_enter Tryz.func81, Tryz.ntmps81
  go_upto_region 1 with (fail)
  generalize w.alloc (.cells #[.slice a T.length c] 42) = w1 at *
  generalize hg1 : w.heap.size = g1 at *
  have HB := Lib.hid (show Below w.heap.size w w1 by rw [hg1]; exact hb0)
  clear hg1 hR hS hb0
  have c0 := h1.cell 0 rfl
  have c0' := fun d os => cell_regrown c0 d os
  by_cases h0 : T.length = 0
  · have HF : Hid (R = false) := Lib.hid (by rw [HE.out, HZ.out h0]; simp)
    have e1 : decide ((T.length : Int) ≥ 1) = false := decide_eq_false (by omega)
    have e2 : decide (1 ≤ T.length) = false := decide_eq_false (by omega)
    clear HE HZ h0
    refine wp_region_quiet_below (by kernel_rfl) (by kernel_rfl) ?_
    repeat (go_big_quiet_step (fail))
    refine wpQuiet_nil ?_
    rintro w7 ⟨p2, hw7⟩
    have hb := Lib.hid (show Below w1.heap.size w1 w7 by first | (rw [hw7]; exact below_regrown w1 p2.d p2.os) | (rw [← hw7]; exact below_regrown w1 p2.d p2.os))
    clear hw7
    go_wp2
    go_ret
    exact ⟨ret_bool HF.out.symm, below_tr HB.out hb.out⟩
  have e1 : decide ((T.length : Int) ≥ 1) = true := decide_eq_true (by omega)
  have e2 : decide (1 ≤ T.length) = true := decide_eq_true (by omega)
  by_cases h24 : T.length ≤ 24
  rotate_left
  · have HF : Hid (R = false) := Lib.hid (by rw [HE.out, decide_eq_false h24]; rfl)
    have e3 : decide ((T.length : Int) ≤ 24) = false := decide_eq_false (by omega)
    have e4 : decide (T.length ≤ 24) = false := decide_eq_false (by omega)
    clear HE HZ h0 h24
    refine wp_region_quiet_below (by kernel_rfl) (by kernel_rfl) ?_
    repeat (go_big_quiet_step (fail))
    refine wpQuiet_nil ?_
    rintro w7 ⟨p2, hw7⟩
    have hb := Lib.hid (show Below w1.heap.size w1 w7 by first | (rw [hw7]; exact below_regrown w1 p2.d p2.os) | (rw [← hw7]; exact below_regrown w1 p2.d p2.os))
    clear hw7
    go_wp2
    go_ret
    exact ⟨ret_bool HF.out.symm, below_tr HB.out hb.out⟩
  have e3 : decide ((T.length : Int) ≤ 24) = true := decide_eq_true (by omega)
  have e4 : decide (T.length ≤ 24) = true := decide_eq_true h24
  have HT : Hid (R = (ordI (growT T 6 0) == (T.length : Int))) := Lib.hid (by rw [HE.out, e4, ordI_eq]; rfl)
  have KW : Hid (∀ V, RdT V a T → Spc V → Calls Tryz.prog 108 #[.agg #[.slice a T.length c], .int .i64 0, .int .i64 1] V fun e w' => e = .returned (.int .i64 (ordI (growT T 6 0))) ∧ Below V.heap.size V w') := Lib.hid (fun V hV hs => rwalk_walk T hT a c 6 0 1 V (by omega) (by omega) (Nat.zero_le _) hV hs)
  generalize ordI (growT T 6 0) = r at *
  clear HE HZ h0 h24 c0 c0'
  refine wp_region_held_drew (S := fun w' => w'.cell? ⟨g1, 0, none⟩ = some (.slice a T.length c)) (by kernel_rfl) ((h1.keep (Below.refl _ _).drew).cell 0 rfl) (fun hHeld => ?_)
  simp only [List.size_toArray, List.length_cons, List.length_nil]
  have hB : Below w1.heap.size w1 w1.drew := (Below.refl _ _).drew
  generalize w1.drew = v0 at *
  replace hHeld := id hHeld
  refine held_take (0) (v := ?_) rfl (by kernel_rfl) (by kernel_rfl) (by kernel_rfl) (fun _ _ _ h => h) (Or.inl ⟨by rfl, ?_⟩) (by assumption) ?_
  rotate_left
  · intro w hSw
    try dsimp only at hSw
    go_simp
    with_reducible rfl
  try simp only [Act.put, List.setIfInBounds_toArray, List.set_cons_zero, List.set_cons_succ]
  refine held_take (1) (v := ?_) rfl (by kernel_rfl) (by kernel_rfl) (by kernel_rfl) (fun _ _ _ h => h) (Or.inl ⟨by rfl, ?_⟩) (by assumption) ?_
  rotate_left
  · intro w hSw
    try dsimp only at hSw
    go_simp
    with_reducible rfl
  try simp only [Act.put, List.setIfInBounds_toArray, List.set_cons_zero, List.set_cons_succ]
  refine held_take (2) (v := ?_) rfl (by kernel_rfl) (by kernel_rfl) (by kernel_rfl) (fun _ _ _ h => h) (Or.inl ⟨by rfl, ?_⟩) (by assumption) ?_
  rotate_left
  · intro w hSw
    try dsimp only at hSw
    go_simp
    with_reducible rfl
  try simp only [Act.put, List.setIfInBounds_toArray, List.set_cons_zero, List.set_cons_succ]
  refine held_take (3) (v := ?_) rfl (by kernel_rfl) (by kernel_rfl) (by kernel_rfl) (fun _ _ _ h => h) (Or.inl ⟨by rfl, ?_⟩) (by assumption) ?_
  rotate_left
  · intro w hSw
    try dsimp only at hSw
    go_simp
    with_reducible rfl
  try simp only [Act.put, List.setIfInBounds_toArray, List.set_cons_zero, List.set_cons_succ]
  refine held_take (4) (v := ?_) rfl (by kernel_rfl) (by kernel_rfl) (by kernel_rfl) (fun _ _ _ h => h) (Or.inl ⟨by rfl, ?_⟩) (by assumption) ?_
  rotate_left
  · intro w hSw
    try dsimp only at hSw
    go_simp
    with_reducible rfl
  try simp only [Act.put, List.setIfInBounds_toArray, List.set_cons_zero, List.set_cons_succ]
  refine held_take (5) (v := ?_) rfl (by kernel_rfl) (by kernel_rfl) (by kernel_rfl) (fun _ _ _ h => h) (Or.inl ⟨by rfl, ?_⟩) (by assumption) ?_
  rotate_left
  · intro w hSw
    try dsimp only at hSw
    go_simp
    with_reducible rfl
  try simp only [Act.put, List.setIfInBounds_toArray, List.set_cons_zero, List.set_cons_succ]
  refine held_take (6) (v := ?_) rfl (by kernel_rfl) (by kernel_rfl) (by kernel_rfl) (fun _ _ _ h => h) (Or.inl ⟨by rfl, ?_⟩) (by assumption) ?_
  rotate_left
  · intro w hSw
    try dsimp only at hSw
    go_simp
    with_reducible rfl
  try simp only [Act.put, List.setIfInBounds_toArray, List.set_cons_zero, List.set_cons_succ]
  refine held_take (7) (v := ?_) rfl (by kernel_rfl) (by kernel_rfl) (by kernel_rfl) (fun _ _ _ h => h) (Or.inl ⟨by rfl, ?_⟩) (by assumption) ?_
  rotate_left
  · intro w hSw
    try dsimp only at hSw
    go_simp
    with_reducible rfl
  try simp only [Act.put, List.setIfInBounds_toArray, List.set_cons_zero, List.set_cons_succ]
  refine held_take (8) (v := ?_) rfl (by kernel_rfl) (by kernel_rfl) (by kernel_rfl) (fun _ _ _ h => h) (Or.inl ⟨by rfl, ?_⟩) (by assumption) ?_
  rotate_left
  · intro w hSw
    try dsimp only at hSw
    go_simp
    with_reducible rfl
  try simp only [Act.put, List.setIfInBounds_toArray, List.set_cons_zero, List.set_cons_succ]
  refine held_take (9) (v := ?_) rfl (by kernel_rfl) (by kernel_rfl) (by kernel_rfl) (fun _ _ _ h => h) (Or.inl ⟨by rfl, ?_⟩) (by assumption) ?_
  rotate_left
  · intro w hSw
    try dsimp only at hSw
    go_simp
    with_reducible rfl
  try simp only [Act.put, List.setIfInBounds_toArray, List.set_cons_zero, List.set_cons_succ]
  refine held_take (10) (v := ?_) rfl (by kernel_rfl) (by kernel_rfl) (by kernel_rfl) (fun _ _ _ h => h) (Or.inl ⟨by rfl, ?_⟩) (by assumption) ?_
  rotate_left
  · intro w hSw
    try dsimp only at hSw
    go_simp
    with_reducible rfl
  try simp only [Act.put, List.setIfInBounds_toArray, List.set_cons_zero, List.set_cons_succ]
  refine held_take (11) (v := ?_) rfl (by kernel_rfl) (by kernel_rfl) (by kernel_rfl) (fun _ _ _ h => h) (Or.inl ⟨by rfl, ?_⟩) (by assumption) ?_
  rotate_left
  · intro w hSw
    try dsimp only at hSw
    go_simp
    with_reducible rfl
  try simp only [Act.put, List.setIfInBounds_toArray, List.set_cons_zero, List.set_cons_succ]
  refine held_take (13) (v := ?_) rfl (by kernel_rfl) (by kernel_rfl) (by kernel_rfl) (fun _ _ _ h => h) (Or.inl ⟨by rfl, ?_⟩) (by assumption) ?_
  rotate_left
  · intro w hSw
    try dsimp only at hSw
    go_simp
    with_reducible rfl
  try simp only [Act.put, List.setIfInBounds_toArray, List.set_cons_zero, List.set_cons_succ]
  refine held_take (14) (v := ?_) rfl (by kernel_rfl) (by kernel_rfl) (by kernel_rfl) (fun _ _ _ h => h) (Or.inl ⟨by rfl, ?_⟩) (by assumption) ?_
  rotate_left
  · intro w hSw
    try dsimp only at hSw
    go_simp
    with_reducible rfl
  try simp only [Act.put, List.setIfInBounds_toArray, List.set_cons_zero, List.set_cons_succ]
  refine held_take (15) (v := ?_) rfl (by kernel_rfl) (by kernel_rfl) (by kernel_rfl) (fun _ _ _ h => h) (Or.inl ⟨by rfl, ?_⟩) (by assumption) ?_
  rotate_left
  · intro w hSw
    try dsimp only at hSw
    go_simp
    with_reducible rfl
  try simp only [Act.put, List.setIfInBounds_toArray, List.set_cons_zero, List.set_cons_succ]
  refine wpAnyH_ready (rs := [12]) (by kernel_rfl) (by simp) ?_
  refine held_cons rfl (fun K hK => ?_) AllReadyH.nil
  go_simp
  go_at_call 108
  (with_reducible refine (KW.out _ (HR1.out.keep hB) (HS1.out.keep hB)).mono ?_)
  (first | rintro e v2 rfl hb | rintro e v2 ⟨rfl, hb⟩)
  replace hB := hB.trans (hb.mono hB.size)
  clear hb
  go_wp2_with fail
  refine hK.out _ _ ((h1.keep hB).cell 0 rfl) (fun hHeld => ?_)
  clear hK K
  try simp only [Act.put, List.setIfInBounds_toArray, List.set_cons_zero, List.set_cons_succ]
  refine held_take (16) (v := ?_) rfl (by kernel_rfl) (by kernel_rfl) (by kernel_rfl) (fun _ _ _ h => h) (Or.inl ⟨by rfl, ?_⟩) (by assumption) ?_
  rotate_left
  · intro w hSw
    try dsimp only at hSw
    go_simp
    with_reducible rfl
  try simp only [Act.put, List.setIfInBounds_toArray, List.set_cons_zero, List.set_cons_succ]
  refine held_take (17) (v := ?_) rfl (by kernel_rfl) (by kernel_rfl) (by kernel_rfl) (fun _ _ _ h => h) (Or.inl ⟨by rfl, ?_⟩) (by assumption) ?_
  rotate_left
  · intro w hSw
    try dsimp only at hSw
    go_simp
    with_reducible rfl
  try simp only [Act.put, List.setIfInBounds_toArray, List.set_cons_zero, List.set_cons_succ]
  refine held_take (18) (v := ?_) rfl (by kernel_rfl) (by kernel_rfl) (by kernel_rfl) (fun _ _ _ h => h) (Or.inl ⟨by rfl, ?_⟩) (by assumption) ?_
  rotate_left
  · intro w hSw
    try dsimp only at hSw
    go_simp
    with_reducible rfl
  try simp only [Act.put, List.setIfInBounds_toArray, List.set_cons_zero, List.set_cons_succ]
  refine wpAnyH_done (by kernel_rfl) ?_ _
  clear hHeld h1
  go_simp
  go_wp2_with fail
  go_ret
  exact ⟨ret_bool HT.out.symm, below_tr HB.out hB⟩
set_option maxRecDepth 100000 in
theorem rvalid_walk (T : List Trm) (a : Option Addr) (c : Nat) (w : World) (hT : T.length ≤ 1000) (hR : RdT w a T) (hS : Spc w) :
    Calls Tryz.prog 73 #[.agg #[.slice a T.length c]] w fun e w' => e = .returned (.bool (rightC T)) ∧ Below w.heap.size w w' := by
  have hb0 := (Below.refl w.heap.size w).alloc (Nat.le_refl _) (.cells #[.slice a T.length c] 42)
  have h1 := Bx.new w 42 [.slice a T.length c]
  change Bx (w.alloc (.cells #[.slice a T.length c] 42)) _ _ _ at h1
  obtain ⟨g1, hg1⟩ : ∃ g, g = w.heap.size := ⟨_, rfl⟩
  have hbw : w.heap.size = g1 := hg1.symm
  rw [← hg1] at h1
  have HB := Lib.hid hb0
  have hRw := hR.keep hb0
  have hSw := hS.keep hb0
  clear hg1 hR hb0 hS
  go_enter Tryz.func73, Tryz.ntmps73
  go_upto_region 1 with (fail)
  generalize w.alloc (.cells #[.slice a T.length c] 42) = w1 at *
  have c0 := h1.cell 0 rfl
  have KR := Lib.hid (rcond_walk T a c w1 hT hRw hSw)
  clear hbw hRw hSw
  go_wp2_with (go_at_call 81; (with_reducible refine KR.out.mono ?_); (first | rintro e w5 rfl hb5 | rintro e w5 ⟨rfl, hb5⟩))
  go_ret
  exact ⟨rfl, below_tr HB.out hb5⟩
end Go.Proofs.YtpofijdkckaphaaGreatDoor
