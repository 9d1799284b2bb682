/- Conditions: whether a condition is valid: the reference's. -/
import Derived.Test.YtpofijdkckaphaaGreatDoorGCndRB
import Derived.Test.YtpofijdkckaphaaGreatDoorRegionL
import Derived.Lib.QuietBelow
import Derived.Test.YtpofijdkckaphaaGreatDoorGCndHC
namespace Go.Proofs.YtpofijdkckaphaaGreatDoor
open Go.RowKit
theorem ordI_eq (r : Option Nat) (m : Nat) : (ordI r == (m : Int)) = (r == some m) := by
  rw [Bool.eq_iff_iff, beq_iff_eq, beq_iff_eq]
  cases r with
  | none => simp [ordI]
  | some k => simp [ordI]; omega
set_option maxRecDepth 100000 in
set_option maxHeartbeats 4000000 in
theorem rcond_walk (T : List Trm) (a : Option Addr) (c : Nat) (w : World) (hT : T.length ≤ 1000) (hR : RdT w a T) (hS : Spc w) :
    Calls Tryz.prog 81 #[.agg #[.slice a T.length c]] w fun e w' => e = .returned (.bool (rightC T)) ∧ Below w.heap.size w w' := by
  have HE : Hid (rightC T = (decide (T.length ≤ 24) && (growT T 6 0 == some T.length))) := Lib.hid rfl
  have HZ : T.length = 0 → growT T 6 0 = none := fun h => growT_none (List.getElem?_eq_none (by omega))
  have HZ := Lib.hid HZ
  generalize rightC T = R at *
  have hb0 := (Below.refl w.heap.size w).alloc (Nat.le_refl _) (.cells #[.slice a T.length c] 42)
  have h1 := Bx.new w 42 [.slice a T.length c]
  change Bx (w.alloc (.cells #[.slice a T.length c] 42)) _ _ _ at h1
  have HR1 := Lib.hid (hR.keep hb0)
  have HS1 := Lib.hid (hS.keep hb0)
  go_enter Tryz.func81, Tryz.ntmps81
  go_upto_region 1 with (fail)
  generalize w.alloc (.cells #[.slice a T.length c] 42) = w1 at *
  generalize hg1 : w.heap.size = g1 at *
  have HB := Lib.hid (show Below w.heap.size w w1 by rw [hg1]; exact hb0)
  clear hg1 hR hS hb0
  have c0 := h1.cell 0 rfl
  have c0' := fun d os => cell_regrown c0 d os
  by_cases h0 : T.length = 0
  · have HF : Hid (R = false) := Lib.hid (by rw [HE.out, HZ.out h0]; simp)
    have e1 : decide ((T.length : Int) ≥ 1) = false := decide_eq_false (by omega)
    have e2 : decide (1 ≤ T.length) = false := decide_eq_false (by omega)
    clear HE HZ h0
    refine wp_region_quiet_below (by kernel_rfl) (by kernel_rfl) ?_
    repeat (go_big_quiet_step (fail))
    refine wpQuiet_nil ?_
    rintro w7 ⟨p2, hw7⟩
    have hb := Lib.hid (show Below w1.heap.size w1 w7 by first | (rw [hw7]; exact below_regrown w1 p2.d p2.os) | (rw [← hw7]; exact below_regrown w1 p2.d p2.os))
    clear hw7
    go_wp2
    go_ret
    exact ⟨ret_bool HF.out.symm, below_tr HB.out hb.out⟩
  have e1 : decide ((T.length : Int) ≥ 1) = true := decide_eq_true (by omega)
  have e2 : decide (1 ≤ T.length) = true := decide_eq_true (by omega)
  by_cases h24 : T.length ≤ 24
  rotate_left
  · have HF : Hid (R = false) := Lib.hid (by rw [HE.out, decide_eq_false h24]; rfl)
    have e3 : decide ((T.length : Int) ≤ 24) = false := decide_eq_false (by omega)
    have e4 : decide (T.length ≤ 24) = false := decide_eq_false (by omega)
    clear HE HZ h0 h24
    refine wp_region_quiet_below (by kernel_rfl) (by kernel_rfl) ?_
    repeat (go_big_quiet_step (fail))
    refine wpQuiet_nil ?_
    rintro w7 ⟨p2, hw7⟩
    have hb := Lib.hid (show Below w1.heap.size w1 w7 by first | (rw [hw7]; exact below_regrown w1 p2.d p2.os) | (rw [← hw7]; exact below_regrown w1 p2.d p2.os))
    clear hw7
    go_wp2
    go_ret
    exact ⟨ret_bool HF.out.symm, below_tr HB.out hb.out⟩
  have e3 : decide ((T.length : Int) ≤ 24) = true := decide_eq_true (by omega)
  have e4 : decide (T.length ≤ 24) = true := decide_eq_true h24
  have HT : Hid (R = (ordI (growT T 6 0) == (T.length : Int))) := Lib.hid (by rw [HE.out, e4, ordI_eq]; rfl)
  have KW : Hid (∀ V, RdT V a T → Spc V → Calls Tryz.prog 108 #[.agg #[.slice a T.length c], .int .i64 0, .int .i64 1] V fun e w' => e = .returned (.int .i64 (ordI (growT T 6 0))) ∧ Below V.heap.size V w') := Lib.hid (fun V hV hs => rwalk_walk T hT a c 6 0 1 V (by omega) (by omega) (Nat.zero_le _) hV hs)
  generalize ordI (growT T 6 0) = r at *
  clear HE HZ h0 h24 c0 c0'
  refine wp_region_held_drew (S := fun w' => w'.cell? ⟨g1, 0, none⟩ = some (.slice a T.length c)) (by kernel_rfl) ((h1.keep (Below.refl _ _).drew).cell 0 rfl) (fun hHeld => ?_)
  simp only [List.size_toArray, List.length_cons, List.length_nil]
  have hB : Below w1.heap.size w1 w1.drew := (Below.refl _ _).drew
  generalize w1.drew = v0 at *
  replace hHeld := id hHeld
  refine held_take (0) (v := ?_) rfl (by kernel_rfl) (by kernel_rfl) (by kernel_rfl) (fun _ _ _ h => h) (Or.inl ⟨by rfl, ?_⟩) (by assumption) ?_
  rotate_left
  · intro w hSw
    try dsimp only at hSw
    go_simp
    with_reducible rfl
  try simp only [Act.put, List.setIfInBounds_toArray, List.set_cons_zero, List.set_cons_succ]
  refine held_take (1) (v := ?_) rfl (by kernel_rfl) (by kernel_rfl) (by kernel_rfl) (fun _ _ _ h => h) (Or.inl ⟨by rfl, ?_⟩) (by assumption) ?_
  rotate_left
  · intro w hSw
    try dsimp only at hSw
    go_simp
    with_reducible rfl
  try simp only [Act.put, List.setIfInBounds_toArray, List.set_cons_zero, List.set_cons_succ]
  refine held_take (2) (v := ?_) rfl (by kernel_rfl) (by kernel_rfl) (by kernel_rfl) (fun _ _ _ h => h) (Or.inl ⟨by rfl, ?_⟩) (by assumption) ?_
  rotate_left
  · intro w hSw
    try dsimp only at hSw
    go_simp
    with_reducible rfl
  try simp only [Act.put, List.setIfInBounds_toArray, List.set_cons_zero, List.set_cons_succ]
  refine held_take (3) (v := ?_) rfl (by kernel_rfl) (by kernel_rfl) (by kernel_rfl) (fun _ _ _ h => h) (Or.inl ⟨by rfl, ?_⟩) (by assumption) ?_
  rotate_left
  · intro w hSw
    try dsimp only at hSw
    go_simp
    with_reducible rfl
  try simp only [Act.put, List.setIfInBounds_toArray, List.set_cons_zero, List.set_cons_succ]
  refine held_take (4) (v := ?_) rfl (by kernel_rfl) (by kernel_rfl) (by kernel_rfl) (fun _ _ _ h => h) (Or.inl ⟨by rfl, ?_⟩) (by assumption) ?_
  rotate_left
  · intro w hSw
    try dsimp only at hSw
    go_simp
    with_reducible rfl
  try simp only [Act.put, List.setIfInBounds_toArray, List.set_cons_zero, List.set_cons_succ]
  refine held_take (5) (v := ?_) rfl (by kernel_rfl) (by kernel_rfl) (by kernel_rfl) (fun _ _ _ h => h) (Or.inl ⟨by rfl, ?_⟩) (by assumption) ?_
  rotate_left
  · intro w hSw
    try dsimp only at hSw
    go_simp
    with_reducible rfl
  try simp only [Act.put, List.setIfInBounds_toArray, List.set_cons_zero, List.set_cons_succ]
  refine held_take (6) (v := ?_) rfl (by kernel_rfl) (by kernel_rfl) (by kernel_rfl) (fun _ _ _ h => h) (Or.inl ⟨by rfl, ?_⟩) (by assumption) ?_
  rotate_left
  · intro w hSw
    try dsimp only at hSw
    go_simp
    with_reducible rfl
  try simp only [Act.put, List.setIfInBounds_toArray, List.set_cons_zero, List.set_cons_succ]
  refine held_take (7) (v := ?_) rfl (by kernel_rfl) (by kernel_rfl) (by kernel_rfl) (fun _ _ _ h => h) (Or.inl ⟨by rfl, ?_⟩) (by assumption) ?_
  rotate_left
  · intro w hSw
    try dsimp only at hSw
    go_simp
    with_reducible rfl
  try simp only [Act.put, List.setIfInBounds_toArray, List.set_cons_zero, List.set_cons_succ]
  refine held_take (8) (v := ?_) rfl (by kernel_rfl) (by kernel_rfl) (by kernel_rfl) (fun _ _ _ h => h) (Or.inl ⟨by rfl, ?_⟩) (by assumption) ?_
  rotate_left
  · intro w hSw
    try dsimp only at hSw
    go_simp
    with_reducible rfl
  try simp only [Act.put, List.setIfInBounds_toArray, List.set_cons_zero, List.set_cons_succ]
  refine held_take (9) (v := ?_) rfl (by kernel_rfl) (by kernel_rfl) (by kernel_rfl) (fun _ _ _ h => h) (Or.inl ⟨by rfl, ?_⟩) (by assumption) ?_
  rotate_left
  · intro w hSw
    try dsimp only at hSw
    go_simp
    with_reducible rfl
  try simp only [Act.put, List.setIfInBounds_toArray, List.set_cons_zero, List.set_cons_succ]
  refine held_take (10) (v := ?_) rfl (by kernel_rfl) (by kernel_rfl) (by kernel_rfl) (fun _ _ _ h => h) (Or.inl ⟨by rfl, ?_⟩) (by assumption) ?_
  rotate_left
  · intro w hSw
    try dsimp only at hSw
    go_simp
    with_reducible rfl
  try simp only [Act.put, List.setIfInBounds_toArray, List.set_cons_zero, List.set_cons_succ]
  refine held_take (11) (v := ?_) rfl (by kernel_rfl) (by kernel_rfl) (by kernel_rfl) (fun _ _ _ h => h) (Or.inl ⟨by rfl, ?_⟩) (by assumption) ?_
  rotate_left
  · intro w hSw
    try dsimp only at hSw
    go_simp
    with_reducible rfl
  try simp only [Act.put, List.setIfInBounds_toArray, List.set_cons_zero, List.set_cons_succ]
  refine held_take (13) (v := ?_) rfl (by kernel_rfl) (by kernel_rfl) (by kernel_rfl) (fun _ _ _ h => h) (Or.inl ⟨by rfl, ?_⟩) (by assumption) ?_
  rotate_left
  · intro w hSw
    try dsimp only at hSw
    go_simp
    with_reducible rfl
  try simp only [Act.put, List.setIfInBounds_toArray, List.set_cons_zero, List.set_cons_succ]
  refine held_take (14) (v := ?_) rfl (by kernel_rfl) (by kernel_rfl) (by kernel_rfl) (fun _ _ _ h => h) (Or.inl ⟨by rfl, ?_⟩) (by assumption) ?_
  rotate_left
  · intro w hSw
    try dsimp only at hSw
    go_simp
    with_reducible rfl
  try simp only [Act.put, List.setIfInBounds_toArray, List.set_cons_zero, List.set_cons_succ]
  refine held_take (15) (v := ?_) rfl (by kernel_rfl) (by kernel_rfl) (by kernel_rfl) (fun _ _ _ h => h) (Or.inl ⟨by rfl, ?_⟩) (by assumption) ?_
  rotate_left
  · intro w hSw
    try dsimp only at hSw
    go_simp
    with_reducible rfl
  try simp only [Act.put, List.setIfInBounds_toArray, List.set_cons_zero, List.set_cons_succ]
  refine wpAnyH_ready (rs := [12]) (by kernel_rfl) (by simp) ?_
  refine held_cons rfl (fun K hK => ?_) AllReadyH.nil
  go_simp
  go_at_call 108
  (with_reducible refine (KW.out _ (HR1.out.keep hB) (HS1.out.keep hB)).mono ?_)
  (first | rintro e v2 rfl hb | rintro e v2 ⟨rfl, hb⟩)
  replace hB := hB.trans (hb.mono hB.size)
  clear hb
  go_wp2_with fail
  refine hK.out _ _ ((h1.keep hB).cell 0 rfl) (fun hHeld => ?_)
  clear hK K
  try simp only [Act.put, List.setIfInBounds_toArray, List.set_cons_zero, List.set_cons_succ]
  refine held_take (16) (v := ?_) rfl (by kernel_rfl) (by kernel_rfl) (by kernel_rfl) (fun _ _ _ h => h) (Or.inl ⟨by rfl, ?_⟩) (by assumption) ?_
  rotate_left
  · intro w hSw
    try dsimp only at hSw
    go_simp
    with_reducible rfl
  try simp only [Act.put, List.setIfInBounds_toArray, List.set_cons_zero, List.set_cons_succ]
  refine held_take (17) (v := ?_) rfl (by kernel_rfl) (by kernel_rfl) (by kernel_rfl) (fun _ _ _ h => h) (Or.inl ⟨by rfl, ?_⟩) (by assumption) ?_
  rotate_left
  · intro w hSw
    try dsimp only at hSw
    go_simp
    with_reducible rfl
  try simp only [Act.put, List.setIfInBounds_toArray, List.set_cons_zero, List.set_cons_succ]
  refine held_take (18) (v := ?_) rfl (by kernel_rfl) (by kernel_rfl) (by kernel_rfl) (fun _ _ _ h => h) (Or.inl ⟨by rfl, ?_⟩) (by assumption) ?_
  rotate_left
  · intro w hSw
    try dsimp only at hSw
    go_simp
    with_reducible rfl
  try simp only [Act.put, List.setIfInBounds_toArray, List.set_cons_zero, List.set_cons_succ]
  refine wpAnyH_done (by kernel_rfl) ?_ _
  clear hHeld h1
  go_simp
  go_wp2_with fail
  go_ret
  exact ⟨ret_bool HT.out.symm, below_tr HB.out hB⟩
set_option maxRecDepth 100000 in
theorem rvalid_walk (T : List Trm) (a : Option Addr) (c : Nat) (w : World) (hT : T.length ≤ 1000) (hR : RdT w a T) (hS : Spc w) :
    Calls Tryz.prog 73 #[.agg #[.slice a T.length c]] w fun e w' => e = .returned (.bool (rightC T)) ∧ Below w.heap.size w w' := by
  have hb0 := (Below.refl w.heap.size w).alloc (Nat.le_refl _) (.cells #[.slice a T.length c] 42)
  have h1 := Bx.new w 42 [.slice a T.length c]
  change Bx (w.alloc (.cells #[.slice a T.length c] 42)) _ _ _ at h1
  obtain ⟨g1, hg1⟩ : ∃ g, g = w.heap.size := ⟨_, rfl⟩
  have hbw : w.heap.size = g1 := hg1.symm
  rw [← hg1] at h1
  have HB := Lib.hid hb0
  have hRw := hR.keep hb0
  have hSw := hS.keep hb0
  clear hg1 hR hb0 hS
  go_enter Tryz.func73, Tryz.ntmps73
  go_upto_region 1 with (fail)
  generalize w.alloc (.cells #[.slice a T.length c] 42) = w1 at *
  have c0 := h1.cell 0 rfl
  have KR := Lib.hid (rcond_walk T a c w1 hT hRw hSw)
  clear hbw hRw hSw
  go_wp2_with (go_at_call 81; (with_reducible refine KR.out.mono ?_); (first | rintro e w5 rfl hb5 | rintro e w5 ⟨rfl, hb5⟩))
  go_ret
  exact ⟨rfl, below_tr HB.out hb5⟩
end Go.Proofs.YtpofijdkckaphaaGreatDoor
/- Conditions: Term, Holds, Persons: the reference's. -/
namespace Go.Proofs.YtpofijdkckaphaaGreatDoor
open Go.RowKit
theorem dst_split {α : Type} [DecidableEq α] (p : α) : ∀ (l : List α), p ∈ l → dst l = 1 + dst (l.filter fun x => decide (x ≠ p))
  | [], h => by simp at h
  | x :: l, h => by
    by_cases hx : x = p
    · subst hx
      rw [List.filter_cons_of_neg (by simp), dst]
      by_cases hm : x ∈ l
      · rw [if_pos hm, dst_split x l hm]; omega
      · rw [if_neg hm]
        have : l.filter (fun y => decide (y ≠ x)) = l := List.filter_eq_self.2 fun y hy => by
          rw [decide_eq_true_eq]
          intro e
          exact hm (e ▸ hy)
        rw [this]
    · have hm : p ∈ l := by
        rcases List.mem_cons.1 h with e | h
        · exact absurd e.symm hx
        · exact h
      have ih := dst_split p l hm
      rw [List.filter_cons_of_pos (by simpa using hx), dst, dst, ih]
      have e : (x ∈ l.filter fun y => decide (y ≠ p)) ↔ x ∈ l := by rw [List.mem_filter]; simp [hx]
      by_cases h2 : x ∈ l
      · rw [if_pos h2, if_pos (e.2 h2)]; omega
      · rw [if_neg h2, if_neg (fun h => h2 (e.1 h))]
theorem oth_map (M : List Mem) (m : Mem) : (othF M m).map Mem.person = (M.map Mem.person).filter fun x => decide (x ≠ m.person) := by
  unfold othF
  rw [List.filter_map]
  rfl
theorem oth_ne {M : List Mem} {m y : Mem} (h : y ∈ othF M m) : y.person ≠ m.person := by
  have := (List.mem_filter.1 h).2
  simpa using this
/-- what others returns, of a list -/
def OthL (L : List Mem) (w : World) (e : Ending) (w' : World) : Prop := ∃ (a : Option Addr) (c : Nat), e = .returned (.slice a L.length c) ∧ RdM w' a L ∧ Below w.heap.size w w'
/-- what Term says where something is amiss -/
theorem termF_no {wi : Int → Int → Int → Bool} {T : List Trm} {n : Int} {M : List Mem} {me : Int} (h : rightC T = false ∨ n < 0 ∨ (T.length : Int) ≤ n ∨ me < 0 ∨ (M.length : Int) ≤ me) : termF wi T n M me = false := by
  unfold termF
  split
  · split
    · rfl
    · next m hm =>
      have := (List.getElem?_eq_some_iff.1 hm).1
      rcases h with h | h | h | h | h
      · rw [h]; rfl
      · rw [decide_eq_false (show ¬ (0 ≤ n ∧ n < (T.length : Int)) by omega)]; simp
      · rw [decide_eq_false (show ¬ (0 ≤ n ∧ n < (T.length : Int)) by omega)]; simp
      · omega
      · omega
  · rfl
theorem termF_yes {wi : Int → Int → Int → Bool} {T : List Trm} {n k : Nat} {M : List Mem} {m : Mem} (hT : rightC T = true) (hn : n < T.length) (hm : M[k]? = some m) : termF wi T (n : Int) M (k : Int) = holdsT wi T m (othF M m) T.length n := by
  unfold termF
  rw [if_pos (by omega), Int.toNat_natCast, hm]
  dsimp only
  rw [hT, decide_eq_true (show 0 ≤ (n : Int) ∧ (n : Int) < (T.length : Int) by omega), Int.toNat_natCast]
  rfl
set_option maxRecDepth 100000 in
set_option maxHeartbeats 4000000 in
theorem rcterm_walk (T : List Trm) (ta : Option Addr) (tc : Nat) (n : Int) (M : List Mem) (la : Option Addr) (lc : Nat) (me : Int) (w : World) (hRT : RdT w ta T) (hRM : RdM w la M) (hT : T.length ≤ 1000) (hM : M.length ≤ 100000) (hS : Spc w) :
    Calls Tryz.prog 60 #[.agg #[.slice ta T.length tc], .int .i64 n, .slice la M.length lc, .int .i64 me] w fun e w' => e = .returned (.bool (termF wiF T n M me)) ∧ Below w.heap.size w w' := by
  have HNO := Lib.hid (fun h => termF_no (wi := wiF) (T := T) (n := n) (M := M) (me := me) h)
  have HYES : Hid (∀ (a k : Nat) (m : Mem), rightC T = true → n = (a : Int) → me = (k : Int) → a < T.length → M[k]? = some m → termF wiF T n M me = holdsT wiF T m (othF M m) T.length a) := Lib.hid (fun a k m hr h1 h2 h3 h4 => by rw [h1, h2]; exact termF_yes hr h3 h4)
  have HSG := Lib.hid (fun (h : rightC T = true) => (right_all h).2.2)
  generalize termF wiF T n M me = Q at *
  have b1 := (Below.refl w.heap.size w).alloc (Nat.le_refl _) (.cells #[.slice ta T.length tc] 42)
  have h1 := Bx.new w 42 [.slice ta T.length tc]
  change Bx (w.alloc (.cells #[.slice ta T.length tc] 42)) _ _ _ at h1
  have HRT := Lib.hid (hRT.keep b1)
  have HRM := Lib.hid (hRM.keep b1)
  have hS1 := hS.keep b1
  go_enter Tryz.func60, Tryz.ntmps60
  go_upto_region 1 with (fail)
  generalize w.alloc (.cells #[.slice ta T.length tc] 42) = w1 at *
  generalize hg1 : w.heap.size = g1 at *
  have HB := Lib.hid (show Below w.heap.size w w1 by rw [hg1]; exact b1)
  have c0 := h1.cell 0 rfl
  have H1 := Lib.hid h1
  have KV := Lib.hid (rvalid_walk T ta tc w1 hT HRT.out hS1)
  clear hg1 b1 h1 hRT hRM hS hS1
  cases hr : rightC T with
  | false =>
    rw [hr] at KV
    have HR : Hid (Q = false) := Lib.hid (HNO.out (.inl hr))
    clear HNO HYES HSG hr
    go_wp2_with (go_at_call 73; (with_reducible refine KV.out.mono ?_); (first | rintro e w2 rfl hb2 | rintro e w2 ⟨rfl, hb2⟩))
    go_ret
    exact ⟨ret_bool HR.out.symm, below_tr HB.out hb2⟩
  | true =>
  rw [hr] at KV
  have HRC := Lib.hid hr
  have HSG2 := Lib.hid (HSG.out hr)
  clear hr HSG
  have KV2 : Hid (Calls Tryz.prog 73 #[.agg #[.slice ta T.length tc]] w1 fun e w' => e = .returned (.bool true) ∧ Below w1.heap.size w1 w') := KV
  clear KV
  by_cases h0 : 0 ≤ n
  rotate_left
  · have HR : Hid (Q = false) := Lib.hid (HNO.out (.inr (.inl (by omega))))
    have d0 : decide (n < 0) = true := decide_eq_true (by omega)
    clear HNO HYES
    go_wp2_with (go_at_call 73; (with_reducible refine KV2.out.mono ?_); (first | rintro e w2 rfl hb2 | rintro e w2 ⟨rfl, hb2⟩); have h2 := H1.out.keep hb2; have c2 := h2.cell 0 rfl)
    go_ret
    exact ⟨ret_bool HR.out.symm, below_tr HB.out hb2⟩
  have d0 : decide (n < 0) = false := decide_eq_false (by omega)
  by_cases h1 : n < (T.length : Int)
  rotate_left
  · have HR : Hid (Q = false) := Lib.hid (HNO.out (.inr (.inr (.inl (by omega)))))
    have d1 : decide (n ≥ (T.length : Int)) = true := decide_eq_true (by omega)
    clear HNO HYES
    go_wp2_with (go_at_call 73; (with_reducible refine KV2.out.mono ?_); (first | rintro e w2 rfl hb2 | rintro e w2 ⟨rfl, hb2⟩); have h2 := H1.out.keep hb2; have c2 := h2.cell 0 rfl)
    go_ret
    exact ⟨ret_bool HR.out.symm, below_tr HB.out hb2⟩
  have d1 : decide (n ≥ (T.length : Int)) = false := decide_eq_false (by omega)
  by_cases h2 : 0 ≤ me
  rotate_left
  · have HR : Hid (Q = false) := Lib.hid (HNO.out (.inr (.inr (.inr (.inl (by omega))))))
    have d2 : decide (me < 0) = true := decide_eq_true (by omega)
    clear HNO HYES
    go_wp2_with (go_at_call 73; (with_reducible refine KV2.out.mono ?_); (first | rintro e w2 rfl hb2 | rintro e w2 ⟨rfl, hb2⟩); have h2 := H1.out.keep hb2; have c2 := h2.cell 0 rfl)
    go_ret
    exact ⟨ret_bool HR.out.symm, below_tr HB.out hb2⟩
  have d2 : decide (me < 0) = false := decide_eq_false (by omega)
  by_cases h3 : me < (M.length : Int)
  rotate_left
  · have HR : Hid (Q = false) := Lib.hid (HNO.out (.inr (.inr (.inr (.inr (by omega))))))
    have d3 : decide (me ≥ (M.length : Int)) = true := decide_eq_true (by omega)
    clear HNO HYES
    go_wp2_with (go_at_call 73; (with_reducible refine KV2.out.mono ?_); (first | rintro e w2 rfl hb2 | rintro e w2 ⟨rfl, hb2⟩); have h2 := H1.out.keep hb2; have c2 := h2.cell 0 rfl)
    go_ret
    exact ⟨ret_bool HR.out.symm, below_tr HB.out hb2⟩
  have d3 : decide (me ≥ (M.length : Int)) = false := decide_eq_false (by omega)
  obtain ⟨a, ha⟩ : ∃ a : Nat, n = (a : Int) := ⟨n.toNat, by omega⟩
  obtain ⟨k, hk⟩ : ∃ k : Nat, me = (k : Int) := ⟨me.toNat, by omega⟩
  have haT : a < T.length := by omega
  obtain ⟨m, hm⟩ : ∃ m, M[k]? = some m := ⟨_, List.getElem?_eq_getElem (by omega)⟩
  have HR : Hid (Q = holdsT wiF T m (othF M m) T.length a) := Lib.hid (HYES.out a k m HRC.out ha hk haT hm)
  have HM := Lib.hid hm
  have HO : Hid ((m :: othF M m).length ≤ 1000000) := Lib.hid (by have := othF_len M m; rw [List.length_cons]; omega)
  have KO : Hid (∀ V, Below w1.heap.size w1 V → Calls Tryz.prog 75 #[.slice la M.length lc, .int .i64 me] V (OthL (m :: othF M m) V)) := Lib.hid (fun V hV => by
    have : Calls Tryz.prog 75 #[.slice la M.length lc, .int .i64 (k : Int)] V (OthL (m :: othF M m) V) := roth_walk M la lc k m V (HRM.out.keep hV) (by omega) hm
    rwa [← hk] at this)
  have KT : Hid (∀ V (oa : Option Addr) (oc : Nat), Below w1.heap.size w1 V → RdM V oa (m :: othF M m) → Calls Tryz.prog 74 #[.agg #[.slice ta T.length tc], .int .i64 n, .slice oa (m :: othF M m).length oc] V fun e w' => e = .returned (.bool (holdsT wiF T m (othF M m) T.length a)) ∧ Below V.heap.size V w') := Lib.hid (fun V oa oc hV hR => by
    have := rterm17_walk T ta tc HSG2.out m (othF M m) (m :: othF M m) rfl (fun y hy => oth_ne hy) HO.out oa oc T.length a V haT (by omega) (HRT.out.keep hV) hR
    rwa [← ha] at this)
  generalize holdsT wiF T m (othF M m) T.length a = hv at *
  generalize m :: othF M m = L at *
  clear HNO HYES hm ha hk haT h0 h1 h2 h3
  go_upto_region 3 with (go_at_call 73; (with_reducible refine KV2.out.mono ?_); (first | rintro e w2 rfl hb2 | rintro e w2 ⟨rfl, hb2⟩); have h2 := H1.out.keep hb2; have c2 := h2.cell 0 rfl)
  have hB := hb2
  clear hb2 c2 c0 d0 d1 d2 d3
  refine wp_region_held_drew (S := fun w' => w'.cell? ⟨g1, 0, none⟩ = some (.slice ta T.length tc)) (by kernel_rfl) ((h2.keep (Below.refl _ _).drew).cell 0 rfl) (fun hHeld => ?_)
  simp only [List.size_toArray, List.length_cons, List.length_nil]
  have hb0 : Below w2.heap.size w2 w2.drew := (Below.refl _ _).drew
  generalize w2.drew = v0 at *
  replace hHeld := id hHeld
  refine held_take (0) (v := ?_) rfl (by kernel_rfl) (by kernel_rfl) (by kernel_rfl) (fun _ _ _ h => h) (Or.inl ⟨by rfl, ?_⟩) (by assumption) ?_
  rotate_left
  · intro w hSw
    try dsimp only at hSw
    go_simp
    with_reducible rfl
  try simp only [Act.put, List.setIfInBounds_toArray, List.set_cons_zero, List.set_cons_succ]
  refine held_take (1) (v := ?_) rfl (by kernel_rfl) (by kernel_rfl) (by kernel_rfl) (fun _ _ _ h => h) (Or.inl ⟨by rfl, ?_⟩) (by assumption) ?_
  rotate_left
  · intro w hSw
    try dsimp only at hSw
    go_simp
    with_reducible rfl
  try simp only [Act.put, List.setIfInBounds_toArray, List.set_cons_zero, List.set_cons_succ]
  refine held_take (2) (v := ?_) rfl (by kernel_rfl) (by kernel_rfl) (by kernel_rfl) (fun _ _ _ h => h) (Or.inl ⟨by rfl, ?_⟩) (by assumption) ?_
  rotate_left
  · intro w hSw
    try dsimp only at hSw
    go_simp
    with_reducible rfl
  try simp only [Act.put, List.setIfInBounds_toArray, List.set_cons_zero, List.set_cons_succ]
  refine held_take (3) (v := ?_) rfl (by kernel_rfl) (by kernel_rfl) (by kernel_rfl) (fun _ _ _ h => h) (Or.inl ⟨by rfl, ?_⟩) (by assumption) ?_
  rotate_left
  · intro w hSw
    try dsimp only at hSw
    go_simp
    with_reducible rfl
  try simp only [Act.put, List.setIfInBounds_toArray, List.set_cons_zero, List.set_cons_succ]
  refine wpAnyH_ready (rs := [4]) (by kernel_rfl) (by simp) ?_
  refine held_cons rfl (fun K hK => ?_) AllReadyH.nil
  go_simp
  go_at_call 75
  (with_reducible refine (KO.out _ (hB.trans (hb0.mono hB.size))).mono ?_)
  (first | rintro e v4 ⟨oa, oc, rfl, hRO, hb⟩ | rintro e v4 oa oc rfl hRO hb)
  replace hb0 := hb0.trans (hb.mono hb0.size)
  clear hb
  go_wp2_with fail
  refine hK.out _ _ ((h2.keep hb0).cell 0 rfl) (fun hHeld => ?_)
  clear hK K
  try simp only [Act.put, List.setIfInBounds_toArray, List.set_cons_zero, List.set_cons_succ]
  refine wpAnyH_ready (rs := [5]) (by kernel_rfl) (by simp) ?_
  refine held_cons rfl (fun K hK => ?_) AllReadyH.nil
  go_simp
  go_at_call 74
  (with_reducible refine (KT.out _ oa oc (hB.trans (hb0.mono hB.size)) hRO).mono ?_)
  (first | rintro e v5 rfl hb | rintro e v5 ⟨rfl, hb⟩)
  replace hb0 := hb0.trans (hb.mono hb0.size)
  clear hb hRO
  go_wp2_with fail
  refine hK.out _ _ ((h2.keep hb0).cell 0 rfl) (fun hHeld => ?_)
  clear hK K
  try simp only [Act.put, List.setIfInBounds_toArray, List.set_cons_zero, List.set_cons_succ]
  refine held_take (6) (v := ?_) rfl (by kernel_rfl) (by kernel_rfl) (by kernel_rfl) (fun _ _ _ h => h) (Or.inl ⟨by rfl, ?_⟩) (by assumption) ?_
  rotate_left
  · intro w hSw
    try dsimp only at hSw
    go_simp
    with_reducible rfl
  try simp only [Act.put, List.setIfInBounds_toArray, List.set_cons_zero, List.set_cons_succ]
  refine wpAnyH_done (by kernel_rfl) ?_ _
  clear hHeld h2
  have hB9 := Lib.hid (hB.trans (hb0.mono hB.size))
  clear hB hb0
  go_simp
  go_wp2_with fail
  go_ret
  exact ⟨ret_bool HR.out.symm, below_tr HB.out hB9.out⟩
set_option maxRecDepth 100000 in
theorem rcholds_walk (T : List Trm) (ta : Option Addr) (tc : Nat) (M : List Mem) (la : Option Addr) (lc : Nat) (me : Int) (w : World) (hRT : RdT w ta T) (hRM : RdM w la M) (hT : T.length ≤ 1000) (hM : M.length ≤ 100000) (hS : Spc w) :
    Calls Tryz.prog 37 #[.agg #[.slice ta T.length tc], .slice la M.length lc, .int .i64 me] w fun e w' => e = .returned (.bool (termF wiF T 0 M me)) ∧ Below w.heap.size w w' := by
  have b1 := (Below.refl w.heap.size w).alloc (Nat.le_refl _) (.cells #[.slice ta T.length tc] 42)
  have h1 := Bx.new w 42 [.slice ta T.length tc]
  change Bx (w.alloc (.cells #[.slice ta T.length tc] 42)) _ _ _ at h1
  have KT := Lib.hid (rcterm_walk T ta tc 0 M la lc me _ (hRT.keep b1) (hRM.keep b1) hT hM (hS.keep b1))
  obtain ⟨g1, hg1⟩ : ∃ g, g = w.heap.size := ⟨_, rfl⟩
  have hbw : w.heap.size = g1 := hg1.symm
  rw [← hg1] at h1
  have HB := Lib.hid b1
  generalize termF wiF T 0 M me = Q at *
  clear hg1 b1 hRT hRM hS hT hM
  go_enter Tryz.func37, Tryz.ntmps37
  go_upto_region 1 with (fail)
  generalize w.alloc (.cells #[.slice ta T.length tc] 42) = w1 at *
  have c0 := h1.cell 0 rfl
  clear hbw h1
  go_wp2_with (go_at_call 60; (with_reducible refine KT.out.mono ?_); (first | rintro e w2 rfl hb2 | rintro e w2 ⟨rfl, hb2⟩))
  go_ret
  exact ⟨rfl, below_tr HB.out hb2⟩
end Go.Proofs.YtpofijdkckaphaaGreatDoor
