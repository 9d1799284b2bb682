/- law17: awake. -/
import Derived.Test.YtejdaeonknpgeaaGreatDoorGCndR
import Derived.Test.YtejdaeonknpgeaaGreatDoorRegionL
namespace Go.Proofs.YtejdaeonknpgeaaGreatDoor
open Go.RowKit
def mA (x : List UInt8) : Mem := ⟨x, 0, 0, 0, [], none, 0⟩
theorem mA_in (x : List UInt8) (h : x.length ≤ 1000) : (mA x).In := by
  refine ⟨?_, ⟨⟨by simp [mA], by simp [mA]⟩, ⟨by simp [mA], by simp [mA]⟩, ⟨by simp [mA], by simp [mA]⟩⟩, ?_, ?_, ?_⟩
  · show x.length ≤ _; omega
  · intro a ha; simp [mA] at ha
  · simp [mA]
  · simp [mA]
theorem aw17a : termF wiF [repT 2] 0 [mA [97], mA [98], mA [98]] 0 = true := by rfl
theorem aw17b : termF wiF [repT 2] 0 [mA [97], mA [98], mA [98]] 2 = true := by rfl
theorem aw17c : termF wiF [repT 2] 0 [mA [98], mA [98]] 0 = false := by rfl
theorem aw17d : leastF [repT 2] = 2 := by rfl
/-- what stands while the check goes on -/
structure Aw (w0 w : World) (g : Nat) : Prop where
  b : Below w0.heap.size w0 w
  m : RdM w (some ⟨g, 0, none⟩) [mA [97], mA [98], mA [98]]
  n : RdM w (some ⟨g, 5, none⟩) [mA [98], mA [98]]
theorem Aw.keep {w0 w w' : World} {g : Nat} (h : Aw w0 w g) (hb : Below w.heap.size w w') : Aw w0 w' g := ⟨h.b.trans (hb.mono h.b.size), h.m.keep hb, h.n.keep hb⟩
set_option maxRecDepth 100000 in
set_option maxHeartbeats 1000000 in
theorem awake17 (w : World) : Calls Tryz.prog 5 #[] w fun e w' => e = .returned (.bool true) ∧ Below w.heap.size w w' := by
  have KR := Lib.hid (fun V => reporters_walk 2 ⟨by decide, by decide⟩ V)
  have KA := Lib.hid (fun V ta (hT : RdT V ta [repT 2]) (hM : RdM V (some ⟨w.heap.size, 0, none⟩) [mA [97], mA [98], mA [98]]) => (show Calls Tryz.prog 11 #[.agg #[.slice ta 1 1], .slice (some ⟨w.heap.size, 0, none⟩) 3 3, .int .i64 0] V fun e w' => e = .returned (.bool true) ∧ Below V.heap.size V w' by
    have := cholds_walk [repT 2] ta 1 _ _ 3 0 V ⟨hT, hM⟩ (by simp) (by simp)
    rwa [aw17a] at this))
  have KB := Lib.hid (fun V ta (hT : RdT V ta [repT 2]) (hM : RdM V (some ⟨w.heap.size, 0, none⟩) [mA [97], mA [98], mA [98]]) => (show Calls Tryz.prog 11 #[.agg #[.slice ta 1 1], .slice (some ⟨w.heap.size, 0, none⟩) 3 3, .int .i64 2] V fun e w' => e = .returned (.bool true) ∧ Below V.heap.size V w' by
    have := cholds_walk [repT 2] ta 1 _ _ 3 2 V ⟨hT, hM⟩ (by simp) (by simp)
    rwa [aw17b] at this))
  have KC := Lib.hid (fun V ta (hT : RdT V ta [repT 2]) (hM : RdM V (some ⟨w.heap.size, 5, none⟩) [mA [98], mA [98]]) => (show Calls Tryz.prog 11 #[.agg #[.slice ta 1 1], .slice (some ⟨w.heap.size, 5, none⟩) 2 2, .int .i64 0] V fun e w' => e = .returned (.bool false) ∧ Below V.heap.size V w' by
    have := cholds_walk [repT 2] ta 1 _ _ 2 0 V ⟨hT, hM⟩ (by simp) (by simp)
    rwa [aw17c] at this))
  have KD := Lib.hid (fun V ta (hT : RdT V ta [repT 2]) => (show Calls Tryz.prog 19 #[.agg #[.slice ta 1 1]] V fun e w' => e = .returned (.int .i64 2) ∧ Below V.heap.size V w' by
    have := cleast_walk [repT 2] ta 1 V hT (by simp)
    rwa [aw17d] at this))
  have h0 : Aw w (w.alloc (.cells #[.string ⟨#[97]⟩, .int .i64 0, .int .i64 0, .int .i64 0, .slice none 0 0, .string ⟨#[98]⟩, .int .i64 0, .int .i64 0, .int .i64 0, .slice none 0 0, .string ⟨#[98]⟩, .int .i64 0, .int .i64 0, .int .i64 0, .slice none 0 0] 28)) w.heap.size := by
    refine ⟨(Below.refl _ _).alloc (Nat.le_refl _) _, ⟨Rd.mk fun j u hj => ?_, fun m hm => ?_, fun m hm => ?_⟩, ⟨Rd.mk fun j u hj => ?_, fun m hm => ?_, fun m hm => ?_⟩⟩
    · rw [Nat.zero_add, World.cell?_alloc_at _ _ _ _ rfl]; simpa [rowsC, mmC, mA] using hj
    · simp at hm; rcases hm with rfl | rfl <;> exact Rd.nil _ _
    · simp at hm; rcases hm with rfl | rfl <;> exact mA_in _ (by simp)
    · rw [Nat.add_comm, World.cell?_alloc_at _ _ _ _ rfl]
      have e : ∀ (L : List Value), L.toArray[j + 5]? = (L.drop 5)[j]? := fun L => by simp [Nat.add_comm]
      rw [e]; simpa [rowsC, mmC, mA] using hj
    · simp at hm; subst hm; exact Rd.nil _ _
    · simp at hm; subst hm; exact mA_in _ (by simp)
  go_enter Tryz.func5, Tryz.ntmps5
  go_upto_region 2 with (fail)
  generalize w.alloc (.cells #[.string ⟨#[97]⟩, .int .i64 0, .int .i64 0, .int .i64 0, .slice none 0 0, .string ⟨#[98]⟩, .int .i64 0, .int .i64 0, .int .i64 0, .slice none 0 0, .string ⟨#[98]⟩, .int .i64 0, .int .i64 0, .int .i64 0, .slice none 0 0] 28) = w2 at *
  generalize w.heap.size = gm at *
  refine wp_region_held_last' (S := fun w' => True) 20 rfl (by kernel_rfl) (by kernel_rfl) (by kernel_rfl) trivial (fun hHeld => ?_)
  dsimp only [List.dropLast, List.replicate] at hHeld ⊢
  have hA := h0.keep (Below.refl _ _).drew
  clear h0
  generalize w2.drew = v0 at *
  refine held_take (1) (v := ?_) rfl (by kernel_rfl) (by kernel_rfl) (by kernel_rfl) (fun _ _ _ h => h) (Or.inl ⟨by rfl, ?_⟩) (by assumption) ?_
  rotate_left
  · intro w hSw
    try dsimp only at hSw
    go_simp
    with_reducible rfl
  try simp only [Act.put, List.setIfInBounds_toArray, List.set_cons_zero, List.set_cons_succ]
  refine wpAnyH_ready (rs := [0]) (by kernel_rfl) (by simp) ?_
  refine held_cons rfl (fun K hK => ?_) AllReadyH.nil
  go_simp
  go_at_call 21
  (with_reducible refine (KR.out _).mono ?_)
  rintro e v1 ⟨gv1, rfl, hT, hb⟩
  replace hA := hA.keep hb
  clear hb
  go_wp2_with fail
  refine hK.out _ _ trivial (fun hHeld => ?_)
  clear hK K
  try simp only [Act.put, List.setIfInBounds_toArray, List.set_cons_zero, List.set_cons_succ]
  refine wpAnyH_ready (rs := [2]) (by kernel_rfl) (by simp) ?_
  refine held_cons rfl (fun K hK => ?_) AllReadyH.nil
  go_simp
  go_at_call 11
  (with_reducible refine (KA.out _ _ hT hA.m).mono ?_)
  (first | rintro e v2 rfl hb | rintro e v2 ⟨rfl, hb⟩)
  replace hA := hA.keep hb
  clear hb hT
  go_wp2_with fail
  refine hK.out _ _ trivial (fun hHeld => ?_)
  clear hK K
  try simp only [Act.put, List.setIfInBounds_toArray, List.set_cons_zero, List.set_cons_succ]
  refine held_take (3) (v := ?_) rfl (by kernel_rfl) (by kernel_rfl) (by kernel_rfl) (fun _ _ _ h => h) (Or.inl ⟨by rfl, ?_⟩) (by assumption) ?_
  rotate_left
  · intro w hSw
    try dsimp only at hSw
    go_simp
    with_reducible rfl
  try simp only [Act.put, List.setIfInBounds_toArray, List.set_cons_zero, List.set_cons_succ]
  refine held_take (5) (v := ?_) rfl (by kernel_rfl) (by kernel_rfl) (by kernel_rfl) (fun _ _ _ h => h) (Or.inl ⟨by rfl, ?_⟩) (by assumption) ?_
  rotate_left
  · intro w hSw
    try dsimp only at hSw
    go_simp
    with_reducible rfl
  try simp only [Act.put, List.setIfInBounds_toArray, List.set_cons_zero, List.set_cons_succ]
  refine wpAnyH_ready (rs := [4]) (by kernel_rfl) (by simp) ?_
  refine held_cons rfl (fun K hK => ?_) AllReadyH.nil
  go_simp
  go_at_call 21
  (with_reducible refine (KR.out _).mono ?_)
  rintro e v3 ⟨gv3, rfl, hT, hb⟩
  replace hA := hA.keep hb
  clear hb
  go_wp2_with fail
  refine hK.out _ _ trivial (fun hHeld => ?_)
  clear hK K
  try simp only [Act.put, List.setIfInBounds_toArray, List.set_cons_zero, List.set_cons_succ]
  refine wpAnyH_ready (rs := [6]) (by kernel_rfl) (by simp) ?_
  refine held_cons rfl (fun K hK => ?_) AllReadyH.nil
  go_simp
  go_at_call 11
  (with_reducible refine (KB.out _ _ hT hA.m).mono ?_)
  (first | rintro e v4 rfl hb | rintro e v4 ⟨rfl, hb⟩)
  replace hA := hA.keep hb
  clear hb hT
  go_wp2_with fail
  refine hK.out _ _ trivial (fun hHeld => ?_)
  clear hK K
  try simp only [Act.put, List.setIfInBounds_toArray, List.set_cons_zero, List.set_cons_succ]
  refine held_take (7) (v := ?_) rfl (by kernel_rfl) (by kernel_rfl) (by kernel_rfl) (fun _ _ _ h => h) (Or.inl ⟨by rfl, ?_⟩) (by assumption) ?_
  rotate_left
  · intro w hSw
    try dsimp only at hSw
    go_simp
    with_reducible rfl
  try simp only [Act.put, List.setIfInBounds_toArray, List.set_cons_zero, List.set_cons_succ]
  refine held_take (8) (v := ?_) rfl (by kernel_rfl) (by kernel_rfl) (by kernel_rfl) (fun _ _ _ h => h) (Or.inl ⟨by rfl, ?_⟩) (by assumption) ?_
  rotate_left
  · intro w hSw
    try dsimp only at hSw
    go_simp
    with_reducible rfl
  try simp only [Act.put, List.setIfInBounds_toArray, List.set_cons_zero, List.set_cons_succ]
  refine held_take (10) (v := ?_) rfl (by kernel_rfl) (by kernel_rfl) (by kernel_rfl) (fun _ _ _ h => h) (Or.inl ⟨by rfl, ?_⟩) (by assumption) ?_
  rotate_left
  · intro w hSw
    try dsimp only at hSw
    go_simp
    with_reducible rfl
  try simp only [Act.put, List.setIfInBounds_toArray, List.set_cons_zero, List.set_cons_succ]
  refine held_take (11) (v := ?_) rfl (by kernel_rfl) (by kernel_rfl) (by kernel_rfl) (fun _ _ _ h => h) (Or.inl ⟨by rfl, ?_⟩) (by assumption) ?_
  rotate_left
  · intro w hSw
    try dsimp only at hSw
    go_simp
    with_reducible rfl
  try simp only [Act.put, List.setIfInBounds_toArray, List.set_cons_zero, List.set_cons_succ]
  refine wpAnyH_ready (rs := [9]) (by kernel_rfl) (by simp) ?_
  refine held_cons rfl (fun K hK => ?_) AllReadyH.nil
  go_simp
  go_at_call 21
  (with_reducible refine (KR.out _).mono ?_)
  rintro e v5 ⟨gv5, rfl, hT, hb⟩
  replace hA := hA.keep hb
  clear hb
  go_wp2_with fail
  refine hK.out _ _ trivial (fun hHeld => ?_)
  clear hK K
  try simp only [Act.put, List.setIfInBounds_toArray, List.set_cons_zero, List.set_cons_succ]
  refine wpAnyH_ready (rs := [12]) (by kernel_rfl) (by simp) ?_
  refine held_cons rfl (fun K hK => ?_) AllReadyH.nil
  go_simp
  go_at_call 11
  (with_reducible refine (KC.out _ _ hT hA.n).mono ?_)
  (first | rintro e v6 rfl hb | rintro e v6 ⟨rfl, hb⟩)
  replace hA := hA.keep hb
  clear hb hT
  go_wp2_with fail
  refine hK.out _ _ trivial (fun hHeld => ?_)
  clear hK K
  try simp only [Act.put, List.setIfInBounds_toArray, List.set_cons_zero, List.set_cons_succ]
  refine held_take (13) (v := ?_) rfl (by kernel_rfl) (by kernel_rfl) (by kernel_rfl) (fun _ _ _ h => h) (Or.inl ⟨by rfl, ?_⟩) (by assumption) ?_
  rotate_left
  · intro w hSw
    try dsimp only at hSw
    go_simp
    with_reducible rfl
  try simp only [Act.put, List.setIfInBounds_toArray, List.set_cons_zero, List.set_cons_succ]
  refine held_take (14) (v := ?_) rfl (by kernel_rfl) (by kernel_rfl) (by kernel_rfl) (fun _ _ _ h => h) (Or.inl ⟨by rfl, ?_⟩) (by assumption) ?_
  rotate_left
  · intro w hSw
    try dsimp only at hSw
    go_simp
    with_reducible rfl
  try simp only [Act.put, List.setIfInBounds_toArray, List.set_cons_zero, List.set_cons_succ]
  refine held_take (15) (v := ?_) rfl (by kernel_rfl) (by kernel_rfl) (by kernel_rfl) (fun _ _ _ h => h) (Or.inl ⟨by rfl, ?_⟩) (by assumption) ?_
  rotate_left
  · intro w hSw
    try dsimp only at hSw
    go_simp
    with_reducible rfl
  try simp only [Act.put, List.setIfInBounds_toArray, List.set_cons_zero, List.set_cons_succ]
  refine wpAnyH_ready (rs := [16]) (by kernel_rfl) (by simp) ?_
  refine held_cons rfl (fun K hK => ?_) AllReadyH.nil
  go_simp
  go_at_call 21
  (with_reducible refine (KR.out _).mono ?_)
  rintro e v7 ⟨gv7, rfl, hT, hb⟩
  replace hA := hA.keep hb
  clear hb
  go_wp2_with fail
  refine hK.out _ _ trivial (fun hHeld => ?_)
  clear hK K
  try simp only [Act.put, List.setIfInBounds_toArray, List.set_cons_zero, List.set_cons_succ]
  refine wpAnyH_ready (rs := [17]) (by kernel_rfl) (by simp) ?_
  refine held_cons rfl (fun K hK => ?_) AllReadyH.nil
  go_simp
  go_at_call 19
  (with_reducible refine (KD.out _ _ hT).mono ?_)
  (first | rintro e v8 rfl hb | rintro e v8 ⟨rfl, hb⟩)
  replace hA := hA.keep hb
  clear hb hT
  go_wp2_with fail
  refine hK.out _ _ trivial (fun hHeld => ?_)
  clear hK K
  try simp only [Act.put, List.setIfInBounds_toArray, List.set_cons_zero, List.set_cons_succ]
  refine held_take (18) (v := ?_) rfl (by kernel_rfl) (by kernel_rfl) (by kernel_rfl) (fun _ _ _ h => h) (Or.inl ⟨by rfl, ?_⟩) (by assumption) ?_
  rotate_left
  · intro w hSw
    try dsimp only at hSw
    go_simp
    with_reducible rfl
  try simp only [Act.put, List.setIfInBounds_toArray, List.set_cons_zero, List.set_cons_succ]
  refine held_take (19) (v := ?_) rfl (by kernel_rfl) (by kernel_rfl) (by kernel_rfl) (fun _ _ _ h => h) (Or.inl ⟨by rfl, ?_⟩) (by assumption) ?_
  rotate_left
  · intro w hSw
    try dsimp only at hSw
    go_simp
    with_reducible rfl
  try simp only [Act.put, List.setIfInBounds_toArray, List.set_cons_zero, List.set_cons_succ]
  refine wpAnyH_done (by kernel_rfl) ?_ _
  dsimp only [Behind]
  have HB := Lib.hid hA.b
  go_simp
  go_wp2
  go_ret
  exact ⟨rfl, HB.out⟩
end Go.Proofs.YtejdaeonknpgeaaGreatDoor
