/- Statements: ref18.Member. -/
import Derived.Test.YtpofijdkckaphaaGreatDoorGPlyC
import Derived.Test.YtpofijdkckaphaaGreatDoorGCndP
namespace Go.Proofs.YtpofijdkckaphaaGreatDoor
open Go.RowKit
theorem Mem.ret {fn : Func} {t : Tmp} (h : fn.results = #[.cell t 39]) (tmps : Array Value) {w : World} {g : Nat} {v0 v1 v2 v3 v4 : Value} (ht : tmps.getD t undef = .pointer (some ⟨g, 0, none⟩)) (hD : Bx w g 39 [v0, v1, v2, v3, v4]) :
    (results fn tmps).run Tryz.prog w = .ok (.agg #[v0, v1, v2, v3, v4]) w := by
  have c0 := hD.cell 0 (v := v0) rfl
  have c1 := hD.cell 1 (v := v1) rfl
  have c2 := hD.cell 2 (v := v2) rfl
  have c3 := hD.cell 3 (v := v3) rfl
  have c4 := hD.cell 4 (v := v4) rfl
  have ht' : tmps[t]?.getD undef = .pointer (some ⟨g, 0, none⟩) := by simpa using ht
  simp [results, h, ht', go_sem, c0, c1, c2, c3, c4]
theorem an_one (A : List Ans) : ∀ u ∈ rowsC anC A, u.oneCell' = true := rowsC_one (fun x u hu => by
  simp only [anC, List.mem_cons, List.not_mem_nil, or_false] at hu
  rcases hu with rfl | rfl | rfl <;> rfl) A
theorem an_len (A : List Ans) : (rowsC anC A).length = A.length * 3 := rowsC_length anC_len A
set_option maxRecDepth 100000 in
set_option maxHeartbeats 4000000 in
theorem rmember_walk (r : List UInt8) (dp dy : Int) (A : List Ans) (aa : Option Addr) (ac : Nat) (ta : Option Addr) (tn tc : Nat) (sa : Option Addr) (sn sc : Nat) (person : List UInt8) (num : Int) (w : World) (hA : Rd w aa (rowsC anC A)) (hal : A.length ≤ 1000) :
    Calls Tryz.prog 30 #[.agg #[.string ⟨r.toArray⟩, .int .i64 dp, .int .i64 dy, .slice aa A.length ac, .slice ta tn tc, .slice sa sn sc], .string ⟨person.toArray⟩, .int .i64 num] w fun e w' => ∃ a' c', e = .returned (.agg #[.string ⟨person.toArray⟩, .int .i64 num, .int .i64 dp, .int .i64 dy, .slice a' A.length c']) ∧ Ow w' w.heap.size 3 a' A.length c' (rowsC anC A) ∧ Below w.heap.size w w' := by
  obtain ⟨v, hv⟩ : ∃ v, v = w.alloc (.cells #[.string ⟨r.toArray⟩, .int .i64 dp, .int .i64 dy, .slice aa A.length ac, .slice ta tn tc, .slice sa sn sc] 64) := ⟨_, rfl⟩
  have hb0 := (Below.refl w.heap.size w).alloc (Nat.le_refl _) (.cells #[.string ⟨r.toArray⟩, .int .i64 dp, .int .i64 dy, .slice aa A.length ac, .slice ta tn tc, .slice sa sn sc] 64)
  have h1 := Bx.new w 64 [.string ⟨r.toArray⟩, .int .i64 dp, .int .i64 dy, .slice aa A.length ac, .slice ta tn tc, .slice sa sn sc]
  change Bx (w.alloc (.cells #[.string ⟨r.toArray⟩, .int .i64 dp, .int .i64 dy, .slice aa A.length ac, .slice ta tn tc, .slice sa sn sc] 64)) _ _ _ at h1
  rw [← hv] at hb0 h1
  have hb1 := (Below.refl v.heap.size v).alloc (Nat.le_refl _) (.cells #[.string ⟨#[]⟩, .int .i64 0, .int .i64 0, .int .i64 0, .slice none 0 0] 39)
  have h2 := Bx.new v 39 [.string ⟨#[]⟩, .int .i64 0, .int .i64 0, .int .i64 0, .slice none 0 0]
  change Bx (v.alloc (.cells #[.string ⟨#[]⟩, .int .i64 0, .int .i64 0, .int .i64 0, .slice none 0 0] 39)) _ _ _ at h2
  have hs1 : v.heap.size = w.heap.size + 1 := by rw [hv]; exact Array.size_push _
  have h1' := h1.keep hb1
  have hA' := (hA.keep hb0).keep hb1
  have hb := below_tr hb0 hb1
  rw [hs1] at h2
  subst hv
  clear h1 hb0 hb1 hA hs1
  have hwl : w.heap.size = w.heap.size := rfl
  obtain ⟨w0, hw0⟩ : ∃ w0, w0 = w := ⟨_, rfl⟩
  rw [show (fun (e : Ending) (w' : World) => ∃ a' c', e = .returned (.agg #[.string ⟨person.toArray⟩, .int .i64 num, .int .i64 dp, .int .i64 dy, .slice a' A.length c']) ∧ Ow w' w.heap.size 3 a' A.length c' (rowsC anC A) ∧ Below w.heap.size w w') = fun e w' => ∃ a' c', e = .returned (.agg #[.string ⟨person.toArray⟩, .int .i64 num, .int .i64 dp, .int .i64 dy, .slice a' A.length c']) ∧ Ow w' w0.heap.size 3 a' A.length c' (rowsC anC A) ∧ Below w0.heap.size w0 w' by rw [hw0]]
  have hB : Below w0.heap.size w0 ((w.alloc (.cells #[.string ⟨r.toArray⟩, .int .i64 dp, .int .i64 dy, .slice aa A.length ac, .slice ta tn tc, .slice sa sn sc] 64)).alloc (.cells #[.string ⟨#[]⟩, .int .i64 0, .int .i64 0, .int .i64 0, .slice none 0 0] 39)) := by rw [hw0]; exact hb
  have hg0 : w0.heap.size = w.heap.size := by rw [hw0]
  clear hb hw0 hwl
  go_enter Tryz.func30, Tryz.ntmps30
  go_upto_region 1 with (fail)
  generalize (w.alloc (.cells #[.string ⟨r.toArray⟩, .int .i64 dp, .int .i64 dy, .slice aa A.length ac, .slice ta tn tc, .slice sa sn sc] 64)).alloc (.cells #[.string ⟨#[]⟩, .int .i64 0, .int .i64 0, .int .i64 0, .slice none 0 0] 39) = w1 at *
  generalize hg1 : w.heap.size = g1 at *
  clear hg1
  refine wp_region_held_last' (S := fun w' => w'.cell? ⟨g1, 1, none⟩ = some (.int .i64 dp) ∧ w'.cell? ⟨g1, 2, none⟩ = some (.int .i64 dy) ∧ w'.cell? ⟨g1, 3, none⟩ = some (.slice aa A.length ac)) 10 rfl (by kernel_rfl) (by kernel_rfl) (by kernel_rfl) ⟨h1'.cell 1 rfl, h1'.cell 2 rfl, h1'.cell 3 rfl⟩ (fun hHeld => ?_)
  dsimp only [List.dropLast, List.replicate] at hHeld ⊢
  replace h1' := h1'.keep (Below.refl _ _).drew
  replace h2 := h2.keep (Below.refl _ _).drew
  replace hA' := hA'.keep (Below.refl _ _).drew
  replace hB := hB.drew
  generalize w1.drew = v0 at *
  refine held_take (0) (v := ?_) rfl (by kernel_rfl) (by kernel_rfl) (by kernel_rfl) (fun _ _ _ h => h) (Or.inl ⟨by rfl, ?_⟩) (by assumption) ?_
  rotate_left
  · intro w hSw
    try dsimp only at hSw
    go_simp
    with_reducible rfl
  try simp only [Act.put, List.setIfInBounds_toArray, List.set_cons_zero, List.set_cons_succ]
  refine held_take (1) (v := ?_) rfl (by kernel_rfl) (by kernel_rfl) (by kernel_rfl) (fun _ _ _ h => h) (Or.inl ⟨by rfl, ?_⟩) (by assumption) ?_
  rotate_left
  · intro w hSw
    try dsimp only at hSw
    go_simp
    with_reducible rfl
  try simp only [Act.put, List.setIfInBounds_toArray, List.set_cons_zero, List.set_cons_succ]
  refine held_take (2) (v := ?_) rfl (by kernel_rfl) (by kernel_rfl) (by kernel_rfl) (fun _ _ _ h => h) (Or.inl ⟨by rfl, ?_⟩) (by assumption) ?_
  rotate_left
  · intro w hSw
    try dsimp only at hSw
    go_simp
    with_reducible rfl
  try simp only [Act.put, List.setIfInBounds_toArray, List.set_cons_zero, List.set_cons_succ]
  refine held_take (3) (v := ?_) rfl (by kernel_rfl) (by kernel_rfl) (by kernel_rfl) (fun _ _ _ h => h) (Or.inl ⟨by rfl, ?_⟩) (by assumption) ?_
  rotate_left
  · intro w hSw
    try dsimp only at hSw
    go_simp
    with_reducible rfl
  try simp only [Act.put, List.setIfInBounds_toArray, List.set_cons_zero, List.set_cons_succ]
  refine held_take (4) (v := ?_) rfl (by kernel_rfl) (by kernel_rfl) (by kernel_rfl) (fun _ _ _ h => h) (Or.inl ⟨by rfl, ?_⟩) (by assumption) ?_
  rotate_left
  · intro w hSw
    try dsimp only at hSw
    go_simp
    with_reducible rfl
  try simp only [Act.put, List.setIfInBounds_toArray, List.set_cons_zero, List.set_cons_succ]
  refine held_take (5) (v := ?_) rfl (by kernel_rfl) (by kernel_rfl) (by kernel_rfl) (fun _ _ _ h => h) (Or.inl ⟨by rfl, ?_⟩) (by assumption) ?_
  rotate_left
  · intro w hSw
    try dsimp only at hSw
    go_simp
    with_reducible rfl
  try simp only [Act.put, List.setIfInBounds_toArray, List.set_cons_zero, List.set_cons_succ]
  refine held_take (6) (v := ?_) rfl (by kernel_rfl) (by kernel_rfl) (by kernel_rfl) (fun _ _ _ h => h) (Or.inl ⟨by rfl, ?_⟩) (by assumption) ?_
  rotate_left
  · intro w hSw
    try dsimp only at hSw
    go_simp
    with_reducible rfl
  try simp only [Act.put, List.setIfInBounds_toArray, List.set_cons_zero, List.set_cons_succ]
  refine held_take (7) (v := ?_) rfl (by kernel_rfl) (by kernel_rfl) (by kernel_rfl) (fun _ _ _ h => h) (Or.inl ⟨by rfl, ?_⟩) (by assumption) ?_
  rotate_left
  · intro w hSw
    try dsimp only at hSw
    go_simp
    with_reducible rfl
  try simp only [Act.put, List.setIfInBounds_toArray, List.set_cons_zero, List.set_cons_succ]
  refine wpAnyH_ready (rs := [8]) (by kernel_rfl) (by simp) ?_
  refine held_cons rfl (fun K hK => ?_) AllReadyH.nil
  refine step_copyn rfl _ _ _ _ rfl elAns rfl rfl (Src.slice elAns.u (an_len A) hA' (an_one A)) (by omega) (B := w0.heap.size) hB.size ?_
  intro a3 c3 wB hO3 hb3 hat3
  have h1B := h1'.keep hb3
  have h2B := h2.keep hb3
  have hBB := below_tr hB hb3
  have hlo2 := h2.lt
  refine hK.out _ _ ⟨h1B.cell 1 rfl, h1B.cell 2 rfl, h1B.cell 3 rfl⟩ (fun hHeld => ?_)
  clear hK K
  try simp only [Act.put, List.setIfInBounds_toArray, List.set_cons_zero, List.set_cons_succ]
  refine held_take (9) (v := ?_) rfl (by kernel_rfl) (by kernel_rfl) (by kernel_rfl) (fun _ _ _ h => h) (Or.inl ⟨by rfl, ?_⟩) (by assumption) ?_
  rotate_left
  · intro w hSw
    try dsimp only at hSw
    go_simp
    with_reducible rfl
  try simp only [Act.put, List.setIfInBounds_toArray, List.set_cons_zero, List.set_cons_succ]
  refine wpAnyH_done (by kernel_rfl) ?_ _
  dsimp only [Behind]
  have z0 := h2B.cell 0 rfl
  have z1 := h2B.cell 1 rfl
  have z2 := h2B.cell 2 rfl
  have z3 := h2B.cell 3 rfl
  have z4 := h2B.cell 4 rfl
  have f0 := h2B.free 0
  have f1 := h2B.free 1
  have f2 := h2B.free 2
  have f3 := h2B.free 3
  have f4 := h2B.free 4
  have H2 := Lib.hid h2B
  have HO := Lib.hid hO3
  have HB := Lib.hid hBB
  have HAT := Lib.hid hat3
  have HLO := Lib.hid hlo2
  have HG0 := Lib.hid hg0
  clear h1' h2 hA' hB h1B h2B hO3 hb3 hat3 hBB hHeld hlo2 hg0
  go_simp
  go_wp2_with fail
  have hP := H2.out.setAll [.string ⟨person.toArray⟩, .int .i64 num, .int .i64 dp, .int .i64 dy, .slice a3 A.length c3] rfl
  have hks := grownBy_setCells wB (g1 + 1) 0 [.string ⟨person.toArray⟩, .int .i64 num, .int .i64 dp, .int .i64 dy, .slice a3 A.length c3]
  refine bodyPost_ret (Mem.ret (t := 6) rfl _ rfl hP) rfl ⟨a3, c3, rfl, ?_, ?_⟩
  · refine HO.out.kp (Kp.of_grown hks (S := fun j => j = g1 + 1) (fun j e => (Option.some.inj e).symm)) (fun j hj e => ?_)
    rcases HAT.out with e2 | e2
    · rw [e2] at hj; cases hj
    · rw [e2] at hj
      have := Option.some.inj hj
      have := HLO.out
      omega
  · have hfin := below_setCells (B := w0.heap.size) HB.out (g := g1 + 1) (by have := HG0.out; omega) HB.out.size 0 [.string ⟨person.toArray⟩, .int .i64 num, .int .i64 dp, .int .i64 dy, .slice a3 A.length c3]
    exact hfin
end Go.Proofs.YtpofijdkckaphaaGreatDoor
