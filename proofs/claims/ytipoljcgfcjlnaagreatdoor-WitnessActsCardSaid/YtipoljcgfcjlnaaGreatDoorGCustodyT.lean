/- Chains of records: heads: the reference's. -/
import Derived.Test.YtipoljcgfcjlnaaGreatDoorGCustodyN
namespace Go.Proofs.YtipoljcgfcjlnaaGreatDoor
open Go.RowKit
theorem headF_nil : headF [] = ⟨0, [], [], 0⟩ := by
  have h : (checkF []).2 = 0 := rfl
  have hr : rootF [] = [] := by rw [rootF_one (by simp)]; rfl
  rw [headF, if_pos h]
  show Head.mk 0 [] (rootF []) 0 = _
  rw [hr]
set_option maxRecDepth 100000 in
set_option maxHeartbeats 4000000 in
theorem rhead_walk (a : Option Addr) (l : List Rec) (cap : Nat) (w : World) (hR : Rd w a (recs l)) (hn : l.length ≤ 281474976710656) (hI : ∀ r ∈ l, r.In) :
    Calls Tryz.prog 27 #[.slice a l.length cap] w fun e w' => e = .returned (.tuple #[.agg #[.int .i64 (headF l).count, .string ⟨(headF l).last.toArray⟩, .string ⟨(headF l).root.toArray⟩, .int .i64 (headF l).time], .int .i64 (checkF l).2]) ∧ Below w.heap.size w w' := by
  have hB := (Below.refl w.heap.size w).alloc (Nat.le_refl _) (.cells #[.int .i64 0, .string ⟨#[]⟩, .string ⟨#[]⟩, .int .i64 0] 24)
  have hk : Hk (w.alloc (.cells #[.int .i64 0, .string ⟨#[]⟩, .string ⟨#[]⟩, .int .i64 0] 24)) w.heap.size ⟨0, [], [], 0⟩ := heap_alloc_new w _
  replace hR := hR.keep hB
  obtain ⟨n, hln⟩ : ∃ n, n = l.length := ⟨_, rfl⟩
  obtain ⟨i0, hi0⟩ : ∃ i, i = (checkF l).1 := ⟨_, rfl⟩
  obtain ⟨e0, he0⟩ : ∃ e, e = (checkF l).2 := ⟨_, rfl⟩
  have k1 : Calls Tryz.prog 42 #[.slice a n cap] (w.alloc (.cells #[.int .i64 0, .string ⟨#[]⟩, .string ⟨#[]⟩, .int .i64 0] 24)) fun e w' => e = .returned (.tuple #[.int .i64 i0, .int .i64 e0]) ∧ Below (w.alloc (.cells #[.int .i64 0, .string ⟨#[]⟩, .string ⟨#[]⟩, .int .i64 0] 24)).heap.size (w.alloc (.cells #[.int .i64 0, .string ⟨#[]⟩, .string ⟨#[]⟩, .int .i64 0] 24)) w' := by
    rw [hln, hi0, he0]; exact rcheck_walk a l cap _ hR hn hI
  have K1 := Lib.hid k1
  have HN := Lib.hid hln
  have HE := Lib.hid he0
  rw [← hln] at hn ⊢
  clear k1 hi0 hln
  go_enter Tryz.func27, Tryz.ntmps27
  go_wp2_with (go_at_call 42; (with_reducible refine K1.out.mono ?_))
  rintro e w1 ⟨rfl, hb1⟩
  replace hk := hk.keep hb1
  replace hR := hR.keep hb1
  replace hB := hB.trans (hb1.mono hB.size)
  clear K1 hb1
  obtain ⟨g, hg⟩ : ∃ g, g = w.heap.size := ⟨_, rfl⟩
  have hwg : w.heap.size ≤ g := by omega
  rw [← hg] at hk ⊢
  clear hg
  have c0 := hk.c0
  have c1 := hk.c1
  have c2 := hk.c2
  have c3 := hk.c3
  have f0 := hk.free 0
  have f1 := hk.free 1
  have f2 := hk.free 2
  have f3 := hk.free 3
  by_cases h0 : e0 = 0
  rotate_left
  · have hne : (e0 != 0) = true := by rw [bne_iff_ne]; exact h0
    have hH : headF l = ⟨0, [], [], 0⟩ := by rw [headF, if_neg (by rw [← he0]; exact h0)]
    have HH := Lib.hid hH
    clear hH he0
    go_wp2
    exact bodyPost_ret (Hk.ret (t := 2) (u := 3) rfl _ rfl (hk.store ⟨0, [], [], 0⟩)) rfl ⟨by rw [HH.out, ← HE.out]; rfl, below4 hB hwg _ _ _ _⟩
  subst h0
  by_cases hz : n = 0
  · have hH : headF l = ⟨0, [], [], 0⟩ := by
      rw [show l = [] from List.eq_nil_of_length_eq_zero (by rw [← HN.out]; exact hz)]
      exact headF_nil
    have HH := Lib.hid hH
    subst hz
    clear hH he0
    go_wp2
    exact bodyPost_ret (Hk.ret (t := 2) (u := 3) rfl _ rfl (hk.store ⟨0, [], [], 0⟩)) rfl ⟨by rw [HH.out, ← HE.out]; rfl, below4 hB hwg _ _ _ _⟩
  have hrt := checkF_ok he0.symm
  have hsm := hrt.len (Nat.le_refl _)
  rw [← HN.out] at hsm
  obtain ⟨j, hj⟩ : ∃ j, n = j + 1 := ⟨n - 1, by omega⟩
  obtain ⟨ga, off, x, rfl, hx, d0, d1, d2, d3, d4⟩ := hR.rec (k := j) (by rw [← HN.out]; omega)
  have hlf := lastF_at (l := l) (r := x) (by rw [← HN.out, hj]; exact hx.out)
  have hxs := hrt.short hI x (mem_at hx)
  obtain ⟨rt, hrtF⟩ : ∃ rt, rt = rootF (l.map digF) := ⟨_, rfl⟩
  have hH : headF l = ⟨(n : Int), digF x, rt, x.time⟩ := by rw [headF, if_pos he0.symm, hlf, hrtF, HN.out]
  have HH := Lib.hid hH
  have k2 : ∀ V, Calls Tryz.prog 47 #[.agg #[.int .i64 x.num, .int .i64 x.time, .int .i64 x.kind, .string ⟨x.body.toArray⟩, .string ⟨x.before.toArray⟩]] V fun e' w' => e' = .returned (.string ⟨(digF x).toArray⟩) ∧ Below V.heap.size V w' := fun V => rdig_walk x V hxs.1 hxs.2
  have k3 : ∀ V, Rd V (some ⟨ga, off, none⟩) (recs l) → Calls Tryz.prog 49 #[.slice (some ⟨ga, off, none⟩) n cap] V fun e w' => ∃ a' cap', e = .returned (.slice a' n cap') ∧ Ow w' V.heap.size 1 a' n cap' (strs (l.map digF)) ∧ Below V.heap.size V w' := fun V h => by
    rw [HN.out]; exact rdigests_walk _ l cap V h (by rw [← HN.out]; omega) (hrt.short hI)
  have k4 : ∀ V a' cap', Rd V a' (strs (l.map digF)) → n ≤ cap' → Calls Tryz.prog 48 #[.slice a' n cap'] V fun e w' => e = .returned (.string ⟨rt.toArray⟩) ∧ Below V.heap.size V w' := fun V a' cap' h h2 => by
    rw [hrtF]; exact rroot_walk n a' (l.map digF) n cap' V (by rw [List.length_map, ← HN.out]; omega) (by rw [List.length_map, ← HN.out]) h h2 (by omega) (dig32 l)
  have K2 := Lib.hid k2
  have K3 := Lib.hid k3
  have K4 := Lib.hid k4
  generalize digF x = dg at *
  have hb1 := (Below.refl w1.heap.size w1).alloc (Nat.le_refl _) (.cells #[.int .i64 x.num, .int .i64 x.time, .int .i64 x.kind, .string ⟨x.body.toArray⟩, .string ⟨x.before.toArray⟩] 76)
  have hbx := Rk.new w1 x
  have hgl := hk.lt
  subst hj
  clear k2 k3 k4 hH hrtF hrt hI hx hxs hlf he0
  go_wp2_with fail
  replace hk := hk.keep hb1
  replace hR := hR.keep hb1
  replace hB := hB.trans (hb1.mono hB.size)
  generalize w1.alloc (.cells #[.int .i64 x.num, .int .i64 x.time, .int .i64 x.kind, .string ⟨x.body.toArray⟩, .string ⟨x.before.toArray⟩] 76) = w2 at *
  clear hb1 c0 c1 c2 c3 f0 f1 f2 f3 d0 d1 d2 d3 d4
  generalize w1.heap.size = gx at *
  have hgx1 : g ≠ gx := by omega
  have hgx2 : gx ≠ g := by omega
  have x0 := hbx.c0
  have x1 := hbx.c1
  have x2 := hbx.c2
  have x3 := hbx.c3
  have x4 := hbx.c4
  replace hk : Hk w2.drew g ⟨0, [], [], 0⟩ := hk
  replace hR : Rd w2.drew (some ⟨ga, off, none⟩) (recs l) := hR
  replace hbx : Rk w2.drew gx x := hbx
  replace hB : Below w.heap.size w w2.drew := hB.drew
  go_cut [3] (fun y wx => y = .int .i64 0 ∧ Hk wx g ⟨((j + 1 : Nat) : Int), dg, rt, x.time⟩ ∧ Below w.heap.size w wx)
  case first =>
    go_region_with (first
      | (go_at_call 47; (with_reducible refine (K2.out _).mono ?_); rintro e wD ⟨rfl, hbD⟩; replace hk := hk.keep hbD; replace hR := hR.keep hbD; replace hbx := hbx.keep hbD; replace hB := hB.trans (hbD.mono hB.size); have y1 := hbx.c1; have y0 := hbx.c0; have y2 := hbx.c2; have y3 := hbx.c3; have y4 := hbx.c4; have z0 := hk.c0; have z1 := hk.c1; have z2 := hk.c2; have z3 := hk.c3; have v0 := hk.free 0; have v1 := hk.free 1; have v2 := hk.free 2; have v3 := hk.free 3)
      | (go_at_call 49; (with_reducible refine (K3.out _ hR).mono ?_); rintro e wE ⟨aE, cE, rfl, hO, hbE⟩; have hcc := hO.2.1; have hOr := hO.rd; replace hk := hk.keep hbE; replace hR := hR.keep hbE; replace hbx := hbx.keep hbE; replace hB := hB.trans (hbE.mono hB.size); have u1 := hbx.c1; have u0 := hbx.c0; have u2 := hbx.c2; have u3 := hbx.c3; have u4 := hbx.c4; have s0 := hk.c0; have s1 := hk.c1; have s2 := hk.c2; have s3 := hk.c3; have t0 := hk.free 0; have t1 := hk.free 1; have t2 := hk.free 2; have t3 := hk.free 3)
      | (go_at_call 48; (with_reducible refine (K4.out _ _ _ hOr hcc).mono ?_); rintro e wF ⟨rfl, hbF⟩; replace hk := hk.keep hbF; replace hR := hR.keep hbF; replace hbx := hbx.keep hbF; replace hB := hB.trans (hbF.mono hB.size); have p1 := hbx.c1; have p0 := hbx.c0; have p2 := hbx.c2; have p3 := hbx.c3; have p4 := hbx.c4; have q0 := hk.c0; have q1 := hk.c1; have q2 := hk.c2; have q3 := hk.c3; have o0 := hk.free 0; have o1 := hk.free 1; have o2 := hk.free 2; have o3 := hk.free 3))
    all_goals (go_wp2_with fail; go_meet)
    all_goals exact ⟨rfl, hk.store ⟨((j + 1 : Nat) : Int), dg, rt, x.time⟩, below4 hB hwg _ _ _ _⟩
  case rest =>
    clear hk hR hbx hB
    obtain ⟨rfl, hk, hB⟩ := hcut
    go_wp2_with fail
    exact bodyPost_ret (Hk.ret (t := 2) (u := 3) rfl _ rfl hk) rfl ⟨by rw [HH.out, ← HE.out]; rfl, hB⟩
end Go.Proofs.YtipoljcgfcjlnaaGreatDoor
