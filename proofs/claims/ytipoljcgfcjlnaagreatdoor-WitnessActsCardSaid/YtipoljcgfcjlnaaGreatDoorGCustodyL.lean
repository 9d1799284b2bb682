/- Chains of records: a chain with one more record: the reference's. -/
import Derived.Test.YtipoljcgfcjlnaaGreatDoorGCustodyK
import Derived.Test.YtipoljcgfcjlnaaGreatDoorGAppStep
namespace Go.Proofs.YtipoljcgfcjlnaaGreatDoor
open Go.RowKit
theorem Rk.free {w : World} {g : Nat} {r : Rec} (h : Rk w g r) (j : Nat) : w.frozen? ⟨g, j, none⟩ = false := Lib.frozen_of_heap h j
theorem Rk.set4 {w : World} {g : Nat} {r : Rec} (h : Rk w g r) (s : List UInt8) : Rk (w.setCell ⟨g, 4, none⟩ (.string ⟨s.toArray⟩)) g { r with before := s } := by
  have h' : w.heap[g]? = some (.cells #[.int .i64 r.num, .int .i64 r.time, .int .i64 r.kind, .string ⟨r.body.toArray⟩, .string ⟨r.before.toArray⟩] 76 (0, 0)) := h
  simp [Rk, World.setCell, Array.getElem?_modify, h']
theorem grownOne (w : World) (g o : Nat) (v : Value) : w.grownBy (w.setCell ⟨g, o, none⟩ v) (some g) := ⟨rfl, rfl, rfl, by simp, fun k _ hk => heap_setCell_other w ⟨g, o, none⟩ k v (fun e => hk (by simp [e]))⟩
theorem Rk.rd {w : World} {g : Nat} {r : Rec} (h : Rk w g r) : Rd w (some ⟨g, 0, none⟩) (recC r) := Rd.mk fun j u hj => by
  rw [Nat.zero_add, Lib.cell_of_heap h, ← hj]
  match j with
  | 0 => rfl
  | 1 => rfl
  | 2 => rfl
  | 3 => rfl
  | 4 => rfl
  | j + 5 => simp [recC]
theorem Rk.grow {w w' : World} {g : Nat} {r : Rec} {row : Option Nat} (h : Rk w g r) (hg : w.grownBy w' row) (hne : some g ≠ row) : Rk w' g r := (hg.block g h.lt hne).trans h
theorem recC_one (r : Rec) : ∀ u ∈ recC r, u.oneCell' = true := by
  intro u hu
  simp [recC] at hu
  rcases hu with rfl | rfl | rfl | rfl | rfl <;> rfl
theorem below_one' {w w1 : World} (hb : Below w.heap.size w w1) (o : Obj) : Below w.heap.size w (w1.alloc o) := hb.alloc hb.size o
theorem Right.time {l : List Rec} (h : Right l l.length) : 0 ≤ (lastF l).2 := by
  by_cases h0 : l.length = 0
  · rw [lastF_nil h0]; exact Int.le_refl 0
  · have hx : l[l.length - 1]? = some l[l.length - 1] := List.getElem?_eq_getElem (by omega)
    rw [lastF_at hx]
    have := follows_short (h (l.length - 1) _ (by omega) hx)
    exact this.2.2.1
set_option maxRecDepth 100000 in
set_option maxHeartbeats 4000000 in
theorem radd_walk (a : Option Addr) (l : List Rec) (cap : Nat) (t k : Int) (body : List UInt8) (w : World) (hR : Rd w a (recs l)) (hn : l.length ≤ 281474976710656) (hI : ∀ r ∈ l, r.In) :
    Calls Tryz.prog 26 #[.slice a l.length cap, .int .i64 t, .int .i64 k, .string ⟨body.toArray⟩] w (AddRes w (addF l t k body) (addL l t k body)) := by
  obtain ⟨n, hln⟩ : ∃ n, n = l.length := ⟨_, rfl⟩
  obtain ⟨i0, hi0⟩ : ∃ i, i = (checkF l).1 := ⟨_, rfl⟩
  obtain ⟨e0, he0⟩ : ∃ e, e = (checkF l).2 := ⟨_, rfl⟩
  have k1 : Calls Tryz.prog 42 #[.slice a n cap] w fun e w' => e = .returned (.tuple #[.int .i64 i0, .int .i64 e0]) ∧ Below w.heap.size w w' := by
    rw [hln, hi0, he0]; exact rcheck_walk a l cap w hR hn hI
  have K1 := Lib.hid k1
  have HN := Lib.hid hln
  rw [← hln] at hn ⊢
  clear k1 hi0 hln
  go_enter Tryz.func26, Tryz.ntmps26
  go_wp2_with (go_at_call 42; (with_reducible refine K1.out.mono ?_))
  rintro e w1 ⟨rfl, hB⟩
  clear K1
  by_cases h0 : e0 = 0
  rotate_left
  · have hne : (e0 != 0) = true := by rw [bne_iff_ne]; exact h0
    have hA : addF l t k body = e0 := by rw [addF, if_pos (by rw [← he0]; exact h0), he0]
    have hL : addL l t k body = [] := by rw [addL, hA, if_neg h0]
    have HA2 := Lib.hid hA
    have HL2 := Lib.hid hL
    clear hA hL he0
    go_wp2
    go_ret2
    rw [HA2.out, HL2.out]; exact AddRes.no hB
  subst h0
  have hrt := checkF_ok he0.symm
  have hsm := hrt.len (Nat.le_refl _)
  rw [← HN.out] at hsm
  obtain ⟨s, hs⟩ : ∃ s, s = (lastF l).1 := ⟨_, rfl⟩
  obtain ⟨t0, ht0⟩ : ∃ t0, t0 = (lastF l).2 := ⟨_, rfl⟩
  have ht00 : 0 ≤ t0 := by rw [ht0]; exact hrt.time
  have hA0 : addF l t k body = if ¬ (0 ≤ t ∧ t ≤ 1099511627776) ∨ t < t0 then 16 else if ¬ (1 ≤ k ∧ k ≤ 7) then 2 else if 16384 < body.length ∨ 1024 ≤ n then 3 else 0 := by
    rw [addF, if_neg (by rw [← he0]; simp), ht0, HN.out]
  have HA := Lib.hid hA0
  have HS := Lib.hid hs
  have HT := Lib.hid ht0
  replace hR := hR.keep hB
  have hshort := hrt.short hI
  have hbx : Rk (w1.alloc (.cells #[.int .i64 (n : Int), .int .i64 t, .int .i64 k, .string ⟨body.toArray⟩, .string ⟨#[]⟩] 76)) w1.heap.size ⟨(n : Int), t, k, body, []⟩ := heap_alloc_new _ _
  have hb1 := (Below.refl w1.heap.size w1).alloc (Nat.le_refl _) (.cells #[.int .i64 (n : Int), .int .i64 t, .int .i64 k, .string ⟨body.toArray⟩, .string ⟨#[]⟩] 76)
  have hgb : w.heap.size ≤ w1.heap.size := hB.size
  have hRlt : 0 < l.length → ∀ g off, a = some ⟨g, off, none⟩ → g < w1.heap.size := fun h0 g off he => by
    obtain ⟨g', off', x, he', _, c0, _⟩ := hR.rec (k := 0) h0
    rw [he] at he'
    simp only [Option.some.injEq, Addr.mk.injEq, and_true] at he'
    obtain ⟨rfl, rfl⟩ := he'
    exact World.block_lt_of_cell? w1 _ c0
  have HRL := Lib.hid hRlt
  clear hRlt
  replace hR := hR.keep hb1
  replace hB := hB.trans (hb1.mono hB.size)
  have HSH := Lib.hid hshort
  clear hA0 hs ht0 he0 hrt hb1 hI hshort
  go_upto_if 30 with fail
  generalize w1.alloc (.cells #[.int .i64 (n : Int), .int .i64 t, .int .i64 k, .string ⟨body.toArray⟩, .string ⟨#[]⟩] 76) = w2 at *
  generalize w1.heap.size = gb at *
  go_cut [13] (fun y wx => y = .int .i64 t0 ∧ Rk wx gb ⟨(n : Int), t, k, body, s⟩ ∧ Rd wx a (recs l) ∧ Below w.heap.size w wx)
  case first =>
    by_cases hz : n = 0
    · have e1 : s = [] := by rw [HS.out, lastF_nil (by rw [← HN.out]; exact hz)]
      have e2 : t0 = 0 := by rw [HT.out, lastF_nil (by rw [← HN.out]; exact hz)]
      have dz : decide ((n : Int) > 0) = false := decide_eq_false (by omega)
      go_wp2_with fail
      go_meet
      exact ⟨by rw [e2], by rw [e1]; exact hbx, hR, hB⟩
    · obtain ⟨j, hj⟩ : ∃ j, n = j + 1 := ⟨n - 1, by omega⟩
      have hjl : j < l.length := by have := HN.out; omega
      obtain ⟨g, off, x, rfl, hx, c0, c1, c2, c3, c4⟩ := hR.rec (k := j) hjl
      have hx' : l[l.length - 1]? = some x := by rw [← HN.out, hj]; exact hx.out
      have hlf := lastF_at hx'
      have hsx : s = digF x := by rw [HS.out, hlf]
      have htx : x.time = t0 := by rw [HT.out, hlf]
      obtain ⟨hxi, hxb⟩ := HSH.out x (mem_at hx)
      have k2 : ∀ V, Calls Tryz.prog 47 #[.agg #[.int .i64 x.num, .int .i64 t0, .int .i64 x.kind, .string ⟨x.body.toArray⟩, .string ⟨x.before.toArray⟩]] V fun e' w' => e' = .returned (.string ⟨s.toArray⟩) ∧ Below V.heap.size V w' := fun V => by
        rw [hsx, ← htx]; exact rdig_walk x V hxi hxb
      rw [htx] at c1
      have K2 := Lib.hid k2
      have dz : decide ((n : Int) > 0) = true := decide_eq_true (by omega)
      have hgl := hbx.lt
      have hrg : g < w2.heap.size := World.block_lt_of_cell? w2 _ c0
      have hgg : g < gb := HRL.out (by omega) g off rfl
      have hgn1 : g ≠ gb := by omega
      have hgn2 : gb ≠ g := by omega
      subst hj
      clear k2 hsx htx hlf hx' hx hxi hxb
      have q1 : (j : Int) + 1 - 1 = (j : Int) := by omega
      have q2 : (j : Int) < (j : Int) + 1 := by omega
      have q3 : IntKind.i64.wrap (j : Int) = (j : Int) := by rw [IntKind.wrap_i64]; omega
      go_wp2_with fail
      go_region_with ((go_at_call 47; refine (K2.out _).mono ?_; rintro e wD ⟨rfl, hbD⟩; have hbx2 := Rk.keep (w := w2.drew) hbx hbD; have hR2 := Rd.keep (w := w2.drew) hR hbD; have hB2 := (hB.drew).trans (hbD.mono hB.size); have d1 := (hbD.cell (w := w2.drew) hrg).trans c1; have f3 := hbx2.c4; have f4 := hbx2.free 4))
      all_goals (go_wp2_with fail; go_meet)
      all_goals exact ⟨rfl, hbx2.set4 s, hR2.grown (grownOne wD gb 4 _) (fun g' off' he => by simp only [Option.some.injEq, Addr.mk.injEq] at he; simp; omega), hB2.setCell (p := ⟨gb, 4, none⟩) hgb _⟩
  case rest =>
    clear hbx hR hB
    obtain ⟨rfl, hbx, hR, hB⟩ := hcut
    obtain ⟨w3, hw3⟩ : ∃ w3, w3 = wc := ⟨_, rfl⟩
    subst hw3
    clear HSH HT
    have e0 := hbx.c0
    have e1 := hbx.c1
    have e2 := hbx.c2
    have e3 := hbx.c3
    have e4 := hbx.c4
    have hgl := hbx.lt
    by_cases hG : t < t0
    · have d6 : decide (t < t0) = true := decide_eq_true hG
      have hA : addF l t k body = 16 := by rw [HA.out, if_pos (.inr hG)]
      have hL : addL l t k body = [] := by rw [addL, hA, if_neg (by decide)]
      have HA2 := Lib.hid hA
      have HL2 := Lib.hid hL
      clear hA hL
      go_wp2
      go_ret2
      rw [HA2.out, HL2.out]; exact AddRes.no hB
    have d6 : decide (t < t0) = false := decide_eq_false hG
    by_cases hE : t ≤ 1099511627776
    rotate_left
    · have d7 : decide (t > 1099511627776) = true := decide_eq_true (by omega)
      have hA : addF l t k body = 16 := by rw [HA.out, if_pos (.inl (fun h => by have := h.2; omega))]
      have hL : addL l t k body = [] := by rw [addL, hA, if_neg (by decide)]
      have HA2 := Lib.hid hA
      have HL2 := Lib.hid hL
      clear hA hL
      go_wp2
      go_ret2
      rw [HA2.out, HL2.out]; exact AddRes.no hB
    have d7 : decide (t > 1099511627776) = false := decide_eq_false (by omega)
    have hF3 : ¬ (¬ (0 ≤ t ∧ t ≤ 1099511627776) ∨ t < t0) := by omega
    rw [if_neg hF3] at HA
    clear hF3 hE hG
    by_cases hK1 : k < 1
    · have d8 : decide (k < 1) = true := decide_eq_true hK1
      have hA : addF l t k body = 2 := by rw [HA.out, if_pos (by omega)]
      have hL : addL l t k body = [] := by rw [addL, hA, if_neg (by decide)]
      have HA2 := Lib.hid hA
      have HL2 := Lib.hid hL
      clear hA hL
      go_wp2
      go_ret2
      rw [HA2.out, HL2.out]; exact AddRes.no hB
    have d8 : decide (k < 1) = false := decide_eq_false hK1
    by_cases hK7 : k > 7
    · have d9 : decide (k > 7) = true := decide_eq_true hK7
      have hA : addF l t k body = 2 := by rw [HA.out, if_pos (by omega)]
      have hL : addL l t k body = [] := by rw [addL, hA, if_neg (by decide)]
      have HA2 := Lib.hid hA
      have HL2 := Lib.hid hL
      clear hA hL
      go_wp2
      go_ret2
      rw [HA2.out, HL2.out]; exact AddRes.no hB
    have d9 : decide (k > 7) = false := decide_eq_false hK7
    rw [if_neg (show ¬ ¬ (1 ≤ k ∧ k ≤ 7) by omega)] at HA
    clear hK1 hK7
    by_cases hM2 : 16384 < body.length
    · have d10 : decide ((body.length : Int) > 16384) = true := decide_eq_true (by omega)
      have hA : addF l t k body = 3 := by rw [HA.out, if_pos (.inl hM2)]
      have hL : addL l t k body = [] := by rw [addL, hA, if_neg (by decide)]
      have HA2 := Lib.hid hA
      have HL2 := Lib.hid hL
      clear hA hL
      go_wp2
      go_ret2
      rw [HA2.out, HL2.out]; exact AddRes.no hB
    have d10 : decide ((body.length : Int) > 16384) = false := decide_eq_false (by omega)
    by_cases hM3 : 1024 ≤ n
    · have d11 : decide ((n : Int) ≥ 1024) = true := decide_eq_true (by omega)
      have hA : addF l t k body = 3 := by rw [HA.out, if_pos (.inr hM3)]
      have hL : addL l t k body = [] := by rw [addL, hA, if_neg (by decide)]
      have HA2 := Lib.hid hA
      have HL2 := Lib.hid hL
      clear hA hL
      go_wp2
      go_ret2
      rw [HA2.out, HL2.out]; exact AddRes.no hB
    have d11 : decide ((n : Int) ≥ 1024) = false := decide_eq_false (by omega)
    have hA : addF l t k body = 0 := by rw [HA.out, if_neg (by omega)]
    have hL : addL l t k body = l ++ [⟨n, t, k, body, s⟩] := by rw [addL, hA, if_pos rfl, ← HN.out, ← HS.out]
    have HA2 := Lib.hid hA
    have HL2 := Lib.hid hL
    have hrl : (recs l).length = n * 5 := by rw [recs_length, ← HN.out]
    have hby1 : (0 + n) * 56 ≤ 140737488355328 := by omega
    have hby2 : (n + 1) * 56 ≤ 140737488355328 := by omega
    have hone := recs_one l
    have HO1 := Lib.hid hone
    have HRL2 := Lib.hid hrl
    have HR1 : Hid (Rd w3.drew a (recs l)) := Lib.hid hR
    have HR2 : Hid (Rd (w3.alloc (.cells #[.int .i64 (n : Int), .int .i64 t, .int .i64 k, .string ⟨body.toArray⟩, .string ⟨s.toArray⟩] 76)).drew a (recs l)) := Lib.hid (Rd.keep (w := w3) hR ((Below.refl _ _).alloc (Nat.le_refl _) _).drew)
    have HB1 : Hid (Below w.heap.size w w3.drew) := Lib.hid hB.drew
    have HB2 : Hid (Below w.heap.size w (w3.alloc (.cells #[.int .i64 (n : Int), .int .i64 t, .int .i64 k, .string ⟨body.toArray⟩, .string ⟨s.toArray⟩] 76)).drew) := Lib.hid (below_one' hB _).drew
    have HX1 : Hid (Rk w3.drew gb ⟨(n : Int), t, k, body, s⟩) := Lib.hid hbx
    have HS2 : Hid (Rk (w3.alloc (.cells #[.int .i64 (n : Int), .int .i64 t, .int .i64 k, .string ⟨body.toArray⟩, .string ⟨s.toArray⟩] 76)).drew w3.heap.size ⟨(n : Int), t, k, body, s⟩) := Lib.hid (heap_alloc_new w3 _)
    clear hA hL hM2 hM3 HA HRL hone hrl hR hB hbx
    go_wp2_with fail
    go_region_law (first
      | (refine step_apps (w0 := w) (B := w.heap.size) (base := w.heap.size) (sa := none) (n := 0) (cap := 0) (xs := []) rfl _ _ _ _ rfl el_rec rfl (Ow.nil _ _ _) HB1.out (Nat.le_refl _) HB1.out.size rfl (Src.slice Tryz.underlying33 HRL2.out HR1.out HO1.out) hby1 ?_; intro a7 c7 w7 hO7 hB7 hgr7; rw [Nat.zero_add, List.nil_append] at hO7; rw [Nat.zero_add]; have hx7 := HX1.out.grow hgr7 (by simp [rowOf]); have f0 := hx7.c0; have f1 := hx7.c1; have f2 := hx7.c2; have f3 := hx7.c3; have f4 := hx7.c4)
      | (refine step_apps (w0 := w) (B := w.heap.size) (base := w.heap.size) (sa := none) (n := 0) (cap := 0) (xs := []) rfl _ _ _ _ rfl el_rec rfl (Ow.nil _ _ _) HB2.out (Nat.le_refl _) HB2.out.size rfl (Src.slice Tryz.underlying33 HRL2.out HR2.out HO1.out) hby1 ?_; intro a7 c7 w7 hO7 hB7 hgr7; rw [Nat.zero_add, List.nil_append] at hO7; rw [Nat.zero_add]; have hs7 := HS2.out.grow hgr7 (by simp [rowOf]))
      | (refine step_apps (w0 := w) (B := w.heap.size) rfl _ _ _ _ rfl el_rec rfl (hO7.keep ((Below.refl _ _).alloc (Nat.le_refl _) _)) (below_one' hB7 _) (Nat.le_refl _) (below_one' hB7 _).size rfl (Src.slice (m := 1) Tryz.underlying33 (by rfl) (Rk.rd (r := ⟨(n : Int), t, k, body, s⟩) (heap_alloc_new w7 _)) (recC_one _)) hby2 ?_; intro a9 c9 w9 hO9 hB9 _)
      | (refine step_apps (w0 := w) (B := w.heap.size) rfl _ _ _ _ rfl el_rec rfl hO7 hB7 (Nat.le_refl _) hB7.size rfl (Src.slice (m := 1) Tryz.underlying33 (by rfl) hs7.rd (recC_one _)) hby2 ?_; intro a9 c9 w9 hO9 hB9 _))
    all_goals
      go_wp2
      go_ret2
      rw [HA2.out, HL2.out]
      exact ⟨a9, c9, by rw [List.length_append, ← HN.out]; rfl, by rw [List.length_append, ← HN.out, recs_append]; exact hO9, hB9⟩
end Go.Proofs.YtipoljcgfcjlnaaGreatDoor
