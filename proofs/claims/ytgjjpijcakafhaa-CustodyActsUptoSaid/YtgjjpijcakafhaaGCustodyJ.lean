/- Chains of records: the way of a record; the law's sanity check. -/
import Derived.Test.YtgjjpijcakafhaaGCustodyI
import Derived.Test.YtgjjpijcakafhaaGCustodyF
namespace Go.Proofs.Ytgjjpijcakafhaa
open Go.RowKit
set_option maxRecDepth 100000 in
theorem wayTop_walk (a : Option Addr) (l : List Rec) (cap i : Nat) (w : World) (hR : Rd w a (recs l)) (hc : l.length ≤ cap) (hI : ∀ r ∈ l, r.In) (hr : Right l l.length) (hi : i < l.length) :
    Calls Try.prog 33 #[.slice a l.length cap, .int .i64 (i : Int)] w fun e w' => ∃ a' cap', e = .returned (.tuple #[.slice a' (wayF (l.map digF) i).length cap', .int .i64 0]) ∧ Ow w' w.heap.size 1 a' (wayF (l.map digF) i).length cap' (strs (wayF (l.map digF) i)) ∧ Below w.heap.size w w' := by
  have hm := hr.len (Nat.le_refl _)
  obtain ⟨n, hn⟩ : ∃ n, n = l.length := ⟨_, rfl⟩
  have hck := checkF_right hr
  have k1 : Calls Try.prog 7 #[.slice a n cap] w fun e w' => e = .returned (.tuple #[.int .i64 0, .int .i64 0]) ∧ Below w.heap.size w w' := by
    have := ccheck_walk a l cap w hR (by omega) hc hI
    rw [hck] at this; rw [hn]; exact this
  have k2 : ∀ V, Rd V a (recs l) → Calls Try.prog 38 #[.slice a n cap] V fun e w' => ∃ a' cap', e = .returned (.slice a' n cap') ∧ Ow w' V.heap.size 1 a' n cap' (strs (l.map digF)) ∧ Below V.heap.size V w' := fun V h => by
    rw [hn]; exact digests_walk a l cap V h (by omega) (hr.short hI)
  have hdl : (l.map digF).length = n := by rw [List.length_map, hn]
  have k3 : ∀ V a' cap', Rd V a' (strs (l.map digF)) → n ≤ cap' → Calls Try.prog 50 #[.slice a' n cap', .int .i64 (i : Int)] V fun e w' => ∃ b' c', e = .returned (.slice b' (wayF (l.map digF) i).length c') ∧ Ow w' V.heap.size 1 b' (wayF (l.map digF) i).length c' (strs (wayF (l.map digF) i)) ∧ Below V.heap.size V w' := fun V a' cap' h h2 =>
    way_walk n a' (l.map digF) n i cap' V (by omega) hdl.symm h h2 (by omega) (by omega) (dig32 l)
  have K1 := Lib.hid k1
  have K2 := Lib.hid k2
  have K3 := Lib.hid k3
  rw [← hn] at hi hm ⊢
  have d1 : decide ((i : Int) < 0) = false := decide_eq_false (by omega)
  have d2 : decide ((i : Int) ≥ (n : Int)) = false := decide_eq_false (by omega)
  generalize wayF (l.map digF) i = L at *
  clear k1 k2 k3 hck hn hr hI hdl
  go_enter Try.func33, Try.ntmps33
  go_wp2_with (go_at_call 7; (with_reducible refine K1.out.mono ?_))
  rintro e w1 ⟨rfl, hb1⟩
  replace hR := hR.keep hb1
  go_wp2_with (go_at_call 38; (with_reducible refine (K2.out _ hR).mono ?_))
  rintro e w2 ⟨a2, c2, rfl, hO, hb2⟩
  have hcc := hO.2.1
  replace hb1 := hb1.trans (hb2.mono hb1.size)
  go_wp2_with (go_at_call 50; (with_reducible refine (K3.out _ _ _ hO.rd hcc).mono ?_))
  rintro e w3 ⟨a3, c3, rfl, hO3, hb3⟩
  go_wp2
  go_ret2
  exact ⟨a3, c3, rfl, hO3.lower hb1.size, hb1.trans (hb3.mono hb1.size)⟩
theorem part3 : part 3 = 2 := by rw [part, partL_more (by decide) (by decide), partL_end (by decide)]
theorem part2 : part 2 = 1 := by rw [part, partL_end (by decide)]
theorem way3 (a b c : List UInt8) : wayF [a, b, c] 0 = [b, c] := by
  have e3 : part [a, b, c].length = 2 := part3
  have e2 : part [a, b].length = 1 := part2
  have t : [a, b, c].take 2 = [a, b] := rfl
  have d : [a, b, c].drop 2 = [c] := rfl
  have t2 : [a, b].take 1 = [a] := rfl
  have d2 : [a, b].drop 1 = [b] := rfl
  rw [wayF_left (by simp) (by rw [e3]; decide), e3, t, d, wayF_left (by simp) (by rw [e2]; decide), e2, t2, d2, wayF_one (by simp), rootF_one (by simp), rootF_one (by simp)]
  rfl
set_option maxRecDepth 100000 in
set_option maxHeartbeats 1000000 in
theorem awake20_walk (W : World) :
    Calls Try.prog 9 #[] W fun e w' => e = .returned (.bool true) ∧ Below W.heap.size W w' := by
  go_enter Try.func9, Try.ntmps9
  go_wp2_with fail
  have hS : Rd (W.alloc (.cells #[.string ⟨#[97]⟩, .string ⟨#[98]⟩, .string ⟨#[99]⟩] 9)) (some ⟨W.heap.size, 0, none⟩) (strs [[97], [98], [99]]) := Rd.mk fun j u hj => by
    rw [Nat.zero_add, World.cell?_alloc_at _ _ _ _ rfl]; simpa [strs] using hj
  have hB0 := (Below.refl W.heap.size W).alloc (Nat.le_refl _) (.cells #[.string ⟨#[97]⟩, .string ⟨#[98]⟩, .string ⟨#[99]⟩] 9)
  generalize W.alloc (.cells #[.string ⟨#[97]⟩, .string ⟨#[98]⟩, .string ⟨#[99]⟩] 9) = w0 at *
  generalize hg : W.heap.size = g at *
  obtain ⟨ss, hss⟩ : ∃ ss : List (List UInt8), ss = [[97], [98], [99]] := ⟨_, rfl⟩
  rw [← hss] at hS
  have hsl : ss.length = 3 := by rw [hss]; rfl
  have hs1 : ∀ s ∈ ss, s.length = 1 := by rw [hss]; intro s hs; simp at hs; rcases hs with rfl | rfl | rfl <;> rfl
  have HS1 := Lib.hid hs1
  clear hss hs1
  go_loopw [1, 10] (fun v i wr => ∃ (k : Nat) (L : List Rec) (sa : Option Addr) (sc : Nat), k ≤ 3 ∧ i = .int .i64 (k : Int) ∧ v = .slice sa k sc ∧ Ow wr g 5 sa k sc (recs L) ∧ L.length = k ∧ Right L k ∧ (lastF L).2 ≤ 1 ∧ (∀ r ∈ L, r.In) ∧ Rd wr (some ⟨g, 0, none⟩) (strs ss) ∧ Below g W wr) (fun _ i _ => 3 - (intOf i).toNat)
  case atStart => exact ⟨0, [], none, 0, by omega, rfl, rfl, Ow.nil _ _ _, rfl, Right.zero _, by decide, by simp, hS, hB0⟩
  case round =>
    clear hS hB0
    obtain ⟨k, L, sa, sc, hk, rfl, rfl, hO, hL, hRt, hlt, hI, hS, hB⟩ := hrel
    have hcc := hO.2.1
    by_cases hkt : k < 3
    · obtain ⟨g', off, s, he, hcell, hx⟩ := hS.str (k := k) (by omega)
      simp only [Option.some.injEq, Addr.mk.injEq, and_true] at he
      obtain ⟨rfl, rfl⟩ := he
      rw [Nat.zero_add] at hcell
      have hsl1 := HS1.out s (mem_at hx)
      subst hL
      have hA := addF_ok (t := 1) (k := 7) (body := s) hRt (by omega) hlt (by omega) (by omega) (by omega)
      have hsn := hRt.snoc (t := 1) (k := 7) (body := s) (by omega) hlt (by omega) (by omega) (by omega)
      have hAL : addL L 1 7 s = L ++ [⟨L.length, 1, 7, s, (lastF L).1⟩] := by rw [addL, hA, if_pos rfl]
      have k1 : Calls Try.prog 8 #[.slice sa L.length sc, .int .i64 1, .int .i64 7, .string ⟨s.toArray⟩] wr (AddRes wr 0 (L ++ [⟨L.length, 1, 7, s, (lastF L).1⟩])) := by
        have := add_walk' sa L sc 1 7 s wr hO.rd (by omega) hcc hI
        rw [hA, hAL] at this; exact this
      have hI2 : ∀ r ∈ L ++ [⟨L.length, 1, 7, s, (lastF L).1⟩], r.In := by
        intro r hr
        rw [List.mem_append, List.mem_singleton] at hr
        rcases hr with hr | rfl
        · exact hI r hr
        · exact Rec.In.mk (by constructor <;> (dsimp only; omega)) (by constructor <;> (dsimp only; omega)) (by constructor <;> (dsimp only; omega))
      have hls := lastF_snoc L ⟨L.length, 1, 7, s, (lastF L).1⟩
      have hll : (L ++ [(⟨L.length, 1, 7, s, (lastF L).1⟩ : Rec)]).length = L.length + 1 := by rw [List.length_append]; rfl
      have hl2 : (lastF (L ++ [⟨L.length, 1, 7, s, (lastF L).1⟩])).2 ≤ 1 := by rw [hls]; exact Int.le_refl 1
      have K1 := Lib.hid k1
      have HI2 := Lib.hid hI2
      have HSN := Lib.hid hsn
      have HL2 := Lib.hid hl2
      generalize (L ++ [⟨L.length, 1, 7, s, (lastF L).1⟩]) = L2 at *
      obtain ⟨n, hn⟩ : ∃ n, n = L.length := ⟨_, rfl⟩
      rw [← hn] at K1 HSN hll hk hkt hcell ⊢
      clear k1 hI2 hsn hl2 hls hA hAL hI hlt hRt hO hx hcc hn
      have hkl : (n : Int) < 3 := by omega
      have hsz := hB.size
      go_wp2_with (go_at_call 8; (with_reducible refine K1.out.mono ?_))
      rintro e w2 ⟨a2, c2, rfl, hO2, hb2⟩
      have hB2 := hB.trans (hb2.mono (by omega))
      replace hO2 := hO2.lower (show g ≤ wr.heap.size by omega)
      replace hS := hS.keep hb2
      rw [hll] at hO2 ⊢
      clear hb2 K1 hB
      go_wp2
      go_roundw
      case rel => exact ⟨n + 1, L2, a2, c2, by omega, by go_num, rfl, hO2, hll, HSN.out, HL2.out, HI2.out, hS, hB2⟩
      case measure => simp [intOf]; omega
    · obtain rfl : k = 3 := by omega
      obtain ⟨r0, r1, r2, rfl⟩ : ∃ r0 r1 r2, L = [r0, r1, r2] := by
        match L, hL with
        | [a, b, c], _ => exact ⟨a, b, c, rfl⟩
      have hsh := hRt.short hI
      have h1 := hsh r1 (by simp)
      have h2 := hsh r2 (by simp)
      have hm : [r0, r1, r2].map digF = [digF r0, digF r1, digF r2] := rfl
      have k1 : Calls Try.prog 33 #[.slice sa 3 sc, .int .i64 0] wr fun e w' => ∃ a' cap', e = .returned (.tuple #[.slice a' 2 cap', .int .i64 0]) ∧ Ow w' wr.heap.size 1 a' 2 cap' (strs [digF r1, digF r2]) ∧ Below wr.heap.size wr w' := by
        have := wayTop_walk sa [r0, r1, r2] sc 0 wr hO.rd hcc hI hRt (by simp)
        rw [hm, way3] at this; exact this
      have k2 : ∀ V, Calls Try.prog 16 #[.agg #[.int .i64 r1.num, .int .i64 r1.time, .int .i64 r1.kind, .string ⟨r1.body.toArray⟩, .string ⟨r1.before.toArray⟩]] V fun e' w' => e' = .returned (.string ⟨(digF r1).toArray⟩) ∧ Below V.heap.size V w' := fun V => dig_walk r1 V h1.1 h1.2
      have k3 : ∀ V, Calls Try.prog 16 #[.agg #[.int .i64 r2.num, .int .i64 r2.time, .int .i64 r2.kind, .string ⟨r2.body.toArray⟩, .string ⟨r2.before.toArray⟩]] V fun e' w' => e' = .returned (.string ⟨(digF r2).toArray⟩) ∧ Below V.heap.size V w' := fun V => dig_walk r2 V h2.1 h2.2
      have K1 := Lib.hid k1
      have K2 := Lib.hid k2
      have K3 := Lib.hid k3
      have hrd := hO.rd
      have hsz := hB.size
      generalize digF r1 = d1 at *
      generalize digF r2 = d2 at *
      clear k1 k2 k3 h1 h2 hsh hm hRt hlt hI hL hS hO hcc
      go_wp2_with (go_at_call 33; (with_reducible refine K1.out.mono ?_))
      rintro e w2 ⟨a2, c2, rfl, hO2, hb2⟩
      replace hrd := hrd.keep hb2
      replace hB := hB.trans (hb2.mono (by omega))
      clear hb2 K1
      obtain ⟨gA, oA, rA, rfl, hxA, a0, a1, a2', a3, a4⟩ := hrd.rec (k := 1) (by simp)
      obtain rfl : rA = r1 := by have := hxA.out; simp at this; exact this.symm
      obtain ⟨gB, oB, rB, heB, hxB, b0, b1, b2, b3, b4⟩ := hrd.rec (k := 2) (by simp)
      obtain rfl : rB = r2 := by have := hxB.out; simp at this; exact this.symm
      simp only [Option.some.injEq, Addr.mk.injEq, and_true] at heB
      obtain ⟨rfl, rfl⟩ := heB
      obtain ⟨gC, oC, xC, rfl, hcC, hxC⟩ := hO2.rd.str (k := 0) (by simp)
      obtain rfl : xC = d1 := by have := hxC.out; simp at this; exact this.symm
      obtain ⟨gD, oD, xD, heD, hcD, hxD⟩ := hO2.rd.str (k := 1) (by simp)
      obtain rfl : xD = d2 := by have := hxD.out; simp at this; exact this.symm
      simp only [Option.some.injEq, Addr.mk.injEq, and_true] at heD
      obtain ⟨rfl, rfl⟩ := heD
      clear hxA hxB hxC hxD hrd hO2
      simp only [Nat.add_zero, Nat.one_mul, Nat.reduceMul] at a0 a1 a2' a3 a4 b0 b1 b2 b3 b4 hcC hcD
      have A0 := fun d os => cell_regrown a0 d os
      have A1 := fun d os => cell_regrown a1 d os
      have A2 := fun d os => cell_regrown a2' d os
      have A3 := fun d os => cell_regrown a3 d os
      have A4 := fun d os => cell_regrown a4 d os
      have B0 := fun d os => cell_regrown b0 d os
      have B1 := fun d os => cell_regrown b1 d os
      have B2 := fun d os => cell_regrown b2 d os
      have B3 := fun d os => cell_regrown b3 d os
      have B4 := fun d os => cell_regrown b4 d os
      have C0 := fun d os => cell_regrown hcC d os
      have C1 := fun d os => cell_regrown hcD d os
      go_wp2_with fail
      refine wp_region_quiet_below (by kernel_rfl) (by kernel_rfl) ?_
      repeat (go_big_quiet_step (first
        | (go_at_call 16; with_reducible exact Calls.regrown_of (K2.out _))
        | (go_at_call 16; with_reducible exact Calls.regrown_of (K3.out _))))
      refine wpQuiet_nil ?_
      rintro w3 ⟨p2, rfl⟩
      have hb2 := below_regrown w2 p2.d p2.os
      go_wp2
      go_ret
      exact ⟨rfl, hg ▸ hB.trans (hb2.mono (by have := hB.size; omega))⟩
end Go.Proofs.Ytgjjpijcakafhaa
