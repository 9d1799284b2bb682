/- The kit's odd records: something is changed. -/
import Derived.Test.YtgjjpijcakafhaaGCustodyV
namespace Go.Proofs.Ytgjjpijcakafhaa
open Go.RowKit
set_option maxRecDepth 100000 in
set_option maxHeartbeats 4000000 in
theorem odd_walk0 (W : World) (db : Nat) (p : Option Addr) (l : List Int) (cap q : Nat) (r : Rec) (w : World) (hE : Env W w db p l cap q) (hR : Rd W p (ints l)) (hdb : W.heap.size ≤ db) (hlen : l.length ≤ 281474976710656) (hI : r.In) (hn : -4611686018427387904 ≤ r.num ∧ r.num ≤ 4611686018427387904) (ht : -4611686018427387904 ≤ r.time ∧ r.time ≤ 4611686018427387904) (hk : 0 ≤ r.kind ∧ r.kind ≤ 100) (hx : dnum l q 6 = 0) :
    Calls Try.prog 17 #[.pointer (some ⟨db, 0, none⟩), .agg #[.int .i64 r.num, .int .i64 r.time, .int .i64 r.kind, .string ⟨r.body.toArray⟩, .string ⟨r.before.toArray⟩]] w (OddPost W w db p l cap r) := by
  have hne := rd_ne hR hdb
  have HNE := Lib.hid hne
  have HRW := Lib.hid hR
  have HI := Lib.hid hI
  have hwl := hE.dice.lt
  have hO : Od W w ((w.alloc (.cells #[.int .i64 r.num, .int .i64 r.time, .int .i64 r.kind, .string ⟨r.body.toArray⟩, .string ⟨r.before.toArray⟩] 24)).alloc (.cells #[.int .i64 0, .int .i64 0, .int .i64 0, .string ⟨#[]⟩, .string ⟨#[]⟩] 24)) db p l cap q w.heap.size (w.heap.size + 1) r := by
    have h1 := (Below.refl w.heap.size w).alloc (Nat.le_refl _) (.cells #[.int .i64 r.num, .int .i64 r.time, .int .i64 r.kind, .string ⟨r.body.toArray⟩, .string ⟨r.before.toArray⟩] 24)
    have h2 := h1.alloc (by simp) (.cells #[.int .i64 0, .int .i64 0, .int .i64 0, .string ⟨#[]⟩, .string ⟨#[]⟩] 24)
    refine ⟨hE.keep h2, Rk.keep (Rk.new w r) ((Below.refl _ _).alloc (Nat.le_refl _) _), ?_, below_grownBy h2 _, Nat.le_refl _, by omega, by omega⟩
    have h3 := heap_alloc_new (w.alloc (.cells #[.int .i64 r.num, .int .i64 r.time, .int .i64 r.kind, .string ⟨r.body.toArray⟩, .string ⟨r.before.toArray⟩] 24)) (.cells #[.int .i64 0, .int .i64 0, .int .i64 0, .string ⟨#[]⟩, .string ⟨#[]⟩] 24)
    rw [World.size_alloc] at h3
    exact h3
  clear hne hR hI hE
  go_enter Try.func17, Try.ntmps17
  go_wp2_with (go_at_call 13; (with_reducible refine (next_walk db p l cap q 6 _ hO.env.dice hO.env.rd HNE.out hlen (by omega) (by omega)).mono ?_))
  rintro e w1 ⟨rfl, hD1, hg1⟩
  replace hO := hO.next HNE.out hdb hwl hD1 hg1
  have a1 := dnum_lo l q (n := 6) (by omega)
  have a2 := dnum_hi l q (n := 6) (by omega)
  have HX := Lib.hid hx
  clear hx
  have hx := HX.out
  clear HX
  generalize dnum l q 6 = x6 at *
  generalize dnxt l q = q1 at *
  clear hD1 hg1
  obtain ⟨gb, hgb⟩ : ∃ gb, gb = w.heap.size := ⟨_, rfl⟩
  rw [← hgb] at hO ⊢
  obtain ⟨gr, hgr⟩ : ∃ gr, gr = gb + 1 := ⟨_, rfl⟩
  rw [← hgr] at hO ⊢
  clear hgb hgr
  have c0 := hO.rk.c0
  have c1 := hO.rk.c1
  have c2 := hO.rk.c2
  have c3 := hO.rk.c3
  have c4 := hO.rk.c4
  have f0 := hO.rk.free 0
  have f1 := hO.rk.free 1
  have f2 := hO.rk.free 2
  have f3 := hO.rk.free 3
  have f4 := hO.rk.free 4
  have z0 := hO.rz.c0
  have z1 := hO.rz.c1
  have z2 := hO.rz.c2
  have z3 := hO.rz.c3
  have z4 := hO.rz.c4
  have y0 := hO.rz.free 0
  have y1 := hO.rz.free 1
  have y2 := hO.rz.free 2
  have y3 := hO.rz.free 3
  have y4 := hO.rz.free 4
  have hne1 : gb ≠ gr := hO.hne
  have hne2 : gr ≠ gb := fun e => hne1 e.symm
  subst hx
  have b1 := dnum_lo l q1 (n := 3) (by omega)
  have b2 := dnum_hi l q1 (n := 3) (by omega)
  obtain ⟨j, hj⟩ : ∃ j : Nat, dnum l q1 3 = (j : Int) := ⟨(dnum l q1 3).toNat, by omega⟩
  have hjk : j < 3 := by omega
  have HJ := Lib.hid hj
  obtain ⟨hn1, hn2⟩ := hn
  obtain ⟨ht1, ht2⟩ := ht
  obtain ⟨hk1, hk2⟩ := hk
  have w0 : IntKind.i64.wrap (r.num + 1) = r.num + 1 := by rw [IntKind.wrap_i64]; omega
  have w1' : IntKind.i64.wrap (r.num + -1) = r.num + -1 := by rw [IntKind.wrap_i64]; omega
  have w2' : IntKind.i64.wrap (r.num + 1099511627776) = r.num + 1099511627776 := by rw [IntKind.wrap_i64]; omega
  have hO1 := hO.keep (show Below w1.heap.size w1 w1.drew from (Below.refl _ _).drew)
  have hO2 := hO.keep (show Below w1.heap.size w1 (w1.alloc (.cells #[.int .i64 (1), .int .i64 (-1), .int .i64 (1099511627776)] 3)).drew from ((Below.refl _ _).alloc (Nat.le_refl _) _).drew)
  have hdl := hO.env.dice.lt
  have hgl := hO.rk.lt
  clear b1 b2 hj y0 y1 y2 y3 y4 z0 z1 z2 z3 z4
  go_wp2_with fail
  refine cut_last (fun KL hKL => ?_)
  go_cut [] (fun wr => ∃ (q' : Nat) (n : Int), -9223372036854775808 ≤ n ∧ n ≤ 9223372036854775807 ∧ Od W w wr db p l cap q' gb gr { r with num := n })
  case first =>
    clear c1 f1 c2 f2 c3 f3 c4 f4 hne1 hne2
    rcases (show j = 0 ∨ j = 1 ∨ j = 2 by omega) with rfl | rfl | rfl
    · go_region_with ((go_at_call 13; refine (next_walk db p l cap q1 3 _ (by first | exact hO1.env.dice | exact hO2.env.dice) (by first | exact hO1.env.rd | exact hO2.env.rd) HNE.out hlen (by omega) (by omega)).mono ?_; rintro e wN ⟨rfl, hDN, hgN⟩; rw [HJ.out]; (first | (have hON := hO1.next HNE.out hdb hwl hDN hgN) | (have hON := hO2.next HNE.out hdb hwl hDN hgN; have s0 := hgN.cell (a := ⟨w1.heap.size, 0, none⟩) (v := .int .i64 (1)) (by simp [World.cell?_alloc_at]) (by simp; omega); have s1 := hgN.cell (a := ⟨w1.heap.size, 1, none⟩) (v := .int .i64 (-1)) (by simp [World.cell?_alloc_at]) (by simp; omega); have s2 := hgN.cell (a := ⟨w1.heap.size, 2, none⟩) (v := .int .i64 (1099511627776)) (by simp [World.cell?_alloc_at]) (by simp; omega))); clear hDN hgN; have d0 := hON.rk.c0; have e0 := hON.rk.free 0; have hgl2 := hON.rk.lt))
      all_goals (go_wp2_with fail; go_meet)
      all_goals
        case rel =>
          first
            | (have _ := s0; have hOM := hON.turn HRW.out hdb hwl 0 (.int .i64 (r.num + 1)) (hON.rk.set0 (r.num + 1)); exact ⟨_, _, by omega, by omega, hOM⟩)
            | (have hOM := (hON.turn HRW.out hdb hwl 0 (.int .i64 (r.num + 1)) (hON.rk.set0 (r.num + 1))).keep ((Below.refl _ _).alloc (Nat.le_refl _) (.cells #[.int .i64 (1), .int .i64 (-1), .int .i64 (1099511627776)] 3)); exact ⟨_, _, by omega, by omega, hOM⟩)
    · go_region_with ((go_at_call 13; refine (next_walk db p l cap q1 3 _ (by first | exact hO1.env.dice | exact hO2.env.dice) (by first | exact hO1.env.rd | exact hO2.env.rd) HNE.out hlen (by omega) (by omega)).mono ?_; rintro e wN ⟨rfl, hDN, hgN⟩; rw [HJ.out]; (first | (have hON := hO1.next HNE.out hdb hwl hDN hgN) | (have hON := hO2.next HNE.out hdb hwl hDN hgN; have s0 := hgN.cell (a := ⟨w1.heap.size, 0, none⟩) (v := .int .i64 (1)) (by simp [World.cell?_alloc_at]) (by simp; omega); have s1 := hgN.cell (a := ⟨w1.heap.size, 1, none⟩) (v := .int .i64 (-1)) (by simp [World.cell?_alloc_at]) (by simp; omega); have s2 := hgN.cell (a := ⟨w1.heap.size, 2, none⟩) (v := .int .i64 (1099511627776)) (by simp [World.cell?_alloc_at]) (by simp; omega))); clear hDN hgN; have d0 := hON.rk.c0; have e0 := hON.rk.free 0; have hgl2 := hON.rk.lt))
      all_goals (go_wp2_with fail; go_meet)
      all_goals
        case rel =>
          first
            | (have _ := s0; have hOM := hON.turn HRW.out hdb hwl 0 (.int .i64 (r.num + -1)) (hON.rk.set0 (r.num + -1)); exact ⟨_, _, by omega, by omega, hOM⟩)
            | (have hOM := (hON.turn HRW.out hdb hwl 0 (.int .i64 (r.num + -1)) (hON.rk.set0 (r.num + -1))).keep ((Below.refl _ _).alloc (Nat.le_refl _) (.cells #[.int .i64 (1), .int .i64 (-1), .int .i64 (1099511627776)] 3)); exact ⟨_, _, by omega, by omega, hOM⟩)
    · go_region_with ((go_at_call 13; refine (next_walk db p l cap q1 3 _ (by first | exact hO1.env.dice | exact hO2.env.dice) (by first | exact hO1.env.rd | exact hO2.env.rd) HNE.out hlen (by omega) (by omega)).mono ?_; rintro e wN ⟨rfl, hDN, hgN⟩; rw [HJ.out]; (first | (have hON := hO1.next HNE.out hdb hwl hDN hgN) | (have hON := hO2.next HNE.out hdb hwl hDN hgN; have s0 := hgN.cell (a := ⟨w1.heap.size, 0, none⟩) (v := .int .i64 (1)) (by simp [World.cell?_alloc_at]) (by simp; omega); have s1 := hgN.cell (a := ⟨w1.heap.size, 1, none⟩) (v := .int .i64 (-1)) (by simp [World.cell?_alloc_at]) (by simp; omega); have s2 := hgN.cell (a := ⟨w1.heap.size, 2, none⟩) (v := .int .i64 (1099511627776)) (by simp [World.cell?_alloc_at]) (by simp; omega))); clear hDN hgN; have d0 := hON.rk.c0; have e0 := hON.rk.free 0; have hgl2 := hON.rk.lt))
      all_goals (go_wp2_with fail; go_meet)
      all_goals
        case rel =>
          first
            | (have _ := s0; have hOM := hON.turn HRW.out hdb hwl 0 (.int .i64 (r.num + 1099511627776)) (hON.rk.set0 (r.num + 1099511627776)); exact ⟨_, _, by omega, by omega, hOM⟩)
            | (have hOM := (hON.turn HRW.out hdb hwl 0 (.int .i64 (r.num + 1099511627776)) (hON.rk.set0 (r.num + 1099511627776))).keep ((Below.refl _ _).alloc (Nat.le_refl _) (.cells #[.int .i64 (1), .int .i64 (-1), .int .i64 (1099511627776)] 3)); exact ⟨_, _, by omega, by omega, hOM⟩)
  case rest =>
    obtain ⟨q', n, hn1, hn2, hX⟩ := hcut
    refine hKL.out _ _ ?_
    have c0 := hX.rk.c0
    have c1 := hX.rk.c1
    have c2 := hX.rk.c2
    have c3 := hX.rk.c3
    have c4 := hX.rk.c4
    have z0 := hX.rz.c0
    have z1 := hX.rz.c1
    have z2 := hX.rz.c2
    have z3 := hX.rz.c3
    have z4 := hX.rz.c4
    have y0 := hX.rz.free 0
    have y1 := hX.rz.free 1
    have y2 := hX.rz.free 2
    have y3 := hX.rz.free 3
    have y4 := hX.rz.free 4
    go_wp2_with fail
    refine bodyPost_ret (Rk.ret (t := 4) rfl _ rfl (hX.rz.store { r with num := n })) rfl (OddPost.intro { r with num := n } q' rfl (Ok.num HI.out hn1 hn2) ?_ ?_)
    · exact (hX.fin HRW.out hdb hwl _ _ _ _ _).1
    · exact (hX.fin HRW.out hdb hwl _ _ _ _ _).2
end Go.Proofs.Ytgjjpijcakafhaa
