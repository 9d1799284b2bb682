/- Rolls: people struck off a list (slices.DeleteFunc at the closure of Leave). -/
import Derived.Test.YtnahkfchcminpaaGreatDoorGEnrC
import Derived.Test.YtnahkfchcminpaaGreatDoorGEnrH
import Derived.Test.YtnahkfchcminpaaGreatDoorGEnrD
import Derived.Test.YtnahkfchcminpaaGreatDoorGEnrB
namespace Go.Proofs.YtnahkfchcminpaaGreatDoor
open Go.RowKit
theorem zero_rows (n : Nat) : (Builtin.zeroCells #[Value.int .i64 0, .int .i64 0, .int .i64 0] n).toList = rowsC prC (List.replicate n Prs.zero) := by
  have h1 : ∀ v ∈ rowsC prC (List.replicate n Prs.zero), v = Value.int .i64 0 := fun v hv => by
    obtain ⟨x, hx, hv⟩ := List.mem_flatMap.1 hv
    rw [List.eq_of_mem_replicate hx] at hv
    simpa [prC, Prs.zero] using hv
  have h2 : ∀ v ∈ (Builtin.zeroCells #[Value.int .i64 0, .int .i64 0, .int .i64 0] n).toList, v = Value.int .i64 0 := fun v hv => by
    obtain ⟨i, hi, rfl⟩ := List.getElem_of_mem hv
    simp [Builtin.zeroCells]
    have : i % 3 = 0 ∨ i % 3 = 1 ∨ i % 3 = 2 := by omega
    rcases this with h | h | h <;> simp [h]
  rw [List.eq_replicate_of_mem h1, List.eq_replicate_of_mem h2, rowsC_length prC_len, List.length_replicate]
  congr 1
  simp [Builtin.zeroCells]
theorem run_clear_prs (w : World) (ty : TypeId) (b o n c : Nat) (hn : 0 < n) (hc : ∀ j, j < n * 3 → (w.cell? ⟨b, o + j, none⟩).isSome = true) (hf : ∀ j, j < n * 3 → w.frozen? ⟨b, o + j, none⟩ = false) :
    (Builtin.clear_ #[28] ty #[.slice (some ⟨b, o, none⟩) n c]).run Tryz.prog w = .ok (.tuple #[]) (w.setCells b o (rowsC prC (List.replicate n Prs.zero))) := by
  have hl : (rowsC prC (List.replicate n Prs.zero)).length = n * 3 := by rw [rowsC_length prC_len, List.length_replicate]
  have hst := run_storeCells_cells (P := Tryz.prog) b o (rowsC prC (List.replicate n Prs.zero)) 0 w (by rw [hl]; simpa using hc) (by rw [hl]; simpa using hf) (rowsC_one prC_one _)
  simp only [Nat.add_zero] at hst
  have hv : ∀ w, (zeroValue 43).run Tryz.prog w = .ok (.agg #[.int .i64 0, .int .i64 0, .int .i64 0]) w := fun w => by kernel_rfl
  have hz : (Builtin.zeroCells (Value.agg #[.int .i64 0, .int .i64 0, .int .i64 0]).cells n).toList = rowsC prC (List.replicate n Prs.zero) := zero_rows n
  obtain ⟨m, rfl⟩ : ∃ m, n = m + 1 := ⟨n - 1, by omega⟩
  simp [Builtin.clear_, run_underlying Tryz.underlying28, hv, hz, hst]
theorem set_take {l X : List Prs} {m q : Nat} {r : Prs} {z : Int} (hm : m < q) (hq : q ≤ X.length) (h : X.take m = (l.take q).filter (fun r => r.id != z)) (hr : Hid (l[q]? = some r)) (hz : r.id ≠ z) : (X.set m r).take (m + 1) = (l.take (q + 1)).filter (fun r => r.id != z) := by
  rw [filter_at hr, if_neg hz, ← h, List.take_add_one, List.take_set_of_le (Nat.le_refl m), List.getElem?_set_self (by omega)]
  rfl
theorem Ow.takeRd {w : World} {base g off n cap m : Nat} {X : List Prs} {ys : List Value} (h : Ow w base 3 (some ⟨g, off, none⟩) n cap (rowsC prC X)) : Rd (w.setCells g (off + m * 3) ys) (some ⟨g, off, none⟩) (rowsC prC (X.take m)) := Rd.mk fun j u hj => by
  have hl := (List.getElem?_eq_some_iff.1 hj).1
  rw [rowsC_length prC_len, List.length_take] at hl
  rw [rowsC_take prC_len, List.getElem?_take] at hj
  split at hj
  · next h1 => rw [cell_stay (.inl (by omega))]; exact h.both.1 j u hj
  · cases hj
set_option maxRecDepth 100000 in
set_option maxHeartbeats 4000000 in
theorem edel_walk (base ga off : Nat) (l : List Prs) (cap : Nat) (z : Int) (g : Nat) (w : World) (hX : Bx w g 3 [.int .i64 z]) (hg : g < base) (hO : Ow w base 3 (some ⟨ga, off, none⟩) l.length cap (rowsC prC l)) (hl : l.length ≤ 1000000) (k : Nat) (r0 : Prs) (hk : idxP (fun r => r.id == z) l = (k : Int)) (hkl : l[k]? = some r0) (hkz : r0.id = z) (hlo : ∀ (j : Nat) (r : Prs), j < k → l[j]? = some r → r.id ≠ z) :
    Calls Tryz.prog 47 #[.slice (some ⟨ga, off, none⟩) l.length cap, .func (.func 48) #[] #[.pointer (some ⟨g, 0, none⟩)]] w fun e w' => ∃ m, e = .returned (.slice (some ⟨ga, off, none⟩) m cap) ∧ m = (l.filter fun r => r.id != z).length ∧ m ≤ cap ∧ Rd w' (some ⟨ga, off, none⟩) (rowsC prC (l.filter fun r => r.id != z)) ∧ w.grownBy w' (some ga) := by
  have hk1 : k < l.length := (List.getElem?_eq_some_iff.1 hkl).1
  have K1 := Lib.hid (eleave1_idx (some ⟨ga, off, none⟩) l cap z g w hX hO.rd (by omega))
  rw [hk] at K1
  have hga : base ≤ ga ∧ ga < w.heap.size := hO.row ga rfl
  have hcap := hO.2.1
  have ht0 : Hid (l.take k = (l.take (k + 1)).filter (fun r => r.id != z)) := Lib.hid (by
    rw [filter_at (Lib.hid hkl), if_pos hkz, List.append_nil]
    refine (List.filter_eq_self.2 fun x hx => ?_).symm
    obtain ⟨j, hj, e⟩ := List.getElem_of_mem hx
    rw [List.length_take] at hj
    rw [List.getElem_take] at e
    have := hlo j x (by omega) (by rw [← e]; exact List.getElem?_eq_getElem (by omega))
    simpa using this)
  have hkn : ((k : Int) == -1) = false := by rw [beq_eq_false_iff_ne]; omega
  have HX := Lib.hid hX
  have HO := Lib.hid hO
  clear hX hO hk hkl hkz hlo
  go_enter Tryz.func47, Tryz.ntmps47
  go_wp2_with (go_at_call 55; (with_reducible refine K1.out.mono ?_))
  rintro e w1 ⟨rfl, hb1⟩
  have hX1 := HX.out.keep hb1
  have hO1 := HO.out.keep hb1
  have hG1 := below_grownBy hb1 (some ga)
  have hs1 := hb1.size
  clear K1 HX HO hb1
  go_wp2_with fail
  go_loopw [5, 6] (fun i j wr => ∃ (m q : Nat) (X : List Prs), m < q ∧ q ≤ l.length ∧ i = .int .i64 (m : Int) ∧ j = .int .i64 (q : Int) ∧ X.length = l.length ∧ Hid (X.take m = (l.take q).filter (fun r => r.id != z)) ∧ Hid (X.drop q = l.drop q) ∧ Ow wr base 3 (some ⟨ga, off, none⟩) l.length cap (rowsC prC X) ∧ Bx wr g 3 [.int .i64 z] ∧ w.grownBy wr (some ga)) (fun _ j _ => l.length - (intOf j).toNat)
  case atStart => exact ⟨k, k + 1, l, by omega, by omega, rfl, by go_num, rfl, ht0, Lib.hid rfl, hO1, hX1, hG1⟩
  case round =>
    clear hX1 hO1 hG1 ht0
    obtain ⟨m, q, X, hmq, hql, rfl, rfl, hXl, hT, hDr, hO, hZ, hG⟩ := hrel
    by_cases hq : q < l.length
    rotate_left
    · have hqi : ¬ ((q : Int) < (l.length : Int)) := by omega
      obtain rfl : q = l.length := by omega
      rw [List.take_length] at hT
      have hlen : m = (l.filter fun r => r.id != z).length := by rw [← hT.out, List.length_take]; omega
      have HL := Lib.hid hlen
      have s1 := fun V => slice_from (P := Tryz.prog) (size := 3) Tryz.underlying28 (fun _ => by kernel_rfl) (some ⟨ga, off, none⟩) l.length cap m (by omega) V
      have s2 := fun V => slice_to (P := Tryz.prog) (size := 3) Tryz.underlying28 (fun _ => by kernel_rfl) (some ⟨ga, off, none⟩) l.length cap m (by omega) V
      rw [show sfrom (some ⟨ga, off, none⟩) 3 m cap = some ⟨ga, off + m * 3, none⟩ by rw [sfrom, if_neg (by omega), Option.map_some, Addr.add_lit]] at s1
      have e4 : l.length * 3 ≤ cap * 3 := Nat.mul_le_mul_right 3 hcap
      have hcl := run_clear_prs wr 0 ga (off + m * 3) (l.length - m) (cap - m) (by omega) (fun j hj => by rw [Nat.add_assoc]; exact (hO.both.2 _ (by omega)).1) (fun j hj => by rw [Nat.add_assoc]; exact (hO.both.2 _ (by omega)).2)
      have hRd := hO.takeRd (m := m) (ys := rowsC prC (List.replicate (l.length - m) Prs.zero))
      rw [hT.out] at hRd
      have hGG := grown_tr hG (grownBy_setCells wr ga (off + m * 3) (rowsC prC (List.replicate (l.length - m) Prs.zero)))
      clear hT hDr hO hZ hG hlen
      generalize rowsC prC (List.replicate (l.length - m) Prs.zero) = ys at *
      go_wp2
      go_ret
      exact ⟨m, rfl, HL.out, by omega, hRd, hGG⟩
    have hqi : (q : Int) < (l.length : Int) := by omega
    obtain ⟨ga', off', r, hga', hr, d0, d1, d2⟩ := hO.rd.prs (k := q) (by omega)
    cases hga'
    have hrl : Hid (l[q]? = some r) := Lib.hid (by
      have h1 : (X.drop q)[0]? = (l.drop q)[0]? := by rw [hDr.out]
      rw [List.getElem?_drop, List.getElem?_drop, Nat.add_zero] at h1
      rw [← h1]; exact hr.out)
    have hb1 := (Below.refl wr.heap.size wr).alloc (Nat.le_refl _) (.cells #[.int .i64 r.id, .int .i64 r.key, .int .i64 r.dep] 43)
    have hbx := Bx.new wr 43 (prC r)
    replace hO := hO.keep hb1
    replace hZ := hZ.keep hb1
    have hwr := hG.size
    replace hG := grown_tr hG (below_grownBy hb1 (some ga))
    go_upto_region 8 with (fail)
    change Bx (wr.alloc (.cells #[.int .i64 r.id, .int .i64 r.key, .int .i64 r.dep] 43)) _ _ _ at hbx
    generalize wr.alloc (.cells #[.int .i64 r.id, .int .i64 r.key, .int .i64 r.dep] 43) = w2 at *
    have hgn : wr.heap.size ≠ ga := by omega
    generalize wr.heap.size = gx at *
    clear d0 d1 d2 hb1 hr
    have x0 := hbx.cell 0 (v := .int .i64 r.id) rfl
    have x1 := hbx.cell 1 (v := .int .i64 r.key) rfl
    have x2 := hbx.cell 2 (v := .int .i64 r.dep) rfl
    have K1 := Lib.hid (eleave1_clo r z g w2 hZ)
    have HDR := Lib.hid (show (X.drop (q + 1)) = l.drop (q + 1) by rw [← List.drop_drop, ← List.drop_drop, hDr.out])
    clear hDr
    by_cases hrz : r.id = z
    · have t1 : (r.id == z) = true := by rw [beq_iff_eq]; exact hrz
      rw [t1] at K1
      have HT : Hid (X.take m = (l.take (q + 1)).filter (fun r => r.id != z)) := Lib.hid (by rw [filter_at hrl, if_pos hrz, List.append_nil]; exact hT.out)
      clear t1 hrz hrl hT
      go_wp2_with ((with_reducible refine K1.out.mono ?_); rintro e w3 ⟨rfl, hb3⟩)
      go_roundw
      case rel => exact ⟨m, q + 1, X, by omega, by omega, rfl, by go_num, hXl, HT, HDR, hO.keep hb3, hZ.keep hb3, grown_tr hG (below_grownBy hb3 (some ga))⟩
      case measure => simp [intOf]; omega
    · have t1 : (r.id == z) = false := by rw [beq_eq_false_iff_ne]; exact hrz
      rw [t1] at K1
      have HT := Lib.hid (set_take (r := r) hmq (by omega) hT.out hrl hrz)
      have HDR2 : Hid ((X.set m r).drop (q + 1) = l.drop (q + 1)) := Lib.hid (by rw [List.drop_set_of_lt (by omega)]; exact HDR.out)
      clear t1 hrz hrl hT HDR
      go_wp2_with ((with_reducible refine K1.out.mono ?_))
      rintro e w3 ⟨rfl, hb3⟩
      replace hO := hO.keep hb3
      replace hZ := hZ.keep hb3
      replace hbx := hbx.keep hb3
      replace hG := grown_tr hG (below_grownBy hb3 (some ga))
      clear K1 hb3 x0 x1 x2
      have x0 := hbx.cell 0 (v := .int .i64 r.id) rfl
      have x1 := hbx.cell 1 (v := .int .i64 r.key) rfl
      have x2 := hbx.cell 2 (v := .int .i64 r.dep) rfl
      obtain ⟨ga', off', r2, hga', -, c0, c1, c2⟩ := hO.rd.prs (k := m) (by omega)
      cases hga'
      have e4 : l.length * 3 ≤ cap * 3 := Nat.mul_le_mul_right 3 hcap
      have f0 := (hO.both.2 (m * 3) (by omega)).2
      have f1 := (hO.both.2 (m * 3 + 1) (by omega)).2
      have f2 := (hO.both.2 (m * 3 + 2) (by omega)).2
      rw [← Nat.add_assoc] at f1 f2
      have hmi : (m : Int) < (l.length : Int) := by omega
      obtain ⟨hO4, hG4⟩ := hO.setRow prC_len (i := m) (by omega) r
      have hZ4 := hZ.grown hG4 (by simp; omega)
      have hGG := grown_tr hG hG4
      have hXs : (X.set m r).length = l.length := by rw [List.length_set]; exact hXl
      change Ow (((w3.setCell ⟨ga, off + m * 3, none⟩ (.int .i64 r.id)).setCell ⟨ga, off + m * 3 + 1, none⟩ (.int .i64 r.key)).setCell ⟨ga, off + m * 3 + 2, none⟩ (.int .i64 r.dep)) _ _ _ _ _ _ at hO4
      change Bx (((w3.setCell ⟨ga, off + m * 3, none⟩ (.int .i64 r.id)).setCell ⟨ga, off + m * 3 + 1, none⟩ (.int .i64 r.key)).setCell ⟨ga, off + m * 3 + 2, none⟩ (.int .i64 r.dep)) _ _ _ at hZ4
      change w.grownBy (((w3.setCell ⟨ga, off + m * 3, none⟩ (.int .i64 r.id)).setCell ⟨ga, off + m * 3 + 1, none⟩ (.int .i64 r.key)).setCell ⟨ga, off + m * 3 + 2, none⟩ (.int .i64 r.dep)) _ at hGG
      clear hO hZ hG hG4 hbx
      go_upto_region 10 with (fail)
      generalize ((w3.setCell ⟨ga, off + m * 3, none⟩ (.int .i64 r.id)).setCell ⟨ga, off + m * 3 + 1, none⟩ (.int .i64 r.key)).setCell ⟨ga, off + m * 3 + 2, none⟩ (.int .i64 r.dep) = w4 at *
      clear c0 c1 c2 f0 f1 f2 x0 x1 x2
      generalize X.set m r = X2 at *
      go_wp2_with fail
      go_roundw
      case rel => exact ⟨m + 1, q + 1, X2, by omega, by omega, by go_num, by go_num, hXs, HT, HDR2, hO4, hZ4, hGG⟩
      case measure => simp [intOf]; omega
end Go.Proofs.YtnahkfchcminpaaGreatDoor
/- Rolls: who leaves: the program's Leave. -/
namespace Go.Proofs.YtnahkfchcminpaaGreatDoor
open Go.RowKit
theorem Rl.old {W w : World} {gb gz : Nat} {p : Int} {a : Option Addr} {n c : Nat} {L : List Prs} (h : Rl W w gb gz p a n c L) (h0 : 0 < L.length) : ∀ j, rowOf a = some j → j < w.heap.size := fun j hj => by
  obtain ⟨g, off, r, ha, _, d0, _⟩ := h.r.prs h0
  rw [ha] at hj
  cases hj
  simpa using World.block_lt_of_cell? w _ d0
theorem fst_at {f : Prs → Int} {l : List Prs} {z : Int} {k : Nat} {r : Prs} (h : fstP f l z = some r) (hr : l[k]? = some r) (hi : idxP (fun r => f r == z) l = (k : Int)) : f r = z ∧ ∀ (j : Nat) (x : Prs), j < k → l[j]? = some x → f x ≠ z := by
  have h1 := List.find?_some h
  refine ⟨by simpa using h1, fun j x hj hx e => ?_⟩
  have hk : k < l.length := (List.getElem?_eq_some_iff.1 hr).1
  have : ∃ j, l.findIdx? (fun r => f r == z) = some j ∧ (j : Int) = k := by
    unfold idxP at hi
    cases hh : l.findIdx? (fun r => f r == z) with
    | none => rw [hh] at hi; simp at hi
    | some q => rw [hh] at hi; exact ⟨q, rfl, hi⟩
  obtain ⟨q, hq, hqk⟩ := this
  obtain rfl : q = k := by omega
  obtain ⟨hq1, -, hq2⟩ := List.findIdx?_eq_some_iff_getElem.1 hq
  have := hq2 j hj
  obtain ⟨hj1, rfl⟩ := List.getElem?_eq_some_iff.1 hx
  simp at this
  exact this e
set_option maxRecDepth 100000 in
set_option maxHeartbeats 4000000 in
theorem eleave_walk (p : Int) (a : Option Addr) (l : List Prs) (c : Nat) (z : Int) (w : World) (hBs : Bases w) (hR : Rd w a (rowsC prC l)) (hI : ∀ r ∈ l, I64 r.key) (hn : l.length ≤ 281474976710656) :
    Calls Tryz.prog 21 #[.agg #[.int .i64 p, .slice a l.length c], .int .i64 z] w (RollRes w (addQ (lvE p l z) p) (lvE p l z) (lvP (lvE p l z) z l)) := by
  obtain ⟨gb, hgb⟩ : ∃ g, g = w.heap.size := ⟨_, rfl⟩
  obtain ⟨w0, hw0⟩ : ∃ w0, w0 = ((w.alloc (.cells #[.int .i64 p, .slice a l.length c] 30)).alloc (.cells #[.int .i64 z] 3)).alloc (.cells #[.int .i64 0, .slice none 0 0] 30) := ⟨_, rfl⟩
  have hb0 : Below w.heap.size w w0 := by rw [hw0]; exact (((Below.refl w.heap.size w).alloc (Nat.le_refl _) _).alloc (by simp) _).alloc (by simp; omega) _
  have hD : Rl w w0 gb (gb + 2) p a l.length c l := by
    refine ⟨?_, ?_, hR.keep hb0, hgb ▸ hb0, by omega⟩
    · rw [hw0, hgb]; exact ((Bx.new w 30 [.int .i64 p, .slice a l.length c]).alloc _).alloc _
    · rw [hw0, hgb]
      have := Bx.new ((w.alloc (.cells #[.int .i64 p, .slice a l.length c] 30)).alloc (.cells #[.int .i64 z] 3)) 30 [.int .i64 0, .slice none 0 0]
      simpa using this
  have hZ : Bx w0 (gb + 1) 3 [.int .i64 z] := by
    have := Bx.new (w.alloc (.cells #[.int .i64 p, .slice a l.length c] 30)) 3 [.int .i64 z]
    have e : (w.alloc (.cells #[.int .i64 p, .slice a l.length c] 30)).heap.size = gb + 1 := by rw [hgb]; simp
    rw [e] at this
    rw [hw0]
    exact this.alloc _
  have hBs0 := hBs.keep hb0
  have HB := Lib.hid hgb
  have hbw : w.heap.size = gb := hgb.symm
  have K1 := Lib.hid (echeck_walk p a l c w0 hBs0 hD.r hI hn)
  clear hgb hR hb0 hBs0
  go_enter Tryz.func21, Tryz.ntmps21
  go_upto_region 1 with (fail)
  rw [← hw0]
  clear hw0
  have y0 := hD.g.cell 0 (v := .int .i64 p) rfl
  have y1 := hD.g.cell 1 (v := .slice a l.length c) rfl
  have y2 := hZ.cell 0 (v := .int .i64 z) rfl
  rcases chkP_cases p l with ⟨hc, -, hl64, -⟩ | hc
  rotate_left
  · rw [hc] at K1
    have HL := Lib.hid (lvE_roll (z := z) hc)
    clear hc
    go_wp2_with (go_at_call 23; (with_reducible refine K1.out.mono ?_))
    rintro e w1 ⟨rfl, hb1⟩
    replace hD := hD.keep hb1
    clear y0 y1 y2 hb1 K1
    obtain ⟨⟨z0, z1⟩, ⟨f0, f1⟩⟩ := hD.res
    have hF := hD.fin (.int .i64 0) (.slice none 0 0)
    go_wp2_with fail
    exact bodyPost_ret (RollB.ret (t := 4) (u := 5) rfl _ rfl hF.1) rfl (RollRes.left HL.out (by decide) (HB.out ▸ hF.2))
  rw [hc] at K1
  have HC := Lib.hid hc
  clear hc
  go_wp2_with (go_at_call 23; (with_reducible refine K1.out.mono ?_))
  rintro e w1 ⟨rfl, hb1⟩
  replace hD := hD.keep hb1
  replace hZ := hZ.keep hb1
  clear y0 y1 y2 hb1 K1
  have y0 := hD.g.cell 0 (v := .int .i64 p) rfl
  have y1 := hD.g.cell 1 (v := .slice a l.length c) rfl
  have y2 := hZ.cell 0 (v := .int .i64 z) rfl
  have K2 := Lib.hid (efind_walk p a l c z w1 hD.r hn)
  have HFX := Lib.hid (idxP_fst Prs.id l z)
  obtain ⟨bb, hbb⟩ : ∃ b, b = (fstP Prs.id l z).isSome := ⟨_, rfl⟩
  rw [← hbb] at K2
  have HBB := Lib.hid hbb
  clear hbb
  generalize (fstP Prs.id l z).getD Prs.zero = rr at *
  go_wp2_with (go_at_call 22; (with_reducible refine K2.out.mono ?_))
  rintro e w2 ⟨rfl, hb2⟩
  have hb3 := (Below.refl w2.heap.size w2).alloc (Nat.le_refl _) (.cells #[.int .i64 rr.id, .int .i64 rr.key, .int .i64 rr.dep] 43)
  replace hD := (hD.keep hb2).keep hb3
  replace hZ := (hZ.keep hb2).keep hb3
  clear y0 y1 y2 hb2 hb3 K2
  go_upto_region 4 with (fail)
  generalize w2.alloc (.cells #[.int .i64 rr.id, .int .i64 rr.key, .int .i64 rr.dep] 43) = w3 at *
  cases bb with
  | false =>
    have HL := Lib.hid (lvE_none HC.out HBB.out.symm)
    obtain ⟨⟨z0, z1⟩, ⟨f0, f1⟩⟩ := hD.res
    have hF := hD.fin (.int .i64 0) (.slice none 0 0)
    go_wp2_with fail
    exact bodyPost_ret (RollB.ret (t := 4) (u := 5) rfl _ rfl hF.1) rfl (RollRes.left HL.out (by decide) (HB.out ▸ hF.2))
  | true =>
  have HL := Lib.hid (lvE_ok HC.out HBB.out.symm)
  obtain ⟨k, r, hk⟩ : ∃ (k : Nat) (r : Prs), idxP (fun r => r.id == z) l = (k : Int) ∧ l[k]? = some r ∧ fstP Prs.id l z = some r := by
    rcases HFX.out with ⟨k, r, h1, h2, h3⟩ | ⟨_, h2⟩
    · exact ⟨k, r, h1, h2, h3⟩
    · have := HBB.out; rw [h2] at this; cases this
  have HK := Lib.hid hk
  have hk0 : k < l.length := (List.getElem?_eq_some_iff.1 hk.2.1).1
  clear HC HBB HFX hk
  have y1 := hD.g.cell 1 (v := .slice a l.length c) rfl
  have K3 := Lib.hid (eclone_walk a l c w3 hD.r (by omega))
  go_wp2_with (go_at_call 32; (with_reducible refine K3.out.mono ?_))
  (first | rintro e w4 ⟨a4, c4, rfl, hO, hb4⟩ | rintro e w4 a4 c4 rfl hO hb4)
  obtain ⟨ga, off, rfl⟩ : ∃ ga off, a4 = some ⟨ga, off, none⟩ := by
    obtain ⟨g, off, r, e, _⟩ := hO.rd.prs hk0
    exact ⟨g, off, e⟩
  have hgz : gb + 2 < w3.heap.size := hD.z.lt
  have hga := (hO.row ga rfl).1
  have HOLD := Lib.hid (hD.old (by omega))
  have hs4 := hb4.size
  replace hD := hD.keep hb4
  replace hZ := hZ.keep hb4
  have HKK := Lib.hid (fst_at HK.out.2.2 HK.out.2.1 HK.out.1)
  have K4 := Lib.hid (edel_walk w3.heap.size ga off l c4 z (gb + 1) w4 hZ (by omega) hO (by omega) k r HK.out.1 HK.out.2.1 HKK.out.1 HKK.out.2)
  clear y1 K3 hb4 hZ HK HKK
  go_wp2_with (go_at_call 47; (with_reducible refine K4.out.mono ?_))
  (first | rintro e w5 ⟨m, rfl, hm, hmc, hRm, hg5⟩ | rintro e w5 m rfl hm hmc hRm hg5)
  have hD5 := hD.far (N := w3.heap.size) hg5 hgz HOLD.out (fun j hj => by cases hj; exact hga)
  have y0 := hD5.g.cell 0 (v := .int .i64 p) rfl
  obtain ⟨⟨z0, z1⟩, ⟨f0, f1⟩⟩ := hD5.res
  have hF := hD5.fin (.int .i64 p) (.slice (some ⟨ga, off, none⟩) m c4)
  have hRF := (hRm.grown (set_grown w5 (gb + 2) 0 (.int .i64 p)) (fun g o e => by cases e; simp; omega)).grown (set_grown _ (gb + 2) 1 (.slice (some ⟨ga, off, none⟩) m c4)) (fun g o e => by cases e; simp; omega)
  have HM := Lib.hid hm
  clear hD hD5 K4 hm hRm hg5 HOLD hO
  go_wp2_with fail
  refine bodyPost_ret (RollB.ret (t := 4) (u := 5) rfl _ rfl hF.1) rfl ?_
  have hlv : lvP 0 z l = l.filter (fun r => r.id != z) := by rw [lvP, if_pos rfl]
  rw [HL.out, hlv]
  exact ⟨some ⟨ga, off, none⟩, c4, by rw [← HM.out]; rfl, by rw [← HM.out]; exact hmc, hRF, fun j hj => (show w.heap.size ≤ j by rw [← Option.some.inj (show some ga = some j from hj)]; omega), HB.out ▸ hF.2⟩
end Go.Proofs.YtnahkfchcminpaaGreatDoor
