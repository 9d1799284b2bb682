/- 'append' onto a slice of the call's own: as in Base, and in which block the new slice lies. No program in sight. -/
import Derived.Test.YtnahkfchcminpaaGreatDoorBase
import Derived.Test.YtnahkfchcminpaaGreatDoorGRowsC
import Derived.Test.YtnahkfchcminpaaGreatDoorGEnrC
namespace Go.Proofs.YtnahkfchcminpaaGreatDoor
open Go.RowKit
/-- 'append' onto a slice of the call's own, of whatever make: a run of it. -/
theorem run_app_at {P : Program} (w : World) (base : Nat) (t u ty e : TypeId) {z : Value} {size bytes : Nat} (hE : ElemOf P t e z size bytes)
    (a : Option Addr) (n cap : Nat) (xs : List Value) (hown : Ow w base size a n cap xs)
    (src : Value) (m : Nat) (news : List Value) (hS : Src P w u src size m news)
    (hbytes : (n + m) * bytes ≤ 140737488355328) (hbase : base ≤ w.heap.size) :
    ∃ a' cap' w', (Builtin.append_ #[t, u] ty #[.slice a n cap, src]).run P w = .ok (.slice a' (n + m) cap') w' ∧ Ow w' base size a' (n + m) cap' (xs ++ news) ∧ w.grownBy w' (rowOf a) ∧ (rowOf a' = rowOf a ∨ rowOf a' = some w.heap.size) := by
  obtain ⟨i, hi, hz, hsize, hby⟩ := info_parts hE.i
  have h63 : n + m ≤ maxLen := by
    have h := Nat.le_mul_of_pos_right (n + m) hE.b
    simp only [maxLen]; omega
  have hl := hS.l
  have hlen : (xs ++ news).length = (n + m) * size := by rw [List.length_append, hown.1, hl, Nat.add_mul]
  obtain ⟨hxl, hnc, hcm, hown⟩ := hown
  have hS1 := hS.len
  have hS2 := hS.cells
  have hS3 := hS.cells'
  by_cases hroom : n + m ≤ cap
  · rcases hown with ⟨rfl, rfl⟩ | ⟨g, off, rfl, hbg, hgs, hx, hf⟩
    · obtain rfl : n = 0 := by omega
      obtain rfl : m = 0 := by omega
      have hn : news = [] := List.eq_nil_of_length_eq_zero (by simpa using hl)
      have hx : xs = [] := List.eq_nil_of_length_eq_zero (by simpa using hxl)
      subst hn hx
      refine ⟨none, 0, w, ?_, Ow.nil _ _ _, World.grownBy.refl _ _, .inl rfl⟩
      rcases hS.ty with ⟨eu, hdu⟩ | hdu <;> simp [Builtin.append_, run_underlying hE.u, run_underlying hdu, sizeOf, typeInfo, hi, hsize, hS1, hS2]
    · have hin : ∀ j, j < news.length → off + n * size + j < off + cap * size := fun j hj => by
        have h2 := Nat.mul_le_mul_right size hroom
        rw [Nat.add_mul] at h2
        omega
      have hcell : ∀ j, j < news.length → (w.cell? ⟨g, off + n * size + j, none⟩).isSome = true ∧ w.frozen? ⟨g, off + n * size + j, none⟩ = false := fun j hj => by
        have := hf (n * size + j) (by have := hin j hj; omega)
        rwa [← Nat.add_assoc] at this
      have hst := run_storeCells_cells (P := P) g (off + n * size) news 0 w (by simpa using fun j hj => (hcell j hj).1) (by simpa using fun j hj => (hcell j hj).2) hS.one
      simp only [Nat.add_zero] at hst
      refine ⟨some ⟨g, off, none⟩, cap, w.setCells g (off + n * size) news, ?_, ⟨hlen, hroom, hcm, .inr ⟨g, off, rfl, hbg, by simpa using Nat.lt_of_lt_of_le hgs (grownBy_setCells w g (off + n * size) news).size, ?_, ?_⟩⟩, grownBy_setCells w g _ news, .inl rfl⟩
      · rcases hS.ty with ⟨eu, hdu⟩ | hdu <;> simp [Builtin.append_, run_underlying hE.u, run_underlying hdu, sizeOf, typeInfo, hi, hsize, hroom, hS1, hS2, Addr.add_lit, hst]
      · intro j u hj
        by_cases hjx : j < xs.length
        · rw [List.getElem?_append_left hjx] at hj
          rw [World.cell?_setCells_out g news _ _ _ (fun _ _ => Or.inl (by simp only; omega))]
          exact hx j u hj
        · rw [List.getElem?_append_right (by omega)] at hj
          have hjn := (List.getElem?_eq_some_iff.1 hj).1
          have := World.cell?_setCells_in g news (off + n * size) w (fun k hk => (hcell k hk).1) (j - xs.length) hjn
          rw [show off + n * size + (j - xs.length) = off + j by omega] at this
          rw [this, ← (List.getElem?_eq_some_iff.1 hj).2]
      · intro j hj
        refine ⟨?_, by rw [World.frozen?_setCells]; exact (hf j hj).2⟩
        by_cases hin2 : off + n * size ≤ off + j ∧ off + j < off + n * size + news.length
        · have := World.cell?_setCells_in g news (off + n * size) w (fun k hk => (hcell k hk).1) (off + j - (off + n * size)) (by omega)
          rw [show off + n * size + (off + j - (off + n * size)) = off + j by omega] at this
          rw [this]; rfl
        · rw [World.cell?_setCells_out g news _ _ _ (fun _ _ => by simp only; omega)]
          exact (hf j hj).1
  · have holds : (Builtin.firstCells size n (.slice a n cap)).run P w.drew = .ok xs.toArray w.drew := by
      rcases hown with ⟨rfl, rfl⟩ | ⟨g, off, rfl, hbg, hgs, hx, hf⟩
      · obtain rfl : n = 0 := by omega
        have hx : xs = [] := List.eq_nil_of_length_eq_zero (by simpa using hxl)
        subst hx
        simp [Builtin.firstCells]
      · exact run_firstCells_some (P := P) w.drew size n ⟨g, off, none⟩ n cap xs hxl (fun j u hj => by rw [Addr.add_lit]; exact hx j u hj)
    have hsmall : ¬ (9223372036854775807 < ((n : Int) + (m : Int))) := by simp only [maxLen] at h63; omega
    have h48' : ¬ (281474976710656 < Builtin.nextslicecap (n + m) cap * i.bytes) := by
      have := growslice_fits (bytes := bytes) (show cap < n + m by omega) hbytes
      rw [hby]; omega
    have hge := grownCap_ge w (n + m) cap e
    refine ⟨some ⟨w.heap.size, 0, none⟩, grownCap w (n + m) cap e, w.drew.alloc (.cells (xs.toArray ++ news.toArray ++ Builtin.zeroCells z.cells (grownCap w (n + m) cap e - (n + m))) e), ?_, ?_, ⟨rfl, rfl, rfl, by simp, fun k hk _ => Below.heap_alloc w.drew _ k hk⟩, .inr rfl⟩
    · rcases hS.ty with ⟨eu, hdu⟩ | hdu <;> simp [Builtin.append_, run_underlying hE.u, run_underlying hdu, sizeOf, typeInfo, zeroValue, hi, hz, hroom, hsmall, h48', Question.forced, hS1, holds, newRow, grownCap, hsize, hS3]
      all_goals (congr 2; apply Array.ext'; simp [List.append_assoc])
    · have hsz : (xs.toArray ++ news.toArray ++ Builtin.zeroCells z.cells (grownCap w (n + m) cap e - (n + m))).size = grownCap w (n + m) cap e * size := by
        simp only [Array.size_append, List.size_toArray, size_zeroCells, hE.z, hxl, hl, ← Nat.add_mul]
        congr 1
        omega
      have hnew := heap_alloc_new w.drew (.cells (xs.toArray ++ news.toArray ++ Builtin.zeroCells z.cells (grownCap w (n + m) cap e - (n + m))) e)
      rw [World.size_drew] at hnew
      refine ⟨hlen, hge, grownCap_le_maxLen w (n + m) cap e h63, .inr ⟨w.heap.size, 0, rfl, hbase, by simp, fun j u hj => ?_, fun j hj => ?_⟩⟩
      · rw [Nat.zero_add, cell_of_row _ _ j _ e (0, 0) hnew]
        have hjl := (List.getElem?_eq_some_iff.1 hj).1
        rw [Array.getElem?_append_left (by simpa using hjl)]
        simpa using hj
      · rw [Nat.zero_add, cell_of_row _ _ j _ e (0, 0) hnew]
        exact ⟨by rw [Array.getElem?_eq_getElem (by rw [hsz]; exact hj)]; rfl, frozen_of_row _ _ _ _ e hnew⟩

section
variable {P : Program} {w w0 : World} {B : Nat} {ops : Array Oper} {rest : List Oper} {o : Oper} {a : Act} {Q : Exit → Act → World → Prop}

/-- 'append(s, x...)' at the walk: s the call's own, x whatever is read. -/
theorem wpList_apps_at (hgd : o.guard = none) (s x : Operand) (t u : TypeId)
    (ho : o.op = .call { callee := .builtin .append, args := #[s, x], argTypes := #[t, u] }) {e : TypeId} {z : Value} {size bytes : Nat} (hE : ElemOf P t e z size bytes)
    {base : Nat} {sa : Option Addr} {n cap : Nat} {xs : List Value} (hs : a.eval s = .slice sa n cap) (hown : Ow w base size sa n cap xs) (hb : Below B w0 w) (hB : B ≤ base) (hbase : base ≤ w.heap.size)
    {src : Value} {m : Nat} {news : List Value} (hx : a.eval x = src) (hS : Src P w u src size m news) (hbytes : (n + m) * bytes ≤ 140737488355328)
    (hK : ∀ a' cap' w1, Ow w1 base size a' (n + m) cap' (xs ++ news) → Below B w0 w1 → w.grownBy w1 (rowOf sa) → (rowOf a' = rowOf sa ∨ rowOf a' = some w.heap.size) → wpList P ops Q rest (a.put o.dst (.slice a' (n + m) cap')) w1) : wpList P ops Q (o :: rest) a w := by
  refine wpList_plain hgd fun K hK' => ?_
  obtain ⟨a', cap', w', hr, h2, h3, h4⟩ := run_app_at (P := P) w base t u o.type e hE sa n cap xs hown src m news hS hbytes hbase
  unfold Oper.wp execOp
  simp only [ho, resolve, invoke, builtin, Sem.run_bind, Sem.run_pure, Result.andThen_ok, List.map_toArray, List.map_cons, List.map_nil, hs, hx, hr]
  exact hK' _ _ (hK a' cap' w' h2 (hb.grown h3 (by omega) (fun k hk => by have := (hown.row k hk).1; omega)) h3 h4)

/-- 'append(s, x)' of one element: x lies in a new block. -/
theorem wpList_app1_at (hgd : o.guard = none) (s x : Operand) (t : TypeId)
    (ho : o.op = .call { callee := .builtin .append, args := #[s, x], argTypes := #[t, t] }) {e : TypeId} {z : Value} {size bytes : Nat} (hE : ElemOf P t e z size bytes)
    {base : Nat} {sa : Option Addr} {n cap : Nat} {xs : List Value} (hs : a.eval s = .slice sa n cap) (hown : Ow w base size sa n cap xs) (hb : Below B w0 w) (hB : B ≤ base) (hbase : base ≤ w.heap.size)
    {cs : List Value} {e' : TypeId} (hx : a.eval x = .slice (some ⟨w.heap.size, 0, none⟩) 1 1) (hcs : cs.length = size) (h1 : ∀ u ∈ cs, u.oneCell' = true) (hbytes : (n + 1) * bytes ≤ 140737488355328)
    (hK : ∀ a' cap' w1, Ow w1 base size a' (n + 1) cap' (xs ++ cs) → Below B w0 w1 → w.grownBy w1 (rowOf sa) → (rowOf a' = rowOf sa ∨ rowOf a' = some (w.heap.size + 1)) → wpList P ops Q rest (a.put o.dst (.slice a' (n + 1) cap')) w1) : wpList P ops Q (o :: rest) a (w.alloc (.cells cs.toArray e')) := by
  have hg := World.grownBy_alloc w (.cells cs.toArray e') none
  refine wpList_apps_at (P := P) (w0 := w0) (B := B) hgd s x t t ho hE hs (hown.kept hg (by cases rowOf sa <;> simp)) (hb.alloc (by omega) _) hB (by simp; omega) hx
    (Src.slice hE.u (by omega) (Rd.mk fun j u hj => ?_) h1) hbytes (fun a' cap' w1 a1 a2 a3 a4 => hK a' cap' w1 a1 a2 ⟨a3.os, a3.tape, a3.output, by have := a3.size; simp at this; omega, fun k hk hne => (a3.block k (by simp; omega) hne).trans (Below.heap_alloc w _ k hk)⟩ (by simpa using a4))
  rw [Nat.zero_add, World.cell?_alloc_at _ _ _ _ rfl]
  simpa using hj
end
end Go.Proofs.YtnahkfchcminpaaGreatDoor
/- The keys of a roll, as the reference lists them. -/
namespace Go.Proofs.YtnahkfchcminpaaGreatDoor
open Go.RowKit
theorem elPK : ElemOf Tryz.prog 22 3 (.int .i64 0) 1 8 := ⟨Tryz.underlying22, by kernel_rfl, rfl, by decide, by decide⟩
set_option maxRecDepth 100000 in
set_option maxHeartbeats 2000000 in
theorem rkeys_walk (P : Int) (a : Option Addr) (n c : Nat) (L : List Prs) (w : World) (hR : Rd w a (rowsC prC L)) (hL : L.length = n) (hn : n ≤ 100000) :
    Calls Tryz.prog 45 #[.agg #[.int .i64 P, .slice a n c]] w fun e w' => ∃ a' c', e = .returned (.slice a' n c') ∧ Ow w' w.heap.size 1 a' n c' (ints (L.map Prs.key)) ∧ Below w.heap.size w w' := by
  have hb0 := (Below.refl w.heap.size w).alloc (Nat.le_refl _) (.cells #[.int .i64 P, .slice a n c] 30)
  have hG := Bx.new w 30 [.int .i64 P, .slice a n c]
  change Bx (w.alloc (.cells #[.int .i64 P, .slice a n c] 30)) _ _ _ at hG
  have hR0 := hR.keep hb0
  go_enter Tryz.func45, Tryz.ntmps45
  go_upto_region 1 with (fail)
  generalize w.alloc (.cells #[.int .i64 P, .slice a n c] 30) = w0 at *
  obtain ⟨gb, hgb⟩ : ∃ g, g = w.heap.size := ⟨_, rfl⟩
  rw [← hgb] at hG ⊢
  have HGB := Lib.hid (Nat.le_of_eq hgb.symm)
  clear hR hgb
  go_wp2_with fail
  go_loopw [3, 4] (fun v i wr => ∃ (k : Nat) (b : Option Addr) (d : Nat) (M : List Int), k ≤ n ∧ i = .int .i64 (k : Int) ∧ v = .slice b k d ∧ Hid (M = (L.take k).map Prs.key) ∧ Ow wr w0.heap.size 1 b k d (ints M) ∧ Below w0.heap.size w0 wr) (fun _ i _ => n - (intOf i).toNat)
  case atStart => exact ⟨0, none, 0, [], by omega, rfl, rfl, Lib.hid rfl, Ow.nil _ _ _, Below.refl _ _⟩
  case round =>
    obtain ⟨k, b, d, M, hk, rfl, rfl, hM, hO, hBB⟩ := hrel
    have hGr := hG.keep hBB
    have c1 := hGr.cell 1 (v := .slice a n c) rfl
    have hgl := hGr.lt
    have hgw := HGB.out
    by_cases hkn : k < n
    · have hkl : (k : Int) < (n : Int) := by omega
      obtain ⟨g, off, x, rfl, hx, hcell⟩ := (hR0.keep hBB).rows (f := prC) (k := 3) prC_len (by decide) (i := k) (by rw [hL]; exact hkn)
      have d1 := hcell 1 (.int .i64 x.key) rfl
      have hMs : Hid (M ++ [x.key] = (L.take (k + 1)).map Prs.key) := by show _ = _; rw [take_at hx, List.map_append, hM.out]; rfl
      clear hM hx hcell hR0
      go_wp2_with (at_builtin; refine wpList_app1 (w0 := w0) (B := w0.heap.size) rfl _ _ _ rfl elPK rfl hO hBB (Nat.le_refl _) hBB.size rfl (by rfl) (one1 rfl) (by omega) ?_)
      intro b' d' w3 hO3 hBB3 hg3
      rw [ints_snoc] at hO3
      generalize M ++ [x.key] = M2 at *
      clear hO hBB hGr c1 d1 hg3
      go_wp2_with fail
      go_roundw
      case rel => exact ⟨k + 1, b', d', M2, by omega, by go_num, rfl, hMs, hO3, hBB3⟩
      case measure => simp [intOf]; omega
    · have hkl : ¬ (k : Int) < (n : Int) := by omega
      obtain rfl : k = n := by omega
      have hMM : M = L.map Prs.key := by rw [hM.out, ← hL, List.take_length]
      subst hMM
      clear hM
      go_wp2
      go_ret
      exact ⟨b, d, rfl, hO.lower hb0.size, hb0.trans (hBB.mono hb0.size)⟩
end Go.Proofs.YtnahkfchcminpaaGreatDoor
/- Rolls: whether a person is there (slices.ContainsFunc), and the keys: the program's. -/
namespace Go.Proofs.YtnahkfchcminpaaGreatDoor
open Go.RowKit
theorem idxP_any (f : Prs → Bool) (l : List Prs) : decide (idxP f l ≥ 0) = l.any f := by
  cases h : l.findIdx? f with
  | some k =>
    obtain ⟨hk, hp, _⟩ := List.findIdx?_eq_some_iff_getElem.1 h
    rw [show l.any f = true from List.any_eq_true.2 ⟨l[k], List.getElem_mem hk, hp⟩, idxP, h]
    exact decide_eq_true (by show (k : Int) ≥ 0; omega)
  | none =>
    have hn := List.findIdx?_eq_none_iff.1 h
    rw [show l.any f = false from List.any_eq_false.2 fun x hx => by rw [hn x hx]; simp, idxP, h]
    rfl
set_option maxRecDepth 100000 in
theorem ehas_walk (a : Option Addr) (l : List Prs) (c : Nat) (q : Prs) (g : Nat) (w : World) (hX : Bx w g 43 (prC q)) (hR : Rd w a (rowsC prC l)) (hl : l.length ≤ 281474976710656) :
    Calls Tryz.prog 30 #[.slice a l.length c, .func (.func 27) #[] #[.pointer (some ⟨g, 0, none⟩)]] w fun e w' => e = .returned (.bool (l.any fun r => r.id == q.id || r.key == q.key)) ∧ Below w.heap.size w w' := by
  have HI := Lib.hid (eadd1_idx a l c q g w hX hR hl)
  have hA := idxP_any (fun r => r.id == q.id || r.key == q.key) l
  generalize idxP (fun r => r.id == q.id || r.key == q.key) l = ix at *
  generalize l.any (fun r => r.id == q.id || r.key == q.key) = b at *
  have HA := Lib.hid hA
  clear hA hX hR
  go_enter Tryz.func30, Tryz.ntmps30
  go_wp2_with (go_at_call 55; (with_reducible refine HI.out.mono ?_))
  rintro e w1 ⟨rfl, hb1⟩
  go_wp2
  go_ret
  exact ⟨by rw [← HA.out]; rfl, hb1⟩
set_option maxRecDepth 100000 in
set_option maxHeartbeats 2000000 in
theorem ekeys_walk (P : Int) (a : Option Addr) (n c : Nat) (L : List Prs) (w : World) (hR : Rd w a (rowsC prC L)) (hL : L.length = n) (hn : n ≤ 100000) :
    Calls Tryz.prog 44 #[.agg #[.int .i64 P, .slice a n c]] w fun e w' => ∃ a' c', e = .returned (.slice a' n c') ∧ Ow w' w.heap.size 1 a' n c' (ints (L.map Prs.key)) ∧ Below w.heap.size w w' := by
  have hb0 := (Below.refl w.heap.size w).alloc (Nat.le_refl _) (.cells #[.int .i64 P, .slice a n c] 30)
  have hG := Bx.new w 30 [.int .i64 P, .slice a n c]
  change Bx (w.alloc (.cells #[.int .i64 P, .slice a n c] 30)) _ _ _ at hG
  have hR0 := hR.keep hb0
  go_enter Tryz.func44, Tryz.ntmps44
  go_upto_region 1 with (fail)
  generalize w.alloc (.cells #[.int .i64 P, .slice a n c] 30) = w0 at *
  obtain ⟨gb, hgb⟩ : ∃ g, g = w.heap.size := ⟨_, rfl⟩
  rw [← hgb] at hG ⊢
  have HGB := Lib.hid (Nat.le_of_eq hgb.symm)
  have c1 := hG.cell 1 (v := .slice a n c) rfl
  clear hR hgb hG
  go_wp2_with fail
  clear c1
  go_loopw [3, 9] (fun v i wr => ∃ (k : Nat) (b : Option Addr) (d : Nat) (M : List Int), k ≤ n ∧ i = .int .i64 (k : Int) ∧ v = .slice b k d ∧ Hid (M = (L.take k).map Prs.key) ∧ Ow wr w0.heap.size 1 b k d (ints M) ∧ Below w0.heap.size w0 wr) (fun _ i _ => n - (intOf i).toNat)
  case atStart => exact ⟨0, none, 0, [], by omega, rfl, rfl, Lib.hid rfl, Ow.nil _ _ _, Below.refl _ _⟩
  case round =>
    obtain ⟨k, b, d, M, hk, rfl, rfl, hM, hO, hBB⟩ := hrel
    by_cases hkn : k < n
    · have hkl : (k : Int) < (n : Int) := by omega
      obtain ⟨g, off, x, rfl, hx, d0, d1, d2⟩ := (hR0.keep hBB).prs (k := k) (by rw [hL]; exact hkn)
      have hMs : Hid (M ++ [x.key] = (L.take (k + 1)).map Prs.key) := by show _ = _; rw [take_at hx, List.map_append, hM.out]; rfl
      have hb1 := (Below.refl wr.heap.size wr).alloc (Nat.le_refl _) (.cells #[.int .i64 x.id, .int .i64 x.key, .int .i64 x.dep] 43)
      have hbx := Bx.new wr 43 (prC x)
      replace hO := hO.keep hb1
      replace hBB := hBB.trans (hb1.mono hBB.size)
      go_upto_region 5 with (fail)
      change Bx (wr.alloc (.cells #[.int .i64 x.id, .int .i64 x.key, .int .i64 x.dep] 43)) _ _ _ at hbx
      generalize wr.alloc (.cells #[.int .i64 x.id, .int .i64 x.key, .int .i64 x.dep] 43) = w1 at *
      generalize wr.heap.size = gx at *
      have e1 := hbx.cell 1 (v := .int .i64 x.key) rfl
      clear hM hx d0 d1 d2 hR0 hb1 hbx
      go_wp2_with (at_builtin; refine wpList_app1 (w0 := w0) (B := w0.heap.size) rfl _ _ _ rfl elPK rfl hO hBB (Nat.le_refl _) hBB.size rfl (by rfl) (one1 rfl) (by omega) ?_)
      intro b' d' w3 hO3 hBB3 hg3
      rw [ints_snoc] at hO3
      generalize M ++ [x.key] = M2 at *
      clear hO hBB e1 hg3
      go_wp2_with fail
      go_roundw
      case rel => exact ⟨k + 1, b', d', M2, by omega, by go_num, rfl, hMs, hO3, hBB3⟩
      case measure => simp [intOf]; omega
    · have hkl : ¬ (k : Int) < (n : Int) := by omega
      obtain rfl : k = n := by omega
      have hMM : M = L.map Prs.key := by rw [hM.out, ← hL, List.take_length]
      subst hMM
      clear hM
      go_wp2
      go_ret
      exact ⟨b, d, rfl, hO.lower hb0.size, hb0.trans (hBB.mono hb0.size)⟩
end Go.Proofs.YtnahkfchcminpaaGreatDoor
