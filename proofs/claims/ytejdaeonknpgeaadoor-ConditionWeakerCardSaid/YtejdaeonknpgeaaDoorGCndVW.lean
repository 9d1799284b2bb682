/- The law's condition of two, walked. -/
import Derived.Test.YtejdaeonknpgeaaDoorGCndV
namespace Go.Proofs.YtejdaeonknpgeaaDoor
open Go.RowKit
/-- with boxes that stay -/
structure Jf (w0 w : World) (Bs : List (Nat × TypeId × List Value)) (g7 : Nat) (ja : Option Addr) (n jc : Nat) (J : List Trm) : Prop where
  j : Jg w0 w (fun j => ∃ e ∈ Bs, e.1 = j) g7 ja n jc J
  bs : ∀ e ∈ Bs, Bx w e.1 e.2.1 e.2.2
  ne : ∀ e ∈ Bs, e.1 ≠ g7
section
variable {w0 w w' : World} {Bs : List (Nat × TypeId × List Value)} {g7 : Nat} {ja : Option Addr} {n jc : Nat} {J : List Trm}
theorem Jf.keep (h : Jf w0 w Bs g7 ja n jc J) (hb : Below w.heap.size w w') : Jf w0 w' Bs g7 ja n jc J := ⟨h.j.keep hb, fun e he => (h.bs e he).keep hb, h.ne⟩
theorem Jf.add (h : Jf w0 w Bs g7 ja n jc J) (t : TypeId) (cs : List Value) : Jf w0 (w.alloc (.cells cs.toArray t)) ((w.heap.size, t, cs) :: Bs) g7 ja n jc J := by
  have hb := (Below.refl w.heap.size w).alloc (Nat.le_refl _) (.cells cs.toArray t)
  have h1 : Jg w0 w (fun j => ∃ e ∈ (w.heap.size, t, cs) :: Bs, e.1 = j) g7 ja n jc J := h.j.more (fun j => by
    rintro ⟨e, he, rfl⟩
    rcases List.mem_cons.1 he with rfl | he
    · exact .inr (Nat.le_refl _)
    · exact .inl ⟨e, he, rfl⟩)
  have lc := h.j.c.lt
  refine ⟨h1.keep hb, fun e he => ?_, fun e he => ?_⟩
  · rcases List.mem_cons.1 he with rfl | he
    · exact Bx.new w t cs
    · exact (h.bs e he).keep hb
  · rcases List.mem_cons.1 he with rfl | he
    · show w.heap.size ≠ g7
      omega
    · exact h.ne e he
theorem Jf.less {b : Nat × TypeId × List Value} (h : Jf w0 w (b :: Bs) g7 ja n jc J) : Jf w0 w Bs g7 ja n jc J :=
  ⟨h.j.more (fun _ ⟨e, he, hj⟩ => .inl ⟨e, List.mem_cons_of_mem _ he, hj⟩), fun e he => h.bs e (List.mem_cons_of_mem _ he), fun e he => h.ne e (List.mem_cons_of_mem _ he)⟩
theorem Jf.push {a2 : Option Addr} {c2 : Nat} {wA : World} {t : Trm} (h : Jf w0 w Bs g7 ja n jc J) (hO : Ow wA w0.heap.size 6 a2 (n + 1) c2 (rowsC trC J ++ trC t)) (hb : Below w0.heap.size w0 wA) (hg : w.grownBy wA (rowOf ja)) (hat : rowOf a2 = rowOf ja ∨ rowOf a2 = some (w.heap.size + 1))
    (hr : Rd w t.aa (ints t.args)) (hrow : ∀ j, rowOf t.aa = some j → j < w.heap.size ∧ j ≠ g7 ∧ rowOf ja ≠ some j ∧ ¬ ∃ e ∈ Bs, e.1 = j) (hlow : ∀ j, rowOf t.aa = some j → w0.heap.size ≤ j) (hi : t.In) :
    Jf w0 (wA.setCell ⟨g7, 0, none⟩ (.slice a2 (n + 1) c2)) Bs g7 a2 (n + 1) c2 (J ++ [t]) := by
  obtain ⟨h1, h2⟩ := h.j.push hO hb hg hat hr hrow hlow hi (fun j ⟨e, he, hj⟩ => hj ▸ (h.bs e he).lt)
  refine ⟨h1, fun e he => (h.bs e he).kp h2 ?_, h.ne⟩
  rintro (e1 | e1)
  · exact h.ne e he e1
  · exact (h.j.nc _ e1).2 ⟨e, he, rfl⟩
end
theorem shift_in {t : Trm} {A : List Trm} (hA : Small A) (ht : t ∈ A) (hi : t.In) {n : Nat} (hn : n ≤ 1000) (la : Option Addr) (lc : Nat) (hlc : t.args.length ≤ lc) :
    Trm.In ⟨t.kind, t.number, t.years, t.field, t.text, t.args.map (· + (n : Int)), la, lc⟩ := by
  have h24 := (hA.2 t ht).1
  refine ⟨hi.1, hi.2.1, hi.2.2.1, fun a ha => ?_, by rw [List.length_map]; exact hlc, by rw [List.length_map]; show t.args.length ≤ _; omega⟩
  obtain ⟨b, hb, rfl⟩ := List.mem_map.1 ha
  have := (hA.2 t ht).2 b hb
  exact ⟨by omega, by omega⟩
/-- what joined returns, and that its slice has room -/
def JoinRes2 (kind : Int) (A B : List Trm) (w : World) (e : Ending) (w' : World) : Prop := ∃ (J : List Trm) (ja : Option Addr) (jc : Nat), e = .returned (.agg #[.slice ja J.length jc]) ∧ Joined kind A B J ∧ RdT w' ja J ∧ (∀ j, rowOf ja = some j → w.heap.size ≤ j ∧ j < w'.heap.size) ∧ (∀ t ∈ J, ∀ j, rowOf t.aa = some j → w.heap.size ≤ j ∧ j < w'.heap.size) ∧ Below w.heap.size w w' ∧ J.length ≤ jc
set_option maxRecDepth 100000 in
set_option maxHeartbeats 4000000 in
theorem joined_walk2 (kind : Int) (A B : List Trm) (ta tb : Option Addr) (tc td : Nat) (w : World) (hk : 0 ≤ kind ∧ kind ≤ 1000) (hA : Small A) (hB : Small B) (hRA : RdT w ta A) (hRB : RdT w tb B) :
    Calls Tryd.prog 8 #[.int .i64 kind, .agg #[.slice ta A.length tc], .agg #[.slice tb B.length td]] w (JoinRes2 kind A B w) := by
  have hAl := hA.1
  have hw1 : IntKind.i64.wrap (1 + (A.length : Int)) = 1 + (A.length : Int) := by rw [IntKind.wrap_i64]; omega
  obtain ⟨W7, hW7, h4, h5, h6, hs, ht0, h7, hq, hb7⟩ := alloc7 w [.slice ta A.length tc] [.slice tb B.length td] [.slice none 0 0] [.int .i64 1, .int .i64 (1 + (A.length : Int))] [.int .i64 kind, .int .i64 0, .int .i64 0, .string ⟨#[]⟩, .string ⟨#[]⟩, .slice (some ⟨w.heap.size + 1 + 1 + 1, 0, none⟩) 2 2] [.slice (some ⟨w.heap.size + 1 + 1 + 1 + 1, 0, none⟩) 1 1] [.slice ta A.length tc, .slice tb B.length td] 29 29 29 3 47 29 29
  have HA := Lib.hid hA
  have HB := Lib.hid hB
  have HRA := Lib.hid hRA
  have HRB := Lib.hid hRB
  clear hA hB hRA hRB
  go_enter Tryd.func8, Tryd.ntmps8
  go_upto_region 3 with (fail)
  rw [← hW7]
  clear hW7 hw1
  generalize hgq : w.heap.size + 1 + 1 + 1 + 1 + 1 + 1 = gq at *
  generalize hg7 : w.heap.size + 1 + 1 + 1 + 1 + 1 = g7 at *
  generalize hgt0 : w.heap.size + 1 + 1 + 1 + 1 = gt0 at *
  generalize hgs : w.heap.size + 1 + 1 + 1 = gs at *
  generalize hg6 : w.heap.size + 1 + 1 = g6 at *
  generalize hg5 : w.heap.size + 1 = g5 at *
  have HN : Hid (g5 = w.heap.size + 1 ∧ g6 = w.heap.size + 2 ∧ gs = w.heap.size + 3 ∧ gt0 = w.heap.size + 4 ∧ g7 = w.heap.size + 5 ∧ gq = w.heap.size + 6) := Lib.hid ⟨by omega, by omega, by omega, by omega, by omega, by omega⟩
  clear hgq hg7 hgt0 hgs hg6 hg5
  obtain ⟨Bs, hBs⟩ : ∃ Bs, Bs = [(w.heap.size, 29, [Value.slice ta A.length tc]), (g5, 29, [.slice tb B.length td]), (g6, 29, [.slice none 0 0]), (gq, 29, [.slice ta A.length tc, .slice tb B.length td])] := ⟨_, rfl⟩
  have hJ : Jf w W7 Bs g7 (some ⟨gt0, 0, none⟩) 1 1 [⟨kind, 0, 0, [], [], [1, 1 + (A.length : Int)], some ⟨gs, 0, none⟩, 2⟩] := by
    have hn := HN.out
    have l7 := hq.lt
    subst hBs
    refine ⟨⟨h7, ?_, rfl, ?_, ?_, ?_, hb7, by omega, fun t ht j hj => ?_⟩, ?_, ?_⟩
    · exact ⟨rfl, Nat.le_refl _, by decide, .inr ⟨gt0, 0, rfl, by omega, by omega, fun j u hj => by rw [Nat.zero_add]; exact ht0.cell j hj, fun j hj => by
        rw [Nat.zero_add]
        exact ⟨by rw [ht0.cell j (List.getElem?_eq_getElem (show j < 6 by omega))]; rfl, ht0.free j⟩⟩⟩
    · intro t ht
      rw [List.mem_singleton.1 ht]
      refine ⟨Rd.mk fun j u hj => by rw [Nat.zero_add]; exact hs.cell j hj, fun j hj => ?_⟩
      have e : gs = j := Option.some.inj hj
      refine ⟨by omega, by omega, fun e2 => by have : gt0 = j := Option.some.inj e2; omega, ?_⟩
      rintro ⟨e1, he, rfl⟩
      simp only [List.mem_cons, List.not_mem_nil, or_false] at he
      rcases he with rfl | rfl | rfl | rfl
      all_goals dsimp only at e; omega
    · intro t ht
      rw [List.mem_singleton.1 ht]
      exact term_in _ _ _ _ _ _ _ _ hk (by omega) (by omega) (by simp) (by simp) (fun a ha => by
        rcases List.mem_cons.1 ha with rfl | ha
        · exact ⟨by decide, by decide⟩
        · rw [List.mem_singleton.1 ha]; exact ⟨by omega, by omega⟩) (Nat.le_refl _) (by simp)
    · intro j hj
      have e : gt0 = j := Option.some.inj hj
      refine ⟨by omega, ?_⟩
      rintro ⟨e1, he, rfl⟩
      simp only [List.mem_cons, List.not_mem_nil, or_false] at he
      rcases he with rfl | rfl | rfl | rfl
      all_goals dsimp only at e; omega
    · rw [List.mem_singleton.1 ht] at hj
      have e : gs = j := Option.some.inj hj
      omega
    · intro e he
      simp only [List.mem_cons, List.not_mem_nil, or_false] at he
      rcases he with rfl | rfl | rfl | rfl
      · exact h4
      · exact h5
      · exact h6
      · exact hq
    · intro e he
      simp only [List.mem_cons, List.not_mem_nil, or_false] at he
      rcases he with rfl | rfl | rfl | rfl
      all_goals dsimp only; omega
  have HBs := Lib.hid hBs
  have hup : Hid (JUp kind A B 0 [⟨kind, 0, 0, [], [], [1, 1 + (A.length : Int)], some ⟨gs, 0, none⟩, 2⟩]) := Lib.hid ⟨_, [], [], rfl, ⟨rfl, rfl, rfl, rfl, rfl, rfl⟩, ⟨rfl, fun q t h => absurd h (by simp)⟩, ⟨rfl, fun q t h => absurd h (by simp)⟩⟩
  clear h4 h5 h6 hs ht0 h7 hq hb7 hBs hk
  go_loopw [29] (fun kv wr => ∃ (k : Nat) (ja : Option Addr) (n jc : Nat) (J : List Trm), k ≤ 2 ∧ kv = .int .i64 (k : Int) ∧ Jf w wr Bs g7 ja n jc J ∧ Hid (JUp kind A B k J) ∧ Hid (n ≤ 1 + 24 * k)) (fun kv _ => 2 - (intOf kv).toNat)
  case atStart => exact ⟨0, _, 1, 1, _, by omega, rfl, hJ, hup, Lib.hid (by omega)⟩
  case round =>
    clear hJ hup
    obtain ⟨k, ja, n, jc, J, hk2, rfl, hJ, hUp, hnk⟩ := hrel
    by_cases hkt : k < 2
    rotate_left
    · obtain rfl : k = 2 := by omega
      have c0 := hJ.j.c.cell 0 rfl
      have r0 := (hJ.bs (g6, 29, [.slice none 0 0]) (by rw [HBs.out]; simp)).cell 0 rfl
      have f0 := (hJ.bs (g6, 29, [.slice none 0 0]) (by rw [HBs.out]; simp)).free 0
      have hr6 := (hJ.bs (g6, 29, [.slice none 0 0]) (by rw [HBs.out]; simp))
      have hL : w.heap.size ≤ g6 := by have := HN.out; omega
      obtain rfl := hJ.j.n
      have hkk := setCell_kp wr g6 0 (.slice ja J.length jc) (S := fun j => j = g6) rfl
      have hmem : ∃ e ∈ Bs, e.1 = g6 := ⟨(g6, 29, [.slice none 0 0]), by rw [HBs.out]; simp, rfl⟩
      have hRd : RdT (wr.setCell ⟨g6, 0, none⟩ (.slice ja J.length jc)) ja J :=
        (⟨hJ.j.o.rd, fun t ht => (hJ.j.rows t ht).1, hJ.j.inn⟩ : RdT wr ja J).kp hkk (fun j hj e => by have e' : j = g6 := e; subst e'; exact (hJ.j.nc _ hj).2 hmem) (fun t ht j hj e => by have e' : j = g6 := e; subst e'; exact ((hJ.j.rows t ht).2 _ hj).2.2.2 hmem)
      have HF := Lib.hid (hr6.set 0 (.slice ja J.length jc))
      have HRd := Lib.hid hRd
      have HBl := Lib.hid (hJ.j.b.setCell (p := ⟨g6, 0, none⟩) hL (.slice ja J.length jc))
      have HRw : Hid ((∀ j, rowOf ja = some j → w.heap.size ≤ j ∧ j < (wr.setCell ⟨g6, 0, none⟩ (.slice ja J.length jc)).heap.size) ∧ (∀ t ∈ J, ∀ j, rowOf t.aa = some j → w.heap.size ≤ j ∧ j < (wr.setCell ⟨g6, 0, none⟩ (.slice ja J.length jc)).heap.size)) := Lib.hid ⟨fun j hj => ⟨(hJ.j.o.row j hj).1, Nat.lt_of_lt_of_le (hJ.j.o.row j hj).2 hkk.size⟩, fun t ht j hj => ⟨hJ.j.lo2 t ht j hj, Nat.lt_of_lt_of_le ((hJ.j.rows t ht).2 j hj).1 hkk.size⟩⟩
      have HJC : Hid (J.length ≤ jc) := Lib.hid hJ.j.o.2.1
      clear hJ hr6 hkk hmem hRd hL
      go_wp2
      exact bodyPost_ret (Cond.ret (t := 6) rfl _ rfl HF.out) rfl ⟨J, ja, jc, rfl, hUp.out.fin, HRd.out, HRw.out.1, HRw.out.2, HBl.out, HJC.out⟩
    · have hbq := hJ.bs (gq, 29, [.slice ta A.length tc, .slice tb B.length td]) (by rw [HBs.out]; simp)
      have ca := (hJ.bs (w.heap.size, 29, [.slice ta A.length tc]) (by rw [HBs.out]; simp)).cell 0 rfl
      obtain ⟨xa, X, xc, m, hm, hm24, hcell, hX, hRX, hstep⟩ : ∃ (xa : Option Addr) (X : List Trm) (xc m : Nat), (k : Int) * (A.length : Int) = (m : Int) ∧ m ≤ 24 ∧ wr.cell? ⟨gq, k, none⟩ = some (.slice xa X.length xc) ∧ Small X ∧ RdT w xa X ∧ Hid (∀ Y, ShL (1 + m) X X.length Y → JUp kind A B (k + 1) (J ++ Y)) := by
        rcases (show k = 0 ∨ k = 1 by omega) with rfl | rfl
        · exact ⟨ta, A, tc, 0, by simp, by omega, hbq.cell 0 rfl, HA.out, HRA.out, Lib.hid (fun Y hY => hUp.out.next0 hY)⟩
        · exact ⟨tb, B, td, A.length, by simp, hAl, hbq.cell 1 rfl, HB.out, HRB.out, Lib.hid (fun Y hY => hUp.out.next1 hY)⟩
      have hkl : (k : Int) < 2 := by omega
      have hwm : IntKind.i64.wrap ((k : Int) * (A.length : Int)) = (m : Int) := by rw [hm, IntKind.wrap_i64]; omega
      have hwb : IntKind.i64.wrap (1 + (m : Int)) = 1 + (m : Int) := by rw [IntKind.wrap_i64]; omega
      have hwk : IntKind.i64.wrap ((k : Int) + 1) = (k : Int) + 1 := by rw [IntKind.wrap_i64]; omega
      have hX24 := hX.1
      have HX := Lib.hid hX
      have HRX := Lib.hid hRX
      have hJ2 := hJ.add 29 [.slice xa X.length xc]
      have ca2 := (hJ2.bs (w.heap.size, 29, [.slice ta A.length tc]) (by rw [HBs.out]; simp)).cell 0 rfl
      have c9 := (hJ2.bs (wr.heap.size, 29, [.slice xa X.length xc]) (List.mem_cons_self ..)).cell 0 rfl
      change Jf w (wr.alloc (.cells #[.slice xa X.length xc] 29)) _ _ _ _ _ _ at hJ2
      change (wr.alloc (.cells #[.slice xa X.length xc] 29)).cell? _ = _ at ca2
      change (wr.alloc (.cells #[.slice xa X.length xc] 29)).cell? _ = _ at c9
      clear hm hX hRX hbq hUp hJ
      go_upto_region 5 with (fail)
      generalize wr.alloc (.cells #[.slice xa X.length xc] 29) = wM at *
      generalize wr.heap.size = g9 at *
      clear ca hcell
      go_upto_region 7 with (fail)
      clear ca2 c9 hwm hwb
      go_loopw [43] (fun iv wr => ∃ (i : Nat) (ja : Option Addr) (n jc : Nat) (Y : List Trm), i ≤ X.length ∧ iv = .int .i64 (i : Int) ∧ Jf w wr ((g9, 29, [.slice xa X.length xc]) :: Bs) g7 ja n jc (J ++ Y) ∧ Hid (ShL (1 + m) X i Y) ∧ Hid (n ≤ 1 + 24 * k + i)) (fun iv _ => X.length - (intOf iv).toNat)
      case atStart => exact ⟨0, ja, n, jc, [], Nat.zero_le _, rfl, by rw [List.append_nil]; exact hJ2, Lib.hid ⟨rfl, fun q t h => absurd h (by omega)⟩, Lib.hid (by have := hnk.out; omega)⟩
      case round =>
        clear hJ2
        obtain ⟨i, ja2, n2, jc2, Y, hi, rfl, hJ, hSh, hn2⟩ := hrel
        by_cases hit : i < X.length
        rotate_left
        · have hil : ¬ (i : Int) < (X.length : Int) := by omega
          obtain rfl : i = X.length := by omega
          have HJ := Lib.hid hJ.less
          clear hJ
          go_wp2
          go_roundw
          case rel => exact ⟨k + 1, ja2, n2, jc2, J ++ Y, by omega, by go_num, HJ.out, Lib.hid (hstep.out Y hSh.out), Lib.hid (by have := hn2.out; omega)⟩
          case measure => simp [intOf]; omega
        have hil : (i : Int) < (X.length : Int) := by omega
        have hwi : IntKind.i64.wrap ((i : Int) + 1) = (i : Int) + 1 := by rw [IntKind.wrap_i64]; omega
        obtain ⟨gx, ox, t, hxa, ht, ⟨c0, c1, c2, c3, c4, c5⟩, hAt, hIn⟩ := (HRX.out.keep hJ.j.b).trm (k := i) hit
        have hml : t.args.length ≤ 24 := (HX.out.2 t (mem_at ht)).1
        have hmb := Lib.hid (HX.out.2 t (mem_at ht)).2
        have bT := (Below.refl wr.heap.size wr).alloc (Nat.le_refl _) (.cells #[.int .i64 t.kind, .int .i64 t.number, .int .i64 t.years, .string ⟨t.field.toArray⟩, .string ⟨t.text.toArray⟩, .slice t.aa t.args.length t.ac] 47)
        have hT := Bx.new wr 47 [.int .i64 t.kind, .int .i64 t.number, .int .i64 t.years, .string ⟨t.field.toArray⟩, .string ⟨t.text.toArray⟩, .slice t.aa t.args.length t.ac]
        change Bx (wr.alloc (.cells #[.int .i64 t.kind, .int .i64 t.number, .int .i64 t.years, .string ⟨t.field.toArray⟩, .string ⟨t.text.toArray⟩, .slice t.aa t.args.length t.ac] 47)) _ _ _ at hT
        have HA2 := Lib.hid (hAt.keep bT)
        have HIn := Lib.hid hIn
        clear hAt hIn
        rw [hxa]
        go_upto_region 9 with (fail)
        obtain ⟨wP, hwP⟩ : ∃ x, x = wr := ⟨_, rfl⟩
        rw [← hwP] at hJ bT hT HA2 ⊢
        clear c0 c1 c2 c3 c4 c5 hwP
        have HT := Lib.hid hT
        have HBT := Lib.hid bT
        have HJ := Lib.hid hJ
        generalize wP.alloc (.cells #[.int .i64 t.kind, .int .i64 t.number, .int .i64 t.years, .string ⟨t.field.toArray⟩, .string ⟨t.text.toArray⟩, .slice t.aa t.args.length t.ac] 47) = wI at *
        have t5 := hT.cell 5 rfl
        generalize hgt : wP.heap.size = gt at *
        have HGT := Lib.hid hgt
        clear hJ bT hT hgt
        go_upto_region 11 with (fail)
        clear t5
        go_loopw [50, 13] (fun qv lv wr => ∃ (q : Nat) (la : Option Addr) (lc : Nat), q ≤ t.args.length ∧ qv = .int .i64 (q : Int) ∧ lv = .slice la q lc ∧ Ow wr wI.heap.size 1 la q lc (ints ((t.args.take q).map (· + (1 + (m : Int))))) ∧ Below wI.heap.size wI wr) (fun qv _ _ => t.args.length - (intOf qv).toNat)
        case atStart => exact ⟨0, none, 0, Nat.zero_le _, rfl, rfl, Ow.nil _ _ _, Below.refl _ _⟩
        case round =>
          obtain ⟨q, la, lc, hq, rfl, rfl, hO, hb⟩ := hrel
          by_cases hqt : q < t.args.length
          · have hql : (q : Int) < (t.args.length : Int) := by omega
            obtain ⟨ga, oa, v, hka, kc, hv⟩ := (HA2.out.keep hb).int (k := q) hqt
            have hvb := hmb.out v (mem_at hv)
            have hwv : IntKind.i64.wrap (v + (1 + (m : Int))) = v + (1 + (m : Int)) := by rw [IntKind.wrap_i64]; omega
            have hwq : IntKind.i64.wrap ((q : Int) + 1) = (q : Int) + 1 := by rw [IntKind.wrap_i64]; omega
            have HV : Hid (ints ((t.args.take q).map (· + (1 + (m : Int)))) ++ [.int .i64 (v + (1 + (m : Int)))] = ints ((t.args.take (q + 1)).map (· + (1 + (m : Int))))) := Lib.hid (by rw [ints_snoc, take_at hv, List.map_append]; rfl)
            clear hv hvb
            rw [hka]
            go_wp2_with (at_builtin; refine wpList_app1 (w0 := wI) (B := wI.heap.size) (base := wI.heap.size) rfl _ _ _ rfl elIntK rfl hO hb (Nat.le_refl _) hb.size (cs := [.int .i64 (v + (1 + (m : Int)))]) rfl rfl (one1 rfl) (by omega) ?_; intro a2 c2 wA hO8 hb8 hg8)
            rw [HV.out] at hO8
            clear hg8 hO hb
            go_roundw
            case rel => exact ⟨q + 1, a2, c2, by omega, by go_num, rfl, hO8, hb8⟩
            case measure => simp [intOf]; omega
          · have hql : ¬ (q : Int) < (t.args.length : Int) := by omega
            obtain rfl : q = t.args.length := by omega
            rw [List.take_length] at hO
            have hT' := HT.out.keep hb
            have t5 := hT'.cell 5 rfl
            have f5 := hT'.free 5
            have hgI : gt < wI.heap.size := HT.out.lt
            have hb3 := (HBT.out.trans (hb.mono (Nat.le_of_lt hgI))).setCell (p := ⟨gt, 5, none⟩) (Nat.le_refl _) (.slice la t.args.length lc)
            have hJ3 := HJ.out.keep (by rw [HGT.out]; exact hb3)
            have hT3 := hT'.set 5 (.slice la t.args.length lc)
            change Bx _ _ _ [.int .i64 t.kind, .int .i64 t.number, .int .i64 t.years, .string ⟨t.field.toArray⟩, .string ⟨t.text.toArray⟩, .slice la t.args.length lc] at hT3
            have hRl := hO.rd.kp (setCell_kp wr gt 5 (.slice la t.args.length lc) (S := fun j => j = gt) rfl) (fun j hj e => by have := (hO.row j hj).1; have e' : j = gt := e; omega)
            have hlr : ∀ j, rowOf la = some j → wI.heap.size ≤ j ∧ j < (wr.setCell ⟨gt, 5, none⟩ (.slice la t.args.length lc)).heap.size := fun j hj => ⟨(hO.row j hj).1, by have := (hO.row j hj).2; simpa using this⟩
            have hlc : t.args.length ≤ lc := hO.2.1
            have HTL := Lib.hid hT3
            have HRL := Lib.hid hRl
            have HLR := Lib.hid hlr
            have HGI := Lib.hid hgI
            have HLC := Lib.hid hlc
            have HJ3 := Lib.hid hJ3
            have HA24 := Lib.hid hit
            clear hT' hb3 hJ3 hT3 hRl hlr hgI hlc hO hb HA2 HT HBT
            go_upto_region 16 with (fail)
            generalize wr.setCell ⟨gt, 5, none⟩ (.slice la t.args.length lc) = w3 at *
            clear t5 f5
            have hJ3 := HJ3.out
            have cJ := hJ3.j.c.cell 0 rfl
            have d0 := HTL.out.cell 0 rfl
            have d1 := HTL.out.cell 1 rfl
            have d2 := HTL.out.cell 2 rfl
            have d3 := HTL.out.cell 3 rfl
            have d4 := HTL.out.cell 4 rfl
            have d5 := HTL.out.cell 5 rfl
            have HLEN : Hid ([.int .i64 t.kind, .int .i64 t.number, .int .i64 t.years, .string ⟨t.field.toArray⟩, .string ⟨t.text.toArray⟩, .slice la t.args.length lc] = trC ⟨t.kind, t.number, t.years, t.field, t.text, t.args.map (· + (1 + (m : Int))), la, lc⟩) := Lib.hid (by simp [trC])
            have hnb : n2 ≤ 1000 := by have := hn2.out; omega
            go_wp2_with (at_builtin; refine wpList_app1_at (w0 := w) (B := w.heap.size) (base := w.heap.size) rfl _ _ _ rfl elTrm rfl hJ3.j.o hJ3.j.b (Nat.le_refl _) hJ3.j.b.size (cs := [.int .i64 t.kind, .int .i64 t.number, .int .i64 t.years, .string ⟨t.field.toArray⟩, .string ⟨t.text.toArray⟩, .slice la t.args.length lc]) rfl rfl (by intro u hu; simp at hu; rcases hu with rfl | rfl | rfl | rfl | rfl | rfl <;> rfl) (by omega) ?_; intro a2 c2 wA hO8 hb8 hg8 hat8; obtain ⟨q0, f0⟩ := hJ3.j.old hg8)
            rw [HLEN.out] at hO8
            have hc : ((1 + m : Nat) : Int) = 1 + (m : Int) := by push_cast; rfl
            have hin : Trm.In ⟨t.kind, t.number, t.years, t.field, t.text, t.args.map (· + (1 + (m : Int))), la, lc⟩ := by
              have := shift_in HX.out (mem_at ht) HIn.out (n := 1 + m) (by omega) la lc HLC.out
              rwa [hc] at this
            have hJP := HJ.out
            have hgt := HGT.out
            have hgi := HGI.out
            have hJ9 := hJ3.push (t := ⟨t.kind, t.number, t.years, t.field, t.text, t.args.map (· + (1 + (m : Int))), la, lc⟩) hO8 hb8 hg8 hat8 HRL.out (fun j hj => by
              have h1 := HLR.out j hj
              have h7 := hJP.j.c.lt
              refine ⟨h1.2, by omega, fun e => ?_, ?_⟩
              · have := (hJP.j.o.row j e).2; omega
              · rintro ⟨e, he, rfl⟩
                have := (hJP.bs e he).lt; omega) (fun j hj => by have h1 := HLR.out j hj; have h8 := hJP.j.b.size; omega) hin
            have HJ9 := Lib.hid hJ9
            have HSh : Hid (ShL (1 + m) X (i + 1) (Y ++ [⟨t.kind, t.number, t.years, t.field, t.text, t.args.map (· + (1 + (m : Int))), la, lc⟩])) := Lib.hid (hSh.out.snoc ht.out ⟨rfl, rfl, rfl, rfl, rfl, by rw [hc]⟩)
            clear hJ9 hJP hin hO8 hb8 hg8 hat8 q0 f0 hJ3 cJ d0 d1 d2 d3 d4 d5 hc hgt hgi
            go_roundw
            case rel => exact ⟨i + 1, a2, n2 + 1, c2, Y ++ [⟨t.kind, t.number, t.years, t.field, t.text, t.args.map (· + (1 + (m : Int))), la, lc⟩], by omega, by go_num, by rw [← List.append_assoc, ← hxa]; exact HJ9.out, HSh, Lib.hid (by have := hn2.out; omega)⟩
            case measure => simp [intOf]; omega
theorem joined_walk (kind : Int) (A B : List Trm) (ta tb : Option Addr) (tc td : Nat) (w : World) (hk : 0 ≤ kind ∧ kind ≤ 1000) (hA : Small A) (hB : Small B) (hRA : RdT w ta A) (hRB : RdT w tb B) :
    Calls Tryd.prog 8 #[.int .i64 kind, .agg #[.slice ta A.length tc], .agg #[.slice tb B.length td]] w (JoinRes kind A B w) :=
  (joined_walk2 kind A B ta tb tc td w hk hA hB hRA hRB).mono fun _ _ ⟨J, ja, jc, h1, h2, h3, h4, h5, h6, _⟩ => ⟨J, ja, jc, h1, h2, h3, h4, h5, h6⟩
end Go.Proofs.YtejdaeonknpgeaaDoor
