/- Conditions: a part of a condition as one of its own: the reference's. -/
import Derived.Test.YtejdaeonknpgeaaDoorGCndRE
import Derived.Test.YtejdaeonknpgeaaDoorGCndVW
namespace Go.Proofs.YtejdaeonknpgeaaDoor
open Go.RowKit
theorem RdT.part {w : World} {g off : Nat} {T : List Trm} (h : RdT w (some ⟨g, off, none⟩) T) (n m : Nat) : RdT w (some ⟨g, off + n * 6, none⟩) ((T.drop n).take m) :=
  ⟨(h.rows.rowsDrop trC_len n).rowsTake trC_len m, fun t ht => h.args t (List.mem_of_mem_drop (List.mem_of_mem_take ht)), fun t ht => h.ok t (List.mem_of_mem_drop (List.mem_of_mem_take ht))⟩
/-- the first i terms, their Args by n less -/
def ShP (n : Nat) (A : List Trm) (i : Nat) (X : List Trm) : Prop := X.length = i ∧ ∀ q t, q < i → A[q]? = some t → ∃ t', X[q]? = some t' ∧ headEq t t' = true ∧ t'.args = t.args.map (· - (n : Int))
theorem ShP.snoc {n : Nat} {A : List Trm} {i : Nat} {X : List Trm} {t t' : Trm} (h : ShP n A i X) (ht : A[i]? = some t) (hs : headEq t t' = true) (ha : t'.args = t.args.map (· - (n : Int))) : ShP n A (i + 1) (X ++ [t']) := by
  refine ⟨by rw [List.length_append, h.1]; rfl, fun q s hq hqs => ?_⟩
  by_cases e : q = i
  · subst e
    obtain rfl := Option.some.inj (ht.symm.trans hqs)
    exact ⟨t', by rw [List.getElem?_append_right (by rw [h.1]; exact Nat.le_refl _), h.1, Nat.sub_self]; rfl, hs, ha⟩
  · obtain ⟨s', h1, h2⟩ := h.2 q s (by omega) hqs
    exact ⟨s', by rw [List.getElem?_append_left (by rw [h.1]; omega)]; exact h1, h2⟩
theorem headEq_trans {x y z : Trm} (h : headEq x y = true) : headEq x z = headEq y z := by
  have h1 := (head_iff x y).1 h
  obtain ⟨a1, a2, a3, a4, a5, a6⟩ := h1
  unfold headEq
  rw [a1, a2, a3, a4, a5, a6]
/-- a part's terms against others -/
theorem part_seg {T P X : List Trm} {n e : Nat} (hn : n ≤ e) (he : e ≤ T.length) (h : ShP n ((T.drop n).take (e - n)) (e - n) P) : sameSeg P 0 P.length X = sameSeg T n e X := by
  have hget : ∀ i, i < e - n → ((T.drop n).take (e - n))[i]? = T[n + i]? := fun i hi => by
    rw [List.getElem?_take_of_lt hi, List.getElem?_drop]
  rw [Bool.eq_iff_iff, sameSeg_iff, sameSeg_iff]
  have hl := h.1
  constructor
  · rintro ⟨h1, h2⟩
    refine ⟨by omega, fun i hi => ?_⟩
    obtain ⟨p, x, hp, hx, hh, ha⟩ := h2 i hi
    have hi2 : i < e - n := by omega
    obtain ⟨t, ht⟩ : ∃ t, T[n + i]? = some t := ⟨_, List.getElem?_eq_getElem (by omega)⟩
    obtain ⟨p', hp', hh', ha'⟩ := h.2 i t hi2 (by rw [hget i hi2]; exact ht)
    rw [Nat.zero_add, hp'] at hp
    obtain rfl := Option.some.inj hp
    exact ⟨t, x, ht, hx, by rw [headEq_trans hh']; exact hh, by rw [← ha', ← ha, map_zero]⟩
  · rintro ⟨h1, h2⟩
    refine ⟨by omega, fun i hi => ?_⟩
    obtain ⟨t, x, ht, hx, hh, ha⟩ := h2 i hi
    have hi2 : i < e - n := by omega
    obtain ⟨p', hp', hh', ha'⟩ := h.2 i t hi2 (by rw [hget i hi2]; exact ht)
    exact ⟨p', x, by rwa [Nat.zero_add], hx, by rw [← headEq_trans hh']; exact hh, by rw [map_zero, ha', ha]⟩
def Sml (T : List Trm) : Prop := T.length ≤ 1000 ∧ ∀ t ∈ T, t.args.length ≤ 1000 ∧ ∀ a ∈ t.args, 0 ≤ a ∧ a ≤ 1000
theorem part_in {t : Trm} (hs : t.args.length ≤ 1000 ∧ ∀ a ∈ t.args, 0 ≤ a ∧ a ≤ 1000) (hi : t.In) {m : Nat} (hm : m ≤ 1000) (la : Option Addr) (lc : Nat) (hlc : t.args.length ≤ lc) : Trm.In ⟨t.kind, t.number, t.years, t.field, t.text, t.args.map (· - (m : Int)), la, lc⟩ := by
  refine ⟨hi.1, hi.2.1, hi.2.2.1, fun a ha => ?_, by rw [List.length_map]; exact hlc, by rw [List.length_map]; show t.args.length ≤ _; omega⟩
  obtain ⟨b, hb, rfl⟩ := List.mem_map.1 ha
  have := hs.2 b hb
  exact ⟨by omega, by omega⟩
/-- what part returns -/
def PartRes (m : Nat) (X : List Trm) (w : World) (e : Ending) (w' : World) : Prop := ∃ (P : List Trm) (pa : Option Addr) (pc : Nat), e = .returned (.agg #[.slice pa P.length pc]) ∧ ShP m X X.length P ∧ RdT w' pa P ∧ Below w.heap.size w w'
set_option maxRecDepth 100000 in
set_option maxHeartbeats 8000000 in
theorem part_walk (T : List Trm) (t0 : Trm) (a : Option Addr) (c kk m e : Nat) (w : World) (hR : RdT w a T) (hc : T.length ≤ c) (hS : Sml T) (h0 : T[0]? = some t0) (hk : t0.args[kk]? = some (m : Int)) (he : endF T t0.args kk = e) (hm : m < e) (hel : e ≤ T.length) :
    Calls Tryd.prog 32 #[.agg #[.slice a T.length c], .int .i64 (kk : Int)] w (PartRes m ((T.drop m).take (e - m)) w) := by
  have hkl : kk < t0.args.length := (List.getElem?_eq_some_iff.1 hk).1
  have hT0 : 0 < T.length := by omega
  have h1000 := (hS.2 t0 (List.mem_of_getElem? h0)).1
  have hm1000 : m ≤ 1000 := by have := hS.1; omega
  obtain ⟨g, off, t0', rfl, ht0, ⟨c0, c1, c2, c3, c4, c5⟩, hA0, hI0⟩ := hR.trm (k := 0) hT0
  obtain rfl := Option.some.inj (ht0.out.symm.trans h0)
  rw [Nat.zero_mul, Nat.add_zero] at c5
  obtain ⟨gr, orr, v, hga, hcell, hv⟩ := hA0.int (k := kk) hkl
  obtain rfl := Option.some.inj (hv.out.symm.trans hk)
  rw [hga] at c5
  have b1 := (Below.refl w.heap.size w).alloc (Nat.le_refl _) (.cells #[.slice (some ⟨g, off, none⟩) T.length c] 29)
  have x1 := Bx.new w 29 [.slice (some ⟨g, off, none⟩) T.length c]
  change Bx (w.alloc (.cells #[.slice (some ⟨g, off, none⟩) T.length c] 29)) _ _ _ at x1
  have b2 := b1.alloc b1.size (.cells #[.slice none 0 0] 29)
  have x2 := Bx.new (w.alloc (.cells #[.slice (some ⟨g, off, none⟩) T.length c] 29)) 29 [.slice none 0 0]
  change Bx ((w.alloc (.cells #[.slice (some ⟨g, off, none⟩) T.length c] 29)).alloc (.cells #[.slice none 0 0] 29)) _ _ _ at x2
  have x1' := x1.alloc (.cells #[.slice none 0 0] 29)
  have hz : (w.alloc (.cells #[.slice (some ⟨g, off, none⟩) T.length c] 29)).heap.size = w.heap.size + 1 := by simp
  rw [hz] at x2
  have c5' := cell_keep b2 c5
  have HKC : Hid (∀ V, Below w.heap.size w V → V.cell? ⟨gr, orr + kk, none⟩ = some (.int .i64 (m : Int))) := Lib.hid (fun V hV => cell_keep hV hcell)
  have HEND : Hid (kk + 1 < t0'.args.length → ∃ z, t0'.args[kk + 1]? = some z ∧ z.toNat = e ∧ 0 ≤ z) := Lib.hid (fun h => by
    have e1 : t0'.args[kk + 1]? = some t0'.args[kk + 1] := List.getElem?_eq_getElem h
    refine ⟨_, e1, ?_, ((hS.2 t0' (List.mem_of_getElem? h0)).2 _ (List.getElem_mem h)).1⟩
    unfold endF at he
    rw [e1] at he
    exact he)
  have HEN2 : Hid (¬ kk + 1 < t0'.args.length → T.length = e) := Lib.hid (fun h => by
    unfold endF at he
    rw [List.getElem?_eq_none (by omega)] at he
    exact he)
  have HA0 := Lib.hid hA0
  have HRX := Lib.hid (hR.part m (e - m))
  have HSX : Hid (Sml ((T.drop m).take (e - m))) := Lib.hid ⟨by rw [List.length_take]; have := hS.1; omega, fun t ht => hS.2 t (List.mem_of_mem_drop (List.mem_of_mem_take ht))⟩
  have hXl : ((T.drop m).take (e - m)).length = e - m := by rw [List.length_take, List.length_drop]; omega
  generalize (T.drop m).take (e - m) = X at *
  have hwk : IntKind.i64.wrap ((kk : Int) + 1) = ((kk + 1 : Nat) : Int) := by rw [IntKind.wrap_i64]; omega
  have hkl2 : (kk : Int) < (t0'.args.length : Int) := by omega
  have hTz : (0 : Int) < (T.length : Int) := by omega
  have hT1000 := hS.1
  clear x1 b1 hR hz hA0 hI0 c0 c1 c2 c3 c4 c5 hcell he hS ht0 h0 hv hk
  go_enter Tryd.func32, Tryd.ntmps32
  go_upto_region 1 with (fail)
  generalize (w.alloc (.cells #[.slice (some ⟨g, off, none⟩) T.length c] 29)).alloc (.cells #[.slice none 0 0] 29) = w1 at *
  have y1 := x1'.cell 0 rfl
  have hlt0 : decide (((kk + 1 : Nat) : Int) < (t0'.args.length : Int)) = decide (kk + 1 < t0'.args.length) := by rw [decide_eq_decide]; omega
  generalize decide (kk + 1 < t0'.args.length) = bl at *
  go_upto_if 25 with (fail)
  clear c5'
  go_cut [6] (fun v wx => v = .int .i64 (e : Int) ∧ wx = w1)
  case first =>
    by_cases hlt : kk + 1 < t0'.args.length
    · obtain ⟨z, hz1, hz2, hz3⟩ := HEND.out hlt
      obtain ⟨gr', or', v', hga', hcell', hv'⟩ := (HA0.out.keep b2).int (k := kk + 1) hlt
      obtain rfl := Option.some.inj (hv'.out.symm.trans hz1)
      rw [hga] at hga'
      cases hga'
      have hlt2 : ((kk + 1 : Nat) : Int) < (t0'.args.length : Int) := by omega
      have HZ : Hid (v' = (e : Int)) := Lib.hid (by omega)
      clear hz1 hz2 hz3 hv'
      go_wp2_with fail
      go_meet
      exact ⟨by rw [HZ.out], rfl⟩
    · have hlt2 : ¬ ((kk + 1 : Nat) : Int) < (t0'.args.length : Int) := by omega
      have HZ : Hid (T.length = e) := Lib.hid (HEN2.out hlt)
      go_wp2_with fail
      go_meet
      exact ⟨by rw [HZ.out], rfl⟩
  case rest =>
  obtain ⟨rfl, hww⟩ := hcut
  subst hww
  have b3 := b2.alloc b2.size (.cells #[.slice none 0 0] 29)
  have x3 := Bx.new wc 29 [.slice none 0 0]
  change Bx (wc.alloc (.cells #[.slice none 0 0] 29)) _ _ _ at x3
  have x1'' := x1'.alloc (.cells #[.slice none 0 0] 29)
  have x2'' := x2.alloc (.cells #[.slice none 0 0] 29)
  obtain ⟨Bs, hBs⟩ : ∃ Bs, Bs = [(w.heap.size, 29, [Value.slice (some ⟨g, off, none⟩) T.length c]), (w.heap.size + 1, 29, [.slice none 0 0])] := ⟨_, rfl⟩
  have hJ : Jf w (wc.alloc (.cells #[.slice none 0 0] 29)) Bs wc.heap.size none 0 0 [] := by
    have l1 := x2.lt
    subst hBs
    refine ⟨⟨x3, Ow.nil _ _ _, rfl, fun t ht => by simp at ht, fun t ht => by simp at ht, fun j hj => by simp [rowOf] at hj, b3, b2.size, fun t ht => by simp at ht⟩, fun q hq => ?_, fun q hq => ?_⟩
    · simp only [List.mem_cons, List.not_mem_nil, or_false] at hq
      rcases hq with rfl | rfl
      · exact x1''
      · exact x2''
    · simp only [List.mem_cons, List.not_mem_nil, or_false] at hq
      rcases hq with rfl | rfl
      all_goals dsimp only; omega
  have HBs := Lib.hid hBs
  have hk2 := HKC.out _ b3
  have y2 := x1''.cell 0 rfl
  clear b2 x1' x2 b3 x3 x1'' x2'' hBs y1 HEND HEN2 HA0
  go_upto_region 6 with (fail)
  generalize hg7 : wc.heap.size = g7 at *
  generalize wc.alloc (.cells #[.slice none 0 0] 29) = w2 at *
  clear hg7
  have z2 := fun d os => cell_regrown y2 d os
  have z3 := fun d os => cell_regrown hk2 d os
  have s1 : (0 : Int) ≤ (m : Int) := by omega
  have s2 : (m : Int) ≤ (e : Int) := by omega
  have s3 : (e : Int) ≤ (c : Int) := by omega
  have s4 : m ≤ e := by omega
  have s5 : e ≤ c := by omega
  refine wp_region_quiet_below (by kernel_rfl) (by kernel_rfl) ?_
  repeat (go_big_quiet_step (fail))
  refine wpQuiet_nil ?_
  rintro w7 ⟨p2, hw7⟩
  have hb := show Below w2.heap.size w2 w7 by first | (rw [hw7]; exact below_regrown w2 p2.d p2.os) | (rw [← hw7]; exact below_regrown w2 p2.d p2.os)
  replace hJ := hJ.keep hb
  clear hw7 z2 z3 y2 hk2 s1 s2 s3 s4 s5 hb
  go_wp2_with fail
  go_loopw [40] (fun iv wr => ∃ (i : Nat) (ja : Option Addr) (n jc : Nat) (P : List Trm), i ≤ X.length ∧ iv = .int .i64 (i : Int) ∧ Jf w wr Bs g7 ja n jc P ∧ Hid (ShP m X i P) ∧ Hid (n = i)) (fun iv _ => X.length - (intOf iv).toNat)
  case atStart => exact ⟨0, none, 0, 0, [], Nat.zero_le _, rfl, hJ, Lib.hid ⟨rfl, fun q t h => absurd h (by omega)⟩, Lib.hid rfl⟩
  case round =>
    clear hJ
    obtain ⟨i, ja2, n2, jc2, P, hi, rfl, hJ, hSh, hn2⟩ := hrel
    by_cases hit : i < X.length
    rotate_left
    · have hil : ¬ (i : Int) < (X.length : Int) := by omega
      have hil2 : ¬ (i : Int) < ((e - m : Nat) : Int) := by omega
      obtain rfl : i = X.length := by omega
      have c0 := hJ.j.c.cell 0 rfl
      have r0 := (hJ.bs (w.heap.size + 1, 29, [.slice none 0 0]) (by rw [HBs.out]; simp)).cell 0 rfl
      have f0 := (hJ.bs (w.heap.size + 1, 29, [.slice none 0 0]) (by rw [HBs.out]; simp)).free 0
      have hr6 := (hJ.bs (w.heap.size + 1, 29, [.slice none 0 0]) (by rw [HBs.out]; simp))
      obtain rfl := hJ.j.n
      have hkk := setCell_kp wr (w.heap.size + 1) 0 (.slice ja2 P.length jc2) (S := fun j => j = w.heap.size + 1) rfl
      have hmem : ∃ e ∈ Bs, e.1 = w.heap.size + 1 := ⟨(w.heap.size + 1, 29, [.slice none 0 0]), by rw [HBs.out]; simp, rfl⟩
      have hRd : RdT (wr.setCell ⟨w.heap.size + 1, 0, none⟩ (.slice ja2 P.length jc2)) ja2 P :=
        (⟨hJ.j.o.rd, fun t ht => (hJ.j.rows t ht).1, hJ.j.inn⟩ : RdT wr ja2 P).kp hkk (fun j hj e => by have e' : j = w.heap.size + 1 := e; subst e'; exact (hJ.j.nc _ hj).2 hmem) (fun t ht j hj e => by have e' : j = w.heap.size + 1 := e; subst e'; exact ((hJ.j.rows t ht).2 _ hj).2.2.2 hmem)
      have HF := Lib.hid (hr6.set 0 (.slice ja2 P.length jc2))
      have HRd := Lib.hid hRd
      have HBl := Lib.hid (hJ.j.b.setCell (p := ⟨w.heap.size + 1, 0, none⟩) (by show w.heap.size ≤ w.heap.size + 1; omega) (.slice ja2 P.length jc2))
      clear hJ hr6 hkk hmem hRd
      go_wp2
      exact bodyPost_ret (Cond.ret (t := 4) rfl _ rfl HF.out) rfl ⟨P, ja2, jc2, rfl, hSh.out, HRd.out, HBl.out⟩
    have hil : (i : Int) < (X.length : Int) := by omega
    have hil2 : (i : Int) < ((e - m : Nat) : Int) := by omega
    have hwi : IntKind.i64.wrap ((i : Int) + 1) = (i : Int) + 1 := by rw [IntKind.wrap_i64]; omega
    obtain ⟨gx, ox, t, hxa, ht, ⟨c0, c1, c2, c3, c4, c5⟩, hAt, hIn⟩ := (HRX.out.keep hJ.j.b).trm (k := i) hit
    cases hxa
    have hml : t.args.length ≤ 1000 := (HSX.out.2 t (mem_at ht)).1
    have hmb := Lib.hid (HSX.out.2 t (mem_at ht))
    have bT := (Below.refl wr.heap.size wr).alloc (Nat.le_refl _) (.cells #[.int .i64 t.kind, .int .i64 t.number, .int .i64 t.years, .string ⟨t.field.toArray⟩, .string ⟨t.text.toArray⟩, .slice t.aa t.args.length t.ac] 47)
    have hT := Bx.new wr 47 [.int .i64 t.kind, .int .i64 t.number, .int .i64 t.years, .string ⟨t.field.toArray⟩, .string ⟨t.text.toArray⟩, .slice t.aa t.args.length t.ac]
    change Bx (wr.alloc (.cells #[.int .i64 t.kind, .int .i64 t.number, .int .i64 t.years, .string ⟨t.field.toArray⟩, .string ⟨t.text.toArray⟩, .slice t.aa t.args.length t.ac] 47)) _ _ _ at hT
    have HA2 := Lib.hid (hAt.keep bT)
    have HIn := Lib.hid hIn
    clear hAt hIn
    go_upto_region 9 with (fail)
    obtain ⟨wP, hwP⟩ : ∃ x, x = wr := ⟨_, rfl⟩
    rw [← hwP] at hJ bT hT HA2 ⊢
    clear c0 c1 c2 c3 c4 c5 hwP
    have HT := Lib.hid hT
    have HBT := Lib.hid bT
    have HJ := Lib.hid hJ
    generalize wP.alloc (.cells #[.int .i64 t.kind, .int .i64 t.number, .int .i64 t.years, .string ⟨t.field.toArray⟩, .string ⟨t.text.toArray⟩, .slice t.aa t.args.length t.ac] 47) = wI at *
    have t5 := hT.cell 5 rfl
    generalize hgt : wP.heap.size = gt at *
    have HGT := Lib.hid hgt
    have HBI : Hid (Below w.heap.size w wI) := Lib.hid (hJ.j.b.trans (bT.mono (by have := hJ.j.b.size; omega)))
    clear hJ bT hT hgt
    go_upto_region 11 with (fail)
    clear t5
    go_loopw [47, 10] (fun qv lv wr => ∃ (q : Nat) (la : Option Addr) (lc : Nat), q ≤ t.args.length ∧ qv = .int .i64 (q : Int) ∧ lv = .slice la q lc ∧ Ow wr wI.heap.size 1 la q lc (ints ((t.args.take q).map (· - (m : Int)))) ∧ Below wI.heap.size wI wr) (fun qv _ _ => t.args.length - (intOf qv).toNat)
    case atStart => exact ⟨0, none, 0, Nat.zero_le _, rfl, rfl, Ow.nil _ _ _, Below.refl _ _⟩
    case round =>
      obtain ⟨q, la, lc, hq, rfl, rfl, hO, hb⟩ := hrel
      by_cases hqt : q < t.args.length
      · have hql : (q : Int) < (t.args.length : Int) := by omega
        obtain ⟨ga, oa, v, hka, kc, hv⟩ := (HA2.out.keep hb).int (k := q) hqt
        have hvb := hmb.out.2 v (mem_at hv)
        have hwv : IntKind.i64.wrap (v - (m : Int)) = v - (m : Int) := by rw [IntKind.wrap_i64]; omega
        have hwq : IntKind.i64.wrap ((q : Int) + 1) = (q : Int) + 1 := by rw [IntKind.wrap_i64]; omega
        have HV : Hid (ints ((t.args.take q).map (· - (m : Int))) ++ [.int .i64 (v - (m : Int))] = ints ((t.args.take (q + 1)).map (· - (m : Int)))) := Lib.hid (by rw [ints_snoc, take_at hv, List.map_append]; rfl)
        have kk2 := HKC.out _ (HBI.out.trans (hb.mono HBI.out.size))
        clear hv hvb
        rw [hka]
        go_wp2_with (at_builtin; refine wpList_app1 (w0 := wI) (B := wI.heap.size) (base := wI.heap.size) rfl _ _ _ rfl elIntK rfl hO hb (Nat.le_refl _) hb.size (cs := [.int .i64 (v - (m : Int))]) rfl rfl (one1 rfl) (by omega) ?_; intro a2 c2 wA hO8 hb8 hg8)
        rw [HV.out] at hO8
        clear hg8 hO hb kk2
        go_roundw
        case rel => exact ⟨q + 1, a2, c2, by omega, by go_num, rfl, hO8, hb8⟩
        case measure => simp [intOf]; omega
      · have hql : ¬ (q : Int) < (t.args.length : Int) := by omega
        obtain rfl : q = t.args.length := by omega
        rw [List.take_length] at hO
        have hT' := HT.out.keep hb
        have t5 := hT'.cell 5 rfl
        have f5 := hT'.free 5
        have hgI : gt < wI.heap.size := HT.out.lt
        have hb3 := (HBT.out.trans (hb.mono (Nat.le_of_lt hgI))).setCell (p := ⟨gt, 5, none⟩) (Nat.le_refl _) (.slice la t.args.length lc)
        have hJ3 := HJ.out.keep (by rw [HGT.out]; exact hb3)
        have hT3 := hT'.set 5 (.slice la t.args.length lc)
        change Bx _ _ _ [.int .i64 t.kind, .int .i64 t.number, .int .i64 t.years, .string ⟨t.field.toArray⟩, .string ⟨t.text.toArray⟩, .slice la t.args.length lc] at hT3
        have hRl := hO.rd.kp (setCell_kp wr gt 5 (.slice la t.args.length lc) (S := fun j => j = gt) rfl) (fun j hj e => by have := (hO.row j hj).1; have e' : j = gt := e; omega)
        have hlr : ∀ j, rowOf la = some j → wI.heap.size ≤ j ∧ j < (wr.setCell ⟨gt, 5, none⟩ (.slice la t.args.length lc)).heap.size := fun j hj => ⟨(hO.row j hj).1, by have := (hO.row j hj).2; simpa using this⟩
        have hlc : t.args.length ≤ lc := hO.2.1
        have HTL := Lib.hid hT3
        have HRL := Lib.hid hRl
        have HLR := Lib.hid hlr
        have HGI := Lib.hid hgI
        have HLC := Lib.hid hlc
        have HJ3 := Lib.hid hJ3
        clear hT' hb3 hJ3 hT3 hRl hlr hgI hlc hO hb HA2 HT HBT
        go_upto_region 16 with (fail)
        generalize wr.setCell ⟨gt, 5, none⟩ (.slice la t.args.length lc) = w3 at *
        clear t5 f5
        have hJ3 := HJ3.out
        have cJ := hJ3.j.c.cell 0 rfl
        have d0 := HTL.out.cell 0 rfl
        have d1 := HTL.out.cell 1 rfl
        have d2 := HTL.out.cell 2 rfl
        have d3 := HTL.out.cell 3 rfl
        have d4 := HTL.out.cell 4 rfl
        have d5 := HTL.out.cell 5 rfl
        have HLEN : Hid ([.int .i64 t.kind, .int .i64 t.number, .int .i64 t.years, .string ⟨t.field.toArray⟩, .string ⟨t.text.toArray⟩, .slice la t.args.length lc] = trC ⟨t.kind, t.number, t.years, t.field, t.text, t.args.map (· - (m : Int)), la, lc⟩) := Lib.hid (by simp [trC])
        have hnb : n2 ≤ 1000 := by have := hn2.out; have := HSX.out.1; omega
        go_wp2_with (at_builtin; refine wpList_app1_at (w0 := w) (B := w.heap.size) (base := w.heap.size) rfl _ _ _ rfl elTrm rfl hJ3.j.o hJ3.j.b (Nat.le_refl _) hJ3.j.b.size (cs := [.int .i64 t.kind, .int .i64 t.number, .int .i64 t.years, .string ⟨t.field.toArray⟩, .string ⟨t.text.toArray⟩, .slice la t.args.length lc]) rfl rfl (by intro u hu; simp at hu; rcases hu with rfl | rfl | rfl | rfl | rfl | rfl <;> rfl) (by omega) ?_; intro a2 c2 wA hO8 hb8 hg8 hat8; obtain ⟨q0, f0⟩ := hJ3.j.old hg8)
        rw [HLEN.out] at hO8
        have hin : Trm.In ⟨t.kind, t.number, t.years, t.field, t.text, t.args.map (· - (m : Int)), la, lc⟩ := part_in hmb.out HIn.out hm1000 la lc HLC.out
        have hJP := HJ.out
        have hgt := HGT.out
        have hgi := HGI.out
        have hJ9 := hJ3.push (t := ⟨t.kind, t.number, t.years, t.field, t.text, t.args.map (· - (m : Int)), la, lc⟩) hO8 hb8 hg8 hat8 HRL.out (fun j hj => by
          have h1 := HLR.out j hj
          have h7 := hJP.j.c.lt
          refine ⟨h1.2, by omega, fun e => ?_, ?_⟩
          · have := (hJP.j.o.row j e).2; omega
          · rintro ⟨e, he, rfl⟩
            have := (hJP.bs e he).lt; omega) (fun j hj => by have h1 := HLR.out j hj; have h8 := hJP.j.b.size; omega) hin
        have HJ9 := Lib.hid hJ9
        have HSh : Hid (ShP m X (i + 1) (P ++ [⟨t.kind, t.number, t.years, t.field, t.text, t.args.map (· - (m : Int)), la, lc⟩])) := Lib.hid (hSh.out.snoc ht.out ((head_iff _ _).2 ⟨rfl, rfl, rfl, rfl, rfl, by simp⟩) rfl)
        clear hJ9 hJP hin hO8 hb8 hg8 hat8 q0 f0 hJ3 cJ d0 d1 d2 d3 d4 d5 hgt hgi
        go_roundw
        case rel => exact ⟨i + 1, a2, n2 + 1, c2, P ++ [⟨t.kind, t.number, t.years, t.field, t.text, t.args.map (· - (m : Int)), la, lc⟩], by omega, by go_num, HJ9.out, HSh, Lib.hid (by have := hn2.out; omega)⟩
        case measure => simp [intOf]; omega
end Go.Proofs.YtejdaeonknpgeaaDoor
