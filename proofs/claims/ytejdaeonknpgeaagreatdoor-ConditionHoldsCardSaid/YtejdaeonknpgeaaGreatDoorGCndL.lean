/- Conditions: how many persons are needed at least: the program's; slices.Max and slices.Min at numbers. -/
import Derived.Test.YtejdaeonknpgeaaGreatDoorGCndB
import Derived.Test.YtejdaeonknpgeaaGreatDoorCndH
namespace Go.Proofs.YtejdaeonknpgeaaGreatDoor
open Go.RowKit
theorem fold_snoc (g : Int → Int → Int) (x : Int) (l : List Int) (y : Int) : (l ++ [y]).foldl g x = g (l.foldl g x) y := by rw [List.foldl_append]; rfl
theorem maxL_fold {x : Int} {r : List Int} : maxL (x :: r) = r.foldl max x := rfl
set_option maxRecDepth 100000 in
set_option maxHeartbeats 1000000 in
theorem smaxL_walk (a : Option Addr) (l : List Int) (c : Nat) (w : World) (hR : Rd w a (ints l)) (h0 : 0 < l.length) (hl : l.length ≤ 281474976710656) :
    Calls Tryz.prog 49 #[.slice a l.length c] w fun e w' => e = .returned (.int .i64 (maxL l)) ∧ w = w' := by
  obtain ⟨x, r, rfl⟩ : ∃ x r, l = x :: r := by
    cases l with
    | nil => simp at h0
    | cons x r => exact ⟨x, r, rfl⟩
  have HN : Hid (maxL (x :: r) = r.foldl max x) := Lib.hid rfl
  generalize maxL (x :: r) = R at *
  obtain ⟨n, hn⟩ : ∃ n, n = (x :: r).length := ⟨_, rfl⟩
  have hrn : r.length + 1 = n := by rw [hn]; rfl
  have HL := Lib.hid hn
  rw [← hn] at hl h0 ⊢
  obtain ⟨g, off, x', e1, c0, hx⟩ := hR.int (k := 0) (by rw [← hn]; exact h0)
  obtain rfl : x = x' := by have := hx.out; simpa using this
  subst e1
  rw [Nat.add_zero] at c0
  have d1 : decide ((n : Int) < 1) = false := decide_eq_false (by omega)
  have d2 : decide (n < 1) = false := decide_eq_false (by omega)
  have d3 : (0 : Int) < (n : Int) := by omega
  clear hx hn
  go_enter Tryz.func49, Tryz.ntmps49
  go_wp2_with fail
  clear d1 d2 d3 c0
  go_loopw [4, 3] (fun i m wr => ∃ k : Nat, wr = w ∧ k ≤ r.length ∧ i = .int .i64 ((k : Int) + 1) ∧ m = .int .i64 ((r.take k).foldl max x)) (fun i _ _ => n - (intOf i).toNat)
  case atStart => exact ⟨0, rfl, Nat.zero_le _, rfl, rfl⟩
  case round =>
    obtain ⟨k, rfl, hk, rfl, rfl⟩ := hrel
    by_cases hkt : k < r.length
    · have hkl : (k : Int) + 1 < (n : Int) := by omega
      obtain ⟨g', off', y, e', hc, hy⟩ := hR.int (k := k + 1) (by rw [← HL.out]; omega)
      cases e'
      have hc' : wr.cell? ⟨g, off + (k + 1), none⟩ = some (.int .i64 y) := hc
      have hyr : r[k]? = some y := by have := hy.out; simpa using this
      have HF : Hid ((r.take (k + 1)).foldl max x = max ((r.take k).foldl max x) y) := Lib.hid (by rw [take_at (Lib.hid hyr), fold_snoc])
      clear hc hy hyr
      generalize (r.take k).foldl max x = z at *
      have hop : (if z < y then y else z) = max z y := by split <;> omega
      go_wp2
      go_roundw
      case rel => exact ⟨k + 1, trivial, by omega, by go_num, by rw [HF.out]⟩
      case measure => simp [intOf]; omega
    · have hkl : ¬ (k : Int) + 1 < (n : Int) := by omega
      obtain rfl : k = r.length := by omega
      rw [List.take_length, ← HN.out]
      go_wp2
      go_ret
      exact ⟨rfl, rfl⟩
theorem minL_fold {x : Int} {r : List Int} : minL (x :: r) = r.foldl min x := rfl
set_option maxRecDepth 100000 in
set_option maxHeartbeats 1000000 in
theorem sminL_walk (a : Option Addr) (l : List Int) (c : Nat) (w : World) (hR : Rd w a (ints l)) (h0 : 0 < l.length) (hl : l.length ≤ 281474976710656) :
    Calls Tryz.prog 50 #[.slice a l.length c] w fun e w' => e = .returned (.int .i64 (minL l)) ∧ w = w' := by
  obtain ⟨x, r, rfl⟩ : ∃ x r, l = x :: r := by
    cases l with
    | nil => simp at h0
    | cons x r => exact ⟨x, r, rfl⟩
  have HN : Hid (minL (x :: r) = r.foldl min x) := Lib.hid rfl
  generalize minL (x :: r) = R at *
  obtain ⟨n, hn⟩ : ∃ n, n = (x :: r).length := ⟨_, rfl⟩
  have hrn : r.length + 1 = n := by rw [hn]; rfl
  have HL := Lib.hid hn
  rw [← hn] at hl h0 ⊢
  obtain ⟨g, off, x', e1, c0, hx⟩ := hR.int (k := 0) (by rw [← hn]; exact h0)
  obtain rfl : x = x' := by have := hx.out; simpa using this
  subst e1
  rw [Nat.add_zero] at c0
  have d1 : decide ((n : Int) < 1) = false := decide_eq_false (by omega)
  have d2 : decide (n < 1) = false := decide_eq_false (by omega)
  have d3 : (0 : Int) < (n : Int) := by omega
  clear hx hn
  go_enter Tryz.func50, Tryz.ntmps50
  go_wp2_with fail
  clear d1 d2 d3 c0
  go_loopw [4, 3] (fun i m wr => ∃ k : Nat, wr = w ∧ k ≤ r.length ∧ i = .int .i64 ((k : Int) + 1) ∧ m = .int .i64 ((r.take k).foldl min x)) (fun i _ _ => n - (intOf i).toNat)
  case atStart => exact ⟨0, rfl, Nat.zero_le _, rfl, rfl⟩
  case round =>
    obtain ⟨k, rfl, hk, rfl, rfl⟩ := hrel
    by_cases hkt : k < r.length
    · have hkl : (k : Int) + 1 < (n : Int) := by omega
      obtain ⟨g', off', y, e', hc, hy⟩ := hR.int (k := k + 1) (by rw [← HL.out]; omega)
      cases e'
      have hc' : wr.cell? ⟨g, off + (k + 1), none⟩ = some (.int .i64 y) := hc
      have hyr : r[k]? = some y := by have := hy.out; simpa using this
      have HF : Hid ((r.take (k + 1)).foldl min x = min ((r.take k).foldl min x) y) := Lib.hid (by rw [take_at (Lib.hid hyr), fold_snoc])
      clear hc hy hyr
      generalize (r.take k).foldl min x = z at *
      have hop : (if y < z then y else z) = min z y := by split <;> omega
      go_wp2
      go_roundw
      case rel => exact ⟨k + 1, trivial, by omega, by go_num, by rw [HF.out]⟩
      case measure => simp [intOf]; omega
    · have hkl : ¬ (k : Int) + 1 < (n : Int) := by omega
      obtain rfl : k = r.length := by omega
      rw [List.take_length, ← HN.out]
      go_wp2
      go_ret
      exact ⟨rfl, rfl⟩
theorem growA_all {Q : Nat → Prop} {G : Nat → Option Nat} (hG : ∀ n m, G n = some m → n < m ∧ ∀ j, n ≤ j → j < m → Q j) : ∀ (l : List Int) (nx m : Nat), growA G l nx = some m → nx ≤ m ∧ ∀ j, nx ≤ j → j < m → Q j
  | [], nx, m, h => by
    simp only [growA, Option.some.injEq] at h
    subst h
    exact ⟨Nat.le_refl _, fun j h1 h2 => by omega⟩
  | k :: r, nx, m, h => by
    simp only [growA] at h
    split at h
    · split at h
      · next n2 hg =>
        obtain ⟨g1, g2⟩ := hG _ _ hg
        obtain ⟨i1, i2⟩ := growA_all hG r n2 m h
        refine ⟨by omega, fun j h1 h2 => ?_⟩
        by_cases hj : j < n2
        · exact g2 j h1 hj
        · exact i2 j (by omega) h2
      · cases h
    · cases h
theorem growT_len (T : List Trm) : ∀ (d n m : Nat), growT T d n = some m → n < m ∧ ∀ j, n ≤ j → j < m → ∀ t, T[j]? = some t → t.args.length ≤ T.length
  | 0, n, m, h => by simp [growT] at h
  | d + 1, n, m, h => by
    have hs := growT_seg T (d + 1) n m h
    simp only [growT] at h
    split at h
    · cases h
    · next t ht =>
      split at h
      · have hn : n < T.length := (List.getElem?_eq_some_iff.1 ht).1
        have hl := growA_len (T := T) (fun i m h => ⟨(growT_seg T d i m h).1, (growT_seg T d i m h).2.1⟩) t.args (n + 1) m (by omega) h
        have ha := (growA_all (fun i m h => growT_len T d i m h) t.args (n + 1) m h).2
        refine ⟨hs.1, fun j h1 h2 t' ht' => ?_⟩
        by_cases hj : j = n
        · subst hj
          rw [ht] at ht'
          cases ht'
          omega
        · exact ha j (by omega) h2 t' ht'
      · cases h
theorem right_len {T : List Trm} (h : rightC T = true) : ∀ (j : Nat) (t : Trm), T[j]? = some t → t.args.length ≤ T.length := by
  intro j t ht
  simp only [rightC, Bool.and_eq_true, decide_eq_true_eq, beq_iff_eq] at h
  exact (growT_len T 6 0 _ h.2).2 j (Nat.zero_le _) (List.getElem?_eq_some_iff.1 ht).1 t ht
theorem elInt : ElemOf Tryz.prog 22 3 (.int .i64 0) 1 8 := ⟨Tryz.underlying22, by kernel_rfl, rfl, by decide, by decide⟩
/-- the boxes of a turn of least -/
structure Lw (W w : World) (gc gt : Nat) (ta : Option Addr) (T : List Trm) (tc : Nat) (t : Trm) : Prop where
  c : Bx w gc 34 [.slice ta T.length tc]
  tt : Bx w gt 57 (trC t)
  r : RdT w ta T
  a : Rd w t.aa (ints t.args)
  b : Below W.heap.size W w
section
variable {W w w' : World} {gc gt : Nat} {ta : Option Addr} {T : List Trm} {tc : Nat} {t : Trm}
theorem Lw.keep (h : Lw W w gc gt ta T tc t) (hb : Below w.heap.size w w') : Lw W w' gc gt ta T tc t := ⟨h.c.keep hb, h.tt.keep hb, h.r.keep hb, h.a.keep hb, h.b.trans (hb.mono h.b.size)⟩
end
theorem leastT_at {T : List Trm} {f n : Nat} {t : Trm} (h : T[n]? = some t) : leastT T (f + 1) n = if t.kind = 1 then maxL (t.args.map fun a => leastT T f a.toNat) else if t.kind = 2 then minL (t.args.map fun a => leastT T f a.toNat) else if t.kind = 3 ∨ t.kind = 5 ∨ t.kind = 7 then t.number else if t.kind = 4 then min t.number 2 else if t.kind = 6 then 2 else 1 := by
  simp only [leastT, h]
theorem ok_args {t : Trm} (h : okT t = true) (hk : t.kind = 1 ∨ t.kind = 2) : 0 < t.args.length := by
  unfold okT at h
  simp only [Bool.and_eq_true] at h
  have h2 := h.1.2
  rw [show sevB t.kind = true from decide_eq_true hk] at h2
  simpa using h2
set_option maxRecDepth 100000 in
set_option maxHeartbeats 4000000 in
theorem least_walk (T : List Trm) (ta : Option Addr) (tc : Nat) (hS : Seg T 0 T.length) (h24 : T.length ≤ 24) (hSL : ∀ (j : Nat) (t : Trm), T[j]? = some t → t.args.length ≤ T.length) : ∀ (f n : Nat) (w : World), n < T.length → T.length - n ≤ f → RdT w ta T →
    Calls Tryz.prog 34 #[.agg #[.slice ta T.length tc], .int .i64 (n : Int)] w fun e w' => e = .returned (.int .i64 (leastT T f n)) ∧ Below w.heap.size w w' := by
  intro f
  induction f with
  | zero => intro n w hn hf; omega
  | succ f ih =>
    intro n w hn hf hR
    obtain ⟨g1, o1, t, rfl, ht, ⟨c0, c1, c2, c3, c4, c5⟩, hA, hIn⟩ := hR.trm (k := n) hn
    obtain ⟨t', ht', hok, hargs⟩ := hS n (Nat.zero_le _) hn
    rw [ht.out] at ht'
    obtain rfl := Option.some.inj ht'
    have he := leastT_at (f := f) ht.out
    have HOK := Lib.hid (fun hk => ok_args hok hk)
    have IH : Hid (∀ V, RdT V (some ⟨g1, o1, none⟩) T → ∀ r ∈ t.args, Calls Tryz.prog 34 #[.agg #[.slice (some ⟨g1, o1, none⟩) T.length tc], .int .i64 r] V fun e w1 => e = .returned (.int .i64 (leastT T f r.toNat)) ∧ Below V.heap.size V w1) := Lib.hid (fun V hV r hr => by
      have h1 := hargs r hr
      have h2 := ih r.toNat V (by omega) (by omega) hV
      rwa [show ((r.toNat : Nat) : Int) = r by omega] at h2)
    generalize leastT T (f + 1) n = R at *
    generalize leastT T f = LT at *
    have hlen : t.args.length ≤ 24 := Nat.le_trans (hSL _ _ ht.out) h24
    have HE := Lib.hid he
    have b1 := (Below.refl w.heap.size w).alloc (Nat.le_refl _) (.cells #[.slice (some ⟨g1, o1, none⟩) T.length tc] 34)
    have h1 := Bx.new w 34 [.slice (some ⟨g1, o1, none⟩) T.length tc]
    change Bx (w.alloc (.cells #[.slice (some ⟨g1, o1, none⟩) T.length tc] 34)) _ _ _ at h1
    obtain ⟨gc, hgc⟩ : ∃ x, x = w.heap.size := ⟨_, rfl⟩
    have hbw : w.heap.size = gc := hgc.symm
    rw [← hgc] at h1
    have HG := Lib.hid hgc
    have hRq := hR
    have hAq := hA
    have hR1 := hR.keep b1
    have hA1 := hA.keep b1
    clear he ih hargs hR c0 c1 c2 c3 c4 c5 hA hgc hok
    go_enter Tryz.func34, Tryz.ntmps34
    go_upto_region 1 with (fail)
    generalize w.alloc (.cells #[.slice (some ⟨g1, o1, none⟩) T.length tc] 34) = w1 at *
    clear hbw
    have q0 := h1.cell 0 rfl
    obtain ⟨g2, o2, tq, e2, htq, ⟨x0, x1, x2, x3, x4, x5⟩, -, -⟩ := hR1.trm (k := n) hn
    cases e2
    obtain rfl := Option.some.inj (htq.out.symm.trans ht.out)
    have b2 := b1.alloc b1.size (.cells #[.int .i64 tq.kind, .int .i64 tq.number, .int .i64 tq.years, .string ⟨tq.field.toArray⟩, .string ⟨tq.text.toArray⟩, .slice tq.aa tq.args.length tq.ac] 57)
    have h2 := Bx.new w1 57 (trC tq)
    change Bx (w1.alloc (.cells #[.int .i64 tq.kind, .int .i64 tq.number, .int .i64 tq.years, .string ⟨tq.field.toArray⟩, .string ⟨tq.text.toArray⟩, .slice tq.aa tq.args.length tq.ac] 57)) _ _ _ at h2
    have hW : Lw w (w1.alloc (.cells #[.int .i64 tq.kind, .int .i64 tq.number, .int .i64 tq.years, .string ⟨tq.field.toArray⟩, .string ⟨tq.text.toArray⟩, .slice tq.aa tq.args.length tq.ac] 57)) gc w1.heap.size _ T tc tq := ⟨h1.alloc _, h2, hR1.keep ((Below.refl _ _).alloc (Nat.le_refl _) _), hA1.keep ((Below.refl _ _).alloc (Nat.le_refl _) _), b2⟩
    have hgl : gc < w1.heap.size := h1.lt
    have HR0 := Lib.hid hRq
    have HA0 := Lib.hid hAq
    clear h1 h2 hR1 hA1 b1 b2 htq hRq hAq
    go_upto_region 2 with (fail)
    clear q0 x0 x1 x2 x3 x4 x5
    generalize w1.alloc (.cells #[.int .i64 tq.kind, .int .i64 tq.number, .int .i64 tq.years, .string ⟨tq.field.toArray⟩, .string ⟨tq.text.toArray⟩, .slice tq.aa tq.args.length tq.ac] 57) = w2 at *
    generalize w1.heap.size = gt at *
    have z5 := hW.tt.cell 5 rfl
    go_wp2_with fail
    clear z5
    go_loopw [17, 6] (fun iv lv wr => ∃ (j : Nat) (pa : Option Addr) (pc : Nat), j ≤ tq.args.length ∧ iv = .int .i64 (j : Int) ∧ lv = .slice pa j pc ∧ Ow wr (gt + 1) 1 pa j pc (ints ((tq.args.take j).map fun a => LT a.toNat)) ∧ Lw w wr gc gt (some ⟨g1, o1, none⟩) T tc tq) (fun iv _ _ => tq.args.length - (intOf iv).toNat)
    case atStart => exact ⟨0, none, 0, Nat.zero_le _, rfl, rfl, Ow.nil _ _ _, hW⟩
    case round =>
      clear hW
      obtain ⟨j, pa, pc, hj, rfl, rfl, hO, hW⟩ := hrel
      by_cases hjt : j < tq.args.length
      · have hjl : (j : Int) < (tq.args.length : Int) := by omega
        obtain ⟨ga, oa, k, hka, kc, hk⟩ := hW.a.int (k := j) hjt
        have q0 := hW.c.cell 0 rfl
        have K1 := Lib.hid (IH.out wr hW.r k (mem_at hk))
        have HT : Hid (ints ((tq.args.take j).map fun a => LT a.toNat) ++ [.int .i64 (LT k.toNat)] = ints ((tq.args.take (j + 1)).map fun a => LT a.toNat)) := Lib.hid (by rw [ints_snoc, take_at hk, List.map_append]; rfl)
        have HW1 := Lib.hid hW
        have HO1 := Lib.hid hO
        have hgt := hW.tt.lt
        have hcl : w.heap.size ≤ gc := Nat.le_of_eq HG.out.symm
        clear hk hW hO
        rw [hka]
        generalize LT k.toNat = lv at *
        go_wp2_with (first
          | (go_at_call 34; (with_reducible refine K1.out.mono ?_); (first | rintro e w3 ⟨rfl, hb3⟩ | rintro e w3 rfl hb3); have hW3 := HW1.out.keep hb3; have hO3 := HO1.out.keep hb3; have hs3 : gt + 1 ≤ w3.heap.size := hW3.tt.lt)
          | (at_builtin; refine wpList_app1 (w0 := w) (B := w.heap.size) (base := gt + 1) rfl _ _ _ rfl elInt rfl hO3 hW3.b (by omega) hs3 (cs := [.int .i64 lv]) rfl rfl (one1 rfl) (by omega) ?_; intro a2 c2 wA hO8 hb8 hg8))
        have hW8 : Lw w wA gc gt (some ⟨g1, o1, none⟩) T tc tq := by
          have hne : ∀ x, rowOf pa = some x → gt + 1 ≤ x := fun x hx => (hO3.row x hx).1
          refine ⟨hW3.c.grown hg8 (fun e => by have := hne _ e.symm; omega), hW3.tt.grown hg8 (fun e => by have := hne _ e.symm; omega), ?_, ?_, hb8⟩
          · exact HR0.out.keep hb8
          · exact HA0.out.keep hb8
        rw [HT.out] at hO8
        have HW8 := Lib.hid hW8
        have HO8 := Lib.hid hO8
        clear hW8 hO8 hb8 hg8 hW3 hO3
        go_roundw
        case rel => exact ⟨j + 1, a2, c2, by omega, by go_num, rfl, HO8.out, HW8.out⟩
        case measure => simp [intOf]; omega
      · have hjl : ¬ (j : Int) < (tq.args.length : Int) := by omega
        obtain rfl : j = tq.args.length := by omega
        rw [List.take_length] at hO
        have q0 := hW.tt.cell 0 rfl
        have q1 := hW.tt.cell 1 rfl
        have hll : (tq.args.map fun a => LT a.toNat).length = tq.args.length := List.length_map _
        have HO := Lib.hid hO.rd
        have HB := Lib.hid hW.b
        have he := HE.out
        have KX := fun (h0 : 0 < tq.args.length) => smaxL_walk pa (tq.args.map fun a => LT a.toNat) pc wr HO.out (by omega) (by omega)
        have KN := fun (h0 : 0 < tq.args.length) => sminL_walk pa (tq.args.map fun a => LT a.toNat) pc wr HO.out (by omega) (by omega)
        rw [hll] at KX KN
        generalize maxL (tq.args.map fun a => LT a.toNat) = mx at *
        generalize minL (tq.args.map fun a => LT a.toNat) = mn at *
        have HX := Lib.hid KX
        have HN := Lib.hid KN
        clear hO hW hll KX KN HE
        by_cases k1 : tq.kind = 1
        · have b1 : (tq.kind == 1) = true := by rw [beq_iff_eq]; exact k1
          rw [if_pos k1] at he
          have HR := Lib.hid he
          have K := Lib.hid (HX.out (HOK.out (.inl k1)))
          clear he k1
          go_wp2_with (go_at_call 49; (with_reducible refine K.out.mono ?_); (try rintro e w5 ⟨rfl, rfl⟩))
          go_ret
          exact ⟨ret_int HR.out.symm, HB.out⟩
        have b1 : (tq.kind == 1) = false := by rw [beq_eq_false_iff_ne]; exact k1
        rw [if_neg k1] at he
        by_cases k2 : tq.kind = 2
        · have b2 : (tq.kind == 2) = true := by rw [beq_iff_eq]; exact k2
          rw [if_pos k2] at he
          have HR := Lib.hid he
          have K := Lib.hid (HN.out (HOK.out (.inr k2)))
          clear he k2
          go_wp2_with (go_at_call 50; (with_reducible refine K.out.mono ?_); (try rintro e w5 ⟨rfl, rfl⟩))
          go_ret
          exact ⟨ret_int HR.out.symm, HB.out⟩
        have b2 : (tq.kind == 2) = false := by rw [beq_eq_false_iff_ne]; exact k2
        rw [if_neg k2] at he
        by_cases k3 : tq.kind = 3 ∨ tq.kind = 5 ∨ tq.kind = 7
        · rw [if_pos k3] at he
          have HR := Lib.hid he
          clear he k1 k2
          rcases k3 with k3 | k3 | k3
          all_goals
            have b3 : (tq.kind == 3) = decide (tq.kind = 3) := by rw [Bool.eq_iff_iff]; simp
            have b5 : (tq.kind == 5) = decide (tq.kind = 5) := by rw [Bool.eq_iff_iff]; simp
            have b7 : (tq.kind == 7) = decide (tq.kind = 7) := by rw [Bool.eq_iff_iff]; simp
            rw [k3] at b3 b5 b7 q0 b1 b2
            clear k3
            go_wp2
            go_ret
            exact ⟨ret_int HR.out.symm, HB.out⟩
        rw [if_neg k3] at he
        have b3 : (tq.kind == 3) = false := by rw [beq_eq_false_iff_ne]; omega
        have b5 : (tq.kind == 5) = false := by rw [beq_eq_false_iff_ne]; omega
        have b7 : (tq.kind == 7) = false := by rw [beq_eq_false_iff_ne]; omega
        by_cases k4 : tq.kind = 4
        · have b4 : (tq.kind == 4) = true := by rw [beq_iff_eq]; exact k4
          rw [if_pos k4] at he
          have hmin : (if (2 : Int) < tq.number then 2 else tq.number) = min tq.number 2 := by split <;> omega
          have HR := Lib.hid he
          clear he k1 k2 k3 k4
          go_wp2
          go_ret
          exact ⟨ret_int HR.out.symm, HB.out⟩
        have b4 : (tq.kind == 4) = false := by rw [beq_eq_false_iff_ne]; exact k4
        rw [if_neg k4] at he
        by_cases k6 : tq.kind = 6
        · have b6 : (tq.kind == 6) = true := by rw [beq_iff_eq]; exact k6
          rw [if_pos k6] at he
          have HR := Lib.hid he
          clear he k1 k2 k3 k4 k6
          go_wp2
          go_ret
          exact ⟨ret_int HR.out.symm, HB.out⟩
        have b6 : (tq.kind == 6) = false := by rw [beq_eq_false_iff_ne]; exact k6
        rw [if_neg k6] at he
        have HR := Lib.hid he
        clear he k1 k2 k3 k4 k6
        go_wp2
        go_ret
        exact ⟨ret_int HR.out.symm, HB.out⟩
set_option maxRecDepth 100000 in
theorem cleast_walk (T : List Trm) (ta : Option Addr) (tc : Nat) (w : World) (hR : RdT w ta T) (hT : T.length ≤ 9223372036854775807) :
    Calls Tryz.prog 19 #[.agg #[.slice ta T.length tc]] w fun e w' => e = .returned (.int .i64 (leastF T)) ∧ Below w.heap.size w w' := by
  have he : leastF T = if rightC T = true then leastT T T.length 0 else 0 := rfl
  generalize leastF T = R at *
  have b1 := (Below.refl w.heap.size w).alloc (Nat.le_refl _) (.cells #[.slice ta T.length tc] 34)
  have h1 := Bx.new w 34 [.slice ta T.length tc]
  change Bx (w.alloc (.cells #[.slice ta T.length tc] 34)) _ _ _ at h1
  have KV := Lib.hid (cvalid_walk T ta tc _ (hR.keep b1) hT)
  have HR0 := Lib.hid (hR.keep b1)
  obtain ⟨g1, hg1⟩ : ∃ g, g = w.heap.size := ⟨_, rfl⟩
  have hbw : w.heap.size = g1 := hg1.symm
  rw [← hg1] at h1
  have HB := Lib.hid b1
  clear hg1 b1 hR
  go_enter Tryz.func19, Tryz.ntmps19
  go_upto_region 1 with (fail)
  generalize w.alloc (.cells #[.slice ta T.length tc] 34) = w1 at *
  clear hbw
  have c0 := h1.cell 0 rfl
  cases hrt : rightC T with
  | false =>
    rw [hrt] at KV he
    have HR : Hid (R = 0) := Lib.hid (by rw [he]; rfl)
    clear hrt he
    go_wp2_with (go_at_call 17; (with_reducible refine KV.out.mono ?_); (first | rintro e w3 ⟨rfl, hb3⟩ | rintro e w3 rfl hb3))
    go_ret
    exact ⟨ret_int HR.out.symm, below_tr HB.out hb3⟩
  | true =>
    rw [hrt] at KV he
    obtain ⟨hl1, hl2, hseg⟩ := right_all hrt
    have HR : Hid (R = leastT T T.length 0) := Lib.hid (by rw [he, if_pos rfl])
    have KL := Lib.hid (fun V hV => (show Calls Tryz.prog 34 #[.agg #[.slice ta T.length tc], .int .i64 0] V fun e w' => e = .returned (.int .i64 (leastT T T.length 0)) ∧ Below V.heap.size V w' from least_walk T ta tc hseg hl1 (right_len hrt) T.length 0 V hl2 (by omega) hV))
    clear hrt he hl1 hl2 hseg
    go_wp2_with (first | (go_at_call 17; (with_reducible refine KV.out.mono ?_); (first | rintro e w3 ⟨rfl, hb3⟩ | rintro e w3 rfl hb3); have q0 := (h1.keep hb3).cell 0 rfl) | (go_at_call 34; (with_reducible refine (KL.out _ (HR0.out.keep hb3)).mono ?_); (first | rintro e w4 ⟨rfl, hb4⟩ | rintro e w4 rfl hb4)))
    go_ret
    exact ⟨ret_int HR.out.symm, below_tr HB.out (below_tr hb3 hb4)⟩
end Go.Proofs.YtejdaeonknpgeaaGreatDoor
