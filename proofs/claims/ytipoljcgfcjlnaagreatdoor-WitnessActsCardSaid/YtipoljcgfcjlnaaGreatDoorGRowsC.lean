/- Slices of structs of any number of cells: their cells, in plain Lean; what is read of them, and slices of the call's own. -/
import Derived.Test.YtipoljcgfcjlnaaGreatDoorBase
import Derived.Test.YtipoljcgfcjlnaaGreatDoorGPutR
import Derived.Test.YtipoljcgfcjlnaaGreatDoorGCustodyT
import Derived.Test.YtipoljcgfcjlnaaGreatDoorGDice
namespace Go.Proofs.YtipoljcgfcjlnaaGreatDoor
open Go.RowKit
theorem grown_tr {a b c : World} {row : Option Nat} (h : a.grownBy b row) (k : b.grownBy c row) : a.grownBy c row :=
  ⟨k.os.trans h.os, k.tape.trans h.tape, k.output.trans h.output, Nat.le_trans h.size k.size, fun j hj hne => (k.block j (Nat.lt_of_lt_of_le hj h.size) hne).trans (h.block j hj hne)⟩
variable {α : Type} {f : α → List Value} {k : Nat}
/-- the cells of a list of rows -/
def rowsC (f : α → List Value) (l : List α) : List Value := l.flatMap f
theorem rowsC_nil : rowsC f [] = [] := rfl
theorem rowsC_cons (x : α) (l : List α) : rowsC f (x :: l) = f x ++ rowsC f l := by simp [rowsC]
theorem rowsC_append (a b : List α) : rowsC f (a ++ b) = rowsC f a ++ rowsC f b := by simp [rowsC]
theorem rowsC_single (x : α) : rowsC f [x] = f x := by simp [rowsC]
theorem rowsC_length (hf : ∀ x, (f x).length = k) (l : List α) : (rowsC f l).length = l.length * k := by
  induction l with
  | nil => simp [rowsC]
  | cons x l ih => rw [rowsC_cons, List.length_append, ih, hf, List.length_cons, Nat.succ_mul]; omega
theorem rowsC_one (h1 : ∀ x, ∀ u ∈ f x, u.oneCell' = true) (l : List α) : ∀ u ∈ rowsC f l, u.oneCell' = true := by
  intro u hu
  obtain ⟨x, _, hx⟩ := List.mem_flatMap.1 hu
  exact h1 x u hx
theorem rowsC_drop (hf : ∀ x, (f x).length = k) (l : List α) (i : Nat) : rowsC f (l.drop i) = (rowsC f l).drop (i * k) := by
  induction l generalizing i with
  | nil => simp [rowsC]
  | cons x l ih =>
    cases i with
    | zero => simp
    | succ i =>
      rw [List.drop_succ_cons, ih, rowsC_cons, Nat.succ_mul, List.drop_append, hf, show (f x).drop (i * k + k) = [] from List.drop_eq_nil_of_le (by rw [hf]; omega), List.nil_append]
      congr 1; omega
theorem rowsC_take (hf : ∀ x, (f x).length = k) (l : List α) (i : Nat) : rowsC f (l.take i) = (rowsC f l).take (i * k) := by
  induction l generalizing i with
  | nil => simp [rowsC]
  | cons x l ih =>
    cases i with
    | zero => simp [rowsC]
    | succ i =>
      rw [List.take_succ_cons, rowsC_cons, ih, rowsC_cons, Nat.succ_mul, List.take_append, hf, List.take_of_length_le (l := f x) (by rw [hf]; omega)]
      congr 2; omega
theorem rowsC_get (hf : ∀ x, (f x).length = k) {l : List α} {i : Nat} {x : α} (h : l[i]? = some x) {j : Nat} (hj : j < k) : (rowsC f l)[i * k + j]? = (f x)[j]? := by
  rw [← List.getElem?_drop, ← rowsC_drop hf]
  obtain ⟨hi, rfl⟩ := List.getElem?_eq_some_iff.1 h
  rw [List.drop_eq_getElem_cons hi, rowsC_cons, List.getElem?_append_left (by rw [hf]; exact hj)]
/-- the cells of a row whose cells are read -/
theorem Rd.rows {w : World} {a : Option Addr} {l : List α} (hf : ∀ x, (f x).length = k) (hk : 0 < k) (h : Rd w a (rowsC f l)) {i : Nat} (hi : i < l.length) :
    ∃ g off x, a = some ⟨g, off, none⟩ ∧ Hid (l[i]? = some x) ∧ ∀ j v, (f x)[j]? = some v → w.cell? ⟨g, off + i * k + j, none⟩ = some v := by
  have hr : l[i]? = some l[i] := List.getElem?_eq_getElem hi
  obtain ⟨g, off, ha, hc⟩ := h.at (by rw [rowsC_length hf]; exact Nat.mul_pos (by omega) hk)
  refine ⟨g, off, l[i], ha, hr, fun j v hj => ?_⟩
  have hjk : j < k := by
    have := (List.getElem?_eq_some_iff.1 hj).1
    rwa [hf] at this
  have := hc (i * k + j) v (by rw [rowsC_get hf hr hjk]; exact hj)
  rwa [← Nat.add_assoc] at this
theorem Rd.takes {w : World} {a : Option Addr} {xs : List Value} (h : Rd w a xs) (n : Nat) : Rd w a (xs.take n) := fun j u hj => by
  rw [List.getElem?_take] at hj
  split at hj
  · exact h j u hj
  · cases hj
theorem Rd.rowsTake {w : World} {a : Option Addr} {l : List α} (hf : ∀ x, (f x).length = k) (h : Rd w a (rowsC f l)) (i : Nat) : Rd w a (rowsC f (l.take i)) := by
  rw [rowsC_take hf]; exact h.takes _
theorem Rd.rowsDrop {w : World} {g off : Nat} {l : List α} (hf : ∀ x, (f x).length = k) (h : Rd w (some ⟨g, off, none⟩) (rowsC f l)) (i : Nat) : Rd w (some ⟨g, off + i * k, none⟩) (rowsC f (l.drop i)) := Rd.mk fun j u hj => by
  rw [rowsC_drop hf, List.getElem?_drop] at hj
  obtain ⟨g', off', ha, hc⟩ := h _ u hj
  cases ha
  rwa [← Nat.add_assoc] at hc
end Go.Proofs.YtipoljcgfcjlnaaGreatDoor
/- The kit's chains: right chains of short records. -/
namespace Go.Proofs.YtipoljcgfcjlnaaGreatDoor
open Go.RowKit
set_option maxRecDepth 100000 in
theorem body_walk (s t : List UInt8) (w : World) (hs : s.length ≤ 281474976710656) (ht : t.length ≤ 281474976710656) :
    Calls Tryz.prog 23 #[.string ⟨s.toArray⟩, .string ⟨t.toArray⟩] w fun e w' => e = .returned (.string ⟨(putText s ++ t).toArray⟩) ∧ Below w.heap.size w w' := by
  have h := putInt_ten (I64.nat hs)
  have hl : (putText s).length ≤ 281474976710666 := by simp only [putText, List.length_append]; omega
  have k1 : ∀ V, Calls Tryz.prog 38 #[.string ⟨#[]⟩, .string ⟨s.toArray⟩] V fun e w' => e = .returned (.string ⟨(putText s).toArray⟩) ∧ Below V.heap.size V w' := fun V => rputText_walk [] s V (by simp) hs
  have K1 := Lib.hid k1
  generalize putText s = z at *
  clear k1 h
  have hlim : ¬ (9223372036854775807 < z.length + t.length) := by omega
  go_enter Tryz.func23, Tryz.ntmps23
  go_wp2_with (go_at_call 38; (with_reducible refine (K1.out _).mono ?_))
  rintro e w1 ⟨rfl, hb1⟩
  go_wp2
  go_ret
  exact ⟨rfl, hb1⟩
/-- a chain that the kit makes: right, of so many records at most, with short bodies -/
structure Kit (L : List Rec) (most : Nat) (t : Int) : Prop where
  right : Right L L.length
  num : L.length ≤ most
  time : (lastF L).2 ≤ t
  ins : ∀ r ∈ L, r.In
theorem Kit.nil (t : Int) (h : 0 ≤ t) : Kit [] 0 t := ⟨Right.zero _, Nat.le_refl _, h, by simp⟩
theorem Kit.snoc {L : List Rec} {m : Nat} {t t' k : Int} {body : List UInt8} (h : Kit L m t) (hm : m < 1024) (htt : t ≤ t') (h0 : 0 ≤ t' ∧ t' ≤ 1099511627776) (hk : 1 ≤ k ∧ k ≤ 7) (hb : body.length ≤ 16384) :
    addF L t' k body = 0 ∧ Kit (addL L t' k body) (m + 1) t' := by
  have hn := h.num
  have hti := h.time
  have hA := addF_ok (t := t') (k := k) (body := body) h.right (by omega) (by omega) h0 hk hb
  have hL : addL L t' k body = L ++ [⟨L.length, t', k, body, (lastF L).1⟩] := by rw [addL, hA, if_pos rfl]
  refine ⟨hA, ?_⟩
  rw [hL]
  refine ⟨?_, by rw [List.length_append]; show L.length + 1 ≤ m + 1; omega, by rw [lastF_snoc]; exact Int.le_refl _, fun r hr => ?_⟩
  · have := h.right.snoc (t := t') (k := k) (body := body) (by omega) (by omega) h0 hk hb
    rw [List.length_append]; exact this
  · rw [List.mem_append, List.mem_singleton] at hr
    rcases hr with hr | rfl
    · exact h.ins r hr
    · exact Rec.In.mk (by constructor <;> (dsimp only; omega)) (by constructor <;> (dsimp only; omega)) (by constructor <;> (dsimp only; omega))
/-- the dice, and a chain under way -/
structure Ch (W w0 w : World) (db : Nat) (p : Option Addr) (l : List Int) (cap q : Nat) (sa : Option Addr) (k sc : Nat) (L : List Rec) : Prop where
  env : Env W w db p l cap q
  own : Ow w w0.heap.size 5 sa k sc (recs L)
  grow : w0.grownBy w (some db)
theorem Ch.keep {W w0 w w' : World} {db : Nat} {p : Option Addr} {l : List Int} {cap q : Nat} {sa : Option Addr} {k sc : Nat} {L : List Rec} (h : Ch W w0 w db p l cap q sa k sc L) (hb : Below w.heap.size w w') : Ch W w0 w' db p l cap q sa k sc L :=
  ⟨h.env.keep hb, h.own.keep hb, grown_tr h.grow (below_grownBy hb _)⟩
theorem Ch.next {W w0 w w' : World} {db : Nat} {p : Option Addr} {l : List Int} {cap q q' : Nat} {sa : Option Addr} {k sc : Nat} {L : List Rec} (h : Ch W w0 w db p l cap q sa k sc L) (hne : 0 < l.length → ∀ g off, p = some ⟨g, off, none⟩ → g ≠ db) (hdb : W.heap.size ≤ db) (hw : db < w0.heap.size)
    (hD : Dice w' db p l cap q') (hg : w.grownBy w' (some db)) : Ch W w0 w' db p l cap q' sa k sc L := by
  refine ⟨h.env.grown hne hdb hD hg, h.own.kept hg ?_, grown_tr h.grow hg⟩
  cases hr : rowOf sa with
  | none => exact .inl rfl
  | some j => have := (h.own.row j hr).1; exact .inr (by simp; omega)
set_option maxRecDepth 100000 in
set_option maxHeartbeats 4000000 in
theorem chain_walk (W : World) (db : Nat) (p : Option Addr) (l : List Int) (cap q : Nat) (most : Nat) (w : World) (hE : Env W w db p l cap q) (hR : Rd W p (ints l)) (hdb : W.heap.size ≤ db) (hlen : l.length ≤ 281474976710656) (hm : most ≤ 1000) :
    Calls Tryz.prog 7 #[.pointer (some ⟨db, 0, none⟩), .int .i64 (most : Int)] w fun e w' => ∃ L a' c' t q', e = .returned (.slice a' L.length c') ∧ Kit L most t ∧ Ow w' w.heap.size 5 a' L.length c' (recs L) ∧ Env W w' db p l cap q' ∧ w.grownBy w' (some db) := by
  have hne := rd_ne hR hdb
  have HNE := Lib.hid hne
  have HRW := Lib.hid hR
  have hwl := hE.dice.lt
  clear hne hR
  go_enter Tryz.func7, Tryz.ntmps7
  go_wp2_with (go_at_call 10; (with_reducible refine (next_walk db p l cap q 5 _ hE.dice hE.rd HNE.out hlen (by omega) (by omega)).mono ?_))
  rintro e w1 ⟨rfl, hD1, hg1⟩
  replace hE := hE.grown HNE.out hdb hD1 hg1
  have t1 := dnum_lo l q (n := 5) (by omega)
  have t2 := dnum_hi l q (n := 5) (by omega)
  generalize dnum l q 5 = tm at *
  generalize dnxt l q = q1 at *
  clear hD1
  go_wp2_with (go_at_call 10; (with_reducible refine (next_walk db p l cap q1 ((most : Int) + 1) _ hE.dice hE.rd HNE.out hlen (by omega) (by omega)).mono ?_))
  rintro e w2 ⟨rfl, hD2, hg2⟩
  replace hE := hE.grown HNE.out hdb hD2 hg2
  have hG : w.grownBy w2 (some db) := grown_tr hg1 hg2
  have n1 := dnum_lo l q1 (n := (most : Int) + 1) (by omega)
  have n2 := dnum_hi l q1 (n := (most : Int) + 1) (by omega)
  obtain ⟨N, hN⟩ : ∃ N : Nat, dnum l q1 ((most : Int) + 1) = (N : Int) := ⟨(dnum l q1 ((most : Int) + 1)).toNat, by omega⟩
  rw [hN] at n1 n2 ⊢
  have hNm : N ≤ most := by omega
  generalize dnxt l q1 = q2 at *
  clear hD2 hg1 hg2 n1 n2 hN
  go_wp2_with fail
  go_loopw [5, 6, 15] (fun v y i wr => ∃ (k : Nat) (L : List Rec) (sa : Option Addr) (sc : Nat) (t : Int) (q' : Nat), k ≤ N ∧ i = .int .i64 (k : Int) ∧ v = .slice sa k sc ∧ y = .int .i64 t ∧ Hid (L.length = k) ∧ Hid (Kit L k t) ∧ Hid (0 ≤ t ∧ t ≤ 5 + 3 * (k : Int)) ∧ Ch W w wr db p l cap q' sa k sc L) (fun _ _ i _ => N - (intOf i).toNat)
  case atStart => exact ⟨0, [], none, 0, tm, q2, by omega, rfl, rfl, rfl, rfl, Kit.nil tm t1, ⟨t1, by omega⟩, hE, Ow.nil _ _ _, hG⟩
  case round =>
    clear hE hG t1 t2
    obtain ⟨k, L, sa, sc, t, q3, hk, rfl, rfl, rfl, hL, hK, ht, hC⟩ := hrel
    by_cases hkt : k < N
    · have hkl : (k : Int) < (N : Int) := by omega
      obtain ⟨ht0, ht5⟩ := ht.out
      go_wp2_with (go_at_call 10; (with_reducible refine (next_walk db p l cap q3 3 _ hC.env.dice hC.env.rd HNE.out hlen (by omega) (by omega)).mono ?_))
      rintro e w3 ⟨rfl, hD3, hg3⟩
      replace hC := hC.next HNE.out hdb hwl hD3 hg3
      have a1 := dnum_lo l q3 (n := 3) (by omega)
      have a2 := dnum_hi l q3 (n := 3) (by omega)
      generalize dnum l q3 3 = dt at *
      generalize dnxt l q3 = q4 at *
      clear hD3 hg3
      go_wp2_with (go_at_call 10; (with_reducible refine (next_walk db p l cap q4 7 _ hC.env.dice hC.env.rd HNE.out hlen (by omega) (by omega)).mono ?_))
      rintro e w4 ⟨rfl, hD4, hg4⟩
      replace hC := hC.next HNE.out hdb hwl hD4 hg4
      have b1 := dnum_lo l q4 (n := 7) (by omega)
      have b2 := dnum_hi l q4 (n := 7) (by omega)
      generalize dnum l q4 7 = kd at *
      generalize dnxt l q4 = q5 at *
      clear hD4 hg4
      go_wp2_with fail
      refine new_strs (fun V => Calls _ _ _ V _) [[97], [98], [99]] ?_
      intro w5 hb5 hRp
      have hsz := hC.env.dice.lt
      refine (dword_walk db p l cap q5 w4.heap.size [[97], [98], [99]] _ w5 (hC.keep hb5).env.dice (hC.keep hb5).env.rd HNE.out hlen hRp (by omega) (by decide) (by decide)).mono ?_
      rintro e w6 ⟨rfl, hD6, hg6⟩
      replace hC := (hC.keep hb5).next HNE.out hdb hwl hD6 hg6
      have wl := wordF_mem l q5 [[97], [98], [99]] (by decide)
      have wl1 : (wordF l q5 [[97], [98], [99]]).length ≤ 100 := by
        simp at wl; rcases wl with h | h | h <;> rw [h] <;> decide
      generalize wordF l q5 [[97], [98], [99]] = s1 at *
      generalize dnxt l q5 = q6 at *
      clear hD6 hg6 hb5 hRp wl
      generalize w4.heap.size = g4 at *
      go_wp2_with (go_at_call 24; (with_reducible refine (rsum_walk s1 _ (by omega)).mono ?_))
      rintro e w7 ⟨rfl, hb7⟩
      replace hC := hC.keep hb7
      have sl := sha_length s1
      generalize sha s1 = h1 at *
      clear hb7 hsz
      go_wp2_with fail
      refine new_strs (fun V => Calls _ _ _ V _) [[], [109, 111, 114, 101]] ?_
      intro w8 hb8 hRp
      have hsz := hC.env.dice.lt
      refine (dword_walk db p l cap q6 w7.heap.size [[], [109, 111, 114, 101]] _ w8 (hC.keep hb8).env.dice (hC.keep hb8).env.rd HNE.out hlen hRp (by omega) (by decide) (by decide)).mono ?_
      rintro e w9 ⟨rfl, hD9, hg9⟩
      replace hC := (hC.keep hb8).next HNE.out hdb hwl hD9 hg9
      have wl := wordF_mem l q6 [[], [109, 111, 114, 101]] (by decide)
      have wl2 : (wordF l q6 [[], [109, 111, 114, 101]]).length ≤ 100 := by
        simp at wl; rcases wl with h | h <;> rw [h] <;> decide
      generalize wordF l q6 [[], [109, 111, 114, 101]] = s2 at *
      generalize dnxt l q6 = q7 at *
      clear hD9 hg9 hb8 hRp wl
      generalize w7.heap.size = g7 at *
      go_wp2_with (go_at_call 23; (with_reducible refine (body_walk h1 s2 _ (by omega) (by omega)).mono ?_))
      rintro e w10 ⟨rfl, hb10⟩
      replace hC := hC.keep hb10
      have hbl : (putText h1 ++ s2).length ≤ 16384 := by
        have := putInt_ten (I64.nat (show h1.length ≤ 281474976710656 by omega))
        simp only [putText, List.length_append]; omega
      generalize putText h1 ++ s2 = bd at *
      clear hb10 hsz wl1 wl2 sl
      go_upto_if 33 with fail
      go_cut [8] (fun b wx => ∃ (bd' : List UInt8) (q' : Nat), b = .string ⟨bd'.toArray⟩ ∧ bd'.length ≤ 16384 ∧ Ch W w wx db p l cap q' sa k sc L)
      case first =>
        by_cases h2 : 1 + kd > 2
        · have d2 : decide (1 + kd > 2) = true := decide_eq_true h2
          go_wp2_with fail
          refine new_strs (fun V => Calls _ _ _ V _) [[], [115, 111, 109, 101, 116, 104, 105, 110, 103], [120]] ?_
          intro w11 hb11 hRp
          have hsz := hC.env.dice.lt
          refine (dword_walk db p l cap q7 w10.heap.size [[], [115, 111, 109, 101, 116, 104, 105, 110, 103], [120]] _ w11 (hC.keep hb11).env.dice (hC.keep hb11).env.rd HNE.out hlen hRp (by omega) (by decide) (by decide)).mono ?_
          rintro e w12 ⟨rfl, hD12, hg12⟩
          replace hC := (hC.keep hb11).next HNE.out hdb hwl hD12 hg12
          have wl := wordF_mem l q7 [[], [115, 111, 109, 101, 116, 104, 105, 110, 103], [120]] (by decide)
          have wl3 : (wordF l q7 [[], [115, 111, 109, 101, 116, 104, 105, 110, 103], [120]]).length ≤ 16384 := by
            simp at wl; rcases wl with h | h | h <;> rw [h] <;> decide
          generalize wordF l q7 [[], [115, 111, 109, 101, 116, 104, 105, 110, 103], [120]] = s3 at *
          clear hD12 hg12 hb11 hRp wl
          go_wp2_with fail
          go_meet
          exact ⟨s3, _, rfl, wl3, hC⟩
        · have d2 : decide (1 + kd > 2) = false := decide_eq_false h2
          go_wp2_with fail
          go_meet
          exact ⟨bd, _, rfl, hbl, hC⟩
      case rest =>
        clear hC hbl
        obtain ⟨b3, q8, rfl, hb3, hC⟩ := hcut
        obtain ⟨w13, hw13⟩ : ∃ w13, w13 = wc := ⟨_, rfl⟩
        subst hw13
        have hLk := hL.out
        obtain ⟨hA, hK2⟩ := hK.out.snoc (t' := t + dt) (k := 1 + kd) (body := b3) (by omega) (by omega) (by omega) (by omega) hb3
        have hlen2 : (addL L (t + dt) (1 + kd) b3).length = k + 1 := by rw [addL, hA, if_pos rfl, List.length_append, hLk]; rfl
        have k1 : Calls Tryz.prog 26 #[.slice sa k sc, .int .i64 (t + dt), .int .i64 (1 + kd), .string ⟨b3.toArray⟩] w13 (AddRes w13 0 (addL L (t + dt) (1 + kd) b3)) := by
          have := radd_walk sa L sc (t + dt) (1 + kd) b3 w13 hC.own.rd (by omega) hK.out.ins
          rw [hA, hLk] at this; exact this
        have K1 := Lib.hid k1
        have HK2 := Lib.hid hK2
        have HT2 := Lib.hid (show 0 ≤ t + dt ∧ t + dt ≤ 5 + 3 * ((k + 1 : Nat) : Int) by omega)
        have HL2 := Lib.hid hlen2
        generalize addL L (t + dt) (1 + kd) b3 = L2 at *
        clear k1 hK2 hA hlen2 hLk hL hK ht
        go_wp2_with (go_at_call 26; (with_reducible refine K1.out.mono ?_))
        rintro e w14 ⟨a2, c2, rfl, hO2, hb14⟩
        rw [HL2.out] at hO2 ⊢
        have hC2 : Ch W w w14 db p l cap q8 a2 (k + 1) c2 L2 := ⟨hC.env.keep hb14, hO2.lower hC.grow.size, grown_tr hC.grow (below_grownBy hb14 _)⟩
        clear hO2 hb14 hC K1
        go_wp2_with fail
        go_roundw
        case rel => exact ⟨k + 1, L2, a2, c2, t + dt, q8, by omega, by go_num, rfl, rfl, HL2, HK2, HT2, hC2⟩
        case measure => simp [intOf]; omega
    · obtain rfl : k = N := by omega
      have hLk := hL.out
      have HK := hK
      clear hK
      go_wp2
      go_ret
      have hO := hC.own
      subst hLk
      have hkit : Kit L most t := ⟨HK.out.right, by omega, HK.out.time, HK.out.ins⟩
      exact ⟨L, sa, sc, t, q3, rfl, hkit, hO, hC.env, hC.grow⟩
end Go.Proofs.YtipoljcgfcjlnaaGreatDoor
