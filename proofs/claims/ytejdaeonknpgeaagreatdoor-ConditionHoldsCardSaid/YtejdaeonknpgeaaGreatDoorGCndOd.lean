/- The kit's odd conditions: what is kept. -/
import Derived.Test.YtejdaeonknpgeaaGreatDoorGCndM
import Derived.Test.YtejdaeonknpgeaaGreatDoorGRowsC
namespace Go.Proofs.YtejdaeonknpgeaaGreatDoor
open Go.RowKit
theorem rowsC_set {O : List Trm} {i f : Nat} {t t' : Trm} {v : Value} (hi : O[i]? = some t) (hf : f < 6) (hs : (trC t).set f v = trC t') : (rowsC trC O).set (i * 6 + f) v = rowsC trC (O.set i t') := by
  obtain ⟨hl, rfl⟩ := List.getElem?_eq_some_iff.1 hi
  have h1 : rowsC trC O = rowsC trC (O.take i) ++ (trC O[i] ++ rowsC trC (O.drop (i + 1))) := by
    conv => lhs; rw [← List.take_append_drop i O, List.drop_eq_getElem_cons hl]
    rw [rowsC_append, rowsC_cons]
  have hc : (rowsC trC (O.take i)).length = i * 6 := by rw [rowsC_length trC_len, List.length_take, Nat.min_eq_left (by omega)]
  rw [h1, ← hc, set_at, List.set_append_left _ _ (by rw [trC_len]; exact hf), hs, List.set_eq_take_append_cons_drop, if_pos hl, rowsC_append, rowsC_cons]
section
variable {W w w' : World} {db : Nat} {p : Option Addr} {l : List Int} {cap q q' gC go oo oc : Nat} {O : List Trm}
theorem Kc.cellF (h : Kc W w db p l cap q gC (some ⟨go, oo, none⟩) oc O) {i : Nat} {t : Trm} (hi : O[i]? = some t) (f : Nat) (v : Value) (hf : (trC t)[f]? = some v) : w.cell? ⟨go, oo + i * 6 + f, none⟩ = some v ∧ w.frozen? ⟨go, oo + i * 6 + f, none⟩ = false := by
  have hf6 : f < 6 := by have := (List.getElem?_eq_some_iff.1 hf).1; rwa [trC_len] at this
  have hl := (List.getElem?_eq_some_iff.1 hi).1
  obtain ⟨e0, e1, e2, ⟨e3, _⟩ | ⟨g, off, e3, e4, e5, e6, e7⟩⟩ := id h.o
  · cases e3
  cases e3
  have h1 := e6 (i * 6 + f) v (by rw [rowsC_get trC_len hi hf6]; exact hf)
  have h2 := (e7 (i * 6 + f) (by have : (i + 1) * 6 ≤ oc * 6 := Nat.mul_le_mul_right 6 (by omega)
                                 omega)).2
  rw [← Nat.add_assoc] at h1 h2
  exact ⟨h1, h2⟩
/-- a term's part is changed -/
theorem Kc.putT (h : Kc W w db p l cap q gC (some ⟨go, oo, none⟩) oc O) {i f : Nat} {t t' : Trm} {v : Value} (hi : O[i]? = some t) (hf : f < 6) (hs : (trC t).set f v = trC t') (hin : t'.In) (hr : Rd w t'.aa (ints t'.args)) (hw : ∀ j, rowOf t'.aa = some j → j < w.heap.size ∧ db < j ∧ j ≠ gC ∧ j ≠ go) :
    Kc W (w.setCell ⟨go, oo + i * 6 + f, none⟩ v) db p l cap q gC (some ⟨go, oo, none⟩) oc (O.set i t') ∧ Kp (fun j => j = go) w (w.setCell ⟨go, oo + i * 6 + f, none⟩ v) := by
  have h1 := h.dC
  have hwd := h.wd
  have hdl := h.env.dice.lt
  have hng : db < go ∧ go ≠ gC := h.nc go rfl
  have hk : Kp (fun j => j = go) w (w.setCell ⟨go, oo + i * 6 + f, none⟩ v) := setCell_kp w go (oo + i * 6 + f) v (S := fun j => j = go) rfl
  have s0 := (Ow.stored h.o (i * 6 + f) v).1
  rw [← Nat.add_assoc, rowsC_set hi hf hs] at s0
  have hlen : (O.set i t').length = O.length := List.length_set
  have hrows : ∀ t ∈ O, ∀ j, rowOf t.aa = some j → j ≠ go := fun t ht j hj e => ((h.rows t ht).2 j hj).2.2.2 (by rw [e]; rfl)
  refine ⟨⟨h.env.kp hk (by omega) (fun j hj => by omega) (by omega) h.rp, by rw [hlen]; exact h.c.kp hk (fun e => hng.2 e.symm), by rw [hlen]; exact s0, ?_, ?_, h.nc, h1, hwd, h.rp⟩, hk⟩
  · intro s hs2
    rcases List.mem_or_eq_of_mem_set hs2 with hs2 | rfl
    · exact ⟨(h.rows s hs2).1.kp hk (fun j hj => hrows s hs2 j hj), fun j hj => ⟨Nat.lt_of_lt_of_le ((h.rows s hs2).2 j hj).1 hk.size, ((h.rows s hs2).2 j hj).2⟩⟩
    · refine ⟨hr.kp hk (fun j hj => (hw j hj).2.2.2), fun j hj => ?_⟩
      have h3 := hw j hj
      exact ⟨Nat.lt_of_lt_of_le h3.1 hk.size, h3.2.1, h3.2.2.1, fun e => h3.2.2.2 (Option.some.inj e).symm⟩
  · intro s hs2
    rcases List.mem_or_eq_of_mem_set hs2 with hs2 | rfl
    · exact h.inn s hs2
    · exact hin
/-- a leaf is appended -/
theorem Kc.pushL {ta a2 : Option Addr} {tc c2 : Nat} {wA : World} {T : List Trm} {t : Trm} (h : Kc W w db p l cap q gC ta tc T) (hO : Ow wA (db + 1) 6 a2 (T.length + 1) c2 (rowsC trC T ++ trC t)) (hg : w.grownBy wA (rowOf ta)) (hat : rowOf a2 = rowOf ta ∨ rowOf a2 = some (w.heap.size + 1)) (haa : t.aa = none) (har : t.args = []) (hin : t.In) :
    (Kc W (wA.setCell ⟨gC, 0, none⟩ (.slice a2 (T.length + 1) c2)) db p l cap q gC a2 c2 (T ++ [t]) ∧ Kp (Sc db gC ta) w (wA.setCell ⟨gC, 0, none⟩ (.slice a2 (T.length + 1) c2))) ∧ wA.cell? ⟨gC, 0, none⟩ = some (.slice ta T.length tc) ∧ wA.frozen? ⟨gC, 0, none⟩ = false := by
  have h1 := h.dC
  have h2 := h.wd
  have lc := h.c.lt
  have c8 := h.c.grown hg (fun e => (h.nc gC e.symm).2 rfl)
  have hk1 : Kp (Sc db gC ta) w wA := Kp.of_grown hg (fun j e => .inr (.inr e))
  have hk : Kp (Sc db gC ta) w (wA.setCell ⟨gC, 0, none⟩ (.slice a2 (T.length + 1) c2)) := hk1.trans (setCell_kp wA gC 0 _ (S := fun j => j = gC) rfl) (fun j _ e => .inr (.inl e))
  have hrow : ∀ j, rowOf a2 = some j → db < j ∧ j ≠ gC := by
    intro j hj
    rcases hat with e | e
    · exact h.nc j (e ▸ hj)
    · have := Option.some.inj (e.symm.trans hj); omega
  have hE8 := h.env.row hg (fun j hj => (h.nc j hj).1) h2 h.rp
  rw [show rowsC trC T ++ trC t = rowsC trC (T ++ [t]) by rw [rowsC_append, rowsC_single]] at hO
  have hlen : (T ++ [t]).length = T.length + 1 := by simp
  refine ⟨⟨⟨hE8.set gC 0 _ (by omega) (by omega) (rd_ne h.rp (by omega)), ?_, ?_, ?_, ?_, hrow, h1, h2, h.rp⟩, hk⟩, c8.cell 0 rfl, c8.free 0⟩
  · rw [hlen]; exact c8.set 0 _
  · rw [hlen]; exact hO.kp (setCell_kp wA gC 0 _ (S := fun j => j = gC) rfl) (fun j hj => (hrow j hj).2)
  · intro s hs
    rcases List.mem_append.1 hs with hs | hs
    · obtain ⟨r1, r2⟩ := h.rows s hs
      refine ⟨r1.kp hk (fun j hj => ?_), fun j hj => ?_⟩
      · have := r2 j hj
        rintro (e | e | e)
        · omega
        · omega
        · exact this.2.2.2 e
      · have := r2 j hj
        refine ⟨Nat.lt_of_lt_of_le this.1 hk.size, this.2.1, this.2.2.1, fun e => ?_⟩
        rcases hat with e2 | e2
        · exact this.2.2.2 (e2 ▸ e)
        · have := Option.some.inj (e2.symm.trans e); omega
    · rw [List.mem_singleton.1 hs, haa, har]
      exact ⟨Rd.nil _ _, fun j hj => by simp [rowOf] at hj⟩
  · intro s hs
    rcases List.mem_append.1 hs with hs | hs
    · exact h.inn s hs
    · rw [List.mem_singleton.1 hs]; exact hin
end
/-- a copy that may be changed, and the box of what is returned -/
structure Oc (W w0 w : World) (db : Nat) (p : Option Addr) (l : List Int) (cap q g4 gC : Nat) (oa : Option Addr) (oc : Nat) (O : List Trm) : Prop where
  k : Kc W w db p l cap q gC oa oc O
  r : Bx w g4 34 [.slice none 0 0]
  kp : Kp (fun j => j = db) w0 w
  n1 : db < g4
  n2 : w0.heap.size ≤ g4
  n3 : g4 ≠ gC
  n4 : w0.heap.size ≤ gC
  n5 : ∀ j, rowOf oa = some j → j ≠ g4 ∧ w0.heap.size ≤ j
  n6 : ∀ t ∈ O, ∀ j, rowOf t.aa = some j → j ≠ g4
section
variable {W w0 w w' : World} {db : Nat} {p : Option Addr} {l : List Int} {cap q q' g4 gC : Nat} {oa : Option Addr} {oc : Nat} {O : List Trm}
theorem Oc.keep (h : Oc W w0 w db p l cap q g4 gC oa oc O) (hb : Below w.heap.size w w') : Oc W w0 w' db p l cap q g4 gC oa oc O :=
  ⟨h.k.keep hb, h.r.keep hb, h.kp.trans (Kp.of_below hb (fun _ => False)) (fun _ _ e => e.elim), h.n1, h.n2, h.n3, h.n4, h.n5, h.n6⟩
theorem Oc.next (h : Oc W w0 w db p l cap q g4 gC oa oc O) (hE : Env W w' db p l cap q') (hg : w.grownBy w' (some db)) : Oc W w0 w' db p l cap q' g4 gC oa oc O := by
  have h1 := h.n1
  exact ⟨h.k.next hE hg, h.r.grown hg (by simp; omega), h.kp.trans (Kp.of_grown hg (S := fun j => j = db) (fun j e => (Option.some.inj e).symm)) (fun _ _ e => e), h.n1, h.n2, h.n3, h.n4, h.n5, h.n6⟩
theorem Oc.putT {go oo i f : Nat} {t t' : Trm} {v : Value} (h : Oc W w0 w db p l cap q g4 gC (some ⟨go, oo, none⟩) oc O) (hi : O[i]? = some t) (hf : f < 6) (hs : (trC t).set f v = trC t') (hin : t'.In) (hr : Rd w t'.aa (ints t'.args)) (hw : ∀ j, rowOf t'.aa = some j → j < w.heap.size ∧ db < j ∧ j ≠ gC ∧ j ≠ go ∧ j ≠ g4) :
    Oc W w0 (w.setCell ⟨go, oo + i * 6 + f, none⟩ v) db p l cap q g4 gC (some ⟨go, oo, none⟩) oc (O.set i t') := by
  obtain ⟨h1, h2⟩ := h.k.putT hi hf hs hin hr (fun j hj => ⟨(hw j hj).1, (hw j hj).2.1, (hw j hj).2.2.1, (hw j hj).2.2.2.1⟩)
  have h5 := h.n5 go rfl
  refine ⟨h1, h.r.kp h2 (fun e => h5.1 e.symm), h.kp.trans h2 (fun j hj e => by have e' : j = go := e; omega), h.n1, h.n2, h.n3, h.n4, h.n5, fun s hs2 j hj => ?_⟩
  rcases List.mem_or_eq_of_mem_set hs2 with hs2 | rfl
  · exact h.n6 s hs2 j hj
  · exact (hw j hj).2.2.2.2
/-- another field, the Args as they were -/
theorem Oc.putF {go oo i f : Nat} {t t' : Trm} {v : Value} (h : Oc W w0 w db p l cap q g4 gC (some ⟨go, oo, none⟩) oc O) (hi : O[i]? = some t) (hf : f < 6) (hs : (trC t).set f v = trC t') (hin : t'.In) (ha : t'.aa = t.aa) (hr : t'.args = t.args) :
    Oc W w0 (w.setCell ⟨go, oo + i * 6 + f, none⟩ v) db p l cap q g4 gC (some ⟨go, oo, none⟩) oc (O.set i t') := by
  have hm := List.mem_of_getElem? hi
  have h1 := h.k.rows t hm
  refine h.putT hi hf hs hin (by rw [ha, hr]; exact h1.1) (fun j hj => ?_)
  rw [ha] at hj
  have h2 := h1.2 j hj
  exact ⟨h2.1, h2.2.1, h2.2.2.1, fun e => h2.2.2.2 (by rw [e]; rfl), h.n6 t hm j hj⟩
end
def leafT8 : Trm := ⟨8, 0, 0, [], [], [], none, 0⟩
theorem leaf8_in : leafT8.In := ⟨⟨⟨by decide, by decide⟩, ⟨by decide, by decide⟩, ⟨by decide, by decide⟩⟩, by decide, by decide, by simp [leafT8], by decide, by decide⟩
/-- what OddCondition returns -/
def OddRes (W w0 : World) (db : Nat) (p : Option Addr) (l : List Int) (cap n : Nat) (e : Ending) (w' : World) : Prop := ∃ (O : List Trm) (oa : Option Addr) (oc q' : Nat), e = .returned (.agg #[.slice oa O.length oc]) ∧ Cn w' oa oc O ∧ O.length ≤ n + 1 ∧ Env W w' db p l cap q' ∧ Kp (fun j => j = db) w0 w'
theorem odd_fin {W w0 w : World} {db : Nat} {p : Option Addr} {l : List Int} {cap q g4 : Nat} {oa : Option Addr} {oc n : Nat} {O : List Trm} (hE : Env W w db p l cap q) (hk0 : Kp (fun j => j = db) w0 w) (hr : Bx w g4 34 [.slice none 0 0]) (hC : Cn w oa oc O) (hn : O.length ≤ n + 1)
    (h1 : db < g4) (h2 : w0.heap.size ≤ g4) (hW : W.heap.size ≤ db) (rp : Rd W p (ints l)) (h5 : ∀ j, rowOf oa = some j → j ≠ g4) (h6 : ∀ t ∈ O, ∀ j, rowOf t.aa = some j → j ≠ g4) :
    Bx (w.setCell ⟨g4, 0, none⟩ (.slice oa O.length oc)) g4 34 [.slice oa O.length oc] ∧ OddRes W w0 db p l cap n (.returned (.agg #[.slice oa O.length oc])) (w.setCell ⟨g4, 0, none⟩ (.slice oa O.length oc)) := by
  have hdl := hE.dice.lt
  have hk : Kp (fun j => j = g4) w (w.setCell ⟨g4, 0, none⟩ (.slice oa O.length oc)) := setCell_kp w g4 0 _ (S := fun j => j = g4) rfl
  exact ⟨hr.set 0 _, O, oa, oc, q, rfl, ⟨hC.r.kp hk (fun j hj => h5 j hj) (fun t ht j hj => h6 t ht j hj), hC.c, hC.l⟩, hn, hE.kp hk (by omega) (fun j hj => by omega) (by omega) rp, hk0.trans hk (fun j hj e => by have e' : j = g4 := e; omega)⟩
theorem Oc.fin {W w0 w : World} {db : Nat} {p : Option Addr} {l : List Int} {cap q g4 gC : Nat} {oa : Option Addr} {oc n : Nat} {O : List Trm} (h : Oc W w0 w db p l cap q g4 gC oa oc O) (hn : O.length ≤ n + 1) (hn2 : n ≤ 999) :
    Bx (w.setCell ⟨g4, 0, none⟩ (.slice oa O.length oc)) g4 34 [.slice oa O.length oc] ∧ OddRes W w0 db p l cap n (.returned (.agg #[.slice oa O.length oc])) (w.setCell ⟨g4, 0, none⟩ (.slice oa O.length oc)) :=
  odd_fin h.k.env h.kp h.r ⟨⟨h.k.o.rd, fun t ht => (h.k.rows t ht).1, h.k.inn⟩, h.k.o.2.1, by omega⟩ hn h.n1 h.n2 h.k.wd h.k.rp (fun j hj => (h.n5 j hj).1) h.n6
/-- without the first term -/
theorem Oc.rest {W w0 w : World} {db : Nat} {p : Option Addr} {l : List Int} {cap q g4 gC go oo : Nat} {oc n n1 : Nat} {xa : Option Addr} {O : List Trm} (h : Oc W w0 w db p l cap q g4 gC (some ⟨go, oo, none⟩) oc O) (h0 : 1 ≤ O.length) (hn : O.length ≤ n + 1) (hn2 : n ≤ 999) (hx : xa = if oc = 1 then some ⟨go, oo, none⟩ else some ⟨go, oo + 6, none⟩) (hn1 : O.length - 1 = n1) :
    Bx (w.setCell ⟨gC, 0, none⟩ (.slice xa n1 (oc - 1))) gC 34 [.slice xa n1 (oc - 1)] ∧ Bx (w.setCell ⟨gC, 0, none⟩ (.slice xa n1 (oc - 1))) g4 34 [.slice none 0 0] ∧
    (Bx ((w.setCell ⟨gC, 0, none⟩ (.slice xa n1 (oc - 1))).setCell ⟨g4, 0, none⟩ (.slice xa n1 (oc - 1))) g4 34 [.slice xa n1 (oc - 1)] ∧
    OddRes W w0 db p l cap n (.returned (.agg #[.slice xa n1 (oc - 1)])) ((w.setCell ⟨gC, 0, none⟩ (.slice xa n1 (oc - 1))).setCell ⟨g4, 0, none⟩ (.slice xa n1 (oc - 1)))) := by
  have hl1 : (O.drop 1).length = n1 := by rw [List.length_drop]; exact hn1
  subst hl1
  have h1 := h.n1
  have h2 := h.n2
  have h3 := h.n3
  have h4 := h.n4
  have hw := h.k.wd
  have hd := h.k.dC
  have hdl := h.k.env.dice.lt
  have hng := h.k.nc go rfl
  have hrow : rowOf xa = some go := by rw [hx]; split <;> rfl
  have hk : Kp (fun j => j = gC) w (w.setCell ⟨gC, 0, none⟩ (.slice xa (O.drop 1).length (oc - 1))) := setCell_kp w gC 0 _ (S := fun j => j = gC) rfl
  have hr := h.r.kp hk (fun e => h3 e)
  have hoc := h.k.o.2.1
  have hR : RdT w xa (O.drop 1) := ⟨by
    by_cases e1 : oc = 1
    · rw [List.eq_nil_of_length_eq_zero (show (O.drop 1).length = 0 by rw [List.length_drop]; omega)]
      exact Rd.nil _ _
    · rw [hx, if_neg e1]
      have := h.k.o.rd.rowsDrop trC_len 1
      rwa [Nat.one_mul] at this, fun t ht => (h.k.rows t (List.mem_of_mem_drop ht)).1, fun t ht => h.k.inn t (List.mem_of_mem_drop ht)⟩
  have hR2 := hR.kp hk (fun j hj e => by have : go = j := Option.some.inj (hrow.symm.trans hj); have e' : j = gC := e; omega) (fun t ht j hj e => ((h.k.rows t (List.mem_of_mem_drop ht)).2 j hj).2.2.1 e)
  refine ⟨h.k.c.set 0 _, hr, odd_fin (h.k.env.kp hk (by omega) (fun j hj => by omega) (by omega) h.k.rp) (h.kp.trans hk (fun j hj e => by have e' : j = gC := e; omega)) hr ⟨hR2, by rw [List.length_drop]; omega, by rw [List.length_drop]; omega⟩ (by rw [List.length_drop]; omega) h1 h2 hw h.k.rp (fun j hj => ?_) (fun t ht j hj => h.n6 t (List.mem_of_mem_drop ht) j hj)⟩
  have : go = j := Option.some.inj (hrow.symm.trans hj)
  exact this ▸ (h.n5 go rfl).1
section
variable {W w0 w w' : World} {db : Nat} {p : Option Addr} {l : List Int} {cap q q' g4 gC : Nat} {oa : Option Addr} {oc : Nat} {O : List Trm}
/-- another block apart from all of it -/
theorem Oc.upd (h : Oc W w0 w db p l cap q g4 gC oa oc O) (hk : Kp (fun j => j = db) w w') (hE : Env W w' db p l cap q') : Oc W w0 w' db p l cap q' g4 gC oa oc O := by
  have h1 := h.n1
  have h2 := h.k.dC
  exact ⟨h.k.kp hk hE (by omega) (fun j hj => by have := (h.k.nc j hj).1; omega) (fun t ht j hj => by have := ((h.k.rows t ht).2 j hj).2.1; omega), h.r.kp hk (by omega), h.kp.trans hk (fun _ _ e => e), h.n1, h.n2, h.n3, h.n4, h.n5, h.n6⟩
/-- one of some numbers -/
theorem Oc.pick {go oo i f : Nat} {t : Trm} {u : Value} (h : Oc W w0 w db p l cap q g4 gC (some ⟨go, oo, none⟩) oc O) (hl : l.length ≤ 281474976710656) (L : List Int) (n : Nat) (hn : L.length = n) (hn0 : 1 ≤ n) (hn1 : n ≤ 100) (hi : O[i]? = some t) (hf : (trC t)[f]? = some u) :
    Calls Tryz.prog 22 #[.pointer (some ⟨db, 0, none⟩), .int .i64 (n : Int)] (w.alloc (.cells (ints L).toArray 3)) fun e w' => ∃ (v : Nat) (x : Int), e = .returned (.int .i64 (v : Int)) ∧ ((v : Int) < (n : Int) ∧ x ∈ L) ∧ w'.cell? ⟨w.heap.size, v, none⟩ = some (.int .i64 x) ∧ Oc W w0 w' db p l cap (dnxt l q) g4 gC (some ⟨go, oo, none⟩) oc O ∧ w'.cell? ⟨go, oo + i * 6 + f, none⟩ = some u ∧ w'.frozen? ⟨go, oo + i * 6 + f, none⟩ = false := by
  have hba := (Below.refl w.heap.size w).alloc (Nat.le_refl _) (.cells (ints L).toArray 3)
  have hOx := h.keep hba
  have hRL : Rd (w.alloc (.cells (ints L).toArray 3)) (some ⟨w.heap.size, 0, none⟩) (ints L) := Rd.mk fun j u hj => by rw [Nat.zero_add, World.cell?_alloc_at _ _ _ _ rfl]; simpa using hj
  have hdl := h.k.env.dice.lt
  refine (hOx.k.dicec hl (n : Int) (by omega) (by omega)).mono ?_
  rintro e w' ⟨he, hE, hg⟩
  have m1 := dnum_lo l q (n := (n : Int)) (by omega)
  have m2 := dnum_hi l q (n := (n : Int)) (by omega)
  have hO3 := hOx.next hE hg
  have hR3 := hRL.kp (Kp.of_grown hg (S := fun j => j = db) (fun j e => (Option.some.inj e).symm)) (fun j hj e => by have e1 : w.heap.size = j := Option.some.inj hj; have e2 : j = db := e; omega)
  obtain ⟨gz, oz, x, hgz, hcz, hx⟩ := hR3.int (k := (dnum l q (n : Int)).toNat) (by omega)
  cases hgz
  rw [Nat.zero_add] at hcz
  have hs := hO3.k.cellF hi f u hf
  exact ⟨(dnum l q (n : Int)).toNat, x, by rw [he]; congr 2; omega, ⟨by omega, List.mem_of_getElem? hx.out⟩, hcz, hO3, hs.1, hs.2⟩
/-- the last term that may be added -/
theorem Oc.push8 {a2 : Option Addr} {c2 : Nat} {wA : World} (h : Oc W w0 w db p l cap q g4 gC oa oc O) (hO : Ow wA (db + 1) 6 a2 (O.length + 1) c2 (rowsC trC O ++ trC leafT8)) (hg : w.grownBy wA (rowOf oa)) (hat : rowOf a2 = rowOf oa ∨ rowOf a2 = some (w.heap.size + 1)) :
    Oc W w0 (wA.setCell ⟨gC, 0, none⟩ (.slice a2 (O.length + 1) c2)) db p l cap q g4 gC a2 c2 (O ++ [leafT8]) ∧ wA.cell? ⟨gC, 0, none⟩ = some (.slice oa O.length oc) ∧ wA.frozen? ⟨gC, 0, none⟩ = false := by
  obtain ⟨⟨h1, h2⟩, h3, h4⟩ := h.k.pushL hO hg hat rfl rfl leaf8_in
  have n1 := h.n1
  have n2 := h.n2
  have n3 := h.n3
  have n4 := h.n4
  have hlt := h.r.lt
  have hs := h.kp.size
  refine ⟨⟨h1, h.r.kp h2 ?_, h.kp.trans h2 (fun j hj e => ?_), n1, n2, n3, n4, fun j hj => ?_, fun t ht j hj => ?_⟩, h3, h4⟩
  · rintro (e | e | e)
    · omega
    · omega
    · exact (h.n5 _ e).1 rfl
  · rcases e with e | e | e
    · exact e
    · omega
    · have := (h.n5 _ e).2; omega
  · rcases hat with e | e
    · exact h.n5 j (e ▸ hj)
    · have := Option.some.inj (e.symm.trans hj); omega
  · rcases List.mem_append.1 ht with ht | ht
    · exact h.n6 t ht j hj
    · rw [List.mem_singleton.1 ht] at hj; simp [leafT8, rowOf] at hj
/-- a number behind the copy of a term's Args -/
theorem Oc.num {a : Option Addr} {n c : Nat} {xs : List Value} {wB : World} (h : Oc W w0 w db p l cap q g4 gC oa oc O) (hb : Below w.heap.size w wB) (hO : Ow wB w.heap.size 1 a n c xs) (hl : l.length ≤ 281474976710656) (m : Int) (h1 : 1 ≤ m) (h2 : m ≤ 100) :
    Calls Tryz.prog 22 #[.pointer (some ⟨db, 0, none⟩), .int .i64 m] wB fun e w' => ∃ v : Int, e = .returned (.int .i64 v) ∧ (0 ≤ v ∧ v < m) ∧ Ow w' w.heap.size 1 a n c xs ∧ Env W w' db p l cap (dnxt l q) ∧ Kp (fun j => j = db) w w' := by
  have hdl := h.k.env.dice.lt
  refine ((h.keep hb).k.dicec hl m h1 (by omega)).mono ?_
  rintro e w' ⟨he, hE, hg⟩
  have m1 := dnum_lo l q (n := m) h1
  have m2 := dnum_hi l q (n := m) h1
  have hk : Kp (fun j => j = db) wB w' := Kp.of_grown hg (fun j e => (Option.some.inj e).symm)
  exact ⟨_, he, ⟨m1, m2⟩, hO.kp hk (fun j hj e => by have := (hO.row j hj).1; have e' : j = db := e; omega), hE, (Kp.of_below hb _).trans hk (fun _ _ e => e)⟩
/-- the Args with one more -/
theorem Oc.more {go oo i n c5 : Nat} {a5 : Option Addr} {t : Trm} {v : Int} {w4 w5 : World} (h : Oc W w0 w db p l cap q g4 gC (some ⟨go, oo, none⟩) oc O) (hi : O[i]? = some t) (hn : t.args.length = n) (hn9 : n ≤ 900) (hv : 0 ≤ v ∧ v < 4) (hk : Kp (fun j => j = db) w w4) (hE : Env W w4 db p l cap q') (hb : Below w.heap.size w4 w5) (hO : Ow w5 w.heap.size 1 a5 (n + 1) c5 (ints t.args ++ [.int .i64 v])) :
    Oc W w0 (w5.setCell ⟨go, oo + i * 6 + 5, none⟩ (.slice a5 (n + 1) c5)) db p l cap q' g4 gC (some ⟨go, oo, none⟩) oc (O.set i ⟨t.kind, t.number, t.years, t.field, t.text, t.args ++ [v], a5, c5⟩) ∧ w5.cell? ⟨go, oo + i * 6 + 5, none⟩ = some (.slice t.aa t.args.length t.ac) ∧ w5.frozen? ⟨go, oo + i * 6 + 5, none⟩ = false := by
  subst hn
  have hdl := h.k.env.dice.lt
  have hwd := h.k.wd
  have hng := h.k.nc go rfl
  have hgo := (h.k.o.row go rfl).2
  have hgc := h.k.c.lt
  have hg4 := h.r.lt
  have hdC := h.k.dC
  have hk5 : Kp (fun j => w.heap.size ≤ j) w4 w5 := ⟨hb.os, hb.tape, hb.output, hb.size, fun k _ hn => hb.block k (by omega)⟩
  have hkk : Kp (fun j => j = db) w w5 := hk.trans hk5 (fun j hj e => by omega)
  have hE5 := hE.kp hk5 (by have := hk.size; omega) (fun j hj => by omega) (by omega) h.k.rp
  have h5 := h.upd hkk hE5
  have hm := List.mem_of_getElem? hi
  have hI := h.k.inn t hm
  have hs := h5.k.cellF hi 5 _ rfl
  have hoc5 := hO.2.1
  refine ⟨h5.putT (f := 5) hi (by decide) (by simp [trC]) ⟨hI.1, hI.2.1, hI.2.2.1, fun a ha => ?_, by simpa using hoc5, by simp; omega⟩ ?_ (fun j hj => ?_), hs.1, hs.2⟩
  · rcases List.mem_append.1 ha with ha | ha
    · exact hI.2.2.2.1 a ha
    · rw [List.mem_singleton.1 ha]; exact ⟨by omega, by omega⟩
  · have := hO.rd
    rwa [ints_snoc] at this
  · have := hO.row j hj
    omega
end
end Go.Proofs.YtejdaeonknpgeaaGreatDoor
