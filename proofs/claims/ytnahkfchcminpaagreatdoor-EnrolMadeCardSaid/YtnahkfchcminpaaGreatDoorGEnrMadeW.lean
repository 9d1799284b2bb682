/- The walk of the law EnrolMade. -/
import Derived.Test.YtnahkfchcminpaaGreatDoorGEnrP
import Derived.Test.YtnahkfchcminpaaGreatDoorGPRoll
import Derived.Test.YtnahkfchcminpaaGreatDoorGGrp
import Derived.Test.YtnahkfchcminpaaGreatDoorGAppAt
namespace Go.Proofs.YtnahkfchcminpaaGreatDoor
open Go.RowKit
theorem i64_of {l : List Int} {q : Nat} {xs : List Int} (h1 : 1 ≤ xs.length) (h : ∀ x ∈ xs, I64 x) : I64 (ofF l q xs) := h _ (ofF_mem l q xs h1)
theorem ppl_keys {P k : Nat} {L : List Prs} (hP : P ≤ 1073741824) (h : Ppl P k L) : ∀ r ∈ L, I64 r.key := by
  intro r hr
  have h1 : r.key ∈ L.map Prs.key := List.mem_map_of_mem hr
  rw [h.2, keyR] at h1
  obtain ⟨i, -, hi⟩ := List.mem_map.1 h1
  have := gpw_lt P 4 ((i : Int) + 2)
  rw [← hi]
  exact ⟨by omega, by omega⟩
theorem i64_wrap (x : Int) : I64 (IntKind.i64.wrap x) := by rw [IntKind.wrap_i64]; exact ⟨by omega, by omega⟩
/-- the play's choice, in a world where the numbers were just laid -/
theorem ofE {W w : World} {db : Nat} {p : Option Addr} {l : List Int} {cap k : Nat} (hE : Env W w db p l cap k) (hR : Rd W p (ints l)) (hdb : W.heap.size ≤ db) (hlen : l.length ≤ 281474976710656) (xs : List Int) (h1 : 1 ≤ xs.length) (h2 : xs.length ≤ 1000) :
    Calls Tryz.prog 19 #[.pointer (some ⟨db, 0, none⟩), .slice (some ⟨w.heap.size, 0, none⟩) xs.length xs.length] (w.alloc (.cells (ints xs).toArray 3)) fun e w' => e = .returned (.int .i64 (ofF l k xs)) ∧ (Env W w' db p l cap (dnxt l k) ∧ (w.alloc (.cells (ints xs).toArray 3)).grownBy w' (some db)) := by
  have hE5 := hE.keep ((Below.refl _ _).alloc (Nat.le_refl _) (.cells (ints xs).toArray 3))
  have hX : Rd (w.alloc (.cells (ints xs).toArray 3)) (some ⟨w.heap.size, 0, none⟩) (ints xs) := Rd.mk fun j u hj => by rw [Nat.zero_add, World.cell?_alloc_at _ _ _ _ rfl]; simpa using hj
  have hlt := hE.dice.lt
  refine (of_walk db p l cap k w.heap.size xs xs.length _ hE5.dice hE5.rd (rd_ne hR hdb) hlen hX (by omega) h1 h2).mono ?_
  rintro e w' ⟨he, hD, hg⟩
  exact ⟨he, hE5.grown (rd_ne hR hdb) hdb hD hg, hg⟩
/-- the play's roll -/
structure Mr (W w : World) (db : Nat) (p : Option Addr) (l : List Int) (cap q gR : Nat) (P : Int) (pa : Option Addr) (np pc : Nat) (L : List Prs) : Prop where
  env : Env W w db p l cap q
  r : Bx w gR 30 [.int .i64 P, .slice pa np pc]
  o : Ow w (db + 1) 3 pa np pc (rowsC prC L)
  len : L.length = np
  le : np ≤ 66
  keys : ∀ r ∈ L, I64 r.key
  dR : db < gR
  wd : W.heap.size ≤ db
  rp : Rd W p (ints l)
  row : ∀ j, rowOf pa = some j → db < j ∧ j ≠ gR
/-- and a person -/
structure Mx (W w : World) (db : Nat) (p : Option Addr) (l : List Int) (cap q gR : Nat) (P : Int) (pa : Option Addr) (np pc : Nat) (L : List Prs) (gX : Nat) (i k d : Int) : Prop where
  m : Mr W w db p l cap q gR P pa np pc L
  x : Bx w gX 43 [.int .i64 i, .int .i64 k, .int .i64 d]
  RX : gR < gX
  row : ∀ j, rowOf pa = some j → j ≠ gX
/-- and a signature -/
structure Mg (W w : World) (db : Nat) (p : Option Addr) (l : List Int) (cap q gR : Nat) (P : Int) (pa : Option Addr) (np pc : Nat) (L : List Prs) (gX : Nat) (i k d : Int) (gS : Nat) (R S : Int) : Prop where
  m : Mx W w db p l cap q gR P pa np pc L gX i k d
  s : Bx w gS 34 [.int .i64 R, .int .i64 S]
  XS : gX < gS
  row : ∀ j, rowOf pa = some j → j ≠ gS
section
variable {W w w' : World} {db : Nat} {p : Option Addr} {l : List Int} {cap q gR : Nat} {P : Int} {pa : Option Addr} {np pc : Nat} {L : List Prs} {gX : Nat} {i k d : Int} {gS : Nat} {R S : Int}
theorem Mr.keep (h : Mr W w db p l cap q gR P pa np pc L) (hb : Below w.heap.size w w') : Mr W w' db p l cap q gR P pa np pc L :=
  ⟨h.env.keep hb, h.r.keep hb, h.o.keep hb, h.len, h.le, h.keys, h.dR, h.wd, h.rp, h.row⟩
theorem Mr.next {q' : Nat} (h : Mr W w db p l cap q gR P pa np pc L) (hE : Env W w' db p l cap q') (hg : w.grownBy w' (some db)) : Mr W w' db p l cap q' gR P pa np pc L := by
  have h1 := h.dR
  exact ⟨hE, h.r.grown hg (by simp; omega), h.o.kept hg (.inr fun e => by have := (h.row _ e).1; omega), h.len, h.le, h.keys, h.dR, h.wd, h.rp, h.row⟩
theorem Mr.oth (h : Mr W w db p l cap q gR P pa np pc L) (g o : Nat) (v : Value) (hg : gR < g) (hr : ∀ j, rowOf pa = some j → j ≠ g) : Mr W (w.setCell ⟨g, o, none⟩ v) db p l cap q gR P pa np pc L := by
  have h1 := h.dR
  have h2 := h.wd
  exact ⟨h.env.set g o v (by omega) (by omega) (rd_ne h.rp (by omega)), h.r.other (by omega) o v, h.o.other (fun j hj => hr j hj) o v, h.len, h.le, h.keys, h.dR, h.wd, h.rp, h.row⟩
theorem Mr.dicec (h : Mr W w db p l cap q gR P pa np pc L) (hl : l.length ≤ 281474976710656) (n : Int) (h1 : 1 ≤ n) (h2 : n ≤ 4611686018427387904) :
    Calls Tryz.prog 9 #[.pointer (some ⟨db, 0, none⟩), .int .i64 n] w fun e w' => e = .returned (.int .i64 (dnum l q n)) ∧ (Env W w' db p l cap (dnxt l q) ∧ w.grownBy w' (some db)) := by
  refine (next_walk db p l cap q n w h.env.dice h.env.rd (rd_ne h.rp h.wd) hl h1 h2).mono ?_
  rintro e w' ⟨he, hD, hg⟩
  exact ⟨he, h.env.grown (rd_ne h.rp h.wd) h.wd hD hg, hg⟩
theorem Mx.keep (h : Mx W w db p l cap q gR P pa np pc L gX i k d) (hb : Below w.heap.size w w') : Mx W w' db p l cap q gR P pa np pc L gX i k d :=
  ⟨h.m.keep hb, h.x.keep hb, h.RX, h.row⟩
theorem Mx.next {q' : Nat} (h : Mx W w db p l cap q gR P pa np pc L gX i k d) (hE : Env W w' db p l cap q') (hg : w.grownBy w' (some db)) : Mx W w' db p l cap q' gR P pa np pc L gX i k d := by
  have h1 := h.m.dR
  have h2 := h.RX
  exact ⟨h.m.next hE hg, h.x.grown hg (by simp; omega), h.RX, h.row⟩
theorem Mx.oth (h : Mx W w db p l cap q gR P pa np pc L gX i k d) (g o : Nat) (v : Value) (hg : gX < g) (hr : ∀ j, rowOf pa = some j → j ≠ g) : Mx W (w.setCell ⟨g, o, none⟩ v) db p l cap q gR P pa np pc L gX i k d := by
  have h2 := h.RX
  exact ⟨h.m.oth g o v (by omega) hr, h.x.other (by omega) o v, h.RX, h.row⟩
theorem Mg.keep (h : Mg W w db p l cap q gR P pa np pc L gX i k d gS R S) (hb : Below w.heap.size w w') : Mg W w' db p l cap q gR P pa np pc L gX i k d gS R S :=
  ⟨h.m.keep hb, h.s.keep hb, h.XS, h.row⟩
theorem Mg.next {q' : Nat} (h : Mg W w db p l cap q gR P pa np pc L gX i k d gS R S) (hE : Env W w' db p l cap q') (hg : w.grownBy w' (some db)) : Mg W w' db p l cap q' gR P pa np pc L gX i k d gS R S := by
  have h1 := h.m.m.dR
  have h2 := h.m.RX
  have h3 := h.XS
  exact ⟨h.m.next hE hg, h.s.grown hg (by simp; omega), h.XS, h.row⟩
theorem Mg.alloc (h : Mg W w db p l cap q gR P pa np pc L gX i k d gS R S) (o : Obj) : Mg W (w.alloc o) db p l cap q gR P pa np pc L gX i k d gS R S := h.keep ((Below.refl _ _).alloc (Nat.le_refl _) o)
theorem Mg.b (h : Mg W w db p l cap q gR P pa np pc L gX i k d gS R S) : Below W.heap.size W w := h.m.m.env.below
theorem Mg.held (h : Mg W w db p l cap q gR P pa np pc L gX i k d gS R S) :
    w.cell? ⟨gR, 0, none⟩ = some (.int .i64 P) ∧ w.cell? ⟨gR, 1, none⟩ = some (.slice pa np pc) ∧ w.cell? ⟨gX, 0, none⟩ = some (.int .i64 i) ∧ w.cell? ⟨gX, 1, none⟩ = some (.int .i64 k) ∧ w.cell? ⟨gX, 2, none⟩ = some (.int .i64 d) ∧ w.cell? ⟨gS, 0, none⟩ = some (.int .i64 R) ∧ w.cell? ⟨gS, 1, none⟩ = some (.int .i64 S) :=
  ⟨h.m.m.r.cell 0 rfl, h.m.m.r.cell 1 rfl, h.m.x.cell 0 rfl, h.m.x.cell 1 rfl, h.m.x.cell 2 rfl, h.s.cell 0 rfl, h.s.cell 1 rfl⟩
theorem Mg.frees (h : Mg W w db p l cap q gR P pa np pc L gX i k d gS R S) :
    w.frozen? ⟨gR, 0, none⟩ = false ∧ w.frozen? ⟨gR, 1, none⟩ = false ∧ w.frozen? ⟨gX, 1, none⟩ = false ∧ w.frozen? ⟨gX, 2, none⟩ = false ∧ w.frozen? ⟨gS, 1, none⟩ = false :=
  ⟨h.m.m.r.free 0, h.m.m.r.free 1, h.m.x.free 1, h.m.x.free 2, h.s.free 1⟩
theorem Mg.setS (h : Mg W w db p l cap q gR P pa np pc L gX i k d gS R S) (v : Int) : Mg W (w.setCell ⟨gS, 1, none⟩ (.int .i64 v)) db p l cap q gR P pa np pc L gX i k d gS R v :=
  ⟨h.m.oth gS 1 _ h.XS h.row, h.s.set 1 _, h.XS, h.row⟩
theorem Mg.setK (h : Mg W w db p l cap q gR P pa np pc L gX i k d gS R S) (v : Int) : Mg W (w.setCell ⟨gX, 1, none⟩ (.int .i64 v)) db p l cap q gR P pa np pc L gX i v d gS R S := by
  have := h.XS
  exact ⟨⟨h.m.m.oth gX 1 _ h.m.RX h.m.row, h.m.x.set 1 _, h.m.RX, h.m.row⟩, h.s.other (by omega) 1 _, h.XS, h.row⟩
theorem Mg.setD (h : Mg W w db p l cap q gR P pa np pc L gX i k d gS R S) (v : Int) : Mg W (w.setCell ⟨gX, 2, none⟩ (.int .i64 v)) db p l cap q gR P pa np pc L gX i k v gS R S := by
  have := h.XS
  exact ⟨⟨h.m.m.oth gX 2 _ h.m.RX h.m.row, h.m.x.set 2 _, h.m.RX, h.m.row⟩, h.s.other (by omega) 2 _, h.XS, h.row⟩
theorem Mg.setP (h : Mg W w db p l cap q gR P pa np pc L gX i k d gS R S) (v : Int) : Mg W (w.setCell ⟨gR, 0, none⟩ (.int .i64 v)) db p l cap q gR v pa np pc L gX i k d gS R S := by
  have h1 := h.XS
  have h2 := h.m.RX
  have h3 := h.m.m.dR
  have h4 := h.m.m.wd
  exact ⟨⟨⟨h.m.m.env.set gR 0 _ (by omega) (by omega) (rd_ne h.m.m.rp (by omega)), h.m.m.r.set 0 _, h.m.m.o.other (fun j hj => (h.m.m.row j hj).2) 0 _, h.m.m.len, h.m.m.le, h.m.m.keys, h.m.m.dR, h.m.m.wd, h.m.m.rp, h.m.m.row⟩, h.m.x.other (by omega) 0 _, h.m.RX, h.m.row⟩, h.s.other (by omega) 0 _, h.XS, h.row⟩
/-- a person is appended -/
theorem Mg.app {a2 : Option Addr} {c2 : Nat} {y : Prs} (h : Mg W w db p l cap q gR P pa np pc L gX i k d gS R S) (hO : Ow w' (db + 1) 3 a2 (np + 1) c2 (rowsC prC (L ++ [y]))) (hg : w.grownBy w' (rowOf pa)) (hat : rowOf a2 = rowOf pa ∨ rowOf a2 = some (w.heap.size + 1)) (hk : I64 y.key) (hle : np + 1 ≤ 66) :
    Mg W (w'.setCell ⟨gR, 1, none⟩ (.slice a2 (np + 1) c2)) db p l cap q gR P a2 (np + 1) c2 (L ++ [y]) gX i k d gS R S ∧ w'.cell? ⟨gR, 1, none⟩ = some (.slice pa np pc) ∧ w'.frozen? ⟨gR, 1, none⟩ = false := by
  have h1 := h.XS
  have h2 := h.m.RX
  have h3 := h.m.m.dR
  have h4 := h.m.m.wd
  have hE8 := h.m.m.env.row hg (fun j hj => (h.m.m.row j hj).1) h4 h.m.m.rp
  have r8 := h.m.m.r.grown hg (fun e => (h.m.m.row gR e.symm).2 rfl)
  have x8 := h.m.x.grown hg (fun e => h.m.row gX e.symm rfl)
  have s8 := h.s.grown hg (fun e => h.row gS e.symm rfl)
  have l1 := h.m.m.r.lt
  have l2 := h.m.x.lt
  have l3 := h.s.lt
  have hrow : ∀ j, rowOf a2 = some j → db < j ∧ j ≠ gR ∧ j ≠ gX ∧ j ≠ gS := by
    intro j hj
    rcases hat with e | e
    · rw [e] at hj; exact ⟨(h.m.m.row j hj).1, (h.m.m.row j hj).2, h.m.row j hj, h.row j hj⟩
    · rw [e] at hj
      have := Option.some.inj hj
      exact ⟨by omega, by omega, by omega, by omega⟩
  refine ⟨⟨⟨⟨hE8.set gR 1 _ (by omega) (by omega) (rd_ne h.m.m.rp (by omega)), r8.set 1 _, hO.other (fun j hj => (hrow j hj).2.1) 1 _, by rw [List.length_append, h.m.m.len]; rfl, hle, ?_, h3, h4, h.m.m.rp, fun j hj => ⟨(hrow j hj).1, (hrow j hj).2.1⟩⟩, x8.other (by omega) 1 _, h2, fun j hj => (hrow j hj).2.2.1⟩, s8.other (by omega) 1 _, h1, fun j hj => (hrow j hj).2.2.2⟩, r8.cell 1 rfl, r8.free 1⟩
  intro r hr
  rcases List.mem_append.1 hr with hr | hr
  · exact h.m.m.keys r hr
  · rw [List.mem_singleton.1 hr]; exact hk
theorem Mg.agree (h : Mg W w db p l cap q gR P pa np pc L gX i k d gS R S) (hB : Bases w) (h1 : I64 i) (h2 : I64 d) (z : Int) :
    Calls Tryz.prog 15 #[.agg #[.int .i64 P, .slice pa np pc], .agg #[.int .i64 i, .int .i64 k, .int .i64 d], .agg #[.int .i64 R, .int .i64 S], .int .i64 z] w fun e w' => e = .returned (.bool true) ∧ Below w.heap.size w w' := by
  have hle := h.m.m.le
  have hlen := h.m.m.len
  have := eagree_walk P pa L pc ⟨i, k, d⟩ R S z w (safe_eq P).symm hB h.m.m.o.rd h.m.m.keys h1 h2 (by omega) (by rw [hlen]; exact h.m.m.o.2.1)
  rw [hlen] at this
  exact this
end
set_option maxRecDepth 100000 in
set_option maxHeartbeats 8000000 in
theorem emade_walk (W : World) (hB : Bases W) (p : Option Addr) (l : List Int) (cap : Nat) (hR : Rd W p (ints l)) (hl : l.length ≤ 17592186043904) (n : Int) (hn : I64 n) :
    Calls Tryz.prog 5 #[.slice p l.length cap, .int .i64 n] W fun e w' => e = .returned (.bool true) ∧ Below W.heap.size W w' := by
  obtain ⟨db, hdb⟩ : ∃ db, db = W.heap.size := ⟨_, rfl⟩
  have HBS : Hid (∀ V, Below W.heap.size W V → Bases V) := Lib.hid (fun V hV => hB.keep hV)
  have KA := Lib.hid (fun V hV => awake23_walk V hV)
  have HNN := Lib.hid hn
  clear hB hn
  go_enter Tryz.func5, Tryz.ntmps5
  go_wp2_with (go_at_call 6; (with_reducible refine (light_walk _ _ _ _ (by omega)).mono ?_))
  rintro e w1 ⟨rfl, rfl⟩
  by_cases hq : 500 < l.length
  · have h1 : decide (l.length ≤ 500) = false := by simp; omega
    clear hq
    go_wp2_with (go_at_call 7; (with_reducible refine (KA.out _ (HBS.out _ (Below.refl _ _))).mono ?_))
    (first | rintro e w1 rfl hb1 | rintro e w1 ⟨rfl, hb1⟩)
    go_wp2
    go_ret
    exact ⟨rfl, hb1⟩
  have hd5 : decide (l.length ≤ 500) = true := by simp; omega
  have hl48 : l.length ≤ 281474976710656 := by omega
  clear hq
  go_wp2_with (go_at_call 8; (with_reducible refine (roll_walk _ _ _ _).mono ?_))
  rintro e w1 ⟨rfl, hD, hb1⟩
  have hE : Env W w1 W.heap.size p l cap 0 := ⟨hD, hR.keep hb1, hb1⟩
  rw [← hdb] at hE ⊢
  have hwd : W.heap.size ≤ db := by omega
  have HR := Lib.hid hR
  clear hD hb1 hd5 hR hdb hl
  go_wp2_with (go_at_call 16; (with_reducible refine (psafe_walk _ p l cap 0 W _ hE HR.out hwd hl48).mono ?_))
  (first | rintro e w2 rfl hE2 | rintro e w2 ⟨rfl, hE2⟩)
  obtain ⟨P, hP, hsafe, h11, hbig⟩ := safes_ok _ (ofF_mem l 0 safesL (by decide))
  rw [hP]
  have HSF := Lib.hid ((safe_eq (P : Int)).symm.trans hsafe)
  generalize dnxt l 0 = q1 at *
  clear hP hE hsafe
  have KRO : Hid (Calls Tryz.prog 17 #[.pointer (some ⟨db, 0, none⟩), .int .i64 (P : Int), .int .i64 5] w2 (PRollRes W w2 db p l cap P 5)) := Lib.hid (proll_walk W db p l cap q1 P 5 w2 hE2 HR.out hwd hl48 (by omega) (by omega) (by omega))
  go_wp2_with (go_at_call 17; (with_reducible refine KRO.out.mono ?_))
  (first | rintro e w3 ⟨np, pa, pc, L, q2, rfl, hn5, hL, hO, hE3⟩ | rintro e w3 np pa pc L q2 rfl hn5 hL hO hE3)
  clear KRO hE2
  have hM : Mr W (w3.alloc (.cells #[.int .i64 (P : Int), .slice pa np pc] 30)) db p l cap q2 w3.heap.size (P : Int) pa np pc L := by
    have hbA := (Below.refl w3.heap.size w3).alloc (Nat.le_refl _) (.cells #[.int .i64 (P : Int), .slice pa np pc] 30)
    exact ⟨hE3.keep hbA, Bx.new w3 30 [.int .i64 (P : Int), .slice pa np pc], hO.keep hbA, hL.1, by omega, ppl_keys (by omega) hL, hE3.dice.lt, hwd, HR.out, fun j hj => ⟨(hO.row j hj).1, by have := (hO.row j hj).2; omega⟩⟩
  clear hO hE3 hL
  go_upto_region 6 with (fail)
  generalize w3.alloc (.cells #[.int .i64 (P : Int), .slice pa np pc] 30) = w4 at *
  generalize w3.heap.size = gR at *
  have K9 := Lib.hid (hM.dicec hl48 9 (by omega) (by omega))
  have a1 := dnum_lo l q2 (n := 9) (by omega)
  have a2 := dnum_hi l q2 (n := 9) (by omega)
  generalize dnum l q2 9 = z at *
  generalize dnxt l q2 = q3 at *
  obtain ⟨key, hkey⟩ : ∃ key : Nat, 2 + z = (key : Int) := ⟨(2 + z).toNat, by omega⟩
  have hw1 : IntKind.i64.wrap (2 + z) = (key : Int) := by rw [IntKind.wrap_i64]; omega
  have hk2 : 2 ≤ key := by omega
  have hk10 : key ≤ 10 := by omega
  have KM : Hid (∀ V, Calls Tryz.prog 18 #[.int .i64 (key : Int), .int .i64 (P : Int)] V fun e w' => e = .returned (.int .i64 (key : Int)) ∧ V = w') := Lib.hid (fun V => by
    have := dmod_walk (key : Int) (P : Int) V (by omega) (by omega)
    rwa [Int.emod_eq_of_lt (by omega) (by omega)] at this)
  clear hkey
  go_wp2_with (go_at_call 9; (with_reducible refine K9.out.mono ?_))
  rintro e w5 ⟨rfl, hE5, hg5⟩
  replace hM := hM.next hE5 hg5
  clear hE5 hg5 K9
  go_wp2_with (go_at_call 18; (with_reducible refine (KM.out _).mono ?_))
  (try rintro e w6 ⟨rfl, rfl⟩)
  clear KM hw1 a1 a2
  go_upto_region 7 with (fail)
  have K1 : Hid (Calls Tryz.prog 19 #[.pointer (some ⟨db, 0, none⟩), .slice (some ⟨w5.heap.size, 0, none⟩) 7 7] (w5.alloc (.cells #[.int .i64 1, .int .i64 6, .int .i64 9, .int .i64 1048576, .int .i64 0, .int .i64 1048577, .int .i64 n] 3)) fun e w' => e = .returned (.int .i64 (ofF l q3 [1, 6, 9, 1048576, 0, 1048577, n])) ∧ (Env W w' db p l cap (dnxt l q3) ∧ (w5.alloc (.cells #[.int .i64 1, .int .i64 6, .int .i64 9, .int .i64 1048576, .int .i64 0, .int .i64 1048577, .int .i64 n] 3)).grownBy w' (some db))) := Lib.hid (ofE hM.env HR.out hwd hl48 [1, 6, 9, 1048576, 0, 1048577, n] (by simp) (by simp))
  have hi1 : I64 (ofF l q3 [1, 6, 9, 1048576, 0, 1048577, n]) := i64_of (by simp) (by
    intro x hx
    simp only [List.mem_cons, List.not_mem_nil, or_false] at hx
    rcases hx with rfl | rfl | rfl | rfl | rfl | rfl | rfl
    all_goals first | exact HNN.out | exact ⟨by omega, by omega⟩)
  have HI1 := Lib.hid hi1
  clear hi1
  generalize ofF l q3 [1, 6, 9, 1048576, 0, 1048577, n] = xi at *
  generalize dnxt l q3 = q4 at *
  have KP := Lib.hid (fun V => rPublic_walk P (key : Int) V (by omega) (by omega))
  have hy := gpw_lt P 4 (key : Int)
  have HY : Hid (I64 ((gpw P 4 (key : Int) : Nat) : Int)) := Lib.hid ⟨by omega, by omega⟩
  clear hy
  generalize ((gpw P 4 (key : Int) : Nat) : Int) = y at *
  go_wp2_with (go_at_call 19; (with_reducible refine K1.out.mono ?_))
  rintro e w6 ⟨rfl, hE6, hg6⟩
  replace hM := (hM.keep ((Below.refl _ _).alloc (Nat.le_refl _) (.cells #[.int .i64 1, .int .i64 6, .int .i64 9, .int .i64 1048576, .int .i64 0, .int .i64 1048577, .int .i64 n] 3))).next hE6 hg6
  clear hE6 hg6 K1
  have K2 : Hid (Calls Tryz.prog 19 #[.pointer (some ⟨db, 0, none⟩), .slice (some ⟨w6.heap.size, 0, none⟩) 5 5] (w6.alloc (.cells #[.int .i64 0, .int .i64 63, .int .i64 64, .int .i64 (-1), .int .i64 2] 3)) fun e w' => e = .returned (.int .i64 (ofF l q4 [0, 63, 64, (-1), 2])) ∧ (Env W w' db p l cap (dnxt l q4) ∧ (w6.alloc (.cells #[.int .i64 0, .int .i64 63, .int .i64 64, .int .i64 (-1), .int .i64 2] 3)).grownBy w' (some db))) := Lib.hid (ofE hM.env HR.out hwd hl48 [0, 63, 64, (-1), 2] (by simp) (by simp))
  have hi2 : I64 (ofF l q4 [0, 63, 64, (-1), 2]) := i64_of (by simp) (by
    intro x hx
    simp only [List.mem_cons, List.not_mem_nil, or_false] at hx
    rcases hx with rfl | rfl | rfl | rfl | rfl
    all_goals exact ⟨by omega, by omega⟩)
  have HI2 := Lib.hid hi2
  clear hi2
  generalize ofF l q4 [0, 63, 64, (-1), 2] = xd at *
  generalize dnxt l q4 = q5 at *
  go_wp2_with (first | (go_at_call 13; (with_reducible refine (KP.out _).mono ?_); (try rintro e w7 ⟨rfl, rfl⟩)) | (go_at_call 19; (with_reducible refine K2.out.mono ?_)))
  rintro e w8 ⟨rfl, hE8, hg8⟩
  replace hM := (hM.keep ((Below.refl _ _).alloc (Nat.le_refl _) (.cells #[.int .i64 0, .int .i64 63, .int .i64 64, .int .i64 (-1), .int .i64 2] 3))).next hE8 hg8
  clear hE8 hg8 K2 KP
  have hX : Mx W (w8.alloc (.cells #[.int .i64 xi, .int .i64 y, .int .i64 xd] 43)) db p l cap q5 gR (P : Int) pa np pc L w8.heap.size xi y xd :=
    ⟨hM.keep ((Below.refl _ _).alloc (Nat.le_refl _) _), Bx.new w8 43 [.int .i64 xi, .int .i64 y, .int .i64 xd], hM.r.lt, fun j hj => by have := (hM.o.row j hj).2; omega⟩
  clear hM
  go_upto_region 8 with (fail)
  generalize w8.alloc (.cells #[.int .i64 xi, .int .i64 y, .int .i64 xd] 43) = v0 at *
  generalize w8.heap.size = gX at *
  go_cut [10] (fun v wx => ∃ (gS q : Nat) (R S : Int), v = .pointer (some ⟨gS, 0, none⟩) ∧ Mg W wx db p l cap q gR (P : Int) pa np pc L gX xi y xd gS R S)
  case first =>
    have K3 : Hid (∀ V, Mx W V db p l cap q5 gR (P : Int) pa np pc L gX xi y xd → _) := Lib.hid (fun V h => Mr.dicec (w := V) h.m hl48 9 (by omega) (by omega))
    have a1 := dnum_lo l q5 (n := 9) (by omega)
    have a2 := dnum_hi l q5 (n := 9) (by omega)
    generalize dnum l q5 9 = z at *
    generalize dnxt l q5 = q6 at *
    obtain ⟨nc, hnc⟩ : ∃ nc : Nat, 1 + z = (nc : Int) := ⟨(1 + z).toNat, by omega⟩
    have hw1 : IntKind.i64.wrap (1 + z) = (nc : Int) := by rw [IntKind.wrap_i64]; omega
    have K9 := Lib.hid (fun V => reclaim_walk xi xd V HI1.out HI2.out)
    have hcl := clmF_len HI1.out HI2.out
    generalize clmF xi xd = txt at *
    obtain ⟨R, S, k10⟩ : ∃ R S : Int, ∀ V, Calls Tryz.prog 10 #[.int .i64 (P : Int), .int .i64 (key : Int), .int .i64 (nc : Int), .string ⟨txt.toArray⟩] V fun e w' => e = .returned (.tuple #[.agg #[.int .i64 R, .int .i64 S], .int .i64 0]) ∧ Below V.heap.size V w' := ⟨_, _, fun V => rsign_yes P key nc txt V HSF.out (by omega) (by omega) (by omega) (by omega) (by omega)⟩
    have K10 := Lib.hid k10
    clear k10 hcl hnc a1 a2
    refine wp_region_held_last' (S := fun w' => w'.cell? ⟨gX, 0, none⟩ = some (.int .i64 xi) ∧ w'.cell? ⟨gX, 2, none⟩ = some (.int .i64 xd)) 16 rfl (by kernel_rfl) (by kernel_rfl) (by kernel_rfl) ⟨(hX.keep (Below.refl _ _).drew).x.cell 0 rfl, (hX.keep (Below.refl _ _).drew).x.cell 2 rfl⟩ (fun hHeld => ?_)
    dsimp only [List.dropLast, List.replicate] at hHeld ⊢
    replace hX := hX.keep (Below.refl _ _).drew
    generalize v0.drew = v1 at *
    refine held_take (0) (v := ?_) rfl (by kernel_rfl) (by kernel_rfl) (by kernel_rfl) (fun _ _ _ h => h) (Or.inl ⟨by rfl, ?_⟩) (by assumption) ?_
    rotate_left
    · intro w hSw
      try dsimp only at hSw
      go_simp
      with_reducible rfl
    try simp only [Act.put, List.setIfInBounds_toArray, List.set_cons_zero, List.set_cons_succ]
    refine held_take (1) (v := ?_) rfl (by kernel_rfl) (by kernel_rfl) (by kernel_rfl) (fun _ _ _ h => h) (Or.inl ⟨by rfl, ?_⟩) (by assumption) ?_
    rotate_left
    · intro w hSw
      try dsimp only at hSw
      go_simp
      with_reducible rfl
    try simp only [Act.put, List.setIfInBounds_toArray, List.set_cons_zero, List.set_cons_succ]
    refine held_take (2) (v := ?_) rfl (by kernel_rfl) (by kernel_rfl) (by kernel_rfl) (fun _ _ _ h => h) (Or.inl ⟨by rfl, ?_⟩) (by assumption) ?_
    rotate_left
    · intro w hSw
      try dsimp only at hSw
      go_simp
      with_reducible rfl
    try simp only [Act.put, List.setIfInBounds_toArray, List.set_cons_zero, List.set_cons_succ]
    refine held_take (5) (v := ?_) rfl (by kernel_rfl) (by kernel_rfl) (by kernel_rfl) (fun _ _ _ h => h) (Or.inl ⟨by rfl, ?_⟩) (by assumption) ?_
    rotate_left
    · intro w hSw
      try dsimp only at hSw
      go_simp
      with_reducible rfl
    try simp only [Act.put, List.setIfInBounds_toArray, List.set_cons_zero, List.set_cons_succ]
    refine held_take (6) (v := ?_) rfl (by kernel_rfl) (by kernel_rfl) (by kernel_rfl) (fun _ _ _ h => h) (Or.inl ⟨by rfl, ?_⟩) (by assumption) ?_
    rotate_left
    · intro w hSw
      try dsimp only at hSw
      go_simp
      with_reducible rfl
    try simp only [Act.put, List.setIfInBounds_toArray, List.set_cons_zero, List.set_cons_succ]
    refine held_take (7) (v := ?_) rfl (by kernel_rfl) (by kernel_rfl) (by kernel_rfl) (fun _ _ _ h => h) (Or.inl ⟨by rfl, ?_⟩) (by assumption) ?_
    rotate_left
    · intro w hSw
      try dsimp only at hSw
      go_simp
      with_reducible rfl
    try simp only [Act.put, List.setIfInBounds_toArray, List.set_cons_zero, List.set_cons_succ]
    refine held_take (8) (v := ?_) rfl (by kernel_rfl) (by kernel_rfl) (by kernel_rfl) (fun _ _ _ h => h) (Or.inl ⟨by rfl, ?_⟩) (by assumption) ?_
    rotate_left
    · intro w hSw
      try dsimp only at hSw
      go_simp
      with_reducible rfl
    try simp only [Act.put, List.setIfInBounds_toArray, List.set_cons_zero, List.set_cons_succ]
    refine wpAnyH_ready (rs := [3, 14]) (by kernel_rfl) (by simp) ?_
    refine held_cons rfl (fun K hK => ?_) ?_
    · skip
      go_simp
      go_at_call 9
      (with_reducible refine (K3.out _ hX).mono ?_)
      rintro e u0 ⟨rfl, hE0, hg0⟩
      have hX0 := hX.next hE0 hg0
      clear hE0 hg0
      go_wp2_with fail
      refine hK.out _ _ ⟨hX0.x.cell 0 rfl, hX0.x.cell 2 rfl⟩ (fun hHeld => ?_)
      clear hK K
      try simp only [Act.put, List.setIfInBounds_toArray, List.set_cons_zero, List.set_cons_succ]
      refine held_take (4) (v := ?_) rfl (by kernel_rfl) (by kernel_rfl) (by kernel_rfl) (fun _ _ _ h => h) (Or.inl ⟨by rfl, ?_⟩) (by assumption) ?_
      rotate_left
      · intro w hSw
        try dsimp only at hSw
        go_simp
        with_reducible rfl
      try simp only [Act.put, List.setIfInBounds_toArray, List.set_cons_zero, List.set_cons_succ]
      refine wpAnyH_ready (rs := [9, 14]) (by kernel_rfl) (by simp) ?_
      refine held_cons rfl (fun K hK => ?_) ?_
      · skip
        go_simp
        go_at_call 20
        (with_reducible refine (K9.out _).mono ?_)
        (first | rintro e u1 rfl hb1 | rintro e u1 ⟨rfl, hb1⟩)
        have hX1 := hX0.keep hb1
        clear hb1
        go_wp2_with fail
        refine hK.out _ _ ⟨hX1.x.cell 0 rfl, hX1.x.cell 2 rfl⟩ (fun hHeld => ?_)
        clear hK K
        try simp only [Act.put, List.setIfInBounds_toArray, List.set_cons_zero, List.set_cons_succ]
        refine wpAnyH_ready (rs := [10, 14]) (by kernel_rfl) (by simp) ?_
        refine held_cons rfl (fun K hK => ?_) ?_
        · skip
          go_simp
          go_at_call 10
          (with_reducible refine (K10.out _).mono ?_)
          (first | rintro e u2 rfl hb2 | rintro e u2 ⟨rfl, hb2⟩)
          have hX2 := hX1.keep hb2
          clear hb2
          go_wp2_with fail
          refine hK.out _ _ ⟨hX2.x.cell 0 rfl, hX2.x.cell 2 rfl⟩ (fun hHeld => ?_)
          clear hK K
          try simp only [Act.put, List.setIfInBounds_toArray, List.set_cons_zero, List.set_cons_succ]
          refine held_take (11) (v := ?_) rfl (by kernel_rfl) (by kernel_rfl) (by kernel_rfl) (fun _ _ _ h => h) (Or.inl ⟨by rfl, ?_⟩) (by assumption) ?_
          rotate_left
          · intro w hSw
            try dsimp only at hSw
            go_simp
            with_reducible rfl
          try simp only [Act.put, List.setIfInBounds_toArray, List.set_cons_zero, List.set_cons_succ]
          refine held_take (12) (v := ?_) rfl (by kernel_rfl) (by kernel_rfl) (by kernel_rfl) (fun _ _ _ h => h) (Or.inl ⟨by rfl, ?_⟩) (by assumption) ?_
          rotate_left
          · intro w hSw
            try dsimp only at hSw
            go_simp
            with_reducible rfl
          try simp only [Act.put, List.setIfInBounds_toArray, List.set_cons_zero, List.set_cons_succ]
          refine held_take (13) (v := ?_) rfl (by kernel_rfl) (by kernel_rfl) (by kernel_rfl) (fun _ _ _ h => h) (Or.inl ⟨by rfl, ?_⟩) (by assumption) ?_
          rotate_left
          · intro w hSw
            try dsimp only at hSw
            go_simp
            with_reducible rfl
          try simp only [Act.put, List.setIfInBounds_toArray, List.set_cons_zero, List.set_cons_succ]
          refine wpAnyH_ready (rs := [14]) (by kernel_rfl) (by simp) ?_
          refine held_cons rfl (fun K hK => ?_) AllReadyH.nil
          go_simp
          have hb3 := (Below.refl u2.heap.size u2).alloc (Nat.le_refl _) (.cells #[.int .i64 0, .int .i64 0] 34)
          have zZ3 := Bx.new u2 34 [.int .i64 0, .int .i64 0]
          change Bx (u2.alloc (.cells #[.int .i64 0, .int .i64 0] 34)) _ _ _ at zZ3
          have hX3 := hX2.keep hb3
          have fZ : ∀ j, rowOf pa = some j → j < u2.heap.size := fun j hj => (hX2.m.o.row j hj).2
          have gZ : gX < u2.heap.size := hX2.x.lt
          refine hK.out _ _ ⟨hX3.x.cell 0 rfl, hX3.x.cell 2 rfl⟩ (fun hHeld => ?_)
          clear hK K
          try simp only [Act.put, List.setIfInBounds_toArray, List.set_cons_zero, List.set_cons_succ]
          refine wpAnyH_ready (rs := [15]) (by kernel_rfl) (by simp) ?_
          refine held_cons rfl (fun K hK => ?_) AllReadyH.nil
          go_simp
          have hbQ := (Below.refl u2.heap.size u2).alloc (Nat.le_refl _) (.cells #[.int .i64 R, .int .i64 S] 34)
          have zQ := Bx.new u2 34 [.int .i64 R, .int .i64 S]
          change Bx (u2.alloc (.cells #[.int .i64 R, .int .i64 S] 34)) _ _ _ at zQ
          have hQ := hX2.keep hbQ
          clear hbQ
          generalize u2.alloc (.cells #[.int .i64 R, .int .i64 S] 34) = wQ at *
          refine hK.out _ _ ⟨hQ.x.cell 0 rfl, hQ.x.cell 2 rfl⟩ (fun hHeld => ?_)
          clear hK K
          try simp only [Act.put, List.setIfInBounds_toArray, List.set_cons_zero, List.set_cons_succ]
          refine wpAnyH_done (by kernel_rfl) ?_ _
          dsimp only [Behind]
          have hG : Mg W wQ db p l cap q6 gR (P : Int) pa np pc L gX xi y xd _ R S := ⟨hQ, zQ, gZ, fun j hj => by have := fZ j hj; omega⟩
          go_wp2_with fail
          go_meet
          exact ⟨_, _, _, _, rfl, hG⟩
        · refine held_cons rfl (fun K hK => ?_) AllReadyH.nil
          go_simp
          have hb2 := (Below.refl u1.heap.size u1).alloc (Nat.le_refl _) (.cells #[.int .i64 0, .int .i64 0] 34)
          have zZ2 := Bx.new u1 34 [.int .i64 0, .int .i64 0]
          change Bx (u1.alloc (.cells #[.int .i64 0, .int .i64 0] 34)) _ _ _ at zZ2
          have hX2 := hX1.keep hb2
          have fZ : ∀ j, rowOf pa = some j → j < u1.heap.size := fun j hj => (hX1.m.o.row j hj).2
          have gZ : gX < u1.heap.size := hX1.x.lt
          refine hK.out _ _ ⟨hX2.x.cell 0 rfl, hX2.x.cell 2 rfl⟩ (fun hHeld => ?_)
          clear hK K
          try simp only [Act.put, List.setIfInBounds_toArray, List.set_cons_zero, List.set_cons_succ]
          refine wpAnyH_ready (rs := [10]) (by kernel_rfl) (by simp) ?_
          refine held_cons rfl (fun K hK => ?_) AllReadyH.nil
          go_simp
          go_at_call 10
          (with_reducible refine (K10.out _).mono ?_)
          (first | rintro e u3 rfl hb3 | rintro e u3 ⟨rfl, hb3⟩)
          have hX3 := hX2.keep hb3
          have zZ3 := zZ2.keep hb3
          clear hb3
          go_wp2_with fail
          refine hK.out _ _ ⟨hX3.x.cell 0 rfl, hX3.x.cell 2 rfl⟩ (fun hHeld => ?_)
          clear hK K
          try simp only [Act.put, List.setIfInBounds_toArray, List.set_cons_zero, List.set_cons_succ]
          refine held_take (11) (v := ?_) rfl (by kernel_rfl) (by kernel_rfl) (by kernel_rfl) (fun _ _ _ h => h) (Or.inl ⟨by rfl, ?_⟩) (by assumption) ?_
          rotate_left
          · intro w hSw
            try dsimp only at hSw
            go_simp
            with_reducible rfl
          try simp only [Act.put, List.setIfInBounds_toArray, List.set_cons_zero, List.set_cons_succ]
          refine held_take (12) (v := ?_) rfl (by kernel_rfl) (by kernel_rfl) (by kernel_rfl) (fun _ _ _ h => h) (Or.inl ⟨by rfl, ?_⟩) (by assumption) ?_
          rotate_left
          · intro w hSw
            try dsimp only at hSw
            go_simp
            with_reducible rfl
          try simp only [Act.put, List.setIfInBounds_toArray, List.set_cons_zero, List.set_cons_succ]
          refine held_take (13) (v := ?_) rfl (by kernel_rfl) (by kernel_rfl) (by kernel_rfl) (fun _ _ _ h => h) (Or.inl ⟨by rfl, ?_⟩) (by assumption) ?_
          rotate_left
          · intro w hSw
            try dsimp only at hSw
            go_simp
            with_reducible rfl
          try simp only [Act.put, List.setIfInBounds_toArray, List.set_cons_zero, List.set_cons_succ]
          refine wpAnyH_ready (rs := [15]) (by kernel_rfl) (by simp) ?_
          refine held_cons rfl (fun K hK => ?_) AllReadyH.nil
          have z0 := zZ3.cell 0 (v := .int .i64 0) rfl
          have z1 := zZ3.cell 1 (v := .int .i64 0) rfl
          have e0 := zZ3.free 0
          have e1 := zZ3.free 1
          go_simp
          have zQ := (zZ3.set 0 (.int .i64 R)).set 1 (.int .i64 S)
          change Bx _ _ _ [.int .i64 R, .int .i64 S] at zQ
          have hQ := (hX3.oth u1.heap.size 0 (.int .i64 R) gZ (fun j hj => by have := fZ j hj; omega)).oth u1.heap.size 1 (.int .i64 S) gZ (fun j hj => by have := fZ j hj; omega)
          clear z0 z1 e0 e1
          generalize ((u3).setCell ⟨u1.heap.size, 0, none⟩ (.int .i64 R)).setCell ⟨u1.heap.size, 1, none⟩ (.int .i64 S) = wQ at *
          refine hK.out _ _ ⟨hQ.x.cell 0 rfl, hQ.x.cell 2 rfl⟩ (fun hHeld => ?_)
          clear hK K
          try simp only [Act.put, List.setIfInBounds_toArray, List.set_cons_zero, List.set_cons_succ]
          refine wpAnyH_done (by kernel_rfl) ?_ _
          dsimp only [Behind]
          have hG : Mg W wQ db p l cap q6 gR (P : Int) pa np pc L gX xi y xd _ R S := ⟨hQ, zQ, gZ, fun j hj => by have := fZ j hj; omega⟩
          go_wp2_with fail
          go_meet
          exact ⟨_, _, _, _, rfl, hG⟩
      · refine held_cons rfl (fun K hK => ?_) AllReadyH.nil
        go_simp
        have hb1 := (Below.refl u0.heap.size u0).alloc (Nat.le_refl _) (.cells #[.int .i64 0, .int .i64 0] 34)
        have zZ1 := Bx.new u0 34 [.int .i64 0, .int .i64 0]
        change Bx (u0.alloc (.cells #[.int .i64 0, .int .i64 0] 34)) _ _ _ at zZ1
        have hX1 := hX0.keep hb1
        have fZ : ∀ j, rowOf pa = some j → j < u0.heap.size := fun j hj => (hX0.m.o.row j hj).2
        have gZ : gX < u0.heap.size := hX0.x.lt
        refine hK.out _ _ ⟨hX1.x.cell 0 rfl, hX1.x.cell 2 rfl⟩ (fun hHeld => ?_)
        clear hK K
        try simp only [Act.put, List.setIfInBounds_toArray, List.set_cons_zero, List.set_cons_succ]
        refine wpAnyH_ready (rs := [9]) (by kernel_rfl) (by simp) ?_
        refine held_cons rfl (fun K hK => ?_) AllReadyH.nil
        go_simp
        go_at_call 20
        (with_reducible refine (K9.out _).mono ?_)
        (first | rintro e u2 rfl hb2 | rintro e u2 ⟨rfl, hb2⟩)
        have hX2 := hX1.keep hb2
        have zZ2 := zZ1.keep hb2
        clear hb2
        go_wp2_with fail
        refine hK.out _ _ ⟨hX2.x.cell 0 rfl, hX2.x.cell 2 rfl⟩ (fun hHeld => ?_)
        clear hK K
        try simp only [Act.put, List.setIfInBounds_toArray, List.set_cons_zero, List.set_cons_succ]
        refine wpAnyH_ready (rs := [10]) (by kernel_rfl) (by simp) ?_
        refine held_cons rfl (fun K hK => ?_) AllReadyH.nil
        go_simp
        go_at_call 10
        (with_reducible refine (K10.out _).mono ?_)
        (first | rintro e u3 rfl hb3 | rintro e u3 ⟨rfl, hb3⟩)
        have hX3 := hX2.keep hb3
        have zZ3 := zZ2.keep hb3
        clear hb3
        go_wp2_with fail
        refine hK.out _ _ ⟨hX3.x.cell 0 rfl, hX3.x.cell 2 rfl⟩ (fun hHeld => ?_)
        clear hK K
        try simp only [Act.put, List.setIfInBounds_toArray, List.set_cons_zero, List.set_cons_succ]
        refine held_take (11) (v := ?_) rfl (by kernel_rfl) (by kernel_rfl) (by kernel_rfl) (fun _ _ _ h => h) (Or.inl ⟨by rfl, ?_⟩) (by assumption) ?_
        rotate_left
        · intro w hSw
          try dsimp only at hSw
          go_simp
          with_reducible rfl
        try simp only [Act.put, List.setIfInBounds_toArray, List.set_cons_zero, List.set_cons_succ]
        refine held_take (12) (v := ?_) rfl (by kernel_rfl) (by kernel_rfl) (by kernel_rfl) (fun _ _ _ h => h) (Or.inl ⟨by rfl, ?_⟩) (by assumption) ?_
        rotate_left
        · intro w hSw
          try dsimp only at hSw
          go_simp
          with_reducible rfl
        try simp only [Act.put, List.setIfInBounds_toArray, List.set_cons_zero, List.set_cons_succ]
        refine held_take (13) (v := ?_) rfl (by kernel_rfl) (by kernel_rfl) (by kernel_rfl) (fun _ _ _ h => h) (Or.inl ⟨by rfl, ?_⟩) (by assumption) ?_
        rotate_left
        · intro w hSw
          try dsimp only at hSw
          go_simp
          with_reducible rfl
        try simp only [Act.put, List.setIfInBounds_toArray, List.set_cons_zero, List.set_cons_succ]
        refine wpAnyH_ready (rs := [15]) (by kernel_rfl) (by simp) ?_
        refine held_cons rfl (fun K hK => ?_) AllReadyH.nil
        have z0 := zZ3.cell 0 (v := .int .i64 0) rfl
        have z1 := zZ3.cell 1 (v := .int .i64 0) rfl
        have e0 := zZ3.free 0
        have e1 := zZ3.free 1
        go_simp
        have zQ := (zZ3.set 0 (.int .i64 R)).set 1 (.int .i64 S)
        change Bx _ _ _ [.int .i64 R, .int .i64 S] at zQ
        have hQ := (hX3.oth u0.heap.size 0 (.int .i64 R) gZ (fun j hj => by have := fZ j hj; omega)).oth u0.heap.size 1 (.int .i64 S) gZ (fun j hj => by have := fZ j hj; omega)
        clear z0 z1 e0 e1
        generalize ((u3).setCell ⟨u0.heap.size, 0, none⟩ (.int .i64 R)).setCell ⟨u0.heap.size, 1, none⟩ (.int .i64 S) = wQ at *
        refine hK.out _ _ ⟨hQ.x.cell 0 rfl, hQ.x.cell 2 rfl⟩ (fun hHeld => ?_)
        clear hK K
        try simp only [Act.put, List.setIfInBounds_toArray, List.set_cons_zero, List.set_cons_succ]
        refine wpAnyH_done (by kernel_rfl) ?_ _
        dsimp only [Behind]
        have hG : Mg W wQ db p l cap q6 gR (P : Int) pa np pc L gX xi y xd _ R S := ⟨hQ, zQ, gZ, fun j hj => by have := fZ j hj; omega⟩
        go_wp2_with fail
        go_meet
        exact ⟨_, _, _, _, rfl, hG⟩
    · refine held_cons rfl (fun K hK => ?_) AllReadyH.nil
      go_simp
      have hb0 := (Below.refl v1.heap.size v1).alloc (Nat.le_refl _) (.cells #[.int .i64 0, .int .i64 0] 34)
      have zZ0 := Bx.new v1 34 [.int .i64 0, .int .i64 0]
      change Bx (v1.alloc (.cells #[.int .i64 0, .int .i64 0] 34)) _ _ _ at zZ0
      have hX0 := hX.keep hb0
      have fZ : ∀ j, rowOf pa = some j → j < v1.heap.size := fun j hj => (hX.m.o.row j hj).2
      have gZ : gX < v1.heap.size := hX.x.lt
      refine hK.out _ _ ⟨hX0.x.cell 0 rfl, hX0.x.cell 2 rfl⟩ (fun hHeld => ?_)
      clear hK K
      try simp only [Act.put, List.setIfInBounds_toArray, List.set_cons_zero, List.set_cons_succ]
      refine wpAnyH_ready (rs := [3]) (by kernel_rfl) (by simp) ?_
      refine held_cons rfl (fun K hK => ?_) AllReadyH.nil
      go_simp
      go_at_call 9
      (with_reducible refine (K3.out _ hX0).mono ?_)
      rintro e u1 ⟨rfl, hE1, hg1⟩
      have hX1 := hX0.next hE1 hg1
      have zZ1 := zZ0.grown hg1 (by have := hX0.m.dR; have := hX0.RX; simp; omega)
      clear hE1 hg1
      go_wp2_with fail
      refine hK.out _ _ ⟨hX1.x.cell 0 rfl, hX1.x.cell 2 rfl⟩ (fun hHeld => ?_)
      clear hK K
      try simp only [Act.put, List.setIfInBounds_toArray, List.set_cons_zero, List.set_cons_succ]
      refine held_take (4) (v := ?_) rfl (by kernel_rfl) (by kernel_rfl) (by kernel_rfl) (fun _ _ _ h => h) (Or.inl ⟨by rfl, ?_⟩) (by assumption) ?_
      rotate_left
      · intro w hSw
        try dsimp only at hSw
        go_simp
        with_reducible rfl
      try simp only [Act.put, List.setIfInBounds_toArray, List.set_cons_zero, List.set_cons_succ]
      refine wpAnyH_ready (rs := [9]) (by kernel_rfl) (by simp) ?_
      refine held_cons rfl (fun K hK => ?_) AllReadyH.nil
      go_simp
      go_at_call 20
      (with_reducible refine (K9.out _).mono ?_)
      (first | rintro e u2 rfl hb2 | rintro e u2 ⟨rfl, hb2⟩)
      have hX2 := hX1.keep hb2
      have zZ2 := zZ1.keep hb2
      clear hb2
      go_wp2_with fail
      refine hK.out _ _ ⟨hX2.x.cell 0 rfl, hX2.x.cell 2 rfl⟩ (fun hHeld => ?_)
      clear hK K
      try simp only [Act.put, List.setIfInBounds_toArray, List.set_cons_zero, List.set_cons_succ]
      refine wpAnyH_ready (rs := [10]) (by kernel_rfl) (by simp) ?_
      refine held_cons rfl (fun K hK => ?_) AllReadyH.nil
      go_simp
      go_at_call 10
      (with_reducible refine (K10.out _).mono ?_)
      (first | rintro e u3 rfl hb3 | rintro e u3 ⟨rfl, hb3⟩)
      have hX3 := hX2.keep hb3
      have zZ3 := zZ2.keep hb3
      clear hb3
      go_wp2_with fail
      refine hK.out _ _ ⟨hX3.x.cell 0 rfl, hX3.x.cell 2 rfl⟩ (fun hHeld => ?_)
      clear hK K
      try simp only [Act.put, List.setIfInBounds_toArray, List.set_cons_zero, List.set_cons_succ]
      refine held_take (11) (v := ?_) rfl (by kernel_rfl) (by kernel_rfl) (by kernel_rfl) (fun _ _ _ h => h) (Or.inl ⟨by rfl, ?_⟩) (by assumption) ?_
      rotate_left
      · intro w hSw
        try dsimp only at hSw
        go_simp
        with_reducible rfl
      try simp only [Act.put, List.setIfInBounds_toArray, List.set_cons_zero, List.set_cons_succ]
      refine held_take (12) (v := ?_) rfl (by kernel_rfl) (by kernel_rfl) (by kernel_rfl) (fun _ _ _ h => h) (Or.inl ⟨by rfl, ?_⟩) (by assumption) ?_
      rotate_left
      · intro w hSw
        try dsimp only at hSw
        go_simp
        with_reducible rfl
      try simp only [Act.put, List.setIfInBounds_toArray, List.set_cons_zero, List.set_cons_succ]
      refine held_take (13) (v := ?_) rfl (by kernel_rfl) (by kernel_rfl) (by kernel_rfl) (fun _ _ _ h => h) (Or.inl ⟨by rfl, ?_⟩) (by assumption) ?_
      rotate_left
      · intro w hSw
        try dsimp only at hSw
        go_simp
        with_reducible rfl
      try simp only [Act.put, List.setIfInBounds_toArray, List.set_cons_zero, List.set_cons_succ]
      refine wpAnyH_ready (rs := [15]) (by kernel_rfl) (by simp) ?_
      refine held_cons rfl (fun K hK => ?_) AllReadyH.nil
      have z0 := zZ3.cell 0 (v := .int .i64 0) rfl
      have z1 := zZ3.cell 1 (v := .int .i64 0) rfl
      have e0 := zZ3.free 0
      have e1 := zZ3.free 1
      go_simp
      have zQ := (zZ3.set 0 (.int .i64 R)).set 1 (.int .i64 S)
      change Bx _ _ _ [.int .i64 R, .int .i64 S] at zQ
      have hQ := (hX3.oth v1.heap.size 0 (.int .i64 R) gZ (fun j hj => by have := fZ j hj; omega)).oth v1.heap.size 1 (.int .i64 S) gZ (fun j hj => by have := fZ j hj; omega)
      clear z0 z1 e0 e1
      generalize ((u3).setCell ⟨v1.heap.size, 0, none⟩ (.int .i64 R)).setCell ⟨v1.heap.size, 1, none⟩ (.int .i64 S) = wQ at *
      refine hK.out _ _ ⟨hQ.x.cell 0 rfl, hQ.x.cell 2 rfl⟩ (fun hHeld => ?_)
      clear hK K
      try simp only [Act.put, List.setIfInBounds_toArray, List.set_cons_zero, List.set_cons_succ]
      refine wpAnyH_done (by kernel_rfl) ?_ _
      dsimp only [Behind]
      have hG : Mg W wQ db p l cap q6 gR (P : Int) pa np pc L gX xi y xd _ R S := ⟨hQ, zQ, gZ, fun j hj => by have := fZ j hj; omega⟩
      go_wp2_with fail
      go_meet
      exact ⟨_, _, _, _, rfl, hG⟩
  case rest =>
    obtain ⟨gS, q6, R, S, rfl, hM⟩ := hcut
    clear hX HSF
    have K5 : Hid (∀ V, Mg W V db p l cap q6 gR (P : Int) pa np pc L gX xi y xd gS R S → _) := Lib.hid (fun V h => Mr.dicec (w := V) h.m.m hl48 7 (by omega) (by omega))
    have a1 := dnum_lo l q6 (n := 7) (by omega)
    have a2 := dnum_hi l q6 (n := 7) (by omega)
    generalize dnum l q6 7 = z7 at *
    generalize dnxt l q6 = q7 at *
    have hw1 : IntKind.i64.wrap (1 + z7) = 1 + z7 := by rw [IntKind.wrap_i64]; omega
    go_upto_region 9 with (fail)
    refine wp_region_held_drew (S := fun w' => w'.cell? ⟨gR, 0, none⟩ = some (.int .i64 (P : Int)) ∧ w'.cell? ⟨gR, 1, none⟩ = some (.slice pa np pc) ∧ w'.cell? ⟨gX, 0, none⟩ = some (.int .i64 xi) ∧ w'.cell? ⟨gX, 1, none⟩ = some (.int .i64 y) ∧ w'.cell? ⟨gX, 2, none⟩ = some (.int .i64 xd) ∧ w'.cell? ⟨gS, 0, none⟩ = some (.int .i64 R) ∧ w'.cell? ⟨gS, 1, none⟩ = some (.int .i64 S)) (by kernel_rfl) (hM.keep (Below.refl _ _).drew).held (fun hHeld => ?_)
    simp only [List.size_toArray, List.length_cons, List.length_nil]
    replace hM := hM.keep (Below.refl _ _).drew
    refine held_take (0) (v := ?_) rfl (by kernel_rfl) (by kernel_rfl) (by kernel_rfl) (fun _ _ _ h => h) (Or.inl ⟨by rfl, ?_⟩) (by assumption) ?_
    rotate_left
    · intro w hSw
      try dsimp only at hSw
      go_simp
      with_reducible rfl
    try simp only [Act.put, List.setIfInBounds_toArray, List.set_cons_zero, List.set_cons_succ]
    refine held_take (1) (v := ?_) rfl (by kernel_rfl) (by kernel_rfl) (by kernel_rfl) (fun _ _ _ h => h) (Or.inl ⟨by rfl, ?_⟩) (by assumption) ?_
    rotate_left
    · intro w hSw
      try dsimp only at hSw
      go_simp
      with_reducible rfl
    try simp only [Act.put, List.setIfInBounds_toArray, List.set_cons_zero, List.set_cons_succ]
    refine held_take (2) (v := ?_) rfl (by kernel_rfl) (by kernel_rfl) (by kernel_rfl) (fun _ _ _ h => h) (Or.inl ⟨by rfl, ?_⟩) (by assumption) ?_
    rotate_left
    · intro w hSw
      try dsimp only at hSw
      go_simp
      with_reducible rfl
    try simp only [Act.put, List.setIfInBounds_toArray, List.set_cons_zero, List.set_cons_succ]
    refine held_take (3) (v := ?_) rfl (by kernel_rfl) (by kernel_rfl) (by kernel_rfl) (fun _ _ _ h => h) (Or.inl ⟨by rfl, ?_⟩) (by assumption) ?_
    rotate_left
    · intro w hSw
      try dsimp only at hSw
      go_simp
      with_reducible rfl
    try simp only [Act.put, List.setIfInBounds_toArray, List.set_cons_zero, List.set_cons_succ]
    refine wpAnyH_ready (rs := [4]) (by kernel_rfl) (by simp) ?_
    refine held_cons rfl (fun K hK => ?_) AllReadyH.nil
    go_simp
    go_at_call 9
    (with_reducible refine (K5.out _ hM).mono ?_)
    (first | rintro e wN rfl hEN hgN | rintro e wN rfl ⟨hEN, hgN⟩ | rintro e wN ⟨rfl, hEN, hgN⟩)
    have hM1 := hM.next hEN hgN
    clear hEN hgN
    go_wp2_with fail
    refine hK.out _ _ hM1.held (fun hHeld => ?_)
    clear hK K
    try simp only [Act.put, List.setIfInBounds_toArray, List.set_cons_zero, List.set_cons_succ]
    refine held_take (5) (v := ?_) rfl (by kernel_rfl) (by kernel_rfl) (by kernel_rfl) (fun _ _ _ h => h) (Or.inl ⟨by rfl, ?_⟩) (by assumption) ?_
    rotate_left
    · intro w hSw
      try dsimp only at hSw
      go_simp
      with_reducible rfl
    try simp only [Act.put, List.setIfInBounds_toArray, List.set_cons_zero, List.set_cons_succ]
    refine wpAnyH_ready (rs := [6]) (by kernel_rfl) (by simp) ?_
    refine held_cons rfl (fun K hK => ?_) AllReadyH.nil
    go_simp
    go_at_call 15
    (with_reducible refine (hM1.agree (HBS.out _ hM1.b) HI1.out HI2.out _).mono ?_)
    (first | rintro e wG rfl hbG | rintro e wG ⟨rfl, hbG⟩)
    have hM2 := hM1.keep hbG
    go_wp2_with fail
    refine hK.out _ _ hM2.held (fun hHeld => ?_)
    clear hK K
    try simp only [Act.put, List.setIfInBounds_toArray, List.set_cons_zero, List.set_cons_succ]
    refine held_take (7) (v := ?_) rfl (by kernel_rfl) (by kernel_rfl) (by kernel_rfl) (fun _ _ _ h => h) (Or.inl ⟨by rfl, ?_⟩) (by assumption) ?_
    rotate_left
    · intro w hSw
      try dsimp only at hSw
      go_simp
      with_reducible rfl
    try simp only [Act.put, List.setIfInBounds_toArray, List.set_cons_zero, List.set_cons_succ]
    refine wpAnyH_done (by kernel_rfl) ?_ _
    clear hM hM1 K5 hw1 a1 a2
    have K6 : Hid (Calls _ _ _ _ _) := Lib.hid (Mr.dicec hM2.m.m hl48 6 (by omega) (by omega))
    have a1 := dnum_lo l q7 (n := 6) (by omega)
    have a2 := dnum_hi l q7 (n := 6) (by omega)
    generalize dnum l q7 6 = z6 at *
    generalize dnxt l q7 = q8 at *
    go_upto_region 11 with (fail)
    go_wp2_with (go_at_call 9; (with_reducible refine K6.out.mono ?_))
    (first | rintro e w9 rfl hEN hgN | rintro e w9 rfl ⟨hEN, hgN⟩ | rintro e w9 ⟨rfl, hEN, hgN⟩)
    have hM := hM2.next hEN hgN
    clear hM2 hEN hgN K6
    rcases (show z6 = 0 ∨ z6 = 1 ∨ z6 = 2 ∨ z6 = 3 ∨ z6 = 4 ∨ z6 = 5 by omega) with rfl | rfl | rfl | rfl | rfl | rfl
    · have hP0 : ¬ ((P : Int) = 0) := by omega
      obtain ⟨S1, hS1⟩ : ∃ S1, IntKind.i64.wrap (S + 1) = S1 := ⟨_, rfl⟩
      obtain ⟨S2, hS2⟩ : ∃ S2, S1.tmod (P : Int) = S2 := ⟨_, rfl⟩
      obtain ⟨y0, y1, y2, y3, y4, y5, y6⟩ := hM.held
      obtain ⟨f0, f1, f2, f3, f4⟩ := hM.frees
      go_upto_region 26 with (fail)
      replace hM := hM.setS S2
      generalize w9.setCell ⟨gS, 1, none⟩ (.int .i64 S2) = wZ at *
      clear y0 y1 y2 y3 y4 y5 y6 f0 f1 f2 f3 f4
      obtain ⟨y0, y1, y2, y3, y4, y5, y6⟩ := hM.held
      go_wp2_with (go_at_call 7; (with_reducible refine (KA.out _ (HBS.out _ hM.b)).mono ?_))
      (first | rintro e wa rfl hb1 | rintro e wa ⟨rfl, hb1⟩)
      replace hM := hM.keep hb1
      clear y0 y1 y2 y3 y4 y5 y6 hb1
      obtain ⟨y0, y1, y2, y3, y4, y5, y6⟩ := hM.held
      have KG := Lib.hid (hM.agree (HBS.out _ hM.b) HI1.out HI2.out xi)
      go_wp2_with (go_at_call 15; (with_reducible refine KG.out.mono ?_))
      (first | rintro e wb rfl hb1 | rintro e wb ⟨rfl, hb1⟩)
      have hb2 := (hM.keep hb1).b
      go_wp2
      go_ret
      exact ⟨rfl, hb2⟩
    · obtain ⟨y0, y1, y2, y3, y4, y5, y6⟩ := hM.held
      obtain ⟨f0, f1, f2, f3, f4⟩ := hM.frees
      have hDE := i64_wrap (1 - xd)
      obtain ⟨x1, hx1⟩ : ∃ x1, IntKind.i64.wrap (1 - xd) = x1 := ⟨_, rfl⟩
      rw [hx1] at hDE
      have hDD := Lib.hid hDE
      clear hDE
      go_upto_region 26 with (fail)
      replace hM := hM.setD x1
      generalize w9.setCell ⟨gX, 2, none⟩ (.int .i64 x1) = wZ at *
      clear y0 y1 y2 y3 y4 y5 y6 f0 f1 f2 f3 f4
      obtain ⟨y0, y1, y2, y3, y4, y5, y6⟩ := hM.held
      go_wp2_with (go_at_call 7; (with_reducible refine (KA.out _ (HBS.out _ hM.b)).mono ?_))
      (first | rintro e wa rfl hb1 | rintro e wa ⟨rfl, hb1⟩)
      replace hM := hM.keep hb1
      clear y0 y1 y2 y3 y4 y5 y6 hb1
      obtain ⟨y0, y1, y2, y3, y4, y5, y6⟩ := hM.held
      have KG := Lib.hid (hM.agree (HBS.out _ hM.b) HI1.out hDD.out xi)
      go_wp2_with (go_at_call 15; (with_reducible refine KG.out.mono ?_))
      (first | rintro e wb rfl hb1 | rintro e wb ⟨rfl, hb1⟩)
      have hb2 := (hM.keep hb1).b
      go_wp2
      go_ret
      exact ⟨rfl, hb2⟩
    · have KQ : Hid (Calls Tryz.prog 19 #[.pointer (some ⟨db, 0, none⟩), .slice (some ⟨w9.heap.size, 0, none⟩) 4 4] (w9.alloc (.cells #[.int .i64 0, .int .i64 1, .int .i64 2, .int .i64 n] 3)) fun e w' => e = .returned (.int .i64 (ofF l q8 [0, 1, 2, n])) ∧ (Env W w' db p l cap (dnxt l q8) ∧ (w9.alloc (.cells #[.int .i64 0, .int .i64 1, .int .i64 2, .int .i64 n] 3)).grownBy w' (some db))) := Lib.hid (ofE hM.m.m.env HR.out hwd hl48 [0, 1, 2, n] (by simp) (by simp))
      generalize ofF l q8 [0, 1, 2, n] = kk at *
      generalize dnxt l q8 = q9 at *
      go_wp2_with (go_at_call 19; (with_reducible refine KQ.out.mono ?_))
      (first | rintro e w10 rfl hEN hgN | rintro e w10 rfl ⟨hEN, hgN⟩ | rintro e w10 ⟨rfl, hEN, hgN⟩)
      replace hM := (hM.keep ((Below.refl _ _).alloc (Nat.le_refl _) (.cells #[.int .i64 0, .int .i64 1, .int .i64 2, .int .i64 n] 3))).next hEN hgN
      clear hEN hgN KQ
      obtain ⟨y0, y1, y2, y3, y4, y5, y6⟩ := hM.held
      obtain ⟨f0, f1, f2, f3, f4⟩ := hM.frees
      go_upto_region 26 with (fail)
      replace hM := hM.setK kk
      generalize w10.setCell ⟨gX, 1, none⟩ (.int .i64 kk) = wZ at *
      clear y0 y1 y2 y3 y4 y5 y6 f0 f1 f2 f3 f4
      obtain ⟨y0, y1, y2, y3, y4, y5, y6⟩ := hM.held
      go_wp2_with (go_at_call 7; (with_reducible refine (KA.out _ (HBS.out _ hM.b)).mono ?_))
      (first | rintro e wa rfl hb1 | rintro e wa ⟨rfl, hb1⟩)
      replace hM := hM.keep hb1
      clear y0 y1 y2 y3 y4 y5 y6 hb1
      obtain ⟨y0, y1, y2, y3, y4, y5, y6⟩ := hM.held
      have KG := Lib.hid (hM.agree (HBS.out _ hM.b) HI1.out HI2.out xi)
      go_wp2_with (go_at_call 15; (with_reducible refine KG.out.mono ?_))
      (first | rintro e wb rfl hb1 | rintro e wb ⟨rfl, hb1⟩)
      have hb2 := (hM.keep hb1).b
      go_wp2
      go_ret
      exact ⟨rfl, hb2⟩
    · have KP7 := Lib.hid (fun V => rPublic_walk P 3 V (by omega) (by omega))
      have KP9 := Lib.hid (fun V => rPublic_walk P 9 V (by omega) (by omega))
      have hy3 := gpw_lt P 4 3
      have hy9 := gpw_lt P 4 9
      have HY1 : Hid (I64 ((gpw P 4 3 : Nat) : Int)) := Lib.hid ⟨by omega, by omega⟩
      have HY2 : Hid (I64 ((gpw P 4 9 : Nat) : Int)) := Lib.hid ⟨by omega, by omega⟩
      clear hy3 hy9
      generalize ((gpw P 4 3 : Nat) : Int) = y1 at *
      generalize ((gpw P 4 9 : Nat) : Int) = y2 at *
      go_upto_region 23 with (fail)
      refine wp_region_held_last' (S := fun w' => w'.cell? ⟨gR, 1, none⟩ = some (.slice pa np pc)) 16 rfl (by kernel_rfl) (by kernel_rfl) (by kernel_rfl) ((hM.keep (Below.refl _ _).drew).m.m.r.cell 1 rfl) (fun hHeld => ?_)
      dsimp only [List.dropLast, List.replicate] at hHeld ⊢
      replace hM := hM.keep (Below.refl _ _).drew
      generalize w9.drew = v1 at *
      refine held_take (0) (v := ?_) rfl (by kernel_rfl) (by kernel_rfl) (by kernel_rfl) (fun _ _ _ h => h) (Or.inl ⟨by rfl, ?_⟩) (by assumption) ?_
      rotate_left
      · intro w hSw
        try dsimp only at hSw
        go_simp
        with_reducible rfl
      try simp only [Act.put, List.setIfInBounds_toArray, List.set_cons_zero, List.set_cons_succ]
      refine held_take (1) (v := ?_) rfl (by kernel_rfl) (by kernel_rfl) (by kernel_rfl) (fun _ _ _ h => h) (Or.inl ⟨by rfl, ?_⟩) (by assumption) ?_
      rotate_left
      · intro w hSw
        try dsimp only at hSw
        go_simp
        with_reducible rfl
      try simp only [Act.put, List.setIfInBounds_toArray, List.set_cons_zero, List.set_cons_succ]
      refine held_take (2) (v := ?_) rfl (by kernel_rfl) (by kernel_rfl) (by kernel_rfl) (fun _ _ _ h => h) (Or.inl ⟨by rfl, ?_⟩) (by assumption) ?_
      rotate_left
      · intro w hSw
        try dsimp only at hSw
        go_simp
        with_reducible rfl
      try simp only [Act.put, List.setIfInBounds_toArray, List.set_cons_zero, List.set_cons_succ]
      refine held_take (5) (v := ?_) rfl (by kernel_rfl) (by kernel_rfl) (by kernel_rfl) (fun _ _ _ h => h) (Or.inl ⟨by rfl, ?_⟩) (by assumption) ?_
      rotate_left
      · intro w hSw
        try dsimp only at hSw
        go_simp
        with_reducible rfl
      try simp only [Act.put, List.setIfInBounds_toArray, List.set_cons_zero, List.set_cons_succ]
      refine held_take (6) (v := ?_) rfl (by kernel_rfl) (by kernel_rfl) (by kernel_rfl) (fun _ _ _ h => h) (Or.inl ⟨by rfl, ?_⟩) (by assumption) ?_
      rotate_left
      · intro w hSw
        try dsimp only at hSw
        go_simp
        with_reducible rfl
      try simp only [Act.put, List.setIfInBounds_toArray, List.set_cons_zero, List.set_cons_succ]
      refine held_take (8) (v := ?_) rfl (by kernel_rfl) (by kernel_rfl) (by kernel_rfl) (fun _ _ _ h => h) (Or.inl ⟨by rfl, ?_⟩) (by assumption) ?_
      rotate_left
      · intro w hSw
        try dsimp only at hSw
        go_simp
        with_reducible rfl
      try simp only [Act.put, List.setIfInBounds_toArray, List.set_cons_zero, List.set_cons_succ]
      refine wpAnyH_ready (rs := [3]) (by kernel_rfl) (by simp) ?_
      refine held_cons rfl (fun K hK => ?_) AllReadyH.nil
      have KQ : Hid (Calls Tryz.prog 19 #[.pointer (some ⟨db, 0, none⟩), .slice (some ⟨v1.heap.size, 0, none⟩) 3 3] (v1.alloc (.cells #[.int .i64 5, .int .i64 6, .int .i64 7] 3)) fun e w' => e = .returned (.int .i64 (ofF l q8 [5, 6, 7])) ∧ (Env W w' db p l cap (dnxt l q8) ∧ (v1.alloc (.cells #[.int .i64 5, .int .i64 6, .int .i64 7] 3)).grownBy w' (some db))) := Lib.hid (ofE hM.m.m.env HR.out hwd hl48 [5, 6, 7] (by simp) (by simp))
      generalize ofF l q8 [5, 6, 7] = i3 at *
      generalize dnxt l q8 = q9 at *
      have hM1 := hM.keep ((Below.refl _ _).alloc (Nat.le_refl _) (.cells #[.int .i64 5, .int .i64 6, .int .i64 7] 3))
      go_simp
      refine hK.out _ _ (hM1.m.m.r.cell 1 rfl) (fun hHeld => ?_)
      clear hK K
      try simp only [Act.put, List.setIfInBounds_toArray, List.set_cons_zero, List.set_cons_succ]
      refine wpAnyH_ready (rs := [4]) (by kernel_rfl) (by simp) ?_
      refine held_cons rfl (fun K hK => ?_) AllReadyH.nil
      go_simp
      go_at_call 19
      (with_reducible refine KQ.out.mono ?_)
      (first | rintro e w10 rfl hEN hgN | rintro e w10 rfl ⟨hEN, hgN⟩ | rintro e w10 ⟨rfl, hEN, hgN⟩)
      have hM2 := hM1.next hEN hgN
      clear hEN hgN KQ
      go_wp2_with fail
      refine hK.out _ _ (hM2.m.m.r.cell 1 rfl) (fun hHeld => ?_)
      clear hK K
      try simp only [Act.put, List.setIfInBounds_toArray, List.set_cons_zero, List.set_cons_succ]
      refine wpAnyH_ready (rs := [7]) (by kernel_rfl) (by simp) ?_
      refine held_cons rfl (fun K hK => ?_) AllReadyH.nil
      go_simp
      go_at_call 13
      (with_reducible refine (KP7.out _).mono ?_)
      first | rintro e wM rfl rfl | rintro e wM ⟨rfl, rfl⟩
      go_wp2_with fail
      refine hK.out _ _ (hM2.m.m.r.cell 1 rfl) (fun hHeld => ?_)
      clear hK K
      try simp only [Act.put, List.setIfInBounds_toArray, List.set_cons_zero, List.set_cons_succ]
      refine wpAnyH_ready (rs := [9]) (by kernel_rfl) (by simp) ?_
      refine held_cons rfl (fun K hK => ?_) AllReadyH.nil
      go_simp
      go_at_call 13
      (with_reducible refine (KP9.out _).mono ?_)
      first | rintro e wM rfl rfl | rintro e wM ⟨rfl, rfl⟩
      go_wp2_with fail
      refine hK.out _ _ (hM2.m.m.r.cell 1 rfl) (fun hHeld => ?_)
      clear hK K
      try simp only [Act.put, List.setIfInBounds_toArray, List.set_cons_zero, List.set_cons_succ]
      refine wpAnyH_ready (rs := [10]) (by kernel_rfl) (by simp) ?_
      refine held_cons rfl (fun K hK => ?_) AllReadyH.nil
      have KQ2 : Hid (Calls Tryz.prog 19 #[.pointer (some ⟨db, 0, none⟩), .slice (some ⟨(World.heap _).size, 0, none⟩) 4 4] (World.alloc _ (.cells #[.int .i64 y1, .int .i64 y2, .int .i64 1, .int .i64 2] 3)) fun e w' => e = .returned (.int .i64 (ofF l q9 [y1, y2, 1, 2])) ∧ (Env W w' db p l cap (dnxt l q9) ∧ (World.alloc _ (.cells #[.int .i64 y1, .int .i64 y2, .int .i64 1, .int .i64 2] 3)).grownBy w' (some db))) := Lib.hid (ofE hM2.m.m.env HR.out hwd hl48 [y1, y2, 1, 2] (by simp) (by simp))
      have hk3 : I64 (ofF l q9 [y1, y2, 1, 2]) := i64_of (by simp) (by
        intro x hx
        simp only [List.mem_cons, List.not_mem_nil, or_false] at hx
        rcases hx with rfl | rfl | rfl | rfl
        all_goals first | exact HY1.out | exact HY2.out | exact ⟨by omega, by omega⟩)
      have HK3 := Lib.hid hk3
      clear hk3
      generalize ofF l q9 [y1, y2, 1, 2] = k3 at *
      generalize dnxt l q9 = q10 at *
      have hM3 := hM2.keep ((Below.refl _ _).alloc (Nat.le_refl _) (.cells #[.int .i64 y1, .int .i64 y2, .int .i64 1, .int .i64 2] 3))
      go_simp
      refine hK.out _ _ (hM3.m.m.r.cell 1 rfl) (fun hHeld => ?_)
      clear hK K
      try simp only [Act.put, List.setIfInBounds_toArray, List.set_cons_zero, List.set_cons_succ]
      refine wpAnyH_ready (rs := [11]) (by kernel_rfl) (by simp) ?_
      refine held_cons rfl (fun K hK => ?_) AllReadyH.nil
      go_simp
      go_at_call 19
      (with_reducible refine KQ2.out.mono ?_)
      (first | rintro e w11 rfl hEN hgN | rintro e w11 rfl ⟨hEN, hgN⟩ | rintro e w11 ⟨rfl, hEN, hgN⟩)
      have hM4 := hM3.next hEN hgN
      clear hEN hgN KQ2
      go_wp2_with fail
      refine hK.out _ _ (hM4.m.m.r.cell 1 rfl) (fun hHeld => ?_)
      clear hK K
      try simp only [Act.put, List.setIfInBounds_toArray, List.set_cons_zero, List.set_cons_succ]
      refine held_take (12) (v := ?_) rfl (by kernel_rfl) (by kernel_rfl) (by kernel_rfl) (fun _ _ _ h => h) (Or.inl ⟨by rfl, ?_⟩) (by assumption) ?_
      rotate_left
      · intro w hSw
        try dsimp only at hSw
        go_simp
        with_reducible rfl
      try simp only [Act.put, List.setIfInBounds_toArray, List.set_cons_zero, List.set_cons_succ]
      refine wpAnyH_ready (rs := [13]) (by kernel_rfl) (by simp) ?_
      refine held_cons rfl (fun K hK => ?_) AllReadyH.nil
      go_simp
      have hbL := (Below.refl w11.heap.size w11).alloc (Nat.le_refl _) (.cells #[.int .i64 i3, .int .i64 k3, .int .i64 0] 43)
      refine hK.out _ _ ((hM4.keep hbL).m.m.r.cell 1 rfl) (fun hHeld => ?_)
      clear hK K
      try simp only [Act.put, List.setIfInBounds_toArray, List.set_cons_zero, List.set_cons_succ]
      refine wpAnyH_ready (rs := [14]) (by kernel_rfl) (by simp) ?_
      refine held_cons rfl (fun K hK => ?_) AllReadyH.nil
      refine step_appn_at (w0 := W) (B := W.heap.size) (base := db + 1) rfl _ _ _ rfl elPr rfl hM4.m.m.o hM4.b (by omega) (by have := hM4.m.m.env.dice.lt; omega) (m := 1) (cs := [.int .i64 i3, .int .i64 k3, .int .i64 0]) rfl rfl (by intro u hu; simp at hu; rcases hu with rfl | rfl | rfl <;> rfl) (by have := hM4.m.m.le; omega) ?_
      intro a2 c2 wA hO8 hb8 hg8 hat8
      obtain ⟨hM5, c1, f1⟩ := hM4.app (y := ⟨i3, k3, 0⟩) (by rw [rowsC_append, rowsC_single]; exact hO8) hg8 hat8 HK3.out (by omega)
      clear hO8 hb8 hg8 hat8
      refine hK.out _ _ c1 (fun hHeld => ?_)
      clear hK K
      try simp only [Act.put, List.setIfInBounds_toArray, List.set_cons_zero, List.set_cons_succ]
      refine held_take (15) (v := ?_) rfl (by kernel_rfl) (by kernel_rfl) (by kernel_rfl) (fun _ _ _ h => h) (Or.inl ⟨by rfl, ?_⟩) (by assumption) ?_
      rotate_left
      · intro w hSw
        try dsimp only at hSw
        go_simp
        with_reducible rfl
      try simp only [Act.put, List.setIfInBounds_toArray, List.set_cons_zero, List.set_cons_succ]
      refine wpAnyH_done (by kernel_rfl) ?_ _
      dsimp only [Behind]
      go_simp
      go_upto_region 26 with (fail)
      generalize wA.setCell ⟨gR, 1, none⟩ (.slice a2 (np + 1) c2) = wZ at *
      clear hM hM1 hM2 hM3 hM4 hbL c1 f1
      obtain ⟨y0, y1, y2, y3, y4, y5, y6⟩ := hM5.held
      go_wp2_with (go_at_call 7; (with_reducible refine (KA.out _ (HBS.out _ hM5.b)).mono ?_))
      (first | rintro e wa rfl hb1 | rintro e wa ⟨rfl, hb1⟩)
      replace hM5 := hM5.keep hb1
      clear y0 y1 y2 y3 y4 y5 y6 hb1
      obtain ⟨y0, y1, y2, y3, y4, y5, y6⟩ := hM5.held
      have KG := Lib.hid (hM5.agree (HBS.out _ hM5.b) HI1.out HI2.out xi)
      go_wp2_with (go_at_call 15; (with_reducible refine KG.out.mono ?_))
      (first | rintro e wb rfl hb1 | rintro e wb ⟨rfl, hb1⟩)
      have hb2 := (hM5.keep hb1).b
      go_wp2
      go_ret
      exact ⟨rfl, hb2⟩
    · have KQ : Hid (Calls Tryz.prog 19 #[.pointer (some ⟨db, 0, none⟩), .slice (some ⟨w9.heap.size, 0, none⟩) 4 4] (w9.alloc (.cells #[.int .i64 13, .int .i64 4, .int .i64 0, .int .i64 3] 3)) fun e w' => e = .returned (.int .i64 (ofF l q8 [13, 4, 0, 3])) ∧ (Env W w' db p l cap (dnxt l q8) ∧ (w9.alloc (.cells #[.int .i64 13, .int .i64 4, .int .i64 0, .int .i64 3] 3)).grownBy w' (some db))) := Lib.hid (ofE hM.m.m.env HR.out hwd hl48 [13, 4, 0, 3] (by simp) (by simp))
      generalize ofF l q8 [13, 4, 0, 3] = kk at *
      generalize dnxt l q8 = q9 at *
      go_wp2_with (go_at_call 19; (with_reducible refine KQ.out.mono ?_))
      (first | rintro e w10 rfl hEN hgN | rintro e w10 rfl ⟨hEN, hgN⟩ | rintro e w10 ⟨rfl, hEN, hgN⟩)
      replace hM := (hM.keep ((Below.refl _ _).alloc (Nat.le_refl _) (.cells #[.int .i64 13, .int .i64 4, .int .i64 0, .int .i64 3] 3))).next hEN hgN
      clear hEN hgN KQ
      obtain ⟨y0, y1, y2, y3, y4, y5, y6⟩ := hM.held
      obtain ⟨f0, f1, f2, f3, f4⟩ := hM.frees
      go_upto_region 26 with (fail)
      replace hM := hM.setP kk
      generalize w10.setCell ⟨gR, 0, none⟩ (.int .i64 kk) = wZ at *
      clear y0 y1 y2 y3 y4 y5 y6 f0 f1 f2 f3 f4
      obtain ⟨y0, y1, y2, y3, y4, y5, y6⟩ := hM.held
      go_wp2_with (go_at_call 7; (with_reducible refine (KA.out _ (HBS.out _ hM.b)).mono ?_))
      (first | rintro e wa rfl hb1 | rintro e wa ⟨rfl, hb1⟩)
      replace hM := hM.keep hb1
      clear y0 y1 y2 y3 y4 y5 y6 hb1
      obtain ⟨y0, y1, y2, y3, y4, y5, y6⟩ := hM.held
      have KG := Lib.hid (hM.agree (HBS.out _ hM.b) HI1.out HI2.out xi)
      go_wp2_with (go_at_call 15; (with_reducible refine KG.out.mono ?_))
      (first | rintro e wb rfl hb1 | rintro e wb ⟨rfl, hb1⟩)
      have hb2 := (hM.keep hb1).b
      go_wp2
      go_ret
      exact ⟨rfl, hb2⟩
    · obtain ⟨y0, y1, y2, y3, y4, y5, y6⟩ := hM.held
      go_wp2_with fail
      go_loopw [12] (fun i wr => ∃ (k : Nat) (pa : Option Addr) (pc : Nat) (L : List Prs) (q : Nat), k ≤ 65 ∧ i = .int .i64 (k : Int) ∧ Mg W wr db p l cap q gR (P : Int) pa k pc L gX xi y xd gS R S) (fun i _ => 66 - (intOf i).toNat)
      case atStart => exact ⟨np, _, _, _, _, by omega, rfl, hM⟩
      case round =>
        clear hM y0 y1 y2 y3 y4 y5 y6
        obtain ⟨k, pa, pc, L, q, hk, rfl, hM⟩ := hrel
        have K6 : Hid (Calls _ _ _ _ _) := Lib.hid (Mr.dicec hM.m.m hl48 2 (by omega) (by omega))
        have a1 := dnum_lo l q (n := 2) (by omega)
        have a2 := dnum_hi l q (n := 2) (by omega)
        generalize dnum l q 2 = z2 at *
        generalize dnxt l q = q9 at *
        have hw1 : IntKind.i64.wrap (64 + z2) = 64 + z2 := by rw [IntKind.wrap_i64]; omega
        by_cases hkt : (k : Int) < 64 + z2
        rotate_left
        · have d1 : decide ((k : Int) < 64 + z2) = false := decide_eq_false hkt
          go_wp2_with (go_at_call 9; (with_reducible refine K6.out.mono ?_))
          (first | rintro e w10 rfl hEN hgN | rintro e w10 rfl ⟨hEN, hgN⟩ | rintro e w10 ⟨rfl, hEN, hgN⟩)
          replace hM := hM.next hEN hgN
          clear hEN hgN K6
          go_upto_region 26 with (fail)
          clear hkt d1
          obtain ⟨y0, y1, y2, y3, y4, y5, y6⟩ := hM.held
          go_wp2_with (go_at_call 7; (with_reducible refine (KA.out _ (HBS.out _ hM.b)).mono ?_))
          (first | rintro e wa rfl hb1 | rintro e wa ⟨rfl, hb1⟩)
          replace hM := hM.keep hb1
          clear y0 y1 y2 y3 y4 y5 y6 hb1
          obtain ⟨y0, y1, y2, y3, y4, y5, y6⟩ := hM.held
          have KG := Lib.hid (hM.agree (HBS.out _ hM.b) HI1.out HI2.out xi)
          go_wp2_with (go_at_call 15; (with_reducible refine KG.out.mono ?_))
          (first | rintro e wb rfl hb1 | rintro e wb ⟨rfl, hb1⟩)
          have hb2 := (hM.keep hb1).b
          go_wp2
          go_ret
          exact ⟨rfl, hb2⟩
        have d1 : decide ((k : Int) < 64 + z2) = true := decide_eq_true hkt
        have HYk : Hid (I64 ((gpw 500000003 4 ((k : Int) + 2) : Nat) : Int)) := Lib.hid (by have := gpw_lt 500000003 4 ((k : Int) + 2); exact ⟨by omega, by omega⟩)
        have KP6 : Hid (∀ V, Calls Tryz.prog 13 #[.int .i64 500000003, .int .i64 ((k : Int) + 2)] V fun r w' => r = .returned (.int .i64 ((gpw 500000003 4 ((k : Int) + 2) : Nat) : Int)) ∧ V = w') := Lib.hid (fun V => rPublic_walk 500000003 ((k : Int) + 2) V (by decide) (by decide))
        generalize ((gpw 500000003 4 ((k : Int) + 2) : Nat) : Int) = yk at *
        have hw2 : IntKind.i64.wrap ((k : Int) + 2) = (k : Int) + 2 := by rw [IntKind.wrap_i64]; omega
        have hw3 : IntKind.i64.wrap ((k : Int) + 1) = (k : Int) + 1 := by rw [IntKind.wrap_i64]; omega
        go_wp2_with (go_at_call 9; (with_reducible refine K6.out.mono ?_))
        (first | rintro e w10 rfl hEN hgN | rintro e w10 rfl ⟨hEN, hgN⟩ | rintro e w10 ⟨rfl, hEN, hgN⟩)
        replace hM := hM.next hEN hgN
        clear hEN hgN K6
        go_upto_region 15 with (fail)
        refine wp_region_held_last' (S := fun w' => w'.cell? ⟨gR, 1, none⟩ = some (.slice pa k pc)) 11 rfl (by kernel_rfl) (by kernel_rfl) (by kernel_rfl) ((hM.keep (Below.refl _ _).drew).m.m.r.cell 1 rfl) (fun hHeld => ?_)
        dsimp only [List.dropLast, List.replicate] at hHeld ⊢
        replace hM := hM.keep (Below.refl _ _).drew
        generalize w10.drew = v1 at *
        refine held_take (0) (v := ?_) rfl (by kernel_rfl) (by kernel_rfl) (by kernel_rfl) (fun _ _ _ h => h) (Or.inl ⟨by rfl, ?_⟩) (by assumption) ?_
        rotate_left
        · intro w hSw
          try dsimp only at hSw
          go_simp
          with_reducible rfl
        try simp only [Act.put, List.setIfInBounds_toArray, List.set_cons_zero, List.set_cons_succ]
        refine held_take (1) (v := ?_) rfl (by kernel_rfl) (by kernel_rfl) (by kernel_rfl) (fun _ _ _ h => h) (Or.inl ⟨by rfl, ?_⟩) (by assumption) ?_
        rotate_left
        · intro w hSw
          try dsimp only at hSw
          go_simp
          with_reducible rfl
        try simp only [Act.put, List.setIfInBounds_toArray, List.set_cons_zero, List.set_cons_succ]
        refine held_take (2) (v := ?_) rfl (by kernel_rfl) (by kernel_rfl) (by kernel_rfl) (fun _ _ _ h => h) (Or.inl ⟨by rfl, ?_⟩) (by assumption) ?_
        rotate_left
        · intro w hSw
          try dsimp only at hSw
          go_simp
          with_reducible rfl
        try simp only [Act.put, List.setIfInBounds_toArray, List.set_cons_zero, List.set_cons_succ]
        refine held_take (3) (v := ?_) rfl (by kernel_rfl) (by kernel_rfl) (by kernel_rfl) (fun _ _ _ h => h) (Or.inl ⟨by rfl, ?_⟩) (by assumption) ?_
        rotate_left
        · intro w hSw
          try dsimp only at hSw
          go_simp
          with_reducible rfl
        try simp only [Act.put, List.setIfInBounds_toArray, List.set_cons_zero, List.set_cons_succ]
        refine held_take (4) (v := ?_) rfl (by kernel_rfl) (by kernel_rfl) (by kernel_rfl) (fun _ _ _ h => h) (Or.inl ⟨by rfl, ?_⟩) (by assumption) ?_
        rotate_left
        · intro w hSw
          try dsimp only at hSw
          go_simp
          with_reducible rfl
        try simp only [Act.put, List.setIfInBounds_toArray, List.set_cons_zero, List.set_cons_succ]
        refine held_take (5) (v := ?_) rfl (by kernel_rfl) (by kernel_rfl) (by kernel_rfl) (fun _ _ _ h => h) (Or.inl ⟨by rfl, ?_⟩) (by assumption) ?_
        rotate_left
        · intro w hSw
          try dsimp only at hSw
          go_simp
          with_reducible rfl
        try simp only [Act.put, List.setIfInBounds_toArray, List.set_cons_zero, List.set_cons_succ]
        refine wpAnyH_ready (rs := [6]) (by kernel_rfl) (by simp) ?_
        refine held_cons rfl (fun K hK => ?_) AllReadyH.nil
        go_simp
        go_at_call 13
        (with_reducible refine (KP6.out _).mono ?_)
        first | rintro e wM rfl rfl | rintro e wM ⟨rfl, rfl⟩
        go_wp2_with fail
        refine hK.out _ _ (hM.m.m.r.cell 1 rfl) (fun hHeld => ?_)
        clear hK K
        try simp only [Act.put, List.setIfInBounds_toArray, List.set_cons_zero, List.set_cons_succ]
        refine held_take (7) (v := ?_) rfl (by kernel_rfl) (by kernel_rfl) (by kernel_rfl) (fun _ _ _ h => h) (Or.inl ⟨by rfl, ?_⟩) (by assumption) ?_
        rotate_left
        · intro w hSw
          try dsimp only at hSw
          go_simp
          with_reducible rfl
        try simp only [Act.put, List.setIfInBounds_toArray, List.set_cons_zero, List.set_cons_succ]
        refine wpAnyH_ready (rs := [8]) (by kernel_rfl) (by simp) ?_
        refine held_cons rfl (fun K hK => ?_) AllReadyH.nil
        go_simp
        have hM8 := hM.alloc (.cells #[.int .i64 ((k : Int) + 1), .int .i64 yk, .int .i64 0] 43)
        refine hK.out _ _ (hM8.m.m.r.cell 1 rfl) (fun hHeld => ?_)
        clear hK K
        try simp only [Act.put, List.setIfInBounds_toArray, List.set_cons_zero, List.set_cons_succ]
        refine wpAnyH_ready (rs := [9]) (by kernel_rfl) (by simp) ?_
        refine held_cons rfl (fun K hK => ?_) AllReadyH.nil
        refine step_appn_at (w0 := W) (B := W.heap.size) (base := db + 1) rfl _ _ _ rfl elPr rfl hM.m.m.o hM.b (by omega) (by have := hM.m.m.env.dice.lt; omega) (m := 1) (cs := [.int .i64 ((k : Int) + 1), .int .i64 yk, .int .i64 0]) rfl rfl (by intro u hu; simp at hu; rcases hu with rfl | rfl | rfl <;> rfl) (by have := hM.m.m.le; omega) ?_
        intro a2 c2 wA hO8 hb8 hg8 hat8
        obtain ⟨hM5, c1, f1⟩ := hM.app (y := ⟨((k : Int) + 1), yk, 0⟩) (by rw [rowsC_append, rowsC_single]; exact hO8) hg8 hat8 HYk.out (by omega)
        clear hO8 hb8 hg8 hat8
        refine hK.out _ _ c1 (fun hHeld => ?_)
        clear hK K
        try simp only [Act.put, List.setIfInBounds_toArray, List.set_cons_zero, List.set_cons_succ]
        refine held_take (10) (v := ?_) rfl (by kernel_rfl) (by kernel_rfl) (by kernel_rfl) (fun _ _ _ h => h) (Or.inl ⟨by rfl, ?_⟩) (by assumption) ?_
        rotate_left
        · intro w hSw
          try dsimp only at hSw
          go_simp
          with_reducible rfl
        try simp only [Act.put, List.setIfInBounds_toArray, List.set_cons_zero, List.set_cons_succ]
        refine wpAnyH_done (by kernel_rfl) ?_ _
        dsimp only [Behind]
        go_simp
        clear hM hM8 KP6 hw1 hw2 hw3 d1
        go_wp2_with fail
        go_roundw
        case rel => exact ⟨k + 1, a2, c2, _, _, by omega, by go_num, hM5⟩
        case measure => simp [intOf]; omega
end Go.Proofs.YtnahkfchcminpaaGreatDoor
