/- Requests that are carried out once: what the law's walk keeps. -/
import Derived.Test.YtnlhcfhngdahlaaReplayR
import Derived.Test.YtnlhcfhngdahlaaReplayOnceP
import Derived.Test.YtnlhcfhngdahlaaMake
namespace Go.Proofs.Ytnlhcfhngdahlaa
open Go.RowKit
/-- the dice, the guard, the last counters and answers -/
structure On (W w : World) (db : Nat) (p : Option Addr) (l : List Int) (cap q : Nat) (gg gl ga : Nat) (a : Option Addr) (L : List Kpt) (c : Nat) (LA : List Int) (AN : List (List UInt8)) : Prop where
  env : Env W w db p l cap q
  g : Bx w gg 24 [.slice a L.length c]
  la : Bx w gl 3 (ints LA)
  an : Bx w ga 9 (strs AN)
  o : Ow w (ga + 1) 4 a L.length c (rowsC kpC L)
  lt : db < gg ∧ gg < gl ∧ gl < ga
  le : W.heap.size ≤ db
section
variable {W w w' : World} {db : Nat} {p : Option Addr} {l : List Int} {cap q q' gg gl ga : Nat} {a a' : Option Addr} {L L' : List Kpt} {c c' : Nat} {LA : List Int} {AN : List (List UInt8)}
theorem On.keep (h : On W w db p l cap q gg gl ga a L c LA AN) (hb : Below w.heap.size w w') : On W w' db p l cap q gg gl ga a L c LA AN :=
  ⟨h.env.keep hb, h.g.keep hb, h.la.keep hb, h.an.keep hb, h.o.keep hb, h.lt, h.le⟩
theorem On.row (h : On W w db p l cap q gg gl ga a L c LA AN) {j : Nat} (hj : j ≤ ga) : rowOf a ≠ some j := fun e => by
  have := (h.o.row j e).1
  omega
theorem On.next (h : On W w db p l cap q gg gl ga a L c LA AN) (hR : Rd W p (ints l)) (hD : Dice w' db p l cap q') (hg : w.grownBy w' (some db)) : On W w' db p l cap q' gg gl ga a L c LA AN := by
  obtain ⟨h1, h2, h3⟩ := h.lt
  exact ⟨h.env.grown (rd_ne hR h.le) h.le hD hg, h.g.grown hg (by simp; omega), h.la.grown hg (by simp; omega), h.an.grown hg (by simp; omega), h.o.kept hg (.inr (h.row (by omega))), h.lt, h.le⟩
theorem On.dice (h : On W w db p l cap q gg gl ga a L c LA AN) (hR : Rd W p (ints l)) (hlen : l.length ≤ 281474976710656) (n : Int) (h1 : 1 ≤ n) (h2 : n ≤ 4611686018427387904) :
    Calls Try.prog 10 #[.pointer (some ⟨db, 0, none⟩), .int .i64 n] w fun e w' => e = .returned (.int .i64 (dnum l q n)) ∧ On W w' db p l cap (dnxt l q) gg gl ga a L c LA AN ∧ w.grownBy w' (some db) :=
  (next_walk db p l cap q n w h.env.dice h.env.rd (rd_ne hR h.le) hlen h1 h2).mono fun _ _ ⟨h1, h2, h3⟩ => ⟨h1, h.next hR h2 h3, h3⟩
/-- a store into another block -/
theorem On.other (h : On W w db p l cap q gg gl ga a L c LA AN) (hR : Rd W p (ints l)) {g : Nat} (hg : ga < g) (hne : rowOf a ≠ some g) (o : Nat) (v : Value) : On W (w.setCell ⟨g, o, none⟩ v) db p l cap q gg gl ga a L c LA AN := by
  obtain ⟨h1, h2, h3⟩ := h.lt
  have hgr : w.grownBy (w.setCell ⟨g, o, none⟩ v) (some g) := grownBy_setCells w g o [v]
  exact ⟨h.env.row hgr (fun k hk => by cases hk; omega) h.le hR, h.g.other (by omega) o v, h.la.other (by omega) o v, h.an.other (by omega) o v, h.o.kept hgr (.inr hne), h.lt, h.le⟩
theorem ints_set (x : List Int) (j : Nat) (v : Int) : (ints x).set j (.int .i64 v) = ints (x.set j v) := by simp [ints, List.map_set]
theorem strs_set (x : List (List UInt8)) (j : Nat) (v : List UInt8) : (strs x).set j (.string ⟨v.toArray⟩) = strs (x.set j v) := by simp [strs, List.map_set]
/-- the guard, the counter and the answer turn -/
theorem On.step (h : On W w db p l cap q gg gl ga a L c LA AN) (hR : Rd W p (ints l)) (hO : Ow w (ga + 1) 4 a' L'.length c' (rowsC kpC L')) (j : Nat) (x : Int) (s : List UInt8) :
    On W (((w.setCell ⟨gg, 0, none⟩ (.slice a' L'.length c')).setCell ⟨gl, j, none⟩ (.int .i64 x)).setCell ⟨ga, j, none⟩ (.string ⟨s.toArray⟩)) db p l cap q gg gl ga a' L' c' (LA.set j x) (AN.set j s) := by
  obtain ⟨h1, h2, h3⟩ := h.lt
  have hne := rd_ne hR h.le
  have hle := h.le
  have hrow : ∀ j, rowOf a' = some j → ga < j := fun j hj => by have := (hO.row j hj).1; omega
  have g1 : w.grownBy (w.setCell ⟨gg, 0, none⟩ (.slice a' L'.length c')) (some gg) := grownBy_setCells w gg 0 [.slice a' L'.length c']
  have g2 : (w.setCell ⟨gg, 0, none⟩ (.slice a' L'.length c')).grownBy ((w.setCell ⟨gg, 0, none⟩ (.slice a' L'.length c')).setCell ⟨gl, j, none⟩ (.int .i64 x)) (some gl) := grownBy_setCells _ gl j [.int .i64 x]
  have g3 : ((w.setCell ⟨gg, 0, none⟩ (.slice a' L'.length c')).setCell ⟨gl, j, none⟩ (.int .i64 x)).grownBy (((w.setCell ⟨gg, 0, none⟩ (.slice a' L'.length c')).setCell ⟨gl, j, none⟩ (.int .i64 x)).setCell ⟨ga, j, none⟩ (.string ⟨s.toArray⟩)) (some ga) := grownBy_setCells _ ga j [.string ⟨s.toArray⟩]
  refine ⟨((h.env.row g1 (fun k hk => by cases hk; omega) hle hR).row g2 (fun k hk => by cases hk; omega) hle hR).row g3 (fun k hk => by cases hk; omega) hle hR, ?_, ?_, ?_, ?_, h.lt, h.le⟩
  · exact ((h.g.set 0 _).other (by omega) j _).other (by omega) j _
  · rw [← ints_set]; exact ((h.la.other (by omega) 0 _).set j _).other (by omega) j _
  · rw [← strs_set]; exact ((h.an.other (by omega) 0 _).other (by omega) j _).set j _
  · have ne : ∀ k, k ≤ ga → rowOf a' = none ∨ rowOf a' ≠ some k := fun k hk => .inr (fun e => by have := hrow k e; omega)
    exact ((hO.kept g1 (ne gg (by omega))).kept g2 (ne gl (by omega))).kept g3 (ne ga (by omega))
end
/-- what is known of the senders -/
structure Know (L : List Kpt) (LA : List Int) (AN : List (List UInt8)) (k : Nat) : Prop where
  ok : chkG L = 0
  good : Good L L.length
  len : L.length ≤ k
  la : LA.length = 4
  an : AN.length = 4
  at' : ∀ s : Nat, 1 ≤ s → s ≤ 3 → ∃ c a, LA[s]? = some c ∧ AN[s]? = some a ∧ c ≤ k ∧ AtG L [98, 111, 100, 121] (s : Int) c a
theorem Know.start : Know [] [0, 0, 0, 0] [[], [], [], []] 0 :=
  ⟨chkG_ok (by simp) (Good.zero _), Good.zero _, by simp, rfl, rfl, fun s h1 h2 => by
    have : s = 1 ∨ s = 2 ∨ s = 3 := by omega
    rcases this with rfl | rfl | rfl <;> exact ⟨0, [], rfl, rfl, by decide, .inl ⟨rfl, by simp⟩⟩⟩
theorem Know.mono {L : List Kpt} {LA : List Int} {AN : List (List UInt8)} {k k' : Nat} (h : Know L LA AN k) (hk : k ≤ k') : Know L LA AN k' :=
  ⟨h.ok, h.good, Nat.le_trans h.len hk, h.la, h.an, fun s h1 h2 => by
    obtain ⟨c, a, e1, e2, e3, e4⟩ := h.at' s h1 h2
    exact ⟨c, a, e1, e2, by omega, e4⟩⟩
theorem Know.done {L : List Kpt} {LA : List Int} {AN : List (List UInt8)} {k s : Nat} {c : Int} {a a' : List UInt8} (h : Know L LA AN k) (hk : k < 64) (h1 : 1 ≤ s) (h2 : s ≤ 3) (hc : LA[s]? = some c) (ha : AN[s]? = some a) (hl : a'.length ≤ 16384) :
    ∃ L', doneF L ⟨(s : Int), c + 1, [98, 111, 100, 121]⟩ a' = (L', 0) ∧ Know L' (LA.set s (c + 1)) (AN.set s a') (k + 1) := by
  obtain ⟨c', a'', e1, e2, e3, e4⟩ := h.at' s h1 h2
  rw [hc] at e1; cases e1
  rw [ha] at e2; cases e2
  have hlo := e4.lo
  have hlen := h.len
  obtain ⟨L', d1, d2, d3, d4, d5, d6⟩ := e4.done (a' := a') (by omega) h.ok h.good ⟨⟨by simp only; omega, by simp only; omega⟩, ⟨by simp only; omega, by simp only; omega⟩, by simp⟩ hl
  refine ⟨L', d1, d3, d4, by omega, by rw [List.length_set]; exact h.la, by rw [List.length_set]; exact h.an, fun t t1 t2 => ?_⟩
  have hla := h.la
  have han := h.an
  by_cases e : t = s
  · subst e
    exact ⟨c + 1, a', by rw [List.getElem?_set_self (by omega)], by rw [List.getElem?_set_self (by omega)], by omega, d5⟩
  · obtain ⟨x, y, f1, f2, f3, f4⟩ := h.at' t t1 t2
    exact ⟨x, y, by rw [List.getElem?_set_ne (fun h => e h.symm)]; exact f1, by rw [List.getElem?_set_ne (fun h => e h.symm)]; exact f2, by omega, d6 _ _ _ (by omega) f4⟩
end Go.Proofs.Ytnlhcfhngdahlaa
