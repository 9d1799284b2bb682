/- Rolls: who is added, and who leaves: plain; the boxes of Add; what Add and Leave give back. -/
import Derived.Test.YtnahkfchcminpaaGreatDoorGEnrA
import Derived.Test.YtnahkfchcminpaaGreatDoorGHandG
namespace Go.Proofs.YtnahkfchcminpaaGreatDoor
open Go.RowKit
/-! ### Plain -/
/-- what Add says -/
noncomputable def addE (p : Int) (l : List Prs) (x : Prs) (ok : Bool) : Int :=
  if chkP p l ≠ 0 then 40 else if ¬ ((1 ≤ x.id ∧ x.id ≤ 1048576) ∧ (0 ≤ x.dep ∧ x.dep ≤ 63)) then 2 else if (x.key != 1 && memZ p.toNat x.key) = false then 41
  else if (l.any fun r => r.id == x.id || r.key == x.key) = true then 6 else if ok = false then 47 else if 64 ≤ l.length then 3 else 0
/-- how many have a lower number -/
def lowN : List Prs → Int → Nat
  | [], _ => 0
  | r :: l, z => if r.id < z then lowN l z + 1 else 0
/-- a person in the place of the number -/
def insP (x : Prs) (l : List Prs) : List Prs := l.take (lowN l x.id) ++ x :: l.drop (lowN l x.id)
def addP (e : Int) (x : Prs) (l : List Prs) : List Prs := if e = 0 then insP x l else []
def addQ (e p : Int) : Int := if e = 0 then p else 0
/-- what Leave says -/
noncomputable def lvE (p : Int) (l : List Prs) (z : Int) : Int := if chkP p l ≠ 0 then 40 else if (fstP Prs.id l z).isSome = false then 41 else 0
def lvP (e z : Int) (l : List Prs) : List Prs := if e = 0 then l.filter (fun r => r.id != z) else []
theorem lowN_le : ∀ (l : List Prs) (z : Int), lowN l z ≤ l.length
  | [], _ => Nat.le_refl _
  | r :: l, z => by
    unfold lowN
    have := lowN_le l z
    split <;> simp <;> omega
theorem lowN_lt : ∀ (l : List Prs) (z : Int) (j : Nat) (r : Prs), j < lowN l z → l[j]? = some r → r.id < z
  | [], _, j, r, h, _ => by simp [lowN] at h
  | q :: l, z, j, r, h, hr => by
    unfold lowN at h
    split at h
    · next hq =>
      cases j with
      | zero => simp at hr; subst hr; exact hq
      | succ j => exact lowN_lt l z j r (by omega) (by simpa using hr)
    · omega
theorem lowN_at : ∀ (l : List Prs) (z : Int) (r : Prs), l[lowN l z]? = some r → ¬ r.id < z
  | [], _, r, h => by simp at h
  | q :: l, z, r, h => by
    unfold lowN at h
    split at h
    · exact lowN_at l z r (by simpa using h)
    · next hq => simp at h; subst h; exact hq
theorem lowN_eq {l : List Prs} {z : Int} {k : Nat} (hk : k ≤ l.length) (h : ∀ (j : Nat) (r : Prs), j < k → l[j]? = some r → r.id < z) (h2 : ∀ r, l[k]? = some r → ¬ r.id < z) : k = lowN l z := by
  rcases Nat.lt_trichotomy k (lowN l z) with h3 | h3 | h3
  · have hl := lowN_le l z
    exact absurd (lowN_lt l z k _ h3 (List.getElem?_eq_getElem (by omega))) (h2 _ (List.getElem?_eq_getElem (by omega)))
  · exact h3
  · exact absurd (h _ _ h3 (List.getElem?_eq_getElem (by omega))) (lowN_at l z _ (List.getElem?_eq_getElem (by omega)))
theorem insP_len (x : Prs) (l : List Prs) : (insP x l).length = l.length + 1 := by
  have := lowN_le l x.id
  simp [insP]; omega
section
variable {p : Int} {l : List Prs} {x : Prs} {ok : Bool}
theorem addE_roll (h : chkP p l ≠ 0) : addE p l x ok = 40 := if_pos h
theorem addE_range (h : chkP p l = 0) (h1 : ¬ ((1 ≤ x.id ∧ x.id ≤ 1048576) ∧ (0 ≤ x.dep ∧ x.dep ≤ 63))) : addE p l x ok = 2 := by
  rw [addE, if_neg (by rw [h]; simp), if_pos h1]
theorem addE_key (h : chkP p l = 0) (h1 : (1 ≤ x.id ∧ x.id ≤ 1048576) ∧ (0 ≤ x.dep ∧ x.dep ≤ 63)) (h2 : (x.key != 1 && memZ p.toNat x.key) = false) : addE p l x ok = 41 := by
  rw [addE, if_neg (by rw [h]; simp), if_neg (fun k => k h1), if_pos h2]
theorem addE_in (h : chkP p l = 0) (h1 : (1 ≤ x.id ∧ x.id ≤ 1048576) ∧ (0 ≤ x.dep ∧ x.dep ≤ 63)) (h2 : (x.key != 1 && memZ p.toNat x.key) = true) (h3 : (l.any fun r => r.id == x.id || r.key == x.key) = true) : addE p l x ok = 6 := by
  rw [addE, if_neg (by rw [h]; simp), if_neg (fun k => k h1), if_neg (by rw [h2]; simp), if_pos h3]
theorem addE_sig (h : chkP p l = 0) (h1 : (1 ≤ x.id ∧ x.id ≤ 1048576) ∧ (0 ≤ x.dep ∧ x.dep ≤ 63)) (h2 : (x.key != 1 && memZ p.toNat x.key) = true) (h3 : (l.any fun r => r.id == x.id || r.key == x.key) = false) (h4 : ok = false) : addE p l x ok = 47 := by
  rw [addE, if_neg (by rw [h]; simp), if_neg (fun k => k h1), if_neg (by rw [h2]; simp), if_neg (by rw [h3]; simp), if_pos h4]
theorem addE_full (h : chkP p l = 0) (h1 : (1 ≤ x.id ∧ x.id ≤ 1048576) ∧ (0 ≤ x.dep ∧ x.dep ≤ 63)) (h2 : (x.key != 1 && memZ p.toNat x.key) = true) (h3 : (l.any fun r => r.id == x.id || r.key == x.key) = false) (h4 : ok = true) (h5 : 64 ≤ l.length) : addE p l x ok = 3 := by
  rw [addE, if_neg (by rw [h]; simp), if_neg (fun k => k h1), if_neg (by rw [h2]; simp), if_neg (by rw [h3]; simp), if_neg (by rw [h4]; simp), if_pos h5]
theorem addE_ok (h : chkP p l = 0) (h1 : (1 ≤ x.id ∧ x.id ≤ 1048576) ∧ (0 ≤ x.dep ∧ x.dep ≤ 63)) (h2 : (x.key != 1 && memZ p.toNat x.key) = true) (h3 : (l.any fun r => r.id == x.id || r.key == x.key) = false) (h4 : ok = true) (h5 : l.length < 64) : addE p l x ok = 0 := by
  rw [addE, if_neg (by rw [h]; simp), if_neg (fun k => k h1), if_neg (by rw [h2]; simp), if_neg (by rw [h3]; simp), if_neg (by rw [h4]; simp), if_neg (by omega)]
end
/-- the first of a number and the first of a key: whether one is there -/
theorem any_two (l : List Prs) (x : Prs) : (l.any fun r => r.id == x.id || r.key == x.key) = ((fstP Prs.id l x.id).isSome || (fstP Prs.key l x.key).isSome) := by
  rw [fstP, fstP]
  induction l with
  | nil => rfl
  | cons r l ih =>
    rw [List.any_cons, ih, List.find?_cons, List.find?_cons]
    cases (r.id == x.id) <;> cases (r.key == x.key) <;> simp
/-! ### What Add and Leave give back -/
def RollRes (W : World) (q e : Int) (m : List Prs) (en : Ending) (w' : World) : Prop :=
  ∃ a' c', en = .returned (.tuple #[.agg #[.int .i64 q, .slice a' m.length c'], .int .i64 e]) ∧ m.length ≤ c' ∧ Rd w' a' (rowsC prC m) ∧ (∀ j, rowOf a' = some j → W.heap.size ≤ j) ∧ Below W.heap.size W w'
theorem RollRes.no {W w' : World} {e : Int} (h : Below W.heap.size W w') : RollRes W 0 e [] (.returned (.tuple #[.agg #[.int .i64 0, .slice none 0 0], .int .i64 e])) w' :=
  ⟨none, 0, rfl, Nat.le_refl _, Rd.nil _ _, fun j h => by simp [rowOf] at h, h⟩
theorem RollB.ret {fn : Func} {t u : Tmp} (h : fn.results = #[.cell t 30, .tmp u]) (tmps : Array Value) {w : World} {g : Nat} {v0 v1 : Value} (ht : tmps.getD t undef = .pointer (some ⟨g, 0, none⟩)) (hD : Bx w g 30 [v0, v1]) :
    (results fn tmps).run Tryz.prog w = .ok (.tuple #[.agg #[v0, v1], tmps.getD u undef]) w := by
  have c0 := hD.cell 0 (v := v0) rfl
  have c1 := hD.cell 1 (v := v1) rfl
  have ht' : tmps[t]?.getD undef = .pointer (some ⟨g, 0, none⟩) := by simpa using ht
  simp [results, h, ht', go_sem, c0, c1]
theorem set_grown (w : World) (b i : Nat) (v : Value) : w.grownBy (w.setCell ⟨b, i, none⟩ v) (some b) :=
  ⟨rfl, rfl, rfl, by simp, fun k _ hk => heap_setCell_other w ⟨b, i, none⟩ k v (fun e => hk (by simp [e]))⟩
/-! ### The boxes of Add -/
structure Ra (W w : World) (gb : Nat) (p : Int) (a : Option Addr) (n c : Nat) (L : List Prs) (x : Prs) (R S : Int) : Prop where
  g : Bx w gb 30 [.int .i64 p, .slice a n c]
  x : Bx w (gb + 1) 43 (prC x)
  s : Bx w (gb + 2) 34 [.int .i64 R, .int .i64 S]
  z : Bx w (gb + 3) 30 [.int .i64 0, .slice none 0 0]
  r : Rd w a (rowsC prC L)
  b : Below gb W w
section
variable {W w w' : World} {gb : Nat} {p : Int} {a : Option Addr} {n c : Nat} {L : List Prs} {x : Prs} {R S : Int}
theorem Ra.keep (h : Ra W w gb p a n c L x R S) (hb : Below w.heap.size w w') : Ra W w' gb p a n c L x R S :=
  ⟨h.g.keep hb, h.x.keep hb, h.s.keep hb, h.z.keep hb, h.r.keep hb, h.b.trans (hb.mono (Nat.le_of_lt h.g.lt))⟩
theorem Ra.far {N : Nat} {row : Option Nat} (h : Ra W w gb p a n c L x R S) (hg : w.grownBy w' row) (h1 : gb + 3 < N) (h2 : ∀ j, rowOf a = some j → j < N) (hr : ∀ j, row = some j → N ≤ j) : Ra W w' gb p a n c L x R S := by
  have hx : ∀ j, j < N → some j ≠ row := fun j hj e => by have := hr j e.symm; omega
  exact ⟨h.g.grown hg (hx _ (by omega)), h.x.grown hg (hx _ (by omega)), h.s.grown hg (hx _ (by omega)), h.z.grown hg (hx _ (by omega)), h.r.grown hg (fun g off e => hx _ (h2 _ (by rw [e]; rfl))), h.b.grown hg (Nat.le_of_lt h.g.lt) (fun k hk => by have := hr k hk; omega)⟩
theorem Ra.held (h : Ra W w gb p a n c L x R S) :
    w.cell? ⟨gb, 0, none⟩ = some (.int .i64 p) ∧ w.cell? ⟨gb, 1, none⟩ = some (.slice a n c) ∧ w.cell? ⟨gb + 1, 0, none⟩ = some (.int .i64 x.id) ∧ w.cell? ⟨gb + 1, 1, none⟩ = some (.int .i64 x.key) ∧ w.cell? ⟨gb + 1, 2, none⟩ = some (.int .i64 x.dep) ∧ w.cell? ⟨gb + 2, 0, none⟩ = some (.int .i64 R) ∧ w.cell? ⟨gb + 2, 1, none⟩ = some (.int .i64 S) :=
  ⟨h.g.cell 0 rfl, h.g.cell 1 rfl, h.x.cell 0 rfl, h.x.cell 1 rfl, h.x.cell 2 rfl, h.s.cell 0 rfl, h.s.cell 1 rfl⟩
theorem Ra.res (h : Ra W w gb p a n c L x R S) :
    (w.cell? ⟨gb + 3, 0, none⟩ = some (.int .i64 0) ∧ w.cell? ⟨gb + 3, 1, none⟩ = some (.slice none 0 0)) ∧ (w.frozen? ⟨gb + 3, 0, none⟩ = false ∧ w.frozen? ⟨gb + 3, 1, none⟩ = false) :=
  ⟨⟨h.z.cell 0 rfl, h.z.cell 1 rfl⟩, h.z.free 0, h.z.free 1⟩
theorem Ra.fin (h : Ra W w gb p a n c L x R S) (v0 v1 : Value) :
    Bx ((w.setCell ⟨gb + 3, 0, none⟩ v0).setCell ⟨gb + 3, 1, none⟩ v1) (gb + 3) 30 [v0, v1] ∧ Below gb W ((w.setCell ⟨gb + 3, 0, none⟩ v0).setCell ⟨gb + 3, 1, none⟩ v1) :=
  ⟨(h.z.set 0 v0).set 1 v1, (h.b.setCell (p := ⟨gb + 3, 0, none⟩) (by show _ ≤ gb + 3; omega) v0).setCell (p := ⟨gb + 3, 1, none⟩) (by show _ ≤ gb + 3; omega) v1⟩
theorem Ra.mk0 (W : World) (p : Int) (a : Option Addr) (n c : Nat) (L : List Prs) (x : Prs) (R S : Int) (hR : Rd W a (rowsC prC L)) :
    Ra W ((((W.alloc (.cells #[.int .i64 p, .slice a n c] 30)).alloc (.cells #[.int .i64 x.id, .int .i64 x.key, .int .i64 x.dep] 43)).alloc (.cells #[.int .i64 R, .int .i64 S] 34)).alloc (.cells #[.int .i64 0, .slice none 0 0] 30)) W.heap.size p a n c L x R S := by
  have b1 := (Below.refl W.heap.size W).alloc (Nat.le_refl _) (.cells #[.int .i64 p, .slice a n c] 30)
  have e1 := Bx.new W 30 [.int .i64 p, .slice a n c]
  change Bx (W.alloc (.cells #[.int .i64 p, .slice a n c] 30)) _ _ _ at e1
  have z1 : (W.alloc (.cells #[.int .i64 p, .slice a n c] 30)).heap.size = W.heap.size + 1 := by simp
  generalize W.alloc (.cells #[.int .i64 p, .slice a n c] 30) = w1 at *
  have b2 := b1.alloc b1.size (.cells #[.int .i64 x.id, .int .i64 x.key, .int .i64 x.dep] 43)
  have e2 := Bx.new w1 43 (prC x)
  change Bx (w1.alloc (.cells #[.int .i64 x.id, .int .i64 x.key, .int .i64 x.dep] 43)) _ _ _ at e2
  have z2 : (w1.alloc (.cells #[.int .i64 x.id, .int .i64 x.key, .int .i64 x.dep] 43)).heap.size = w1.heap.size + 1 := by simp
  replace e1 := e1.alloc (.cells #[.int .i64 x.id, .int .i64 x.key, .int .i64 x.dep] 43)
  generalize w1.alloc (.cells #[.int .i64 x.id, .int .i64 x.key, .int .i64 x.dep] 43) = w2 at *
  have b3 := b2.alloc b2.size (.cells #[.int .i64 R, .int .i64 S] 34)
  have e3 := Bx.new w2 34 [.int .i64 R, .int .i64 S]
  change Bx (w2.alloc (.cells #[.int .i64 R, .int .i64 S] 34)) _ _ _ at e3
  have z3 : (w2.alloc (.cells #[.int .i64 R, .int .i64 S] 34)).heap.size = w2.heap.size + 1 := by simp
  replace e1 := e1.alloc (.cells #[.int .i64 R, .int .i64 S] 34)
  replace e2 := e2.alloc (.cells #[.int .i64 R, .int .i64 S] 34)
  generalize w2.alloc (.cells #[.int .i64 R, .int .i64 S] 34) = w3 at *
  have b4 := b3.alloc b3.size (.cells #[.int .i64 0, .slice none 0 0] 30)
  have e4 := Bx.new w3 30 [.int .i64 0, .slice none 0 0]
  change Bx (w3.alloc (.cells #[.int .i64 0, .slice none 0 0] 30)) _ _ _ at e4
  have q1 : w1.heap.size = W.heap.size + 1 := z1
  have q2 : w2.heap.size = W.heap.size + 2 := by omega
  have q3 : w3.heap.size = W.heap.size + 3 := by omega
  rw [q1] at e2
  rw [q2] at e3
  rw [q3] at e4
  exact ⟨e1.alloc _, e2.alloc _, e3.alloc _, e4, hR.keep b4, b4⟩
end
end Go.Proofs.YtnahkfchcminpaaGreatDoor
