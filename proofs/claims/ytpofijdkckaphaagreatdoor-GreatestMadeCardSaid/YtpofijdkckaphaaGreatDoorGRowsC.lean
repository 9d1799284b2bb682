/- Slices of structs of any number of cells: their cells, in plain Lean; what is read of them, and slices of the call's own. -/
import Derived.Test.YtpofijdkckaphaaGreatDoorBase
import Derived.Laws.IdiomCopy
import Derived.Lib.AppendZerosOnto
import Derived.Lib.Overlaps
import Derived.Laws.Externs
import Derived.Deep.RegionLaw
import Derived.BigRegion
namespace Go.Proofs.YtpofijdkckaphaaGreatDoor
open Go.RowKit
theorem grown_tr {a b c : World} {row : Option Nat} (h : a.grownBy b row) (k : b.grownBy c row) : a.grownBy c row :=
  ⟨k.os.trans h.os, k.tape.trans h.tape, k.output.trans h.output, Nat.le_trans h.size k.size, fun j hj hne => (k.block j (Nat.lt_of_lt_of_le hj h.size) hne).trans (h.block j hj hne)⟩
variable {α : Type} {f : α → List Value} {k : Nat}
/-- the cells of a list of rows -/
def rowsC (f : α → List Value) (l : List α) : List Value := l.flatMap f
theorem rowsC_nil : rowsC f [] = [] := rfl
theorem rowsC_cons (x : α) (l : List α) : rowsC f (x :: l) = f x ++ rowsC f l := by simp [rowsC]
theorem rowsC_append (a b : List α) : rowsC f (a ++ b) = rowsC f a ++ rowsC f b := by simp [rowsC]
theorem rowsC_single (x : α) : rowsC f [x] = f x := by simp [rowsC]
theorem rowsC_length (hf : ∀ x, (f x).length = k) (l : List α) : (rowsC f l).length = l.length * k := by
  induction l with
  | nil => simp [rowsC]
  | cons x l ih => rw [rowsC_cons, List.length_append, ih, hf, List.length_cons, Nat.succ_mul]; omega
theorem rowsC_one (h1 : ∀ x, ∀ u ∈ f x, u.oneCell' = true) (l : List α) : ∀ u ∈ rowsC f l, u.oneCell' = true := by
  intro u hu
  obtain ⟨x, _, hx⟩ := List.mem_flatMap.1 hu
  exact h1 x u hx
theorem rowsC_drop (hf : ∀ x, (f x).length = k) (l : List α) (i : Nat) : rowsC f (l.drop i) = (rowsC f l).drop (i * k) := by
  induction l generalizing i with
  | nil => simp [rowsC]
  | cons x l ih =>
    cases i with
    | zero => simp
    | succ i =>
      rw [List.drop_succ_cons, ih, rowsC_cons, Nat.succ_mul, List.drop_append, hf, show (f x).drop (i * k + k) = [] from List.drop_eq_nil_of_le (by rw [hf]; omega), List.nil_append]
      congr 1; omega
theorem rowsC_take (hf : ∀ x, (f x).length = k) (l : List α) (i : Nat) : rowsC f (l.take i) = (rowsC f l).take (i * k) := by
  induction l generalizing i with
  | nil => simp [rowsC]
  | cons x l ih =>
    cases i with
    | zero => simp [rowsC]
    | succ i =>
      rw [List.take_succ_cons, rowsC_cons, ih, rowsC_cons, Nat.succ_mul, List.take_append, hf, List.take_of_length_le (l := f x) (by rw [hf]; omega)]
      congr 2; omega
theorem rowsC_get (hf : ∀ x, (f x).length = k) {l : List α} {i : Nat} {x : α} (h : l[i]? = some x) {j : Nat} (hj : j < k) : (rowsC f l)[i * k + j]? = (f x)[j]? := by
  rw [← List.getElem?_drop, ← rowsC_drop hf]
  obtain ⟨hi, rfl⟩ := List.getElem?_eq_some_iff.1 h
  rw [List.drop_eq_getElem_cons hi, rowsC_cons, List.getElem?_append_left (by rw [hf]; exact hj)]
/-- the cells of a row whose cells are read -/
theorem Rd.rows {w : World} {a : Option Addr} {l : List α} (hf : ∀ x, (f x).length = k) (hk : 0 < k) (h : Rd w a (rowsC f l)) {i : Nat} (hi : i < l.length) :
    ∃ g off x, a = some ⟨g, off, none⟩ ∧ Hid (l[i]? = some x) ∧ ∀ j v, (f x)[j]? = some v → w.cell? ⟨g, off + i * k + j, none⟩ = some v := by
  have hr : l[i]? = some l[i] := List.getElem?_eq_getElem hi
  obtain ⟨g, off, ha, hc⟩ := h.at (by rw [rowsC_length hf]; exact Nat.mul_pos (by omega) hk)
  refine ⟨g, off, l[i], ha, hr, fun j v hj => ?_⟩
  have hjk : j < k := by
    have := (List.getElem?_eq_some_iff.1 hj).1
    rwa [hf] at this
  have := hc (i * k + j) v (by rw [rowsC_get hf hr hjk]; exact hj)
  rwa [← Nat.add_assoc] at this
theorem Rd.takes {w : World} {a : Option Addr} {xs : List Value} (h : Rd w a xs) (n : Nat) : Rd w a (xs.take n) := fun j u hj => by
  rw [List.getElem?_take] at hj
  split at hj
  · exact h j u hj
  · cases hj
theorem Rd.rowsTake {w : World} {a : Option Addr} {l : List α} (hf : ∀ x, (f x).length = k) (h : Rd w a (rowsC f l)) (i : Nat) : Rd w a (rowsC f (l.take i)) := by
  rw [rowsC_take hf]; exact h.takes _
theorem Rd.rowsDrop {w : World} {g off : Nat} {l : List α} (hf : ∀ x, (f x).length = k) (h : Rd w (some ⟨g, off, none⟩) (rowsC f l)) (i : Nat) : Rd w (some ⟨g, off + i * k, none⟩) (rowsC f (l.drop i)) := Rd.mk fun j u hj => by
  rw [rowsC_drop hf, List.getElem?_drop] at hj
  obtain ⟨g', off', ha, hc⟩ := h _ u hj
  cases ha
  rwa [← Nat.add_assoc] at hc
end Go.Proofs.YtpofijdkckaphaaGreatDoor
/- The builtin copy at rows of k cells, and what slices.Insert does to a slice of the call's own. No program in sight. -/
namespace Go.Proofs.YtpofijdkckaphaaGreatDoor
open Go.RowKit
theorem run_copy_k {P : Program} (w : World) (dT sT ty elem : TypeId) (b o dLen dCap : Nat) (a : Addr) (sLen sCap k m : Nat) (cs : List Value)
    (hu : P.underlying dT = some (.slice elem)) (hs : (P.info? elem).map (·.size) = some k) (hm : Nat.min sLen dLen = m) (hn : cs.length = m * k)
    (hsrc : ∀ j v, cs[j]? = some v → w.cell? (a.add j) = some v) (hc : ∀ j, j < cs.length → (w.cell? ⟨b, o + j, none⟩).isSome = true) (hf : ∀ j, j < cs.length → w.frozen? ⟨b, o + j, none⟩ = false) (h1 : ∀ v ∈ cs, v.oneCell' = true) :
    (Builtin.copy_ #[dT, sT] ty #[.slice (some ⟨b, o, none⟩) dLen dCap, .slice (some a) sLen sCap]).run P w = .ok (goInt m) (w.setCells b o cs) := by
  have hl := run_loadCells_list (P := P) w a cs hsrc
  have hst := run_storeCells_cells (P := P) b o cs 0 w (by simpa using hc) (by simpa using hf) h1
  cases hq : P.info? elem with
  | none => simp [hq] at hs
  | some i =>
    have hi : i.size = k := by simpa [hq] using hs
    simp [Builtin.copy_, run_underlying hu, Builtin.lenOf, Builtin.firstCells, sizeOf, typeInfo, hq, hi, hm, ← hn, hl, hst]
/-- the operation 'copy(d, s)' in the walk, its run known by an equation -/
theorem wpList_copy_eq {P : Program} (w : World) {ops : Array Oper} {rest : List Oper} {o : Oper} {a : Act} {Q : Exit → Act → World → Prop} (hgd : o.guard = none) (d s : Operand) (t t' : TypeId)
    (ho : o.op = .call { callee := .builtin .copy, args := #[d, s], argTypes := #[t, t'] }) (v u : Value) (hd : a.eval d = v) (hs : a.eval s = u) {v' : Value} {w' : World}
    (hr : (Builtin.copy_ #[t, t'] o.type #[v, u]).run P w = .ok v' w') (h : wpList P ops Q rest (a.put o.dst v') w') : wpList P ops Q (o :: rest) a w := by
  refine wpList_plain hgd fun _ hK => ?_
  unfold Oper.wp execOp
  simp only [ho, resolve, invoke, builtin, Sem.run_bind, Sem.run_pure, Result.andThen_ok, List.map_toArray, List.map_cons, List.map_nil, hd, hs, hr]
  exact hK _ _ h
theorem step_copy_eq {P : Program} {ops : Array Oper} {o : Oper} {a : Act} {w : World} {K : Act → World → Prop} {Q : Exit → Act → World → Prop} {E : Prop}
    (hg : o.guard = none) (d x : Operand) (dT sT : TypeId) (hop : o.op = Op.call { callee := Callee.builtin Builtin.copy, args := #[d, x], argTypes := #[dT, sT] })
    (v u : Value) (hd : a.eval d = v) (hx : a.eval x = u) {v' : Value} {w' : World} (hr : (Builtin.copy_ #[dT, sT] o.type #[v, u]).run P w = .ok v' w') (hK : K (a.put o.dst v') w') :
    if Region.wanted o (yielded ops a.tmps) = true then Oper.wp P o a w K Q else E := by
  have hw : Region.wanted o (yielded ops a.tmps) = true := by simp [Region.wanted, hg]
  rw [if_pos hw]
  unfold Oper.wp
  simp [execOp, hop, resolve, invoke, builtin, hd, hx, hr, Result.andThen]
  exact hK
theorem drew_setC (b : Nat) : ∀ (vs : List Value) (o : Nat) (w : World), (w.setCells b o vs).drew = w.drew.setCells b o vs
  | [], _, _ => rfl
  | v :: r, o, w => by rw [World.setCells, World.setCells, drew_setC b r]; rfl
theorem isSome_setC (b : Nat) (vs : List Value) (o : Nat) (w : World) (h : ∀ j, j < vs.length → (w.cell? ⟨b, o + j, none⟩).isSome = true) (k : Nat) (hk : (w.cell? ⟨b, k, none⟩).isSome = true) : ((w.setCells b o vs).cell? ⟨b, k, none⟩).isSome = true := by
  by_cases hin : o ≤ k ∧ k < o + vs.length
  · have := World.cell?_setCells_in b vs o w h (k - o) (by omega)
    rw [show o + (k - o) = k by omega] at this
    rw [this]; rfl
  · rw [World.cell?_setCells_out b vs o w ⟨b, k, none⟩ (fun _ _ => by show k < o ∨ o + vs.length ≤ k; omega)]
    exact hk
theorem heap_size_setCells (b : Nat) : ∀ (vs : List Value) (o : Nat) (w : World), (w.setCells b o vs).heap.size = w.heap.size
  | [], _, _ => rfl
  | v :: r, o, w => by rw [World.setCells, heap_size_setCells b r]; simp
/-- cells in, cells out, where all is given by what stands at each place -/
theorem cell_set {w : World} {b o : Nat} {vs : List Value} (h : ∀ j, j < vs.length → (w.cell? ⟨b, o + j, none⟩).isSome = true) {k : Nat} {v : Value} (hv : vs[k]? = some v) : (w.setCells b o vs).cell? ⟨b, o + k, none⟩ = some v := by
  obtain ⟨hk, rfl⟩ := List.getElem?_eq_some_iff.1 hv
  exact World.cell?_setCells_in b vs o w h k hk
theorem cell_stay {w : World} {b o : Nat} {vs : List Value} {k : Nat} (h : k < o ∨ o + vs.length ≤ k) : (w.setCells b o vs).cell? ⟨b, k, none⟩ = w.cell? ⟨b, k, none⟩ :=
  World.cell?_setCells_out b vs o w ⟨b, k, none⟩ (fun _ _ => h)
variable {α : Type} {f : α → List Value} {k : Nat}
theorem mul_bd (a b c k : Nat) (h : a + b ≤ c) : a * k + b * k ≤ c * k := by rw [← Nat.add_mul]; exact Nat.mul_le_mul_right k h
theorem Ow.both {w : World} {base size : Nat} {g off n cap : Nat} {xs : List Value} (h : Ow w base size (some ⟨g, off, none⟩) n cap xs) : (∀ j u, xs[j]? = some u → w.cell? ⟨g, off + j, none⟩ = some u) ∧ ∀ j, j < cap * size → (w.cell? ⟨g, off + j, none⟩).isSome = true ∧ w.frozen? ⟨g, off + j, none⟩ = false := by
  obtain ⟨hl, hc, hm, ⟨h1, _⟩ | ⟨g', off', ha, hb, hgs, hx, hf⟩⟩ := h
  · simp at h1
  · simp only [Option.some.injEq, Addr.mk.injEq, and_true] at ha
    obtain ⟨rfl, rfl⟩ := ha
    exact ⟨hx, hf⟩
theorem ins_length {l : List α} {i : Nat} {z : α} (hi : i ≤ l.length) : (l.take i ++ z :: l.drop i).length = l.length + 1 := by simp; omega
/-- a row comes in: the rows behind go up by one place -/
theorem Ow.shift (hf : ∀ x, (f x).length = k) {w : World} {base g off cap i : Nat} {l : List α} {z : α} (h : Ow w base k (some ⟨g, off, none⟩) l.length cap (rowsC f l)) (hi : i ≤ l.length) (hc : l.length + 1 ≤ cap) :
    Ow ((w.setCells g (off + (i * k + k)) (rowsC f (l.drop i))).setCells g (off + i * k) (f z)) base k (some ⟨g, off, none⟩) (l.length + 1) cap (rowsC f (l.take i ++ z :: l.drop i)) ∧ w.grownBy ((w.setCells g (off + (i * k + k)) (rowsC f (l.drop i))).setCells g (off + i * k) (f z)) (some g) := by
  obtain ⟨hl, hnc, hm, ⟨h1, _⟩ | ⟨g', off', ha, hb, hgs, hx, hfz⟩⟩ := h
  · simp at h1
  simp only [Option.some.injEq, Addr.mk.injEq, and_true] at ha
  obtain ⟨rfl, rfl⟩ := ha
  have hdl : (rowsC f (l.drop i)).length = (l.length - i) * k := by rw [rowsC_length hf, List.length_drop]
  have htl : (rowsC f (l.take i)).length = i * k := by rw [rowsC_length hf, List.length_take, Nat.min_eq_left hi]
  have e1 : i * k + (l.length - i) * k = l.length * k := by rw [← Nat.add_mul]; congr 1; omega
  have e2 : (l.length + 1) * k = l.length * k + k := Nat.succ_mul _ _
  have e3 : (l.length + 1) * k ≤ cap * k := Nat.mul_le_mul_right k hc
  have s0 : ∀ j, j < (rowsC f (l.drop i)).length → (w.cell? ⟨g, off + (i * k + k) + j, none⟩).isSome = true := fun j hj => by rw [Nat.add_assoc]; exact (hfz _ (by omega)).1
  have s1 : ∀ j, j < cap * k → ((w.setCells g (off + (i * k + k)) (rowsC f (l.drop i))).cell? ⟨g, off + j, none⟩).isSome = true := fun j hj => isSome_setC g _ _ w s0 _ (hfz j hj).1
  have s2 : ∀ j, j < (f z).length → ((w.setCells g (off + (i * k + k)) (rowsC f (l.drop i))).cell? ⟨g, off + i * k + j, none⟩).isSome = true := fun j hj => by rw [Nat.add_assoc]; rw [hf] at hj; exact s1 _ (by omega)
  refine ⟨⟨by rw [rowsC_length hf, ins_length hi], hc, hm, .inr ⟨g, off, rfl, hb, by rw [heap_size_setCells, heap_size_setCells]; exact hgs, fun j u hj => ?_, fun j hj => ⟨isSome_setC g _ _ _ s2 _ (s1 j hj), by rw [World.frozen?_setCells, World.frozen?_setCells]; exact (hfz j hj).2⟩⟩⟩, grown_tr (grownBy_setCells _ _ _ _) (grownBy_setCells _ _ _ _)⟩
  rw [rowsC_append, rowsC_cons] at hj
  by_cases j1 : j < i * k
  · rw [List.getElem?_append_left (by omega), rowsC_take hf, List.getElem?_take_of_lt j1] at hj
    rw [cell_stay (.inl (by omega)), cell_stay (.inl (by omega))]
    exact hx j u hj
  · rw [List.getElem?_append_right (by omega), htl] at hj
    by_cases j2 : j < i * k + k
    · rw [List.getElem?_append_left (by rw [hf]; omega)] at hj
      have := cell_set s2 hj
      rwa [show off + i * k + (j - i * k) = off + j by omega] at this
    · rw [List.getElem?_append_right (by rw [hf]; omega), hf] at hj
      have := cell_set s0 hj
      rw [cell_stay (.inr (by rw [hf]; omega))]
      rwa [show off + (i * k + k) + (j - i * k - k) = off + j by omega] at this
/-- a row is stored -/
theorem Ow.setRow (hf : ∀ x, (f x).length = k) {w : World} {base g off n cap i : Nat} {l : List α} (h : Ow w base k (some ⟨g, off, none⟩) n cap (rowsC f l)) (hi : i < l.length) (r : α) :
    Ow (w.setCells g (off + i * k) (f r)) base k (some ⟨g, off, none⟩) n cap (rowsC f (l.set i r)) ∧ w.grownBy (w.setCells g (off + i * k) (f r)) (some g) := by
  obtain ⟨hl, hnc, hm, ⟨h1, _⟩ | ⟨g', off', ha, hb, hgs, hx, hfz⟩⟩ := h
  · simp at h1
  simp only [Option.some.injEq, Addr.mk.injEq, and_true] at ha
  obtain ⟨rfl, rfl⟩ := ha
  have hll := hl
  rw [rowsC_length hf] at hll
  have htl : (rowsC f (l.take i)).length = i * k := by rw [rowsC_length hf, List.length_take, Nat.min_eq_left (by omega)]
  have e2 : (i + 1) * k = i * k + k := Nat.succ_mul _ _
  have e3 : (i + 1) * k ≤ l.length * k := Nat.mul_le_mul_right k hi
  have e4 : n * k ≤ cap * k := Nat.mul_le_mul_right k hnc
  have s0 : ∀ j, j < (f r).length → (w.cell? ⟨g, off + i * k + j, none⟩).isSome = true := fun j hj => by rw [hf] at hj; rw [Nat.add_assoc]; exact (hfz _ (by omega)).1
  refine ⟨⟨by rw [rowsC_length hf, List.length_set]; exact hll, hnc, hm, .inr ⟨g, off, rfl, hb, by rw [heap_size_setCells]; exact hgs, fun j u hj => ?_, fun j hj => ⟨isSome_setC g _ _ _ s0 _ (hfz j hj).1, by rw [World.frozen?_setCells]; exact (hfz j hj).2⟩⟩⟩, grownBy_setCells _ _ _ _⟩
  have e5 : l.set i r = l.take i ++ r :: l.drop (i + 1) := by rw [List.set_eq_take_append_cons_drop, if_pos hi]
  rw [e5, rowsC_append, rowsC_cons] at hj
  by_cases j1 : j < i * k
  · rw [List.getElem?_append_left (by omega), rowsC_take hf, List.getElem?_take_of_lt j1] at hj
    rw [cell_stay (.inl (by omega))]
    exact hx j u hj
  · rw [List.getElem?_append_right (by omega), htl] at hj
    by_cases j2 : j < i * k + k
    · rw [List.getElem?_append_left (by rw [hf]; omega)] at hj
      have := cell_set s0 hj
      rwa [show off + i * k + (j - i * k) = off + j by omega] at this
    · rw [List.getElem?_append_right (by rw [hf]; omega), hf, rowsC_drop hf, List.getElem?_drop, e2, show i * k + k + (j - i * k - k) = j by omega] at hj
      rw [cell_stay (.inr (by rw [hf]; omega))]
      exact hx j u hj
/-- the same where a new block is made -/
theorem Ow.fresh (hf : ∀ x, (f x).length = k) {w : World} {base cap i : Nat} {e : TypeId} {l : List α} {z : α} {R : Array Value} (hb : base ≤ w.heap.size) (hi : i ≤ l.length) (hc : l.length + 1 ≤ cap) (hm : cap ≤ maxLen) (hR : R.size = cap * k)
    (hx : ∀ (j : Nat) (u : Value), (rowsC f (l.take i))[j]? = some u → R[j]? = some u) :
    Ow (((w.alloc (.cells R e)).setCells w.heap.size (i * k) (f z)).setCells w.heap.size (i * k + k) (rowsC f (l.drop i))) base k (some ⟨w.heap.size, 0, none⟩) (l.length + 1) cap (rowsC f (l.take i ++ z :: l.drop i))
      ∧ Below w.heap.size w (((w.alloc (.cells R e)).setCells w.heap.size (i * k) (f z)).setCells w.heap.size (i * k + k) (rowsC f (l.drop i))) := by
  have hdl : (rowsC f (l.drop i)).length = (l.length - i) * k := by rw [rowsC_length hf, List.length_drop]
  have htl : (rowsC f (l.take i)).length = i * k := by rw [rowsC_length hf, List.length_take, Nat.min_eq_left hi]
  have e1 : i * k + (l.length - i) * k = l.length * k := by rw [← Nat.add_mul]; congr 1; omega
  have e2 : (l.length + 1) * k = l.length * k + k := Nat.succ_mul _ _
  have e3 : (l.length + 1) * k ≤ cap * k := Nat.mul_le_mul_right k hc
  have c0 : ∀ j, (w.alloc (.cells R e)).cell? ⟨w.heap.size, j, none⟩ = R[j]? := fun j => World.cell?_alloc_at _ _ _ _ rfl
  have f0 : ∀ j, (w.alloc (.cells R e)).frozen? ⟨w.heap.size, j, none⟩ = false := fun j => World.frozen?_alloc_at _ _ _ _ rfl
  have s0 : ∀ j, j < cap * k → ((w.alloc (.cells R e)).cell? ⟨w.heap.size, j, none⟩).isSome = true := fun j hj => by rw [c0, Array.getElem?_eq_getElem (by omega)]; rfl
  have s1 : ∀ j, j < (f z).length → ((w.alloc (.cells R e)).cell? ⟨w.heap.size, i * k + j, none⟩).isSome = true := fun j hj => by rw [hf] at hj; exact s0 _ (by omega)
  have s2 : ∀ j, j < cap * k → (((w.alloc (.cells R e)).setCells w.heap.size (i * k) (f z)).cell? ⟨w.heap.size, j, none⟩).isSome = true := fun j hj => isSome_setC _ _ _ _ s1 _ (s0 j hj)
  have s3 : ∀ j, j < (rowsC f (l.drop i)).length → (((w.alloc (.cells R e)).setCells w.heap.size (i * k) (f z)).cell? ⟨w.heap.size, i * k + k + j, none⟩).isSome = true := fun j hj => s2 _ (by omega)
  refine ⟨⟨by rw [rowsC_length hf, ins_length hi], hc, hm, .inr ⟨w.heap.size, 0, rfl, hb, by rw [heap_size_setCells, heap_size_setCells]; simp, fun j u hj => ?_, fun j hj => ⟨?_, ?_⟩⟩⟩, ?_⟩
  · rw [Nat.zero_add]
    rw [rowsC_append, rowsC_cons] at hj
    by_cases j1 : j < i * k
    · rw [List.getElem?_append_left (by omega)] at hj
      rw [cell_stay (.inl (by omega)), cell_stay (.inl (by omega)), c0]
      exact hx j u hj
    · rw [List.getElem?_append_right (by omega), htl] at hj
      by_cases j2 : j < i * k + k
      · rw [List.getElem?_append_left (by rw [hf]; omega)] at hj
        have := cell_set s1 hj
        rw [cell_stay (.inl (by omega))]
        rwa [show i * k + (j - i * k) = j by omega] at this
      · rw [List.getElem?_append_right (by rw [hf]; omega), hf] at hj
        have := cell_set s3 hj
        rwa [show i * k + k + (j - i * k - k) = j by omega] at this
  · rw [Nat.zero_add]; exact isSome_setC _ _ _ _ s3 _ (s2 j hj)
  · rw [Nat.zero_add, World.frozen?_setCells, World.frozen?_setCells]; exact f0 j
  · have hb0 := (Below.refl w.heap.size w).alloc (Nat.le_refl _) (.cells R e)
    exact (hb0.grown (grownBy_setCells _ _ _ _) (by simp) (fun j hj => by cases hj; exact Nat.le_refl _)).grown (grownBy_setCells _ _ _ _) (by rw [heap_size_setCells]; simp) (fun j hj => by cases hj; exact Nat.le_refl _)
/-- where 's[k:]' begins -/
def sfrom (a : Option Addr) (size k cap : Nat) : Option Addr := if cap = k then a else a.map (·.add (k * size))
theorem slice_from {P : Program} {T e : TypeId} {size : Nat} (hu : P.underlying T = some (.slice e)) (hz : ∀ w, (Go.sizeOf e).run P w = .ok size w) (a : Option Addr) (n cap k : Nat) (hk : k ≤ n) (V : World) :
    (Instr.slice T (.slice a n cap) (some (.int .i64 (k : Int))) none none).run P V = .ok (.slice (sfrom a size k cap) (n - k) (cap - k)) V := by
  have hk' : (k : Int) ≤ (n : Int) := by omega
  simp [Instr.slice, run_underlying hu, go_sem, hz, hk', sfrom]
theorem slice_to {P : Program} {T e : TypeId} {size : Nat} (hu : P.underlying T = some (.slice e)) (hz : ∀ w, (Go.sizeOf e).run P w = .ok size w) (a : Option Addr) (n cap k : Nat) (hk : k ≤ cap) (V : World) :
    (Instr.slice T (.slice a n cap) none (some (.int .i64 (k : Int))) none).run P V = .ok (.slice a k cap) V := by
  have hk' : (k : Int) ≤ (cap : Int) := by omega
  cases a <;> simp [Instr.slice, run_underlying hu, go_sem, hz, hk', Addr.add]
theorem Rd.sfrom {w : World} {a : Option Addr} {n cap size k : Nat} {xs : List Value} (h : Rd w a xs) (hl : xs.length = n * size) (hn : n ≤ cap) : Rd w (sfrom a size k cap) (xs.drop (k * size)) := fun j u hj => by
  rw [List.getElem?_drop] at hj
  obtain ⟨g, off, rfl, hc⟩ := h _ u hj
  have hjl := (List.getElem?_eq_some_iff.1 hj).1
  have hck : ¬ cap = k := by
    rintro rfl
    have := Nat.mul_le_mul_right size hn
    omega
  refine ⟨g, off + k * size, by unfold Go.Proofs.YtpofijdkckaphaaGreatDoor.sfrom; rw [if_neg hck]; simp [Addr.add], ?_⟩
  rwa [Nat.add_assoc]
end Go.Proofs.YtpofijdkckaphaaGreatDoor
