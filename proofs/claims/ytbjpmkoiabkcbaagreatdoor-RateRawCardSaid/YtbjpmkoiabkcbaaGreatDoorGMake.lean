/- 'make' of a length that is a variable, and such bytes as a string. No function in sight. -/
import Derived.Test.YtbjpmkoiabkcbaaGreatDoorBase
import Derived.BigRegion
import Derived.Test.YtbjpmkoiabkcbaaGreatDoorGRateF
import Derived.Test.YtbjpmkoiabkcbaaGreatDoorGCopyK
namespace Go.Proofs.YtbjpmkoiabkcbaaGreatDoor
open Go.RowKit
theorem mk_str {P : Program} (W : World) (src dst e : TypeId) (hs : P.underlying src = some (.slice e)) (he : P.underlying e = some (.int .u8)) (hd : P.underlying dst = some .string) (g k : Nat)
    (h : W.heap[g]? = some (.cells (madeCells #[.int .u8 0] k) e (0, 0))) : (convert src dst (.slice (some ⟨g, 0, none⟩) k k)).run P W = .ok (.string ⟨(List.replicate k (0 : UInt8)).toArray⟩) W :=
  run_bytes_str W src dst e hs he hd (l := List.replicate k 0) (by simp) (Rd.mk fun j u hj => by
    rw [Nat.zero_add, Lib.cell_of_heap h, ← Array.getElem?_toList, toList_madeCells_one]
    simpa [u8s] using hj)
theorem mk_run {P : Program} (W : World) {t e : TypeId} {z : Value} {bytes : Nat} (hE : ElemOf P t e z 1 bytes) (hz : z.cells = #[z]) (ki : IntKind) (n : Nat) (hn : bytes * n ≤ 140737488355328) :
    (Instr.makeSlice t (.int ki (n : Int)) (.int ki (n : Int))).run P W = .ok (.slice (some ⟨W.heap.size, 0, none⟩) n n) (W.alloc (.cells (madeCells #[z] n) e)) := by
  obtain ⟨i, hi, hzz, hsize, hby⟩ := info_parts hE.i
  have hn1 : n ≤ bytes * n := Nat.le_mul_of_pos_left n hE.b
  have h := run_make (P := P) W t e i z hE.u hi hzz ki ki n n (by omega) (Int.le_refl _) (by rw [hby, ← Int.natCast_mul]; omega) (by omega)
  rw [hz, hsize, Int.toNat_natCast, Nat.mul_one] at h
  exact h
theorem mk_str1 {P : Program} (W : World) (src dst e : TypeId) (hs : P.underlying src = some (.slice e)) (he : P.underlying e = some (.int .u8)) (hd : P.underlying dst = some .string) (k : Nat) :
    (convert src dst (.slice (some ⟨W.heap.size, 0, none⟩) k k)).run P (W.alloc (.cells (madeCells #[.int .u8 0] k) e)) = .ok (.string ⟨(List.replicate k (0 : UInt8)).toArray⟩) (W.alloc (.cells (madeCells #[.int .u8 0] k) e)) :=
  mk_str _ src dst e hs he hd _ k (heap_alloc_new W _)
theorem Ow.slots {w : World} {base size : Nat} {g off n cap : Nat} {xs : List Value} (h : Ow w base size (some ⟨g, off, none⟩) n cap xs) : (∀ j u, xs[j]? = some u → w.cell? ⟨g, off + j, none⟩ = some u) ∧ ∀ j, j < cap * size → w.frozen? ⟨g, off + j, none⟩ = false := by
  obtain ⟨_, _, _, ⟨h1, _⟩ | ⟨g', off', ha, _, _, hx, hf⟩⟩ := h
  · simp at h1
  · simp only [Option.some.injEq, Addr.mk.injEq, and_true] at ha
    obtain ⟨rfl, rfl⟩ := ha
    exact ⟨hx, fun j hj => (hf j hj).2⟩
end Go.Proofs.YtbjpmkoiabkcbaaGreatDoor
/- Rings of keys: how one is made: plain, and what the walk keeps. -/
namespace Go.Proofs.YtbjpmkoiabkcbaaGreatDoor
open Go.RowKit
/-- which of the random pairs is a member's -/
def pairI (me i : Nat) : Nat := if i < me then i else i - 1
/-- the challenges of the others among the first k -/
def cFn (rnd : List Int) (me k i : Nat) : Int := if i < k ∧ i ≠ me then rnd.getD (1 + 2 * pairI me i) 0 else 0
def zFn (rnd : List Int) (me k i : Nat) : Int := if i < k ∧ i ≠ me then rnd.getD (2 + 2 * pairI me i) 0 else 0
def aFn (p : Nat) (keys rnd : List Int) (me k i : Nat) : Int :=
  if i < k then (if i = me then ((gpw p 4 (rnd.getD 0 0) : Nat) : Int) else ((comF p (keys.getD i 0).toNat (rnd.getD (1 + 2 * pairI me i) 0) (rnd.getD (2 + 2 * pairI me i) 0) : Nat) : Int)) else 0
def cL (rnd : List Int) (me n k : Nat) : List Int := (List.range n).map (cFn rnd me k)
def zL (rnd : List Int) (me n k : Nat) : List Int := (List.range n).map (zFn rnd me k)
def aL (p : Nat) (keys rnd : List Int) (me k : Nat) : List Int := (List.range keys.length).map (aFn p keys rnd me k)
theorem range_set {n k : Nat} (f g : Nat → Int) (_ : k < n) (h : ∀ i, i < n → i ≠ k → f i = g i) : ((List.range n).map f).set k (g k) = (List.range n).map g := by
  apply List.ext_getElem
  · simp
  · intro i h1 h2
    simp at h2
    by_cases e : k = i
    · subst e; simp
    · rw [List.getElem_set_ne e]
      simp only [List.getElem_map, List.getElem_range]
      exact h i h2 (fun h => e h.symm)
theorem range_same {n : Nat} (f g : Nat → Int) (h : ∀ i, i < n → f i = g i) : (List.range n).map f = (List.range n).map g :=
  List.map_congr_left fun i hi => h i (List.mem_range.1 hi)
theorem cL_zero (rnd : List Int) (me n : Nat) : cL rnd me n 0 = List.replicate n 0 := by
  rw [cL, range_same (g := fun _ => 0) (h := fun i _ => by simp [cFn])]; simp [List.map_const']
theorem zL_zero (rnd : List Int) (me n : Nat) : zL rnd me n 0 = List.replicate n 0 := by
  rw [zL, range_same (g := fun _ => 0) (h := fun i _ => by simp [zFn])]; simp [List.map_const']
theorem aL_zero (p : Nat) (keys rnd : List Int) (me : Nat) : aL p keys rnd me 0 = List.replicate keys.length 0 := by
  rw [aL, range_same (g := fun _ => 0) (h := fun i _ => by simp [aFn])]; simp [List.map_const']
theorem cL_me (rnd : List Int) (me n : Nat) : cL rnd me n (me + 1) = cL rnd me n me :=
  range_same _ _ fun i _ => by
    unfold cFn
    by_cases h : i < me
    · rw [if_pos ⟨by omega, by omega⟩, if_pos ⟨h, by omega⟩]
    · rw [if_neg (by omega), if_neg (by omega)]
theorem zL_me (rnd : List Int) (me n : Nat) : zL rnd me n (me + 1) = zL rnd me n me :=
  range_same _ _ fun i _ => by
    unfold zFn
    by_cases h : i < me
    · rw [if_pos ⟨by omega, by omega⟩, if_pos ⟨h, by omega⟩]
    · rw [if_neg (by omega), if_neg (by omega)]
theorem cL_set {rnd : List Int} {me n k : Nat} (hk : k < n) (h : k ≠ me) : (cL rnd me n k).set k (rnd.getD (1 + 2 * pairI me k) 0) = cL rnd me n (k + 1) := by
  have := range_set (cFn rnd me k) (cFn rnd me (k + 1)) hk fun i _ hi => by
    unfold cFn
    by_cases h : i < k ∧ i ≠ me
    · rw [if_pos h, if_pos ⟨by omega, h.2⟩]
    · rw [if_neg h, if_neg (by omega)]
  rwa [show cFn rnd me (k + 1) k = rnd.getD (1 + 2 * pairI me k) 0 by rw [cFn, if_pos ⟨by omega, h⟩]] at this
theorem zL_set {rnd : List Int} {me n k : Nat} (hk : k < n) (h : k ≠ me) : (zL rnd me n k).set k (rnd.getD (2 + 2 * pairI me k) 0) = zL rnd me n (k + 1) := by
  have := range_set (zFn rnd me k) (zFn rnd me (k + 1)) hk fun i _ hi => by
    unfold zFn
    by_cases h : i < k ∧ i ≠ me
    · rw [if_pos h, if_pos ⟨by omega, h.2⟩]
    · rw [if_neg h, if_neg (by omega)]
  rwa [show zFn rnd me (k + 1) k = rnd.getD (2 + 2 * pairI me k) 0 by rw [zFn, if_pos ⟨by omega, h⟩]] at this
theorem aL_set {p : Nat} {keys rnd : List Int} {me k : Nat} (hk : k < keys.length) : (aL p keys rnd me k).set k (aFn p keys rnd me (k + 1) k) = aL p keys rnd me (k + 1) :=
  range_set (aFn p keys rnd me k) (aFn p keys rnd me (k + 1)) hk fun i _ hi => by
    unfold aFn
    by_cases h : i < k
    · rw [if_pos h, if_pos (show i < k + 1 by omega)]
    · rw [if_neg h, if_neg (show ¬ i < k + 1 by omega)]
theorem cL_length (rnd : List Int) (me n k : Nat) : (cL rnd me n k).length = n := by simp [cL]
theorem zL_length (rnd : List Int) (me n k : Nat) : (zL rnd me n k).length = n := by simp [zL]
theorem aL_length (p : Nat) (keys rnd : List Int) (me k : Nat) : (aL p keys rnd me k).length = keys.length := by simp [aL]
theorem aL_bd (p : Nat) (hp : p ≤ 1073741824) (keys rnd : List Int) (me k : Nat) : ∀ x ∈ aL p keys rnd me k, I64 x := fun x hx => by
  simp only [aL, List.mem_map] at hx
  obtain ⟨i, -, rfl⟩ := hx
  unfold aFn
  split
  · split
    · have := gpw_lt p 4 (rnd.getD 0 0)
      exact ⟨by omega, by omega⟩
    · have := comF_lt p (keys.getD i 0).toNat (rnd.getD (1 + 2 * pairI me i) 0) (rnd.getD (2 + 2 * pairI me i) 0)
      exact ⟨by omega, by omega⟩
  · exact ⟨by decide, by decide⟩
theorem getD_bd {p : Int} (hp : 0 < p) {l : List Int} (h : ∀ x ∈ l, 0 ≤ x ∧ x < p) (i : Nat) : 0 ≤ l.getD i 0 ∧ l.getD i 0 < p := by
  rw [List.getD]
  cases hx : l[i]? with
  | none => exact ⟨Int.le_refl _, hp⟩
  | some x => exact h x (List.mem_of_getElem? hx)
theorem cL_bd {p : Int} (hp : 0 < p) {rnd : List Int} (h : ∀ x ∈ rnd, 0 ≤ x ∧ x < p) (me n k : Nat) : ∀ x ∈ cL rnd me n k, 0 ≤ x ∧ x < p := fun x hx => by
  simp only [cL, List.mem_map] at hx
  obtain ⟨i, -, rfl⟩ := hx
  unfold cFn
  split
  · exact getD_bd hp h _
  · exact ⟨Int.le_refl _, hp⟩
/-- how many others there are among the first k -/
def cntJ (me k : Nat) : Nat := if k ≤ me then k else k - 1
theorem cntJ_me (me : Nat) : cntJ me (me + 1) = cntJ me me := by simp [cntJ]
theorem cntJ_other {me k : Nat} (h : k ≠ me) : cntJ me (k + 1) = cntJ me k + 1 := by
  unfold cntJ
  split <;> split <;> omega
theorem pairI_cnt {me k : Nat} (h : k ≠ me) : pairI me k = cntJ me k := by
  unfold pairI cntJ
  split <;> split <;> omega
theorem cntJ_lt {me k n : Nat} (h : k ≠ me) (hk : k < n) (hm : me < n) : cntJ me k + 2 ≤ n := by
  unfold cntJ
  split <;> omega
theorem drop_getD (l : List Int) (i k : Nat) : (l.drop i).getD k 0 = l.getD (i + k) 0 := by
  rw [List.getD, List.getD, List.getElem?_drop]
/-- the own challenge and answer -/
def cMe (p : Nat) (keys rnd : List Int) (me : Nat) (text : List UInt8) : Int := (rchF p keys (aL p keys rnd me keys.length) text - sumF p (cL rnd me keys.length keys.length)) % p
def zMe (p : Nat) (keys rnd : List Int) (me : Nat) (secret : Int) (text : List UInt8) : Int := (rnd.getD 0 0 + cMe p keys rnd me text * secret % p) % p
/-- a ring that is made, and the error -/
def proveF (p : Nat) (keys : List Int) (me secret : Int) (text : List UInt8) (rnd : List Int) : (List Int × List Int) × Int :=
  if allowF p keys me secret ≠ 0 then (([], []), allowF p keys me secret)
  else if ¬ (rnd.length + 1 = 2 * keys.length ∧ elsF p rnd = true) then (([], []), 1)
  else (((cL rnd me.toNat keys.length keys.length).set me.toNat (cMe p keys rnd me.toNat text), (zL rnd me.toNat keys.length keys.length).set me.toNat (zMe p keys rnd me.toNat secret text)), 0)
/-- lies in a block made later -/
def Fresh (w : World) (a : Option Addr) : Prop := ∀ g off, a = some ⟨g, off, none⟩ → w.heap.size ≤ g
theorem Fresh.nil (w : World) : Fresh w none := fun _ _ h => by cases h
theorem Fresh.mk {w : World} {g off : Nat} (h : w.heap.size ≤ g) : Fresh w (some ⟨g, off, none⟩) := fun _ _ e => by cases e; exact h
/-- a ring that is returned -/
def RingRes (w : World) (C Z : List Int) (e : Int) : Ending → World → Prop := fun en w' =>
  ∃ ca cd za zd, en = .returned (.tuple #[.agg #[.slice ca C.length cd, .slice za Z.length zd], .int .i64 e]) ∧ Rd w' ca (ints C) ∧ Rd w' za (ints Z) ∧ Fresh w ca ∧ Fresh w za ∧ Below w.heap.size w w'
theorem ints_set' (x : List Int) (j : Nat) (v : Int) : (ints x).set j (.int .i64 v) = ints (x.set j v) := by simp [ints, List.map_set]
/-- the boxes of Prove -/
structure Pv (W w : World) (gr go gC gZ gA n : Nat) (C Z A : List Int) : Prop where
  r : Bx w gr 24 [.slice none 0 0, .slice none 0 0]
  o : Bx w go 24 [.slice (some ⟨gC, 0, none⟩) n n, .slice (some ⟨gZ, 0, none⟩) n n]
  c : Bx w gC 3 (ints C)
  z : Bx w gZ 3 (ints Z)
  a : Bx w gA 3 (ints A)
  b : Below W.heap.size W w
  ne : gC ≠ gr ∧ gC ≠ go ∧ gC ≠ gZ ∧ gC ≠ gA ∧ gZ ≠ gr ∧ gZ ≠ go ∧ gZ ≠ gA ∧ gA ≠ gr ∧ gA ≠ go
  lo : W.heap.size ≤ gr ∧ W.heap.size ≤ gC ∧ W.heap.size ≤ gZ ∧ W.heap.size ≤ gA
section
variable {W w w' : World} {gr go gC gZ gA n : Nat} {C Z A : List Int}
theorem Pv.keep (h : Pv W w gr go gC gZ gA n C Z A) (hb : Below w.heap.size w w') : Pv W w' gr go gC gZ gA n C Z A :=
  ⟨h.r.keep hb, h.o.keep hb, h.c.keep hb, h.z.keep hb, h.a.keep hb, below_tr h.b hb, h.ne, h.lo⟩
theorem Pv.setC (h : Pv W w gr go gC gZ gA n C Z A) (k : Nat) (v : Int) : Pv W (w.setCell ⟨gC, k, none⟩ (.int .i64 v)) gr go gC gZ gA n (C.set k v) Z A := by
  obtain ⟨n1, n2, n3, n4, n5, n6, n7, n8, n9⟩ := h.ne
  exact ⟨h.r.other (Ne.symm n1) _ _, h.o.other (Ne.symm n2) _ _, by rw [← ints_set']; exact h.c.set _ _, h.z.other (Ne.symm n3) _ _, h.a.other (Ne.symm n4) _ _, h.b.setCell (p := ⟨gC, k, none⟩) h.lo.2.1 _, h.ne, h.lo⟩
theorem Pv.setZ (h : Pv W w gr go gC gZ gA n C Z A) (k : Nat) (v : Int) : Pv W (w.setCell ⟨gZ, k, none⟩ (.int .i64 v)) gr go gC gZ gA n C (Z.set k v) A := by
  obtain ⟨n1, n2, n3, n4, n5, n6, n7, n8, n9⟩ := h.ne
  exact ⟨h.r.other (Ne.symm n5) _ _, h.o.other (Ne.symm n6) _ _, h.c.other n3 _ _, by rw [← ints_set']; exact h.z.set _ _, h.a.other (Ne.symm n7) _ _, h.b.setCell (p := ⟨gZ, k, none⟩) h.lo.2.2.1 _, h.ne, h.lo⟩
theorem Pv.setA (h : Pv W w gr go gC gZ gA n C Z A) (k : Nat) (v : Int) : Pv W (w.setCell ⟨gA, k, none⟩ (.int .i64 v)) gr go gC gZ gA n C Z (A.set k v) := by
  obtain ⟨n1, n2, n3, n4, n5, n6, n7, n8, n9⟩ := h.ne
  exact ⟨h.r.other (Ne.symm n8) _ _, h.o.other (Ne.symm n9) _ _, h.c.other n4 _ _, h.z.other n7 _ _, by rw [← ints_set']; exact h.a.set _ _, h.b.setCell (p := ⟨gA, k, none⟩) h.lo.2.2.2 _, h.ne, h.lo⟩
end
theorem Ring.ret {fn : Func} {t u : Tmp} (h : fn.results = #[.cell t 24, .tmp u]) (tmps : Array Value) {w : World} {g : Nat} {v0 v1 : Value} (ht : tmps.getD t undef = .pointer (some ⟨g, 0, none⟩)) (hD : Bx w g 24 [v0, v1]) :
    (results fn tmps).run Tryz.prog w = .ok (.tuple #[.agg #[v0, v1], tmps.getD u undef]) w := by
  have c0 := hD.cell 0 (v := v0) rfl
  have c1 := hD.cell 1 (v := v1) rfl
  have ht' : tmps[t]?.getD undef = .pointer (some ⟨g, 0, none⟩) := by simpa using ht
  simp [results, h, ht', go_sem, c0, c1]
end Go.Proofs.YtbjpmkoiabkcbaaGreatDoor
