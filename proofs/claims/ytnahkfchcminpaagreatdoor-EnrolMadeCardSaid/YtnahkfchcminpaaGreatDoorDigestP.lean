/- SHA-256 in the walk's own spelling: one list of words for the program and the reference. No program in sight. -/
import Derived.Test.YtnahkfchcminpaaGreatDoorBase
import Derived.Lib.SmallJoins
namespace Go.Proofs.YtnahkfchcminpaaGreatDoor
open Go.RowKit

def u32s (l : List Int) : List Value := l.map (Value.int .u32)
theorem u32s_length (l : List Int) : (u32s l).length = l.length := by simp [u32s]
theorem u32s_get {l : List Int} {j : Nat} {x : Int} (h : l[j]? = some x) : (u32s l)[j]? = some (.int .u32 x) := by simp [u32s, h]
theorem u32s_set (l : List Int) (j : Nat) (x : Int) : (u32s l).set j (.int .u32 x) = u32s (l.set j x) := by simp [u32s]

/-- block g holds the words L -/
def Wd (w : World) (g : Nat) (t : TypeId) (L : List Int) : Prop := w.heap[g]? = some (.cells (u32s L).toArray t (0, 0))
theorem Wd.lt {w : World} {g : Nat} {t : TypeId} {L : List Int} (h : Wd w g t L) : g < w.heap.size := (Array.getElem?_eq_some_iff.1 h).1
theorem Wd.at {w : World} {g : Nat} {t : TypeId} {L : List Int} (h : Wd w g t L) {j : Nat} (hj : j < L.length) : ∃ x, w.cell? ⟨g, j, none⟩ = some (.int .u32 x) ∧ Hid (L[j]? = some x) := by
  refine ⟨L[j], ?_, List.getElem?_eq_getElem hj⟩
  rw [Lib.cell_of_heap h]
  simp [u32s, hj]
theorem Wd.cell0 {w : World} {g : Nat} {t : TypeId} {L : List Int} (h : Wd w g t L) {j : Nat} {x : Int} (hj : L[j]? = some x) : w.cell? ⟨g, j, none⟩ = some (.int .u32 x) := by
  rw [Lib.cell_of_heap h]
  simp [u32s, hj]
theorem Wd.free {w : World} {g : Nat} {t : TypeId} {L : List Int} (h : Wd w g t L) (j : Nat) : w.frozen? ⟨g, j, none⟩ = false := Lib.frozen_of_heap h j
theorem Wd.keep {w w' : World} {g : Nat} {t : TypeId} {L : List Int} (h : Wd w g t L) (hb : Below w.heap.size w w') : Wd w' g t L := (hb.block g h.lt).trans h
theorem Wd.other {w : World} {g : Nat} {t : TypeId} {L : List Int} (h : Wd w g t L) {p : Addr} (v : Value) (hp : p.block ≠ g) : Wd (w.setCell p v) g t L := (heap_setCell_other w p g v (fun e => hp e.symm)).trans h
theorem Wd.set {w : World} {g : Nat} {t : TypeId} {L : List Int} (h : Wd w g t L) (j : Nat) (x : Int) : Wd (w.setCell ⟨g, j, none⟩ (.int .u32 x)) g t (L.set j x) := by
  rw [Wd, Joins.block_setCell h]
  simp [u32s, ← List.map_set]
theorem Wd.new {w : World} {t : TypeId} (Q : World → Prop) (L : List Int) (h : ∀ w', Below w.heap.size w w' → Wd w' w.heap.size t L → Q w') : Q (w.alloc (.cells (u32s L).toArray t)) :=
  h _ ((Below.refl _ _).alloc (Nat.le_refl _) _) (heap_alloc_new w _)

theorem Wd.new4 {w : World} {t1 t2 t3 t4 : TypeId} (Q : World → Prop) (A B C D : List Int)
    (h : ∀ w', Below w.heap.size w w' → Wd w' w.heap.size t1 A → Wd w' (w.heap.size + 1) t2 B → Wd w' (w.heap.size + 1 + 1) t3 C → Wd w' (w.heap.size + 1 + 1 + 1) t4 D → Q w') :
    Q ((((w.alloc (.cells (u32s A).toArray t1)).alloc (.cells (u32s B).toArray t2)).alloc (.cells (u32s C).toArray t3)).alloc (.cells (u32s D).toArray t4)) := by
  refine Wd.new _ D fun w4 h4 d4 => ?_
  have a1 : Wd (w.alloc (.cells (u32s A).toArray t1)) w.heap.size t1 A := heap_alloc_new w _
  have b1 := (Below.refl w.heap.size w).alloc (Nat.le_refl _) (.cells (u32s A).toArray t1)
  have a2 : Wd ((w.alloc (.cells (u32s A).toArray t1)).alloc (.cells (u32s B).toArray t2)) (w.heap.size + 1) t2 B := by
    have := heap_alloc_new (w.alloc (.cells (u32s A).toArray t1)) (.cells (u32s B).toArray t2)
    simpa [Wd] using this
  have b2 := b1.alloc (by simp) (.cells (u32s B).toArray t2)
  have c2 := a1.keep ((Below.refl _ _).alloc (Nat.le_refl _) (.cells (u32s B).toArray t2))
  have a3 : Wd (((w.alloc (.cells (u32s A).toArray t1)).alloc (.cells (u32s B).toArray t2)).alloc (.cells (u32s C).toArray t3)) (w.heap.size + 1 + 1) t3 C := by
    have := heap_alloc_new ((w.alloc (.cells (u32s A).toArray t1)).alloc (.cells (u32s B).toArray t2)) (.cells (u32s C).toArray t3)
    simpa [Wd] using this
  have b3 := b2.alloc (by simp; omega) (.cells (u32s C).toArray t3)
  have c3 := c2.keep ((Below.refl _ _).alloc (Nat.le_refl _) (.cells (u32s C).toArray t3))
  have d3 := a2.keep ((Below.refl _ _).alloc (Nat.le_refl _) (.cells (u32s C).toArray t3))
  exact h w4 (below_tr b3 h4) (c3.keep h4) (d3.keep h4) (a3.keep h4) (by simpa using d4)
theorem Wd.drewN {w : World} {g : Nat} {t : TypeId} {L : List Int} (h : Wd w g t L) (n : Nat) : Wd (w.drewN n) g t L := h
theorem below_drewN {B : Nat} {a w : World} (h : Below B a w) (n : Nat) : Below B a (w.drewN n) := ⟨h.os, h.tape, h.output, h.size, h.block⟩
/-- eight words stored -/
def put8 (w : World) (g : Nat) (a b c d e f i j : Int) : World :=
  (((((((w.setCell ⟨g, 0, none⟩ (.int .u32 a)).setCell ⟨g, 1, none⟩ (.int .u32 b)).setCell ⟨g, 2, none⟩ (.int .u32 c)).setCell ⟨g, 3, none⟩ (.int .u32 d)).setCell ⟨g, 4, none⟩ (.int .u32 e)).setCell ⟨g, 5, none⟩ (.int .u32 f)).setCell ⟨g, 6, none⟩ (.int .u32 i)).setCell ⟨g, 7, none⟩ (.int .u32 j)
theorem put8_own {w : World} {g : Nat} {t : TypeId} {a b c d e f i j a' b' c' d' e' f' i' j' : Int} (h : Wd w g t [a', b', c', d', e', f', i', j']) : Wd (put8 w g a b c d e f i j) g t [a, b, c, d, e, f, i, j] :=
  (((((((h.set 0 a).set 1 b).set 2 c).set 3 d).set 4 e).set 5 f).set 6 i).set 7 j
theorem put8_other {w : World} {g : Nat} {t : TypeId} {a b c d e f i j : Int} {k : Nat} {L : List Int} (h : Wd w k t L) (hk : g ≠ k) : Wd (put8 w g a b c d e f i j) k t L :=
  (((((((h.other _ hk).other _ hk).other _ hk).other _ hk).other _ hk).other _ hk).other _ hk).other _ hk
theorem put8_below {w0 w : World} {B g : Nat} {a b c d e f i j : Int} (h : Below B w0 w) (hg : B ≤ g) : Below B w0 (put8 w g a b c d e f i j) :=
  (((((((h.setCell (p := ⟨g, 0, none⟩) hg _).setCell (p := ⟨g, 1, none⟩) hg _).setCell (p := ⟨g, 2, none⟩) hg _).setCell (p := ⟨g, 3, none⟩) hg _).setCell (p := ⟨g, 4, none⟩) hg _).setCell (p := ⟨g, 5, none⟩) hg _).setCell (p := ⟨g, 6, none⟩) hg _).setCell (p := ⟨g, 7, none⟩) hg _
/-- the word at byte 4 n of a block -/
def wordAt (b : List UInt8) (n : Nat) : Int := bits .or .u32 (bits .or .u32 (bits .or .u32 ((bt b (4 * n) : Int) % 4294967296 * 16777216 % 4294967296) ((bt b (4 * n + 1) : Int) % 4294967296 * 65536 % 4294967296)) ((bt b (4 * n + 2) : Int) % 4294967296 * 256 % 4294967296)) ((bt b (4 * n + 3) : Int) % 4294967296)
theorem bt_sub (b : List UInt8) (n m k : Nat) (h : k < m) : bt ((b.drop n).take m) k = bt b (n + k) := by
  simp [bt, h, List.getElem?_drop]
theorem wordAt_sub (b : List UInt8) (n m : Nat) (h : 4 ≤ m) : wordAt ((b.drop (4 * n)).take m) 0 = wordAt b n := by
  simp only [wordAt, Nat.mul_zero, Nat.zero_add]
  rw [bt_sub _ _ _ _ (by omega), bt_sub _ _ _ _ (by omega), bt_sub _ _ _ _ (by omega), bt_sub _ _ _ _ (by omega)]
  rfl
/-- the first n words of a block, then zeros -/
def load (b : List UInt8) : Nat → List Int
  | 0 => List.replicate 64 0
  | n + 1 => (load b n).set n (wordAt b n)
theorem load_length (b : List UInt8) (n : Nat) : (load b n).length = 64 := by induction n with | zero => rfl | succ n ih => simp [load, ih]
/-- x rotated to the right: d and m are 2^n and 2^(32-n) -/
def rotr (x d m : Int) : Int := bits .or .u32 (x / d) (x * m % 4294967296)
/-- x rotated to the right by n -/
def rot (x n : Int) : Int := rotr x (2 ^ n.toNat) (2 ^ (32 - n.toNat))
/-- the next word, of those 16, 15, 7 and 2 before it -/
def nextWord (a b c d : Int) : Int := (bits .xor .u32 (bits .xor .u32 (rot d 17) (rot d 19)) (d / 1024) + c + bits .xor .u32 (bits .xor .u32 (rot b 7) (rot b 18)) (b / 8) + a) % 4294967296
/-- n words more -/
def fill (L : List Int) : Nat → List Int
  | 0 => L
  | n + 1 => let v := fill L n; v.set (n + 16) (nextWord (v.getD n 0) (v.getD (n + 1) 0) (v.getD (n + 9) 0) (v.getD (n + 14) 0))
theorem fill_length (L : List Int) (n : Nat) : (fill L n).length = L.length := by induction n with | zero => rfl | succ n ih => simp [fill, ih]
theorem getD_hid {L : List Int} {j : Nat} {x : Int} (h : Hid (L[j]? = some x)) : L.getD j 0 = x := by rw [List.getD, h.out]; rfl
theorem load_step {b : List UInt8} {n : Nat} {L : List Int} (h : Hid (L = load b n)) : L.set n (wordAt b n) = load b (n + 1) := by rw [h.out]; rfl
theorem fill_step {L M : List Int} {m : Nat} {a b c d : Int} (h : Hid (M = fill L m)) (h0 : Hid (M[m]? = some a)) (h1 : Hid (M[m + 1]? = some b)) (h2 : Hid (M[m + 9]? = some c)) (h3 : Hid (M[m + 14]? = some d)) :
    M.set (m + 16) (nextWord a b c d) = fill L (m + 1) := by
  simp only [fill]
  rw [← h.out, getD_hid h0, getD_hid h1, getD_hid h2, getD_hid h3]
/-- a round -/
def round1 (q m : Int) (v : List Int) : List Int :=
  match v with
  | [a, b, c, d, e, f, g, h] =>
    let t1 := h + bits .xor .u32 (bits .xor .u32 (rot e 6) (rot e 11)) (rot e 25) + bits .xor .u32 (bits .and .u32 e f) (bits .and .u32 (bits .xor .u32 IntKind.u32.max e) g) + q + m
    let t2 := bits .xor .u32 (bits .xor .u32 (rot a 2) (rot a 13)) (rot a 22) + bits .xor .u32 (bits .xor .u32 (bits .and .u32 a b) (bits .and .u32 a c)) (bits .and .u32 b c)
    [(t1 + t2) % 4294967296, a, b, c, (d + t1) % 4294967296, e, f, g]
  | _ => v
theorem round1_length (q m : Int) (v : List Int) : (round1 q m v).length = v.length := by
  unfold round1; split <;> rfl
def rounds (K M V : List Int) : Nat → List Int
  | 0 => V
  | n + 1 => round1 (K.getD n 0) (M.getD n 0) (rounds K M V n)
theorem rounds_length (K M V : List Int) (n : Nat) : (rounds K M V n).length = V.length := by induction n with | zero => rfl | succ n ih => simp [rounds, round1_length, ih]
theorem rounds_step {K M V W : List Int} {n : Nat} {q m : Int} (h : Hid (W = rounds K M V n)) (hq : Hid (K[n]? = some q)) (hm : Hid (M[n]? = some m)) : round1 q m W = rounds K M V (n + 1) := by
  simp only [rounds]
  rw [← h.out, getD_hid hq, getD_hid hm]
/-- n words of V added to H's -/
def addn (H V : List Int) : Nat → List Int
  | 0 => H
  | n + 1 => (addn H V n).set n (((addn H V n).getD n 0 + V.getD n 0) % 4294967296)
theorem addn_length (H V : List Int) (n : Nat) : (addn H V n).length = H.length := by induction n with | zero => rfl | succ n ih => simp [addn, ih]
theorem addn_step {H V A : List Int} {n : Nat} {a v : Int} (h : Hid (A = addn H V n)) (ha : Hid (A[n]? = some a)) (hv : V[n]? = some v) : A.set n ((a + v) % 4294967296) = addn H V (n + 1) := by
  simp only [addn]
  rw [← h.out, getD_hid ha, getD_hid (Lib.hid hv)]
theorem grown_set {w wq : World} {g : Nat} (h : w.grownBy wq (some g)) (i : Nat) (v : Value) : w.grownBy (wq.setCell ⟨g, i, none⟩ v).drew (some g) :=
  ⟨h.os, h.tape, h.output, by simpa using h.size, fun k hk hne => (heap_setCell_other wq ⟨g, i, none⟩ k v (fun e => hne (by simp [e]))).trans (h.block k hk hne)⟩
/-- a block added to a state -/
def blockSum (K H : List Int) (b : List UInt8) : List Int := addn H (rounds K (fill (load b 16) 48) H 64) 8
theorem eight {L : List Int} (h : L.length = 8) : ∃ a b c d e f g i, L = [a, b, c, d, e, f, g, i] := by
  match L, h with
  | [a, b, c, d, e, f, g, i], _ => exact ⟨a, b, c, d, e, f, g, i, rfl⟩
theorem addn_comm {H V : List Int} (h : H.length = 8) (v : V.length = 8) : addn V H 8 = addn H V 8 := by
  obtain ⟨a, b, c, d, e, f, g, i, rfl⟩ := eight h
  obtain ⟨a', b', c', d', e', f', g', i', rfl⟩ := eight v
  simp [addn, Int.add_comm]
end Go.Proofs.YtnahkfchcminpaaGreatDoor
