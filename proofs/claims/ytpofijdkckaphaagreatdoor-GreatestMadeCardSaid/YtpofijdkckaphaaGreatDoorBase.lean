/- What all walks of this seat share: cells that a slice reads, slices of the call's own (also such as conversions of strings make), append onto them, strings of bytes. No program in sight. -/
import Derived.Test.YtpofijdkckaphaaGreatDoorChecked
import Derived.WalkKit
import Derived.Handy
import Derived.WalkSpells
import Derived.WalkLawsBesides
import Derived.Lib.ConvBytes
import Derived.Lib.Hide
import Derived.Lib.QuietBelow
import Derived.Deep.RegionWith
import Derived.Deep.QuietTactic
import Derived.BigQuiet
import Derived.StillTailTactics
import Derived.Deep.RegionHeld3
import Derived.Deep.DeepCutAuto
import Derived.Lib.AppendStr
namespace Go.Proofs.YtpofijdkckaphaaGreatDoor
open Go.RowKit

/-! ### Cells that are read -/
def Rd (w : World) (a : Option Addr) (xs : List Value) : Prop :=
  ∀ j u, xs[j]? = some u → ∃ g off, a = some ⟨g, off, none⟩ ∧ w.cell? ⟨g, off + j, none⟩ = some u

theorem Rd.nil (w : World) (a : Option Addr) : Rd w a [] := fun j u h => by simp at h
theorem Rd.at {w : World} {a : Option Addr} {xs : List Value} (h : Rd w a xs) (hn : 0 < xs.length) :
    ∃ g off, a = some ⟨g, off, none⟩ ∧ ∀ j u, xs[j]? = some u → w.cell? ⟨g, off + j, none⟩ = some u := by
  obtain ⟨g, off, ha, _⟩ := h 0 xs[0] (by simp [hn])
  refine ⟨g, off, ha, fun j u hj => ?_⟩
  obtain ⟨g', off', ha', hc⟩ := h j u hj
  rw [ha] at ha'
  simp only [Option.some.injEq, Addr.mk.injEq, and_true] at ha'
  obtain ⟨rfl, rfl⟩ := ha'
  exact hc
theorem Rd.mk {w : World} {g off : Nat} {xs : List Value} (h : ∀ j u, xs[j]? = some u → w.cell? ⟨g, off + j, none⟩ = some u) : Rd w (some ⟨g, off, none⟩) xs :=
  fun j u hj => ⟨g, off, rfl, h j u hj⟩
/-- What is read stays, where no old block turns. -/
theorem Rd.keep {w w' : World} {a : Option Addr} {xs : List Value} (h : Rd w a xs) (hb : Below w.heap.size w w') : Rd w' a xs := fun j u hj => by
  obtain ⟨g, off, ha, hc⟩ := h j u hj
  exact ⟨g, off, ha, (hb.cell (World.block_lt_of_cell? w _ hc)).trans hc⟩
theorem Rd.grown {w w' : World} {row : Option Nat} {a : Option Addr} {xs : List Value} (h : Rd w a xs) (hb : w.grownBy w' row) (hne : ∀ g off, a = some ⟨g, off, none⟩ → some g ≠ row) : Rd w' a xs := fun j u hj => by
  obtain ⟨g, off, ha, hc⟩ := h j u hj
  exact ⟨g, off, ha, hb.cell hc (hne g off ha)⟩

def ints (l : List Int) : List Value := l.map (Value.int .i64)
def strs (l : List (List UInt8)) : List Value := l.map fun s => Value.string ⟨s.toArray⟩
theorem ints_get {l : List Int} {j : Nat} (h : j < l.length) : (ints l)[j]? = some (.int .i64 (l.getD j 0)) := by simp [ints, h]
theorem strs_get {l : List (List UInt8)} {j : Nat} (h : j < l.length) : (strs l)[j]? = some (.string ⟨(l.getD j []).toArray⟩) := by simp [strs, h]
theorem ints_length (l : List Int) : (ints l).length = l.length := by simp [ints]
theorem strs_length (l : List (List UInt8)) : (strs l).length = l.length := by simp [strs]
theorem ints_snoc (l : List Int) (x : Int) : ints l ++ [.int .i64 x] = ints (l ++ [x]) := by simp [ints]
theorem strs_snoc (l : List (List UInt8)) (x : List UInt8) : strs l ++ [.string ⟨x.toArray⟩] = strs (l ++ [x]) := by simp [strs]

/-- an int64 (behind a name: the walk does not see the long numerals) -/
def I64 (n : Int) : Prop := -9223372036854775808 ≤ n ∧ n ≤ 9223372036854775807
theorem I64.nat {n : Nat} (h : n ≤ 281474976710656) : I64 n := ⟨by omega, by omega⟩
theorem Rd.int {w : World} {a : Option Addr} {l : List Int} (h : Rd w a (ints l)) {k : Nat} (hk : k < l.length) :
    ∃ g off x, a = some ⟨g, off, none⟩ ∧ w.cell? ⟨g, off + k, none⟩ = some (.int .i64 x) ∧ Hid (l[k]? = some x) := by
  obtain ⟨g, off, ha, hc⟩ := h k _ (ints_get hk)
  exact ⟨g, off, _, ha, hc, by show l[k]? = _; simp [List.getD, hk]⟩
theorem Rd.str {w : World} {a : Option Addr} {l : List (List UInt8)} (h : Rd w a (strs l)) {k : Nat} (hk : k < l.length) :
    ∃ g off x, a = some ⟨g, off, none⟩ ∧ w.cell? ⟨g, off + k, none⟩ = some (.string ⟨x.toArray⟩) ∧ Hid (l[k]? = some x) := by
  obtain ⟨g, off, ha, hc⟩ := h k _ (strs_get hk)
  exact ⟨g, off, _, ha, hc, by show l[k]? = _; simp [List.getD, hk]⟩
theorem same_at {α : Type} {l : List α} {k : Nat} {x y : α} (h : Hid (l[k]? = some x)) (h' : Hid (l[k]? = some y)) : y = x := Option.some.inj (h'.out.symm.trans h.out)
theorem take_at {α : Type} {l : List α} {k : Nat} {x : α} (h : Hid (l[k]? = some x)) : l.take (k + 1) = l.take k ++ [x] := by
  rw [List.take_add_one, h.out]; rfl
theorem drop_at {α : Type} {l : List α} {k : Nat} {x : α} (h : Hid (l[k]? = some x)) : l.drop k = x :: l.drop (k + 1) := by
  obtain ⟨hk, hx⟩ := List.getElem?_eq_some_iff.1 h.out
  rw [List.drop_eq_getElem_cons hk, hx]
theorem mem_at {α : Type} {l : List α} {k : Nat} {x : α} (h : Hid (l[k]? = some x)) : x ∈ l := List.mem_of_getElem? h.out

/-! ### Slices of the call's own -/
def Ow (w : World) (base size : Nat) (a : Option Addr) (n cap : Nat) (xs : List Value) : Prop :=
  xs.length = n * size ∧ n ≤ cap ∧ cap ≤ maxLen ∧ ((a = none ∧ cap = 0) ∨ ∃ g off, a = some ⟨g, off, none⟩ ∧ base ≤ g ∧ g < w.heap.size ∧
    (∀ j u, xs[j]? = some u → w.cell? ⟨g, off + j, none⟩ = some u) ∧
    (∀ j, j < cap * size → (w.cell? ⟨g, off + j, none⟩).isSome = true ∧ w.frozen? ⟨g, off + j, none⟩ = false))
/-- the block that it lies in -/
def rowOf (a : Option Addr) : Option Nat := a.map (·.block)

theorem Ow.nil (w : World) (base size : Nat) : Ow w base size none 0 0 [] := ⟨by simp, Nat.le_refl _, Nat.zero_le _, .inl ⟨rfl, rfl⟩⟩

theorem Ow.rd {w : World} {base size : Nat} {a : Option Addr} {n cap : Nat} {xs : List Value} (h : Ow w base size a n cap xs) : Rd w a xs := by
  obtain ⟨hl, hc, hm, ⟨rfl, rfl⟩ | ⟨g, off, rfl, _, _, hx, _⟩⟩ := h
  · have : xs = [] := List.eq_nil_of_length_eq_zero (by rw [hl]; simp [Nat.le_zero.1 hc])
    subst this
    exact Rd.nil _ _
  · exact Rd.mk hx

theorem Ow.row {w : World} {base size : Nat} {a : Option Addr} {n cap : Nat} {xs : List Value} (h : Ow w base size a n cap xs) : ∀ k, rowOf a = some k → base ≤ k ∧ k < w.heap.size := by
  intro k hk
  obtain ⟨_, _, _, ⟨rfl, _⟩ | ⟨g, off, rfl, hb, hg, _⟩⟩ := h
  · simp [rowOf] at hk
  · simp [rowOf] at hk
    subst hk
    exact ⟨hb, hg⟩

theorem Ow.kept {w w' : World} {base size : Nat} {a : Option Addr} {n cap : Nat} {xs : List Value} {row : Option Nat} (h : Ow w base size a n cap xs) (hg : w.grownBy w' row) (hne : rowOf a = none ∨ rowOf a ≠ row) : Ow w' base size a n cap xs := by
  obtain ⟨hl, hc, hm, ⟨rfl, rfl⟩ | ⟨g, off, rfl, hb, hgs, hx, hf⟩⟩ := h
  · exact ⟨hl, hc, hm, .inl ⟨rfl, rfl⟩⟩
  · have hk : w'.heap[g]? = w.heap[g]? := hg.block g hgs (by simpa [rowOf] using hne)
    refine ⟨hl, hc, hm, .inr ⟨g, off, rfl, hb, Nat.lt_of_lt_of_le hgs hg.size, fun j u hj => ?_, fun j hj => ?_⟩⟩
    · rw [World.cell?_of_block (w := w) hk]; exact hx j u hj
    · rw [World.cell?_of_block (w := w) hk, World.frozen?_of_block (w := w) hk]; exact hf j hj

theorem below_tr {a b c : World} (h : Below a.heap.size a b) (k : Below b.heap.size b c) : Below a.heap.size a c := h.trans (k.mono h.size)
theorem below_grownBy {w w' : World} (h : Below w.heap.size w w') (row : Option Nat) : w.grownBy w' row := ⟨h.os, h.tape, h.output, h.size, fun k hk _ => h.block k hk⟩
theorem Ow.keep {w w' : World} {base size : Nat} {a : Option Addr} {n cap : Nat} {xs : List Value} (h : Ow w base size a n cap xs) (hb : Below w.heap.size w w') : Ow w' base size a n cap xs :=
  h.kept (below_grownBy hb none) (by cases rowOf a <;> simp)

theorem Ow.lower {w : World} {base base' size : Nat} {a : Option Addr} {n cap : Nat} {xs : List Value} (h : Ow w base size a n cap xs) (hb : base' ≤ base) : Ow w base' size a n cap xs := by
  obtain ⟨hl, hc, hm, h1 | ⟨g, off, ha, hg, r⟩⟩ := h
  · exact ⟨hl, hc, hm, .inl h1⟩
  · exact ⟨hl, hc, hm, .inr ⟨g, off, ha, by omega, r⟩⟩
theorem Ow.stored {w : World} {base size : Nat} {g off n cap : Nat} {xs : List Value} (h : Ow w base size (some ⟨g, off, none⟩) n cap xs) (j : Nat) (u : Value) :
    Ow (w.setCell ⟨g, off + j, none⟩ u) base size (some ⟨g, off, none⟩) n cap (xs.set j u) ∧ w.grownBy (w.setCell ⟨g, off + j, none⟩ u) (some g) := by
  obtain ⟨hl, hc, hm, ⟨h1, _⟩ | ⟨g', off', ha, hb, hgs, hx, hf⟩⟩ := h
  · simp at h1
  · simp only [Option.some.injEq, Addr.mk.injEq, and_true] at ha
    obtain ⟨rfl, rfl⟩ := ha
    refine ⟨⟨by simpa using hl, hc, hm, .inr ⟨g, off, rfl, hb, by simpa using hgs, fun i v hi => ?_, fun i hi => ⟨?_, by rw [World.frozen?_setCell]; exact (hf i hi).2⟩⟩⟩, ⟨rfl, rfl, rfl, by simp, fun k _ hk => heap_setCell_other w ⟨g, off + j, none⟩ k u (fun e => hk (by simp [e]))⟩⟩
    · by_cases hij : i = j
      · subst hij
        have hil := (List.getElem?_eq_some_iff.1 hi).1
        rw [List.length_set] at hil
        rw [List.getElem?_set_self hil] at hi
        obtain rfl := Option.some.inj hi
        exact World.cell?_setCell_same _ _ _ (hx i xs[i] (List.getElem?_eq_getElem hil))
      · rw [List.getElem?_set_ne (fun e => hij e.symm)] at hi
        rw [World.cell?_setCell_other _ _ _ _ (by simp <;> omega)]
        exact hx i v hi
    · by_cases hij : i = j
      · subst hij
        obtain ⟨v, hv⟩ := Option.isSome_iff_exists.1 (hf i hi).1
        rw [World.cell?_setCell_same _ _ _ hv]; rfl
      · rw [World.cell?_setCell_other _ _ _ _ (by simp <;> omega)]
        exact (hf i hi).1
theorem Ow.of_row {w : World} {base size : Nat} {e : TypeId} {v : Value} {n : Nat} {xs : List Value} (h : w.ownsRow base e size v n xs) : ∃ a cap, v = .slice a n cap ∧ Ow w base size a n cap xs := by
  obtain ⟨hl, ⟨rfl, rfl⟩ | ⟨g, cap, cur, rfl, hb, hg, hc, hm, hs, ht⟩⟩ := h
  · exact ⟨none, 0, rfl, hl, Nat.le_refl _, Nat.zero_le _, .inl ⟨rfl, rfl⟩⟩
  · refine ⟨_, cap, rfl, hl, hc, hm, .inr ⟨g, 0, rfl, hb, (Array.getElem?_eq_some_iff.1 hg).1, fun j u hj => ?_, fun j hj => ?_⟩⟩
    · rw [cell_of_row w g _ cur e (0, 0) hg, Nat.zero_add]
      rw [← ht, List.getElem?_take] at hj
      split at hj
      · simpa using hj
      · cases hj
    · rw [cell_of_row w g _ cur e (0, 0) hg]
      exact ⟨by simp [hs, hj], frozen_of_row w g _ cur e hg⟩

structure ElemOf (P : Program) (t e : TypeId) (z : Value) (size bytes : Nat) : Prop where
  u : P.underlying t = some (.slice e)
  i : (P.info? e).map (fun i => (i.zero, i.size, i.bytes)) = some (some z, size, bytes)
  z : z.cells.size = size
  s : 0 < size
  b : 0 < bytes

theorem grownBy_setCells (w : World) (b o : Nat) (cs : List Value) : w.grownBy (w.setCells b o cs) (some b) := by
  induction cs generalizing w o with
  | nil => exact World.grownBy.refl _ _
  | cons c cs ih =>
    have h1 : w.grownBy (w.setCell ⟨b, o, none⟩ c) (some b) := ⟨rfl, rfl, rfl, by simp, fun k _ hk => heap_setCell_other w ⟨b, o, none⟩ k c (fun e => hk (by simp [e]))⟩
    have h2 := ih (w.setCell ⟨b, o, none⟩ c) (o + 1)
    show w.grownBy ((w.setCell ⟨b, o, none⟩ c).setCells b (o + 1) cs) (some b)
    exact ⟨h2.os.trans h1.os, h2.tape.trans h1.tape, h2.output.trans h1.output, Nat.le_trans h1.size h2.size, fun k hk hne => (h2.block k (by simpa using hk) hne).trans (h1.block k hk hne)⟩

/-! ### Bytes -/
def u8s (l : List UInt8) : List Value := l.map fun c => Value.int .u8 (c.toNat : Int)
theorem u8s_length (l : List UInt8) : (u8s l).length = l.length := by simp [u8s]
theorem u8s_append (a b : List UInt8) : u8s (a ++ b) = u8s a ++ u8s b := by simp [u8s]
theorem u8s_one (l : List UInt8) : ∀ u ∈ u8s l, u.oneCell' = true := by
  intro u hu; obtain ⟨_, _, rfl⟩ := List.mem_map.1 hu; rfl
theorem u8s_get (l : List UInt8) (j : Nat) (h : j < l.length) : (u8s l)[j]? = some (.int .u8 (l[j].toNat : Int)) := by simp [u8s, h]
theorem u8s_snoc (l : List UInt8) (x : Int) (c : UInt8) (h : x = (c.toNat : Int)) : u8s l ++ [.int .u8 x] = u8s (l ++ [c]) := by subst h; simp [u8s]

/-- What is appended: how long it is, and its cells, read in this world and behind a draw. -/
structure Src (P : Program) (w : World) (u : TypeId) (src : Value) (size m : Nat) (news : List Value) : Prop where
  ty : (∃ e, P.underlying u = some (.slice e)) ∨ P.underlying u = some .string
  len : ∀ W, (Builtin.lenOf src).run P W = .ok m W
  cells : (Builtin.firstCells size m src).run P w = .ok news.toArray w
  cells' : (Builtin.firstCells size m src).run P w.drew = .ok news.toArray w.drew
  l : news.length = m * size
  one : ∀ u ∈ news, u.oneCell' = true

theorem Src.slice {P : Program} {w : World} {u e : TypeId} (hu : P.underlying u = some (.slice e)) {ao : Option Addr} {m c size : Nat} {news : List Value} (hl : news.length = m * size) (h : Rd w ao news) (h1 : ∀ u ∈ news, u.oneCell' = true) :
    Src P w u (.slice ao m c) size m news := by
  have hf : ∀ W, Rd W ao news → (Builtin.firstCells size m (.slice ao m c)).run P W = .ok news.toArray W := fun W hW => by
    by_cases h0 : 0 < news.length
    · obtain ⟨g, off, rfl, hc⟩ := hW.at h0
      exact run_firstCells_some (P := P) W size m ⟨g, off, none⟩ m c news hl (fun j u hj => by rw [Addr.add_lit]; exact hc j u hj)
    · have : news = [] := List.eq_nil_of_length_eq_zero (by omega)
      subst this
      have h0 : m * size = 0 := by simpa using hl.symm
      cases ao <;> simp [Builtin.firstCells, h0, loadCells, loadCellsFrom]
  exact ⟨.inl ⟨e, hu⟩, fun W => rfl, hf w h, hf w.drew (fun j u hj => h j u hj), hl, h1⟩

theorem Src.str {P : Program} (w : World) {u : TypeId} (hu : P.underlying u = some .string) (l : List UInt8) : Src P w u (.string ⟨l.toArray⟩) 1 l.length (u8s l) := by
  have hf : ∀ W, (Builtin.firstCells 1 l.length (.string ⟨l.toArray⟩)).run P W = .ok (u8s l).toArray W := fun W => by
    have := Lib.run_firstCells_string (P := P) W 1 ⟨l.toArray⟩
    exact this
  exact ⟨.inr hu, fun W => rfl, hf w, hf w.drew, by simp [u8s_length], u8s_one l⟩

/-- 'append' onto a slice of the call's own, of whatever make: a run of it. -/
theorem run_app {P : Program} (w : World) (base : Nat) (t u ty e : TypeId) {z : Value} {size bytes : Nat} (hE : ElemOf P t e z size bytes)
    (a : Option Addr) (n cap : Nat) (xs : List Value) (hown : Ow w base size a n cap xs)
    (src : Value) (m : Nat) (news : List Value) (hS : Src P w u src size m news)
    (hbytes : (n + m) * bytes ≤ 140737488355328) (hbase : base ≤ w.heap.size) :
    ∃ a' cap' w', (Builtin.append_ #[t, u] ty #[.slice a n cap, src]).run P w = .ok (.slice a' (n + m) cap') w' ∧ Ow w' base size a' (n + m) cap' (xs ++ news) ∧ w.grownBy w' (rowOf a) := by
  obtain ⟨i, hi, hz, hsize, hby⟩ := info_parts hE.i
  have h63 : n + m ≤ maxLen := by
    have h := Nat.le_mul_of_pos_right (n + m) hE.b
    simp only [maxLen]; omega
  have hl := hS.l
  have hlen : (xs ++ news).length = (n + m) * size := by rw [List.length_append, hown.1, hl, Nat.add_mul]
  obtain ⟨hxl, hnc, hcm, hown⟩ := hown
  have hS1 := hS.len
  have hS2 := hS.cells
  have hS3 := hS.cells'
  by_cases hroom : n + m ≤ cap
  · rcases hown with ⟨rfl, rfl⟩ | ⟨g, off, rfl, hbg, hgs, hx, hf⟩
    · obtain rfl : n = 0 := by omega
      obtain rfl : m = 0 := by omega
      have hn : news = [] := List.eq_nil_of_length_eq_zero (by simpa using hl)
      have hx : xs = [] := List.eq_nil_of_length_eq_zero (by simpa using hxl)
      subst hn hx
      refine ⟨none, 0, w, ?_, Ow.nil _ _ _, World.grownBy.refl _ _⟩
      rcases hS.ty with ⟨eu, hdu⟩ | hdu <;> simp [Builtin.append_, run_underlying hE.u, run_underlying hdu, sizeOf, typeInfo, hi, hsize, hS1, hS2]
    · have hin : ∀ j, j < news.length → off + n * size + j < off + cap * size := fun j hj => by
        have h2 := Nat.mul_le_mul_right size hroom
        rw [Nat.add_mul] at h2
        omega
      have hcell : ∀ j, j < news.length → (w.cell? ⟨g, off + n * size + j, none⟩).isSome = true ∧ w.frozen? ⟨g, off + n * size + j, none⟩ = false := fun j hj => by
        have := hf (n * size + j) (by have := hin j hj; omega)
        rwa [← Nat.add_assoc] at this
      have hst := run_storeCells_cells (P := P) g (off + n * size) news 0 w (by simpa using fun j hj => (hcell j hj).1) (by simpa using fun j hj => (hcell j hj).2) hS.one
      simp only [Nat.add_zero] at hst
      refine ⟨some ⟨g, off, none⟩, cap, w.setCells g (off + n * size) news, ?_, ⟨hlen, hroom, hcm, .inr ⟨g, off, rfl, hbg, by simpa using Nat.lt_of_lt_of_le hgs (grownBy_setCells w g (off + n * size) news).size, ?_, ?_⟩⟩, grownBy_setCells w g _ news⟩
      · rcases hS.ty with ⟨eu, hdu⟩ | hdu <;> simp [Builtin.append_, run_underlying hE.u, run_underlying hdu, sizeOf, typeInfo, hi, hsize, hroom, hS1, hS2, Addr.add_lit, hst]
      · intro j u hj
        by_cases hjx : j < xs.length
        · rw [List.getElem?_append_left hjx] at hj
          rw [World.cell?_setCells_out g news _ _ _ (fun _ _ => Or.inl (by simp only; omega))]
          exact hx j u hj
        · rw [List.getElem?_append_right (by omega)] at hj
          have hjn := (List.getElem?_eq_some_iff.1 hj).1
          have := World.cell?_setCells_in g news (off + n * size) w (fun k hk => (hcell k hk).1) (j - xs.length) hjn
          rw [show off + n * size + (j - xs.length) = off + j by omega] at this
          rw [this, ← (List.getElem?_eq_some_iff.1 hj).2]
      · intro j hj
        refine ⟨?_, by rw [World.frozen?_setCells]; exact (hf j hj).2⟩
        by_cases hin2 : off + n * size ≤ off + j ∧ off + j < off + n * size + news.length
        · have := World.cell?_setCells_in g news (off + n * size) w (fun k hk => (hcell k hk).1) (off + j - (off + n * size)) (by omega)
          rw [show off + n * size + (off + j - (off + n * size)) = off + j by omega] at this
          rw [this]; rfl
        · rw [World.cell?_setCells_out g news _ _ _ (fun _ _ => by simp only; omega)]
          exact (hf j hj).1
  · have holds : (Builtin.firstCells size n (.slice a n cap)).run P w.drew = .ok xs.toArray w.drew := by
      rcases hown with ⟨rfl, rfl⟩ | ⟨g, off, rfl, hbg, hgs, hx, hf⟩
      · obtain rfl : n = 0 := by omega
        have hx : xs = [] := List.eq_nil_of_length_eq_zero (by simpa using hxl)
        subst hx
        simp [Builtin.firstCells]
      · exact run_firstCells_some (P := P) w.drew size n ⟨g, off, none⟩ n cap xs hxl (fun j u hj => by rw [Addr.add_lit]; exact hx j u hj)
    have hsmall : ¬ (9223372036854775807 < ((n : Int) + (m : Int))) := by simp only [maxLen] at h63; omega
    have h48' : ¬ (281474976710656 < Builtin.nextslicecap (n + m) cap * i.bytes) := by
      have := growslice_fits (bytes := bytes) (show cap < n + m by omega) hbytes
      rw [hby]; omega
    have hge := grownCap_ge w (n + m) cap e
    refine ⟨some ⟨w.heap.size, 0, none⟩, grownCap w (n + m) cap e, w.drew.alloc (.cells (xs.toArray ++ news.toArray ++ Builtin.zeroCells z.cells (grownCap w (n + m) cap e - (n + m))) e), ?_, ?_, ⟨rfl, rfl, rfl, by simp, fun k hk _ => Below.heap_alloc w.drew _ k hk⟩⟩
    · rcases hS.ty with ⟨eu, hdu⟩ | hdu <;> simp [Builtin.append_, run_underlying hE.u, run_underlying hdu, sizeOf, typeInfo, zeroValue, hi, hz, hroom, hsmall, h48', Question.forced, hS1, holds, newRow, grownCap, hsize, hS3]
      all_goals (congr 2; apply Array.ext'; simp [List.append_assoc])
    · have hsz : (xs.toArray ++ news.toArray ++ Builtin.zeroCells z.cells (grownCap w (n + m) cap e - (n + m))).size = grownCap w (n + m) cap e * size := by
        simp only [Array.size_append, List.size_toArray, size_zeroCells, hE.z, hxl, hl, ← Nat.add_mul]
        congr 1
        omega
      have hnew := heap_alloc_new w.drew (.cells (xs.toArray ++ news.toArray ++ Builtin.zeroCells z.cells (grownCap w (n + m) cap e - (n + m))) e)
      rw [World.size_drew] at hnew
      refine ⟨hlen, hge, grownCap_le_maxLen w (n + m) cap e h63, .inr ⟨w.heap.size, 0, rfl, hbase, by simp, fun j u hj => ?_, fun j hj => ?_⟩⟩
      · rw [Nat.zero_add, cell_of_row _ _ j _ e (0, 0) hnew]
        have hjl := (List.getElem?_eq_some_iff.1 hj).1
        rw [Array.getElem?_append_left (by simpa using hjl)]
        simpa using hj
      · rw [Nat.zero_add, cell_of_row _ _ j _ e (0, 0) hnew]
        exact ⟨by rw [Array.getElem?_eq_getElem (by rw [hsz]; exact hj)]; rfl, frozen_of_row _ _ _ _ e hnew⟩

section
variable {P : Program} {w w0 : World} {B : Nat} {ops : Array Oper} {rest : List Oper} {o : Oper} {a : Act} {Q : Exit → Act → World → Prop}

/-- 'append(s, x...)' at the walk: s the call's own, x whatever is read. -/
theorem wpList_apps (hgd : o.guard = none) (s x : Operand) (t u : TypeId)
    (ho : o.op = .call { callee := .builtin .append, args := #[s, x], argTypes := #[t, u] }) {e : TypeId} {z : Value} {size bytes : Nat} (hE : ElemOf P t e z size bytes)
    {base : Nat} {sa : Option Addr} {n cap : Nat} {xs : List Value} (hs : a.eval s = .slice sa n cap) (hown : Ow w base size sa n cap xs) (hb : Below B w0 w) (hB : B ≤ base) (hbase : base ≤ w.heap.size)
    {src : Value} {m : Nat} {news : List Value} (hx : a.eval x = src) (hS : Src P w u src size m news) (hbytes : (n + m) * bytes ≤ 140737488355328)
    (hK : ∀ a' cap' w1, Ow w1 base size a' (n + m) cap' (xs ++ news) → Below B w0 w1 → w.grownBy w1 (rowOf sa) → wpList P ops Q rest (a.put o.dst (.slice a' (n + m) cap')) w1) : wpList P ops Q (o :: rest) a w := by
  refine wpList_plain hgd fun K hK' => ?_
  obtain ⟨a', cap', w', hr, h2, h3⟩ := run_app (P := P) w base t u o.type e hE sa n cap xs hown src m news hS hbytes hbase
  unfold Oper.wp execOp
  simp only [ho, resolve, invoke, builtin, Sem.run_bind, Sem.run_pure, Result.andThen_ok, List.map_toArray, List.map_cons, List.map_nil, hs, hx, hr]
  exact hK' _ _ (hK a' cap' w' h2 (hb.grown h3 (by omega) (fun k hk => by have := (hown.row k hk).1; omega)) h3)

/-- 'append(s, x)' of one element: x lies in a new block. -/
theorem wpList_app1 (hgd : o.guard = none) (s x : Operand) (t : TypeId)
    (ho : o.op = .call { callee := .builtin .append, args := #[s, x], argTypes := #[t, t] }) {e : TypeId} {z : Value} {size bytes : Nat} (hE : ElemOf P t e z size bytes)
    {base : Nat} {sa : Option Addr} {n cap : Nat} {xs : List Value} (hs : a.eval s = .slice sa n cap) (hown : Ow w base size sa n cap xs) (hb : Below B w0 w) (hB : B ≤ base) (hbase : base ≤ w.heap.size)
    {cs : List Value} {e' : TypeId} (hx : a.eval x = .slice (some ⟨w.heap.size, 0, none⟩) 1 1) (hcs : cs.length = size) (h1 : ∀ u ∈ cs, u.oneCell' = true) (hbytes : (n + 1) * bytes ≤ 140737488355328)
    (hK : ∀ a' cap' w1, Ow w1 base size a' (n + 1) cap' (xs ++ cs) → Below B w0 w1 → w.grownBy w1 (rowOf sa) → wpList P ops Q rest (a.put o.dst (.slice a' (n + 1) cap')) w1) : wpList P ops Q (o :: rest) a (w.alloc (.cells cs.toArray e')) := by
  have hg := World.grownBy_alloc w (.cells cs.toArray e') none
  refine wpList_apps (P := P) (w0 := w0) (B := B) hgd s x t t ho hE hs (hown.kept hg (by cases rowOf sa <;> simp)) (hb.alloc (by omega) _) hB (by simp; omega) hx
    (Src.slice hE.u (by omega) (Rd.mk fun j u hj => ?_) h1) hbytes (fun a' cap' w1 a1 a2 a3 => hK a' cap' w1 a1 a2 ⟨a3.os, a3.tape, a3.output, by have := a3.size; simp at this; omega, fun k hk hne => (a3.block k (by simp; omega) hne).trans (Below.heap_alloc w _ k hk)⟩)
  rw [Nat.zero_add, World.cell?_alloc_at _ _ _ _ rfl]
  simpa using hj
end
theorem one1 {x : Value} (h : x.oneCell' = true) : ∀ u ∈ [x], u.oneCell' = true := by
  intro u hu; simp at hu; subst hu; exact h

/-! ### Bytes -/
/-- 'string(bytes)' -/
theorem run_bytes_str {P : Program} (w : World) (src dst e : TypeId) (hs : P.underlying src = some (.slice e)) (he : P.underlying e = some (.int .u8)) (hd : P.underlying dst = some .string)
    {ao : Option Addr} {n c : Nat} {l : List UInt8} (hl : l.length = n) (h : Rd w ao (u8s l)) :
    (convert src dst (.slice ao n c)).run P w = .ok (.string ⟨l.toArray⟩) w := by
  by_cases h0 : n = 0
  · subst h0
    have : l = [] := List.eq_nil_of_length_eq_zero hl
    subst this
    rw [run_convert_bytes_string w src dst e _ _ _ hs he hd]
    cases ao <;> simp [Conv.bytesToString, loadCells, loadCellsFrom] <;> rfl
  · obtain ⟨g, off, rfl, hc⟩ := h.at (by rw [u8s_length]; omega)
    rw [run_convert_bytes_arg w src e hs he g off n c (l.map fun c => (c.toNat : Int)) (by simpa using hl) (fun i hi => ?_) dst hd]
    · simp only [strOfNums, List.map_map]
      congr 3
      rw [show ((fun n : Int => UInt8.ofNat n.toNat) ∘ fun c : UInt8 => (c.toNat : Int)) = id from funext fun c => by simp]
      simp
    · have := hc i _ (u8s_get l i (by omega))
      rw [this]
      simp [List.getD, show i < l.length by omega]

/-- '[]byte(s)': a slice of the call's own. -/
theorem Ow.bytes (w : World) (e : TypeId) (s : ByteArray) (hs : s.size ≤ maxLen) :
    Ow (Lib.bytesWorld w e s) w.heap.size 1 (some ⟨w.heap.size, 0, none⟩) s.size (grownCap w s.size 0 e) (u8s s.data.toList) := by
  have hcap := grownCap_ge w s.size 0 e
  have hsz : (Lib.bytesCells w e s).size = grownCap w s.size 0 e := by simp [Lib.bytesCells]; omega
  refine ⟨by simp [u8s_length], hcap, grownCap_le_maxLen w s.size 0 e hs, .inr ⟨w.heap.size, 0, rfl, Nat.le_refl _, by rw [Lib.bytesWorld_size]; omega, fun j u hj => ?_, fun j hj => ⟨?_, ?_⟩⟩⟩
  · have hjl : j < s.data.toList.length := by
      have := (List.getElem?_eq_some_iff.1 hj).1
      rwa [u8s_length] at this
    rw [Nat.zero_add, Lib.bytesWorld_cell w e s j (by simpa using hjl)]
    rw [u8s_get _ _ hjl] at hj
    rw [← hj]
    simp [List.getD]
    simp at hjl
    simp [hjl]
  · simp [World.cell?, Lib.bytesWorld_at_new, hsz]; omega
  · simp [World.frozen?, Lib.bytesWorld_at_new, hsz]; omega
theorem below_bytes (w : World) (e : TypeId) (s : ByteArray) : Below w.heap.size w (Lib.bytesWorld w e s) :=
  ⟨rfl, rfl, rfl, by rw [Lib.bytesWorld_size]; omega, fun k hk => Lib.bytesWorld_at_old w e s k hk⟩

/-- byte n of a string, as a number; 0 behind its end -/
def bt (l : List UInt8) (n : Nat) : Nat := (l[n]?.getD 0).toNat
@[go_sem] theorem str_at (l : List UInt8) (n : Nat) (h : n < (ByteArray.mk l.toArray).size) : (((ByteArray.mk l.toArray)[n]'h).toNat : Int) = ((bt l n : Nat) : Int) := by
  have h' : n < l.length := h
  have e : (ByteArray.mk l.toArray)[n]'h = l[n] := rfl
  rw [e, bt, List.getElem?_eq_getElem h']; rfl
theorem bt_lt (l : List UInt8) (n : Nat) : bt l n < 256 := UInt8.toNat_lt _
theorem drop_bt {l : List UInt8} {n : Nat} (h : n < l.length) : l.drop n = UInt8.ofNat (bt l n) :: l.drop (n + 1) := by
  rw [List.drop_eq_getElem_cons h, bt, List.getElem?_eq_getElem h]; simp
@[go_sem] theorem str_sub (l : List UInt8) (a b : Nat) : (ByteArray.mk l.toArray).extract a b = ByteArray.mk ((l.drop a).take (b - a)).toArray := ByteArray.extract_mk l a b
theorem str_all (s : ByteArray) : ∃ l : List UInt8, s = ⟨l.toArray⟩ := ⟨s.data.toList, by simp⟩

/-! ### A region that draws its order, whose calls make new memory alone -/
theorem Calls.calm {P : Program} {f : FuncId} {args : Array Value} {w : World} {v : Value} (h : Calls P f args w fun e w' => e = .returned v ∧ w = w') : Calls P f args w fun e w' => e = .returned v ∧ Below w.heap.size w w' :=
  h.mono fun _ _ ⟨he, hw⟩ => ⟨he, hw ▸ Below.refl _ _⟩

theorem u8s_set (l : List UInt8) (j : Nat) (x : Int) (c : UInt8) (h : x = (c.toNat : Int)) : (u8s l).set j (.int .u8 x) = u8s (l.set j c) := by subst h; simp [u8s]
/-- a number of 8 bits is a byte -/
theorem byte_of {x : Int} (h0 : 0 ≤ x) (h1 : x < 256) : ∃ c : UInt8, x = (c.toNat : Int) := ⟨UInt8.ofNat x.toNat, by simp; omega⟩
theorem wrap_u8_bd (x : Int) : 0 ≤ IntKind.u8.wrap x ∧ IntKind.u8.wrap x < 256 := by rw [IntKind.wrap_u8]; omega

/-! ### A new block of strings or numbers, by its cells -/
theorem new_strs {w : World} {t : TypeId} (Q : World → Prop) (xs : List (List UInt8)) (h : ∀ w', Below w.heap.size w w' → Rd w' (some ⟨w.heap.size, 0, none⟩) (strs xs) → Q w') : Q (w.alloc (.cells (strs xs).toArray t)) :=
  h _ ((Below.refl _ _).alloc (Nat.le_refl _) _) (Rd.mk fun j u hj => by rw [Nat.zero_add, World.cell?_alloc_at _ _ _ _ rfl]; simpa using hj)
theorem new_ints {w : World} {t : TypeId} (Q : World → Prop) (xs : List Int) (h : ∀ w', Below w.heap.size w w' → Rd w' (some ⟨w.heap.size, 0, none⟩) (ints xs) → Q w') : Q (w.alloc (.cells (ints xs).toArray t)) :=
  h _ ((Below.refl _ _).alloc (Nat.le_refl _) _) (Rd.mk fun j u hj => by rw [Nat.zero_add, World.cell?_alloc_at _ _ _ _ rfl]; simpa using hj)

/-! ### Ends -/
theorem ret_str {a b : List UInt8} (h : a = b) : Ending.returned (.string ⟨a.toArray⟩) = .returned (.string ⟨b.toArray⟩) := by rw [h]
theorem ret_int {k : IntKind} {a b : Int} (h : a = b) : Ending.returned (.int k a) = .returned (.int k b) := by rw [h]
theorem ret_bool {a b : Bool} (h : a = b) : Ending.returned (.bool a) = .returned (.bool b) := by rw [h]
end Go.Proofs.YtpofijdkckaphaaGreatDoor
