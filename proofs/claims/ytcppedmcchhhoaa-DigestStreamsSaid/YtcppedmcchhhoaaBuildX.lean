/- strings.Builder, where the builder's block lies below blocks that are to stay: what a write turns is the builder's own block and rows from a base on. -/
import Derived.Test.YtcppedmcchhhoaaBuild
namespace Go.Proofs.Ytcppedmcchhhoaa
open Go.RowKit
/-- nothing below R turns but block b -/
structure Apart (R b : Nat) (w w' : World) : Prop where
  os : w'.os = w.os
  tape : w'.tape = w.tape
  output : w'.output = w.output
  size : w.heap.size ≤ w'.heap.size
  block : ∀ k, k < R → k ≠ b → w'.heap[k]? = w.heap[k]?
theorem Apart.refl (R b : Nat) (w : World) : Apart R b w w := ⟨rfl, rfl, rfl, Nat.le_refl _, fun _ _ _ => rfl⟩
theorem Apart.trans {R b : Nat} {w1 w2 w3 : World} (h : Apart R b w1 w2) (k : Apart R b w2 w3) : Apart R b w1 w3 :=
  ⟨k.os.trans h.os, k.tape.trans h.tape, k.output.trans h.output, Nat.le_trans h.size k.size, fun j hj hb => (k.block j hj hb).trans (h.block j hj hb)⟩
theorem Apart.alloc {R b : Nat} {w w' : World} (h : Apart R b w w') (hR : R ≤ w'.heap.size) (o : Obj) : Apart R b w (w'.alloc o) :=
  ⟨h.os, h.tape, h.output, by have := h.size; simp; omega, fun k hk hb => (Below.heap_alloc w' o k (by omega)).trans (h.block k hk hb)⟩
theorem Apart.grown {R b : Nat} {w w' w'' : World} {row : Option Nat} (h : Apart R b w w') (hg : w'.grownBy w'' row) (hR : R ≤ w'.heap.size) (hrow : ∀ k, row = some k → R ≤ k) : Apart R b w w'' :=
  ⟨hg.os.trans h.os, hg.tape.trans h.tape, hg.output.trans h.output, Nat.le_trans h.size hg.size, fun k hk hb => (hg.block k (by omega) (fun e => by have := hrow k e.symm; omega)).trans (h.block k hk hb)⟩
theorem Apart.setCell {R b : Nat} {w w' : World} (h : Apart R b w w') (i : Nat) (v : Value) : Apart R b w (w'.setCell ⟨b, i, none⟩ v) :=
  ⟨h.os, h.tape, h.output, by have := h.size; simpa using this, fun k hk hb => (heap_setCell_other w' ⟨b, i, none⟩ k v hb).trans (h.block k hk hb)⟩
theorem Apart.setCell1 {R b : Nat} {w w' : World} (h : Apart R b w w') (v : Value) : Apart R b w (w'.setCell ⟨b, 1, none⟩ v) := h.setCell 1 v
theorem Apart.below {R b B : Nat} {w w' w0 : World} (h : Apart R b w w') (h0 : Below B w0 w) (hR : B ≤ R) (hb : B ≤ b) : Below B w0 w' :=
  ⟨h.os.trans h0.os, h.tape.trans h0.tape, h.output.trans h0.output, Nat.le_trans h0.size h.size, fun k hk => (h.block k (by omega) (by omega)).trans (h0.block k hk)⟩
def BdAt (w : World) (R b : Nat) (p : Value) (bs : List Value) : Prop := ∃ v, w.heap[b]? = some (.cells #[p, v] 82 (0, 0)) ∧ w.ownsRow R 5 1 v bs.length bs ∧ v.ownBlock ≠ some b
/-- a builder at block b that holds the bytes l; its row lies from R on -/
def Bd (w : World) (R b : Nat) (l : List UInt8) : Prop := BdAt w R b (.pointer none) (Lib.byteCells l) ∨ BdAt w R b (.pointer (some ⟨b, 0, none⟩)) (Lib.byteCells l)
theorem BdAt.cell0 {w : World} {R b : Nat} {p : Value} {bs : List Value} (h : BdAt w R b p bs) : w.cell? ⟨b, 0, none⟩ = some p := by
  obtain ⟨v, hb, _⟩ := h
  rw [Lib.cell_of_heap hb]; rfl
theorem BdAt.shape {w : World} {R b : Nat} {p : Value} {bs : List Value} (h : BdAt w R b p bs) : w.shape? b = some (82, 2) := by
  obtain ⟨v, hb, _⟩ := h
  simp [World.shape?, hb]
theorem BdAt.frozen0 {w : World} {R b : Nat} {p : Value} {bs : List Value} (h : BdAt w R b p bs) : w.frozen? ⟨b, 0, none⟩ = false := by
  obtain ⟨v, hb, _⟩ := h
  exact Lib.frozen_of_heap hb 0
theorem BdAt.used {w : World} {R b : Nat} {p : Value} {bs : List Value} (h : BdAt w R b p bs) (q : Value) : BdAt (w.setCell ⟨b, 0, none⟩ q) R b q bs := by
  obtain ⟨v, hb, hown, hne⟩ := h
  refine ⟨v, ?_, ?_, hne⟩
  · simp [World.setCell, Array.getElem?_modify, hb]
  · exact hown.kept (row := some b) ⟨rfl, rfl, rfl, by simp [World.setCell], fun k _ hk => Below.heap_setCell _ _ _ _ (fun e => hk (by simp [e]))⟩ (Or.inr hne)
theorem BdAt.put {w : World} {R b : Nat} {p v v' : Value} {bs' : List Value} (hb : w.heap[b]? = some (.cells #[p, v] 82 (0, 0))) (hown : w.ownsRow R 5 1 v' bs'.length bs') (hTe : 82 ≠ 5) : BdAt (w.setCell ⟨b, 1, none⟩ v') R b p bs' := by
  have hne := Lib.ownBlock_ne hown hb hTe
  refine ⟨v', ?_, ?_, hne⟩
  · simp [World.setCell, Array.getElem?_modify, hb]
  · exact hown.kept (row := some b) ⟨rfl, rfl, rfl, by simp [World.setCell], fun k _ hk => Below.heap_setCell _ _ _ _ (fun e => hk (by simp [e]))⟩ (Or.inr hne)
theorem check_apart (R b : Nat) (l : List UInt8) (w : World) (h : Bd w R b l) :
    Calls Try.prog 76 #[.pointer (some ⟨b, 0, none⟩)] w fun e w' => e = .returned (.tuple #[]) ∧ (BdAt w' R b (.pointer (some ⟨b, 0, none⟩)) (Lib.byteCells l) ∧ Apart R b w w') := by
  rcases h with h | h
  · exact (check_fresh b w h.cell0 h.shape h.frozen0).mono fun e w' ⟨h1, h2⟩ => ⟨h1, h2 ▸ h.used _, h2 ▸ (Apart.refl R b w).setCell 0 _⟩
  · exact (check_used b w h.cell0).mono fun e w' ⟨h1, h2⟩ => ⟨h1, h2 ▸ h, h2 ▸ Apart.refl R b _⟩
theorem Bd.new (w : World) (R : Nat) : Bd (w.alloc (.cells #[.pointer none, .slice none 0 0] 82)) R w.heap.size [] :=
  .inl ⟨.slice none 0 0, heap_alloc_new w _, ⟨rfl, .inl ⟨rfl, rfl⟩⟩, by simp [Value.ownBlock]⟩
/-- a builder that holds nothing, at any base -/
theorem Bd.fresh {w : World} {b : Nat} (R : Nat) (h : w.heap[b]? = some (.cells #[.pointer none, .slice none 0 0] 82 (0, 0))) : Bd w R b [] :=
  .inl ⟨.slice none 0 0, h, ⟨rfl, .inl ⟨rfl, rfl⟩⟩, by simp [Value.ownBlock]⟩
theorem Bd.bld {w : World} {R b B : Nat} {l : List UInt8} (h : Bd w R b l) (hR : B ≤ R) (hb : B ≤ b) : Bld w B b l := by
  have k : ∀ p, BdAt w R b p (Lib.byteCells l) → Lib.BuilderAt 82 5 B b p (Lib.byteCells l) w := fun p ⟨v, hbk, hown, hne⟩ =>
    ⟨hb, v, hbk, by
      obtain ⟨hl, h0 | ⟨g, cap, cur, hv, hb', r⟩⟩ := hown
      · exact ⟨hl, .inl h0⟩
      · exact ⟨hl, .inr ⟨g, cap, cur, hv, by omega, r⟩⟩, hne⟩
  exact h.imp (k _) (k _)
set_option maxRecDepth 100000 in
theorem writeByte_apart (B b : Nat) (l : List UInt8) (c : Int) (w : World) (h0 : 0 ≤ c) (h1 : c < 256) (h : Bd w B b l) (hlen : l.length + 1 ≤ 140737488355328) (hBw : B ≤ w.heap.size) :
    Calls Try.prog 64 #[.pointer (some ⟨b, 0, none⟩), .int .u8 c] w fun e w' => e = .returned .nilIface ∧ (Bd w' B b (l ++ [UInt8.ofNat c.toNat]) ∧ Apart B b w w') := by
  obtain ⟨i0, hi, hz0, hz1, hz2⟩ := info_parts (show (Try.prog.info? 5).map (fun i => (i.zero, i.size, i.bytes)) = some (some (.int .u8 0), 1, 1) by kernel_rfl)
  have hl : (Lib.byteCells l).length = l.length := Lib.byteCells_length l
  obtain ⟨c', rfl⟩ := byte_of h0 h1
  go_enter Try.func64, Try.ntmps64
  go_wp2_with (go_at_call 76; refine (check_apart B b _ _ h).mono ?_)
  rintro e w1 ⟨rfl, k1, hb1⟩
  obtain ⟨v, hbk, hown, hne⟩ := k1
  have c0 : w1.cell? ⟨b, 0, none⟩ = some (.pointer (some ⟨b, 0, none⟩)) := by rw [Lib.cell_of_heap hbk]; rfl
  have c1 : w1.cell? ⟨b, 1, none⟩ = some v := by rw [Lib.cell_of_heap hbk]; rfl
  go_wp2_with (at_builtin; refine wpList_append_own _ rfl _ _ 49 rfl B 5 i0 (.int .u8 0) 1 1 Try.underlying49 hi hz0 hz1 hz2 rfl (by decide) _ _ _ rfl (hown.alloc _) ⟨w1.heap.size, 0, none⟩ 1 1 [.int .u8 (c'.toNat : Int)] rfl rfl ?c1 ?c2 ?c3 ?c4 ?c5 ?_)
  case c1 =>
    intro j u hj
    match j, hj with
    | 0, hj => simp at hj; subst hj; simp [Addr.add]
  case c2 => intro u hu; simp at hu; subst hu; rfl
  case c3 => unfold maxLen; omega
  case c4 => omega
  case c5 => have := hb1.size; simp; omega
  intro v' w2 hown' hgrow _
  have hlt := row_lt hbk
  have hb2 : w2.heap[b]? = some (.cells #[.pointer (some ⟨b, 0, none⟩), v] 82 (0, 0)) := by
    rw [hgrow.block b (by simp; omega) (fun e => hne e.symm), Lib.alloc_old w1 _ b hlt]
    exact hbk
  have d0 : w2.cell? ⟨b, 0, none⟩ = some (.pointer (some ⟨b, 0, none⟩)) := by rw [Lib.cell_of_heap hb2]; rfl
  have d1 : w2.cell? ⟨b, 1, none⟩ = some v := by rw [Lib.cell_of_heap hb2]; rfl
  have f1 : w2.frozen? ⟨b, 1, none⟩ = false := Lib.frozen_of_heap hb2 1
  obtain ⟨g, cap, rfl⟩ : ∃ g cap, v' = .slice (some ⟨g, 0, none⟩) (l.length + 1) cap := by
    rcases hown'.2 with ⟨_, h0⟩ | ⟨g, cap, cur, hv, _⟩
    · omega
    · exact ⟨g, cap, hv⟩
  go_wp2
  go_ret
  refine ⟨rfl, .inr ?_, ?_⟩
  · have e : Lib.byteCells (l ++ [UInt8.ofNat (c'.toNat : Int).toNat]) = Lib.byteCells l ++ [.int .u8 (c'.toNat : Int)] := by simp [Lib.byteCells]
    rw [e]
    exact BdAt.put hb2 (by rw [List.length_append, hl]; exact hown') (by decide)
  · exact ((hb1.alloc (by have := hb1.size; omega) _).grown hgrow (by have := hb1.size; simp; omega) (fun k hk => (hown.lt k hk).1)).setCell1 _

set_option maxRecDepth 100000 in
theorem writeString_apart (B b : Nat) (l s : List UInt8) (w : World) (h : Bd w B b l) (hlen : l.length + s.length ≤ 140737488355328) (hBw : B ≤ w.heap.size) :
    Calls Try.prog 68 #[.pointer (some ⟨b, 0, none⟩), .string ⟨s.toArray⟩] w fun e w' => e = .returned (.tuple #[.int .i64 s.length, .nilIface]) ∧ (Bd w' B b (l ++ s) ∧ Apart B b w w') := by
  obtain ⟨i0, hi, hz0, hz1, hz2⟩ := info_parts (show (Try.prog.info? 5).map (fun i => (i.zero, i.size, i.bytes)) = some (some (.int .u8 0), 1, 1) by kernel_rfl)
  have hl : (Lib.byteCells l).length = l.length := Lib.byteCells_length l
  have hs : (ByteArray.mk s.toArray).size = s.length := rfl
  go_enter Try.func68, Try.ntmps68
  go_wp2_with (go_at_call 76; refine (check_apart B b _ _ h).mono ?_)
  rintro e w1 ⟨rfl, k1, hb1⟩
  obtain ⟨v, hbk, hown, hne⟩ := k1
  have c0 : w1.cell? ⟨b, 0, none⟩ = some (.pointer (some ⟨b, 0, none⟩)) := by rw [Lib.cell_of_heap hbk]; rfl
  have c1 : w1.cell? ⟨b, 1, none⟩ = some v := by rw [Lib.cell_of_heap hbk]; rfl
  go_wp2_with (at_builtin; refine Lib.wpList_append_own_string _ rfl _ _ 49 9 rfl B 5 i0 Try.underlying49 Try.underlying9 hi hz0 hz1 hz2 _ _ _ rfl hown _ rfl ?c3 ?c4 ?c5 ?_)
  case c3 => unfold maxLen; omega
  case c4 => omega
  case c5 => have := hb1.size; omega
  intro v' w2 hown' hgrow _
  have hlt := row_lt hbk
  have hb2 : w2.heap[b]? = some (.cells #[.pointer (some ⟨b, 0, none⟩), v] 82 (0, 0)) := by
    rw [hgrow.block b hlt (fun e => hne e.symm)]
    exact hbk
  have d0 : w2.cell? ⟨b, 0, none⟩ = some (.pointer (some ⟨b, 0, none⟩)) := by rw [Lib.cell_of_heap hb2]; rfl
  have d1 : w2.cell? ⟨b, 1, none⟩ = some v := by rw [Lib.cell_of_heap hb2]; rfl
  have f1 : w2.frozen? ⟨b, 1, none⟩ = false := Lib.frozen_of_heap hb2 1
  obtain ⟨ao, n', cap, rfl⟩ : ∃ ao n' cap, v' = .slice ao n' cap := by
    rcases hown'.2 with ⟨hv, _⟩ | ⟨g, cap, cur, hv, _⟩
    · exact ⟨_, _, _, hv⟩
    · exact ⟨_, _, _, hv⟩
  go_wp2
  go_ret2
  refine ⟨rfl, .inr ?_, ?_⟩
  · have e : Lib.byteCells (l ++ s) = Lib.byteCells l ++ Lib.strCells ⟨s.toArray⟩ := by simp [Lib.byteCells, Lib.strCells]
    rw [e]
    exact BdAt.put hb2 (by rw [List.length_append, hl, Lib.strCells_length]; exact hown') (by decide)
  · exact (hb1.grown hgrow (by have := hb1.size; omega) (fun k hk => (hown.lt k hk).1)).setCell1 _

end Go.Proofs.Ytcppedmcchhhoaa
