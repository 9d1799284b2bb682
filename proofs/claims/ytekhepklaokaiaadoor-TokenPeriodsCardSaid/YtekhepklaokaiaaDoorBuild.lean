/- strings.Builder at this seat's program: what is written is held (the shelf's contracts for copyCheck, WriteByte, WriteString do not lie here: the loader refuses copyCheck's panic). -/
import Derived.Test.YtekhepklaokaiaaDoorBase
import Derived.Test.YtekhepklaokaiaaDoorShelf
namespace Go.Proofs.YtekhepklaokaiaaDoor
open Go.RowKit

abbrev BT : TypeId := 91
/-- a builder at block b that holds the bytes l -/
abbrev Bld (w : World) (B b : Nat) (l : List UInt8) : Prop := Lib.IsBuilder 91 5 B b (Lib.byteCells l) w

theorem bt_size : ∃ j, Tryd.prog.info? 91 = some j ∧ j.size = 2 := Option.map_eq_some_iff.1 (by kernel_rfl)

set_option maxRecDepth 100000 in
theorem check_used (b : Nat) (w : World) (h0 : w.cell? ⟨b, 0, none⟩ = some (.pointer (some ⟨b, 0, none⟩))) :
    Calls Tryd.prog 65 #[.pointer (some ⟨b, 0, none⟩)] w fun e w' => e = .returned (.tuple #[]) ∧ w' = w := by
  obtain ⟨j, hj, _⟩ := bt_size
  go_enter Tryd.func65, Tryd.ntmps65
  go_wp2
  rw [Lib.run_neq_ptr_same w _ Tryd.underlying89 hj]
  go_wp2
  go_end0
  exact ⟨rfl, rfl⟩

set_option maxRecDepth 100000 in
theorem check_fresh (b : Nat) (w : World) (h0 : w.cell? ⟨b, 0, none⟩ = some (.pointer none)) (hsh : w.shape? b = some (91, 2)) (hfz : w.frozen? ⟨b, 0, none⟩ = false) :
    Calls Tryd.prog 65 #[.pointer (some ⟨b, 0, none⟩)] w fun e w' => e = .returned (.tuple #[]) ∧ w' = w.setCell ⟨b, 0, none⟩ (.pointer (some ⟨b, 0, none⟩)) := by
  obtain ⟨j, hj, hjs⟩ := bt_size
  go_enter Tryd.func65, Tryd.ntmps65
  go_wp2
  rw [Lib.run_to_unsafe w ⟨b, 0, none⟩ Tryd.underlying89 Tryd.underlying107 hj (by rw [hjs]; decide) hsh (Nat.zero_lt_succ 1)]
  simp only [Result.andThen]
  rw [Oper.upon_value]
  go_wp2
  rw [run_callFunc_extern Tryd.func71 (by kernel_rfl) (by kernel_rfl) (by kernel_rfl) (e := Extern.AbiNoEscape.same) (by kernel_rfl)]
  rw [Lib.run_noEscape]
  simp only [Result.andThen]
  rw [Oper.upon_value]
  go_wp2
  rw [Lib.run_from_unsafe w ⟨b, 0, none⟩ Tryd.underlying107 Tryd.underlying89 hj hsh (by kernel_rfl)]
  simp only [Result.andThen]
  rw [Oper.upon_value]
  go_wp2
  go_end0
  exact ⟨rfl, rfl⟩

theorem check_walk (B b : Nat) (bs : List Value) (w : World) (h : Lib.IsBuilder 91 5 B b bs w) :
    Calls Tryd.prog 65 #[.pointer (some ⟨b, 0, none⟩)] w fun e w' => e = .returned (.tuple #[]) ∧ (Lib.BuilderAt 91 5 B b (.pointer (some ⟨b, 0, none⟩)) bs w' ∧ Below B w w') := by
  rcases h with h | h
  · exact (check_fresh b w h.cell0 h.shape h.frozen0).mono fun e w' ⟨h1, h2⟩ => ⟨h1, h2 ▸ h.used _, h2 ▸ (Below.refl B w).setCell (p := ⟨b, 0, none⟩) h.1 _⟩
  · exact (check_used b w h.cell0).mono fun e w' ⟨h1, h2⟩ => ⟨h1, h2 ▸ h, h2 ▸ Below.refl B _⟩

theorem row_lt {w : World} {b : Nat} {o : Obj} (h : w.heap[b]? = some o) : b < w.heap.size := (Array.getElem?_eq_some_iff.1 h).1

set_option maxRecDepth 100000 in
theorem writeByte_walk (B b : Nat) (l : List UInt8) (c : Int) (w : World) (h0 : 0 ≤ c) (h1 : c < 256) (h : Bld w B b l) (hlen : l.length + 1 ≤ 140737488355328) (hBw : B ≤ w.heap.size) :
    Calls Tryd.prog 60 #[.pointer (some ⟨b, 0, none⟩), .int .u8 c] w fun e w' => e = .returned .nilIface ∧ (Bld w' B b (l ++ [UInt8.ofNat c.toNat]) ∧ Below B w w') := by
  obtain ⟨i0, hi, hz0, hz1, hz2⟩ := info_parts (show (Tryd.prog.info? 5).map (fun i => (i.zero, i.size, i.bytes)) = some (some (.int .u8 0), 1, 1) by kernel_rfl)
  have hl : (Lib.byteCells l).length = l.length := Lib.byteCells_length l
  obtain ⟨c', rfl⟩ := byte_of h0 h1
  go_enter Tryd.func60, Tryd.ntmps60
  go_wp2_with (go_at_call 65; refine (check_walk B b _ _ h).mono ?_)
  rintro e w1 ⟨rfl, k1, hb1⟩
  obtain ⟨hB, v, hbk, hown, hne⟩ := k1
  have c0 : w1.cell? ⟨b, 0, none⟩ = some (.pointer (some ⟨b, 0, none⟩)) := by rw [Lib.cell_of_heap hbk]; rfl
  have c1 : w1.cell? ⟨b, 1, none⟩ = some v := by rw [Lib.cell_of_heap hbk]; rfl
  go_wp2_with (at_builtin; refine wpList_append_own _ rfl _ _ 76 rfl B 5 i0 (.int .u8 0) 1 1 Tryd.underlying76 hi hz0 hz1 hz2 rfl (by decide) _ _ _ rfl (hown.alloc _) ⟨w1.heap.size, 0, none⟩ 1 1 [.int .u8 (c'.toNat : Int)] rfl rfl ?c1 ?c2 ?c3 ?c4 ?c5 ?_)
  case c1 =>
    intro j u hj
    match j, hj with
    | 0, hj => simp at hj; subst hj; simp [Addr.add]
  case c2 => intro u hu; simp at hu; subst hu; rfl
  case c3 => unfold maxLen; omega
  case c4 => omega
  case c5 => have := hb1.size; simp; omega
  intro v' w2 hown' hgrow _
  have hlt := row_lt hbk
  have hb2 : w2.heap[b]? = some (.cells #[.pointer (some ⟨b, 0, none⟩), v] 91 (0, 0)) := by
    rw [hgrow.block b (by simp; omega) (fun e => hne e.symm), Lib.alloc_old w1 _ b hlt]
    exact hbk
  have d0 : w2.cell? ⟨b, 0, none⟩ = some (.pointer (some ⟨b, 0, none⟩)) := by rw [Lib.cell_of_heap hb2]; rfl
  have d1 : w2.cell? ⟨b, 1, none⟩ = some v := by rw [Lib.cell_of_heap hb2]; rfl
  have f1 : w2.frozen? ⟨b, 1, none⟩ = false := Lib.frozen_of_heap hb2 1
  obtain ⟨g, cap, rfl⟩ : ∃ g cap, v' = .slice (some ⟨g, 0, none⟩) (l.length + 1) cap := by
    rcases hown'.2 with ⟨_, h0⟩ | ⟨g, cap, cur, hv, _⟩
    · omega
    · exact ⟨g, cap, hv⟩
  go_wp2
  go_ret
  refine ⟨rfl, .inr ?_, ?_⟩
  · have e : Lib.byteCells (l ++ [UInt8.ofNat (c'.toNat : Int).toNat]) = Lib.byteCells l ++ [.int .u8 (c'.toNat : Int)] := by simp [Lib.byteCells]
    rw [e]
    exact Lib.BuilderAt.put (T := 91) (e := 5) hB hb2 (by rw [List.length_append, hl]; exact hown') (by decide)
  · exact ((hb1.alloc (by have := hb1.size; omega) _).grown hgrow (by have := hb1.size; simp; omega) (fun k hk => (hown.lt k hk).1)).setCell (p := ⟨b, 1, none⟩) hB _

set_option maxRecDepth 100000 in
theorem writeString_walk (B b : Nat) (l s : List UInt8) (w : World) (h : Bld w B b l) (hlen : l.length + s.length ≤ 140737488355328) (hBw : B ≤ w.heap.size) :
    Calls Tryd.prog 59 #[.pointer (some ⟨b, 0, none⟩), .string ⟨s.toArray⟩] w fun e w' => e = .returned (.tuple #[.int .i64 s.length, .nilIface]) ∧ (Bld w' B b (l ++ s) ∧ Below B w w') := by
  obtain ⟨i0, hi, hz0, hz1, hz2⟩ := info_parts (show (Tryd.prog.info? 5).map (fun i => (i.zero, i.size, i.bytes)) = some (some (.int .u8 0), 1, 1) by kernel_rfl)
  have hl : (Lib.byteCells l).length = l.length := Lib.byteCells_length l
  have hs : (ByteArray.mk s.toArray).size = s.length := rfl
  go_enter Tryd.func59, Tryd.ntmps59
  go_wp2_with (go_at_call 65; refine (check_walk B b _ _ h).mono ?_)
  rintro e w1 ⟨rfl, k1, hb1⟩
  obtain ⟨hB, v, hbk, hown, hne⟩ := k1
  have c0 : w1.cell? ⟨b, 0, none⟩ = some (.pointer (some ⟨b, 0, none⟩)) := by rw [Lib.cell_of_heap hbk]; rfl
  have c1 : w1.cell? ⟨b, 1, none⟩ = some v := by rw [Lib.cell_of_heap hbk]; rfl
  go_wp2_with (at_builtin; refine Lib.wpList_append_own_string _ rfl _ _ 76 9 rfl B 5 i0 Tryd.underlying76 Tryd.underlying9 hi hz0 hz1 hz2 _ _ _ rfl hown _ rfl ?c3 ?c4 ?c5 ?_)
  case c3 => unfold maxLen; omega
  case c4 => omega
  case c5 => have := hb1.size; omega
  intro v' w2 hown' hgrow _
  have hlt := row_lt hbk
  have hb2 : w2.heap[b]? = some (.cells #[.pointer (some ⟨b, 0, none⟩), v] 91 (0, 0)) := by
    rw [hgrow.block b hlt (fun e => hne e.symm)]
    exact hbk
  have d0 : w2.cell? ⟨b, 0, none⟩ = some (.pointer (some ⟨b, 0, none⟩)) := by rw [Lib.cell_of_heap hb2]; rfl
  have d1 : w2.cell? ⟨b, 1, none⟩ = some v := by rw [Lib.cell_of_heap hb2]; rfl
  have f1 : w2.frozen? ⟨b, 1, none⟩ = false := Lib.frozen_of_heap hb2 1
  obtain ⟨ao, n', cap, rfl⟩ : ∃ ao n' cap, v' = .slice ao n' cap := by
    rcases hown'.2 with ⟨hv, _⟩ | ⟨g, cap, cur, hv, _⟩
    · exact ⟨_, _, _, hv⟩
    · exact ⟨_, _, _, hv⟩
  go_wp2
  go_ret2
  refine ⟨rfl, .inr ?_, ?_⟩
  · have e : Lib.byteCells (l ++ s) = Lib.byteCells l ++ Lib.strCells ⟨s.toArray⟩ := by simp [Lib.byteCells, Lib.strCells]
    rw [e]
    exact Lib.BuilderAt.put (T := 91) (e := 5) hB hb2 (by rw [List.length_append, hl, Lib.strCells_length]; exact hown') (by decide)
  · exact (hb1.grown hgrow (by have := hb1.size; omega) (fun k hk => (hown.lt k hk).1)).setCell (p := ⟨b, 1, none⟩) hB _

/-- a builder stays where nothing old turns -/
theorem Bld.keep {w w' : World} {B b : Nat} {l : List UInt8} (h : Bld w B b l) (hb : Below w.heap.size w w') : Bld w' B b l := by
  have k : ∀ p, Lib.BuilderAt 91 5 B b p (Lib.byteCells l) w → Lib.BuilderAt 91 5 B b p (Lib.byteCells l) w' := fun p ⟨hB, v, hbk, hown, hne⟩ =>
    ⟨hB, v, (hb.block b (row_lt hbk)).trans hbk, by
      obtain ⟨hl, h0 | ⟨g, cap, cur, hv, hb', hg, r⟩⟩ := hown
      · exact ⟨hl, .inl h0⟩
      · exact ⟨hl, .inr ⟨g, cap, cur, hv, hb', (hb.block g (row_lt hg)).trans hg, r⟩⟩, hne⟩
  exact h.imp (k _) (k _)
/-- a new builder -/
theorem Bld.new (w : World) : Bld (w.alloc (.cells #[.pointer none, .slice none 0 0] 91)) w.heap.size w.heap.size [] :=
  .inl ⟨Nat.le_refl _, .slice none 0 0, heap_alloc_new w _, ⟨rfl, .inl ⟨rfl, rfl⟩⟩, by simp [Value.ownBlock]⟩
theorem string_walk (B b : Nat) (l : List UInt8) (w : World) (h : Bld w B b l) (hBw : B ≤ w.heap.size) :
    Calls Tryd.prog 62 #[.pointer (some ⟨b, 0, none⟩)] w fun e w' => e = .returned (.string ⟨l.toArray⟩) ∧ Below B w w' := Tryd.Builder_String_any B b l w h hBw
theorem repeat_walk (l : List UInt8) (n : Nat) (w : World) (hn : l.length * n ≤ 140737488355328) (h : n ≤ 9223372036854775807) :
    Calls Tryd.prog 61 #[.string ⟨l.toArray⟩, .int .i64 n] w fun e w' => e = .returned (.string ⟨(Lib.repeatL l n).toArray⟩) ∧ Below w.heap.size w w' := Tryd.strings_Repeat ⟨l.toArray⟩ n w h hn
end Go.Proofs.YtekhepklaokaiaaDoor
