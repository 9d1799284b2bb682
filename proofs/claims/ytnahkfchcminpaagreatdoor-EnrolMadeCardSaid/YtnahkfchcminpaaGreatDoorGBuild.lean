/- strings.Builder at this seat's program: what is written is held (the shelf's contracts for copyCheck, WriteByte, WriteString do not lie here: the loader refuses copyCheck's panic). -/
import Derived.Test.YtnahkfchcminpaaGreatDoorBase
import Derived.Test.YtnahkfchcminpaaGreatDoorShelf
import Derived.Test.YtnahkfchcminpaaGreatDoorGDigestS
namespace Go.Proofs.YtnahkfchcminpaaGreatDoor
open Go.RowKit

abbrev BT : TypeId := 126
/-- a builder at block b that holds the bytes l -/
abbrev Bld (w : World) (B b : Nat) (l : List UInt8) : Prop := Lib.IsBuilder 126 5 B b (Lib.byteCells l) w

theorem bt_size : ∃ j, Tryz.prog.info? 126 = some j ∧ j.size = 2 := Option.map_eq_some_iff.1 (by kernel_rfl)

set_option maxRecDepth 100000 in
theorem check_used (b : Nat) (w : World) (h0 : w.cell? ⟨b, 0, none⟩ = some (.pointer (some ⟨b, 0, none⟩))) :
    Calls Tryz.prog 116 #[.pointer (some ⟨b, 0, none⟩)] w fun e w' => e = .returned (.tuple #[]) ∧ w' = w := by
  obtain ⟨j, hj, _⟩ := bt_size
  go_enter Tryz.func116, Tryz.ntmps116
  go_wp2
  rw [Lib.run_neq_ptr_same w _ Tryz.underlying124 hj]
  go_wp2
  go_end0
  exact ⟨rfl, rfl⟩

set_option maxRecDepth 100000 in
theorem check_fresh (b : Nat) (w : World) (h0 : w.cell? ⟨b, 0, none⟩ = some (.pointer none)) (hsh : w.shape? b = some (126, 2)) (hfz : w.frozen? ⟨b, 0, none⟩ = false) :
    Calls Tryz.prog 116 #[.pointer (some ⟨b, 0, none⟩)] w fun e w' => e = .returned (.tuple #[]) ∧ w' = w.setCell ⟨b, 0, none⟩ (.pointer (some ⟨b, 0, none⟩)) := by
  obtain ⟨j, hj, hjs⟩ := bt_size
  go_enter Tryz.func116, Tryz.ntmps116
  go_wp2
  rw [Lib.run_to_unsafe w ⟨b, 0, none⟩ Tryz.underlying124 Tryz.underlying140 hj (by rw [hjs]; decide) hsh (Nat.zero_lt_succ 1)]
  simp only [Result.andThen]
  rw [Oper.upon_value]
  go_wp2
  rw [run_callFunc_extern Tryz.func122 (by kernel_rfl) (by kernel_rfl) (by kernel_rfl) (e := Extern.AbiNoEscape.same) (by kernel_rfl)]
  rw [Lib.run_noEscape]
  simp only [Result.andThen]
  rw [Oper.upon_value]
  go_wp2
  rw [Lib.run_from_unsafe w ⟨b, 0, none⟩ Tryz.underlying140 Tryz.underlying124 hj hsh (by kernel_rfl)]
  simp only [Result.andThen]
  rw [Oper.upon_value]
  go_wp2
  go_end0
  exact ⟨rfl, rfl⟩

theorem check_walk (B b : Nat) (bs : List Value) (w : World) (h : Lib.IsBuilder 126 5 B b bs w) :
    Calls Tryz.prog 116 #[.pointer (some ⟨b, 0, none⟩)] w fun e w' => e = .returned (.tuple #[]) ∧ (Lib.BuilderAt 126 5 B b (.pointer (some ⟨b, 0, none⟩)) bs w' ∧ Below B w w') := by
  rcases h with h | h
  · exact (check_fresh b w h.cell0 h.shape h.frozen0).mono fun e w' ⟨h1, h2⟩ => ⟨h1, h2 ▸ h.used _, h2 ▸ (Below.refl B w).setCell (p := ⟨b, 0, none⟩) h.1 _⟩
  · exact (check_used b w h.cell0).mono fun e w' ⟨h1, h2⟩ => ⟨h1, h2 ▸ h, h2 ▸ Below.refl B _⟩

theorem row_lt {w : World} {b : Nat} {o : Obj} (h : w.heap[b]? = some o) : b < w.heap.size := (Array.getElem?_eq_some_iff.1 h).1

set_option maxRecDepth 100000 in
theorem writeByte_walk (B b : Nat) (l : List UInt8) (c : Int) (w : World) (h0 : 0 ≤ c) (h1 : c < 256) (h : Bld w B b l) (hlen : l.length + 1 ≤ 140737488355328) (hBw : B ≤ w.heap.size) :
    Calls Tryz.prog 112 #[.pointer (some ⟨b, 0, none⟩), .int .u8 c] w fun e w' => e = .returned .nilIface ∧ (Bld w' B b (l ++ [UInt8.ofNat c.toNat]) ∧ Below B w w') := by
  obtain ⟨i0, hi, hz0, hz1, hz2⟩ := info_parts (show (Tryz.prog.info? 5).map (fun i => (i.zero, i.size, i.bytes)) = some (some (.int .u8 0), 1, 1) by kernel_rfl)
  have hl : (Lib.byteCells l).length = l.length := Lib.byteCells_length l
  obtain ⟨c', rfl⟩ := byte_of h0 h1
  go_enter Tryz.func112, Tryz.ntmps112
  go_wp2_with (go_at_call 116; refine (check_walk B b _ _ h).mono ?_)
  rintro e w1 ⟨rfl, k1, hb1⟩
  obtain ⟨hB, v, hbk, hown, hne⟩ := k1
  have c0 : w1.cell? ⟨b, 0, none⟩ = some (.pointer (some ⟨b, 0, none⟩)) := by rw [Lib.cell_of_heap hbk]; rfl
  have c1 : w1.cell? ⟨b, 1, none⟩ = some v := by rw [Lib.cell_of_heap hbk]; rfl
  go_wp2_with (at_builtin; refine wpList_append_own _ rfl _ _ 77 rfl B 5 i0 (.int .u8 0) 1 1 Tryz.underlying77 hi hz0 hz1 hz2 rfl (by decide) _ _ _ rfl (hown.alloc _) ⟨w1.heap.size, 0, none⟩ 1 1 [.int .u8 (c'.toNat : Int)] rfl rfl ?c1 ?c2 ?c3 ?c4 ?c5 ?_)
  case c1 =>
    intro j u hj
    match j, hj with
    | 0, hj => simp at hj; subst hj; simp [Addr.add]
  case c2 => intro u hu; simp at hu; subst hu; rfl
  case c3 => unfold maxLen; omega
  case c4 => omega
  case c5 => have := hb1.size; simp; omega
  intro v' w2 hown' hgrow _
  have hlt := row_lt hbk
  have hb2 : w2.heap[b]? = some (.cells #[.pointer (some ⟨b, 0, none⟩), v] 126 (0, 0)) := by
    rw [hgrow.block b (by simp; omega) (fun e => hne e.symm), Lib.alloc_old w1 _ b hlt]
    exact hbk
  have d0 : w2.cell? ⟨b, 0, none⟩ = some (.pointer (some ⟨b, 0, none⟩)) := by rw [Lib.cell_of_heap hb2]; rfl
  have d1 : w2.cell? ⟨b, 1, none⟩ = some v := by rw [Lib.cell_of_heap hb2]; rfl
  have f1 : w2.frozen? ⟨b, 1, none⟩ = false := Lib.frozen_of_heap hb2 1
  obtain ⟨g, cap, rfl⟩ : ∃ g cap, v' = .slice (some ⟨g, 0, none⟩) (l.length + 1) cap := by
    rcases hown'.2 with ⟨_, h0⟩ | ⟨g, cap, cur, hv, _⟩
    · omega
    · exact ⟨g, cap, hv⟩
  go_wp2
  go_ret
  refine ⟨rfl, .inr ?_, ?_⟩
  · have e : Lib.byteCells (l ++ [UInt8.ofNat (c'.toNat : Int).toNat]) = Lib.byteCells l ++ [.int .u8 (c'.toNat : Int)] := by simp [Lib.byteCells]
    rw [e]
    exact Lib.BuilderAt.put (T := 126) (e := 5) hB hb2 (by rw [List.length_append, hl]; exact hown') (by decide)
  · exact ((hb1.alloc (by have := hb1.size; omega) _).grown hgrow (by have := hb1.size; simp; omega) (fun k hk => (hown.lt k hk).1)).setCell (p := ⟨b, 1, none⟩) hB _

set_option maxRecDepth 100000 in
theorem writeString_walk (B b : Nat) (l s : List UInt8) (w : World) (h : Bld w B b l) (hlen : l.length + s.length ≤ 140737488355328) (hBw : B ≤ w.heap.size) :
    Calls Tryz.prog 111 #[.pointer (some ⟨b, 0, none⟩), .string ⟨s.toArray⟩] w fun e w' => e = .returned (.tuple #[.int .i64 s.length, .nilIface]) ∧ (Bld w' B b (l ++ s) ∧ Below B w w') := by
  obtain ⟨i0, hi, hz0, hz1, hz2⟩ := info_parts (show (Tryz.prog.info? 5).map (fun i => (i.zero, i.size, i.bytes)) = some (some (.int .u8 0), 1, 1) by kernel_rfl)
  have hl : (Lib.byteCells l).length = l.length := Lib.byteCells_length l
  have hs : (ByteArray.mk s.toArray).size = s.length := rfl
  go_enter Tryz.func111, Tryz.ntmps111
  go_wp2_with (go_at_call 116; refine (check_walk B b _ _ h).mono ?_)
  rintro e w1 ⟨rfl, k1, hb1⟩
  obtain ⟨hB, v, hbk, hown, hne⟩ := k1
  have c0 : w1.cell? ⟨b, 0, none⟩ = some (.pointer (some ⟨b, 0, none⟩)) := by rw [Lib.cell_of_heap hbk]; rfl
  have c1 : w1.cell? ⟨b, 1, none⟩ = some v := by rw [Lib.cell_of_heap hbk]; rfl
  go_wp2_with (at_builtin; refine Lib.wpList_append_own_string _ rfl _ _ 77 9 rfl B 5 i0 Tryz.underlying77 Tryz.underlying9 hi hz0 hz1 hz2 _ _ _ rfl hown _ rfl ?c3 ?c4 ?c5 ?_)
  case c3 => unfold maxLen; omega
  case c4 => omega
  case c5 => have := hb1.size; omega
  intro v' w2 hown' hgrow _
  have hlt := row_lt hbk
  have hb2 : w2.heap[b]? = some (.cells #[.pointer (some ⟨b, 0, none⟩), v] 126 (0, 0)) := by
    rw [hgrow.block b hlt (fun e => hne e.symm)]
    exact hbk
  have d0 : w2.cell? ⟨b, 0, none⟩ = some (.pointer (some ⟨b, 0, none⟩)) := by rw [Lib.cell_of_heap hb2]; rfl
  have d1 : w2.cell? ⟨b, 1, none⟩ = some v := by rw [Lib.cell_of_heap hb2]; rfl
  have f1 : w2.frozen? ⟨b, 1, none⟩ = false := Lib.frozen_of_heap hb2 1
  obtain ⟨ao, n', cap, rfl⟩ : ∃ ao n' cap, v' = .slice ao n' cap := by
    rcases hown'.2 with ⟨hv, _⟩ | ⟨g, cap, cur, hv, _⟩
    · exact ⟨_, _, _, hv⟩
    · exact ⟨_, _, _, hv⟩
  go_wp2
  go_ret2
  refine ⟨rfl, .inr ?_, ?_⟩
  · have e : Lib.byteCells (l ++ s) = Lib.byteCells l ++ Lib.strCells ⟨s.toArray⟩ := by simp [Lib.byteCells, Lib.strCells]
    rw [e]
    exact Lib.BuilderAt.put (T := 126) (e := 5) hB hb2 (by rw [List.length_append, hl, Lib.strCells_length]; exact hown') (by decide)
  · exact (hb1.grown hgrow (by have := hb1.size; omega) (fun k hk => (hown.lt k hk).1)).setCell (p := ⟨b, 1, none⟩) hB _

/-- a builder stays where nothing old turns -/
theorem Bld.keep {w w' : World} {B b : Nat} {l : List UInt8} (h : Bld w B b l) (hb : Below w.heap.size w w') : Bld w' B b l := by
  have k : ∀ p, Lib.BuilderAt 126 5 B b p (Lib.byteCells l) w → Lib.BuilderAt 126 5 B b p (Lib.byteCells l) w' := fun p ⟨hB, v, hbk, hown, hne⟩ =>
    ⟨hB, v, (hb.block b (row_lt hbk)).trans hbk, by
      obtain ⟨hl, h0 | ⟨g, cap, cur, hv, hb', hg, r⟩⟩ := hown
      · exact ⟨hl, .inl h0⟩
      · exact ⟨hl, .inr ⟨g, cap, cur, hv, hb', (hb.block g (row_lt hg)).trans hg, r⟩⟩, hne⟩
  exact h.imp (k _) (k _)
/-- a new builder -/
theorem Bld.new (w : World) : Bld (w.alloc (.cells #[.pointer none, .slice none 0 0] 126)) w.heap.size w.heap.size [] :=
  .inl ⟨Nat.le_refl _, .slice none 0 0, heap_alloc_new w _, ⟨rfl, .inl ⟨rfl, rfl⟩⟩, by simp [Value.ownBlock]⟩
theorem string_walk (B b : Nat) (l : List UInt8) (w : World) (h : Bld w B b l) (hBw : B ≤ w.heap.size) :
    Calls Tryz.prog 114 #[.pointer (some ⟨b, 0, none⟩)] w fun e w' => e = .returned (.string ⟨l.toArray⟩) ∧ Below B w w' := Tryz.Builder_String_any B b l w h hBw
theorem repeat_walk (l : List UInt8) (n : Nat) (w : World) (hn : l.length * n ≤ 140737488355328) (h : n ≤ 9223372036854775807) :
    Calls Tryz.prog 113 #[.string ⟨l.toArray⟩, .int .i64 n] w fun e w' => e = .returned (.string ⟨(Lib.repeatL l n).toArray⟩) ∧ Below w.heap.size w w' := Tryz.strings_Repeat ⟨l.toArray⟩ n w h hn
end Go.Proofs.YtnahkfchcminpaaGreatDoor
/- The padding: the program's and the reference's. -/
namespace Go.Proofs.YtnahkfchcminpaaGreatDoor
open Go.RowKit
theorem el8 : ElemOf Tryz.prog 77 5 (.int .u8 0) 1 1 := ⟨Tryz.underlying77, by kernel_rfl, rfl, by decide, by decide⟩
theorem div_byte (n d : Nat) : UInt8.ofNat ((n : Int) * 8 / (d : Int) % 256).toNat = UInt8.ofNat (8 * n / d) := by
  have h : ((n : Int) * 8 / (d : Int) % 256) = (((8 * n / d) % 256 : Nat) : Int) := by
    rw [Int.natCast_emod, Int.natCast_ediv, Int.natCast_mul, Int.mul_comm]; rfl
  rw [h, Int.toNat_natCast]
  apply UInt8.toNat_inj.1
  simp
theorem lenByte_step (n k : Nat) : UInt8.ofNat ((n : Int) * 8 / 2 ^ (8 * (7 - k)) % 256).toNat = lenByte n (7 - k) := by
  have := div_byte n (2 ^ (8 * (7 - k)))
  rw [Int.natCast_pow] at this
  exact this
theorem lenByte_val (n k : Nat) (hk : k < 8) : ((n : Int) * 8 / 2 ^ (56 - 8 * k) % 256) = ((lenByte n (7 - k)).toNat : Int) := by
  have h : ∀ d : Nat, ((n : Int) * 8 / (d : Int) % 256) = ((UInt8.ofNat (8 * n / d)).toNat : Int) := fun d => by
    simp only [UInt8.toNat_ofNat']
    rw [Int.natCast_emod, Int.natCast_ediv, Int.natCast_mul, Int.mul_comm]; rfl
  have := h (2 ^ (8 * (7 - k)))
  rw [Int.natCast_pow] at this
  rw [show 56 - 8 * k = 8 * (7 - k) by omega]
  exact this
theorem repeatL_zero (c : Nat) : Lib.repeatL [(0 : UInt8)] c = List.replicate c 0 := by
  induction c with
  | zero => rfl
  | succ c ih => simp [Lib.repeatL, ih, List.replicate_succ]
set_option maxRecDepth 100000 in
theorem rest_walk (l : List UInt8) (n : Nat) (w : World) (hm : l.length % 64 = n % 64) (hl : l.length ≤ 64) (hn : n ≤ 140737488000000) :
    Calls Tryz.prog 106 #[.string ⟨l.toArray⟩, .int .i64 n] w fun e w' => e = .returned (.string ⟨(l ++ tailOf n).toArray⟩) ∧ Below w.heap.size w w' := by
  have hB0 := Bld.new w
  have hb0 := (Below.refl w.heap.size w).alloc (Nat.le_refl _) (.cells #[.pointer none, .slice none 0 0] 126)
  go_enter Tryz.func106, Tryz.ntmps106
  go_wp2_with (go_at_call 111; (with_reducible refine (writeString_walk _ _ _ _ _ hB0 (by simp; omega) (by simp)).mono ?_))
  rintro e w1 ⟨rfl, hB1, hb1⟩
  replace hb1 := hb0.trans hb1
  go_wp2_with (go_at_call 112; (with_reducible refine (writeByte_walk _ _ _ _ _ (by decide) (by decide) hB1 (by simp; omega) hb1.size).mono ?_))
  rintro e w2 ⟨rfl, hB2, hb2⟩
  replace hb2 := hb1.trans hb2
  have hz : (119 - (l.length : Int)) % 64 = ((zeros n : Nat) : Int) := by unfold zeros; omega
  have hzl : zeros n < 64 := by unfold zeros; omega
  go_wp2_with (go_at_call 113; go_loud (refine (repeat_walk [0] (zeros n) _ (by simp; omega) (by omega)).mono ?_))
  rintro e w3 ⟨rfl, hb3⟩
  replace hB3 := hB2.keep hb3
  replace hb3 := hb2.trans (hb3.mono hb2.size)
  have hrep : (Lib.repeatL [(0 : UInt8)] (zeros n)).length = zeros n := by simp [Lib.repeatL_length]
  go_wp2_with (go_at_call 111; (with_reducible refine (writeString_walk _ _ _ _ _ hB3 (by simp; omega) hb3.size).mono ?_))
  rintro e w4 ⟨rfl, hB4, hb4⟩
  replace hb4 := hb3.trans hb4
  have hlen4 : ([] ++ l ++ [UInt8.ofNat (Int.toNat 128)] ++ Lib.repeatL [(0 : UInt8)] (zeros n)).length ≤ 200 := by simp [Lib.repeatL_length]; omega
  generalize hL4 : [] ++ l ++ [UInt8.ofNat (Int.toNat 128)] ++ Lib.repeatL [(0 : UInt8)] (zeros n) = L4 at hB4 hlen4
  have HL4 := Lib.hid hL4
  clear hL4 hB0 hb0 hB1 hB2 hB3 hb1 hb2 hb3 hz
  go_wp2
  go_loopw [8] (fun i wr => ∃ k : Nat, k ≤ 8 ∧ i = .int .i64 (7 - (k : Int)) ∧ Bld wr w.heap.size w.heap.size (L4 ++ lenBytes n k) ∧ Below w.heap.size w wr) (fun i _ => (intOf i + 1).toNat)
  case atStart => exact ⟨0, by omega, rfl, by rw [lenBytes, List.append_nil]; exact hB4, hb4⟩
  case round =>
    clear hB4 hb4
    obtain ⟨k, hk, rfl, hB, hb⟩ := hrel
    by_cases hlt : k < 8
    · have h1 : (0 : Int) ≤ 7 - (k : Int) := by omega
      have hl8 : (L4 ++ lenBytes n k).length + 1 ≤ 140737488355328 := by simp [lenBytes_length]; omega
      go_wp2_with (go_at_call 112; (with_reducible refine (writeByte_walk _ _ _ _ _ ?lo ?hi hB hl8 hb.size).mono ?_))
      case lo => omega
      case hi => omega
      rintro e w5 ⟨rfl, hB5, hb5⟩
      rw [lenByte_step] at hB5
      go_wp2
      go_roundw
      case rel => exact ⟨k + 1, by omega, by go_num, by rw [lenBytes, ← List.append_assoc]; exact hB5, hb.trans hb5⟩
      case measure => simp [intOf]; omega
    · obtain rfl : k = 8 := by omega
      go_wp2_with (go_at_call 114; (with_reducible refine (string_walk _ _ _ _ hB hb.size).mono ?_))
      rintro e w5 ⟨rfl, hb5⟩
      go_wp2
      go_ret
      exact ⟨ret_str (by rw [← HL4.out, repeatL_zero]; simp [tailOf]), hb.trans hb5⟩
def lenN : Value → Nat
  | .slice _ n _ => n
  | _ => 0
end Go.Proofs.YtnahkfchcminpaaGreatDoor
/- The reference's padding. -/
namespace Go.Proofs.YtnahkfchcminpaaGreatDoor
open Go.RowKit
set_option maxRecDepth 100000 in
theorem pad_walk (l : List UInt8) (w : World) (hl : l.length ≤ 140737488000000) :
    Calls Tryz.prog 90 #[.string ⟨l.toArray⟩] w fun e w' => e = .returned (.string ⟨(pad l).toArray⟩) ∧ Below w.heap.size w w' := by
  have hcv := Lib.run_convert_string_bytes (P := Tryz.prog) w 9 77 5 ⟨l.toArray⟩ Tryz.underlying9 Tryz.underlying77 Tryz.underlying5
  have hw0 := below_bytes w 5 ⟨l.toArray⟩
  have how := Ow.bytes w 5 ⟨l.toArray⟩ (by simp [maxLen, ByteArray.size]; omega)
  go_enter Tryz.func90, Tryz.ntmps90
  go_wp2_with (at_builtin; refine wpList_app1 (w0 := w) (B := w.heap.size) rfl _ _ _ rfl el8 rfl how hw0 (by omega) hw0.size (cs := [_]) rfl rfl (one1 rfl) (by simp [ByteArray.size]; omega) ?_)
  intro a1 cap1 w1 hown1 hbel1 _
  rw [u8s_snoc _ (128 : Int) 128 rfl] at hown1
  have hzl : zeros l.length < 64 := by unfold zeros; omega
  clear hcv hw0 how
  go_wp2
  go_loopw [3] (fun v wr => ∃ (k : Nat) (L : List UInt8) (a : Option Addr) (cap : Nat), k ≤ zeros l.length ∧ v = .slice a L.length cap ∧ L = l ++ [128] ++ List.replicate k 0 ∧ Ow wr w.heap.size 1 a L.length cap (u8s L) ∧ Below w.heap.size w wr) (fun v _ => l.length + 100 - lenN v)
  case atStart => exact ⟨0, l ++ [128], a1, cap1, by omega, by simp, by simp, by rw [List.length_append]; exact hown1, hbel1⟩
  case round =>
    clear hown1 hbel1
    obtain ⟨k, L, sa, cap, hk, rfl, hL, hown, hbel⟩ := hrel
    have hlen : L.length = l.length + 1 + k := by rw [hL]; simp; omega
    have hle : L.length ≤ 140737488000100 := by omega
    have hmb : (((L.length : Int) % 64) != 56) = !decide (k = zeros l.length) := by
      by_cases h : k = zeros l.length
      · simp [h]; rw [hlen]; unfold zeros at h; omega
      · simp [h]; rw [hlen]; unfold zeros at h hk; omega
    have HL := Lib.hid hL
    have HN := Lib.hid hlen
    clear hL hlen
    by_cases hlt : k < zeros l.length
    · have hmt : (((L.length : Int) % 64) != 56) = true := by rw [hmb]; simp; omega
      clear hmb
      go_wp2_with (at_builtin; refine wpList_app1 (w0 := w) (B := w.heap.size) rfl _ _ _ rfl el8 rfl hown hbel (by omega) hbel.size (cs := [_]) rfl rfl (one1 rfl) (by omega) ?_)
      intro a2 cap2 w2 hown2 hbel2 _
      rw [u8s_snoc _ (0 : Int) 0 rfl] at hown2
      go_wp2
      go_roundw
      case rel => exact ⟨k + 1, L ++ [0], a2, cap2, by omega, by simp, by rw [HL.out, List.replicate_succ']; simp, by rw [List.length_append]; exact hown2, hbel2⟩
      case measure => have := HN.out; simp [lenN]; omega
    · obtain rfl : k = zeros l.length := by omega
      have hmt : (((L.length : Int) % 64) != 56) = false := by rw [hmb]; simp
      clear hlt hmb
      go_wp2
      go_loopw [3, 4] (fun v i wr => ∃ (k : Nat) (M : List UInt8) (a : Option Addr) (cap : Nat), k ≤ 8 ∧ i = .int .i64 (56 - 8 * (k : Int)) ∧ v = .slice a M.length cap ∧ M = L ++ lenBytes l.length k ∧ Ow wr w.heap.size 1 a M.length cap (u8s M) ∧ Below w.heap.size w wr) (fun _ i _ => (intOf i + 8).toNat)
      case atStart => exact ⟨0, _, _, _, by omega, rfl, rfl, by simp [lenBytes], hown, hbel⟩
      case round =>
        clear hown hbel
        obtain ⟨k, M, sb, cbp, hk, rfl, rfl, hM, hown, hbel⟩ := hrel
        have hlm : M.length = L.length + k := by rw [hM]; simp [lenBytes_length]
        have hle2 : M.length ≤ 140737488000200 := by omega
        have HM := Lib.hid hM
        clear hM hlm
        by_cases hlt : k < 8
        · have h1 : (0 : Int) ≤ 56 - 8 * (k : Int) := by omega
          go_wp2_with (at_builtin; refine wpList_app1 (w0 := w) (B := w.heap.size) rfl _ _ _ rfl el8 rfl hown hbel (by omega) hbel.size (cs := [_]) rfl rfl (one1 rfl) (by omega) ?_)
          intro a2 cap2 w2 hown2 hbel2 _
          rw [u8s_snoc _ _ _ (lenByte_val l.length k hlt)] at hown2
          go_wp2
          go_roundw
          case rel => exact ⟨k + 1, M ++ [lenByte l.length (7 - k)], a2, cap2, by omega, by go_num, by simp, by rw [HM.out, lenBytes]; simp, by rw [List.length_append]; exact hown2, hbel2⟩
          case measure => simp [intOf]; omega
        · obtain rfl : k = 8 := by omega
          have hcv := run_bytes_str (P := Tryz.prog) wr 77 9 5 Tryz.underlying77 Tryz.underlying5 Tryz.underlying9 (n := M.length) (c := cbp) rfl hown.rd
          go_wp2
          go_ret
          exact ⟨ret_str (by rw [HM.out, HL.out]; simp [pad, tailOf]), hbel⟩
end Go.Proofs.YtnahkfchcminpaaGreatDoor
