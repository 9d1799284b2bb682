/- Digits: the program's and the reference's. -/
import Derived.Test.YtcppedmcchhhoaaDigestI
import Derived.Test.YtcppedmcchhhoaaBuildX
import Derived.BigRegion
import Derived.Deep.RegionLaw
namespace Go.Proofs.Ytcppedmcchhhoaa
open Go.RowKit
def digs : List UInt8 := [48, 49, 50, 51, 52, 53, 54, 55, 56, 57, 97, 98, 99, 100, 101, 102]
def dig2 (c : UInt8) : List UInt8 := [digs.getD (c.toNat / 16) 0, digs.getD (c.toNat % 16) 0]
def hexB (l : List UInt8) (n : Nat) : List UInt8 := (l.take n).flatMap dig2
theorem hexB_succ {l : List UInt8} {k : Nat} {x : UInt8} (h : Hid (l[k]? = some x)) : hexB l (k + 1) = hexB l k ++ dig2 x := by
  rw [hexB, take_at h, List.flatMap_append]; simp [hexB]
theorem hexB_length (l : List UInt8) (k : Nat) (hk : k ≤ l.length) : (hexB l k).length = 2 * k := by
  induction k with
  | zero => simp [hexB]
  | succ k ih =>
    have h : Hid (l[k]? = some l[k]) := List.getElem?_eq_getElem (by omega)
    rw [hexB_succ h, List.length_append, ih (by omega)]; simp [dig2]; omega
theorem and15 (c : UInt8) : bits .and .u8 (c.toNat : Int) 15 = ((c.toNat % 16 : Nat) : Int) := by
  have := u8_and_nat c.toNat 15 (UInt8.toNat_lt c) (by omega)
  rw [show c.toNat &&& 15 = c.toNat % 16 from Nat.and_two_pow_sub_one_eq_mod c.toNat 4] at this
  exact this
theorem Rd.apart {w w' : World} {R b g off : Nat} {xs : List Value} (h : Rd w (some ⟨g, off, none⟩) xs) (ha : Apart R b w w') (hg : g < R) (hb : g ≠ b) : Rd w' (some ⟨g, off, none⟩) xs := fun j u hj => by
  obtain ⟨g', off', he, hc⟩ := h j u hj
  simp only [Option.some.injEq, Addr.mk.injEq, and_true] at he
  obtain ⟨rfl, rfl⟩ := he
  exact ⟨g, off, rfl, by rw [World.cell?_of_block (w := w) (ha.block g hg hb)]; exact hc⟩
theorem of_bt (l : List UInt8) (n : Nat) : UInt8.ofNat ((bt l n : Nat) : Int).toNat = l.getD n 0 := by simp [bt, List.getD]
set_option maxRecDepth 100000 in
theorem hex_walk (l : List UInt8) (w : World) (hl : l.length ≤ 70368744000000) :
    Calls Try.prog 36 #[.string ⟨l.toArray⟩] w fun e w' => e = .returned (.string ⟨(hexB l l.length).toArray⟩) ∧ Below w.heap.size w w' := by
  have hb0 := (Below.refl w.heap.size w).alloc (Nat.le_refl _) (.cells #[.pointer none, .slice none 0 0] 82)
  have hB0 := heap_alloc_new w (.cells #[.pointer none, .slice none 0 0] 82)
  have hs0 : (w.alloc (.cells #[.pointer none, .slice none 0 0] 82)).heap.size = w.heap.size + 1 := by simp
  generalize hw1 : w.alloc (.cells #[.pointer none, .slice none 0 0] 82) = w1 at hB0 hb0 hs0
  have hcv := Lib.run_convert_string_bytes (P := Try.prog) w1 9 49 5 ⟨l.toArray⟩ Try.underlying9 Try.underlying49 Try.underlying5
  have hw0 := below_bytes w1 5 ⟨l.toArray⟩
  have hws := Lib.bytesWorld_size w1 5 ⟨l.toArray⟩
  have how := (Ow.bytes w1 5 ⟨l.toArray⟩ (by simp [maxLen, ByteArray.size]; omega)).rd
  have hBn := (hw0.block w.heap.size (by omega)).trans hB0
  replace hb0 := hb0.trans (hw0.mono hb0.size)
  have hgR : w1.heap.size < (Lib.bytesWorld w1 5 ⟨l.toArray⟩).heap.size := by omega
  have hgb : w.heap.size < w1.heap.size := by omega
  clear hs0 hws
  go_enter Try.func36, Try.ntmps36
  go_wp2_with (rw [hw1])
  clear hcv hw0 hB0 hw1
  generalize Lib.bytesWorld w1 5 ⟨l.toArray⟩ = wB at *
  generalize hg : w1.heap.size = g at *
  have hB := Bd.fresh wB.heap.size hBn
  clear hBn
  have hwB := hb0.size
  clear hg
  go_loopw [5, 9] (fun _ i wr => ∃ (k : Nat), k ≤ l.length ∧ i = .int .i64 (k : Int) ∧ Bd wr wB.heap.size w.heap.size (hexB l k) ∧ Apart wB.heap.size w.heap.size wB wr) (fun _ i _ => l.length - (intOf i).toNat)
  case atStart => exact ⟨0, by omega, rfl, by simpa [hexB] using hB, Apart.refl _ _ _⟩
  case round =>
    clear hB
    obtain ⟨k, hk, rfl, hB, hap⟩ := hrel
    have hsz := hap.size
    by_cases hkt : k < l.length
    · have hRd := how.apart hap (by omega) (by omega)
      have hcell := (hRd k _ (u8s_get l k hkt))
      obtain ⟨g', off', he, hcell⟩ := hcell
      simp only [Option.some.injEq, Addr.mk.injEq, and_true] at he
      obtain ⟨rfl, rfl⟩ := he
      have hx : Hid (l[k]? = some l[k]) := List.getElem?_eq_getElem hkt
      generalize l[k] = x at hcell hx
      have hxs := UInt8.toNat_lt x
      have hxl := hexB_length l k (by omega)
      have hs := hexB_succ hx
      have h15 := and15 x
      rw [Nat.zero_add] at hcell
      clear hRd
      go_wp2_with (go_at_call 64; (with_reducible refine (writeByte_apart _ _ _ _ _ ?lo ?hi hB ?hl hsz).mono ?_))
      case lo => omega
      case hi => have := bt_lt digs (x.toNat / 16); exact Int.ofNat_lt.2 this
      case hl => omega
      rintro e w2 ⟨rfl, hB2, ha2⟩
      rw [of_bt] at hB2
      have hs2 := ha2.size
      go_wp2_with (go_at_call 64; (with_reducible refine (writeByte_apart _ _ _ _ _ ?lo ?hi hB2 ?hl ?hs).mono ?_))
      case lo => omega
      case hi => have := bt_lt digs (x.toNat % 16); exact Int.ofNat_lt.2 this
      case hl => simp; omega
      case hs => omega
      rintro e w3 ⟨rfl, hB3, ha3⟩
      rw [of_bt] at hB3
      go_wp2
      go_roundw
      case rel => exact ⟨k + 1, by omega, by go_num, by rw [hs, dig2]; rw [List.append_assoc] at hB3; exact hB3, (hap.trans ha2).trans ha3⟩
      case measure => simp [intOf]; omega
    · obtain rfl : k = l.length := by omega
      go_wp2_with (go_at_call 65; (with_reducible refine (string_walk w.heap.size _ _ _ (hB.bld (by omega) (Nat.le_refl _)) (by omega)).mono ?_))
      rintro e w3 ⟨rfl, hb3⟩
      go_wp2
      go_ret
      exact ⟨rfl, (hap.below hb0 (by omega) (Nat.le_refl _)).trans hb3⟩
theorem step_appn {P : Program} {w w0 : World} {B : Nat} {ops : Array Oper} {o : Oper} {a : Act} {K : Act → World → Prop} {Q : Exit → Act → World → Prop} {E : Prop} (hgd : o.guard = none) (s x : Operand) (t : TypeId)
    (ho : o.op = .call { callee := .builtin .append, args := #[s, x], argTypes := #[t, t] }) {e : TypeId} {z : Value} {size bytes : Nat} (hE : ElemOf P t e z size bytes)
    {base : Nat} {sa : Option Addr} {n cap : Nat} {xs : List Value} (hs : a.eval s = .slice sa n cap) (hown : Ow w base size sa n cap xs) (hb : Below B w0 w) (hB : B ≤ base) (hbase : base ≤ w.heap.size)
    {m c : Nat} {cs : List Value} {e' : TypeId} (hx : a.eval x = .slice (some ⟨w.heap.size, 0, none⟩) m c) (hcs : cs.length = m * size) (h1 : ∀ u ∈ cs, u.oneCell' = true) (hbytes : (n + m) * bytes ≤ 140737488355328)
    (hK : ∀ a' cap' w1, Ow w1 base size a' (n + m) cap' (xs ++ cs) → Below B w0 w1 → w.grownBy w1 (rowOf sa) → K (a.put o.dst (.slice a' (n + m) cap')) w1) :
    if Region.wanted o (yielded ops a.tmps) = true then Oper.wp P o a (w.alloc (.cells cs.toArray e')) K Q else E := by
  have hw : Region.wanted o (yielded ops a.tmps) = true := by simp [Region.wanted, hgd]
  rw [if_pos hw]
  have hg := World.grownBy_alloc w (.cells cs.toArray e') none
  obtain ⟨a', cap', w', hr, h2, h3⟩ := run_app (P := P) (w.alloc (.cells cs.toArray e')) base t t o.type e hE sa n cap xs (hown.kept hg (by cases rowOf sa <;> simp))
    (.slice (some ⟨w.heap.size, 0, none⟩) m c) m cs (Src.slice hE.u hcs (Rd.mk fun j u hj => by rw [Nat.zero_add, World.cell?_alloc_at _ _ _ _ rfl]; simpa using hj) h1) hbytes (by simp; omega)
  unfold Oper.wp execOp
  simp only [ho, resolve, invoke, builtin, Sem.run_bind, Sem.run_pure, Result.andThen_ok, List.map_toArray, List.map_cons, List.map_nil, hs, hx, hr]
  have hrow := hown.row
  exact hK a' cap' w' h2 ((hb.alloc (by omega) _).grown h3 (by simp; omega) (fun k hk => by have := (hrow k hk).1; omega)) ⟨h3.os, h3.tape, h3.output, by have := h3.size; simp at this; omega, fun k hk hne => (h3.block k (by simp; omega) hne).trans (Below.heap_alloc w _ k hk)⟩
set_option maxRecDepth 100000 in
theorem rhex_walk (l : List UInt8) (w : World) (hl : l.length ≤ 70368744000000) :
    Calls Try.prog 37 #[.string ⟨l.toArray⟩] w fun e w' => e = .returned (.string ⟨(hexB l l.length).toArray⟩) ∧ Below w.heap.size w w' := by
  go_enter Try.func37, Try.ntmps37
  go_wp2
  go_loopw [3, 4, 7] (fun v _ i wr => ∃ (k : Nat) (L : List UInt8) (a : Option Addr) (cap : Nat), k ≤ l.length ∧ i = .int .i64 (k : Int) ∧ v = .slice a L.length cap ∧ L = hexB l k ∧ Ow wr w.heap.size 1 a L.length cap (u8s L) ∧ Below w.heap.size w wr) (fun _ _ i _ => l.length - (intOf i).toNat)
  case atStart => exact ⟨0, [], none, 0, by omega, rfl, rfl, rfl, Ow.nil _ _ _, Below.refl _ _⟩
  case round =>
    obtain ⟨k, L, sa, cap, hk, rfl, rfl, hL, hown, hbel⟩ := hrel
    have hxl := hexB_length l k hk
    rw [← hL] at hxl
    have hle : L.length ≤ 140737488000000 := by omega
    have HL := Lib.hid hL
    clear hL hxl
    by_cases hkt : k < l.length
    · have hx : Hid (l[k]? = some l[k]) := List.getElem?_eq_getElem hkt
      have hs := hexB_succ hx
      have hbt : bt l k = l[k].toNat := by rw [bt, hx.out]; rfl
      generalize l[k] = x at hx hs hbt
      have hxs := UInt8.toNat_lt x
      have h15 := and15 x
      obtain ⟨u, hu⟩ : ∃ u : Nat, u = x.toNat / 16 := ⟨_, rfl⟩
      obtain ⟨v, hv⟩ : ∃ v : Nat, v = x.toNat % 16 := ⟨_, rfl⟩
      have hui : (x.toNat : Int) / 16 = (u : Int) := by omega
      rw [← hv] at h15
      have hu16 : (u : Int) < 16 := by omega
      have hv16 : (v : Int) < 16 := by omega
      have hu16' : u < 16 := by omega
      have hv16' : v < 16 := by omega
      have HU := Lib.hid hu
      have HV := Lib.hid hv
      clear hu hv hxs
      have hki : (k : Int) < (l.length : Int) := by omega
      go_wp2
      have hown' : Ow wr.drew w.heap.size 1 sa L.length cap (u8s L) := hown
      have hbel' : Below w.heap.size w wr.drew := hbel.drew
      go_region_law (refine step_appn (w0 := w) (B := w.heap.size) rfl _ _ _ rfl el8 rfl hown' hbel' (Nat.le_refl _) hbel'.size (m := 2) (cs := [_, _]) rfl rfl ?one ?bytes ?_; (case one => intro u hu; simp at hu; rcases hu with rfl | rfl <;> rfl); (case bytes => omega); intro a2 cap2 w2 hown2 hbel2 _)
      all_goals
        have e2 : u8s L ++ [.int .u8 ((bt digs u : Nat) : Int), .int .u8 ((bt digs v : Nat) : Int)] = u8s (L ++ dig2 x) := by
          rw [u8s_append, HU.out, HV.out]; simp [u8s, dig2, bt, List.getD]
        have hown3 : Ow w2 w.heap.size 1 a2 (L.length + 2) cap2 (u8s (L ++ dig2 x)) := by rw [← e2]; exact hown2
        clear e2 hown2
        go_wp2
        refine ⟨⟨k + 1, L ++ dig2 x, a2, cap2, by omega, by go_num, by simp [dig2], by rw [HL.out, hs], by rw [List.length_append]; exact hown3, hbel2⟩, ?_⟩
        simp [intOf]; omega
    · obtain rfl : k = l.length := by omega
      have hcv := run_bytes_str (P := Try.prog) wr 49 9 5 Try.underlying49 Try.underlying5 Try.underlying9 (n := L.length) (c := cap) rfl hown.rd
      go_wp2
      go_ret
      exact ⟨ret_str HL.out, hbel⟩
end Go.Proofs.Ytcppedmcchhhoaa
