/- The walk of the law on sums. -/
import Derived.Test.YtcppedmcchhhoaaDigestL
import Derived.BigRegion
namespace Go.Proofs.Ytcppedmcchhhoaa
open Go.RowKit
theorem made_str {P : Program} (W : World) (src dst e : TypeId) (hs : P.underlying src = some (.slice e)) (he : P.underlying e = some (.int .u8)) (hd : P.underlying dst = some .string) (g k : Nat)
    (h : W.heap[g]? = some (.cells (madeCells #[.int .u8 0] k) e (0, 0))) : (convert src dst (.slice (some ⟨g, 0, none⟩) k k)).run P W = .ok (.string ⟨(List.replicate k (0 : UInt8)).toArray⟩) W :=
  run_bytes_str W src dst e hs he hd (l := List.replicate k 0) (by simp) (Rd.mk fun j u hj => by
    rw [Nat.zero_add, Lib.cell_of_heap h, ← Array.getElem?_toList, toList_madeCells_one]
    simpa [u8s] using hj)
theorem make_run {P : Program} (W : World) {t e : TypeId} {z : Value} {bytes : Nat} (hE : ElemOf P t e z 1 bytes) (hz : z.cells = #[z]) (ki : IntKind) (n : Nat) (hn : bytes * n ≤ 140737488355328) :
    (Instr.makeSlice t (.int ki (n : Int)) (.int ki (n : Int))).run P W = .ok (.slice (some ⟨W.heap.size, 0, none⟩) n n) (W.alloc (.cells (madeCells #[z] n) e)) := by
  obtain ⟨i, hi, hzz, hsize, hby⟩ := info_parts hE.i
  have hn1 : n ≤ bytes * n := Nat.le_mul_of_pos_left n hE.b
  have h := run_make (P := P) W t e i z hE.u hi hzz ki ki n n (by omega) (Int.le_refl _) (by rw [hby, ← Int.natCast_mul]; omega) (by omega)
  rw [hz, hsize, Int.toNat_natCast, Nat.mul_one] at h
  exact h
theorem alloc2_0 (W : World) (A B : Obj) : ((W.alloc A).alloc B).heap[W.heap.size]? = some A := (Lib.alloc_old _ B _ (by simp)).trans (heap_alloc_new W A)
theorem alloc2_1 (W : World) (A B : Obj) : ((W.alloc A).alloc B).heap[W.heap.size + 1]? = some B := by
  have h : (W.alloc A).heap.size = W.heap.size + 1 := by simp
  rw [← h]
  exact heap_alloc_new _ B
set_option maxRecDepth 100000 in
theorem sums_walk (W : World) (s : List UInt8) (hs : s.length ≤ 140737488351232) (more : Int) (hm0 : 0 ≤ more) (hm1 : more < 65536) :
    Calls Try.prog 9 #[.string ⟨s.toArray⟩, .int .u16 more] W fun e w' => e = .returned (.bool true) ∧ Below W.heap.size W w' := by
  go_enter Try.func9, Try.ntmps9
  by_cases hl : s.length > 1000
  · go_wp2_with (go_at_call 33; (with_reducible refine (awake33_walk _).mono ?_))
    rintro e w1 ⟨rfl, hb1⟩
    go_wp2
    go_ret
    exact ⟨rfl, hb1⟩
  · obtain ⟨a, ha⟩ : ∃ a : Nat, more % 300 = (a : Int) := ⟨(more % 300).toNat, by omega⟩
    obtain ⟨b, hb⟩ : ∃ b : Nat, 50 + more % 20 = (b : Int) := ⟨(50 + more % 20).toNat, by omega⟩
    have ha3 : a < 300 := by omega
    have hb3 : b < 70 := by omega
    have hs1 : s.length ≤ 1000 := by omega
    go_wp2
    have mA : ∀ V, (Instr.makeSlice 49 (.int .u16 (a : Int)) (.int .u16 (a : Int))).run Try.prog V = _ := fun V => make_run V el8 rfl .u16 a (by omega)
    have mB : ∀ V, (Instr.makeSlice 49 (.int .u16 (b : Int)) (.int .u16 (b : Int))).run Try.prog V = _ := fun V => make_run V el8 rfl .u16 b (by omega)
    obtain ⟨za, hza⟩ : ∃ z, z = List.replicate a (0 : UInt8) := ⟨_, rfl⟩
    obtain ⟨zb, hzb⟩ : ∃ z, z = List.replicate b (0 : UInt8) := ⟨_, rfl⟩
    have cA := fun (V : World) (g : Nat) (h : V.heap[g]? = some (.cells (madeCells #[.int .u8 0] a) 5 (0, 0))) => made_str (P := Try.prog) V 49 9 5 Try.underlying49 Try.underlying5 Try.underlying9 g a h
    have cB := fun (V : World) (g : Nat) (h : V.heap[g]? = some (.cells (madeCells #[.int .u8 0] b) 5 (0, 0))) => made_str (P := Try.prog) V 49 9 5 Try.underlying49 Try.underlying5 Try.underlying9 g b h
    rw [← hza] at cA
    rw [← hzb] at cB
    have hzal : za.length = a := by rw [hza]; simp
    have hzbl : zb.length = b := by rw [hzb]; simp
    clear hza hzb
    have c1 := cA (W.alloc (.cells (madeCells #[.int .u8 0] a) 5)).drew W.heap.size (heap_alloc_new W _)
    have c2 := cB (W.alloc (.cells (madeCells #[.int .u8 0] b) 5)).drew W.heap.size (heap_alloc_new W _)
    have c3 := cA ((W.alloc (.cells (madeCells #[.int .u8 0] a) 5)).alloc (.cells (madeCells #[.int .u8 0] b) 5)).drew W.heap.size (alloc2_0 W _ _)
    have c4 := cB ((W.alloc (.cells (madeCells #[.int .u8 0] a) 5)).alloc (.cells (madeCells #[.int .u8 0] b) 5)).drew (W.heap.size + 1) (alloc2_1 W _ _)
    have c5 := cB ((W.alloc (.cells (madeCells #[.int .u8 0] b) 5)).alloc (.cells (madeCells #[.int .u8 0] a) 5)).drew W.heap.size (alloc2_0 W _ _)
    have c6 := cA ((W.alloc (.cells (madeCells #[.int .u8 0] b) 5)).alloc (.cells (madeCells #[.int .u8 0] a) 5)).drew (W.heap.size + 1) (alloc2_1 W _ _)
    clear cA cB
    go_cut [23, 24, 25] from 11 to 25 (fun v n i wx => ∃ g, v = .slice (some ⟨g, 0, none⟩) 3 3 ∧ n = .int .i64 3 ∧ i = .int .i64 0 ∧ Below W.heap.size W wx ∧ Rd wx (some ⟨g, 0, none⟩) (strs [s, s ++ za, zb]))
    case first =>
      go_region
      all_goals
        go_wp2_with fail
        go_meet
        refine ⟨_, rfl, rfl, rfl, (((((Below.refl W.heap.size W).alloc (by simp) _).alloc (by simp) _).alloc (by simp; omega) _)).drew, ?_⟩
        refine Rd.mk fun j u hj => ?_
        rw [Nat.zero_add, show ∀ V a, World.cell? (World.drew V) a = V.cell? a from fun _ _ => rfl, World.cell?_alloc_at _ _ _ _ (by simp)]
        simpa [strs] using hj
    case rest =>
      obtain ⟨g, rfl, rfl, rfl, hbx, hR⟩ := hcut
      clear mA mB c1 c2 c3 c4 c5 c6
      go_wp2
      go_loopw [6, 25] (fun _ i wr => ∃ (k : Nat), k ≤ 3 ∧ i = .int .i64 (k : Int) ∧ Below W.heap.size W wr ∧ Rd wr (some ⟨g, 0, none⟩) (strs [s, s ++ za, zb])) (fun _ i _ => 3 - (intOf i).toNat)
      case atStart => exact ⟨0, by omega, rfl, hbx, hR⟩
      case round =>
        clear hbx hR
        obtain ⟨k, hk, rfl, hbx, hR⟩ := hrel
        by_cases hkt : k < 3
        · obtain ⟨g', off', x, he, hcell, hx⟩ := hR.str (k := k) (by simpa using hkt)
          simp only [Option.some.injEq, Addr.mk.injEq, and_true] at he
          obtain ⟨rfl, rfl⟩ := he
          rw [Nat.zero_add] at hcell
          have hxl : x.length ≤ 1300 := by
            have hm := mem_at hx
            simp at hm
            rcases hm with rfl | rfl | rfl
            · omega
            · simp; omega
            · omega
          have hx1 : x.length ≤ 140737488000000 := by omega
          have hx2 : x.length ≤ 70368744000000 := by omega
          go_wp2_with (go_at_call 34; (with_reducible refine (sum_walk _ _ hx1).mono ?_))
          rintro e w1 ⟨rfl, hb1⟩
          go_wp2_with (go_at_call 35; (with_reducible refine (rsum_walk _ _ hx1).mono ?_))
          rintro e w2 ⟨rfl, hb2⟩
          go_wp2_with (go_at_call 36; (with_reducible refine (hex_walk _ _ hx2).mono ?_))
          rintro e w3 ⟨rfl, hb3⟩
          go_wp2_with (go_at_call 37; (with_reducible refine (rhex_walk _ _ hx2).mono ?_))
          rintro e w4 ⟨rfl, hb4⟩
          have hb := below_tr (below_tr (below_tr hb1 hb2) hb3) hb4
          go_wp2
          go_roundw
          case rel => exact ⟨k + 1, by omega, by go_num, hbx.trans (hb.mono hbx.size), hR.keep hb⟩
          case measure => simp [intOf]; omega
        · obtain rfl : k = 3 := by omega
          go_wp2_with (go_at_call 33; (with_reducible refine (awake33_walk _).mono ?_))
          rintro e w1 ⟨rfl, hb1⟩
          go_wp2
          go_ret
          exact ⟨rfl, hbx.trans (hb1.mono hbx.size)⟩
end Go.Proofs.Ytcppedmcchhhoaa
