/- The sum: the program's. -/
import Derived.Test.YtnahkfchcminpaaGreatDoorDigestA
import Derived.Test.YtnahkfchcminpaaGreatDoorGBuild
import Derived.BigRegion
import Derived.Deep.RegionWith
namespace Go.Proofs.YtnahkfchcminpaaGreatDoor
open Go.RowKit
theorem H0_length : H0.length = 8 := rfl
theorem KS_length : KS.length = 64 := rfl
theorem u32s_one (l : List Int) : ∀ v ∈ u32s l, v.oneCell' = true := by intro v hv; obtain ⟨_, _, rfl⟩ := List.mem_map.1 hv; rfl
/-- words stored into a new block -/
theorem Wd.laid {w : World} {t : TypeId} {old : Array Value} {L : List Int} (Q : World → Prop)
    (h : ∀ w', Below w.heap.size w w' → Wd w' w.heap.size t L → Q w') : Q ((w.alloc (.cells old t)).setRow w.heap.size (u32s L).toArray) :=
  h _ ⟨rfl, rfl, rfl, by simp, fun k hk => (setRow_other _ _ _ _ (by omega)).trans (Below.heap_alloc w _ k hk)⟩ (setRow_heap _ _ _ _ _ _ (heap_alloc_new w _))
theorem Wd.grown {w w' : World} {g : Nat} {t : TypeId} {L : List Int} {row : Option Nat} (h : Wd w g t L) (hg : w.grownBy w' row) (hne : some g ≠ row) : Wd w' g t L := (hg.block g h.lt hne).trans h
/-- the state behind j parts -/
def stage (parts : List (List UInt8)) : Nat → List Int
  | 0 => H0
  | j + 1 => absorb KS (stage parts j) (parts.getD j []) ((parts.getD j []).length / 64)
theorem stage_length (parts : List (List UInt8)) (j : Nat) : (stage parts j).length = 8 := by
  induction j with
  | zero => rfl
  | succ j ih => rw [stage, absorb_length, ih]
/-- block g holds the bytes l -/
def Bk (w : World) (g : Nat) (t : TypeId) (l : List UInt8) : Prop := w.heap[g]? = some (.cells (u8s l).toArray t (0, 0))
theorem Bk.lt {w : World} {g : Nat} {t : TypeId} {L : List UInt8} (h : Bk w g t L) : g < w.heap.size := (Array.getElem?_eq_some_iff.1 h).1
theorem Bk.cell {w : World} {g : Nat} {t : TypeId} {L : List UInt8} (h : Bk w g t L) {j : Nat} {c : UInt8} (hj : L[j]? = some c) : w.cell? ⟨g, j, none⟩ = some (.int .u8 (c.toNat : Int)) := by
  rw [Lib.cell_of_heap h]
  simp [u8s, hj]
theorem Bk.free {w : World} {g : Nat} {t : TypeId} {L : List UInt8} (h : Bk w g t L) (j : Nat) : w.frozen? ⟨g, j, none⟩ = false := Lib.frozen_of_heap h j
theorem Bk.keep {w w' : World} {g : Nat} {t : TypeId} {L : List UInt8} (h : Bk w g t L) (hb : Below w.heap.size w w') : Bk w' g t L := (hb.block g h.lt).trans h
theorem Bk.set {w : World} {g : Nat} {t : TypeId} {L : List UInt8} (h : Bk w g t L) (j : Nat) (x : Int) (c : UInt8) (hx : x = (c.toNat : Int)) : Bk (w.setCell ⟨g, j, none⟩ (.int .u8 x)) g t (L.set j c) := by
  rw [Bk, Joins.block_setCell h]
  subst hx
  simp [u8s, ← List.map_set]
theorem Bk.rd {w : World} {g : Nat} {t : TypeId} {L : List UInt8} (h : Bk w g t L) : Rd w (some ⟨g, 0, none⟩) (u8s L) :=
  Rd.mk fun j u hj => by rw [Nat.zero_add, Lib.cell_of_heap h]; simpa using hj
theorem Bk.new {w : World} {t : TypeId} (Q : World → Prop) (L : List UInt8) (h : ∀ w', Below w.heap.size w w' → Bk w' w.heap.size t L → Q w') : Q (w.alloc (.cells (u8s L).toArray t)) :=
  h _ ((Below.refl _ _).alloc (Nat.le_refl _) _) (heap_alloc_new w _)
theorem zero_at (A : List UInt8) (n m j : Nat) (h : A.length = n) (hj : n ≤ j) (hm : j < n + m) : (A ++ List.replicate m 0)[j]? = some 0 := by
  rw [List.getElem?_append_right (by omega), List.getElem?_replicate, if_pos (by omega)]
theorem put4 (A : List UInt8) (n m : Nat) (a b c d : UInt8) (h : A.length = n) :
    ((((A ++ List.replicate (m + 4) 0).set n a).set (n + 1) b).set (n + 2) c).set (n + 3) d = A ++ [a, b, c, d] ++ List.replicate m 0 := by
  subst h
  simp [List.replicate_succ]
theorem byte_eq {y : Int} (h0 : 0 ≤ y) (h1 : y < 256) : y = ((UInt8.ofNat y.toNat).toNat : Int) := by simp; omega
def strLen : Value → Nat
  | .string s => s.size
  | _ => 0
set_option maxRecDepth 100000 in
theorem sum_walk (l : List UInt8) (w : World) (hl : l.length ≤ 140737488000000) :
    Calls Tryz.prog 94 #[.string ⟨l.toArray⟩] w fun e w' => e = .returned (.string ⟨(sha l).toArray⟩) ∧ Below w.heap.size w w' := by
  go_enter Tryz.func94, Tryz.ntmps94
  go_wp2_with (go_at_call 104; (with_reducible refine (begin_walk _).mono ?_))
  rintro e w1 ⟨rfl, hb1⟩
  go_wp2_with (go_at_call 105; (with_reducible refine (constants_walk _).mono ?_))
  rintro e w2 ⟨rfl, hK, hb2⟩
  go_wp2
  rw [run_storeCells_from (P := Tryz.prog) w2.heap.size 113 (u32s H0) 0 _ _ (heap_alloc_new w2 _) (by kernel_rfl) (u32s_one _)]
  simp only [Result.andThen]
  go_wp2
  refine Wd.laid (L := H0) (Code.wp _ _ _ _) ?_
  intro w3 hb3 hS
  obtain ⟨m, hm⟩ : ∃ m, m = l.length / 64 := ⟨_, rfl⟩
  obtain ⟨b, hb⟩ : ∃ b, b = 64 * m := ⟨_, rfl⟩
  have hq : (l.length : Int) / 64 * 64 = (b : Int) := by omega
  rw [hq]
  have hml : b ≤ l.length := by omega
  have hmi : (b : Int) ≤ (l.length : Int) := by omega
  have hbm : l.length ≤ b + 63 := by omega
  have HB := Lib.hid hb
  clear hq hb
  have HM := Lib.hid hm
  clear hm
  generalize hgs : w2.heap.size = gs at hS
  generalize hgk : w1.heap.size = gk at hK
  have hrest : ∀ W, Calls Tryz.prog 106 #[.string ⟨((l.drop b).take (l.length - b)).toArray⟩, .int .i64 l.length] W fun e w' => e = .returned (.string ⟨((l.drop b).take (l.length - b) ++ tailOf l.length).toArray⟩) ∧ Below W.heap.size W w' := fun W =>
    rest_walk _ _ W (by have := HB.out; simp; omega) (by simp; omega) hl
  have hl3 := hb3.size
  go_cut [26, 27, 28] from 17 to 28 (fun s n z wx => ∃ g, w3.heap.size ≤ g ∧ s = .slice (some ⟨g, 0, none⟩) 2 2 ∧ n = .int .i64 2 ∧ z = .int .i64 0 ∧ Below w3.heap.size w3 wx ∧ Rd wx (some ⟨g, 0, none⟩) (strs [l.take b, (l.drop b).take (l.length - b) ++ tailOf l.length]))
  case first =>
    go_region_with (go_at_call 106; refine (hrest _).mono ?_; rintro e w5 ⟨rfl, hb5⟩)
    all_goals
      go_wp2_with fail
      go_meet
      have hb6 := (Below.refl w3.heap.size w3).drew.trans hb5
      refine ⟨w5.heap.size, hb6.size, rfl, rfl, rfl, ?_, ?_⟩
      · exact hb6.alloc hb6.size _
      · exact Rd.mk fun j u hj => by rw [Nat.zero_add, World.cell?_alloc_at _ _ _ _ rfl]; simpa [strs] using hj
  case rest =>
    obtain ⟨g, hg3, rfl, rfl, rfl, hbx, hR⟩ := hcut
    have hSl := hS.lt
    have hgg : gk < gs := by rw [← hgs]; exact hK.lt
    have hwg : w.heap.size ≤ gs := by rw [← hgs]; exact Nat.le_trans hb1.size hb2.size
    have hbw : Below w.heap.size w wc := ((hb1.trans (hb2.mono hb1.size)).trans (hb3.mono (by rw [hgs]; exact hwg))).trans (hbx.mono (by omega))
    have hS3 := hS.keep hbx
    have hK3 := (hK.keep hb3).keep hbx
    clear hrest hb1 hb2 hb3 hbx hS hK hl3
    go_wp2
    go_loopw [7, 28] (fun _ i wr => ∃ (j : Nat) (H : List Int), j ≤ 2 ∧ i = .int .i64 (j : Int) ∧ H = stage [l.take b, (l.drop b).take (l.length - b) ++ tailOf l.length] j ∧ Below w.heap.size w wr ∧ Wd wr gs 113 H ∧ Wd wr gk 101 KS ∧ Rd wr (some ⟨g, 0, none⟩) (strs [l.take b, (l.drop b).take (l.length - b) ++ tailOf l.length])) (fun _ i _ => 2 - (intOf i).toNat)
    case atStart => exact ⟨0, H0, by omega, rfl, rfl, hbw, hS3, hK3, hR⟩
    case round =>
      clear hS3 hK3 hR hbw
      obtain ⟨j, H, hj, rfl, hH, hbw, hS, hK, hR⟩ := hrel
      have hHl : H.length = 8 := by rw [hH, stage_length]
      have HH := Lib.hid hH
      clear hH
      by_cases hlt : j < 2
      · obtain ⟨g', off', x, hga, hcell, hx⟩ := hR.str (k := j) (by simpa using hlt)
        simp only [Option.some.injEq, Addr.mk.injEq, and_true] at hga
        obtain ⟨rfl, rfl⟩ := hga
        rw [Nat.zero_add] at hcell
        obtain ⟨N, hN⟩ : ∃ N, N = x.length / 64 := ⟨_, rfl⟩
        have hxl : x.length = 64 * N := by
          have hb := HB.out
          match j, hlt, hx.out with
          | 0, _, h => simp at h; rw [hN, ← h]; simp; omega
          | 1, _, h => simp at h; rw [hN, ← h]; simp [tailOf_length, zeros]; omega
        have hx2 : absorb KS H x N = stage [l.take b, (l.drop b).take (l.length - b) ++ tailOf l.length] (j + 1) := by
          rw [stage, ← HH.out, List.getD, hx.out, hN]; rfl
        have HX := Lib.hid hx2
        have HXl := Lib.hid hxl
        have hj1 : decide ((j : Int) < 2) = true := by simp; omega
        clear hN hx2 hxl
        go_wp2
        go_loopw [7] (fun p wr => ∃ (k : Nat) (G : List Int) (y : List UInt8), k ≤ N ∧ p = .string ⟨y.toArray⟩ ∧ y = x.drop (64 * k) ∧ G = absorb KS H x k ∧ Below w.heap.size w wr ∧ Wd wr gs 113 G ∧ Wd wr gk 101 KS ∧ Rd wr (some ⟨g, 0, none⟩) (strs [l.take b, (l.drop b).take (l.length - b) ++ tailOf l.length])) (fun p _ => strLen p)
        case atStart => exact ⟨0, H, x, by omega, rfl, rfl, rfl, hbw, hS, hK, hR⟩
        case round =>
          clear hS hK hR hbw hcell
          obtain ⟨k, G, y, hk, rfl, hy, hG, hbw, hS, hK, hR⟩ := hrel
          have hGl : G.length = 8 := by rw [hG, absorb_length, hHl]
          have hyl : y.length = 64 * (N - k) := by rw [hy, List.length_drop, HXl.out]; omega
          have HY := Lib.hid hy
          have HG := Lib.hid hG
          clear hy hG
          by_cases hkt : k < N
          · have hy64 : 64 ≤ y.length := by omega
            have hne : (y == []) = false := by rw [beq_eq_false_iff_ne]; intro h; rw [h] at hy64; simp at hy64
            have HYl := Lib.hid hyl
            clear hyl
            go_wp2_with (go_at_call 107; (with_reducible refine (add_walk _ _ _ _ hy64 _ _ hGl KS_length hS hK).mono ?_))
            rintro e w6 ⟨rfl, hS6, hgr⟩
            go_wp2
            go_roundw
            case rel =>
              refine ⟨k + 1, blockSum KS G y, _, by omega, rfl, ?_, ?_, hbw.grown hgr hbw.size (by intro k hk; simp at hk; omega), hS6, hK.grown hgr (by simp; omega), hR.grown hgr (by intro g1 o1 h1; simp at h1; simp; omega)⟩
              · rw [List.take_of_length_le (by simp), HY.out, List.drop_drop]; congr 1
              · rw [absorb, ← HG.out, ← HY.out]
            case measure => simp [strLen, ByteArray.size]; omega
          · obtain rfl : k = N := by omega
            have hne : y = [] := List.eq_nil_of_length_eq_zero (by omega)
            subst hne
            go_wp2
            go_roundw
            case rel => exact ⟨j + 1, G, by omega, by go_num, by rw [HG.out, HX.out], hbw, hS, hK, hR⟩
            case measure => simp [intOf]; omega
      · obtain rfl : j = 2 := by omega
        have hfin : sha l = outBytes H 8 := by
          rw [sha_parts l m HM.out, HH.out]
          have hb := HB.out
          have h1 : (l.take b).length / 64 = m := by simp; omega
          have h2 : ((l.drop b).take (l.length - b) ++ tailOf l.length).length / 64 = blocksOf l.length - m := by simp [tailOf_length, blocksOf]; omega
          have h3 : (l.drop b).take (l.length - b) = l.drop b := List.take_of_length_le (by simp)
          simp only [stage, List.getD, List.getElem?_cons_zero, List.getElem?_cons_succ, Option.getD_some, h1, h2]
          rw [h3, hb]
        have HF := Lib.hid hfin
        clear hfin hR hK HH HB HM
        have hslt := hS.lt
        obtain ⟨v0, v1, v2, v3, v4, v5, v6, v7, rfl⟩ := eight hHl
        have c0 := hS.cell0 (j := 0) (x := v0) rfl
        have c1 := hS.cell0 (j := 1) (x := v1) rfl
        have c2 := hS.cell0 (j := 2) (x := v2) rfl
        have c3 := hS.cell0 (j := 3) (x := v3) rfl
        have c4 := hS.cell0 (j := 4) (x := v4) rfl
        have c5 := hS.cell0 (j := 5) (x := v5) rfl
        have c6 := hS.cell0 (j := 6) (x := v6) rfl
        have c7 := hS.cell0 (j := 7) (x := v7) rfl
        go_wp2
        clear c0 c1 c2 c3 c4 c5 c6 c7 hS hslt
        generalize hV : [v0, v1, v2, v3, v4, v5, v6, v7] = V at HF hHl
        refine Bk.new (Code.wp _ _ _ _) (outBytes V 0 ++ List.replicate (32 - 4 * 0) 0) ?_
        intro w7 hb7 hO
        have hbo := hbw.trans (hb7.mono hbw.size)
        have hgo := hbw.size
        generalize hog : wr.heap.size = og at hO hgo
        clear hb7 hbw
        go_loopw [9, 10, 41] (fun _ _ i wr => ∃ k : Nat, k ≤ 8 ∧ i = .int .i64 (k : Int) ∧ Below w.heap.size w wr ∧ Bk wr og 119 (outBytes V k ++ List.replicate (32 - 4 * k) 0)) (fun _ _ i _ => 8 - (intOf i).toNat)
        case atStart => exact ⟨0, by omega, rfl, hbo, hO⟩
        case round =>
          clear hbo hO
          obtain ⟨k, hk, rfl, hbo, hO⟩ := hrel
          by_cases hkt : k < 8
          · have q0 := hO.cell (zero_at _ (4 * k) _ (4 * k) (outBytes_length _ _) (by omega) (by omega))
            have q1 := hO.cell (zero_at _ (4 * k) _ (4 * k + 1) (outBytes_length _ _) (by omega) (by omega))
            have q2 := hO.cell (zero_at _ (4 * k) _ (4 * k + 2) (outBytes_length _ _) (by omega) (by omega))
            have q3 := hO.cell (zero_at _ (4 * k) _ (4 * k + 3) (outBytes_length _ _) (by omega) (by omega))
            have f0 := hO.free (4 * k)
            have f1 := hO.free (4 * k + 1)
            have f2 := hO.free (4 * k + 2)
            have f3 := hO.free (4 * k + 3)
            have hvk : V[k]? = some (V.getD k 0) := by simp [List.getD, show k < V.length by omega]
            generalize hvd : V.getD k 0 = v at hvk
            have hix := index8 wr Tryz.underlying113 (u32s V).toArray k hkt (.int .u32 v) (by simpa using u32s_get hvk)
            rw [← hV] at hix
            simp only [u32s, List.map_cons, List.map_nil] at hix
            have HVD := Lib.hid hvd
            clear hvd hvk
            go_wp2
            refine ⟨⟨k + 1, by omega, by go_num, (((hbo.setCell (p := ⟨og, 4 * k, none⟩) hgo _).setCell (p := ⟨og, 4 * k + 1, none⟩) hgo _).setCell (p := ⟨og, 4 * k + 2, none⟩) hgo _).setCell (p := ⟨og, 4 * k + 3, none⟩) hgo _, ?_⟩, ?measure⟩
            · have h4 := (((hO.set (4 * k) (v / 16777216 % 256) _ (byte_eq (by omega) (by omega))).set (4 * k + 1) (v / 65536 % 256) _ (byte_eq (by omega) (by omega))).set (4 * k + 2) (v / 256 % 256) _ (byte_eq (by omega) (by omega))).set (4 * k + 3) (v % 256) _ (byte_eq (by omega) (by omega))
              rw [show 32 - 4 * k = (32 - 4 * (k + 1)) + 4 by omega, put4 _ _ _ _ _ _ _ (outBytes_length V k)] at h4
              rw [outBytes, HVD.out]
              exact h4
            case measure => simp [intOf]; omega
          · obtain rfl : k = 8 := by omega
            have hO2 : Bk wr og 119 (sha l) := by
              have h0 : outBytes V 8 ++ List.replicate (32 - 4 * 8) 0 = sha l := by rw [HF.out]; simp
              rw [← h0]; exact hO
            have hcv := run_bytes_str (P := Tryz.prog) wr 77 9 5 Tryz.underlying77 Tryz.underlying5 Tryz.underlying9 (n := 32) (c := 32) (sha_length l) hO2.rd
            clear hO
            go_wp2
            go_ret
            exact ⟨rfl, hbo⟩
end Go.Proofs.YtnahkfchcminpaaGreatDoor
