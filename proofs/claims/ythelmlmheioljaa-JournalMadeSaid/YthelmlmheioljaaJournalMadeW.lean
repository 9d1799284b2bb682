/- The walk of the law JournalMade. -/
import Derived.Test.YthelmlmheioljaaJournalW
import Derived.Test.YthelmlmheioljaaSpoil
namespace Go.Proofs.Ythelmlmheioljaa
open Go.RowKit
theorem mel8 : ElemOf Try.prog 34 5 (.int .u8 0) 1 1 := ⟨Try.underlying34, by kernel_rfl, rfl, by decide, by decide⟩
/-- what Of gives of small numbers, as a number -/
theorem ofF_nat {l : List Int} {k : Nat} {xs : List Int} (h : 1 ≤ xs.length) (b : Nat) (hx : ∀ x ∈ xs, 0 ≤ x ∧ x ≤ (b : Int)) : ∃ z : Nat, ofF l k xs = (z : Int) ∧ z ≤ b := by
  have := hx _ (ofF_mem l k xs h)
  exact ⟨(ofF l k xs).toNat, by omega, by omega⟩
theorem Dk.grown {w w' : World} {g : Nat} {d : List UInt8} {f : Int} {b : Bool} {row : Option Nat} (h : Dk w g d f b) (hg : w.grownBy w' row) (hne : some g ≠ row) : Dk w' g d f b := (hg.block g h.lt hne).trans h
theorem Dk.set0 {w : World} {g : Nat} {d : List UInt8} {f : Int} {b : Bool} (h : Dk w g d f b) (d' : List UInt8) : Dk (w.setCell ⟨g, 0, none⟩ (.string ⟨d'.toArray⟩)) g d' f b := by
  have h' : w.heap[g]? = some (.cells #[.string ⟨d.toArray⟩, .int .i64 f, .bool b] 23 (0, 0)) := h
  simp [Dk, World.setCell, Array.getElem?_modify, h']
theorem Env.set {W w : World} {db : Nat} {p : Option Addr} {l : List Int} {cap k : Nat} (h : Env W w db p l cap k) (g o : Nat) (v : Value) (hg : g ≠ db) (hg2 : W.heap.size ≤ g) (hne : 0 < l.length → ∀ g' off, p = some ⟨g', off, none⟩ → g' ≠ g) : Env W (w.setCell ⟨g, o, none⟩ v) db p l cap k := by
  have hgr : w.grownBy (w.setCell ⟨g, o, none⟩ v) (some g) := ⟨rfl, rfl, rfl, by simp, fun k _ hk => heap_setCell_other w ⟨g, o, none⟩ k v (fun e => hk (by simp [e]))⟩
  refine ⟨h.dice.grown hgr (by simp; omega), ?_, h.below.setCell (p := ⟨g, o, none⟩) hg2 v⟩
  by_cases h0 : 0 < l.length
  · exact h.rd.grown hgr (by intro g' off hp; have := hne h0 g' off hp; simp; omega)
  · have : l = [] := List.eq_nil_of_length_eq_zero (by omega)
    subst this
    exact Rd.nil _ _
set_option maxRecDepth 100000 in
set_option maxHeartbeats 8000000 in
theorem made35_walk (W : World) (p : Option Addr) (l : List Int) (cap : Nat) (hR : Rd W p (ints l)) (hl : l.length ≤ 17592186043904) (n : Int) (_ : I64 n) :
    Calls Try.prog 4 #[.slice p l.length cap, .int .i64 n] W fun e w' => e = .returned (.bool true) ∧ Below W.heap.size W w' := by
  go_enter Try.func4, Try.ntmps4
  go_wp2_with (go_at_call 9; (with_reducible refine (light_walk _ _ _ _ (by omega)).mono ?_))
  rintro e w1 ⟨rfl, rfl⟩
  by_cases h5 : 500 < l.length
  · have hd : decide (l.length ≤ 500) = false := by simp; omega
    rw [hd]
    go_wp2_with (go_at_call 7; (with_reducible refine (awake35_walk _).mono ?_))
    rintro e w1 ⟨rfl, hb1⟩
    go_wp2
    go_ret
    exact ⟨rfl, hb1⟩
  have hd5 : decide (l.length ≤ 500) = true := by simp; omega
  rw [hd5]
  go_wp2_with (go_at_call 10; (with_reducible refine (roll_walk _ _ _ _).mono ?_))
  rintro e w1 ⟨rfl, hD, hb1⟩
  have hE : Env W w1 W.heap.size p l cap 0 := ⟨hD, hR.keep hb1, hb1⟩
  have hne := rd_ne hR (Nat.le_refl W.heap.size)
  have hl2 : l.length ≤ 281474976710656 := by omega
  have HRW := Lib.hid hR
  clear hD hb1 h5 hR
  obtain ⟨db, hdb⟩ : ∃ db, db = W.heap.size := ⟨_, rfl⟩
  have hdb0 : W.heap.size ≤ db := by omega
  rw [← hdb] at hE hne ⊢
  have HNE := Lib.hid hne
  clear hdb hne
  go_wp2
  go_loopw [6, 7] (fun u i wr => ∃ (k q : Nat) (T : List UInt8), k ≤ 5 ∧ i = .int .i64 (k : Int) ∧ u = .string ⟨T.toArray⟩ ∧ T.length ≤ 312 * k ∧ Env W wr db p l cap q) (fun _ i _ => 5 - (intOf i).toNat)
  case atStart => exact ⟨0, 0, [], by omega, rfl, rfl, by simp, hE⟩
  case round =>
    clear hE
    obtain ⟨k, q, T, hk, rfl, rfl, hT, hE⟩ := hrel
    go_wp2_with (go_at_call 11; (with_reducible refine (next_walk db p l cap q 6 _ hE.dice hE.rd HNE.out hl2 (by omega) (by omega)).mono ?_))
    rintro e w2 ⟨rfl, hD2, hg2⟩
    replace hE := hE.grown HNE.out hdb0 hD2 hg2
    have h1 := dnum_lo l q (n := 6) (by omega)
    have h2 := dnum_hi l q (n := 6) (by omega)
    generalize dnum l q 6 = x6 at *
    generalize dnxt l q = q2 at *
    clear hD2 hg2
    by_cases hkx : (k : Int) < x6
    · have hk4 : k < 5 := by omega
      have hkd : decide ((k : Int) < x6) = true := decide_eq_true hkx
      go_wp2_with fail
      refine new_ints (fun V => Calls _ _ _ V _) [0, 1, 9, 300] ?_
      intro w3 hb3 hRp
      have hsz := hE.dice.lt
      refine (of_walk db p l cap q2 w2.heap.size [0, 1, 9, 300] _ w3 (hE.keep hb3).dice (hE.keep hb3).rd HNE.out hl2 hRp (by omega) (by decide) (by decide)).mono ?_
      rintro e w4 ⟨rfl, hD4, hg4⟩
      replace hE := (hE.keep hb3).grown HNE.out hdb0 hD4 hg4
      obtain ⟨z, hz, hzb⟩ := ofF_nat (l := l) (k := q2) (xs := [0, 1, 9, 300]) (by decide) 300 (by decide)
      rw [hz]
      generalize dnxt l q2 = q3 at *
      clear hD4 hg4 hb3 hRp hz hsz
      generalize w2.heap.size = g2 at *
      have mA : ∀ V, (Instr.makeSlice 34 (.int .i64 (z : Int)) (.int .i64 (z : Int))).run Try.prog V = _ := fun V => mk_run V mel8 rfl .i64 z (by omega)
      have cA := mk_str1 (P := Try.prog) w4 34 9 5 Try.underlying34 Try.underlying5 Try.underlying9 z
      obtain ⟨zs, hzs⟩ : ∃ zs, zs = List.replicate z (0 : UInt8) := ⟨_, rfl⟩
      rw [← hzs] at cA
      have hzl : zs.length = z := by rw [hzs, List.length_replicate]
      have HF := Lib.hid (frameRes_ok (n := k) (s := zs) (by omega) (by omega))
      have hfl := frameF_length k zs
      clear hzs
      go_wp2_with (go_at_call 12; (with_reducible refine (rFrame_walk (k : Int) zs _ (by omega)).mono ?_))
      rintro e w5 ⟨rfl, hb5⟩
      rw [HF.out]
      replace hE := (hE.alloc _).keep hb5
      generalize frameF k zs = fr at *
      have hlim : ¬ (9223372036854775807 < T.length + fr.length) := by omega
      clear mA cA hb5 HF
      go_wp2
      go_roundw
      case rel => exact ⟨k + 1, q3, T ++ fr, by omega, by go_num, rfl, by rw [List.length_append]; omega, hE⟩
      case measure => simp [intOf]; omega
    · have hkd : decide ((k : Int) < x6) = false := decide_eq_false hkx
      clear hkx
      have hT2 : T.length ≤ 1560 := by omega
      clear hT hk
      go_wp2_with fail
      refine new_ints (fun V => Calls _ _ _ V _) [0, 0, 1, 12, 13, 40, 65536] ?_
      intro w3 hb3 hRp
      have hsz := hE.dice.lt
      refine (of_walk db p l cap q2 w2.heap.size [0, 0, 1, 12, 13, 40, 65536] _ w3 (hE.keep hb3).dice (hE.keep hb3).rd HNE.out hl2 hRp (by omega) (by decide) (by decide)).mono ?_
      rintro e w4 ⟨rfl, hD4, hg4⟩
      replace hE := (hE.keep hb3).grown HNE.out hdb0 hD4 hg4
      obtain ⟨fz, hz, hzb⟩ := ofF_nat (l := l) (k := q2) (xs := [0, 0, 1, 12, 13, 40, 65536]) (by decide) 65536 (by decide)
      rw [hz]
      generalize dnxt l q2 = q3 at *
      clear hD4 hg4 hb3 hRp hz hsz
      generalize w2.heap.size = g2 at *
      go_wp2_with (go_at_call 14; (with_reducible refine (one_walk db p l cap q3 6 _ hE.dice hE.rd HNE.out hl2 (by omega) (by omega)).mono ?_))
      rintro e w5 ⟨rfl, hD5, hg5⟩
      replace hE := hE.grown HNE.out hdb0 hD5 hg5
      generalize (dnum l q3 6 == 6 - 1) = bz at *
      generalize dnxt l q3 = q4 at *
      clear hD5 hg5
      have hsz5 := hE.dice.lt
      have hx0 := hE.below.size
      go_wp2_with fail
      refine new_ints (fun V => Calls _ _ _ V _) [0, 1, 28, 300, 4096, 4097] ?_
      intro w6 hb6 hRp
      have hX := (Dk.new w5 T (fz : Int) bz).keep hb6
      replace hE := (hE.alloc _).keep hb6
      rw [World.size_alloc] at hRp
      refine (of_walk db p l cap q4 (w5.heap.size + 1) [0, 1, 28, 300, 4096, 4097] _ w6 hE.dice hE.rd HNE.out hl2 hRp (by omega) (by decide) (by decide)).mono ?_
      rintro e w7 ⟨rfl, hD7, hg7⟩
      replace hX := hX.grown hg7 (by simp; omega)
      replace hE := hE.grown HNE.out hdb0 hD7 hg7
      obtain ⟨z, hz, hzb⟩ := ofF_nat (l := l) (k := q4) (xs := [0, 1, 28, 300, 4096, 4097]) (by decide) 4097 (by decide)
      rw [hz]
      generalize dnxt l q4 = q5 at *
      clear hD7 hg7 hb6 hRp hz
      generalize w5.heap.size = xb at *
      have mA : ∀ V, (Instr.makeSlice 34 (.int .i64 (z : Int)) (.int .i64 (z : Int))).run Try.prog V = _ := fun V => mk_run V mel8 rfl .i64 z (by omega)
      have cA := mk_str1 (P := Try.prog) w7 34 9 5 Try.underlying34 Try.underlying5 Try.underlying9 z
      obtain ⟨s, hs⟩ : ∃ s, s = List.replicate z (0 : UInt8) := ⟨_, rfl⟩
      rw [← hs] at cA
      have hsl : s.length ≤ 4097 := by rw [hs, List.length_replicate]; exact hzb
      clear hs
      have hE8 := hE.alloc (.cells (madeCells #[.int .u8 0] z) 5)
      go_wp2_with (go_at_call 11; (with_reducible refine (next_walk db p l cap q5 6 _ hE8.dice hE8.rd HNE.out hl2 (by omega) (by omega)).mono ?_))
      rintro e w8 ⟨rfl, hD8, hg8⟩
      replace hX := (hX.alloc _).grown hg8 (by simp; omega)
      replace hE := hE8.grown HNE.out hdb0 hD8 hg8
      have h1 := dnum_lo l q5 (n := 6) (by omega)
      have h2 := dnum_hi l q5 (n := 6) (by omega)
      generalize dnum l q5 6 = x at *
      generalize dnxt l q5 = q6 at *
      clear hD8 hg8 hE8 mA cA
      have hxd : xb ≠ db := by omega
      have c0 := hX.c0
      have c1 := hX.c1
      have c2 := hX.c2
      have f0 := hX.free 0
      have f1 := hX.free 1
      have hxl := hX.lt
      rcases (show x = 0 ∨ x = 1 ∨ x = 2 ∨ x = 3 ∨ x = 4 ∨ x = 5 by omega) with rfl | rfl | rfl | rfl | rfl | rfl
      · have hT3 : T.length ≤ 1048576 := by omega
        go_wp2_with (go_at_call 11; (with_reducible refine (next_walk db p l cap q6 400 _ hE.dice hE.rd HNE.out hl2 (by omega) (by omega)).mono ?_))
        rintro e w9 ⟨rfl, hD9, hg9⟩
        replace hX := hX.grown hg9 (by simp; omega)
        replace hE := hE.grown HNE.out hdb0 hD9 hg9
        clear hD9 hg9 c0 c1 c2 f0 f1 hxl
        generalize dnum l q6 400 = at_ at *
        generalize dnxt l q6 = q7 at *
        go_wp2_with (go_at_call 15; (with_reducible refine (spoil_walk T at_ n _ hT3).mono ?_))
        rintro e w10 ⟨o, rfl, hol, hb10⟩
        replace hX := hX.keep hb10
        replace hE := hE.keep hb10
        have hT4 : o.length ≤ 281474976710656 := by omega
        have c0 := hX.c0
        have f0 := hX.free 0
        clear hb10
        go_wp2_with fail
        replace hE := hE.set xb 0 (.string ⟨o.toArray⟩) hxd hx0 (rd_ne HRW.out hx0)
        replace hX := hX.set0 o
        clear c0 f0
        have hXd := Dk.drew hX
        have hEd := hE.keep (show Below ((World.setCell w10 ⟨xb, 0, none⟩ (.string ⟨o.toArray⟩))).heap.size ((World.setCell w10 ⟨xb, 0, none⟩ (.string ⟨o.toArray⟩))) ((World.setCell w10 ⟨xb, 0, none⟩ (.string ⟨o.toArray⟩))).drew from (Below.refl _ _).drew)
        have hXG := Lib.hid hXd
        have hARG : ∀ V : World, Rd (V.alloc (.cells #[.int .i64 0, .int .i64 5, .int .i64 (-1), .int .i64 65536, .int .i64 65537, .int .i64 n] 3)) (some ⟨V.heap.size, 0, none⟩) (ints [0, 5, -1, 65536, 65537, n]) := fun V => Rd.mk fun j u hj => by rw [Nat.zero_add, World.cell?_alloc_at _ _ _ _ rfl]; simpa [ints] using hj
        have HAR := Lib.hid hARG
        clear hARG hXd hX
        go_region_with (first
          | (go_at_call 7; refine (awake35_walk _).mono ?_; rintro e wA ⟨rfl, hbA⟩; have hXA := hXG.out.keep hbA; have hEA := hEd.keep hbA; have a0 := hXA.c0; have a1 := hXA.c1; have a2 := hXA.c2; have al := hXA.lt)
          | (go_at_call 13; refine (of_walk db p l cap q7 wA.heap.size [0, 5, -1, 65536, 65537, n] _ _ (hEA.alloc _).dice (hEA.alloc _).rd HNE.out hl2 (HAR.out _) (by have := hEA.dice.lt; omega) (by simp) (by simp)).mono ?_; rintro e wO ⟨rfl, hDO, hgO⟩; have hXO := (hXA.alloc _).grown hgO (by simp; omega); have hEO := (hEA.alloc _).grown HNE.out hdb0 hDO hgO; have o0 := hXO.c0; have o1 := hXO.c1; have o2 := hXO.c2)
          | (go_at_call 8; refine (agree_walk o (fz : Int) bz s _ _ (by omega) (by omega)).mono ?_; rintro e wG ⟨rfl, hbG⟩; have hBG := hEO.below.trans (hbG.mono hEO.below.size)))
        all_goals
          go_wp2
          go_ret
          exact ⟨rfl, hBG⟩
      · obtain ⟨wd, hwd⟩ : ∃ wd, wd = wordF l q6 [[0], [0, 0, 0, 1], [103, 97, 114, 98, 97, 103, 101, 32, 97, 110, 100, 32, 109, 111, 114, 101, 32, 116, 104, 97, 110, 32, 116, 104, 97, 116]] := ⟨_, rfl⟩
        have hwl : wd.length ≤ 26 := by
          have := wordF_mem l q6 [[0], [0, 0, 0, 1], [103, 97, 114, 98, 97, 103, 101, 32, 97, 110, 100, 32, 109, 111, 114, 101, 32, 116, 104, 97, 110, 32, 116, 104, 97, 116]] (by decide)
          rw [← hwd] at this
          simp only [List.mem_cons, List.not_mem_nil, or_false] at this
          rcases this with rfl | rfl | rfl <;> decide
        have HWD := Lib.hid hwd
        have hlim : ¬ (9223372036854775807 < T.length + wd.length) := by omega
        have hSRG : ∀ V : World, Rd ((V.alloc (.cells #[.string ⟨#[0]⟩, .string ⟨#[0, 0, 0, 1]⟩, .string ⟨#[103, 97, 114, 98, 97, 103, 101, 32, 97, 110, 100, 32, 109, 111, 114, 101, 32, 116, 104, 97, 110, 32, 116, 104, 97, 116]⟩] 9)).drew) (some ⟨V.heap.size, 0, none⟩) (strs [[0], [0, 0, 0, 1], [103, 97, 114, 98, 97, 103, 101, 32, 97, 110, 100, 32, 109, 111, 114, 101, 32, 116, 104, 97, 110, 32, 116, 104, 97, 116]]) := fun V => Rd.mk fun j u hj => by
          rw [Nat.zero_add, show ∀ X a, World.cell? (World.drew X) a = X.cell? a from fun _ _ => rfl, World.cell?_alloc_at _ _ _ _ rfl]; simpa [strs] using hj
        have HSR := Lib.hid hSRG
        have hEG := fun o => (hE.alloc o).keep (show Below (w8.alloc o).heap.size (w8.alloc o) (w8.alloc o).drew from (Below.refl _ _).drew)
        have hXG := Lib.hid (fun o => Dk.drew (hX.alloc o))
        have HEG := Lib.hid hEG
        have hdl := hE.dice.lt
        clear hwd hSRG hEG hX hE
        go_wp2_with fail
        go_region_with (go_at_call 16; refine (dword_walk db p l cap q6 w8.heap.size [[0], [0, 0, 0, 1], [103, 97, 114, 98, 97, 103, 101, 32, 97, 110, 100, 32, 109, 111, 114, 101, 32, 116, 104, 97, 110, 32, 116, 104, 97, 116]] _ _ (HEG.out _).dice (HEG.out _).rd HNE.out hl2 (HSR.out _) (by omega) (by simp) (by simp)).mono ?_; rintro e wW ⟨rfl, hDW, hgW⟩; have hXW := (hXG.out _).grown hgW (by simp; omega); have hEW := (HEG.out _).grown HNE.out hdb0 hDW hgW; rw [← HWD.out]; have k0 := hXW.c0; have kf := hXW.free 0)
        all_goals
          have hE := hEW.set xb 0 (.string ⟨(T ++ wd).toArray⟩) hxd hx0 (rd_ne HRW.out hx0)
          have hX := hXW.set0 (T ++ wd)
          have hT4 : (T ++ wd).length ≤ 281474976710656 := by rw [List.length_append]; omega
          generalize T ++ wd = TT at *
          generalize dnxt l q6 = q7 at *
          clear k0 kf hXW hEW hDW hgW c0 c1 c2 f0 f1 hxl
          go_wp2_with fail
          have hXd := Dk.drew hX
          have hEd := hE.keep (show Below ((World.setCell wW ⟨xb, 0, none⟩ (.string ⟨TT.toArray⟩))).heap.size ((World.setCell wW ⟨xb, 0, none⟩ (.string ⟨TT.toArray⟩))) ((World.setCell wW ⟨xb, 0, none⟩ (.string ⟨TT.toArray⟩))).drew from (Below.refl _ _).drew)
          have hXG := Lib.hid hXd
          have hARG : ∀ V : World, Rd (V.alloc (.cells #[.int .i64 0, .int .i64 5, .int .i64 (-1), .int .i64 65536, .int .i64 65537, .int .i64 n] 3)) (some ⟨V.heap.size, 0, none⟩) (ints [0, 5, -1, 65536, 65537, n]) := fun V => Rd.mk fun j u hj => by rw [Nat.zero_add, World.cell?_alloc_at _ _ _ _ rfl]; simpa [ints] using hj
          have HAR := Lib.hid hARG
          clear hARG hXd hX
          go_region_with (first
            | (go_at_call 7; refine (awake35_walk _).mono ?_; rintro e wA ⟨rfl, hbA⟩; have hXA := hXG.out.keep hbA; have hEA := hEd.keep hbA; have a0 := hXA.c0; have a1 := hXA.c1; have a2 := hXA.c2; have al := hXA.lt)
            | (go_at_call 13; refine (of_walk db p l cap q7 wA.heap.size [0, 5, -1, 65536, 65537, n] _ _ (hEA.alloc _).dice (hEA.alloc _).rd HNE.out hl2 (HAR.out _) (by have := hEA.dice.lt; omega) (by simp) (by simp)).mono ?_; rintro e wO ⟨rfl, hDO, hgO⟩; have hXO := (hXA.alloc _).grown hgO (by simp; omega); have hEO := (hEA.alloc _).grown HNE.out hdb0 hDO hgO; have o0 := hXO.c0; have o1 := hXO.c1; have o2 := hXO.c2)
            | (go_at_call 8; refine (agree_walk TT (fz : Int) bz s _ _ (by omega) (by omega)).mono ?_; rintro e wG ⟨rfl, hbG⟩; have hBG := hEO.below.trans (hbG.mono hEO.below.size)))
          all_goals
            go_wp2
            go_ret
            exact ⟨rfl, hBG⟩
      · have hTi : (1 : Int) ≤ (T.length : Int) + 1 := by omega
        go_wp2_with (go_at_call 11; (with_reducible refine (next_walk db p l cap q6 ((T.length : Int) + 1) _ hE.dice hE.rd HNE.out hl2 hTi (by omega)).mono ?_))
        rintro e w9 ⟨rfl, hD9, hg9⟩
        replace hX := hX.grown hg9 (by simp; omega)
        replace hE := hE.grown HNE.out hdb0 hD9 hg9
        have y1 := dnum_lo l q6 (n := (T.length : Int) + 1) hTi
        have y2 := dnum_hi l q6 (n := (T.length : Int) + 1) hTi
        obtain ⟨j, hj⟩ : ∃ j : Nat, dnum l q6 ((T.length : Int) + 1) = (j : Int) := ⟨(dnum l q6 ((T.length : Int) + 1)).toNat, by omega⟩
        rw [hj] at y1 y2 ⊢
        have hjT : (j : Int) ≤ (T.length : Int) := by omega
        generalize dnxt l q6 = q7 at *
        clear hD9 hg9 c0 c1 c2 f0 f1 hxl hj y1 y2 hTi
        have c0 := hX.c0
        have f0 := hX.free 0
        have hT4 : (T.take j).length ≤ 281474976710656 := by rw [List.length_take]; omega
        go_wp2_with fail
        replace hE := hE.set xb 0 (.string ⟨(T.take j).toArray⟩) hxd hx0 (rd_ne HRW.out hx0)
        replace hX := hX.set0 (T.take j)
        clear c0 f0
        have hXd := Dk.drew hX
        have hEd := hE.keep (show Below ((World.setCell w9 ⟨xb, 0, none⟩ (.string ⟨(T.take j).toArray⟩))).heap.size ((World.setCell w9 ⟨xb, 0, none⟩ (.string ⟨(T.take j).toArray⟩))) ((World.setCell w9 ⟨xb, 0, none⟩ (.string ⟨(T.take j).toArray⟩))).drew from (Below.refl _ _).drew)
        have hXG := Lib.hid hXd
        have hARG : ∀ V : World, Rd (V.alloc (.cells #[.int .i64 0, .int .i64 5, .int .i64 (-1), .int .i64 65536, .int .i64 65537, .int .i64 n] 3)) (some ⟨V.heap.size, 0, none⟩) (ints [0, 5, -1, 65536, 65537, n]) := fun V => Rd.mk fun j u hj => by rw [Nat.zero_add, World.cell?_alloc_at _ _ _ _ rfl]; simpa [ints] using hj
        have HAR := Lib.hid hARG
        clear hARG hXd hX
        go_region_with (first
          | (go_at_call 7; refine (awake35_walk _).mono ?_; rintro e wA ⟨rfl, hbA⟩; have hXA := hXG.out.keep hbA; have hEA := hEd.keep hbA; have a0 := hXA.c0; have a1 := hXA.c1; have a2 := hXA.c2; have al := hXA.lt)
          | (go_at_call 13; refine (of_walk db p l cap q7 wA.heap.size [0, 5, -1, 65536, 65537, n] _ _ (hEA.alloc _).dice (hEA.alloc _).rd HNE.out hl2 (HAR.out _) (by have := hEA.dice.lt; omega) (by simp) (by simp)).mono ?_; rintro e wO ⟨rfl, hDO, hgO⟩; have hXO := (hXA.alloc _).grown hgO (by simp; omega); have hEO := (hEA.alloc _).grown HNE.out hdb0 hDO hgO; have o0 := hXO.c0; have o1 := hXO.c1; have o2 := hXO.c2)
          | (go_at_call 8; refine (agree_walk (T.take j) (fz : Int) bz s _ _ (by omega) (by omega)).mono ?_; rintro e wG ⟨rfl, hbG⟩; have hBG := hEO.below.trans (hbG.mono hEO.below.size)))
        all_goals
          go_wp2
          go_ret
          exact ⟨rfl, hBG⟩
      · have hdl := hE.dice.lt
        go_wp2_with fail
        refine new_ints (fun V => Calls _ _ _ V _) [-1, 65537] ?_
        intro w9 hb9 hRp
        replace hX := hX.keep hb9
        replace hE := hE.keep hb9
        refine (of_walk db p l cap q6 w8.heap.size [-1, 65537] _ w9 hE.dice hE.rd HNE.out hl2 hRp (by omega) (by decide) (by decide)).mono ?_
        rintro e w10 ⟨rfl, hD10, hg10⟩
        replace hX := hX.grown hg10 (by simp; omega)
        replace hE := hE.grown HNE.out hdb0 hD10 hg10
        generalize ofF l q6 [-1, 65537] = ff at *
        generalize dnxt l q6 = q7 at *
        clear hD10 hg10 hb9 hRp c0 c1 c2 f0 f1 hxl hdl
        have c1 := hX.c1
        have f1 := hX.free 1
        go_wp2_with fail
        replace hE := hE.set xb 1 (.int .i64 ff) hxd hx0 (rd_ne HRW.out hx0)
        replace hX := hX.set1 ff
        clear c1 f1
        have hXd := Dk.drew hX
        have hEd := hE.keep (show Below ((World.setCell w10 ⟨xb, 1, none⟩ (.int .i64 ff))).heap.size ((World.setCell w10 ⟨xb, 1, none⟩ (.int .i64 ff))) ((World.setCell w10 ⟨xb, 1, none⟩ (.int .i64 ff))).drew from (Below.refl _ _).drew)
        have hXG := Lib.hid hXd
        have hARG : ∀ V : World, Rd (V.alloc (.cells #[.int .i64 0, .int .i64 5, .int .i64 (-1), .int .i64 65536, .int .i64 65537, .int .i64 n] 3)) (some ⟨V.heap.size, 0, none⟩) (ints [0, 5, -1, 65536, 65537, n]) := fun V => Rd.mk fun j u hj => by rw [Nat.zero_add, World.cell?_alloc_at _ _ _ _ rfl]; simpa [ints] using hj
        have HAR := Lib.hid hARG
        clear hARG hXd hX
        go_region_with (first
          | (go_at_call 7; refine (awake35_walk _).mono ?_; rintro e wA ⟨rfl, hbA⟩; have hXA := hXG.out.keep hbA; have hEA := hEd.keep hbA; have a0 := hXA.c0; have a1 := hXA.c1; have a2 := hXA.c2; have al := hXA.lt)
          | (go_at_call 13; refine (of_walk db p l cap q7 wA.heap.size [0, 5, -1, 65536, 65537, n] _ _ (hEA.alloc _).dice (hEA.alloc _).rd HNE.out hl2 (HAR.out _) (by have := hEA.dice.lt; omega) (by simp) (by simp)).mono ?_; rintro e wO ⟨rfl, hDO, hgO⟩; have hXO := (hXA.alloc _).grown hgO (by simp; omega); have hEO := (hEA.alloc _).grown HNE.out hdb0 hDO hgO; have o0 := hXO.c0; have o1 := hXO.c1; have o2 := hXO.c2)
          | (go_at_call 8; refine (agree_walk T ff bz s _ _ (by omega) (by omega)).mono ?_; rintro e wG ⟨rfl, hbG⟩; have hBG := hEO.below.trans (hbG.mono hEO.below.size)))
        all_goals
          go_wp2
          go_ret
          exact ⟨rfl, hBG⟩
      · have hdl := hE.dice.lt
        obtain ⟨za, hza⟩ : ∃ za : Nat, (65536 : Int) - (T.length : Int) = (za : Int) := ⟨65536 - T.length, by omega⟩
        have hza2 : za ≤ 65536 := by omega
        go_wp2_with fail
        refine new_ints (fun V => Calls _ _ _ V _) [(za : Int), (za : Int) + 1] ?_
        intro w9 hb9 hRp
        replace hX := hX.keep hb9
        replace hE := hE.keep hb9
        refine (of_walk db p l cap q6 w8.heap.size [(za : Int), (za : Int) + 1] _ w9 hE.dice hE.rd HNE.out hl2 hRp (by omega) (by simp) (by simp)).mono ?_
        rintro e w10 ⟨rfl, hD10, hg10⟩
        replace hX := hX.grown hg10 (by simp; omega)
        replace hE := hE.grown HNE.out hdb0 hD10 hg10
        obtain ⟨zz, hzz, hzzb⟩ := ofF_nat (l := l) (k := q6) (xs := [(za : Int), (za : Int) + 1]) (by simp) 65537 (by simp; omega)
        rw [hzz]
        generalize dnxt l q6 = q7 at *
        clear hD10 hg10 hb9 hRp hzz c0 c1 c2 f0 f1 hxl hdl
        have mA : ∀ V, (Instr.makeSlice 34 (.int .i64 (zz : Int)) (.int .i64 (zz : Int))).run Try.prog V = _ := fun V => mk_run V mel8 rfl .i64 zz (by omega)
        have cA := mk_str1 (P := Try.prog) w10 34 9 5 Try.underlying34 Try.underlying5 Try.underlying9 zz
        obtain ⟨zs, hzs⟩ : ∃ zs, zs = List.replicate zz (0 : UInt8) := ⟨_, rfl⟩
        rw [← hzs] at cA
        have hzl : zs.length = zz := by rw [hzs, List.length_replicate]
        have hlim : ¬ (9223372036854775807 < T.length + zs.length) := by omega
        have c0 := hX.c0
        have f0 := hX.free 0
        have hxl := hX.lt
        have hT4 : (T ++ zs).length ≤ 281474976710656 := by rw [List.length_append]; omega
        clear hzs
        go_wp2_with fail
        replace hE := (hE.set xb 0 (.string ⟨(T ++ zs).toArray⟩) hxd hx0 (rd_ne HRW.out hx0)).alloc (.cells (madeCells #[.int .u8 0] zz) 5)
        replace hX := (hX.set0 (T ++ zs)).alloc (.cells (madeCells #[.int .u8 0] zz) 5)
        clear c0 f0 mA cA hxl
        have hXd := Dk.drew hX
        have hEd := hE.keep (show Below ((World.alloc (World.setCell w10 ⟨xb, 0, none⟩ (.string ⟨(T ++ zs).toArray⟩)) (.cells (madeCells #[.int .u8 0] zz) 5))).heap.size ((World.alloc (World.setCell w10 ⟨xb, 0, none⟩ (.string ⟨(T ++ zs).toArray⟩)) (.cells (madeCells #[.int .u8 0] zz) 5))) ((World.alloc (World.setCell w10 ⟨xb, 0, none⟩ (.string ⟨(T ++ zs).toArray⟩)) (.cells (madeCells #[.int .u8 0] zz) 5))).drew from (Below.refl _ _).drew)
        have hXG := Lib.hid hXd
        have hARG : ∀ V : World, Rd (V.alloc (.cells #[.int .i64 0, .int .i64 5, .int .i64 (-1), .int .i64 65536, .int .i64 65537, .int .i64 n] 3)) (some ⟨V.heap.size, 0, none⟩) (ints [0, 5, -1, 65536, 65537, n]) := fun V => Rd.mk fun j u hj => by rw [Nat.zero_add, World.cell?_alloc_at _ _ _ _ rfl]; simpa [ints] using hj
        have HAR := Lib.hid hARG
        clear hARG hXd hX
        go_region_with (first
          | (go_at_call 7; refine (awake35_walk _).mono ?_; rintro e wA ⟨rfl, hbA⟩; have hXA := hXG.out.keep hbA; have hEA := hEd.keep hbA; have a0 := hXA.c0; have a1 := hXA.c1; have a2 := hXA.c2; have al := hXA.lt)
          | (go_at_call 13; refine (of_walk db p l cap q7 wA.heap.size [0, 5, -1, 65536, 65537, n] _ _ (hEA.alloc _).dice (hEA.alloc _).rd HNE.out hl2 (HAR.out _) (by have := hEA.dice.lt; omega) (by simp) (by simp)).mono ?_; rintro e wO ⟨rfl, hDO, hgO⟩; have hXO := (hXA.alloc _).grown hgO (by simp; omega); have hEO := (hEA.alloc _).grown HNE.out hdb0 hDO hgO; have o0 := hXO.c0; have o1 := hXO.c1; have o2 := hXO.c2)
          | (go_at_call 8; refine (agree_walk (T ++ zs) (fz : Int) bz s _ _ (by omega) (by omega)).mono ?_; rintro e wG ⟨rfl, hbG⟩; have hBG := hEO.below.trans (hbG.mono hEO.below.size)))
        all_goals
          go_wp2
          go_ret
          exact ⟨rfl, hBG⟩
      · clear c0 c1 c2 f0 f1 hxl
        go_wp2_with fail
        have hXd := Dk.drew hX
        have hEd := hE.keep (show Below (w8).heap.size (w8) (w8).drew from (Below.refl _ _).drew)
        have hXG := Lib.hid hXd
        have hARG : ∀ V : World, Rd (V.alloc (.cells #[.int .i64 0, .int .i64 5, .int .i64 (-1), .int .i64 65536, .int .i64 65537, .int .i64 n] 3)) (some ⟨V.heap.size, 0, none⟩) (ints [0, 5, -1, 65536, 65537, n]) := fun V => Rd.mk fun j u hj => by rw [Nat.zero_add, World.cell?_alloc_at _ _ _ _ rfl]; simpa [ints] using hj
        have HAR := Lib.hid hARG
        clear hARG hXd hX
        go_region_with (first
          | (go_at_call 7; refine (awake35_walk _).mono ?_; rintro e wA ⟨rfl, hbA⟩; have hXA := hXG.out.keep hbA; have hEA := hEd.keep hbA; have a0 := hXA.c0; have a1 := hXA.c1; have a2 := hXA.c2; have al := hXA.lt)
          | (go_at_call 13; refine (of_walk db p l cap q6 wA.heap.size [0, 5, -1, 65536, 65537, n] _ _ (hEA.alloc _).dice (hEA.alloc _).rd HNE.out hl2 (HAR.out _) (by have := hEA.dice.lt; omega) (by simp) (by simp)).mono ?_; rintro e wO ⟨rfl, hDO, hgO⟩; have hXO := (hXA.alloc _).grown hgO (by simp; omega); have hEO := (hEA.alloc _).grown HNE.out hdb0 hDO hgO; have o0 := hXO.c0; have o1 := hXO.c1; have o2 := hXO.c2)
          | (go_at_call 8; refine (agree_walk T (fz : Int) bz s _ _ (by omega) (by omega)).mono ?_; rintro e wG ⟨rfl, hbG⟩; have hBG := hEO.below.trans (hbG.mono hEO.below.size)))
        all_goals
          go_wp2
          go_ret
          exact ⟨rfl, hBG⟩
end Go.Proofs.Ythelmlmheioljaa
