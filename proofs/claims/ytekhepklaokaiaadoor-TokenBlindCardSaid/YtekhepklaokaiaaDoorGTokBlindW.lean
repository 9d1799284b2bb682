/- The walk of the law TokenBlind. -/
import Derived.Test.YtekhepklaokaiaaDoorGTokL
import Derived.Test.YtekhepklaokaiaaDoorGTokP
import Derived.Test.YtekhepklaokaiaaDoorGRMem
import Derived.Test.YtekhepklaokaiaaDoorGEnv
import Derived.Test.YtekhepklaokaiaaDoorMake
namespace Go.Proofs.YtekhepklaokaiaaDoor
open Go.RowKit
theorem elIntT : ElemOf Tryd.prog 22 3 (.int .i64 0) 1 8 := ⟨Tryd.underlying22, by kernel_rfl, rfl, by decide, by decide⟩
theorem made_ints (n : Nat) : madeCells #[Value.int .i64 0] n = (ints (List.replicate n 0)).toArray := by
  apply Array.ext'
  rw [toList_madeCells_one]
  simp [ints]
set_option maxRecDepth 100000 in
set_option maxHeartbeats 4000000 in
theorem tblindlaw_walk (W : World) (hB : Bases W) (p : Option Addr) (l : List Int) (cap : Nat) (hR : Rd W p (ints l)) (hl : l.length ≤ 17592186043904) (s : List UInt8) (hs : s.length ≤ 140737488351232) :
    Calls Tryd.prog 3 #[.slice p l.length cap, .string ⟨s.toArray⟩] W fun e w' => e = .returned (.bool true) ∧ Below W.heap.size W w' := by
  have KA := Lib.hid (fun V hV => awake24_walk V hV)
  go_enter Tryd.func3, Tryd.ntmps3
  go_wp2_with (go_at_call 5; (with_reducible refine (light_walk _ _ _ _ (by omega)).mono ?_))
  rintro e w1 ⟨rfl, rfl⟩
  rcases Nat.lt_or_ge 500 l.length with h5 | h5
  · have hd5 : decide (l.length ≤ 500) = false := by simp; omega
    go_wp2_with (go_at_call 6; (with_reducible refine (KA.out _ hB).mono ?_))
    rintro e w1 ⟨rfl, hb1⟩
    go_wp2
    go_ret
    exact ⟨rfl, hb1⟩
  have hd5 : decide (l.length ≤ 500) = true := by simp; omega
  rcases Nat.lt_or_ge s.length 1 with h6 | h6
  · have hd6 : decide ((s.length : Int) < 1) = true := decide_eq_true (by omega)
    have hd7 : decide (s.length < 1) = true := decide_eq_true (by omega)
    go_wp2_with (go_at_call 6; (with_reducible refine (KA.out _ hB).mono ?_))
    rintro e w1 ⟨rfl, hb1⟩
    go_wp2
    go_ret
    exact ⟨rfl, hb1⟩
  have hd6 : decide ((s.length : Int) < 1) = false := decide_eq_false (by omega)
  have hd7 : decide (s.length < 1) = false := decide_eq_false (by omega)
  rcases Nat.lt_or_ge 32 s.length with h7 | h7
  · have hd8 : decide ((s.length : Int) > 32) = true := decide_eq_true (by omega)
    have hd9 : decide (32 < s.length) = true := decide_eq_true (by omega)
    go_wp2_with (go_at_call 6; (with_reducible refine (KA.out _ hB).mono ?_))
    rintro e w1 ⟨rfl, hb1⟩
    go_wp2
    go_ret
    exact ⟨rfl, hb1⟩
  have hd8 : decide ((s.length : Int) > 32) = false := decide_eq_false (by omega)
  have hd9 : decide (32 < s.length) = false := decide_eq_false (by omega)
  go_wp2_with (go_at_call 7; (with_reducible refine (roll_walk _ _ _ _).mono ?_))
  rintro e w1 ⟨rfl, hD, hb1⟩
  have hE : Env W w1 W.heap.size p l cap 0 := ⟨hD, hR.keep hb1, hb1⟩
  have HNE := Lib.hid (rd_ne hR (Nat.le_refl _))
  clear hD hb1
  have hEa := hE.alloc (.cells #[.int .i64 11, .int .i64 23, .int .i64 29, .int .i64 41, .int .i64 53] 3)
  have hS : Bx (w1.alloc (.cells #[.int .i64 11, .int .i64 23, .int .i64 29, .int .i64 41, .int .i64 53] 3)) w1.heap.size 3 (ints smallsL) := Bx.new w1 3 (ints smallsL)
  have hlt := hE.dice.lt
  obtain ⟨gs, hgs⟩ : ∃ g, g = w1.heap.size := ⟨_, rfl⟩
  rw [← hgs] at hS hlt
  have hgs' : w1.heap.size = gs := hgs.symm
  clear hgs hE
  have KN := Lib.hid (next_walk W.heap.size p l cap 0 5 _ hEa.dice hEa.rd HNE.out (by omega) (by omega) (by omega))
  go_wp2_with (go_at_call 8; (with_reducible refine KN.out.mono ?_))
  rintro e w2 ⟨rfl, hD2, hg2⟩
  have hE2 := hEa.grown HNE.out (Nat.le_refl _) hD2 hg2
  have hS2 := hS.grown hg2 (by simp; omega)
  have a1 := dnum_lo l 0 (n := 5) (by omega)
  have a2 := dnum_hi l 0 (n := 5) (by omega)
  obtain ⟨j, hj⟩ : ∃ j : Nat, dnum l 0 5 = (j : Int) := ⟨(dnum l 0 5).toNat, by omega⟩
  rw [hj] at a1 a2 ⊢
  obtain ⟨P, hP, hGP⟩ := smalls_good j (by omega)
  have hsc := hS2.cell j (v := .int .i64 (P : Int)) (by rw [ints_get (by show j < 5; omega), hP])
  have hj5 : (j : Int) < 5 := by omega
  have hj5' : j < 5 := by omega
  have hbw := hE2.below
  clear hD2 hg2 hEa hS KN hS2 hE2 hj a1 a2 hP hlt hgs'
  have hlo := hGP.lo
  have hhi := hGP.hi
  have w1 : IntKind.i64.wrap (2 * (P : Int)) = 2 * (P : Int) := by rw [IntKind.wrap_i64]; omega
  obtain ⟨m, hm⟩ : ∃ m : Nat, m = 2 * P + 1 := ⟨_, rfl⟩
  have e1 : 2 * (P : Int) + 1 = (m : Int) := by omega
  have mI : ∀ V, (Instr.makeSlice 22 (.int .i64 (m : Int)) (.int .i64 (m : Int))).run Tryd.prog V = .ok (.slice (some ⟨V.heap.size, 0, none⟩) m m) (V.alloc (.cells (ints (List.replicate m 0)).toArray 3)) := fun V => by
    have h := mk_run V elIntT rfl .i64 m (by omega)
    rw [made_ints] at h
    exact h
  have hC := Bx.new w2 3 (ints (List.replicate m 0))
  have hbC := hbw.trans (((Below.refl w2.heap.size w2).alloc (Nat.le_refl _) (.cells (ints (List.replicate m 0)).toArray 3)).mono hbw.size)
  have hgc : W.heap.size ≤ w2.heap.size := hbw.size
  obtain ⟨gc, hgcd⟩ : ∃ g, g = w2.heap.size := ⟨_, rfl⟩
  rw [← hgcd] at hC hgc
  have hgc' : w2.heap.size = gc := hgcd.symm
  generalize hoz : (.cells (ints (List.replicate m 0)).toArray 3 : Obj) = oz at hC mI hbC
  have HM := Lib.hid hm
  clear hoz hgcd hbw hm
  go_upto_region 6 with (fail)
  generalize w2.alloc oz = w3 at *
  clear mI hgc' hsc hj5 hj5' hd5 hd6 hd7 hd8 hd9
  -- the numbers
  obtain ⟨S, hSq⟩ : ∃ S, sqrF P s = S := ⟨_, rfl⟩
  have hx := sqx_bd (p := P) (by omega) s
  have hsq := hGP.sq (sqx P s) hx.1 hx.2
  rw [show sqx P s * sqx P s % (2 * P + 1) = S by rw [← hSq, sqrF]] at hsq
  obtain ⟨f, hf⟩ : ∃ f : Nat → Nat, f = fun i => gpw P S ((i + 1 : Nat) : Int) := ⟨_, rfl⟩
  have hcount := blind_count hGP.grp hGP.mem hsq.1 hsq.2
  rw [← hf] at hcount
  have HCT := Lib.hid hcount
  have HFL := Lib.hid (show ∀ i, f i < 2 * P + 1 by intro i; rw [hf]; exact gpw_lt _ _ _)
  have KB := Lib.hid (fun V (i : Nat) (hV : Bases V) (hi : i < P - 1) => (show Calls Tryd.prog 9 #[.int .i64 (P : Int), .string ⟨s.toArray⟩, .int .i64 ((i + 1 : Nat) : Int)] V fun r w' => r = .returned (.tuple #[.int .i64 ((f i : Nat) : Int), .int .i64 0]) ∧ Below V.heap.size V w' from
    tblind_walk (P : Int) s ((i + 1 : Nat) : Int) _ 0 V (by rw [blindF, if_neg (by rw [hGP.safe]; decide), if_neg (fun h => h ⟨h6, h7⟩), if_neg (fun h => h ⟨by omega, by omega⟩), Int.toNat_natCast, hSq, hf]) hV (by omega)))
  have KM := Lib.hid (fun V (x : Nat) => (show Calls Tryd.prog 10 #[.int .i64 (P : Int), .int .i64 (x : Int)] V fun e w' => e = .returned (.bool (memH P x)) ∧ V = w' by
    have := rMember_walk P (x : Int) V hGP.rsafe; rwa [memZ_memH] at this))
  have HBW := Lib.hid hB
  clear hcount hf hSq hsq hx hGP hs hl h5 h6 h7 hB hR
  obtain ⟨Q, hQ⟩ : ∃ Q : Nat, Q + 1 = P := ⟨P - 1, by omega⟩
  have HQ := Lib.hid hQ
  have HC0 : Hid (Bx w3 gc 3 (ints (cntL f m 0))) := Lib.hid (by rw [cntL_zero]; exact hC)
  have hm9 : (m : Int) ≤ 107 := by have := HM.out; omega
  have hP9 : (P : Int) ≤ 53 := by omega
  clear hC hlo hhi hQ e1
  go_wp2_with fail
  go_loopw [8, 9, 10] (fun v8 _ _ wr => ∃ k : Nat, k ≤ Q ∧ v8 = .int .i64 ((k : Int) + 1) ∧ Bx wr gc 3 (ints (cntL f m k)) ∧ Below W.heap.size W wr) (fun v8 _ _ _ => Q + 1 - (intOf v8).toNat)
  case atStart => exact ⟨0, Nat.zero_le _, rfl, HC0.out, hbC⟩
  case round =>
    clear HC0 hbC
    obtain ⟨k, hk, rfl, hC, hb⟩ := hrel
    by_cases hkQ : k < Q
    · have hkQ' : (k : Int) + 1 < (P : Int) := by have := HQ.out; omega
      have hBk := HBW.out.keep hb
      have hfl := HFL.out k
      have hxm : f k < m := by have := HM.out; omega
      have hcx := cntL_get f (n := m) (k := k) (x := f k) hxm
      have hstep : Hid ((ints (cntL f m k)).set (f k) (.int .i64 (((cntF f k (f k) : Nat) : Int) + 1)) = ints (cntL f m (k + 1))) := by
        show _ = _; rw [cntL_succ]; simp [ints, List.map_set]
      have hcl := cntF_le f k (f k)
      have K1 := Lib.hid (KB.out wr k hBk (by have := HQ.out; omega))
      have hk1 : ((k + 1 : Nat) : Int) = (k : Int) + 1 := by omega
      rw [hk1] at K1
      generalize cntF f k (f k) = cn at *
      generalize f k = x at *
      have hx0 : decide ((x : Int) < 0) = false := decide_eq_false (by omega)
      have hx1 : decide ((x : Int) > 2 * (P : Int)) = false := decide_eq_false (by have := HM.out; omega)
      have hxm' : (x : Int) < (m : Int) := by omega
      have hwc : IntKind.i64.wrap ((cn : Int) + 1) = (cn : Int) + 1 := by rw [IntKind.wrap_i64]; omega
      have hcn : (cn : Int) ≤ 60 := by omega
      clear hfl hcl hk1 hBk
      go_wp2_with (go_at_call 9; (with_reducible refine K1.out.mono ?_))
      rintro e w4 ⟨rfl, hb4⟩
      replace hC := hC.keep hb4
      replace hb := hb.trans (hb4.mono hb.size)
      have c0 := hC.cell x (v := .int .i64 (cn : Int)) (by simp only [ints, List.getElem?_map, hcx]; rfl)
      have f0 := hC.free x
      have hC2 := hC.set x (.int .i64 ((cn : Int) + 1))
      rw [hstep.out] at hC2
      have hb2 := hb.setCell (p := ⟨gc, x, none⟩) hgc (.int .i64 ((cn : Int) + 1))
      clear hb4 hC hb hcx K1
      go_wp2
      go_roundw
      case rel => exact ⟨k + 1, by omega, by go_num, hC2, hb2⟩
      case measure => simp [intOf]; omega
    obtain rfl : k = Q := by omega
    have hkn : ¬ ((k : Int) + 1 < (P : Int)) := by have := HQ.out; omega
    go_wp2_with fail
    go_loopw [11, 12] (fun v11 _ wr' => ∃ y : Nat, y ≤ m ∧ v11 = .int .i64 (y : Int) ∧ wr' = wr) (fun v11 _ _ => m - (intOf v11).toNat)
    case atStart => exact ⟨0, Nat.zero_le _, rfl, rfl⟩
    case round =>
      obtain ⟨y, hy, rfl, rfl⟩ := hrel
      by_cases hym : y < m
      · have hle : decide ((y : Int) ≤ 2 * (P : Int)) = true := decide_eq_true (by have := HM.out; omega)
        have hle2 : (y : Int) ≤ 2 * (P : Int) := by have := HM.out; omega
        have hcy := cntL_get f (n := m) (k := k) (x := y) hym
        have hct := HCT.out y
        rw [show P - 1 = k by have := HQ.out; omega] at hct
        have c0 := hC.cell y (v := .int .i64 ((cntF f k y : Nat) : Int)) (by simp only [ints, List.getElem?_map, hcy]; rfl)
        have hyl : (y : Int) < (m : Int) := by omega
        have K1 := Lib.hid (KM.out wr y)
        clear hcy
        cases hm : memH P y with
        | false =>
          rw [hm] at K1 hct
          rw [if_neg (fun h => by cases h.1)] at hct
          rw [hct] at c0
          have c1 : wr.cell? ⟨gc, y, none⟩ = some (.int .i64 0) := c0
          clear hct hm c0
          go_wp2_with (go_at_call 10; (with_reducible refine K1.out.mono ?_))
          rintro e w4 ⟨rfl, rfl⟩
          go_wp2
          go_roundw
          case rel => exact ⟨y + 1, by omega, by go_num, trivial⟩
          case measure => simp [intOf]; omega
        | true =>
          rw [hm] at K1 hct
          by_cases hy1 : y = 1
          · rw [if_neg (fun h => h.2 hy1)] at hct
            rw [hct] at c0
            have c1 : wr.cell? ⟨gc, y, none⟩ = some (.int .i64 0) := c0
            have t1 : ((y : Int) != 1) = false := by rw [bne_eq_false_iff_eq]; omega
            clear hct hm c0 hy1
            go_wp2_with (go_at_call 10; (with_reducible refine K1.out.mono ?_))
            rintro e w4 ⟨rfl, rfl⟩
            go_wp2
            go_roundw
            case rel => exact ⟨y + 1, by omega, by go_num, trivial⟩
            case measure => simp [intOf]; omega
          · rw [if_pos ⟨rfl, hy1⟩] at hct
            rw [hct] at c0
            have c1 : wr.cell? ⟨gc, y, none⟩ = some (.int .i64 1) := c0
            have t1 : ((y : Int) != 1) = true := by rw [bne_iff_ne]; omega
            clear hct hm c0 hy1
            go_wp2_with (go_at_call 10; (with_reducible refine K1.out.mono ?_))
            rintro e w4 ⟨rfl, rfl⟩
            go_wp2
            go_roundw
            case rel => exact ⟨y + 1, by omega, by go_num, trivial⟩
            case measure => simp [intOf]; omega
      · obtain rfl : y = m := by omega
        have hle : decide ((y : Int) ≤ 2 * (P : Int)) = false := decide_eq_false (by have := HM.out; omega)
        have hle2 : ¬ ((y : Int) ≤ 2 * (P : Int)) := by have := HM.out; omega
        go_wp2_with (go_at_call 6; (with_reducible refine (KA.out _ (HBW.out.keep hb)).mono ?_))
        (first | rintro e w4 rfl hb4 | rintro e w4 ⟨rfl, hb4⟩)
        have HBB := Lib.hid (hb.trans (hb4.mono hb.size))
        clear hb hb4 hC
        go_wp2
        go_ret
        exact ⟨rfl, HBB.out⟩
end Go.Proofs.YtekhepklaokaiaaDoor
