/- The walk of the law RateMarks. -/
import Derived.Test.YtcnffdgmdeflmaaDoorGRateQ
import Derived.Test.YtcnffdgmdeflmaaDoorGRateD
import Derived.Test.YtcnffdgmdeflmaaDoorAppAt
namespace Go.Proofs.YtcnffdgmdeflmaaDoor
open Go.RowKit
theorem elS4 : ElemOf Tryd.prog 44 9 (.string ByteArray.empty) 1 16 := ⟨Tryd.underlying44, by kernel_rfl, rfl, by decide, by decide⟩
theorem once_add {S : List Int} {m D : Nat} (hm : m = S.length) (hD : D = (onceI S m).length) (s : Int) : (onceI (S ++ [s]) (m + 1)).length = if s ∈ S then D else D + 1 := by
  have := onceI_snoc S s
  rw [List.length_append, List.length_singleton, ← hm] at this
  rw [this, hD]
  split <;> simp
/-- two slices of the call's own lie in different blocks -/
def Apart2 (a b : Option Addr) : Prop := ∀ g, rowOf a = some g → rowOf b ≠ some g
theorem Apart2.symm {a b : Option Addr} (h : Apart2 a b) : Apart2 b a := fun g hb ha => h g ha hb
theorem Apart2.keep {a b : Option Addr} (h : Apart2 a b) : rowOf b = none ∨ rowOf b ≠ rowOf a := by
  cases hb : rowOf b with
  | none => exact .inl rfl
  | some g => exact .inr fun e => h g e.symm hb
theorem Apart2.next {a b a' : Option Addr} {n : Nat} (h : Apart2 a b) (hb : ∀ g, rowOf b = some g → g < n) (ha : rowOf a' = rowOf a ∨ rowOf a' = some (n + 1)) : Apart2 a' b := by
  intro g hg hbg
  rcases ha with e | e
  · exact h g (e ▸ hg) hbg
  · have := hb g hbg
    rw [e] at hg
    have := Option.some.inj hg
    omega
set_option maxRecDepth 100000 in
set_option maxHeartbeats 8000000 in
theorem rmarks_walk (W : World) (hB : Bases W) (p : Option Addr) (l : List Int) (cap : Nat) (hR : Rd W p (ints l)) (hl : l.length ≤ 17592186043904) (m : Nat) (hm : m < 65536) :
    Calls Tryd.prog 4 #[.slice p l.length cap, .int .u16 (m : Int)] W fun e w' => e = .returned (.bool true) ∧ Below W.heap.size W w' := by
  go_enter Tryd.func4, Tryd.ntmps4
  go_wp2_with (go_at_call 5; (with_reducible refine (light_walk _ _ _ _ (by omega)).mono ?_))
  rintro e w1 ⟨rfl, rfl⟩
  rcases Nat.lt_or_ge 500 l.length with h5 | h5
  · have hd5 : decide (l.length ≤ 500) = false := by simp; omega
    go_wp2_with (go_at_call 6; (with_reducible refine (awake25_walk _ hB).mono ?_))
    rintro e w1 ⟨rfl, hb1⟩
    go_wp2
    go_ret
    exact ⟨rfl, hb1⟩
  have hd5 : decide (l.length ≤ 500) = true := by simp; omega
  go_wp2_with (go_at_call 7; (with_reducible refine (roll_walk _ _ _ _).mono ?_))
  rintro e w1 ⟨rfl, hD, hb1⟩
  have hE : Env W w1 W.heap.size p l cap 0 := ⟨hD, hR.keep hb1, hb1⟩
  have HNE := Lib.hid (rd_ne hR (Nat.le_refl _))
  clear hD hb1
  go_wp2_with (go_at_call 8; (with_reducible refine (psafe_walk _ p l cap 0 W _ hE hR (Nat.le_refl _) (by omega)).mono ?_))
  rintro e w2 ⟨rfl, hE2⟩
  obtain ⟨P, hP, hgrp, hsafe, h11, hbig⟩ := safes_good _ (ofF_mem l 0 safesL (by decide))
  rw [hP]
  generalize dnxt l 0 = q1 at *
  have hm1 := Int.emod_nonneg (m : Int) (show (P : Int) - 1 ≠ 0 by omega)
  have hm2 := Int.emod_lt_of_pos (m : Int) (show (0 : Int) < (P : Int) - 1 by omega)
  obtain ⟨E, hEE⟩ : ∃ E : Nat, (1 : Int) + (m : Int) % ((P : Int) - 1) = (E : Int) ∧ 1 ≤ E ∧ E < P := by
    exact ⟨(1 + (m : Int) % ((P : Int) - 1)).toNat, by omega, by omega, by omega⟩
  obtain ⟨hE1, hE2', hE3⟩ := hEE
  have kP : ∀ V, Calls Tryd.prog 17 #[.int .i64 (P : Int), .int .i64 4, .int .i64 ((1 : Int) + (m : Int) % ((P : Int) - 1))] V fun r w' => r = .returned (.int .i64 ((gpw P 4 (E : Int) : Nat) : Int)) ∧ V = w' := fun V => by
    rw [hE1]; exact rPower_walk P 4 (E : Int) V (by omega) (by omega) (by omega)
  have hne1 := handle_ne hgrp hE2' hE3
  have hmem := mem_gpw hgrp E
  have hap := fun (a b : Nat) (ha : a < P) (hb : b < P) => marks_apart hgrp hE2' hE3 ha hb
  generalize gpw P 4 (E : Int) = H at *
  have kM : ∀ V (s : Int), Bases V → 1 ≤ s ∧ s < P → Calls Tryd.prog 18 #[.int .i64 (P : Int), .int .i64 (H : Int), .int .i64 s] V fun e w' => e = .returned (.tuple #[.string ⟨(putInt ((gpw P H s : Nat) : Int)).toArray⟩, .int .i64 0]) ∧ Below V.heap.size V w' := fun V s hV hs => mark_ok P H s V hV hsafe hne1 hmem hs
  have hinj : ∀ a b : Int, (1 ≤ a ∧ a ≤ 6) → (1 ≤ b ∧ b ≤ 6) → putInt ((gpw P H a : Nat) : Int) = putInt ((gpw P H b : Nat) : Int) → a = b := fun a b ha hb h => by
    have l1 := gpw_lt P H a
    have l2 := gpw_lt P H b
    have h2 := putInt_inj ⟨by omega, by omega⟩ ⟨by omega, by omega⟩ h
    have h3 := hap a.toNat b.toNat (by omega) (by omega) (by
      rw [Int.toNat_of_nonneg (by omega), Int.toNat_of_nonneg (by omega)]; omega)
    omega
  obtain ⟨f, hf⟩ : ∃ f : Int → List UInt8, ∀ s, putInt ((gpw P H s : Nat) : Int) = f s := ⟨_, fun s => rfl⟩
  simp only [hf] at kM hinj
  have KP := Lib.hid kP
  have KM := Lib.hid kM
  have HINJ := Lib.hid hinj
  have KA := Lib.hid (fun V hV => awake25_walk V hV)
  have HBW := Lib.hid hB
  have HRW := Lib.hid hR
  clear kP kM hinj hf hap hmem hne1 hE1 hE2' hE3 hgrp hsafe hP hE hB hR
  go_wp2_with (go_at_call 17; (with_reducible refine (KP.out _).mono ?_))
  rintro e w3 ⟨rfl, rfl⟩
  go_wp2_with (go_at_call 9; (with_reducible refine (next_walk _ p l cap q1 8 _ hE2.dice hE2.rd HNE.out (by omega) (by omega) (by omega)).mono ?_))
  rintro e w4 ⟨rfl, hD, hg⟩
  have hE4 := hE2.grown HNE.out (Nat.le_refl _) hD hg
  have a1 := dnum_lo l q1 (n := 8) (by omega)
  have a2 := dnum_hi l q1 (n := 8) (by omega)
  obtain ⟨N, hN⟩ : ∃ N : Nat, dnum l q1 8 = (N : Int) := ⟨(dnum l q1 8).toNat, by omega⟩
  rw [hN] at a1 a2 ⊢
  generalize dnxt l q1 = q2 at *
  clear hD hg hN hE2 KP hm1 hm2
  obtain ⟨db, hdb⟩ : ∃ db, db = W.heap.size := ⟨_, rfl⟩
  rw [← hdb] at hE4 HNE ⊢
  have HDB := Lib.hid (Nat.le_of_eq hdb.symm)
  clear hdb
  go_wp2_with fail
  go_loopw [8, 9, 10, 11] (fun v8 v9 v10 v11 wr => ∃ (n m D q : Nat) (ma sa : Option Addr) (mc sc : Nat) (S : List Int) (M : List (List UInt8)), v8 = .slice ma m mc ∧ v9 = .slice sa m sc ∧ v10 = .int .i64 (D : Int) ∧ v11 = .int .i64 (n : Int) ∧ m + n ≤ 7 ∧ Hid (m = S.length) ∧ Hid (D = (onceI S m).length) ∧ D ≤ m ∧ Hid (∀ x ∈ S, 1 ≤ x ∧ x ≤ 6) ∧ Hid (M = S.map f) ∧ Ow wr (db + 1) 1 ma m mc (strs M) ∧ Ow wr (db + 1) 1 sa m sc (ints S) ∧ Hid (Apart2 ma sa) ∧ Env W wr db p l cap q) (fun _ _ _ v11 _ => (intOf v11).toNat)
  case atStart => exact ⟨N, 0, 0, q2, none, none, 0, 0, [], [], rfl, rfl, rfl, rfl, by omega, Lib.hid rfl, Lib.hid rfl, Nat.le_refl _, Lib.hid (by simp), Lib.hid rfl, Ow.nil _ _ _, Ow.nil _ _ _, Lib.hid (by simp [Apart2, rowOf]), hE4⟩
  case round =>
    clear hE4
    obtain ⟨n, k, D, q, ma, sa, mc, sc, S, M, rfl, rfl, rfl, rfl, hkn, hk, hDl, hDk, hS, hM, hOm, hOs, hap, hE⟩ := hrel
    by_cases hn : n = 0
    · subst hn
      have hml : M.length = k := by rw [hM.out, List.length_map, hk.out]
      have hBV := HBW.out.keep hE.below
      have hM2 : (onceI M k).length = D := by
        rw [hM.out, onceI_map f S (fun x hx y hy e => HINJ.out x y (hS.out x hx) (hS.out y hy) e), hDl.out]
      have hcc := hOm.2.1
      have KO : ∀ V, Rd V ma (strs M) → Calls Tryd.prog 19 #[.slice ma k mc] V fun e w' => ∃ b d, e = .returned (.slice b D d) ∧ Below V.heap.size V w' := fun V hV => by
        have := once_walk ma M mc V hV (by omega) (by omega)
        rwa [hml, hM2] at this
      have KO := Lib.hid KO
      have HE := Lib.hid hE.below
      have HOM := Lib.hid hOm.rd
      have HDB1 := HDB.out
      clear hml hM2 hcc hM hk hDl hS hap hE hOs hOm
      go_wp2_with (go_at_call 6; (with_reducible refine (KA.out _ hBV).mono ?_))
      rintro e w5 ⟨rfl, hb5⟩
      have HR5 := HOM.out.keep hb5
      replace HE := Lib.hid (HE.out.trans (hb5.mono HE.out.size))
      clear hb5 hBV
      go_wp2_with (go_at_call 19; (with_reducible refine (KO.out _ HR5).mono ?_))
      rintro e w6 ⟨ob, od, rfl, hb6⟩
      replace HE := Lib.hid (HE.out.trans (hb6.mono HE.out.size))
      clear hb6 HR5
      go_wp2
      go_ret
      exact ⟨rfl, HE.out⟩
    · have hn0 : (0 : Int) < (n : Int) := by omega
      have hP1 : IntKind.i64.wrap ((P : Int) - 1) = (P : Int) - 1 := by rw [IntKind.wrap_i64]; omega
      have hmin : min ((P : Int) - 1) 6 = 6 := by omega
      go_wp2_with (go_at_call 9; (with_reducible refine (next_walk _ p l cap q 6 _ hE.dice hE.rd HNE.out (by omega) (by omega) (by omega)).mono ?_))
      rintro e w5 ⟨rfl, hD, hg⟩
      have hE5 := hE.grown HNE.out HDB.out hD hg
      have hn1 : ∀ k, rowOf ma = some k → some k ≠ some db := fun k h e => by have := (hOm.row k h).1; simp at e; omega
      have hn2 : ∀ k, rowOf sa = some k → some k ≠ some db := fun k h e => by have := (hOs.row k h).1; simp at e; omega
      have hOm5 := hOm.kept hg (by cases hr : rowOf ma with | none => exact .inl rfl | some x => exact .inr (hn1 x hr))
      have hOs5 := hOs.kept hg (by cases hr : rowOf sa with | none => exact .inl rfl | some x => exact .inr (hn2 x hr))
      have s1 := dnum_lo l q (n := 6) (by omega)
      have s2 := dnum_hi l q (n := 6) (by omega)
      generalize dnum l q 6 = s0 at *
      generalize dnxt l q = q' at *
      clear hD hg hE hOm hOs hn1 hn2 hP1 hmin
      have hsP : 1 ≤ 1 + s0 ∧ 1 + s0 < (P : Int) := by omega
      have hBV := HBW.out.keep hE5.below
      go_wp2_with (go_at_call 18; (with_reducible refine (KM.out _ _ hBV hsP).mono ?_))
      rintro e w6 ⟨rfl, hb6⟩
      have hE6 := hE5.keep hb6
      have hOm6 := hOm5.keep hb6
      have hOs6 := hOs5.keep hb6
      have HS6 : Hid (1 ≤ 1 + s0 ∧ 1 + s0 ≤ 6) := ⟨by omega, by omega⟩
      obtain ⟨s, hs⟩ : ∃ s, s = 1 + s0 := ⟨_, rfl⟩
      rw [← hs] at HS6 ⊢
      clear hE5 hOm5 hOs5 hb6 hBV hsP s1 s2 hs
      go_wp2_with fail
      go_loopw [15, 16] (fun v15 v16 wx => ∃ (j d : Nat) (b : Bool), wx = w6.drewN d ∧ j ≤ k ∧ v16 = .int .i64 (j : Int) ∧ v15 = .bool b ∧ Hid (b = decide (s ∉ S.take j))) (fun _ v16 _ => k - (intOf v16).toNat)
      case atStart => exact ⟨0, 0, true, rfl, Nat.zero_le _, rfl, rfl, Lib.hid (by simp)⟩
      case round =>
        obtain ⟨j, d, b, rfl, hj, rfl, rfl, hb⟩ := hrel
        by_cases hjk : j < k
        · have hji : (j : Int) < (k : Int) := by omega
          obtain ⟨g, off, x, rfl, c0, hx⟩ := hOs6.rd.int (k := j) (by rw [← hk.out]; exact hjk)
          obtain ⟨g', off', y, rfl, c1, hy⟩ := hOm6.rd.str (k := j) (by rw [hM.out, List.length_map, ← hk.out]; exact hjk)
          have hyx : y = f x := by
            have h1 := hy.out
            rw [hM.out, List.getElem?_map, hx.out] at h1
            exact (Option.some.inj h1).symm
          subst hyx
          have hx1 := hS.out x (mem_at hx)
          have hxm := mem_at hx
          have htk := take_at hx
          by_cases hxs : x = s
          · have hb2 : Hid (false = decide (s ∉ S.take (j + 1))) := by
              show _ = _
              rw [htk, ← hxs]; simp
            have t1 : (x == s) = true := by rw [beq_iff_eq]; exact hxs
            have t2 : (f x == f s) = true := by rw [hxs, beq_iff_eq]
            have t3 : (x != s) = false := by rw [bne_eq_false_iff_eq]; exact hxs
            clear hx hy hxm htk hx1 hxs hb hap hS hM hk hDl
            go_wp2_with fail
            go_quiet (fail)
            cases b
            all_goals
              go_wp2_with fail
              go_roundw
              case rel => exact ⟨j + 1, _, false, rfl, by omega, by go_num, rfl, hb2⟩
              case measure => simp [intOf]; omega
          · have hb2 : Hid (b = decide (s ∉ S.take (j + 1))) := by
              show _ = _
              rw [htk, hb.out]
              have : s ≠ x := fun e => hxs e.symm
              simp [this]
            have t1 : (x == s) = false := by rw [beq_eq_false_iff_ne]; exact hxs
            have t2 : (f x == f s) = false := by rw [beq_eq_false_iff_ne]; exact fun e => hxs (HINJ.out x s hx1 HS6.out e)
            have t3 : (x != s) = true := by rw [bne_iff_ne]; exact hxs
            clear hx hy hxm htk hx1 hxs hb hap hS hM hk hDl
            go_wp2_with fail
            go_quiet (fail)
            cases b
            all_goals
              go_wp2_with fail
              go_roundw
              case rel => exact ⟨j + 1, _, _, rfl, by omega, by go_num, rfl, hb2⟩
              case measure => simp [intOf]; omega
        · have hji : ¬ (j : Int) < (k : Int) := by omega
          obtain rfl : j = k := by omega
          have hbS : Hid (b = decide (s ∉ S)) := by
            have := hb.out
            rw [hk.out, List.take_length] at this
            exact this
          have hD2 : Hid ((onceI (S ++ [s]) (j + 1)).length = if s ∈ S then D else D + 1) := once_add hk.out hDl.out s
          have hS2 : Hid (∀ x ∈ S ++ [s], 1 ≤ x ∧ x ≤ 6) := fun x hx => by
            rcases List.mem_append.1 hx with h | h
            · exact hS.out x h
            · simp at h; rw [h]; exact HS6.out
          have hM2 : Hid (M ++ [f s] = (S ++ [s]).map f) := by show _ = _; rw [hM.out]; simp
          have hk2 : Hid (j + 1 = (S ++ [s]).length) := by show _ = _; rw [hk.out]; simp
          clear hb hS hM hk hDl
          have hOm7 : Ow (w6.drewN d) (db + 1) 1 ma j mc (strs M) := hOm6
          have hOs7 : Ow (w6.drewN d) (db + 1) 1 sa j sc (ints S) := hOs6
          have hE7 : Env W (w6.drewN d) db p l cap q' := ⟨hE6.dice, hE6.rd, below_drewN hE6.below d⟩
          clear hOm6 hOs6 hE6
          generalize w6.drewN d = w7 at *
          have hlt := hE7.dice.lt
          have hdb' := HDB.out
          have hD3 : Hid ((onceI (S ++ [s]) (j + 1)).length = if b = true then D + 1 else D) := by
            show _ = _
            rw [hD2.out, hbS.out]
            by_cases hin : s ∈ S <;> simp [hin]
          have hBb : W.heap.size ≤ db + 1 := by omega
          have hap' := hap
          clear hD2 hbS hap
          cases b
          case false =>
            have hD4 : Hid (D = (onceI (S ++ [s]) (j + 1)).length) := by show _ = _; rw [hD3.out]; rfl
            have hDj : D ≤ j + 1 := by omega
            clear hD3
            go_wp2_with (at_builtin; refine wpList_app1_at (w0 := W) (B := W.heap.size) rfl _ _ _ rfl elS4 rfl hOm7 hE7.below hBb (by omega) rfl (by rfl) (one1 rfl) (by omega) ?_)
            intro ma' mc' w8 hO8 hb8 hg8 hr8
            have hOs8 := hOs7.kept hg8 hap'.out.keep
            have hE8 := hE7.row hg8 (fun k h => (hOm7.row k h).1) hdb' HRW.out
            have hap8 := Lib.hid (hap'.out.next (fun g h => (hOs7.row g h).2) hr8)
            have hlt8 := hE8.dice.lt
            have e9 : Hid (ints S ++ [.int .i64 s] = ints (S ++ [s])) := ints_snoc S s
            rw [strs_snoc] at hO8
            generalize M ++ [f s] = M2 at *
            generalize S ++ [s] = S2 at *
            clear hOm7 hOs7 hE7 hb8 hg8 hr8 hap' hlt
            go_wp2_with (at_builtin; refine wpList_app1_at (w0 := W) (B := W.heap.size) rfl _ _ _ rfl elI4 rfl hOs8 hE8.below hBb (by omega) rfl (by rfl) (one1 rfl) (by omega) ?_)
            intro sa' sc' w9 hO9 hb9 hg9 hr9
            have hOm9 := hO8.kept hg9 hap8.out.symm.keep
            have hE9 := hE8.row hg9 (fun k h => (hOs8.row k h).1) hdb' HRW.out
            have hap9 := Lib.hid (hap8.out.symm.next (fun g h => (hO8.row g h).2) hr9).symm
            rw [e9.out] at hO9
            clear hO8 hOs8 hE8 hap8 hlt8 e9 hb9 hg9 hr9
            go_wp2_with fail
            go_roundw
            case rel => exact ⟨n - 1, j + 1, D, q', ma', sa', mc', sc', S2, M2, rfl, rfl, rfl, by go_num, by omega, hk2, hD4, hDj, hS2, hM2, hOm9, hO9, hap9, hE9⟩
            case measure => simp [intOf]; omega
          case true =>
            have hD4 : Hid (D + 1 = (onceI (S ++ [s]) (j + 1)).length) := by show _ = _; rw [hD3.out]; rfl
            have hDj : D + 1 ≤ j + 1 := by omega
            clear hD3
            go_wp2_with (at_builtin; refine wpList_app1_at (w0 := W) (B := W.heap.size) rfl _ _ _ rfl elS4 rfl hOm7 hE7.below hBb (by omega) rfl (by rfl) (one1 rfl) (by omega) ?_)
            intro ma' mc' w8 hO8 hb8 hg8 hr8
            have hOs8 := hOs7.kept hg8 hap'.out.keep
            have hE8 := hE7.row hg8 (fun k h => (hOm7.row k h).1) hdb' HRW.out
            have hap8 := Lib.hid (hap'.out.next (fun g h => (hOs7.row g h).2) hr8)
            have hlt8 := hE8.dice.lt
            have e9 : Hid (ints S ++ [.int .i64 s] = ints (S ++ [s])) := ints_snoc S s
            rw [strs_snoc] at hO8
            generalize M ++ [f s] = M2 at *
            generalize S ++ [s] = S2 at *
            clear hOm7 hOs7 hE7 hb8 hg8 hr8 hap' hlt
            go_wp2_with (at_builtin; refine wpList_app1_at (w0 := W) (B := W.heap.size) rfl _ _ _ rfl elI4 rfl hOs8 hE8.below hBb (by omega) rfl (by rfl) (one1 rfl) (by omega) ?_)
            intro sa' sc' w9 hO9 hb9 hg9 hr9
            have hOm9 := hO8.kept hg9 hap8.out.symm.keep
            have hE9 := hE8.row hg9 (fun k h => (hOs8.row k h).1) hdb' HRW.out
            have hap9 := Lib.hid (hap8.out.symm.next (fun g h => (hO8.row g h).2) hr9).symm
            rw [e9.out] at hO9
            clear hO8 hOs8 hE8 hap8 hlt8 e9 hb9 hg9 hr9
            go_wp2_with fail
            go_roundw
            case rel => exact ⟨n - 1, j + 1, D + 1, q', ma', sa', mc', sc', S2, M2, rfl, rfl, by go_num, by go_num, by omega, hk2, hD4, hDj, hS2, hM2, hOm9, hO9, hap9, hE9⟩
            case measure => simp [intOf]; omega
end Go.Proofs.YtcnffdgmdeflmaaDoor
