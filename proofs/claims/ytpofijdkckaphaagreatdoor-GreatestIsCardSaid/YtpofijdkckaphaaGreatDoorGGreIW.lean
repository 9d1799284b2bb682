/- The law GreatestIs walked. -/
import Derived.Test.YtpofijdkckaphaaGreatDoorGGreHas
import Derived.Test.YtpofijdkckaphaaGreatDoorGGreX
namespace Go.Proofs.YtpofijdkckaphaaGreatDoor
open Go.RowKit
theorem asc_snoc {S : List Int} {n : Nat} (h : S.Pairwise (· < ·)) (hl : ∀ i ∈ S, 0 ≤ i ∧ i < (n : Int)) : (S ++ [(n : Int)]).Pairwise (· < ·) ∧ ∀ i ∈ S ++ [(n : Int)], 0 ≤ i ∧ i < ((n + 1 : Nat) : Int) := by
  refine ⟨List.pairwise_append.2 ⟨h, List.pairwise_singleton _ _, fun a ha b hb => ?_⟩, fun i hi => ?_⟩
  · rw [List.mem_singleton.1 hb]; exact (hl a ha).2
  · rcases List.mem_append.1 hi with hi | hi
    · have := hl i hi; omega
    · rw [List.mem_singleton.1 hi]; omega
theorem asc_len {S : List Int} {n : Nat} (h : S.Pairwise (· < ·)) (hl : ∀ i ∈ S, 0 ≤ i ∧ i < (n : Int)) : S.length ≤ n := by
  have := len_inj (rv := fun x => x) S (upI n) (h.imp (fun {a b} hab => by omega)) (fun i hi => mem_upI.2 (hl i hi))
  rwa [upI_len] at this
set_option maxRecDepth 100000 in
set_option maxHeartbeats 8000000 in
theorem is28_walk (W : World) (p : Option Addr) (l : List Int) (cap : Nat) (hR : Rd W p (ints l)) (hSpc : Spc W) (hl : l.length ≤ 17592186043904) :
    Calls Tryz.prog 3 #[.slice p l.length cap] W fun e w' => e = .returned (.bool true) ∧ Below W.heap.size W w' := by
  have KA := Lib.hid awake28
  have hl48 : l.length ≤ 281474976710656 := by omega
  have HR := Lib.hid hR
  have HSpc := Lib.hid hSpc
  clear hR hSpc
  go_enter Tryz.func3, Tryz.ntmps3
  go_wp2_with (go_at_call 7; (with_reducible refine (light_walk _ _ _ _ hl48).mono ?_))
  rintro e w1 ⟨rfl, rfl⟩
  by_cases hq : 500 < l.length
  · have h1 : decide (l.length ≤ 500) = false := by simp; omega
    clear hq
    go_wp2_with (go_at_call 8; (with_reducible refine (KA.out _).mono ?_))
    (first | rintro e w1 rfl hb1 | rintro e w1 ⟨rfl, hb1⟩)
    go_wp2
    go_ret
    exact ⟨rfl, hb1⟩
  have hd5 : decide (l.length ≤ 500) = true := by simp; omega
  clear hq
  go_upto_region 4 with (go_at_call 9; (with_reducible refine (roll_walk _ _ _ _).mono ?_); (first | rintro e w1 rfl hD hb1 | rintro e w1 ⟨rfl, hD, hb1⟩))
  have hDc := Dc.first hD HR.out hb1 hl48
  clear hD hb1 hd5
  have KS := Lib.hid (show Calls Tryz.prog 10 #[.pointer (some ⟨W.heap.size, 0, none⟩), .int .i64 6] w1 _ from pseats_walk W W.heap.size p l cap 6 (by decide) w1 hDc)
  clear hDc
  go_upto_region 5 with (go_at_call 10; (with_reducible refine KS.out.mono ?_); (first | rintro e w2 ⟨L, a, c, m, rfl, hL6, hm, hS⟩ | rintro e w2 L a c m rfl hL6 hm hS))
  have hRS := hS.rdS
  have hB := hS.d.below
  clear hS KS hm HR
  have KS1 := Lib.hid (gset_walk L a c w2 hRS (by omega))
  have KO := fun (V : World) (a5 : Option Addr) (c5 : Nat) (hV : Below w2.heap.size w2 V) (hA : Rd V a5 (ints (setP (opS L) (holdS wiF L) L.length))) => opens_walk L a c (setP (opS L) (holdS wiF L) L.length) a5 c5 V (hRS.keep hV) hA (by omega) (by have := setP_len (opS L) (holdS wiF L) L.length; omega)
  rw [set_opens] at KO
  have KOH := Lib.hid KO
  have HKEEP := Lib.hid (fun S (hS : StayS L S) (hu : ∀ i ∈ S, i ∈ upI L.length) => set_keeps (hold_mono wiF L) hS hu)
  have hs6 := setP_len (opS L) (holdS wiF L) L.length
  clear KO
  generalize setP (opS L) (holdS wiF L) L.length = S1 at *
  have HB := Lib.hid hB
  have HRS := Lib.hid hRS
  clear hB hRS
  go_upto_region 9 with (first
    | (go_at_call 11; (with_reducible refine KS1.out.mono ?_); (first | rintro e w3 ⟨a5, c5, rfl, hR5, hb3⟩ | rintro e w3 a5 c5 rfl hR5 hb3))
    | (go_at_call 12; (with_reducible refine (KOH.out _ _ _ hb3 hR5).mono ?_); (first | rintro e w4 ⟨rfl, hb4⟩ | rintro e w4 rfl hb4)))
  have hb24 := below_tr hb3 hb4
  have HR5 := Lib.hid (hR5.keep hb4)
  have HRS4 := Lib.hid (HRS.out.keep hb24)
  have HB4 := Lib.hid (HB.out.trans (hb24.mono HB.out.size))
  have HSpc4 := Lib.hid (HSpc.out.keep HB4.out)
  clear hb24 hR5 hb3 hb4 HRS HB HSpc KS1 KOH
  go_loopw [7] (fun iv wr => ∃ k : Nat, iv = .int .i64 (k : Int) ∧ k ≤ 1000 ∧ Below w4.heap.size w4 wr) (fun iv _ => 1000 - (intOf iv).toNat)
  case atStart => exact ⟨0, rfl, by omega, Below.refl _ _⟩
  case round =>
    obtain ⟨k, rfl, hk, hb⟩ := hrel
    rename World => wo
    have hwk : IntKind.i64.wrap ((k : Int) + 1) = (k : Int) + 1 := by rw [IntKind.wrap_i64] <;> omega
    by_cases h : (k : Int) < wrap64 (2 ^ L.length)
    rotate_left
    · go_wp2_with (go_at_call 8; (with_reducible refine (KA.out _).mono ?_); (first | rintro e w9 rfl hb9 | rintro e w9 ⟨rfl, hb9⟩))
      go_ret
      exact ⟨rfl, HB4.out.trans ((below_tr hb hb9).mono HB4.out.size)⟩
    have hk64 : k < 64 := by
      have : wrap64 (2 ^ L.length) ≤ 64 := by
        rcases (show L.length = 0 ∨ L.length = 1 ∨ L.length = 2 ∨ L.length = 3 ∨ L.length = 4 ∨ L.length = 5 ∨ L.length = 6 by omega) with e | e | e | e | e | e | e <;> rw [e] <;> decide +kernel
      omega
    go_upto_region 13 with fail
    clear h
    have HBo := Lib.hid hb
    clear hb
    go_loopw [8, 9] (fun sv iv wr => ∃ (j n : Nat) (sa : Option Addr) (sc : Nat) (S : List Int), j ≤ L.length ∧ iv = .int .i64 (j : Int) ∧ sv = .slice sa n sc ∧ n ≤ j ∧ Hid (S.length = n) ∧ Hid (S.Pairwise (· < ·)) ∧ Hid (∀ i ∈ S, 0 ≤ i ∧ i < (j : Int)) ∧ Ow wr wo.heap.size 1 sa n sc (ints S) ∧ Below wo.heap.size wo wr) (fun _ iv _ => L.length - (intOf iv).toNat)
    case atStart => exact ⟨0, 0, none, 0, [], Nat.zero_le _, rfl, rfl, Nat.le_refl _, Lib.hid rfl, Lib.hid List.Pairwise.nil, Lib.hid (fun i hi => by simp at hi), Ow.nil _ _ _, Below.refl _ _⟩
    case round =>
      obtain ⟨j, n, sa, sc, S, hj, rfl, rfl, hn, hSn, hA, hI, hO, hb⟩ := hrel
      by_cases hjt : j < L.length
      · have hjl : (j : Int) < (L.length : Int) := by omega
        have hwj : IntKind.i64.wrap ((j : Int) + 1) = (j : Int) + 1 := by rw [IntKind.wrap_i64] <;> omega
        go_upto_if 51 with fail
        generalize (bits BinOp.and IntKind.i64 ((k : Int) / 2 ^ j) 1 == 1) = bt
        generalize bits BinOp.and IntKind.i64 ((k : Int) / 2 ^ j) 1 = bv
        cases bt
        · have HI : Hid (∀ i ∈ S, 0 ≤ i ∧ i < ((j + 1 : Nat) : Int)) := Lib.hid (fun i hi => by have := hI.out i hi; omega)
          have HO := Lib.hid hO
          have Hb := Lib.hid hb
          clear hO hb hI
          go_wp2_with fail
          go_roundw
          case rel => exact ⟨j + 1, n, sa, sc, S, by omega, by go_num, rfl, by omega, hSn, hA, HI, HO.out, Hb.out⟩
          case measure => simp [intOf]; omega
        · obtain ⟨hA2, hI2⟩ := asc_snoc hA.out hI.out
          have HA2 := Lib.hid hA2
          have HI2 := Lib.hid hI2
          have HS2 : Hid ((S ++ [(j : Int)]).length = n + 1) := Lib.hid (by rw [List.length_append, hSn.out]; rfl)
          have hsz := hb.size
          clear hA2 hI2 hA hI hSn
          go_wp2_with (at_builtin; refine wpList_app1 (w0 := wo) (B := wo.heap.size) (base := wo.heap.size) rfl _ _ _ rfl el_int rfl hO hb (Nat.le_refl _) hsz rfl (by rfl) (one1 rfl) (by omega) ?_; intro a3 c3 wA hO8 hb8 hg8; clear hg8)
          rw [ints_snoc] at hO8
          clear hO hb
          have HO8 := Lib.hid hO8
          have Hb8 := Lib.hid hb8
          clear hO8 hb8
          go_roundw
          case rel => exact ⟨j + 1, n + 1, a3, c3, S ++ [(j : Int)], by omega, by go_num, rfl, by omega, HS2, HA2, HI2, HO8.out, Hb8.out⟩
          case measure => simp [intOf]; omega
      · have hjl : ¬ (j : Int) < (L.length : Int) := by omega
        obtain rfl : j = L.length := by omega
        obtain rfl := hSn.out
        have hu : ∀ i ∈ S, i ∈ upI L.length := fun i hi => mem_upI.2 (hI.out i hi)
        have hb4 := below_tr HBo.out hb
        have KL := Lib.hid (lopens_walk L a c S sa sc wr (HRS4.out.keep hb4) hO.rd hu hA.out (by omega) (by omega) (HSpc4.out.keep hb4))
        have HSD := Lib.hid hO.rd
        have HK2 := Lib.hid (fun (h : StayS L S) => HKEEP.out S h hu)
        have Hb4 := Lib.hid hb4
        clear hO hb hI hA hu hb4
        rename World => wq
        go_upto_if 59 with (go_at_call 13; (with_reducible refine KL.out.mono ?_); (first | rintro e wz ⟨bo, rfl, hyes, hbz⟩ | rintro e wz bo rfl hyes hbz))
        have Hbz := Lib.hid (below_tr Hb4.out hbz)
        have HSZ := Lib.hid (HSD.out.keep hbz)
        clear hbz
        cases bo
        · clear hyes
          go_wp2_with fail
          go_roundw
          case rel => exact ⟨k + 1, by go_num, by omega, Hbz.out⟩
          case measure => simp [intOf]; omega
        · have HK3 := Lib.hid (HK2.out (hyes rfl))
          clear hyes
          go_upto_region 19 with fail
          go_loopw [10] (fun iv wr => ∃ i : Nat, wr = wz ∧ i ≤ S.length ∧ iv = .int .i64 (i : Int)) (fun iv _ => S.length - (intOf iv).toNat)
          case atStart => exact ⟨0, rfl, Nat.zero_le _, rfl⟩
          case round =>
            obtain ⟨i, rfl, hi, rfl⟩ := hrel
            by_cases hit : i < S.length
            · have hil : (i : Int) < (S.length : Int) := by omega
              have hwi : IntKind.i64.wrap ((i : Int) + 1) = (i : Int) + 1 := by rw [IntKind.wrap_i64] <;> omega
              obtain ⟨gx, ox, x, rfl, cx, hx⟩ := HSZ.out.int (k := i) hit
              have KH := Lib.hid (rhas_walk a5 S1 c5 x wr (HR5.out.keep Hbz.out) (by omega))
              rw [decide_eq_true (HK3.out x (mem_at hx))] at KH
              clear hx
              go_wp2_with (go_at_call 14; (with_reducible refine KH.out.mono ?_); (first | rintro e w9 ⟨rfl, rfl⟩ | rintro e w9 rfl rfl))
              go_roundw
              case rel => exact ⟨_, _, _, _, _, _, _, _, _, _, _, _, _, _, _, ⟨i + 1, trivial, by omega, by go_num⟩, rfl⟩
              case measure => simp [intOf]; omega
            · have hil : ¬ (i : Int) < (S.length : Int) := by omega
              go_wp2_with fail
              go_roundw
              case rel => exact ⟨k + 1, by go_num, by omega, Hbz.out⟩
              case measure => simp [intOf]; omega
end Go.Proofs.YtpofijdkckaphaaGreatDoor
