/- The law GreatestTurned walked. -/
import Derived.Test.YtpofijdkckaphaaGreatGPlyE
import Derived.Test.YtpofijdkckaphaaGreatGGreY
namespace Go.Proofs.YtpofijdkckaphaaGreat
open Go.RowKit
set_option maxRecDepth 100000 in
set_option maxHeartbeats 2000000 in
theorem rhas_walk (a : Option Addr) (l : List Int) (cap : Nat) (x : Int) (w : World) (hR : Rd w a (ints l)) (hl : l.length ≤ 281474976710656) :
    Calls Tryz.prog 10 #[.slice a l.length cap, .int .i64 x] w fun e w' => e = .returned (.bool (decide (x ∈ l))) ∧ w = w' := by
  go_enter Tryz.func10, Tryz.ntmps10
  go_wp2_with fail
  go_loopw [5] (fun i wr => ∃ k : Nat, wr = w ∧ k ≤ l.length ∧ i = .int .i64 (k : Int) ∧ Hid (x ∉ l.take k)) (fun i _ => l.length - (intOf i).toNat)
  case atStart => exact ⟨0, rfl, Nat.zero_le _, rfl, Lib.hid (by simp)⟩
  case round =>
    obtain ⟨k, rfl, hk, rfl, hA⟩ := hrel
    by_cases hkt : k < l.length
    · obtain ⟨gx, off, y, rfl, hc, hx⟩ := hR.int (k := k) hkt
      have hkl : (k : Int) < (l.length : Int) := by omega
      by_cases hxy : y = x
      · subst hxy
        have hb : (y == y) = true := beq_self_eq_true y
        have hm := Lib.hid (decide_eq_true (mem_at hx))
        clear hA hx hR
        go_wp2
        go_ret
        exact ⟨by rw [hm.out]; rfl, rfl⟩
      · have hb : (y == x) = false := by rw [beq_eq_false_iff_ne]; exact hxy
        have HT : Hid (x ∉ l.take (k + 1)) := Lib.hid (fun h => by
          rw [take_at hx] at h
          rcases List.mem_append.1 h with h | h
          · exact hA.out h
          · simp at h; exact hxy h.symm)
        clear hA hx hR hxy
        go_wp2
        go_roundw
        case rel => exact ⟨k + 1, trivial, by omega, by go_num, HT⟩
        case measure => simp [intOf]; omega
    · have hkl : ¬ (k : Int) < (l.length : Int) := by omega
      obtain rfl : k = l.length := by omega
      have HM := Lib.hid (decide_eq_false (by have := hA.out; rwa [List.take_length] at this : x ∉ l))
      clear hA
      go_wp2
      go_ret
      exact ⟨by rw [HM.out]; rfl, rfl⟩
theorem Ss.rdS {W w0 w : World} {db : Nat} {p : Option Addr} {l : List Int} {cap : Nat} {a : Option Addr} {n c : Nat} {L : List Seat} {m : Nat} (h : Ss W w0 w db p l cap a n c L m) : RdS w a L := rdS_mk h.o.rd h.ok
theorem Dc.first {W w : World} {p : Option Addr} {l : List Int} {cap : Nat} (hD : Dice w W.heap.size p l cap 0) (hR : Rd W p (ints l)) (hb : Below W.heap.size W w) (hl : l.length ≤ 281474976710656) : Dc W w W.heap.size p l cap :=
  ⟨⟨0, hD, hR.keep hb, hb⟩, Nat.le_refl _, hR, hl⟩
theorem setP_len (op : Int → Bool) (H : List Int → Int → Bool) (n : Nat) : (setP op H n).length ≤ n := by
  have := (set_sub op H n).length_le
  rwa [upI_len] at this
set_option maxRecDepth 100000 in
set_option maxHeartbeats 8000000 in
theorem turned_walk (W : World) (p : Option Addr) (l : List Int) (cap : Nat) (hR : Rd W p (ints l)) (hl : l.length ≤ 17592186043904) :
    Calls Tryz.prog 3 #[.slice p l.length cap] W fun e w' => e = .returned (.bool true) ∧ Below W.heap.size W w' := by
  have KA := Lib.hid awake28
  have hl48 : l.length ≤ 281474976710656 := by omega
  have HR := Lib.hid hR
  obtain ⟨db, hdb⟩ : ∃ db, db = W.heap.size := ⟨_, rfl⟩
  clear hR hdb db
  go_enter Tryz.func3, Tryz.ntmps3
  go_wp2_with (go_at_call 5; (with_reducible refine (light_walk _ _ _ _ hl48).mono ?_))
  rintro e w1 ⟨rfl, rfl⟩
  by_cases hq : 500 < l.length
  · have h1 : decide (l.length ≤ 500) = false := by simp; omega
    clear hq
    go_wp2_with (go_at_call 6; (with_reducible refine (KA.out _).mono ?_))
    (first | rintro e w1 rfl hb1 | rintro e w1 ⟨rfl, hb1⟩)
    go_wp2
    go_ret
    exact ⟨rfl, hb1⟩
  have hd5 : decide (l.length ≤ 500) = true := by simp; omega
  clear hq
  go_upto_region 4 with (go_at_call 7; (with_reducible refine (roll_walk _ _ _ _).mono ?_); (first | rintro e w1 rfl hD hb1 | rintro e w1 ⟨rfl, hD, hb1⟩))
  have hDc := Dc.first hD HR.out hb1 hl48
  clear hD hb1 hd5
  have KS := Lib.hid (show Calls Tryz.prog 8 #[.pointer (some ⟨W.heap.size, 0, none⟩), .int .i64 8] w1 _ from pseats_walk W W.heap.size p l cap 8 (by decide) w1 hDc)
  clear hDc
  go_upto_region 6 with (go_at_call 8; (with_reducible refine KS.out.mono ?_); (first | rintro e w2 ⟨L, a, c, m, rfl, hL8, hm, hS⟩ | rintro e w2 L a c m rfl hL8 hm hS))
  have hRS := hS.rdS
  have hB := hS.d.below
  clear hS KS hm HR
  have HB := Lib.hid hB
  have HRS := Lib.hid hRS
  clear hB hRS
  have ew : IntKind.i64.wrap ((L.length : Int) - 1) = (L.length : Int) - 1 := by rw [IntKind.wrap_i64] <;> omega
  go_upto_region 7 with (fail)
  obtain ⟨wL, hwL⟩ : ∃ wL, wL = w2 := ⟨_, rfl⟩
  have hS0 : Below wL.heap.size wL w2 := by rw [hwL]; exact Below.refl _ _
  rw [← hwL] at HB HRS
  clear hwL
  go_loopw [5, 6] (fun sv iv wr => ∃ (k : Nat) (a2 : Option Addr) (c2 : Nat) (j : Int), k ≤ L.length ∧ iv = .int .i64 j ∧ Hid (j = (L.length : Int) - 1 - (k : Int)) ∧ sv = .slice a2 k c2 ∧ Ow wr wL.heap.size 7 a2 k c2 (rowsC seC (L.reverse.take k)) ∧ Below wL.heap.size wL wr) (fun _ iv _ => (intOf iv + 1).toNat)
  case atStart => exact ⟨0, none, 0, _, Nat.zero_le _, rfl, Lib.hid (by omega), rfl, Ow.nil _ _ _, hS0⟩
  case round =>
    clear hS0
    obtain ⟨k, a2, c2, j0, hk, rfl, hj, rfl, hO, hb⟩ := hrel
    by_cases hkt : k < L.length
    · obtain ⟨j, hjn⟩ : ∃ j : Nat, j = L.length - 1 - k := ⟨_, rfl⟩
      have hjt : j < L.length := by omega
      obtain rfl : j0 = (j : Int) := by have := hj.out; omega
      have hjl : (j : Int) < (L.length : Int) := by omega
      obtain ⟨g', o', x, rfl, hx, x0, x1, x2, x3, x4, x5, x6⟩ := (HRS.out.keep hb).seat (k := j) hjt
      have HN : Hid (rowsC seC (L.reverse.take (k + 1)) = rowsC seC (L.reverse.take k) ++ [.string ⟨x.mem.person.toArray⟩, .int .i64 x.mem.number, .int .i64 x.mem.dept, .int .i64 x.mem.day, .slice x.mem.aa x.mem.ans.length x.mem.ac, .slice x.ca x.T.length x.cc, .bool x.opn]) := Lib.hid (by
        have hr : L.reverse[k]? = some x := by rw [List.getElem?_reverse hkt, ← hjn]; exact hx.out
        rw [take_at (Lib.hid hr), rowsC_append, rowsC_single]; rfl)
      have hge : decide ((j : Int) ≥ 0) = true := decide_eq_true (by omega)
      have hwj : IntKind.i64.wrap ((j : Int) - 1) = (j : Int) - 1 := by rw [IntKind.wrap_i64] <;> omega
      have hsz := hb.size
      clear hx hjn
      go_wp2_with (at_builtin; refine wpList_app1 (w0 := wL) (B := wL.heap.size) (base := wL.heap.size) rfl _ _ _ rfl elSeat rfl hO hb (Nat.le_refl _) hsz (cs := [.string ⟨x.mem.person.toArray⟩, .int .i64 x.mem.number, .int .i64 x.mem.dept, .int .i64 x.mem.day, .slice x.mem.aa x.mem.ans.length x.mem.ac, .slice x.ca x.T.length x.cc, .bool x.opn]) rfl rfl (by intro u hu; simp at hu; rcases hu with rfl | rfl | rfl | rfl | rfl | rfl | rfl <;> rfl) (by omega) ?_; intro a3 c3 wA hO8 hb8 hg8; clear hg8)
      rw [← HN.out] at hO8
      clear hO hb x0 x1 x2 x3 x4 x5 x6
      have HO8 := Lib.hid hO8
      have HB8 := Lib.hid hb8
      clear hO8 hb8
      go_roundw
      case rel => exact ⟨k + 1, a3, c3, _, by omega, rfl, Lib.hid (by have := hj.out; omega), rfl, HO8.out, HB8.out⟩
      case measure => (simp [intOf]; try omega)
    · obtain rfl : k = L.length := by omega
      obtain rfl : j0 = -1 := by have := hj.out; omega
      have htk : L.reverse.take L.length = L.reverse := List.take_of_length_le (by rw [List.length_reverse]; exact Nat.le_refl _)
      rw [htk] at hO
      have hRT : RdS wr a2 L.reverse := ⟨hO.rd, fun x hx => (HRS.out.cnd x (List.mem_reverse.1 hx)).keep hb, fun x hx => (HRS.out.ans x (List.mem_reverse.1 hx)).keep hb, fun x hx => HRS.out.ok x (List.mem_reverse.1 hx), fun x hx => HRS.out.tl x (List.mem_reverse.1 hx)⟩
      have KS1 := Lib.hid (gset_walk L a c wr (HRS.out.keep hb) (by omega))
      have KS2 := Lib.hid (fun V (hV : Below wr.heap.size wr V) => gset_walk L.reverse a2 c2 V (hRT.keep hV) (by rw [List.length_reverse]; omega))
      rw [List.length_reverse] at KS2
      have HT := Lib.hid (set_turned wiF L)
      have hlen := set_turned_len wiF L
      have HS1 := Lib.hid (setP_len (opS L) (holdS wiF L) L.length)
      have HU := Lib.hid (fun x (hx : x ∈ setP (opS L) (holdS wiF L) L.length) => mem_upI.1 ((set_sub (opS L) (holdS wiF L) L.length).subset hx))
      generalize setP (opS L) (holdS wiF L) L.length = S1 at *
      generalize setP (opS L.reverse) (holdS wiF L.reverse) L.length = S2 at *
      have hl1 : ((S1.length : Int) != (S2.length : Int)) = false := by rw [bne_eq_false_iff_eq]; omega
      have HBW := Lib.hid (HB.out.trans (hb.mono HB.out.size))
      have HLen := Lib.hid hlen
      clear hO hb htk hj hk hkt hRT hlen
      go_upto_region 15 with (first
        | (go_at_call 9; (with_reducible refine KS1.out.mono ?_); (first | rintro e w5 ⟨a5, c5, rfl, hR5, hb5⟩ | rintro e w5 a5 c5 rfl hR5 hb5))
        | (go_at_call 9; (with_reducible refine (KS2.out _ hb5).mono ?_); (first | rintro e w6 ⟨a6, c6, rfl, hR6, hb6⟩ | rintro e w6 a6 c6 rfl hR6 hb6)))
      have HR5 := Lib.hid (hR5.keep hb6)
      have HR6 := Lib.hid hR6
      have HB6 := Lib.hid (below_tr (below_tr HBW.out hb5) hb6)
      clear hR5 hR6 hb5 hb6 KS1 KS2 hl1
      go_loopw [11] (fun iv wr => ∃ i : Nat, wr = w6 ∧ i ≤ S1.length ∧ iv = .int .i64 (i : Int)) (fun iv _ => S1.length - (intOf iv).toNat)
      case atStart => exact ⟨0, rfl, Nat.zero_le _, rfl⟩
      case round =>
        obtain ⟨i, rfl, hi, rfl⟩ := hrel
        by_cases hit : i < S1.length
        rotate_left
        · have hil : ¬ (i : Int) < (S1.length : Int) := by omega
          go_wp2_with (go_at_call 6; (with_reducible refine (KA.out _).mono ?_); (first | rintro e w9 rfl hb9 | rintro e w9 ⟨rfl, hb9⟩))
          go_ret
          exact ⟨rfl, below_tr HB6.out hb9⟩
        · have hil : (i : Int) < (S1.length : Int) := by omega
          obtain ⟨gx, ox, x, rfl, cx, hx⟩ := HR5.out.int (k := i) hit
          have hxu := HU.out x (mem_at hx)
          have hmm := HT.out x (mem_at hx)
          have KH := Lib.hid (rhas_walk a6 S2 c6 ((L.length : Int) - 1 - x) wr HR6.out (by have := HLen.out; have := HS1.out; omega))
          rw [decide_eq_true (show (L.length : Int) - 1 - x ∈ S2 from hmm)] at KH
          have hwi : IntKind.i64.wrap ((i : Int) + 1) = (i : Int) + 1 := by have := HS1.out; rw [IntKind.wrap_i64] <;> omega
          have ew2 : IntKind.i64.wrap ((L.length : Int) - 1 - x) = (L.length : Int) - 1 - x := by rw [IntKind.wrap_i64] <;> omega
          clear hx hmm
          go_wp2_with (go_at_call 10; (with_reducible refine KH.out.mono ?_); (first | rintro e w9 ⟨rfl, rfl⟩ | rintro e w9 rfl rfl))
          go_roundw
          case rel => exact ⟨i + 1, trivial, by omega, by go_num⟩
          case measure => simp [intOf]; omega
end Go.Proofs.YtpofijdkckaphaaGreat
