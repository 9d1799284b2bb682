/- Conditions: the program's Term, Holds and Persons. -/
import Derived.Test.YtpofijdkckaphaaGreatDoorGCndF
import Derived.Test.YtpofijdkckaphaaGreatDoorGCndSP
import Derived.Test.YtpofijdkckaphaaGreatDoorGGreD
namespace Go.Proofs.YtpofijdkckaphaaGreatDoor
open Go.RowKit
theorem termF_at (wi : Int → Int → Int → Bool) (T : List Trm) (n : Int) (M : List Mem) (me : Int) : termF wi T n M me = match atM M me with
    | none => false
    | some m => rightC T && (decide (0 ≤ n ∧ n < (T.length : Int)) && holdsT wi T m (othF M m) T.length n.toNat) := by
  unfold termF atM
  split
  · rfl
  · rfl
theorem persF_at (M : List Mem) (me : Int) : persF M me = match atM M me with
    | none => 0
    | some m => 1 + (dst ((othF M m).map Mem.person) : Int) := by
  unfold persF atM
  split
  · rfl
  · rfl
/-- where a condition and members lie -/
structure CM (w : World) (ta : Option Addr) (T : List Trm) (la : Option Addr) (M : List Mem) : Prop where
  t : RdT w ta T
  m : RdM w la M
theorem CM.keep {w w' : World} {ta : Option Addr} {T : List Trm} {la : Option Addr} {M : List Mem} (h : CM w ta T la M) (hb : Below w.heap.size w w') : CM w' ta T la M := ⟨h.t.keep hb, h.m.keep hb⟩
set_option maxRecDepth 100000 in
set_option maxHeartbeats 1000000 in
theorem cterm_walk (T : List Trm) (ta : Option Addr) (tc : Nat) (n : Int) (M : List Mem) (la : Option Addr) (lc : Nat) (me : Int) (w : World) (hC : CM w ta T la M) (hT : T.length ≤ 9223372036854775807) (hM : M.length ≤ 1000000000) :
    Calls Tryz.prog 72 #[.agg #[.slice ta T.length tc], .int .i64 n, .slice la M.length lc, .int .i64 me] w fun e w' => e = .returned (.bool (termF wiF T n M me)) ∧ Below w.heap.size w w' := by
  have he := termF_at wiF T n M me
  have b1 := (Below.refl w.heap.size w).alloc (Nat.le_refl _) (.cells #[.slice ta T.length tc] 42)
  have h1 := Bx.new w 42 [.slice ta T.length tc]
  change Bx (w.alloc (.cells #[.slice ta T.length tc] 42)) _ _ _ at h1
  have KL := Lib.hid (look_walk T ta tc M la lc me _ (hC.t.keep b1) (hC.m.keep b1) hM)
  have HC := Lib.hid hC
  obtain ⟨g1, hg1⟩ : ∃ g, g = w.heap.size := ⟨_, rfl⟩
  have hbw : w.heap.size = g1 := hg1.symm
  rw [← hg1] at h1
  have HB := Lib.hid b1
  clear hg1 hC b1
  generalize termF wiF T n M me = R at *
  go_enter Tryz.func72, Tryz.ntmps72
  go_upto_region 1 with (fail)
  generalize w.alloc (.cells #[.slice ta T.length tc] 42) = w1 at *
  clear hbw
  have c0 := h1.cell 0 rfl
  cases hat : atM M me with
  | none =>
    rw [hat] at he KL
    have HR := Lib.hid he
    clear he hat
    go_wp2_with (go_at_call 78; (with_reducible refine KL.out.mono ?_); (first | rintro e w2 ⟨rfl, hb2⟩ | rintro e w2 rfl hb2))
    go_ret
    exact ⟨ret_bool HR.out.symm, below_tr HB.out hb2⟩
  | some m =>
    rw [hat] at he KL
    have he2 : R = (rightC T && (decide (0 ≤ n ∧ n < (T.length : Int)) && holdsT wiF T m (othF M m) T.length n.toNat)) := he
    have HR := Lib.hid he2
    clear he he2 hat
    go_upto_region 2 with (go_at_call 78; (with_reducible refine KL.out.mono ?_); (first | rintro e w2 ⟨⟨g, oa, oc, rfl, hV⟩, hb2⟩ | rintro e w2 g oa oc rfl hV hb2))
    have c2 := (h1.keep hb2).cell 0 rfl
    have hb3 := below_tr HB.out hb2
    have KV := Lib.hid (cvalid_walk T ta tc w2 hV.t hT)
    have HV := Lib.hid hV
    have HB2 := Lib.hid hb3
    have HX := Lib.hid (h1.keep hb2)
    clear c0 hV hb2 hb3 KL h1 HB
    cases hrt : rightC T with
    | false =>
      rw [hrt] at KV
      have HRT := Lib.hid hrt
      clear hrt
      go_wp2_with (go_at_call 79; (with_reducible refine KV.out.mono ?_); (first | rintro e w3 ⟨rfl, hb3⟩ | rintro e w3 rfl hb3))
      go_ret
      exact ⟨ret_bool (by rw [HR.out, HRT.out]; rfl), HB2.out.trans (hb3.mono HB2.out.size)⟩
    | true =>
    rw [hrt] at KV
    obtain ⟨hl1, hl2, hseg⟩ := right_all hrt
    have HS := Lib.hid hseg
    have HRT := Lib.hid hrt
    clear hrt hseg
    by_cases h0 : 0 ≤ n
    rotate_left
    · have d1 : decide (n ≥ 0) = false := decide_eq_false h0
      have hR2 : Hid (R = false) := Lib.hid (by rw [HR.out, decide_eq_false (show ¬ (0 ≤ n ∧ n < (T.length : Int)) from fun h => h0 h.1)]; simp)
      clear h0
      go_wp2_with (go_at_call 79; (with_reducible refine KV.out.mono ?_); (first | rintro e w3 ⟨rfl, hb3⟩ | rintro e w3 rfl hb3))
      go_ret
      exact ⟨ret_bool hR2.out.symm, HB2.out.trans (hb3.mono HB2.out.size)⟩
    have d1 : decide (n ≥ 0) = true := decide_eq_true h0
    by_cases h2 : n < (T.length : Int)
    rotate_left
    · have d2 : decide (n < (T.length : Int)) = false := decide_eq_false h2
      have hR2 : Hid (R = false) := Lib.hid (by rw [HR.out, decide_eq_false (show ¬ (0 ≤ n ∧ n < (T.length : Int)) from fun h => h2 h.2)]; simp)
      clear h2 h0
      go_wp2_with (go_at_call 79; (with_reducible refine KV.out.mono ?_); (first | rintro e w3 ⟨rfl, hb3⟩ | rintro e w3 rfl hb3); have q0 := (HX.out.keep hb3).cell 0 rfl)
      go_ret
      exact ⟨ret_bool hR2.out.symm, HB2.out.trans (hb3.mono HB2.out.size)⟩
    have d2 : decide (n < (T.length : Int)) = true := decide_eq_true h2
    obtain ⟨k, rfl⟩ : ∃ k : Nat, n = (k : Int) := ⟨n.toNat, by omega⟩
    have hR2 : Hid (R = holdsT wiF T m (othF M m) T.length k) := Lib.hid (by rw [HR.out, HRT.out, decide_eq_true (show 0 ≤ (k : Int) ∧ (k : Int) < (T.length : Int) from ⟨h0, h2⟩), Int.toNat_natCast]; simp)
    have KH := Lib.hid (fun V (hV : View V g ta T tc m oa (othF M m) oc) => holds_walk T ta tc HS.out m (othF M m) (by have := othF_len M m; omega) g oa oc T.length k V (by omega) (by omega) hV)
    have d3 : decide (k < T.length) = true := decide_eq_true (by omega)
    have d4 : k < T.length := by omega
    clear h2 h0 hl1 hl2 d1
    go_wp2_with (first | (go_at_call 79; (with_reducible refine KV.out.mono ?_); (first | rintro e w3 ⟨rfl, hb3⟩ | rintro e w3 rfl hb3); have q0 := (HX.out.keep hb3).cell 0 rfl) | (go_at_call 80; (with_reducible refine (KH.out _ (HV.out.keep hb3)).mono ?_); (first | rintro e w4 ⟨rfl, hb4⟩ | rintro e w4 rfl hb4)))
    go_ret
    exact ⟨ret_bool hR2.out.symm, HB2.out.trans ((below_tr hb3 hb4).mono HB2.out.size)⟩
set_option maxRecDepth 100000 in
theorem cholds_walk (T : List Trm) (ta : Option Addr) (tc : Nat) (M : List Mem) (la : Option Addr) (lc : Nat) (me : Int) (w : World) (hC : CM w ta T la M) (hT : T.length ≤ 9223372036854775807) (hM : M.length ≤ 1000000000) :
    Calls Tryz.prog 59 #[.agg #[.slice ta T.length tc], .slice la M.length lc, .int .i64 me] w fun e w' => e = .returned (.bool (termF wiF T 0 M me)) ∧ Below w.heap.size w w' := by
  have b1 := (Below.refl w.heap.size w).alloc (Nat.le_refl _) (.cells #[.slice ta T.length tc] 42)
  have h1 := Bx.new w 42 [.slice ta T.length tc]
  change Bx (w.alloc (.cells #[.slice ta T.length tc] 42)) _ _ _ at h1
  have KT := Lib.hid (cterm_walk T ta tc 0 M la lc me _ (hC.keep b1) hT hM)
  obtain ⟨g1, hg1⟩ : ∃ g, g = w.heap.size := ⟨_, rfl⟩
  have hbw : w.heap.size = g1 := hg1.symm
  rw [← hg1] at h1
  have HB := Lib.hid b1
  clear hg1 hC b1
  generalize termF wiF T 0 M me = R at *
  go_enter Tryz.func59, Tryz.ntmps59
  go_upto_region 1 with (fail)
  generalize w.alloc (.cells #[.slice ta T.length tc] 42) = w1 at *
  clear hbw
  have c0 := h1.cell 0 rfl
  clear h1
  go_wp2_with (go_at_call 72; (with_reducible refine KT.out.mono ?_); (first | rintro e w2 ⟨rfl, hb2⟩ | rintro e w2 rfl hb2))
  go_ret
  exact ⟨rfl, below_tr HB.out hb2⟩
end Go.Proofs.YtpofijdkckaphaaGreatDoor
/- Seats in memory; whether a seat's condition holds among the members of a set: the program's holds. -/
namespace Go.Proofs.YtpofijdkckaphaaGreatDoor
open Go.RowKit
def seC (x : Seat) : List Value := [.string ⟨x.mem.person.toArray⟩, .int .i64 x.mem.number, .int .i64 x.mem.dept, .int .i64 x.mem.day, .slice x.mem.aa x.mem.ans.length x.mem.ac, .slice x.ca x.T.length x.cc, .bool x.opn]
theorem seC_len (x : Seat) : (seC x).length = 7 := rfl
/-- seats that can be read -/
structure RdS (w : World) (a : Option Addr) (l : List Seat) : Prop where
  rows : Rd w a (rowsC seC l)
  cnd : ∀ x ∈ l, RdT w x.ca x.T
  ans : ∀ x ∈ l, Rd w x.mem.aa (rowsC anC x.mem.ans)
  ok : ∀ x ∈ l, x.mem.In
  tl : ∀ x ∈ l, x.T.length ≤ 1000
theorem RdS.keep {w w' : World} {a : Option Addr} {l : List Seat} (h : RdS w a l) (hb : Below w.heap.size w w') : RdS w' a l :=
  ⟨h.rows.keep hb, fun x hx => (h.cnd x hx).keep hb, fun x hx => (h.ans x hx).keep hb, h.ok, h.tl⟩
theorem RdS.seat {w : World} {a : Option Addr} {l : List Seat} (h : RdS w a l) {k : Nat} (hk : k < l.length) :
    ∃ g off x, a = some ⟨g, off, none⟩ ∧ Hid (l[k]? = some x) ∧ w.cell? ⟨g, off + k * 7, none⟩ = some (.string ⟨x.mem.person.toArray⟩) ∧ w.cell? ⟨g, off + k * 7 + 1, none⟩ = some (.int .i64 x.mem.number) ∧ w.cell? ⟨g, off + k * 7 + 2, none⟩ = some (.int .i64 x.mem.dept) ∧ w.cell? ⟨g, off + k * 7 + 3, none⟩ = some (.int .i64 x.mem.day) ∧ w.cell? ⟨g, off + k * 7 + 4, none⟩ = some (.slice x.mem.aa x.mem.ans.length x.mem.ac) ∧ w.cell? ⟨g, off + k * 7 + 5, none⟩ = some (.slice x.ca x.T.length x.cc) ∧ w.cell? ⟨g, off + k * 7 + 6, none⟩ = some (.bool x.opn) := by
  obtain ⟨g, off, x, ha, hx, hc⟩ := h.rows.rows (f := seC) (k := 7) seC_len (by decide) hk
  have d0 := hc 0 _ rfl
  rw [Nat.add_zero] at d0
  exact ⟨g, off, x, ha, hx, d0, hc 1 _ rfl, hc 2 _ rfl, hc 3 _ rfl, hc 4 _ rfl, hc 5 _ rfl, hc 6 _ rfl⟩
theorem memS_at {l : List Seat} {k : Nat} {x : Seat} (h : l[k]? = some x) : memS l (k : Int) = x.mem := by
  unfold memS
  rw [Int.toNat_natCast, h]
set_option maxRecDepth 100000 in
set_option maxHeartbeats 4000000 in
theorem gholds_walk (l : List Seat) (a : Option Addr) (c : Nat) (A : List Int) (sa : Option Addr) (sc : Nat) (s : Nat) (w : World) (hS : RdS w a l) (hA : Rd w sa (ints A)) (hin : ∀ i ∈ A, i ∈ upI l.length) (hs : s < l.length) (hAl : A.length ≤ 1000) :
    Calls Tryz.prog 36 #[.slice a l.length c, .slice sa A.length sc, .int .i64 (s : Int)] w fun e w' => e = .returned (.bool (holdS wiF l A (s : Int))) ∧ Below w.heap.size w w' := by
  obtain ⟨g0, off0, xs, rfl, hxs, -⟩ := hS.seat hs
  have hdef : holdS wiF l A (s : Int) = termF wiF xs.T 0 (A.map (memS l)) (idxS A (s : Int)) := by
    unfold holdS
    rw [Int.toNat_natCast, hxs.out]
  rw [hdef]
  have HXS := Lib.hid (mem_at hxs)
  have HD := Lib.hid hin
  have HS := Lib.hid hS
  have HA := Lib.hid hA
  have HSL := Lib.hid hs
  clear hdef hin hS hA
  go_enter Tryz.func36, Tryz.ntmps36
  go_wp2_with fail
  go_loopw [7, 12] (fun v i wr => ∃ (k : Nat) (am : Option Addr) (cm : Nat), k ≤ A.length ∧ i = .int .i64 (k : Int) ∧ v = .slice am k cm ∧ Ow wr w.heap.size 5 am k cm (rowsC mmC ((A.take k).map (memS l))) ∧ Below w.heap.size w wr) (fun _ i _ => A.length - (intOf i).toNat)
  case atStart => exact ⟨0, none, 0, by omega, rfl, rfl, Ow.nil _ _ _, Below.refl _ _⟩
  case round =>
    obtain ⟨k, am, cm, hk, rfl, rfl, hO, hB⟩ := hrel
    by_cases hkt : k < A.length
    · have hkl : (k : Int) < (A.length : Int) := by omega
      obtain ⟨ga, offa, i, rfl, ca, hi⟩ := (HA.out.keep hB).int (k := k) hkt
      have hiu := mem_upI.1 (HD.out i (mem_at hi))
      obtain ⟨n, rfl⟩ : ∃ n : Nat, i = (n : Int) := ⟨i.toNat, by omega⟩
      have hn : n < l.length := by omega
      have hnl : (n : Int) < (l.length : Int) := by omega
      obtain ⟨gl, ol, x, hgl, hx, d0, d1, d2, d3, d4, -, -⟩ := (HS.out.keep hB).seat hn
      cases hgl
      have HR3 : Hid (rowsC mmC ((A.take (k + 1)).map (memS l)) = rowsC mmC ((A.take k).map (memS l)) ++ [.string ⟨x.mem.person.toArray⟩, .int .i64 x.mem.number, .int .i64 x.mem.dept, .int .i64 x.mem.day, .slice x.mem.aa x.mem.ans.length x.mem.ac]) := Lib.hid (by
        rw [take_at hi, List.map_append, rowsC_append, List.map_singleton, rowsC_single, memS_at hx.out]; rfl)
      have hsz := hB.size
      clear hi hx hiu
      go_wp2_with (at_builtin; refine wpList_app1 (w0 := w) (B := w.heap.size) (base := w.heap.size) rfl _ _ _ rfl elMem rfl hO hB (Nat.le_refl _) hsz (cs := [.string ⟨x.mem.person.toArray⟩, .int .i64 x.mem.number, .int .i64 x.mem.dept, .int .i64 x.mem.day, .slice x.mem.aa x.mem.ans.length x.mem.ac]) rfl rfl (by intro u hu; simp at hu; rcases hu with rfl | rfl | rfl | rfl | rfl <;> rfl) (by omega) ?_; intro a5 c5 w8 hO5 hb5 hg5; clear hg5)
      rw [← HR3.out] at hO5
      clear ca d0 d1 d2 d3 d4 hO hB
      have HO5 := Lib.hid hO5
      have HB5 := Lib.hid hb5
      clear hO5 hb5
      go_roundw
      case rel => exact ⟨k + 1, a5, c5, by omega, by go_num, rfl, HO5.out, HB5.out⟩
      case measure => simp [intOf]; omega
    · have hkl : ¬ (k : Int) < (A.length : Int) := by omega
      obtain rfl : k = A.length := by omega
      rw [List.take_length] at hO
      obtain ⟨gl, ol, x, hgl, hx, -, -, -, -, -, d5, -⟩ := (HS.out.keep hB).seat HSL.out
      cases hgl
      obtain rfl : xs = x := Option.some.inj (hxs.out.symm.trans hx.out)
      have hml : (A.map (memS l)).length = A.length := List.length_map _
      have hsl : (s : Int) < (l.length : Int) := by omega
      have hM : RdM wr am (A.map (memS l)) := ⟨hO.rd, fun m hm => by
        obtain ⟨i, hi, rfl⟩ := List.mem_map.1 hm
        have hiu := mem_upI.1 (HD.out i hi)
        have hx2 := List.getElem?_eq_getElem (l := l) (i := i.toNat) (by omega)
        unfold memS
        rw [hx2]
        exact (HS.out.ans _ (List.getElem_mem _)).keep hB, fun m hm => by
        obtain ⟨i, hi, rfl⟩ := List.mem_map.1 hm
        have hiu := mem_upI.1 (HD.out i hi)
        have hx2 := List.getElem?_eq_getElem (l := l) (i := i.toNat) (by omega)
        unfold memS
        rw [hx2]
        exact HS.out.ok _ (List.getElem_mem _)⟩
      have hT : RdT wr xs.ca xs.T := (HS.out.cnd xs HXS.out).keep hB
      have htl := HS.out.tl xs HXS.out
      have KH := Lib.hid (fun me V (hv : Below wr.heap.size wr V) => cholds_walk xs.T xs.ca xs.cc (A.map (memS l)) am cm me V ⟨hT.keep hv, hM.keep hv⟩ (by omega) (by omega))
      rw [hml] at KH
      have KI := Lib.hid (fun V (hv : Below wr.heap.size wr V) => iindex_walk sa A sc (s : Int) V ((HA.out.keep hB).keep hv) (by omega))
      have HB := Lib.hid hB
      clear hM hT htl hml hO hx hB
      go_upto_region 7 with (fail)
      have u5 := fun d os => cell_regrown d5 d os
      refine wp_region_quiet_below (by kernel_rfl) (by kernel_rfl) ?_
      repeat (go_big_quiet_step (first
        | (go_at_call 58; with_reducible exact Calls.regrown_of (Calls.calm (KI.out _ (below_regrown _ _ _))))
        | (go_at_call 59; with_reducible exact Calls.regrown_of (KH.out _ _ (below_regrown _ _ _)))))
      refine wpQuiet_nil ?_
      rintro w7 ⟨p2, hw7⟩
      have hq := show Below wr.heap.size wr w7 by first | (rw [hw7]; exact below_regrown wr p2.d p2.os) | (rw [← hw7]; exact below_regrown wr p2.d p2.os)
      clear hw7
      have HQ := Lib.hid (below_tr HB.out hq)
      clear u5 d5 hq
      go_wp2
      go_ret
      exact ⟨rfl, HQ.out⟩
end Go.Proofs.YtpofijdkckaphaaGreatDoor
/- Seats: the closure of goes. -/
namespace Go.Proofs.YtpofijdkckaphaaGreatDoor
open Go.RowKit
/-- what the closure of goes reads: the seats, a set -/
structure EnvG (w : World) (g0 g1 : Nat) (a : Option Addr) (l : List Seat) (c : Nat) (sa : Option Addr) (A : List Int) (sc : Nat) : Prop where
  bl : Bx w g0 27 [.slice a l.length c]
  bs : Bx w g1 22 [.slice sa A.length sc]
  r : RdS w a l
  i : Rd w sa (ints A)
theorem EnvG.keep {w w' : World} {g0 g1 : Nat} {a : Option Addr} {l : List Seat} {c : Nat} {sa : Option Addr} {A : List Int} {sc : Nat} (h : EnvG w g0 g1 a l c sa A sc) (hb : Below w.heap.size w w') : EnvG w' g0 g1 a l c sa A sc :=
  ⟨h.bl.keep hb, h.bs.keep hb, h.r.keep hb, h.i.keep hb⟩
theorem opS_at {l : List Seat} {k : Nat} {x : Seat} (h : l[k]? = some x) : opS l (k : Int) = x.opn := by
  unfold opS
  rw [Int.toNat_natCast, h]
set_option maxRecDepth 100000 in
set_option maxHeartbeats 2000000 in
theorem goes1_clo (l : List Seat) (a : Option Addr) (c : Nat) (A : List Int) (sa : Option Addr) (sc : Nat) (g0 g1 : Nat) (s : Nat) (w : World) (hE : EnvG w g0 g1 a l c sa A sc) (hin : ∀ i ∈ A, i ∈ upI l.length) (hs : s < l.length) (hAl : A.length ≤ 1000) :
    Calls Tryz.prog 71 #[.int .i64 (s : Int), .pointer (some ⟨g0, 0, none⟩), .pointer (some ⟨g1, 0, none⟩)] w fun e w' => e = .returned (.bool (opS l (s : Int) || holdS wiF l A (s : Int))) ∧ Below w.heap.size w w' := by
  have KH := Lib.hid (fun V (hv : Below w.heap.size w V) => gholds_walk l a c A sa sc s V (hE.r.keep hv) (hE.i.keep hv) hin hs hAl)
  obtain ⟨gl, ol, x, rfl, hx, -, -, -, -, -, -, d6⟩ := hE.r.seat hs
  have d0 := hE.bl.cell 0 rfl
  have d1 := hE.bs.cell 0 rfl
  rw [opS_at hx.out]
  have hsl : (s : Int) < (l.length : Int) := by omega
  clear hE hin hx hs hAl
  generalize hz : x.opn = z at *
  clear hz
  go_enter Tryz.func71, Tryz.ntmps71
  cases z with
  | true =>
    go_wp2
    go_ret
    exact ⟨rfl, Below.refl _ _⟩
  | false =>
    go_wp2_with (go_at_call 36; (with_reducible refine (KH.out _ (Below.refl _ _)).mono ?_); rintro e w1 ⟨rfl, hb1⟩)
    go_ret
    exact ⟨rfl, hb1⟩
end Go.Proofs.YtpofijdkckaphaaGreatDoor
/- Seats: the closure of less; numbers without others. -/
namespace Go.Proofs.YtpofijdkckaphaaGreatDoor
open Go.RowKit
set_option maxRecDepth 100000 in
set_option maxHeartbeats 2000000 in
theorem less1_clo (A : List Int) (sa : Option Addr) (sc : Nat) (g0 : Nat) (x : Int) (w : World) (hB : Bx w g0 22 [.slice sa A.length sc]) (hA : Rd w sa (ints A)) (hAl : A.length ≤ 1000) :
    Calls Tryz.prog 65 #[.int .i64 x, .pointer (some ⟨g0, 0, none⟩)] w fun e w' => e = .returned (.bool (decide (x ∈ A))) ∧ Below w.heap.size w w' := by
  have KI := Lib.hid (icontains_walk sa A sc x w hA (by omega))
  have d0 := hB.cell 0 rfl
  clear hA hB hAl
  go_enter Tryz.func65, Tryz.ntmps65
  go_wp2_with (go_at_call 35; (with_reducible refine KI.out.mono ?_); rintro e w1 ⟨rfl, rfl⟩)
  go_ret
  exact ⟨rfl, Below.refl _ _⟩
end Go.Proofs.YtpofijdkckaphaaGreatDoor
/- Seats: numbers without others: the program's less. -/
namespace Go.Proofs.YtpofijdkckaphaaGreatDoor
open Go.RowKit
set_option maxRecDepth 100000 in
set_option maxHeartbeats 2000000 in
theorem less_walk (A B : List Int) (sa sb : Option Addr) (ac bc : Nat) (w : World) (hA : Rd w sa (ints A)) (hB : Rd w sb (ints B)) (hAl : A.length ≤ 1000) (hBl : B.length ≤ 1000) :
    Calls Tryz.prog 41 #[.slice sa A.length ac, .slice sb B.length bc] w fun e w' => ∃ a' c', e = .returned (.slice a' (lessP A B).length c') ∧ Rd w' a' (ints (lessP A B)) ∧ Below w.heap.size w w' ∧ ∀ j, rowOf a' = some j → w.heap.size ≤ j ∧ j < w'.heap.size := by
  have hb0 := (Below.refl w.heap.size w).alloc (Nat.le_refl _) (.cells #[.slice sb B.length bc] 22)
  have h1 := Bx.new w 22 [.slice sb B.length bc]
  change Bx (w.alloc (.cells #[.slice sb B.length bc] 22)) _ _ _ at h1
  have K1 := Lib.hid (iclone_walk sa A ac _ (hA.keep hb0) (by omega))
  have hB1 := hB.keep hb0
  obtain ⟨g1, hg1⟩ : ∃ g, g = w.heap.size := ⟨_, rfl⟩
  have hbw : w.heap.size = g1 := hg1.symm
  rw [← hg1] at h1
  have HB := Lib.hid hb0
  clear hg1 hA hB hb0
  go_enter Tryz.func41, Tryz.ntmps41
  go_upto_region 1 with (fail)
  generalize w.alloc (.cells #[.slice sb B.length bc] 22) = w1 at *
  have K2 := Lib.hid (fun V a' c' (hv : Below w1.heap.size w1 V) (hO : Ow V w1.heap.size 1 a' A.length c' (ints A)) => ldel_walk (fun x => decide (x ∈ B)) w1.heap.size a' A c' g1 V hv.size (fun x _ w2 hw2 => less1_clo B sb bc g1 x w2 (h1.keep (hv.trans hw2)) (hB1.keep (hv.trans hw2)) hBl) hO (by omega))
  clear hbw h1 hB1
  go_wp2_with (first
    | (go_at_call 53; (with_reducible refine K1.out.mono ?_); rintro e w2 ⟨a2, c2, rfl, hO2, hb2⟩)
    | (go_at_call 52; (with_reducible refine (K2.out _ _ _ hb2 hO2).mono ?_); rintro e w3 ⟨rfl, hR3, hb3⟩))
  go_ret
  exact ⟨a2, c2, rfl, hR3, below_tr HB.out (hb2.trans hb3), fun j hj => ⟨Nat.le_trans HB.out.size (hO2.row j hj).1, Nat.lt_of_lt_of_le (hO2.row j hj).2 hb3.size⟩⟩
end Go.Proofs.YtpofijdkckaphaaGreatDoor
/- Seats: those that go: the program's goes. -/
namespace Go.Proofs.YtpofijdkckaphaaGreatDoor
open Go.RowKit
set_option maxRecDepth 100000 in
set_option maxHeartbeats 2000000 in
theorem goes_walk (l : List Seat) (a : Option Addr) (c : Nat) (A : List Int) (sa : Option Addr) (ac : Nat) (w : World) (hS : RdS w a l) (hA : Rd w sa (ints A)) (hin : ∀ i ∈ A, i ∈ upI l.length) (hAl : A.length ≤ 1000) :
    Calls Tryz.prog 56 #[.slice a l.length c, .slice sa A.length ac] w fun e w' => ∃ a' c', e = .returned (.slice a' (goesP (opS l) (holdS wiF l) A).length c') ∧ Rd w' a' (ints (goesP (opS l) (holdS wiF l) A)) ∧ Below w.heap.size w w' ∧ ∀ j, rowOf a' = some j → w.heap.size ≤ j ∧ j < w'.heap.size := by
  obtain ⟨v, hv⟩ : ∃ v, v = w.alloc (.cells #[.slice a l.length c] 27) := ⟨_, rfl⟩
  have hb0 := (Below.refl w.heap.size w).alloc (Nat.le_refl _) (.cells #[.slice a l.length c] 27)
  have h1 := Bx.new w 27 [.slice a l.length c]
  change Bx (w.alloc (.cells #[.slice a l.length c] 27)) _ _ _ at h1
  rw [← hv] at hb0 h1
  have hb1 := (Below.refl v.heap.size v).alloc (Nat.le_refl _) (.cells #[.slice sa A.length ac] 22)
  have h2 := Bx.new v 22 [.slice sa A.length ac]
  change Bx (v.alloc (.cells #[.slice sa A.length ac] 22)) _ _ _ at h2
  have hE : EnvG (v.alloc (.cells #[.slice sa A.length ac] 22)) w.heap.size v.heap.size a l c sa A ac := ⟨h1.keep hb1, h2, (hS.keep hb0).keep hb1, (hA.keep hb0).keep hb1⟩
  have HB := Lib.hid (below_tr hb0 hb1)
  have d1 := h2.cell 0 rfl
  clear h1 h2 hb0 hb1 hS hA
  generalize hG : goesP (opS l) (holdS wiF l) A = G
  have hs1 : v.heap.size = w.heap.size + 1 := by rw [hv]; exact Array.size_push _
  rw [hs1] at hE d1
  subst hv
  clear hs1
  go_enter Tryz.func56, Tryz.ntmps56
  go_upto_region 1 with (fail)
  generalize w.heap.size + 1 = g1 at *
  generalize (w.alloc (.cells #[.slice a l.length c] 27)).alloc (.cells #[.slice sa A.length ac] 22) = w1 at *
  have K1 := Lib.hid (iclone_walk sa A ac w1 hE.i (by omega))
  have hK : ∀ x ∈ A, ∀ w2, Below w1.heap.size w1 w2 → Calls Tryz.prog 71 #[.int .i64 x, .pointer (some ⟨w.heap.size, 0, none⟩), .pointer (some ⟨g1, 0, none⟩)] w2 fun e w3 => e = .returned (.bool (opS l x || holdS wiF l A x)) ∧ Below w2.heap.size w2 w3 := fun x hx w2 hw2 => by
    have hu := mem_upI.1 (hin x hx)
    have h := goes1_clo l a c A sa ac w.heap.size g1 x.toNat w2 (hE.keep hw2) hin (by omega) hAl
    rwa [Int.toNat_of_nonneg hu.1] at h
  have K2 : Hid (∀ V a' c', Below w1.heap.size w1 V → Ow V w1.heap.size 1 a' A.length c' (ints A) → Calls Tryz.prog 52 #[.slice a' A.length c', .func (.func 71) #[] #[.pointer (some ⟨w.heap.size, 0, none⟩), .pointer (some ⟨g1, 0, none⟩)]] V (fun e w' => e = .returned (.slice a' G.length c') ∧ Rd w' a' (ints G) ∧ Below w1.heap.size V w')) := Lib.hid (fun V a' c' hv hO => by
    have h := gdel_walk (fun x => opS l x || holdS wiF l A x) w1.heap.size a' A c' w.heap.size g1 V hv.size (fun x hx w2 hw2 => hK x hx w2 (hv.trans hw2)) hO (by omega)
    subst hG
    exact h)
  clear hK
  clear hE hG
  go_wp2_with (first
    | (go_at_call 53; (with_reducible refine K1.out.mono ?_); rintro e w2 ⟨a2, c2, rfl, hO2, hb2⟩)
    | (go_at_call 52; (with_reducible refine (K2.out _ _ _ hb2 hO2).mono ?_); rintro e w3 ⟨rfl, hR3, hb3⟩))
  go_ret
  exact ⟨a2, c2, rfl, hR3, below_tr HB.out (hb2.trans hb3), fun j hj => ⟨Nat.le_trans HB.out.size (hO2.row j hj).1, Nat.lt_of_lt_of_le (hO2.row j hj).2 hb3.size⟩⟩
end Go.Proofs.YtpofijdkckaphaaGreatDoor
