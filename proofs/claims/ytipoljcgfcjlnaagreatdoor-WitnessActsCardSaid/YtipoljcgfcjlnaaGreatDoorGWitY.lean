/- Which chains a stamp covers: the reference's, at chains that are right. -/
import Derived.Test.YtipoljcgfcjlnaaGreatDoorGWitI
import Derived.Test.YtipoljcgfcjlnaaGreatDoorGCustodyT
namespace Go.Proofs.YtipoljcgfcjlnaaGreatDoor
open Go.RowKit
theorem rootF_nil' : rootF [] = [] := by simp [rootF]
set_option maxRecDepth 100000 in
set_option maxHeartbeats 4000000 in
theorem rcovers_out (x : Stm) (a : Option Addr) (L : List Rec) (c : Nat) (w : World) (hR : Rd w a (recs L)) (hr : Right L L.length) (hI : ∀ r ∈ L, r.In) (hn : x.head.count < 0 ∨ (L.length : Int) < x.head.count) :
    Calls Tryz.prog 18 #[x.val, .slice a L.length c] w fun e w' => e = .returned (.bool (coversF x L)) ∧ Below w.heap.size w w' := by
  have h1024 := hr.len (Nat.le_refl _)
  have hck : ∀ V, Rd V a (recs L) → Calls Tryz.prog 42 #[.slice a L.length c] V fun e w' => e = .returned (.tuple #[.int .i64 0, .int .i64 0]) ∧ Below V.heap.size V w' := fun V hV => by
    have := rcheck_walk a L c V hV (by omega) hI
    rwa [checkF_right hr] at this
  have hf : coversF x L = false := by
    unfold coversF
    rcases hn with h | h
    · rw [decide_eq_false (by omega), Bool.false_and]
    · rw [show decide (x.head.count ≤ (L.length : Int)) = false from decide_eq_false (by omega), Bool.false_and, Bool.and_false]
  rw [hf]
  obtain ⟨⟨xn, xl, xr, xt⟩, xs, xk, x1, x2⟩ := x
  dsimp only [Head.val] at *
  have HC := Lib.hid hck
  have HR := Lib.hid hR
  obtain ⟨m, hm⟩ : ∃ m, m = L.length := ⟨_, rfl⟩
  rw [← hm] at hn HC ⊢
  clear hck hR hr hI hm hf
  have hb0 := (Below.refl w.heap.size w).alloc (Nat.le_refl _) (stmB ⟨⟨xn, xl, xr, xt⟩, xs, xk, x1, x2⟩)
  have hG := Bx.new w 28 [.int .i64 xn, .string ⟨xl.toArray⟩, .string ⟨xr.toArray⟩, .int .i64 xt, .int .i64 xs, .int .i64 xk, .int .i64 x1, .int .i64 x2]
  go_enter Tryz.func18, Tryz.ntmps18
  go_wp2_with (go_at_call 42; (with_reducible refine (HC.out _ (HR.out.keep hb0)).mono ?_))
  (first | rintro e w1 rfl hb2 | rintro e w1 ⟨rfl, hb2⟩)
  change Bx (w.alloc (stmB ⟨⟨xn, xl, xr, xt⟩, xs, xk, x1, x2⟩)) _ _ _ at hG
  replace hG := hG.keep hb2
  have hbW := hb0.trans (hb2.mono hb0.size)
  clear hb0 hb2 HC HR
  obtain ⟨g, hg⟩ : ∃ g, g = w.heap.size := ⟨_, rfl⟩
  have hgw : w.heap.size = g := hg.symm
  rw [← hg] at hG
  have HG := Lib.hid hg
  clear hg
  have c0 := hG.cell 0 rfl
  by_cases hneg : xn < 0
  · have t1 : decide (xn < 0) = true := decide_eq_true hneg
    clear hn
    go_wp2
    go_ret
    exact ⟨rfl, hbW⟩
  · have t1 : decide (xn < 0) = false := decide_eq_false hneg
    have t2 : decide (xn > (m : Int)) = true := decide_eq_true (by omega)
    clear hn
    go_wp2
    go_ret
    exact ⟨rfl, hbW⟩
set_option maxRecDepth 100000 in
set_option maxHeartbeats 4000000 in
theorem rcovers_in (x : Stm) (a : Option Addr) (L : List Rec) (c n : Nat) (w : World) (hR : Rd w a (recs L)) (hc : L.length ≤ c) (hr : Right L L.length) (hI : ∀ r ∈ L, r.In) (hn : n ≤ L.length) (hcnt : x.head.count = (n : Int)) :
    Calls Tryz.prog 18 #[x.val, .slice a L.length c] w fun e w' => e = .returned (.bool (coversF x L)) ∧ Below w.heap.size w w' := by
  have h1024 := hr.len (Nat.le_refl _)
  have hck : ∀ V, Rd V a (recs L) → Calls Tryz.prog 42 #[.slice a L.length c] V fun e w' => e = .returned (.tuple #[.int .i64 0, .int .i64 0]) ∧ Below V.heap.size V w' := fun V hV => by
    have := rcheck_walk a L c V hV (by omega) hI
    rwa [checkF_right hr] at this
  have hlen2 : (L.take n).length = n := by rw [List.length_take]; omega
  have hhd : ∀ V, Rd V a (recs L) → Calls Tryz.prog 27 #[.slice a n c] V fun e w' => e = .returned (.tuple #[(headF (L.take n)).val, .int .i64 0]) ∧ Below V.heap.size V w' := fun V hV => by
    have := rhead_walk a (L.take n) c V (hV.recTake n) (by omega) (fun r h => hI r (List.mem_of_mem_take h))
    rw [hlen2, checkF_right (hr.prefix hn)] at this
    exact this
  have hf : coversF x L = (if n = 0 then x.head.last == [] && x.head.root == [] else headEq (headF (L.take n)) x.head) := by
    unfold coversF
    rw [hcnt, decide_eq_true (by omega), decide_eq_true (by omega), Bool.true_and, Bool.true_and, Int.toNat_natCast]
    by_cases h : n = 0
    · rw [if_pos h, if_pos (by omega)]
    · rw [if_neg h, if_neg (by omega)]
  rw [hf]
  have hcn : (headF (L.take n)).count = (n : Int) := by rw [headF_take hr hn]
  have hz : n = 0 → (headF (L.take n)).last = [] ∧ (headF (L.take n)).root = [] := fun h => by
    subst h
    rw [headF_take hr hn]
    refine ⟨rfl, ?_⟩
    rw [List.take_zero, List.map_nil]
    exact rootF_nil'
  generalize headF (L.take n) = y at *
  obtain ⟨yn, yl, yr, yt⟩ := y
  dsimp only at hcn hz
  subst hcn
  obtain ⟨v, hv⟩ : ∃ v, (if n = 0 then x.head.last == [] && x.head.root == [] else headEq ⟨(n : Int), yl, yr, yt⟩ x.head) = v := ⟨_, rfl⟩
  rw [hv]
  obtain ⟨⟨xn, xl, xr, xt⟩, xs, xk, x1, x2⟩ := x
  dsimp only [Head.val] at *
  subst hcnt
  have HC := Lib.hid hck
  have HH := Lib.hid hhd
  have HR := Lib.hid hR
  have HZ := Lib.hid hz
  obtain ⟨m, hm⟩ : ∃ m, m = L.length := ⟨_, rfl⟩
  rw [← hm] at hn hc h1024 HC ⊢
  clear hck hhd hlen2 hR hr hI hm hf hz
  have hb0 := (Below.refl w.heap.size w).alloc (Nat.le_refl _) (stmB ⟨⟨(n : Int), xl, xr, xt⟩, xs, xk, x1, x2⟩)
  have hG := Bx.new w 28 [.int .i64 (n : Int), .string ⟨xl.toArray⟩, .string ⟨xr.toArray⟩, .int .i64 xt, .int .i64 xs, .int .i64 xk, .int .i64 x1, .int .i64 x2]
  go_enter Tryz.func18, Tryz.ntmps18
  go_wp2_with (go_at_call 42; (with_reducible refine (HC.out _ (HR.out.keep hb0)).mono ?_))
  (first | rintro e w1 rfl hb2 | rintro e w1 ⟨rfl, hb2⟩)
  have HR1 := Lib.hid ((HR.out.keep hb0).keep hb2)
  change Bx (w.alloc (stmB ⟨⟨(n : Int), xl, xr, xt⟩, xs, xk, x1, x2⟩)) _ _ _ at hG
  replace hG := hG.keep hb2
  have hbW := hb0.trans (hb2.mono hb0.size)
  clear hb0 hb2 HC HR
  obtain ⟨g, hg⟩ : ∃ g, g = w.heap.size := ⟨_, rfl⟩
  have hgw : w.heap.size = g := hg.symm
  rw [← hg] at hG
  have HG := Lib.hid hg
  clear hg
  have c0 := hG.cell 0 rfl
  have t1 : decide ((n : Int) < 0) = false := decide_eq_false (by omega)
  have t2 : decide ((n : Int) > (m : Int)) = false := decide_eq_false (by omega)
  have t3 : decide (m < n) = false := decide_eq_false (by omega)
  have hnc : (n : Int) ≤ (c : Int) := by omega
  go_wp2_with (go_at_call 27; (with_reducible refine (HH.out _ HR1.out).mono ?_))
  (first | rintro e w2 rfl hb2 | rintro e w2 ⟨rfl, hb2⟩)
  have hlt : g ≠ w2.heap.size := by have := hb2.size; have := hG.lt; omega
  replace hG := (hG.keep hb2).alloc (headB ⟨(n : Int), yl, yr, yt⟩)
  have hH := Bx.new w2 24 [.int .i64 (n : Int), .string ⟨yl.toArray⟩, .string ⟨yr.toArray⟩, .int .i64 yt]
  change Bx (w2.alloc (headB ⟨(n : Int), yl, yr, yt⟩)) _ _ _ at hH
  have hW2 : w.heap.size ≤ w2.heap.size := by have := hbW.size; have := hb2.size; omega
  replace hbW := (hbW.trans (hb2.mono hbW.size)).alloc hW2 (headB ⟨(n : Int), yl, yr, yt⟩)
  clear hb2 HR1 c0 HH t1 t2 t3 hnc
  go_upto_region 5 with (fail)
  generalize w2.alloc (headB ⟨(n : Int), yl, yr, yt⟩) = w3 at *
  generalize w2.heap.size = gh at *
  have c0 := hG.cell 0 rfl
  have c1 := hG.cell 1 rfl
  have c2 := hG.cell 2 rfl
  have c3 := hG.cell 3 rfl
  have d0 := hH.cell 0 rfl
  have d1 := hH.cell 1 rfl
  have d2 := hH.cell 2 rfl
  have d3 := hH.cell 3 rfl
  by_cases h0 : n = 0
  · obtain ⟨rfl, rfl⟩ := HZ.out h0
    subst h0
    rw [if_pos rfl] at hv
    have f3 := hH.free 3
    have hbX := hbW.setCell (p := ⟨gh, 3, none⟩) hW2 (.int .i64 xt)
    by_cases e1 : xl = []
    · subst e1
      by_cases e2 : xr = []
      · subst e2
        obtain rfl : v = true := by rw [← hv]; rfl
        clear hv
        go_wp2
        go_ret
        exact ⟨rfl, hgw ▸ hbX⟩
      · have q2 : (xr == []) = false := by rw [beq_eq_false_iff_ne]; exact e2
        have q3 : ([] == xr) = false := by rw [beq_eq_false_iff_ne]; exact fun h => e2 h.symm
        obtain rfl : v = false := by rw [← hv, q2, Bool.and_false]
        clear hv
        go_wp2
        go_ret
        exact ⟨rfl, hgw ▸ hbX⟩
    · have q1 : (xl == []) = false := by rw [beq_eq_false_iff_ne]; exact e1
      have q3 : ([] == xl) = false := by rw [beq_eq_false_iff_ne]; exact fun h => e1 h.symm
      obtain rfl : v = false := by rw [← hv, q1, Bool.false_and]
      clear hv
      go_wp2
      go_ret
      exact ⟨rfl, hgw ▸ hbX⟩
  · rw [if_neg h0] at hv
    have hn0 : ((n : Int) == 0) = false := by rw [beq_eq_false_iff_ne]; omega
    clear h0
    cases hE : headEq ⟨(n : Int), yl, yr, yt⟩ ⟨(n : Int), xl, xr, xt⟩ with
    | true =>
      obtain rfl : v = true := by rw [← hv, hE]
      clear hv
      have := headEq_iff.1 hE
      simp only [Head.mk.injEq, true_and] at this
      obtain ⟨rfl, rfl, rfl⟩ := this
      clear hE
      go_wp2
      go_ret
      exact ⟨rfl, hbW⟩
    | false =>
      obtain rfl : v = false := by rw [← hv, hE]
      clear hv
      have hf := head_first hE
      dsimp only at hf
      clear hE
      rcases hf with hf | ⟨-, hf⟩ | ⟨-, rfl, hf⟩ | ⟨-, rfl, rfl, hf⟩
      · simp at hf
      all_goals
        go_wp2
        go_ret
        exact ⟨rfl, hgw ▸ hbW⟩
/-- whether a stamp covers a right chain: both sides -/
theorem covers_any (x : Stm) (a : Option Addr) (L : List Rec) (c : Nat) (w : World) (hR : Rd w a (recs L)) (hc : L.length ≤ c) (hr : Right L L.length) (hI : ∀ r ∈ L, r.In) :
    Calls Tryz.prog 17 #[x.val, .slice a L.length c] w fun e w' => e = .returned (.bool (coversF x L)) ∧ Below w.heap.size w w' := by
  by_cases h : x.head.count < 0 ∨ (L.length : Int) < x.head.count
  · exact covers_out x a L c w hR hc hr hI h
  · exact covers_in x a L c x.head.count.toNat w hR hc hr hI (by omega) (by omega)
theorem rcovers_any (x : Stm) (a : Option Addr) (L : List Rec) (c : Nat) (w : World) (hR : Rd w a (recs L)) (hc : L.length ≤ c) (hr : Right L L.length) (hI : ∀ r ∈ L, r.In) :
    Calls Tryz.prog 18 #[x.val, .slice a L.length c] w fun e w' => e = .returned (.bool (coversF x L)) ∧ Below w.heap.size w w' := by
  by_cases h : x.head.count < 0 ∨ (L.length : Int) < x.head.count
  · exact rcovers_out x a L c w hR hr hI h
  · exact rcovers_in x a L c x.head.count.toNat w hR hc hr hI (by omega) (by omega)
end Go.Proofs.YtipoljcgfcjlnaaGreatDoor
