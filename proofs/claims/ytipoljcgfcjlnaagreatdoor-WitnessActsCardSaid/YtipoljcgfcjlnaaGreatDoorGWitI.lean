/- Stamps of a witness: a chain covers the stamps of its beginnings. -/
import Derived.Test.YtipoljcgfcjlnaaGreatDoorGWitH
namespace Go.Proofs.YtipoljcgfcjlnaaGreatDoor
open Go.RowKit
theorem Right.step_time {L : List Rec} (h : Right L L.length) {n : Nat} (hn : n < L.length) : (lastF (L.take n)).2 ≤ (lastF (L.take (n + 1))).2 := by
  have hf := h n L[n] hn (List.getElem?_eq_getElem hn)
  have e : lastF (L.take (n + 1)) = (digF L[n], L[n].time) := by
    rw [List.take_succ_eq_append_getElem hn, lastF_snoc]
  rw [e]
  unfold followsF at hf
  split at hf
  · omega
  · split at hf
    · omega
    · split at hf
      · omega
      · rename_i h3
        show _ ≤ L[n].time
        omega
theorem Right.mono_time {L : List Rec} (h : Right L L.length) : ∀ (k n : Nat), n + k ≤ L.length → (lastF (L.take n)).2 ≤ (lastF (L.take (n + k))).2
  | 0, n, _ => Int.le_refl _
  | k + 1, n, hk => by
    have h1 := Right.mono_time h k n (by omega)
    have h2 := h.step_time (n := n + k) (by omega)
    rw [show n + (k + 1) = n + k + 1 by omega]
    omega
theorem headF_take {L : List Rec} (h : Right L L.length) {n : Nat} (hn : n ≤ L.length) : headF (L.take n) = ⟨(n : Int), (lastF (L.take n)).1, rootF ((L.take n).map digF), (lastF (L.take n)).2⟩ := by
  rw [headF_right (h.prefix hn), List.length_take, Nat.min_eq_left hn]
set_option maxRecDepth 100000 in
set_option maxHeartbeats 4000000 in
theorem covers_yes (x : Stm) (a : Option Addr) (L : List Rec) (c n : Nat) (w : World) (hR : Rd w a (recs L)) (hc : L.length ≤ c) (hr : Right L L.length) (hI : ∀ r ∈ L, r.In) (hn : n ≤ L.length) (hx : x.head = headF (L.take n)) :
    Calls Tryz.prog 17 #[x.val, .slice a L.length c] w fun e w' => e = .returned (.bool true) ∧ Below w.heap.size w w' := by
  have h1024 := hr.len (Nat.le_refl _)
  have hck : ∀ V, Rd V a (recs L) → Calls Tryz.prog 40 #[.slice a L.length c] V fun e w' => e = .returned (.tuple #[.int .i64 0, .int .i64 0]) ∧ Below V.heap.size V w' := fun V hV => by
    have := ccheck_walk a L c V hV (by omega) hc hI
    rwa [checkF_right hr] at this
  have hlen2 : (L.take n).length = n := by rw [List.length_take]; omega
  have hhd : ∀ V, Rd V a (recs L) → Calls Tryz.prog 41 #[.slice a n c] V fun e w' => e = .returned (.tuple #[x.head.val, .int .i64 0]) ∧ Below V.heap.size V w' := fun V hV => by
    have := head_walk a (L.take n) c V (hV.recTake n) (by omega) (by omega) (fun r h => hI r (List.mem_of_mem_take h))
    rw [hlen2, checkF_right (hr.prefix hn), ← hx] at this
    exact this
  have hcnt : x.head.count = (n : Int) := by rw [hx, headF_take hr hn]
  have hz : n = 0 → x.head.last = [] ∧ x.head.root = [] := by
    rintro rfl
    rw [hx, List.take_zero, headF_nil]
    exact ⟨rfl, rfl⟩
  obtain ⟨⟨xn, xl, xr, xt⟩, xs, xk, x1, x2⟩ := x
  dsimp only [Head.val] at *
  subst hcnt
  have HC := Lib.hid hck
  have HH := Lib.hid hhd
  have HX := Lib.hid hx
  have HR := Lib.hid hR
  obtain ⟨m, hm⟩ : ∃ m, m = L.length := ⟨_, rfl⟩
  rw [← hm] at hn hc h1024 HC ⊢
  clear hck hhd hx hlen2 hR hr hI hm
  have hb0 := (Below.refl w.heap.size w).alloc (Nat.le_refl _) (stmB ⟨⟨(n : Int), xl, xr, xt⟩, xs, xk, x1, x2⟩)
  have hb1 := hb0.alloc hb0.size (headB ⟨(n : Int), xl, xr, xt⟩)
  have hG := Bx.new2 w (stmB ⟨⟨(n : Int), xl, xr, xt⟩, xs, xk, x1, x2⟩) 24 [.int .i64 (n : Int), .string ⟨xl.toArray⟩, .string ⟨xr.toArray⟩, .int .i64 xt]
  go_enter Tryz.func17, Tryz.ntmps17
  go_wp2_with (go_at_call 40; (with_reducible refine (HC.out _ (HR.out.keep hb1)).mono ?_))
  (first | rintro e w1 rfl hb2 | rintro e w1 ⟨rfl, hb2⟩)
  have HR1 := Lib.hid ((HR.out.keep hb1).keep hb2)
  change Bx ((w.alloc (stmB ⟨⟨(n : Int), xl, xr, xt⟩, xs, xk, x1, x2⟩)).alloc (headB ⟨(n : Int), xl, xr, xt⟩)) _ _ _ at hG
  replace hG := hG.keep hb2
  have hbW := hb1.trans (hb2.mono hb1.size)
  clear hb0 hb1 hb2 HC HR
  obtain ⟨g, hg⟩ : ∃ g, g = w.heap.size + 1 := ⟨_, rfl⟩
  rw [← hg] at hG ⊢
  clear hg
  have c0 := hG.cell 0 rfl
  have c1 := hG.cell 1 rfl
  have c2 := hG.cell 2 rfl
  have c3 := hG.cell 3 rfl
  have hnm : (n : Int) ≤ (m : Int) := by omega
  by_cases h0 : n = 0
  · subst h0
    obtain ⟨rfl, rfl⟩ := hz rfl
    clear HH HX hz
    go_wp2
    go_ret
    exact ⟨rfl, hbW⟩
  · have hn0 : ((n : Int) == 0) = false := by rw [beq_eq_false_iff_ne]; omega
    have hnc : (n : Int) ≤ (c : Int) := by omega
    clear hz h0
    go_wp2_with (go_at_call 41; (with_reducible refine (HH.out _ HR1.out).mono ?_))
    (first | rintro e w2 rfl hb2 | rintro e w2 ⟨rfl, hb2⟩)
    replace hG := hG.keep hb2
    replace hbW := (hbW.trans (hb2.mono hbW.size)).alloc (by have := hbW.size; have := hb2.size; omega) (headB ⟨(n : Int), xl, xr, xt⟩)
    have hlt := hG.lt
    clear hb2 HR1 c0 c1 c2 c3
    have c0 := hG.cell 0 rfl
    have c1 := hG.cell 1 rfl
    have c2 := hG.cell 2 rfl
    have c3 := hG.cell 3 rfl
    go_wp2
    go_ret
    exact ⟨rfl, hbW⟩
/-! ### Stamps in a row -/
def stmC (x : Stm) : List Value := x.cells
def stms (l : List Stm) : List Value := l.flatMap stmC
theorem stms_length (l : List Stm) : (stms l).length = l.length * 8 := by
  induction l with
  | nil => rfl
  | cons r l ih => show (stmC r ++ stms l).length = _; rw [List.length_append, ih, List.length_cons]; simp [stmC]; omega
theorem stms_snoc (a : List Stm) (x : Stm) : stms a ++ x.cells = stms (a ++ [x]) := by simp [stms, stmC]
theorem stm_one (x : Stm) : ∀ u ∈ x.cells, u.oneCell' = true := by
  intro u hu
  simp at hu
  rcases hu with rfl | rfl | rfl | rfl | rfl | rfl | rfl | rfl <;> rfl
theorem stms_get {l : List Stm} {k : Nat} {x : Stm} (h : l[k]? = some x) {f : Nat} (hf : f < 8) : (stms l)[k * 8 + f]? = x.cells[f]? := by
  induction l generalizing k with
  | nil => simp at h
  | cons y l ih =>
    show (stmC y ++ stms l)[k * 8 + f]? = _
    have hx : (stmC y).length = 8 := rfl
    cases k with
    | zero =>
      simp at h; subst h
      rw [List.getElem?_append_left (by omega)]
      simp [stmC]
    | succ k =>
      rw [List.getElem?_append_right (by omega), show (k + 1) * 8 + f - (stmC y).length = k * 8 + f by rw [hx]; omega]
      exact ih (by simpa using h)
theorem Rd.stm {w : World} {a : Option Addr} {l : List Stm} (h : Rd w a (stms l)) {k : Nat} (hk : k < l.length) :
    ∃ g off x, a = some ⟨g, off, none⟩ ∧ Hid (l[k]? = some x) ∧ w.cell? ⟨g, off + k * 8, none⟩ = some (.int .i64 x.head.count) ∧ w.cell? ⟨g, off + k * 8 + 1, none⟩ = some (.string ⟨x.head.last.toArray⟩) ∧ w.cell? ⟨g, off + k * 8 + 2, none⟩ = some (.string ⟨x.head.root.toArray⟩) ∧ w.cell? ⟨g, off + k * 8 + 3, none⟩ = some (.int .i64 x.head.time)
      ∧ w.cell? ⟨g, off + k * 8 + 4, none⟩ = some (.int .i64 x.seen) ∧ w.cell? ⟨g, off + k * 8 + 5, none⟩ = some (.int .i64 x.key) ∧ w.cell? ⟨g, off + k * 8 + 6, none⟩ = some (.int .i64 x.r) ∧ w.cell? ⟨g, off + k * 8 + 7, none⟩ = some (.int .i64 x.s) := by
  have hx : l[k]? = some l[k] := List.getElem?_eq_getElem hk
  obtain ⟨g, off, ha, hc⟩ := h.at (by rw [stms_length]; omega)
  have hcell : ∀ f u, f < 8 → l[k].cells[f]? = some u → w.cell? ⟨g, off + (k * 8 + f), none⟩ = some u := fun f u hf hu => hc _ u (by rw [stms_get hx hf]; exact hu)
  refine ⟨g, off, l[k], ha, hx, ?_, ?_, ?_, ?_, ?_, ?_, ?_, ?_⟩
  · exact hcell 0 _ (by omega) rfl
  · have := hcell 1 _ (by omega) rfl; rwa [← Nat.add_assoc] at this
  · have := hcell 2 _ (by omega) rfl; rwa [← Nat.add_assoc] at this
  · have := hcell 3 _ (by omega) rfl; rwa [← Nat.add_assoc] at this
  · have := hcell 4 _ (by omega) rfl; rwa [← Nat.add_assoc] at this
  · have := hcell 5 _ (by omega) rfl; rwa [← Nat.add_assoc] at this
  · have := hcell 6 _ (by omega) rfl; rwa [← Nat.add_assoc] at this
  · have := hcell 7 _ (by omega) rfl; rwa [← Nat.add_assoc] at this
end Go.Proofs.YtipoljcgfcjlnaaGreatDoor
/- Which chains a stamp covers: the program's, at chains that are right. -/
namespace Go.Proofs.YtipoljcgfcjlnaaGreatDoor
open Go.RowKit
/-- a stamp covers a right chain -/
def coversF (x : Stm) (L : List Rec) : Bool :=
  decide (0 ≤ x.head.count) && (decide (x.head.count ≤ (L.length : Int)) && (if x.head.count = 0 then x.head.last == [] && x.head.root == [] else headEq (headF (L.take x.head.count.toNat)) x.head))
set_option maxRecDepth 100000 in
set_option maxHeartbeats 4000000 in
theorem covers_out (x : Stm) (a : Option Addr) (L : List Rec) (c : Nat) (w : World) (hR : Rd w a (recs L)) (hc : L.length ≤ c) (hr : Right L L.length) (hI : ∀ r ∈ L, r.In) (hn : x.head.count < 0 ∨ (L.length : Int) < x.head.count) :
    Calls Tryz.prog 17 #[x.val, .slice a L.length c] w fun e w' => e = .returned (.bool (coversF x L)) ∧ Below w.heap.size w w' := by
  have h1024 := hr.len (Nat.le_refl _)
  have hck : ∀ V, Rd V a (recs L) → Calls Tryz.prog 40 #[.slice a L.length c] V fun e w' => e = .returned (.tuple #[.int .i64 0, .int .i64 0]) ∧ Below V.heap.size V w' := fun V hV => by
    have := ccheck_walk a L c V hV (by omega) hc hI
    rwa [checkF_right hr] at this
  have hf : coversF x L = false := by
    unfold coversF
    rcases hn with h | h
    · rw [decide_eq_false (by omega), Bool.false_and]
    · rw [show decide (x.head.count ≤ (L.length : Int)) = false from decide_eq_false (by omega), Bool.false_and, Bool.and_false]
  rw [hf]
  obtain ⟨⟨xn, xl, xr, xt⟩, xs, xk, x1, x2⟩ := x
  dsimp only [Head.val] at *
  have HC := Lib.hid hck
  have HR := Lib.hid hR
  obtain ⟨m, hm⟩ : ∃ m, m = L.length := ⟨_, rfl⟩
  rw [← hm] at hn HC ⊢
  clear hck hR hr hI hm hf hc
  have hb0 := (Below.refl w.heap.size w).alloc (Nat.le_refl _) (stmB ⟨⟨xn, xl, xr, xt⟩, xs, xk, x1, x2⟩)
  have hb1 := hb0.alloc hb0.size (headB ⟨xn, xl, xr, xt⟩)
  have hG := Bx.new2 w (stmB ⟨⟨xn, xl, xr, xt⟩, xs, xk, x1, x2⟩) 24 [.int .i64 xn, .string ⟨xl.toArray⟩, .string ⟨xr.toArray⟩, .int .i64 xt]
  go_enter Tryz.func17, Tryz.ntmps17
  go_wp2_with (go_at_call 40; (with_reducible refine (HC.out _ (HR.out.keep hb1)).mono ?_))
  (first | rintro e w1 rfl hb2 | rintro e w1 ⟨rfl, hb2⟩)
  change Bx ((w.alloc (stmB ⟨⟨xn, xl, xr, xt⟩, xs, xk, x1, x2⟩)).alloc (headB ⟨xn, xl, xr, xt⟩)) _ _ _ at hG
  replace hG := hG.keep hb2
  have hbW := hb1.trans (hb2.mono hb1.size)
  clear hb0 hb1 hb2 HC HR
  obtain ⟨g, hg⟩ : ∃ g, g = w.heap.size + 1 := ⟨_, rfl⟩
  rw [← hg] at hG ⊢
  clear hg
  have c0 := hG.cell 0 rfl
  by_cases hneg : xn < 0
  · have t1 : decide (xn < 0) = true := decide_eq_true hneg
    clear hn
    go_wp2
    go_ret
    exact ⟨rfl, hbW⟩
  · have t1 : decide (xn < 0) = false := decide_eq_false hneg
    have t2 : decide (xn > (m : Int)) = true := decide_eq_true (by omega)
    clear hn
    go_wp2
    go_ret
    exact ⟨rfl, hbW⟩
end Go.Proofs.YtipoljcgfcjlnaaGreatDoor
/- Which chains a stamp covers: the program's, within the chain. -/
namespace Go.Proofs.YtipoljcgfcjlnaaGreatDoor
open Go.RowKit
set_option maxRecDepth 100000 in
set_option maxHeartbeats 4000000 in
theorem covers_in (x : Stm) (a : Option Addr) (L : List Rec) (c n : Nat) (w : World) (hR : Rd w a (recs L)) (hc : L.length ≤ c) (hr : Right L L.length) (hI : ∀ r ∈ L, r.In) (hn : n ≤ L.length) (hcnt : x.head.count = (n : Int)) :
    Calls Tryz.prog 17 #[x.val, .slice a L.length c] w fun e w' => e = .returned (.bool (coversF x L)) ∧ Below w.heap.size w w' := by
  have h1024 := hr.len (Nat.le_refl _)
  have hck : ∀ V, Rd V a (recs L) → Calls Tryz.prog 40 #[.slice a L.length c] V fun e w' => e = .returned (.tuple #[.int .i64 0, .int .i64 0]) ∧ Below V.heap.size V w' := fun V hV => by
    have := ccheck_walk a L c V hV (by omega) hc hI
    rwa [checkF_right hr] at this
  have hlen2 : (L.take n).length = n := by rw [List.length_take]; omega
  have hhd : ∀ V, Rd V a (recs L) → Calls Tryz.prog 41 #[.slice a n c] V fun e w' => e = .returned (.tuple #[(headF (L.take n)).val, .int .i64 0]) ∧ Below V.heap.size V w' := fun V hV => by
    have := head_walk a (L.take n) c V (hV.recTake n) (by omega) (by omega) (fun r h => hI r (List.mem_of_mem_take h))
    rw [hlen2, checkF_right (hr.prefix hn)] at this
    exact this
  have hf : coversF x L = (if n = 0 then x.head.last == [] && x.head.root == [] else headEq (headF (L.take n)) x.head) := by
    unfold coversF
    rw [hcnt, decide_eq_true (by omega), decide_eq_true (by omega), Bool.true_and, Bool.true_and, Int.toNat_natCast]
    by_cases h : n = 0
    · rw [if_pos h, if_pos (by omega)]
    · rw [if_neg h, if_neg (by omega)]
  rw [hf]
  have hcn : (headF (L.take n)).count = (n : Int) := by rw [headF_take hr hn]
  generalize headF (L.take n) = y at *
  obtain ⟨yn, yl, yr, yt⟩ := y
  dsimp only at hcn
  subst hcn
  obtain ⟨v, hv⟩ : ∃ v, (if n = 0 then x.head.last == [] && x.head.root == [] else headEq ⟨(n : Int), yl, yr, yt⟩ x.head) = v := ⟨_, rfl⟩
  rw [hv]
  obtain ⟨⟨xn, xl, xr, xt⟩, xs, xk, x1, x2⟩ := x
  dsimp only [Head.val] at *
  subst hcnt
  have HC := Lib.hid hck
  have HH := Lib.hid hhd
  have HR := Lib.hid hR
  obtain ⟨m, hm⟩ : ∃ m, m = L.length := ⟨_, rfl⟩
  rw [← hm] at hn hc h1024 HC ⊢
  clear hck hhd hlen2 hR hr hI hm hf
  have hb0 := (Below.refl w.heap.size w).alloc (Nat.le_refl _) (stmB ⟨⟨(n : Int), xl, xr, xt⟩, xs, xk, x1, x2⟩)
  have hb1 := hb0.alloc hb0.size (headB ⟨(n : Int), xl, xr, xt⟩)
  have hG := Bx.new2 w (stmB ⟨⟨(n : Int), xl, xr, xt⟩, xs, xk, x1, x2⟩) 24 [.int .i64 (n : Int), .string ⟨xl.toArray⟩, .string ⟨xr.toArray⟩, .int .i64 xt]
  go_enter Tryz.func17, Tryz.ntmps17
  go_wp2_with (go_at_call 40; (with_reducible refine (HC.out _ (HR.out.keep hb1)).mono ?_))
  (first | rintro e w1 rfl hb2 | rintro e w1 ⟨rfl, hb2⟩)
  have HR1 := Lib.hid ((HR.out.keep hb1).keep hb2)
  change Bx ((w.alloc (stmB ⟨⟨(n : Int), xl, xr, xt⟩, xs, xk, x1, x2⟩)).alloc (headB ⟨(n : Int), xl, xr, xt⟩)) _ _ _ at hG
  replace hG := hG.keep hb2
  have hbW := hb1.trans (hb2.mono hb1.size)
  clear hb0 hb1 hb2 HC HR
  obtain ⟨g, hg⟩ : ∃ g, g = w.heap.size + 1 := ⟨_, rfl⟩
  rw [← hg] at hG ⊢
  clear hg
  have c0 := hG.cell 0 rfl
  have c1 := hG.cell 1 rfl
  have c2 := hG.cell 2 rfl
  have c3 := hG.cell 3 rfl
  have hnm : (n : Int) ≤ (m : Int) := by omega
  by_cases h0 : n = 0
  · subst h0
    rw [if_pos rfl] at hv
    clear HH
    by_cases e1 : xl = []
    · subst e1
      by_cases e2 : xr = []
      · subst e2
        obtain rfl : v = true := by rw [← hv]; rfl
        clear hv
        go_wp2
        go_ret
        exact ⟨rfl, hbW⟩
      · have q2 : (xr == []) = false := by rw [beq_eq_false_iff_ne]; exact e2
        obtain rfl : v = false := by rw [← hv, q2, Bool.and_false]
        clear hv
        go_wp2
        go_ret
        exact ⟨rfl, hbW⟩
    · have q1 : (xl == []) = false := by rw [beq_eq_false_iff_ne]; exact e1
      obtain rfl : v = false := by rw [← hv, q1, Bool.false_and]
      clear hv
      go_wp2
      go_ret
      exact ⟨rfl, hbW⟩
  · rw [if_neg h0] at hv
    have hn0 : ((n : Int) == 0) = false := by rw [beq_eq_false_iff_ne]; omega
    have hnc : (n : Int) ≤ (c : Int) := by omega
    clear h0
    go_wp2_with (go_at_call 41; (with_reducible refine (HH.out _ HR1.out).mono ?_))
    (first | rintro e w2 rfl hb2 | rintro e w2 ⟨rfl, hb2⟩)
    replace hG := hG.keep hb2
    replace hbW := (hbW.trans (hb2.mono hbW.size)).alloc (by have := hbW.size; have := hb2.size; omega) (headB ⟨(n : Int), yl, yr, yt⟩)
    have hlt := hG.lt
    clear hb2 HR1 c0 c1 c2 c3
    have c0 := hG.cell 0 rfl
    have c1 := hG.cell 1 rfl
    have c2 := hG.cell 2 rfl
    have c3 := hG.cell 3 rfl
    cases hE : headEq ⟨(n : Int), yl, yr, yt⟩ ⟨(n : Int), xl, xr, xt⟩ with
    | true =>
      obtain rfl : v = true := by rw [← hv, hE]
      clear hv
      have := headEq_iff.1 hE
      simp only [Head.mk.injEq, true_and] at this
      obtain ⟨rfl, rfl, rfl⟩ := this
      clear hE
      go_wp2
      go_ret
      exact ⟨rfl, hbW⟩
    | false =>
      obtain rfl : v = false := by rw [← hv, hE]
      clear hv
      have hf := head_first hE
      dsimp only at hf
      clear hE
      rcases hf with hf | ⟨-, hf⟩ | ⟨-, rfl, hf⟩ | ⟨-, rfl, rfl, hf⟩
      · simp at hf
      all_goals
        go_wp2
        go_ret
        exact ⟨rfl, hbW⟩
end Go.Proofs.YtipoljcgfcjlnaaGreatDoor
