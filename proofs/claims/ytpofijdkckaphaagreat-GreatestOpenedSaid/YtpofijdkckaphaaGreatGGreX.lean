/- law28: needs, a seat that needs so many reporters. -/
import Derived.Test.YtpofijdkckaphaaGreatGGreW
import Derived.Test.YtpofijdkckaphaaGreatGKp
namespace Go.Proofs.YtpofijdkckaphaaGreat
open Go.RowKit
theorem Seat.ret {fn : Func} {t : Tmp} (h : fn.results = #[.cell t 36]) (tmps : Array Value) {w : World} {g : Nat} {v0 v1 v2 v3 v4 v5 v6 : Value} (ht : tmps.getD t undef = .pointer (some ⟨g, 0, none⟩)) (hD : Bx w g 36 [v0, v1, v2, v3, v4, v5, v6]) :
    (results fn tmps).run Tryz.prog w = .ok (.agg #[v0, v1, v2, v3, v4, v5, v6]) w := by
  have c0 := hD.cell 0 (v := v0) rfl
  have c1 := hD.cell 1 (v := v1) rfl
  have c2 := hD.cell 2 (v := v2) rfl
  have c3 := hD.cell 3 (v := v3) rfl
  have c4 := hD.cell 4 (v := v4) rfl
  have c5 := hD.cell 5 (v := v5) rfl
  have c6 := hD.cell 6 (v := v6) rfl
  have ht' : tmps[t]?.getD undef = .pointer (some ⟨g, 0, none⟩) := by simpa using ht
  simp [results, h, ht', go_sem, c0, c1, c2, c3, c4, c5, c6]
def needT (n : Int) : Trm := ⟨3, n, 0, [], [], [], none, 0⟩
/-- a seat that needs n reporters, its term in block g -/
def seN (p : List UInt8) (number n : Int) (g : Nat) : Seat := ⟨⟨p, number, 0, 0, [], none, 0⟩, [needT n], some ⟨g, 0, none⟩, 1, false⟩
/-- what a seat hangs on -/
def SeOk (w : World) (x : Seat) : Prop := RdT w x.ca x.T ∧ Rd w x.mem.aa (rowsC anC x.mem.ans) ∧ x.mem.In ∧ x.T.length ≤ 1000
theorem SeOk.keep {w w' : World} {x : Seat} (h : SeOk w x) (hb : Below w.heap.size w w') : SeOk w' x := ⟨h.1.keep hb, h.2.1.keep hb, h.2.2.1, h.2.2.2⟩
theorem rdS_mk {w : World} {a : Option Addr} {l : List Seat} (hr : Rd w a (rowsC seC l)) (h : ∀ x ∈ l, SeOk w x) : RdS w a l := ⟨hr, fun x hx => (h x hx).1, fun x hx => (h x hx).2.1, fun x hx => (h x hx).2.2.1, fun x hx => (h x hx).2.2.2⟩
theorem rdS_new {w : World} {l : List Seat} (h : ∀ x ∈ l, SeOk w x) : RdS (w.alloc (.cells (rowsC seC l).toArray 36)) (some ⟨w.heap.size, 0, none⟩) l :=
  rdS_mk (Rd.mk fun j u hj => by rw [Nat.zero_add, World.cell?_alloc_at _ _ _ _ rfl]; simpa using hj) (fun x hx => (h x hx).keep ((Below.refl _ _).alloc (Nat.le_refl _) _))
def NeedRes (p : List UInt8) (number n : Int) (w : World) (e : Ending) (w' : World) : Prop :=
  ∃ g, e = .returned (.agg #[.string ⟨p.toArray⟩, .int .i64 number, .int .i64 0, .int .i64 0, .slice none 0 0, .slice (some ⟨g, 0, none⟩) 1 1, .bool false]) ∧ SeOk w' (seN p number n g) ∧ Below w.heap.size w w'
set_option maxRecDepth 100000 in
theorem need_walk (p : List UInt8) (number n : Int) (hp : p.length ≤ 1000) (hm : 0 ≤ number ∧ number ≤ 1000) (hn : 0 ≤ n ∧ n ≤ 1000) (w : World) :
    Calls Tryz.prog 12 #[.string ⟨p.toArray⟩, .int .i64 number, .int .i64 n] w (NeedRes p number n w) := by
  have b1 := (Below.refl w.heap.size w).alloc (Nat.le_refl _) (.cells #[.string ⟨p.toArray⟩, .int .i64 number, .int .i64 0, .int .i64 0, .slice none 0 0, .slice (some ⟨w.heap.size + 1, 0, none⟩) 1 1, .bool false] 36)
  have h1 := Bx.new w 36 [.string ⟨p.toArray⟩, .int .i64 number, .int .i64 0, .int .i64 0, .slice none 0 0, .slice (some ⟨w.heap.size + 1, 0, none⟩) 1 1, .bool false]
  change Bx (w.alloc (.cells #[.string ⟨p.toArray⟩, .int .i64 number, .int .i64 0, .int .i64 0, .slice none 0 0, .slice (some ⟨w.heap.size + 1, 0, none⟩) 1 1, .bool false] 36)) _ _ _ at h1
  have hs : (w.alloc (.cells #[.string ⟨p.toArray⟩, .int .i64 number, .int .i64 0, .int .i64 0, .slice none 0 0, .slice (some ⟨w.heap.size + 1, 0, none⟩) 1 1, .bool false] 36)).heap.size = w.heap.size + 1 := by simp
  have b2 := b1.alloc b1.size (.cells #[.int .i64 3, .int .i64 n, .int .i64 0, .string ⟨#[]⟩, .string ⟨#[]⟩, .slice none 0 0] 42)
  have h2 := h1.alloc (.cells #[.int .i64 3, .int .i64 n, .int .i64 0, .string ⟨#[]⟩, .string ⟨#[]⟩, .slice none 0 0] 42)
  have hR : Rd ((w.alloc (.cells #[.string ⟨p.toArray⟩, .int .i64 number, .int .i64 0, .int .i64 0, .slice none 0 0, .slice (some ⟨w.heap.size + 1, 0, none⟩) 1 1, .bool false] 36)).alloc (.cells #[.int .i64 3, .int .i64 n, .int .i64 0, .string ⟨#[]⟩, .string ⟨#[]⟩, .slice none 0 0] 42)) (some ⟨w.heap.size + 1, 0, none⟩) (rowsC trC [needT n]) := Rd.mk fun j u hj => by rw [Nat.zero_add, World.cell?_alloc_at _ _ _ _ hs.symm]; simpa [rowsC, trC, needT] using hj
  have HR := Lib.hid hR
  have H2 := Lib.hid h2
  have B2 := Lib.hid b2
  clear h1 b1 h2 b2 hR hs
  go_enter Tryz.func12, Tryz.ntmps12
  go_wp2_with fail
  refine bodyPost_ret (Seat.ret (t := 6) rfl _ rfl H2.out) rfl ⟨w.heap.size + 1, rfl, ⟨⟨HR.out, fun t ht => ?_, fun t ht => ?_⟩, Rd.nil _ _, ⟨?_, ⟨⟨?_, ?_⟩, ⟨?_, ?_⟩, ⟨?_, ?_⟩⟩, ?_, ?_, ?_⟩, ?_⟩, B2.out⟩
  · rw [List.mem_singleton.1 ht]; exact Rd.nil _ _
  · rw [List.mem_singleton.1 ht]
    exact term_in 3 n 0 [] [] [] none 0 (by omega) (by omega) (by omega) (by simp) (by simp) (by simp) (by simp) (by simp)
  all_goals first | (show (p.length : Nat) ≤ _; omega) | (show (_ : Int) ≤ number; omega) | (show number ≤ (_ : Int); omega) | (simp [seN]; done) | (intro a ha; simp [seN] at ha)
end Go.Proofs.YtpofijdkckaphaaGreat
/- Seats: some are opened, all are made free. No program in sight (but for how seats lie in memory). -/
namespace Go.Proofs.YtpofijdkckaphaaGreat
open Go.RowKit
theorem rows_set {α : Type} {f : α → List Value} {size : Nat} (hf : ∀ x, (f x).length = size) {x y : α} {j : Nat} {v : Value} (hj : j < size) (hy : f y = (f x).set j v) : ∀ (l : List α) (k : Nat), l[k]? = some x → rowsC f (l.set k y) = (rowsC f l).set (k * size + j) v
  | [], k, h => by simp at h
  | z :: l, 0, h => by
    have hz : z = x := by simpa using h
    subst hz
    rw [List.set_cons_zero, rowsC_cons, rowsC_cons, hy, Nat.zero_mul, Nat.zero_add, List.set_append_left _ _ (by rw [hf]; exact hj)]
  | z :: l, k + 1, h => by
    have h' : l[k]? = some x := by simpa using h
    rw [List.set_cons_succ, rowsC_cons, rowsC_cons, rows_set hf hj hy l k h', List.set_append_right _ _ (by rw [hf, Nat.add_mul]; omega), hf]
    congr 2
    rw [Nat.add_mul]; omega
def alwT : Trm := ⟨8, 0, 0, [], [], [], none, 0⟩
theorem alw_hold (wi : Int → Int → Int → Bool) (M : List Mem) (o : Int) : termF wi [alwT] 0 M o = decide (0 ≤ o ∧ o < (M.length : Int)) := by
  unfold termF
  by_cases h0 : 0 ≤ o
  · rw [if_pos h0]
    cases hm : M[o.toNat]? with
    | none =>
      have := List.getElem?_eq_none_iff.1 hm
      exact (decide_eq_false (by omega)).symm
    | some m =>
      have := (List.getElem?_eq_some_iff.1 hm).1
      rw [decide_eq_true (show 0 ≤ o ∧ o < (M.length : Int) by omega)]
      rfl
  · rw [if_neg h0]
    exact (decide_eq_false (by omega)).symm
/-- the first k seats, opened if they are in the set -/
structure Opd (S : List Int) (L O : List Seat) (k : Nat) : Prop where
  len : O.length = L.length
  each : ∀ (j : Nat) (x : Seat), L[j]? = some x → O[j]? = some { x with opn := x.opn || (decide (j < k) && decide ((j : Int) ∈ S)) }
theorem Opd.first (S : List Int) (L : List Seat) : Opd S L L 0 := ⟨rfl, fun j x hx => by
  rw [hx]
  congr 1
  cases x
  simp⟩
theorem Opd.skip {S : List Int} {L O : List Seat} {k : Nat} (h : Opd S L O k) (hk : (k : Int) ∉ S) : Opd S L O (k + 1) := ⟨h.len, fun j x hx => by
  rw [h.each j x hx]
  congr 2
  by_cases hj : j = k
  · subst hj
    rw [decide_eq_false hk, Bool.and_false, Bool.and_false]
  · rw [show decide (j < k + 1) = decide (j < k) by rw [decide_eq_decide]; omega]⟩
theorem Opd.set {S : List Int} {L O : List Seat} {k : Nat} {x : Seat} (h : Opd S L O k) (hk : (k : Int) ∈ S) (hx : L[k]? = some x) : Opd S L (O.set k { x with opn := true }) (k + 1) := ⟨by rw [List.length_set, h.len], fun j y hy => by
  by_cases hj : j = k
  · subst hj
    have hl := (List.getElem?_eq_some_iff.1 hx).1
    rw [List.getElem?_set_self (by rw [h.len]; exact hl)]
    rw [hx] at hy
    obtain rfl := Option.some.inj hy
    rw [decide_eq_true hk, decide_eq_true (Nat.lt_succ_self j), Bool.and_true, Bool.or_true]
  · rw [List.getElem?_set_ne (fun e => hj e.symm), h.each j y hy, show decide (j < k + 1) = decide (j < k) by rw [decide_eq_decide]; omega]⟩
theorem Opd.at {S : List Int} {L O : List Seat} {k : Nat} (h : Opd S L O k) (j : Nat) : (L[j]? = none ∧ O[j]? = none) ∨ ∃ x y, L[j]? = some x ∧ O[j]? = some y ∧ y.mem = x.mem ∧ y.T = x.T := by
  cases hx : L[j]? with
  | none =>
    left
    refine ⟨rfl, List.getElem?_eq_none ?_⟩
    rw [h.len]
    exact List.getElem?_eq_none_iff.1 hx
  | some x => exact .inr ⟨x, _, rfl, h.each j x hx, rfl, rfl⟩
theorem Opd.mem {S : List Int} {L O : List Seat} {k : Nat} (h : Opd S L O k) : memS O = memS L := by
  funext i
  unfold memS
  rcases h.at i.toNat with ⟨h1, h2⟩ | ⟨x, y, h1, h2, h3, _⟩
  · rw [h1, h2]
  · rw [h1, h2]; exact h3
theorem Opd.hold {S : List Int} {L O : List Seat} {k : Nat} (h : Opd S L O k) (wi : Int → Int → Int → Bool) : holdS wi O = holdS wi L := by
  funext A s
  unfold holdS
  rw [h.mem]
  rcases h.at s.toNat with ⟨h1, h2⟩ | ⟨x, y, h1, h2, _, h4⟩
  · rw [h1, h2]
  · rw [h1, h2]
    dsimp only
    rw [h4]
theorem Opd.again {L O : List Seat} (wi : Int → Int → Int → Bool) (h : Opd (setP (opS L) (holdS wi L) L.length) L O L.length) : setP (opS O) (holdS wi O) L.length = setP (opS L) (holdS wi L) L.length := by
  rw [h.hold wi]
  refine set_again (hold_mono wi L) (fun i hi => ?_)
  have hu := mem_upI.1 hi
  have hl : i.toNat < L.length := by omega
  have hx := List.getElem?_eq_getElem hl
  have hy := h.each _ _ hx
  generalize setP (opS L) (holdS wi L) L.length = S at *
  unfold opS
  rw [hx, hy]
  dsimp only
  rw [decide_eq_true hl, Bool.true_and, Int.toNat_of_nonneg hu.1]
/-- the first k seats need nothing -/
structure Fre (L F : List Seat) (k : Nat) : Prop where
  len : F.length = L.length
  each : ∀ j y, F[j]? = some y → j < k → y.T = [alwT]
theorem Fre.first (L : List Seat) : Fre L L 0 := ⟨rfl, fun j y _ h => by omega⟩
theorem Fre.set {L F : List Seat} {k : Nat} {z : Seat} (h : Fre L F k) (hz : F[k]? = some z) (ca : Option Addr) : Fre L (F.set k { z with T := [alwT], ca := ca, cc := 1 }) (k + 1) := ⟨by rw [List.length_set, h.len], fun j y hy hj => by
  by_cases e : j = k
  · subst e
    rw [List.getElem?_set_self (List.getElem?_eq_some_iff.1 hz).1] at hy
    rw [← Option.some.inj hy]
  · rw [List.getElem?_set_ne (fun e2 => e e2.symm)] at hy
    exact h.each j y hy (by omega)⟩
theorem Fre.all {L F : List Seat} (wi : Int → Int → Int → Bool) (h : Fre L F L.length) : setP (opS F) (holdS wi F) F.length = upI F.length :=
  set_free (hold_free wi F (fun x hx m o => by
    obtain ⟨j, hj, rfl⟩ := List.getElem_of_mem hx
    rw [h.each j F[j] (List.getElem?_eq_getElem hj) (by rw [← h.len]; exact hj)]
    exact alw_hold wi m o))
end Go.Proofs.YtpofijdkckaphaaGreat
