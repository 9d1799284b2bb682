/- GreatestMade: what is kept; a seat that is made, in which block its term lies. -/
import Derived.Test.YtpofijdkckaphaaGreatDoorGGreCk
import Derived.Test.YtpofijdkckaphaaGreatDoorGGreLg
namespace Go.Proofs.YtpofijdkckaphaaGreatDoor
open Go.RowKit
theorem run_ne (op : Int → Bool) (H : List Int → Int → Bool) : ∀ (f : Nat) (A : List Int) (r : List (List Int)), (∀ x ∈ r, x ≠ []) → ∀ x ∈ (runP op H f A r).2, x ≠ [] := by
  intro f
  induction f with
  | zero => intro A r h; exact h
  | succ f ih =>
    intro A r h
    rw [runP]
    split
    · exact h
    · rename_i hg
      refine ih _ _ (fun x hx => ?_)
      rcases List.mem_append.1 hx with hx | hx
      · exact h x hx
      · rw [List.mem_singleton.1 hx]; exact hg
theorem rounds_ne (op : Int → Bool) (H : List Int → Int → Bool) (n : Nat) : ∀ x ∈ roundsP op H n, x ≠ [] := run_ne op H _ _ _ (fun x hx => by simp at hx)
def NeedRes2 (p : List UInt8) (number n : Int) (w : World) (e : Ending) (w' : World) : Prop :=
  ∃ g, e = .returned (.agg #[.string ⟨p.toArray⟩, .int .i64 number, .int .i64 0, .int .i64 0, .slice none 0 0, .slice (some ⟨g, 0, none⟩) 1 1, .bool false]) ∧ SeOk w' (seN p number n g) ∧ Below w.heap.size w w' ∧ w.heap.size ≤ g ∧ g < w'.heap.size
set_option maxRecDepth 100000 in
theorem need_walk2 (p : List UInt8) (number n : Int) (hp : p.length ≤ 1000) (hm : 0 ≤ number ∧ number ≤ 1000) (hn : 0 ≤ n ∧ n ≤ 1000) (w : World) :
    Calls Tryz.prog 24 #[.string ⟨p.toArray⟩, .int .i64 number, .int .i64 n] w (NeedRes2 p number n w) := by
  have b1 := (Below.refl w.heap.size w).alloc (Nat.le_refl _) (.cells #[.string ⟨p.toArray⟩, .int .i64 number, .int .i64 0, .int .i64 0, .slice none 0 0, .slice (some ⟨w.heap.size + 1, 0, none⟩) 1 1, .bool false] 44)
  have h1 := Bx.new w 44 [.string ⟨p.toArray⟩, .int .i64 number, .int .i64 0, .int .i64 0, .slice none 0 0, .slice (some ⟨w.heap.size + 1, 0, none⟩) 1 1, .bool false]
  change Bx (w.alloc (.cells #[.string ⟨p.toArray⟩, .int .i64 number, .int .i64 0, .int .i64 0, .slice none 0 0, .slice (some ⟨w.heap.size + 1, 0, none⟩) 1 1, .bool false] 44)) _ _ _ at h1
  have hs : (w.alloc (.cells #[.string ⟨p.toArray⟩, .int .i64 number, .int .i64 0, .int .i64 0, .slice none 0 0, .slice (some ⟨w.heap.size + 1, 0, none⟩) 1 1, .bool false] 44)).heap.size = w.heap.size + 1 := by simp
  have b2 := b1.alloc b1.size (.cells #[.int .i64 3, .int .i64 n, .int .i64 0, .string ⟨#[]⟩, .string ⟨#[]⟩, .slice none 0 0] 50)
  have h2 := h1.alloc (.cells #[.int .i64 3, .int .i64 n, .int .i64 0, .string ⟨#[]⟩, .string ⟨#[]⟩, .slice none 0 0] 50)
  have hR : Rd ((w.alloc (.cells #[.string ⟨p.toArray⟩, .int .i64 number, .int .i64 0, .int .i64 0, .slice none 0 0, .slice (some ⟨w.heap.size + 1, 0, none⟩) 1 1, .bool false] 44)).alloc (.cells #[.int .i64 3, .int .i64 n, .int .i64 0, .string ⟨#[]⟩, .string ⟨#[]⟩, .slice none 0 0] 50)) (some ⟨w.heap.size + 1, 0, none⟩) (rowsC trC [needT n]) := Rd.mk fun j u hj => by rw [Nat.zero_add, World.cell?_alloc_at _ _ _ _ hs.symm]; simpa [rowsC, trC, needT] using hj
  have hsz : w.heap.size + 1 < ((w.alloc (.cells #[.string ⟨p.toArray⟩, .int .i64 number, .int .i64 0, .int .i64 0, .slice none 0 0, .slice (some ⟨w.heap.size + 1, 0, none⟩) 1 1, .bool false] 44)).alloc (.cells #[.int .i64 3, .int .i64 n, .int .i64 0, .string ⟨#[]⟩, .string ⟨#[]⟩, .slice none 0 0] 50)).heap.size := by simp
  have HR := Lib.hid hR
  have H2 := Lib.hid h2
  have B2 := Lib.hid b2
  have HZ := Lib.hid hsz
  clear h1 b1 h2 b2 hR hs hsz
  go_enter Tryz.func24, Tryz.ntmps24
  go_wp2_with fail
  refine bodyPost_ret (Seat.ret (t := 6) rfl _ rfl H2.out) rfl ⟨w.heap.size + 1, rfl, ⟨⟨HR.out, fun t ht => ?_, fun t ht => ?_⟩, Rd.nil _ _, ⟨?_, ⟨⟨?_, ?_⟩, ⟨?_, ?_⟩, ⟨?_, ?_⟩⟩, ?_, ?_, ?_⟩, ?_⟩, B2.out, Nat.le_succ _, HZ.out⟩
  · rw [List.mem_singleton.1 ht]; exact Rd.nil _ _
  · rw [List.mem_singleton.1 ht]
    exact term_in 3 n 0 [] [] [] none 0 (by omega) (by omega) (by omega) (by simp) (by simp) (by simp) (by simp) (by simp)
  all_goals first | (show (p.length : Nat) ≤ _; omega) | (show (_ : Int) ≤ number; omega) | (show number ≤ (_ : Int); omega) | (simp [seN]; done) | (intro a ha; simp [seN] at ha)
/-- the seats, the greatest set and its rounds, however many numbers of the dice were given out -/
structure Mr (W w0 w : World) (db : Nat) (p : Option Addr) (l : List Int) (cap : Nat) (a : Option Addr) (c : Nat) (L : List Seat) (m B : Nat) (sa : Option Addr) (A : List Int) (ra : Option Addr) (R : List IL) : Prop where
  s : Ss W w0 w db p l cap a L.length c L m
  le : B ≤ w.heap.size
  dlt : db < B
  row : ∀ j, rowOf a = some j → j < B
  srow : ∀ x ∈ L, ∀ j, SeRow x j → j < B
  o : Rd w sa (ints A)
  on : ∀ j, rowOf sa = some j → B ≤ j
  r : RdL w ra R
  rn : ∀ j, rowOf ra = some j → B ≤ j
  rx : ∀ x ∈ R, x.lst.length ≤ x.cap ∧ ∀ j, rowOf x.ad = some j → B ≤ j
  al : A.length ≤ 8
  rl : R.length ≤ 8
  xl : ∀ x ∈ R, x.lst.length ≤ 8 ∧ 0 < x.lst.length
  ll : L.length ≤ 8
  ml : m ≤ 16
/-- copies of both, that may be changed; B1: the world's size ahead of the copies -/
structure Mo (W w0 w : World) (db : Nat) (p : Option Addr) (l : List Int) (cap : Nat) (a : Option Addr) (c : Nat) (L : List Seat) (m B B1 : Nat) (a1 : Option Addr) (c1 : Nat) (A : List Int) (a2 : Option Addr) (c2 : Nat) (R : List IL) : Prop where
  s : Ss W w0 w db p l cap a L.length c L m
  le : B1 ≤ w.heap.size
  bl : B ≤ B1
  dlt : db < B
  row : ∀ j, rowOf a = some j → j < B
  srow : ∀ x ∈ L, ∀ j, SeRow x j → j < B
  o1 : Ow w B1 1 a1 A.length c1 (ints A)
  o2 : Ow w B1 1 a2 R.length c2 (R.map ilV)
  ap : Apart2 a1 a2
  r : ∀ x ∈ R, Rd w x.ad (ints x.lst)
  rx : ∀ x ∈ R, x.lst.length ≤ x.cap ∧ ∀ j, rowOf x.ad = some j → B ≤ j ∧ j < B1
  al : A.length ≤ 8
  rl : R.length ≤ 8
  xl : ∀ x ∈ R, x.lst.length ≤ 8 ∧ 0 < x.lst.length
  ll : L.length ≤ 8
  ml : m ≤ 16
/-- what the last test wants -/
structure Mz (W w : World) (a : Option Addr) (L : List Seat) (sa : Option Addr) (A : List Int) (ra : Option Addr) (R : List IL) : Prop where
  s : RdS w a L
  ll : L.length ≤ 33
  o : Rd w sa (ints A)
  r : RdL w ra R
  al : A.length ≤ 1000
  rl : R.length ≤ 100
  xl : ∀ x ∈ R, x.lst.length ≤ 1000
  b : Below W.heap.size W w
section
variable {W w0 w w' : World} {db : Nat} {p : Option Addr} {l : List Int} {cap : Nat} {a : Option Addr} {c : Nat} {L : List Seat} {m B B1 : Nat} {sa : Option Addr} {A : List Int} {ra : Option Addr} {R : List IL} {a1 : Option Addr} {c1 : Nat} {a2 : Option Addr} {c2 : Nat}
theorem RdL.kp {S : Nat → Prop} (h : RdL w ra R) (hk : Kp S w w') (h1 : ∀ j, rowOf ra = some j → ¬ S j) (h2 : ∀ x ∈ R, ∀ j, rowOf x.ad = some j → ¬ S j) : RdL w' ra R :=
  ⟨h.rows.kp hk h1, fun x hx => (h.each x hx).kp hk (h2 x hx)⟩
theorem Mr.next (h : Mr W w0 w db p l cap a c L m B sa A ra R) (hD : Dc W w' db p l cap) (hk : KD db w w') : Mr W w0 w' db p l cap a c L m B sa A ra R := by
  have hd := h.dlt
  exact ⟨h.s.next hD hk, Nat.le_trans h.le hk.size, h.dlt, h.row, h.srow, h.o.kp hk (fun j hj e => by have := h.on j hj; omega), h.on, h.r.kp hk (fun j hj e => by have := h.rn j hj; omega) (fun x hx j hj e => by have := (h.rx x hx).2 j hj; omega), h.rn, h.rx, h.al, h.rl, h.xl, h.ll, h.ml⟩
theorem Mr.keep (h : Mr W w0 w db p l cap a c L m B sa A ra R) (hb : Below w.heap.size w w') : Mr W w0 w' db p l cap a c L m B sa A ra R := h.next (h.s.d.keep hb) (KD.of_below hb)
theorem kp_of (hb : Below B1 w w') : Kp (fun j => B1 ≤ j) w w' := ⟨hb.os, hb.tape, hb.output, hb.size, fun k _ hn => hb.block k (by omega)⟩
theorem rd_row {x : IL} (h : Rd w x.ad (ints x.lst)) (hn : 0 < x.lst.length) : ∃ g off, x.ad = some ⟨g, off, none⟩ ∧ g < w.heap.size := by
  obtain ⟨g, off, y, ha, hc, -⟩ := h.int hn
  exact ⟨g, off, ha, by simpa using World.block_lt_of_cell? w _ hc⟩
theorem Mr.copy (h : Mr W w0 w db p l cap a c L m B sa A ra R) {wA wB : World} (hO1 : Ow wA w.heap.size 1 a1 A.length c1 (ints A)) (_ : Below w.heap.size w wA) (hO2 : Ow wB w.heap.size 1 a2 R.length c2 (R.map ilV)) (hbB : Below w.heap.size w wB) (hg : wA.grownBy wB none) (hat : rowOf a2 = none ∨ rowOf a2 = some wA.heap.size) : Mo W w0 wB db p l cap a c L m B w.heap.size a1 c1 A a2 c2 R :=
  ⟨h.s.keep hbB, hbB.size, h.le, h.dlt, h.row, h.srow, hO1.kept hg (by cases rowOf a1 <;> simp), hO2, fun g h1 h2 => by
    have := (hO1.row g h1).2
    rcases hat with e | e
    · rw [e] at h2; cases h2
    · rw [e] at h2; have := Option.some.inj h2; omega, fun x hx => (h.r.each x hx).keep hbB, fun x hx => ⟨(h.rx x hx).1, fun j hj => ⟨(h.rx x hx).2 j hj, by
      obtain ⟨g, off, ha, hlt⟩ := rd_row (h.r.each x hx) (h.xl x hx).2
      rw [ha] at hj
      have : g = j := Option.some.inj hj
      omega⟩⟩, h.al, h.rl, h.xl, h.ll, h.ml⟩
theorem Mo.next (h : Mo W w0 w db p l cap a c L m B B1 a1 c1 A a2 c2 R) (hD : Dc W w' db p l cap) (hk : KD db w w') : Mo W w0 w' db p l cap a c L m B B1 a1 c1 A a2 c2 R := by
  have hd := h.dlt
  have hl := h.bl
  exact ⟨h.s.next hD hk, Nat.le_trans h.le hk.size, h.bl, h.dlt, h.row, h.srow, h.o1.kp hk (fun j hj e => by have := (h.o1.row j hj).1; omega), h.o2.kp hk (fun j hj e => by have := (h.o2.row j hj).1; omega), h.ap, fun x hx => (h.r x hx).kp hk (fun j hj e => by have := (h.rx x hx).2 j hj; omega), h.rx, h.al, h.rl, h.xl, h.ll, h.ml⟩
theorem Mo.rest (h : Mo W w0 w db p l cap a c L m B B1 a1 c1 A a2 c2 R) (hb : Below B1 w w') : ∀ x ∈ R, Rd w' x.ad (ints x.lst) := fun x hx => (h.r x hx).kp (kp_of hb) (fun j hj e => by have := (h.rx x hx).2 j hj; omega)
theorem Mo.wlo (h : Mo W w0 w db p l cap a c L m B B1 a1 c1 A a2 c2 R) : W.heap.size ≤ B1 := by
  have := h.s.d.lo
  have := h.dlt
  have := h.bl
  omega
/-- the odd ones are done: the seats are as they were -/
theorem Mo.fin (h : Mo W w0 w db p l cap a c L m B B1 a1 c1 A a2 c2 R) (hb : Below B1 w w') {A' : List Int} {R' : List IL} (hA : Rd w' sa (ints A')) (hR : RdL w' ra R') (h1 : A'.length ≤ 1000) (h2 : R'.length ≤ 100) (h3 : ∀ x ∈ R', x.lst.length ≤ 1000) : Mz W w' a L sa A' ra R' := by
  have hk := kp_of hb
  have hl := h.bl
  refine ⟨h.s.rdS.kp hk (fun j hj e => by have := h.row j hj; omega) (fun x hx j hj e => by have := h.srow x hx j hj; omega), by have := h.ll; omega, hA, hR, h1, h2, h3, ?_⟩
  exact h.s.d.below.trans (hb.mono h.wlo)
theorem Mo.same (h : Mo W w0 w db p l cap a c L m B B1 a1 c1 A a2 c2 R) : Mz W w a L a1 A a2 R :=
  h.fin (Below.refl _ _) h.o1.rd ⟨h.o2.rd, h.r⟩ (by have := h.al; omega) (by have := h.rl; omega) (fun x hx => by have := (h.xl x hx).1; omega)
theorem Mo.same' (h : Mo W w0 w db p l cap a c L m B B1 a1 c1 A a2 c2 R) : ∃ (a' : Option Addr) (c' : Nat) (L' : List Seat) (sa : Option Addr) (sc : Nat) (A' : List Int) (ra : Option Addr) (rc : Nat) (R' : List IL), Value.slice a L.length c = .slice a' L'.length c' ∧ Value.slice a1 A.length c1 = .slice sa A'.length sc ∧ Value.slice a2 R.length c2 = .slice ra R'.length rc ∧ Mz W w a' L' sa A' ra R' :=
  ⟨a, c, L, a1, c1, A, a2, c2, R, rfl, rfl, rfl, h.same⟩
/-- the first k and the rest of a list that is read -/
theorem rd_first {g off : Nat} {X : List Int} (h : Rd w (some ⟨g, off, none⟩) (ints X)) (k : Nat) : Rd w (some ⟨g, off, none⟩) (ints (X.take k)) := by
  have := rd_cut h 0 k
  simpa using this
theorem rd_last {g off : Nat} {X : List Int} (h : Rd w (some ⟨g, off, none⟩) (ints X)) (k : Nat) : Rd w (some ⟨g, off + k, none⟩) (ints (X.drop k)) := by
  have := rd_cut h k X.length
  rwa [List.take_of_length_le (by rw [List.length_drop]; omega)] at this
/-- two rounds have changed places -/
theorem Mo.swap {g2 off2 : Nat} {x y : IL} (h : Mo W w0 w db p l cap a c L m B B1 a1 c1 A (some ⟨g2, off2, none⟩) c2 R) (hx : Hid (R[0]? = some x)) (hy : Hid (R[1]? = some y)) {w' : World} (hw : w' = (w.setCell ⟨g2, off2, none⟩ (ilV y)).setCell ⟨g2, off2 + 1, none⟩ (ilV x) ∨ w' = ((w.setCell ⟨g2, off2, none⟩ (ilV y)).setCell ⟨g2, off2 + 1, none⟩ (ilV x)).drew) :
    ∃ (a' : Option Addr) (c' : Nat) (L' : List Seat) (sa : Option Addr) (sc : Nat) (A' : List Int) (ra : Option Addr) (rc : Nat) (R' : List IL), Value.slice a L.length c = .slice a' L'.length c' ∧ Value.slice a1 A.length c1 = .slice sa A'.length sc ∧ Value.slice (some ⟨g2, off2, none⟩) R.length c2 = .slice ra R'.length rc ∧ Mz W w' a' L' sa A' ra R' := by
  have hg := (h.o2.row g2 rfl).1
  have hs0 := (h.o2.stored 0 (ilV y)).1
  rw [Nat.add_zero] at hs0
  have hs1 := (hs0.stored 1 (ilV x)).1.rd
  have hb1 : Below B1 w ((w.setCell ⟨g2, off2, none⟩ (ilV y)).setCell ⟨g2, off2 + 1, none⟩ (ilV x)) := ((Below.refl B1 w).setCell (p := ⟨g2, off2, none⟩) hg _).setCell (p := ⟨g2, off2 + 1, none⟩) hg _
  have hA1 : Rd ((w.setCell ⟨g2, off2, none⟩ (ilV y)).setCell ⟨g2, off2 + 1, none⟩ (ilV x)) a1 (ints A) := (h.o1.rd.kp (setCell_kp w g2 off2 (ilV y) (S := fun j => j = g2) rfl) (fun j hj e => h.ap j hj (by rw [e]; rfl))).kp (setCell_kp _ g2 (off2 + 1) (ilV x) (S := fun j => j = g2) rfl) (fun j hj e => h.ap j hj (by rw [e]; rfl))
  have hfin : Below B1 w w' ∧ Rd w' a1 (ints A) ∧ Rd w' (some ⟨g2, off2, none⟩) (((R.set 0 y).set 1 x).map ilV) := by
    rw [List.map_set, List.map_set]
    rcases hw with rfl | rfl
    · exact ⟨hb1, hA1, hs1⟩
    · exact ⟨hb1.drew, hA1.keep (Below.refl _ _).drew, hs1.keep (Below.refl _ _).drew⟩
  have hmem : ∀ z ∈ (R.set 0 y).set 1 x, z ∈ R := fun z hz => by
    rcases List.mem_or_eq_of_mem_set hz with hz | rfl
    · rcases List.mem_or_eq_of_mem_set hz with hz | rfl
      · exact hz
      · exact mem_at hy
    · exact mem_at hx
  refine ⟨a, c, L, a1, c1, A, some ⟨g2, off2, none⟩, c2, (R.set 0 y).set 1 x, rfl, rfl, by rw [List.length_set, List.length_set], h.fin hfin.1 hfin.2.1 ⟨hfin.2.2, fun z hz => h.rest hfin.1 z (hmem z hz)⟩ (by have := h.al; omega) (by rw [List.length_set, List.length_set]; have := h.rl; omega) (fun z hz => by have := (h.xl z (hmem z hz)).1; omega)⟩
/-- new rounds in a new block, the rest of the old ones behind them -/
theorem Mo.fresh (h : Mo W w0 w db p l cap a c L m B B1 a1 c1 A a2 c2 R) (hb : Below w.heap.size w w') {N : List IL} {k n : Nat} {a3 : Option Addr} {c3 : Nat} (hn : n = N.length + (R.length - k)) (hR : Rd w' a3 (N.map ilV ++ (R.drop k).map ilV)) (hN : ∀ x ∈ N, Rd w' x.ad (ints x.lst) ∧ x.lst.length ≤ 1000) (hl : N.length ≤ 2) :
    ∃ (a' : Option Addr) (c' : Nat) (L' : List Seat) (sa : Option Addr) (sc : Nat) (A' : List Int) (ra : Option Addr) (rc : Nat) (R' : List IL), Value.slice a L.length c = .slice a' L'.length c' ∧ Value.slice a1 A.length c1 = .slice sa A'.length sc ∧ Value.slice a3 n c3 = .slice ra R'.length rc ∧ Mz W w' a' L' sa A' ra R' := by
  have hrl := h.rl
  have hb1 : Below B1 w w' := hb.mono h.le
  refine ⟨a, c, L, a1, c1, A, a3, c3, N ++ R.drop k, rfl, rfl, by rw [hn, List.length_append, List.length_drop], h.fin hb1 (h.o1.rd.keep hb) ⟨by rw [List.map_append]; exact hR, fun z hz => ?_⟩ (by have := h.al; omega) (by rw [List.length_append, List.length_drop]; omega) (fun z hz => ?_)⟩
  · rcases List.mem_append.1 hz with hz | hz
    · exact (hN z hz).1
    · exact h.rest hb1 z (List.mem_of_mem_drop hz)
  · rcases List.mem_append.1 hz with hz | hz
    · exact (hN z hz).2
    · have := (h.xl z (List.mem_of_mem_drop hz)).1; omega
/-- more seats -/
theorem Mo.more (h : Mo W w0 w db p l cap a c L m B B1 a1 c1 A a2 c2 R) {a' : Option Addr} {c' n' m' : Nat} {L' : List Seat} (hS : Ss W w0 w' db p l cap a' n' c' L' m') (hk : Kp (fun j => j < B) w w') (hn : n' ≤ 33) :
    ∃ (a'' : Option Addr) (c'' : Nat) (L'' : List Seat) (sa : Option Addr) (sc : Nat) (A' : List Int) (ra : Option Addr) (rc : Nat) (R' : List IL), Value.slice a' n' c' = .slice a'' L''.length c'' ∧ Value.slice a1 A.length c1 = .slice sa A'.length sc ∧ Value.slice a2 R.length c2 = .slice ra R'.length rc ∧ Mz W w' a'' L'' sa A' ra R' := by
  have hl := h.bl
  refine ⟨a', c', L', a1, c1, A, a2, c2, R, by rw [hS.ln], rfl, rfl, ⟨hS.rdS, by rw [hS.ln]; exact hn, h.o1.rd.kp hk (fun j hj e => by have := (h.o1.row j hj).1; omega), RdL.kp ⟨h.o2.rd, h.r⟩ hk (fun j hj e => by have := (h.o2.row j hj).1; omega) (fun x hx j hj e => by have := (h.rx x hx).2 j hj; omega), by have := h.al; omega, by have := h.rl; omega, fun x hx => by have := (h.xl x hx).1; omega, hS.d.below⟩⟩
def lnOf : Value → Nat
  | .slice _ n _ => n
  | _ => 0
theorem Mo.keep (h : Mo W w0 w db p l cap a c L m B B1 a1 c1 A a2 c2 R) (hb : Below w.heap.size w w') : Mo W w0 w' db p l cap a c L m B B1 a1 c1 A a2 c2 R := h.next (h.s.d.keep hb) (KD.of_below hb)
theorem rd_drop {g off : Nat} {X : List Value} (h : Rd w (some ⟨g, off, none⟩) X) (k : Nat) : Rd w (some ⟨g, off + k, none⟩) (X.drop k) := Rd.mk fun j u hj => by
  rw [List.getElem?_drop] at hj
  obtain ⟨g', off', he, hc⟩ := h (k + j) u hj
  cases he
  rw [Nat.add_assoc]; exact hc
theorem Ow.lit (w : World) (base : Nat) (e : TypeId) (vs : List Value) (n : Nat) (hn : vs.length = n) (h : base ≤ w.heap.size) (hl : n ≤ maxLen) : Ow (w.alloc (.cells vs.toArray e)) base 1 (some ⟨w.heap.size, 0, none⟩) n n vs := by
  have hX := Bx.new w e vs
  refine ⟨by rw [hn, Nat.mul_one], Nat.le_refl _, by omega, .inr ⟨w.heap.size, 0, rfl, h, hX.lt, fun j u hj => ?_, fun j hj => ?_⟩⟩
  · rw [Nat.zero_add]; exact hX.cell j hj
  · have hj2 : j < vs.length := by omega
    rw [Nat.zero_add]
    exact ⟨by rw [hX.cell j (List.getElem?_eq_getElem hj2)]; rfl, hX.free _⟩
end
end Go.Proofs.YtpofijdkckaphaaGreatDoor
