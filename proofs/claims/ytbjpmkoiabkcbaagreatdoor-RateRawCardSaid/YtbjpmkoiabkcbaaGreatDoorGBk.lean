/- A block of its own whose cells are known (a struct's box). No program in sight. -/
import Derived.Test.YtbjpmkoiabkcbaaGreatDoorBase
import Derived.Test.YtbjpmkoiabkcbaaGreatDoorGHandE
namespace Go.Proofs.YtbjpmkoiabkcbaaGreatDoor
open Go.RowKit
/-- block g holds these cells -/
def Bx (w : World) (g : Nat) (t : TypeId) (cs : List Value) : Prop := w.heap[g]? = some (.cells cs.toArray t (0, 0))
theorem Bx.new (w : World) (t : TypeId) (cs : List Value) : Bx (w.alloc (.cells cs.toArray t)) w.heap.size t cs := heap_alloc_new w _
theorem Bx.lt {w : World} {g : Nat} {t : TypeId} {cs : List Value} (h : Bx w g t cs) : g < w.heap.size := (Array.getElem?_eq_some_iff.1 h).1
theorem Bx.keep {w w' : World} {g : Nat} {t : TypeId} {cs : List Value} (h : Bx w g t cs) (hb : Below w.heap.size w w') : Bx w' g t cs := (hb.block g h.lt).trans h
theorem Bx.drew {w : World} {g : Nat} {t : TypeId} {cs : List Value} (h : Bx w g t cs) : Bx w.drew g t cs := h
theorem Bx.alloc {w : World} {g : Nat} {t : TypeId} {cs : List Value} (h : Bx w g t cs) (o : Obj) : Bx (w.alloc o) g t cs := h.keep ((Below.refl _ _).alloc (Nat.le_refl _) _)
theorem Bx.grown {w w' : World} {g : Nat} {t : TypeId} {cs : List Value} {row : Option Nat} (h : Bx w g t cs) (hb : w.grownBy w' row) (hne : some g ≠ row) : Bx w' g t cs := (hb.block g h.lt hne).trans h
theorem Bx.other {w : World} {g : Nat} {t : TypeId} {cs : List Value} (h : Bx w g t cs) {b : Nat} (hne : g ≠ b) (o : Nat) (v : Value) : Bx (w.setCell ⟨b, o, none⟩ v) g t cs := (heap_setCell_other w ⟨b, o, none⟩ g v hne).trans h
theorem Bx.cell {w : World} {g : Nat} {t : TypeId} {cs : List Value} (h : Bx w g t cs) (j : Nat) {v : Value} (hv : cs[j]? = some v) : w.cell? ⟨g, j, none⟩ = some v := by
  rw [Lib.cell_of_heap h]; simpa using hv
theorem Bx.free {w : World} {g : Nat} {t : TypeId} {cs : List Value} (h : Bx w g t cs) (j : Nat) : w.frozen? ⟨g, j, none⟩ = false := Lib.frozen_of_heap h j
theorem Bx.set {w : World} {g : Nat} {t : TypeId} {cs : List Value} (h : Bx w g t cs) (j : Nat) (v : Value) : Bx (w.setCell ⟨g, j, none⟩ v) g t (cs.set j v) := by
  have h' : w.heap[g]? = some (.cells cs.toArray t (0, 0)) := h
  simp [Bx, World.setCell, Array.getElem?_modify, h', Array.setIfInBounds]
  intro hj
  exact (List.set_eq_of_length_le hj).symm
end Go.Proofs.YtbjpmkoiabkcbaaGreatDoor
/- Members of the group of a safe prime, as the program finds them. -/
namespace Go.Proofs.YtbjpmkoiabkcbaaGreatDoor
open Go.RowKit
set_option maxRecDepth 100000 in
theorem hMember_walk (p : Nat) (x : Int) (w : World) (hB : Bases w) (hs : safeP (p : Int) = true) :
    Calls Tryz.prog 40 #[.int .i64 (p : Int), .int .i64 x] w fun e w' => e = .returned (.bool (memZ p x)) ∧ Below w.heap.size w w' := by
  obtain ⟨h3, h30, -⟩ := safeP_bd hs
  have KO := Lib.hid (fun V h => hof_yes p V h hs)
  have KH := Lib.hid (fun V => hhas_walk p x V (by omega) (by omega))
  generalize memZ p x = z at *
  clear hs h3 h30
  go_enter Tryz.func40, Tryz.ntmps40
  go_wp2_with (go_at_call 66; (with_reducible refine (KO.out _ hB).mono ?_))
  rintro e w1 ⟨rfl, hb1⟩
  have hb2 := hb1.trans (((Below.refl w1.heap.size w1).alloc (Nat.le_refl _) (.cells #[.int .i64 (p : Int), .int .i64 ((2 * p + 1 : Nat) : Int)] 55)).mono hb1.size)
  have hX := Bx.new w1 55 [.int .i64 (p : Int), .int .i64 ((2 * p + 1 : Nat) : Int)]
  rw [grp] at *
  generalize ((2 * p + 1 : Nat) : Int) = m at *
  go_upto_region 2 with (fail)
  change Bx (w1.alloc (.cells #[.int .i64 (p : Int), .int .i64 m] 55)) _ _ _ at hX
  generalize w1.alloc (.cells #[.int .i64 (p : Int), .int .i64 m] 55) = w2 at *
  generalize w1.heap.size = g at *
  have x0 := hX.cell 0 (v := .int .i64 (p : Int)) rfl
  have x1 := hX.cell 1 (v := .int .i64 m) rfl
  clear hX hb1
  go_wp2_with (go_at_call 67; (with_reducible refine (KH.out _).mono ?_))
  rintro e w3 ⟨rfl, hb3⟩
  have HB := Lib.hid (below_tr hb2 hb3)
  clear hb2 hb3 x0 x1
  go_wp2
  go_ret
  exact ⟨rfl, HB.out⟩
end Go.Proofs.YtbjpmkoiabkcbaaGreatDoor
/- ranges.In. -/
namespace Go.Proofs.YtbjpmkoiabkcbaaGreatDoor
open Go.RowKit
set_option maxRecDepth 100000 in
theorem in_walk (n lo hi : Int) (w : World) :
    Calls Tryz.prog 41 #[.int .i64 n, .int .i64 lo, .int .i64 hi] w fun e w' => e = .returned (.bool (decide (lo ≤ n) && decide (n ≤ hi))) ∧ w = w' := by
  by_cases h1 : lo ≤ n
  · have d1 : decide (n ≥ lo) = true := by simpa using h1
    have d1' : decide (lo ≤ n) = true := by simpa using h1
    go_enter Tryz.func41, Tryz.ntmps41
    go_wp2
    go_ret
    exact ⟨by simp [h1], rfl⟩
  · have d1 : decide (n ≥ lo) = false := by simpa using h1
    go_enter Tryz.func41, Tryz.ntmps41
    go_wp2
    go_ret
    exact ⟨by simp, rfl⟩
/-- the two answers apart -/
theorem in_yes {n lo hi : Int} (w : World) (h : lo ≤ n ∧ n ≤ hi) : Calls Tryz.prog 41 #[.int .i64 n, .int .i64 lo, .int .i64 hi] w fun e w' => e = .returned (.bool true) ∧ w = w' := by
  have := in_walk n lo hi w
  rwa [decide_eq_true h.1, decide_eq_true h.2] at this
theorem in_no {n lo hi : Int} (w : World) (h : ¬ (lo ≤ n ∧ n ≤ hi)) : Calls Tryz.prog 41 #[.int .i64 n, .int .i64 lo, .int .i64 hi] w fun e w' => e = .returned (.bool false) ∧ w = w' := by
  have := in_walk n lo hi w
  rwa [show (decide (lo ≤ n) && decide (n ≤ hi)) = false by rw [Bool.and_eq_false_iff, decide_eq_false_iff_not, decide_eq_false_iff_not]; omega] at this
end Go.Proofs.YtbjpmkoiabkcbaaGreatDoor
/- Rings of keys: sums, products, members of the group, commitments. -/
namespace Go.Proofs.YtbjpmkoiabkcbaaGreatDoor
open Go.RowKit
set_option maxRecDepth 100000 in
theorem fadd_walk (p a b : Int) (w : World) (hp : 1 ≤ p) (hp2 : p ≤ 1073741824) (hn : -4611686018427387904 ≤ a + b) (hn2 : a + b ≤ 4611686018427387904) :
    Calls Tryz.prog 26 #[.int .i64 p, .int .i64 a, .int .i64 b] w fun e w' => e = .returned (.int .i64 ((a + b) % p)) ∧ w = w' := by
  go_enter Tryz.func26, Tryz.ntmps26
  go_wp2_with (go_at_call 53; (with_reducible refine (modulo_any _ _ _ hp hp2).mono ?_))
  rintro e w1 ⟨rfl, rfl⟩
  go_wp2
  go_ret
  exact ⟨rfl, rfl⟩
set_option maxRecDepth 100000 in
theorem fsub_walk (p a b : Int) (w : World) (hp : 1 ≤ p) (hp2 : p ≤ 1073741824) (hn : -4611686018427387904 ≤ a - b) (hn2 : a - b ≤ 4611686018427387904) :
    Calls Tryz.prog 23 #[.int .i64 p, .int .i64 a, .int .i64 b] w fun e w' => e = .returned (.int .i64 ((a - b) % p)) ∧ w = w' := by
  go_enter Tryz.func23, Tryz.ntmps23
  go_wp2_with (go_at_call 53; (with_reducible refine (modulo_any _ _ _ hp hp2).mono ?_))
  rintro e w1 ⟨rfl, rfl⟩
  go_wp2
  go_ret
  exact ⟨rfl, rfl⟩
set_option maxRecDepth 100000 in
theorem hTimesP_walk (p a b : Nat) (w : World) (hp : 1 ≤ p) (hp2 : p ≤ 1073741824) (ha : a < 2 * p + 1) (hb : b < 2 * p + 1) :
    Calls Tryz.prog 52 #[.int .i64 (p : Int), .int .i64 (a : Int), .int .i64 (b : Int)] w fun e w' => e = .returned (.int .i64 ((a * b % (2 * p + 1) : Nat) : Int)) ∧ w = w' := by
  have kt : ∀ V, Calls Tryz.prog 72 #[.int .i64 (2 * (p : Int) + 1), .int .i64 (a : Int), .int .i64 (b : Int)] V fun e w' => e = .returned (.int .i64 ((a * b % (2 * p + 1) : Nat) : Int)) ∧ V = w' := fun V => by
    rw [show 2 * (p : Int) + 1 = ((2 * p + 1 : Nat) : Int) by omega]
    exact htimes_walk (2 * p + 1) a b V (by omega) (by omega) ha hb
  generalize a * b % (2 * p + 1) = z at *
  have KT := Lib.hid kt
  clear kt ha hb
  go_enter Tryz.func52, Tryz.ntmps52
  go_wp2_with (go_at_call 72; (with_reducible refine (KT.out _).mono ?_))
  rintro e w1 ⟨rfl, rfl⟩
  go_wp2
  go_ret
  exact ⟨rfl, rfl⟩
set_option maxRecDepth 100000 in
theorem ratesafe_walk (p : Int) (w : World) (hB : Bases w) (hs : safeP p = true) :
    Calls Tryz.prog 28 #[.int .i64 p] w fun e w' => e = .returned (.bool true) ∧ w = w' := by
  have KM := Lib.hid (hmod_yes p w hB hs)
  clear hs hB
  go_enter Tryz.func28, Tryz.ntmps28
  go_wp2_with (go_at_call 57; (with_reducible refine KM.out.mono ?_))
  rintro e w1 ⟨rfl, rfl⟩
  go_wp2
  go_ret
  exact ⟨rfl, rfl⟩
/-- the commitment of a key -/
def comF (p k : Nat) (c z : Int) : Nat := gpw p 4 z * gpw p k (-c) % (2 * p + 1)
theorem comF_lt (p k : Nat) (c z : Int) : comF p k c z < 2 * p + 1 := Nat.mod_lt _ (by omega)
set_option maxRecDepth 100000 in
theorem comm_walk (p k : Nat) (c z : Int) (w : World) (hp : 3 ≤ p) (hp2 : p ≤ 1073741824) (hk : k < 2 * p + 1) (hc : 0 ≤ c) (hc2 : c ≤ 4611686018427387904) :
    Calls Tryz.prog 22 #[.int .i64 (p : Int), .int .i64 (k : Int), .int .i64 c, .int .i64 z] w fun e w' => e = .returned (.int .i64 ((comF p k c z : Nat) : Int)) ∧ Below w.heap.size w w' := by
  have K1 : Hid (∀ V, Calls Tryz.prog 21 #[.int .i64 (p : Int), .int .i64 4, .int .i64 z] V fun r w' => r = .returned (.int .i64 ((gpw p 4 z : Nat) : Int)) ∧ Below V.heap.size V w') := Lib.hid (fun V => hPower_walk p 4 z V (by omega) hp2 (by omega))
  have K2 := Lib.hid (fun V => hPower_walk p k (-c) V (by omega) hp2 hk)
  have K3 := Lib.hid (fun V => hTimesP_walk p (gpw p 4 z) (gpw p k (-c)) V (by omega) hp2 (gpw_lt _ _ _) (gpw_lt _ _ _))
  rw [comF]
  generalize gpw p 4 z * gpw p k (-c) % (2 * p + 1) = y at *
  generalize gpw p 4 z = y1 at *
  generalize gpw p k (-c) = y2 at *
  have hw : IntKind.i64.wrap (-c) = -c := by rw [IntKind.wrap_i64]; omega
  clear hk
  go_enter Tryz.func22, Tryz.ntmps22
  go_wp2_with (go_at_call 21; (with_reducible refine (K1.out _).mono ?_))
  rintro e w1 ⟨rfl, hb1⟩
  go_wp2_with (go_at_call 21; (with_reducible refine (K2.out _).mono ?_))
  rintro e w2 ⟨rfl, hb2⟩
  go_wp2_with (go_at_call 52; (with_reducible refine (K3.out _).mono ?_))
  rintro e w3 ⟨rfl, rfl⟩
  go_wp2
  go_ret
  exact ⟨rfl, below_tr hb1 hb2⟩
/-- a sum -/
def sumF (p : Int) (l : List Int) : Int := l.foldl (fun s x => (s + x) % p) 0
theorem sumF_snoc (p : Int) (l : List Int) (x : Int) : sumF p (l ++ [x]) = (sumF p l + x) % p := by rw [sumF, List.foldl_append]; rfl
theorem sumF_bd {p : Int} (hp : 1 ≤ p) (l : List Int) : 0 ≤ sumF p l ∧ sumF p l < p := by
  rcases List.eq_nil_or_concat l with rfl | ⟨l, x, rfl⟩
  · exact ⟨Int.le_refl _, by show (0 : Int) < p; omega⟩
  · rw [List.concat_eq_append, sumF_snoc]
    exact ⟨Int.emod_nonneg _ (by omega), Int.emod_lt_of_pos _ (by omega)⟩
set_option maxRecDepth 100000 in
theorem rsum_walk' (p : Int) (a : Option Addr) (l : List Int) (cap : Nat) (w : World) (hp : 1 ≤ p) (hp2 : p ≤ 1073741824) (hR : Rd w a (ints l)) (hl : l.length ≤ 281474976710656) (hx : ∀ x ∈ l, 0 ≤ x ∧ x ≤ 2147483649) :
    Calls Tryz.prog 25 #[.int .i64 p, .slice a l.length cap] w fun e w' => e = .returned (.int .i64 (sumF p l)) ∧ Below w.heap.size w w' := by
  go_enter Tryz.func25, Tryz.ntmps25
  go_wp2_with fail
  go_loopw [5, 10] (fun s i wr => ∃ k : Nat, k ≤ l.length ∧ i = .int .i64 (k : Int) ∧ (∃ t, s = .int .i64 t ∧ Hid (t = sumF p (l.take k)) ∧ 0 ≤ t ∧ t < p) ∧ Below w.heap.size w wr) (fun _ i _ => l.length - (intOf i).toNat)
  case atStart => exact ⟨0, Nat.zero_le _, rfl, ⟨0, rfl, Lib.hid rfl, Int.le_refl _, by omega⟩, Below.refl _ _⟩
  case round =>
    obtain ⟨k, hk, rfl, ⟨t, rfl, ht, ht0, ht1⟩, hB⟩ := hrel
    by_cases hkt : k < l.length
    · obtain ⟨g, off, x, rfl, hc, hx'⟩ := (hR.keep hB).int (k := k) hkt
      have hkl : (k : Int) < (l.length : Int) := by omega
      have hxb := hx x (mem_at hx')
      have hs : (t + x) % p = sumF p (l.take (k + 1)) := by rw [take_at hx', sumF_snoc, ht.out]
      have HS := Lib.hid hs
      have h0 := Int.emod_nonneg (t + x) (show p ≠ 0 by omega)
      have h1 := Int.emod_lt_of_pos (t + x) (show 0 < p by omega)
      have KA := Lib.hid (fun V => fadd_walk p t x V hp hp2 (by omega) (by omega))
      generalize (t + x) % p = t2 at *
      clear hs hx hx' ht hR hxb
      go_wp2_with (go_at_call 26; (with_reducible refine (KA.out _).mono ?_))
      rintro e w1 ⟨rfl, rfl⟩
      go_wp2_with fail
      go_roundw
      case rel => exact ⟨k + 1, by omega, by go_num, ⟨t2, rfl, HS, h0, h1⟩, hB⟩
      case measure => simp [intOf]; omega
    · have hkl : ¬ (k : Int) < (l.length : Int) := by omega
      have hs : t = sumF p l := by rw [ht.out, List.take_of_length_le (by omega)]
      have HS := Lib.hid hs
      clear hs ht
      go_wp2
      go_ret
      exact ⟨ret_int HS.out, hB⟩
end Go.Proofs.YtbjpmkoiabkcbaaGreatDoor
