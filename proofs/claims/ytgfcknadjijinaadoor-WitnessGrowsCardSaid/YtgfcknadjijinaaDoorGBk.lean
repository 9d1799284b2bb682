/- A block of its own whose cells are known (a struct's box). No program in sight. -/
import Derived.Test.YtgfcknadjijinaaDoorBase
import Derived.Test.YtgfcknadjijinaaDoorGHandE
import Derived.Test.YtgfcknadjijinaaDoorGDigestG
import Derived.Test.YtgfcknadjijinaaDoorGCodecW
namespace Go.Proofs.YtgfcknadjijinaaDoor
open Go.RowKit
/-- block g holds these cells -/
def Bx (w : World) (g : Nat) (t : TypeId) (cs : List Value) : Prop := w.heap[g]? = some (.cells cs.toArray t (0, 0))
theorem Bx.new (w : World) (t : TypeId) (cs : List Value) : Bx (w.alloc (.cells cs.toArray t)) w.heap.size t cs := heap_alloc_new w _
theorem Bx.lt {w : World} {g : Nat} {t : TypeId} {cs : List Value} (h : Bx w g t cs) : g < w.heap.size := (Array.getElem?_eq_some_iff.1 h).1
theorem Bx.keep {w w' : World} {g : Nat} {t : TypeId} {cs : List Value} (h : Bx w g t cs) (hb : Below w.heap.size w w') : Bx w' g t cs := (hb.block g h.lt).trans h
theorem Bx.drew {w : World} {g : Nat} {t : TypeId} {cs : List Value} (h : Bx w g t cs) : Bx w.drew g t cs := h
theorem Bx.alloc {w : World} {g : Nat} {t : TypeId} {cs : List Value} (h : Bx w g t cs) (o : Obj) : Bx (w.alloc o) g t cs := h.keep ((Below.refl _ _).alloc (Nat.le_refl _) _)
theorem Bx.grown {w w' : World} {g : Nat} {t : TypeId} {cs : List Value} {row : Option Nat} (h : Bx w g t cs) (hb : w.grownBy w' row) (hne : some g ≠ row) : Bx w' g t cs := (hb.block g h.lt hne).trans h
theorem Bx.other {w : World} {g : Nat} {t : TypeId} {cs : List Value} (h : Bx w g t cs) {b : Nat} (hne : g ≠ b) (o : Nat) (v : Value) : Bx (w.setCell ⟨b, o, none⟩ v) g t cs := (heap_setCell_other w ⟨b, o, none⟩ g v hne).trans h
theorem Bx.cell {w : World} {g : Nat} {t : TypeId} {cs : List Value} (h : Bx w g t cs) (j : Nat) {v : Value} (hv : cs[j]? = some v) : w.cell? ⟨g, j, none⟩ = some v := by
  rw [Lib.cell_of_heap h]; simpa using hv
theorem Bx.free {w : World} {g : Nat} {t : TypeId} {cs : List Value} (h : Bx w g t cs) (j : Nat) : w.frozen? ⟨g, j, none⟩ = false := Lib.frozen_of_heap h j
theorem Bx.set {w : World} {g : Nat} {t : TypeId} {cs : List Value} (h : Bx w g t cs) (j : Nat) (v : Value) : Bx (w.setCell ⟨g, j, none⟩ v) g t (cs.set j v) := by
  have h' : w.heap[g]? = some (.cells cs.toArray t (0, 0)) := h
  simp [Bx, World.setCell, Array.getElem?_modify, h', Array.setIfInBounds]
  intro hj
  exact (List.set_eq_of_length_le hj).symm
end Go.Proofs.YtgfcknadjijinaaDoor
/- Signatures: the challenge, how one is made, and when it is right. -/
namespace Go.Proofs.YtgfcknadjijinaaDoor
open Go.RowKit
/-- the challenge of a signature -/
def chalF (p : Nat) (r pub : Int) (text : List UInt8) : Nat := (elem (p : Int) (putInt r ++ putInt pub ++ text)).toNat
theorem chalF_eq {p : Nat} (hp : 3 ≤ p) (r pub : Int) (text : List UInt8) : elem (p : Int) (putInt r ++ putInt pub ++ text) = (chalF p r pub text : Int) ∧ chalF p r pub text < p := by
  unfold chalF elem
  have h1 := Int.emod_nonneg ((num7 (sha (putInt r ++ putInt pub ++ text)) 7 : Nat) : Int) (show (p : Int) - 1 ≠ 0 by omega)
  have h2 := Int.emod_lt_of_pos ((num7 (sha (putInt r ++ putInt pub ++ text)) 7 : Nat) : Int) (show (0 : Int) < (p : Int) - 1 by omega)
  generalize ((num7 (sha (putInt r ++ putInt pub ++ text)) 7 : Nat) : Int) % ((p : Int) - 1) = z at *
  omega
set_option maxRecDepth 100000 in
theorem hchal_walk (p : Nat) (r pub : Int) (text : List UInt8) (w : World) (hp : 3 ≤ p) (hp2 : p ≤ 1073741824) (hr : I64 r) (hu : I64 pub) (ht : text.length ≤ 1000000) :
    Calls Tryd.prog 38 #[.int .i64 (p : Int), .int .i64 r, .int .i64 pub, .string ⟨text.toArray⟩] w fun e w' => e = .returned (.int .i64 (chalF p r pub text : Int)) ∧ Below w.heap.size w w' := by
  have l1 := putInt_ten hr
  have l2 := putInt_ten hu
  have k1 : ∀ V, Calls Tryd.prog 42 #[.string ⟨#[]⟩, .int .i64 r] V fun e w' => e = .returned (.string ⟨(putInt r).toArray⟩) ∧ Below V.heap.size V w' := fun V => putInt_nil r V hr
  have k2 : ∀ V, Calls Tryd.prog 42 #[.string ⟨(putInt r).toArray⟩, .int .i64 pub] V fun e w' => e = .returned (.string ⟨(putInt r ++ putInt pub).toArray⟩) ∧ Below V.heap.size V w' := fun V => putInt_any _ pub V hu (by omega)
  have k3 : ∀ V, Calls Tryd.prog 66 #[.int .i64 (p : Int), .string ⟨(putInt r ++ putInt pub ++ text).toArray⟩] V fun e w' => e = .returned (.int .i64 (chalF p r pub text : Int)) ∧ Below V.heap.size V w' := fun V => by
    rw [← (chalF_eq hp r pub text).1]
    exact element_walk p _ V (by omega) (by omega) (by rw [List.length_append, List.length_append]; omega)
  have hl : (putInt r ++ putInt pub).length ≤ 20 := by rw [List.length_append]; omega
  generalize chalF p r pub text = c at *
  generalize putInt r ++ putInt pub = s2 at *
  generalize putInt r = s1 at *
  have K1 := Lib.hid k1
  have K2 := Lib.hid k2
  have K3 := Lib.hid k3
  have hlim : ¬ (9223372036854775807 < s2.length + text.length) := by omega
  clear k1 k2 k3 l1 l2 hl ht
  go_enter Tryd.func38, Tryd.ntmps38
  go_wp2_with (first
    | (go_at_call 42; ((with_reducible refine (K1.out _).mono ?_)); rintro e w1 ⟨rfl, hb1⟩)
    | (go_at_call 42; ((with_reducible refine (K2.out _).mono ?_)); rintro e w2 ⟨rfl, hb2⟩)
    | (go_at_call 66; ((with_reducible refine (K3.out _).mono ?_)); rintro e w3 ⟨rfl, hb3⟩))
  go_ret
  exact ⟨rfl, below_tr (below_tr hb1 hb2) hb3⟩
theorem addm_walk (p a b : Int) (w : World) (hp : 1 ≤ p) (hp2 : p ≤ 1073741824) (hn : 0 ≤ a + b) (hn2 : a + b < 9223372036854775808) :
    Calls Tryd.prog 39 #[.int .i64 p, .int .i64 a, .int .i64 b] w fun e w' => e = .returned (.int .i64 ((a + b) % p)) ∧ w = w' := by
  go_enter Tryd.func39, Tryd.ntmps39
  go_wp2_with (go_at_call 67; (with_reducible refine (modulo_walk _ _ _ hp hp2 hn hn2).mono ?_))
  rintro e w1 ⟨rfl, rfl⟩
  go_wp2
  go_ret
  exact ⟨rfl, rfl⟩
abbrev sigT : TypeId := 31
abbrev sg (r s : Nat) : Value := .agg #[.int .i64 (r : Int), .int .i64 (s : Int)]
theorem Bx.sig {fn : Func} {t u : Tmp} (h : fn.results = #[.cell t 31, .tmp u]) (tmps : Array Value) {w : World} {g : Nat} {x y : Int} (ht : tmps.getD t undef = .pointer (some ⟨g, 0, none⟩)) (hD : Bx w g 31 [.int .i64 x, .int .i64 y]) :
    (results fn tmps).run Tryd.prog w = .ok (.tuple #[.agg #[.int .i64 x, .int .i64 y], tmps.getD u undef]) w := by
  have c0 := hD.cell 0 rfl
  have c1 := hD.cell 1 rfl
  have ht' : tmps[t]?.getD undef = .pointer (some ⟨g, 0, none⟩) := by simpa using ht
  simp [results, h, ht', go_sem, c0, c1]
theorem below2 {B g : Nat} {w w1 : World} (h : Below B w w1) (hg : B ≤ g) (x y : Value) : Below B w ((w1.setCell ⟨g, 0, none⟩ x).setCell ⟨g, 1, none⟩ y) :=
  (h.setCell (p := ⟨g, 0, none⟩) hg x).setCell (p := ⟨g, 1, none⟩) hg y
/-- the two numbers of a signature -/
def signR (p nonce : Nat) : Nat := gpw p 4 (nonce : Int)
def signS (p key nonce : Nat) (text : List UInt8) : Nat := (nonce + key * chalF p (signR p nonce : Int) (gpw p 4 (key : Int) : Int) text % p) % p
set_option maxRecDepth 100000 in
set_option maxHeartbeats 1000000 in
theorem hsign_yes (p key nonce : Nat) (text : List UInt8) (w : World) (hB : Bases w) (hs : safeP (p : Int) = true) (hk : 1 ≤ key) (hkp : key < p) (hn : 1 ≤ nonce) (hnp : nonce < p) (ht : text.length ≤ 1000000) :
    Calls Tryd.prog 22 #[.int .i64 (p : Int), .int .i64 (key : Int), .int .i64 (nonce : Int), .string ⟨text.toArray⟩] w fun e w' => e = .returned (.tuple #[.agg #[.int .i64 (signR p nonce : Int), .int .i64 (signS p key nonce text : Int)], .int .i64 0]) ∧ Below w.heap.size w w' := by
  obtain ⟨h3, h30, -⟩ := safeP_bd hs
  have hp3 : 3 ≤ p := by omega
  have hp30 : p ≤ 1073741824 := by omega
  have km : ∀ V, Bases V → Calls Tryd.prog 37 #[.int .i64 (p : Int)] V fun e w' => e = .returned (.tuple #[.int .i64 (2 * (p : Int) + 1), .bool true]) ∧ V = w' := fun V h => hmod_yes p V h hs
  have k1 : ∀ V, Calls Tryd.prog 24 #[.int .i64 (p : Int), .int .i64 (nonce : Int)] V fun e w' => e = .returned (.int .i64 (signR p nonce : Int)) ∧ Below V.heap.size V w' := fun V => hPublic_walk p nonce V hp3 hp30
  have k2 : ∀ V, Calls Tryd.prog 24 #[.int .i64 (p : Int), .int .i64 (key : Int)] V fun e w' => e = .returned (.int .i64 (gpw p 4 (key : Int) : Int)) ∧ Below V.heap.size V w' := fun V => hPublic_walk p key V hp3 hp30
  have b1 : signR p nonce < 2 * p + 1 := gpw_lt _ _ _
  have b2 : gpw p 4 (key : Int) < 2 * p + 1 := gpw_lt _ _ _
  have k3 : ∀ V, Calls Tryd.prog 38 #[.int .i64 (p : Int), .int .i64 (signR p nonce : Int), .int .i64 (gpw p 4 (key : Int) : Int), .string ⟨text.toArray⟩] V fun e w' => e = .returned (.int .i64 (chalF p (signR p nonce : Int) (gpw p 4 (key : Int) : Int) text : Int)) ∧ Below V.heap.size V w' := fun V => hchal_walk p _ _ text V hp3 hp30 ⟨by omega, by omega⟩ ⟨by omega, by omega⟩ ht
  have hc := (chalF_eq hp3 (signR p nonce : Int) (gpw p 4 (key : Int) : Int) text).2
  have hS : signS p key nonce text = (nonce + key * chalF p (signR p nonce : Int) (gpw p 4 (key : Int) : Int) text % p) % p := rfl
  generalize chalF p (signR p nonce : Int) (gpw p 4 (key : Int) : Int) text = c at *
  generalize gpw p 4 (key : Int) = pub at *
  generalize signR p nonce = R at *
  generalize signS p key nonce text = S at *
  obtain ⟨q1, q2⟩ := prod_bd (p := (p : Int)) (a := (key : Int)) (b := (c : Int)) (by omega) (by omega) (by omega) (by omega) (by omega)
  have k4 : ∀ V, Calls Tryd.prog 40 #[.int .i64 (p : Int), .int .i64 (key : Int), .int .i64 (c : Int)] V fun e w' => e = .returned (.int .i64 ((key * c % p : Nat) : Int)) ∧ V = w' := fun V => by
    have := mul_walk (p : Int) key c V (by omega) (by omega) q1 (by omega)
    rw [← Int.natCast_mul, ← Int.natCast_emod] at this
    exact this
  have hd : key * c % p < p := Nat.mod_lt _ (by omega)
  generalize key * c % p = d at *
  have k5 : ∀ V, Calls Tryd.prog 39 #[.int .i64 (p : Int), .int .i64 (nonce : Int), .int .i64 (d : Int)] V fun e w' => e = .returned (.int .i64 (S : Int)) ∧ V = w' := fun V => by
    have := addm_walk (p : Int) nonce d V (by omega) (by omega) (by omega) (by omega)
    rw [hS, Int.natCast_emod, Int.natCast_add]
    exact this
  have KM := Lib.hid km
  have K1 := Lib.hid k1
  have K2 := Lib.hid k2
  have K3 := Lib.hid k3
  have K4 := Lib.hid k4
  have K5 := Lib.hid k5
  have hkp2 : (key : Int) < (p : Int) := by omega
  have hnp2 : (nonce : Int) < (p : Int) := by omega
  have hk2 : (1 : Int) ≤ (key : Int) := by omega
  have hn2 : (1 : Int) ≤ (nonce : Int) := by omega
  have hb0 := (Below.refl w.heap.size w).alloc (Nat.le_refl _) (.cells #[.int .i64 0, .int .i64 0] 31)
  have hk := Bx.new w 31 [.int .i64 0, .int .i64 0]
  clear km k1 k2 k3 k4 k5 hS hd q1 q2 b1 b2 hc hs ht
  go_enter Tryd.func22, Tryd.ntmps22
  go_wp2_with (go_at_call 37; (with_reducible refine (KM.out _ (hB.keep hb0)).mono ?_))
  rintro e w1 ⟨rfl, rfl⟩
  go_wp2_with (go_at_call 24; (with_reducible refine (K1.out _).mono ?_))
  rintro e w1 ⟨rfl, hb1⟩
  replace hk := hk.keep hb1
  replace hb0 := hb0.trans (hb1.mono hb0.size)
  clear hb1
  go_wp2_with (go_at_call 24; (with_reducible refine (K2.out _).mono ?_))
  rintro e w2 ⟨rfl, hb1⟩
  replace hk := hk.keep hb1
  replace hb0 := hb0.trans (hb1.mono hb0.size)
  clear hb1
  go_wp2_with (go_at_call 38; (with_reducible refine (K3.out _).mono ?_))
  rintro e w3 ⟨rfl, hb1⟩
  replace hk := hk.keep hb1
  replace hb0 := hb0.trans (hb1.mono hb0.size)
  clear hb1
  obtain ⟨g, hg⟩ : ∃ g, g = w.heap.size := ⟨_, rfl⟩
  have hwg : w.heap.size ≤ g := by omega
  rw [← hg] at hk ⊢
  clear hg
  have c0 := hk.cell 0 rfl
  have c1 := hk.cell 1 rfl
  have f0 := hk.free 0
  have f1 := hk.free 1
  go_wp2_with (go_at_call 40; (with_reducible refine (K4.out _).mono ?_))
  rintro e w4 ⟨rfl, rfl⟩
  go_wp2_with (go_at_call 39; (with_reducible refine (K5.out _).mono ?_))
  rintro e w4 ⟨rfl, rfl⟩
  go_wp2
  exact bodyPost_ret (Bx.sig (t := 8) (u := 9) rfl _ rfl ((hk.set 0 (.int .i64 (R : Int))).set 1 (.int .i64 (S : Int)))) rfl ⟨rfl, below2 hb0 hwg _ _⟩
end Go.Proofs.YtgfcknadjijinaaDoor
