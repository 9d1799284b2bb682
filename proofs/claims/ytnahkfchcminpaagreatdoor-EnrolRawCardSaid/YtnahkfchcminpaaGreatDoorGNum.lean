/- A block of its own whose cells are known (a struct's box). No program in sight. -/
import Derived.Test.YtnahkfchcminpaaGreatDoorBase
import Derived.Test.YtnahkfchcminpaaGreatDoorGRowsC
import Derived.Test.YtnahkfchcminpaaGreatDoorGDigestS
import Derived.Laws.BitsAllLaws
import Derived.Test.YtnahkfchcminpaaGreatDoorGDigestF
import Derived.Test.YtnahkfchcminpaaGreatDoorGDigestE
import Derived.Test.YtnahkfchcminpaaGreatDoorGNoDiv
import Derived.Test.YtnahkfchcminpaaGreatDoorGCodecP
namespace Go.Proofs.YtnahkfchcminpaaGreatDoor
open Go.RowKit
/-- block g holds these cells -/
def Bx (w : World) (g : Nat) (t : TypeId) (cs : List Value) : Prop := w.heap[g]? = some (.cells cs.toArray t (0, 0))
theorem Bx.new (w : World) (t : TypeId) (cs : List Value) : Bx (w.alloc (.cells cs.toArray t)) w.heap.size t cs := heap_alloc_new w _
theorem Bx.lt {w : World} {g : Nat} {t : TypeId} {cs : List Value} (h : Bx w g t cs) : g < w.heap.size := (Array.getElem?_eq_some_iff.1 h).1
theorem Bx.keep {w w' : World} {g : Nat} {t : TypeId} {cs : List Value} (h : Bx w g t cs) (hb : Below w.heap.size w w') : Bx w' g t cs := (hb.block g h.lt).trans h
theorem Bx.drew {w : World} {g : Nat} {t : TypeId} {cs : List Value} (h : Bx w g t cs) : Bx w.drew g t cs := h
theorem Bx.alloc {w : World} {g : Nat} {t : TypeId} {cs : List Value} (h : Bx w g t cs) (o : Obj) : Bx (w.alloc o) g t cs := h.keep ((Below.refl _ _).alloc (Nat.le_refl _) _)
theorem Bx.grown {w w' : World} {g : Nat} {t : TypeId} {cs : List Value} {row : Option Nat} (h : Bx w g t cs) (hb : w.grownBy w' row) (hne : some g ≠ row) : Bx w' g t cs := (hb.block g h.lt hne).trans h
theorem Bx.other {w : World} {g : Nat} {t : TypeId} {cs : List Value} (h : Bx w g t cs) {b : Nat} (hne : g ≠ b) (o : Nat) (v : Value) : Bx (w.setCell ⟨b, o, none⟩ v) g t cs := (heap_setCell_other w ⟨b, o, none⟩ g v hne).trans h
theorem Bx.cell {w : World} {g : Nat} {t : TypeId} {cs : List Value} (h : Bx w g t cs) (j : Nat) {v : Value} (hv : cs[j]? = some v) : w.cell? ⟨g, j, none⟩ = some v := by
  rw [Lib.cell_of_heap h]; simpa using hv
theorem Bx.free {w : World} {g : Nat} {t : TypeId} {cs : List Value} (h : Bx w g t cs) (j : Nat) : w.frozen? ⟨g, j, none⟩ = false := Lib.frozen_of_heap h j
theorem Bx.set {w : World} {g : Nat} {t : TypeId} {cs : List Value} (h : Bx w g t cs) (j : Nat) (v : Value) : Bx (w.setCell ⟨g, j, none⟩ v) g t (cs.set j v) := by
  have h' : w.heap[g]? = some (.cells cs.toArray t (0, 0)) := h
  simp [Bx, World.setCell, Array.getElem?_modify, h', Array.setIfInBounds]
  intro hj
  exact (List.set_eq_of_length_le hj).symm
end Go.Proofs.YtnahkfchcminpaaGreatDoor
/- People of a roll. -/
namespace Go.Proofs.YtnahkfchcminpaaGreatDoor
open Go.RowKit
/-- a person -/
structure Prs where
  id : Int
  key : Int
  dep : Int
deriving DecidableEq
def prC (x : Prs) : List Value := [.int .i64 x.id, .int .i64 x.key, .int .i64 x.dep]
theorem prC_len (x : Prs) : (prC x).length = 3 := rfl
theorem elPr : ElemOf Tryz.prog 28 43 (.agg #[.int .i64 0, .int .i64 0, .int .i64 0]) 3 24 := ⟨Tryz.underlying28, by kernel_rfl, rfl, by decide, by decide⟩
theorem Roll.ret {fn : Func} {t : Tmp} (h : fn.results = #[.cell t 30]) (tmps : Array Value) {w : World} {g : Nat} {v0 v1 : Value} (ht : tmps.getD t undef = .pointer (some ⟨g, 0, none⟩)) (hD : Bx w g 30 [v0, v1]) :
    (results fn tmps).run Tryz.prog w = .ok (.agg #[v0, v1]) w := by
  have c0 := hD.cell 0 (v := v0) rfl
  have c1 := hD.cell 1 (v := v1) rfl
  have ht' : tmps[t]?.getD undef = .pointer (some ⟨g, 0, none⟩) := by simpa using ht
  simp [results, h, ht', go_sem, c0, c1]
end Go.Proofs.YtnahkfchcminpaaGreatDoor
/- The first bytes as a number. -/
namespace Go.Proofs.YtnahkfchcminpaaGreatDoor
open Go.RowKit
/-- the first n bytes as a number -/
def num7 (l : List UInt8) : Nat → Nat
  | 0 => 0
  | n + 1 => num7 l n * 256 + bt l n
theorem num7_lt (l : List UInt8) (n : Nat) : num7 l n < 256 ^ n := by
  induction n with
  | zero => simp [num7]
  | succ n ih => have := bt_lt l n; rw [num7, Nat.pow_succ]; omega
theorem i64_or_nat (a b : Nat) (ha : a < 9223372036854775808) (hb : b < 9223372036854775808) (hab : a ||| b < 9223372036854775808) : bits .or .i64 (a : Int) (b : Int) = ((a ||| b : Nat) : Int) := by
  have h : IntKind.u64.wrap ((BitVec.ofInt 64 (a : Int) ||| BitVec.ofInt 64 (b : Int)).toNat : Int) = ((a ||| b : Nat) : Int) := u64_or_nat a b (by omega) (by omega)
  rw [IntKind.wrap_u64] at h
  show IntKind.i64.wrap ((BitVec.ofInt 64 (a : Int) ||| BitVec.ofInt 64 (b : Int)).toNat : Int) = _
  rw [IntKind.wrap_i64]
  have := (BitVec.ofInt 64 (a : Int) ||| BitVec.ofInt 64 (b : Int)).isLt
  omega
theorem num7_step (l : List UInt8) (n : Nat) (hn : n < 7) : bits .or .i64 ((num7 l n : Int) * 256) ((bt l n : Nat) : Int) = ((num7 l (n + 1) : Nat) : Int) := by
  have h := num7_lt l n
  have hb := bt_lt l n
  have hp : 256 ^ n ≤ 256 ^ 6 := Nat.pow_le_pow_right (by omega) (by omega)
  have ho : num7 l n * 256 ||| bt l n = num7 l n * 256 + bt l n := by
    have := Nat.two_pow_add_eq_or_of_lt (i := 8) (b := bt l n) hb (num7 l n)
    rw [Nat.mul_comm] at this
    exact this.symm
  have := i64_or_nat (num7 l n * 256) (bt l n) (by omega) (by omega) (by rw [ho]; omega)
  rw [ho] at this
  exact this
end Go.Proofs.YtnahkfchcminpaaGreatDoor
/- Two texts, one behind the other, as lists. -/
namespace Go.Proofs.YtnahkfchcminpaaGreatDoor
open Go.RowKit
@[go_sem] theorem str_app (a b : List UInt8) : (ByteArray.mk a.toArray) ++ (ByteArray.mk b.toArray) = ByteArray.mk (a ++ b).toArray := by
  apply ByteArray.ext; simp
end Go.Proofs.YtnahkfchcminpaaGreatDoor
/- Numbers of sums: the reference's. -/
namespace Go.Proofs.YtnahkfchcminpaaGreatDoor
open Go.RowKit
set_option maxRecDepth 100000 in
theorem rnumber_walk (l : List UInt8) (w : World) (hl : 7 ≤ l.length) :
    Calls Tryz.prog 70 #[.string ⟨l.toArray⟩] w fun e w' => e = .returned (.int .i64 (num7 l 7 : Int)) ∧ w = w' := by
  go_enter Tryz.func70, Tryz.ntmps70
  go_wp2
  go_loop [3, 4, 5] (fun m _ i => ∃ (k a : Nat), k ≤ 7 ∧ a = num7 l k ∧ i = .int .i64 (k : Int) ∧ m = .int .i64 (a : Int)) (fun _ _ i => 7 - (intOf i).toNat)
  case atStart => exact ⟨0, 0, by omega, rfl, rfl, rfl⟩
  case round =>
    obtain ⟨k, a, hk, ha, rfl, rfl⟩ := hrel
    have hlt := num7_lt l k
    rw [← ha] at hlt
    by_cases hkt : k < 7
    · have hp : 256 ^ k ≤ 256 ^ 6 := Nat.pow_le_pow_right (by omega) (by omega)
      have hs := num7_step l k hkt
      rw [← ha] at hs
      have hw64 : wrap64 (bt l k : Int) = (bt l k : Int) := by
        have := bt_lt l k
        unfold wrap64; omega
      have HA := Lib.hid ha
      have ha2 : a < 281474976710656 := by omega
      clear ha hlt hp
      go_wp2
      go_round
      case rel => exact ⟨k + 1, num7 l (k + 1), by omega, rfl, by go_num, rfl⟩
      case measure => simp [intOf]; omega
    · obtain rfl : k = 7 := by omega
      subst ha
      go_wp2
      go_ret
      exact ⟨rfl, rfl⟩
end Go.Proofs.YtnahkfchcminpaaGreatDoor
/- Numbers and elements of sums: the program's. -/
namespace Go.Proofs.YtnahkfchcminpaaGreatDoor
open Go.RowKit
set_option maxRecDepth 100000 in
theorem number_walk (l : List UInt8) (w : World) (hl : 7 ≤ l.length) :
    Calls Tryz.prog 93 #[.string ⟨l.toArray⟩] w fun e w' => e = .returned (.int .i64 (num7 l 7 : Int)) ∧ w = w' := by
  go_enter Tryz.func93, Tryz.ntmps93
  go_wp2
  go_loop [3, 4, 5] (fun m _ i => ∃ (k a : Nat), k ≤ 7 ∧ a = num7 l k ∧ i = .int .i64 (k : Int) ∧ m = .int .i64 (a : Int)) (fun _ _ i => 7 - (intOf i).toNat)
  case atStart => exact ⟨0, 0, by omega, rfl, rfl, rfl⟩
  case round =>
    obtain ⟨k, a, hk, ha, rfl, rfl⟩ := hrel
    have hlt := num7_lt l k
    rw [← ha] at hlt
    by_cases hkt : k < 7
    · have hp : 256 ^ k ≤ 256 ^ 6 := Nat.pow_le_pow_right (by omega) (by omega)
      have hs := num7_step l k hkt
      rw [← ha] at hs
      have hw64 : wrap64 (bt l k : Int) = (bt l k : Int) := by
        have := bt_lt l k
        unfold wrap64; omega
      have HA := Lib.hid ha
      have ha2 : a < 281474976710656 := by omega
      clear ha hlt hp
      go_wp2
      go_round
      case rel => exact ⟨k + 1, num7 l (k + 1), by omega, rfl, by go_num, rfl⟩
      case measure => simp [intOf]; omega
    · obtain rfl : k = 7 := by omega
      subst ha
      go_wp2
      go_ret
      exact ⟨rfl, rfl⟩
/-- an element of a string -/
def elem (p : Int) (s : List UInt8) : Int := (num7 (sha s) 7 : Int) % (p - 1) + 1
set_option maxRecDepth 100000 in
theorem element_walk (p : Int) (s : List UInt8) (w : World) (hp : 2 ≤ p) (hp2 : p < 4294967296) (hs : s.length ≤ 140737488000000) :
    Calls Tryz.prog 74 #[.int .i64 p, .string ⟨s.toArray⟩] w fun e w' => e = .returned (.int .i64 (elem p s)) ∧ Below w.heap.size w w' := by
  have hsl := sha_length s
  have h7 := num7_lt (sha s) 7
  go_enter Tryz.func74, Tryz.ntmps74
  go_wp2_with (go_at_call 94; (with_reducible refine (sum_walk _ _ hs).mono ?_))
  rintro e w1 ⟨rfl, hb1⟩
  obtain ⟨q, hq⟩ : ∃ q, q = p - 1 := ⟨_, rfl⟩
  have hq1 : 1 ≤ q := by omega
  have hq2 : q < 4294967296 := by omega
  obtain rfl : p = q + 1 := by omega
  clear hq
  go_wp2_with (go_at_call 93; (with_reducible refine (number_walk _ _ (by omega)).mono ?_))
  rintro e w2 ⟨rfl, rfl⟩
  have he : elem (q + 1) s = (num7 (sha s) 7 : Int) % q + 1 := by rw [elem, show q + 1 - 1 = q by omega]
  generalize num7 (sha s) 7 = m at *
  have hm1 := Int.emod_nonneg (m : Int) (show q ≠ 0 by omega)
  have hm2 := Int.emod_lt_of_pos (m : Int) (show 0 < q by omega)
  have HE := Lib.hid he
  have hmx : max q 1 = q := by omega
  clear he
  go_wp2
  go_ret
  exact ⟨ret_int HE.out.symm, hb1⟩
end Go.Proofs.YtnahkfchcminpaaGreatDoor
/- Numbers and elements of sums: the reference's. -/
namespace Go.Proofs.YtnahkfchcminpaaGreatDoor
open Go.RowKit
set_option maxRecDepth 100000 in
theorem relement_walk (p : Int) (s : List UInt8) (w : World) (hp : 2 ≤ p) (hp2 : p < 4294967296) (hs : s.length ≤ 140737488000000) :
    Calls Tryz.prog 53 #[.int .i64 p, .string ⟨s.toArray⟩] w fun e w' => e = .returned (.int .i64 (elem p s)) ∧ Below w.heap.size w w' := by
  have hsl := sha_length s
  have h7 := num7_lt (sha s) 7
  go_enter Tryz.func53, Tryz.ntmps53
  go_wp2_with (go_at_call 71; (with_reducible refine (rsum_walk _ _ hs).mono ?_))
  rintro e w1 ⟨rfl, hb1⟩
  obtain ⟨q, hq⟩ : ∃ q, q = p - 1 := ⟨_, rfl⟩
  have hq1 : 1 ≤ q := by omega
  have hq2 : q < 4294967296 := by omega
  obtain rfl : p = q + 1 := by omega
  clear hq
  go_wp2_with (go_at_call 70; (with_reducible refine (rnumber_walk _ _ (by omega)).mono ?_))
  rintro e w2 ⟨rfl, rfl⟩
  have he : elem (q + 1) s = (num7 (sha s) 7 : Int) % q + 1 := by rw [elem, show q + 1 - 1 = q by omega]
  generalize num7 (sha s) 7 = m at *
  have hm1 := Int.emod_nonneg (m : Int) (show q ≠ 0 by omega)
  have hm2 := Int.emod_lt_of_pos (m : Int) (show 0 < q by omega)
  have HE := Lib.hid he
  have hmx : max q 1 = q := by omega
  clear he
  go_wp2
  go_ret
  exact ⟨ret_int HE.out.symm, hb1⟩
end Go.Proofs.YtnahkfchcminpaaGreatDoor
/- Signatures: the challenge, how one is made, and when it is right. -/
namespace Go.Proofs.YtnahkfchcminpaaGreatDoor
open Go.RowKit
/-- the challenge of a signature -/
def chalF (p : Nat) (r pub : Int) (text : List UInt8) : Nat := (elem (p : Int) (putInt r ++ putInt pub ++ text)).toNat
theorem chalF_eq {p : Nat} (hp : 3 ≤ p) (r pub : Int) (text : List UInt8) : elem (p : Int) (putInt r ++ putInt pub ++ text) = (chalF p r pub text : Int) ∧ chalF p r pub text < p := by
  unfold chalF elem
  have h1 := Int.emod_nonneg ((num7 (sha (putInt r ++ putInt pub ++ text)) 7 : Nat) : Int) (show (p : Int) - 1 ≠ 0 by omega)
  have h2 := Int.emod_lt_of_pos ((num7 (sha (putInt r ++ putInt pub ++ text)) 7 : Nat) : Int) (show (0 : Int) < (p : Int) - 1 by omega)
  generalize ((num7 (sha (putInt r ++ putInt pub ++ text)) 7 : Nat) : Int) % ((p : Int) - 1) = z at *
  omega
set_option maxRecDepth 100000 in
theorem hchal_walk (p : Nat) (r pub : Int) (text : List UInt8) (w : World) (hp : 3 ≤ p) (hp2 : p ≤ 1073741824) (hr : I64 r) (hu : I64 pub) (ht : text.length ≤ 1000000) :
    Calls Tryz.prog 60 #[.int .i64 (p : Int), .int .i64 r, .int .i64 pub, .string ⟨text.toArray⟩] w fun e w' => e = .returned (.int .i64 (chalF p r pub text : Int)) ∧ Below w.heap.size w w' := by
  have l1 := putInt_ten hr
  have l2 := putInt_ten hu
  have k1 : ∀ V, Calls Tryz.prog 26 #[.string ⟨#[]⟩, .int .i64 r] V fun e w' => e = .returned (.string ⟨(putInt r).toArray⟩) ∧ Below V.heap.size V w' := fun V => putInt_nil r V hr
  have k2 : ∀ V, Calls Tryz.prog 26 #[.string ⟨(putInt r).toArray⟩, .int .i64 pub] V fun e w' => e = .returned (.string ⟨(putInt r ++ putInt pub).toArray⟩) ∧ Below V.heap.size V w' := fun V => putInt_any _ pub V hu (by omega)
  have k3 : ∀ V, Calls Tryz.prog 74 #[.int .i64 (p : Int), .string ⟨(putInt r ++ putInt pub ++ text).toArray⟩] V fun e w' => e = .returned (.int .i64 (chalF p r pub text : Int)) ∧ Below V.heap.size V w' := fun V => by
    rw [← (chalF_eq hp r pub text).1]
    exact element_walk p _ V (by omega) (by omega) (by rw [List.length_append, List.length_append]; omega)
  have hl : (putInt r ++ putInt pub).length ≤ 20 := by rw [List.length_append]; omega
  generalize chalF p r pub text = c at *
  generalize putInt r ++ putInt pub = s2 at *
  generalize putInt r = s1 at *
  have K1 := Lib.hid k1
  have K2 := Lib.hid k2
  have K3 := Lib.hid k3
  have hlim : ¬ (9223372036854775807 < s2.length + text.length) := by omega
  clear k1 k2 k3 l1 l2 hl ht
  go_enter Tryz.func60, Tryz.ntmps60
  go_wp2_with (first
    | (go_at_call 26; ((with_reducible refine (K1.out _).mono ?_)); rintro e w1 ⟨rfl, hb1⟩)
    | (go_at_call 26; ((with_reducible refine (K2.out _).mono ?_)); rintro e w2 ⟨rfl, hb2⟩)
    | (go_at_call 74; ((with_reducible refine (K3.out _).mono ?_)); rintro e w3 ⟨rfl, hb3⟩))
  go_ret
  exact ⟨rfl, below_tr (below_tr hb1 hb2) hb3⟩
abbrev sigT : TypeId := 34
abbrev sg (r s : Nat) : Value := .agg #[.int .i64 (r : Int), .int .i64 (s : Int)]
theorem Bx.sig {fn : Func} {t u : Tmp} (h : fn.results = #[.cell t 34, .tmp u]) (tmps : Array Value) {w : World} {g : Nat} {x y : Int} (ht : tmps.getD t undef = .pointer (some ⟨g, 0, none⟩)) (hD : Bx w g 34 [.int .i64 x, .int .i64 y]) :
    (results fn tmps).run Tryz.prog w = .ok (.tuple #[.agg #[.int .i64 x, .int .i64 y], tmps.getD u undef]) w := by
  have c0 := hD.cell 0 rfl
  have c1 := hD.cell 1 rfl
  have ht' : tmps[t]?.getD undef = .pointer (some ⟨g, 0, none⟩) := by simpa using ht
  simp [results, h, ht', go_sem, c0, c1]
theorem below2 {B g : Nat} {w w1 : World} (h : Below B w w1) (hg : B ≤ g) (x y : Value) : Below B w ((w1.setCell ⟨g, 0, none⟩ x).setCell ⟨g, 1, none⟩ y) :=
  (h.setCell (p := ⟨g, 0, none⟩) hg x).setCell (p := ⟨g, 1, none⟩) hg y
/-- the two numbers of a signature -/
def signR (p nonce : Nat) : Nat := gpw p 4 (nonce : Int)
def signS (p key nonce : Nat) (text : List UInt8) : Nat := (nonce + key * chalF p (signR p nonce : Int) (gpw p 4 (key : Int) : Int) text % p) % p
end Go.Proofs.YtnahkfchcminpaaGreatDoor
/- Members of the group of a safe prime, as the program finds them. -/
namespace Go.Proofs.YtnahkfchcminpaaGreatDoor
open Go.RowKit
set_option maxRecDepth 100000 in
theorem hMember_walk (p : Nat) (x : Int) (w : World) (hB : Bases w) (hs : safeP (p : Int) = true) :
    Calls Tryz.prog 54 #[.int .i64 (p : Int), .int .i64 x] w fun e w' => e = .returned (.bool (memZ p x)) ∧ Below w.heap.size w w' := by
  obtain ⟨h3, h30, -⟩ := safeP_bd hs
  have KO := Lib.hid (fun V h => hof_yes p V h hs)
  have KH := Lib.hid (fun V => hhas_walk p x V (by omega) (by omega))
  generalize memZ p x = z at *
  clear hs h3 h30
  go_enter Tryz.func54, Tryz.ntmps54
  go_wp2_with (go_at_call 56; (with_reducible refine (KO.out _ hB).mono ?_))
  rintro e w1 ⟨rfl, hb1⟩
  have hb2 := hb1.trans (((Below.refl w1.heap.size w1).alloc (Nat.le_refl _) (.cells #[.int .i64 (p : Int), .int .i64 ((2 * p + 1 : Nat) : Int)] 82)).mono hb1.size)
  have hX := Bx.new w1 82 [.int .i64 (p : Int), .int .i64 ((2 * p + 1 : Nat) : Int)]
  rw [grp] at *
  generalize ((2 * p + 1 : Nat) : Int) = m at *
  go_upto_region 2 with (fail)
  change Bx (w1.alloc (.cells #[.int .i64 (p : Int), .int .i64 m] 82)) _ _ _ at hX
  generalize w1.alloc (.cells #[.int .i64 (p : Int), .int .i64 m] 82) = w2 at *
  generalize w1.heap.size = g at *
  have x0 := hX.cell 0 (v := .int .i64 (p : Int)) rfl
  have x1 := hX.cell 1 (v := .int .i64 m) rfl
  clear hX hb1
  go_wp2_with (go_at_call 57; (with_reducible refine (KH.out _).mono ?_))
  rintro e w3 ⟨rfl, hb3⟩
  have HB := Lib.hid (below_tr hb2 hb3)
  clear hb2 hb3 x0 x1
  go_wp2
  go_ret
  exact ⟨rfl, HB.out⟩
end Go.Proofs.YtnahkfchcminpaaGreatDoor
