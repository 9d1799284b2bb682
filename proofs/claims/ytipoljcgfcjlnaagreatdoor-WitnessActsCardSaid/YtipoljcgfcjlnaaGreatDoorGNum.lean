/- Two texts, one behind the other, as lists. -/
import Derived.Test.YtipoljcgfcjlnaaGreatDoorBase
import Derived.Test.YtipoljcgfcjlnaaGreatDoorGDigestS
import Derived.Laws.BitsAllLaws
import Derived.Test.YtipoljcgfcjlnaaGreatDoorGDigestF
import Derived.Test.YtipoljcgfcjlnaaGreatDoorGDigestE
import Derived.Test.YtipoljcgfcjlnaaGreatDoorGNoDiv
import Derived.Test.YtipoljcgfcjlnaaGreatDoorGCodecP
namespace Go.Proofs.YtipoljcgfcjlnaaGreatDoor
open Go.RowKit
@[go_sem] theorem str_app (a b : List UInt8) : (ByteArray.mk a.toArray) ++ (ByteArray.mk b.toArray) = ByteArray.mk (a ++ b).toArray := by
  apply ByteArray.ext; simp
end Go.Proofs.YtipoljcgfcjlnaaGreatDoor
/- The first bytes as a number. -/
namespace Go.Proofs.YtipoljcgfcjlnaaGreatDoor
open Go.RowKit
/-- the first n bytes as a number -/
def num7 (l : List UInt8) : Nat → Nat
  | 0 => 0
  | n + 1 => num7 l n * 256 + bt l n
theorem num7_lt (l : List UInt8) (n : Nat) : num7 l n < 256 ^ n := by
  induction n with
  | zero => simp [num7]
  | succ n ih => have := bt_lt l n; rw [num7, Nat.pow_succ]; omega
theorem i64_or_nat (a b : Nat) (ha : a < 9223372036854775808) (hb : b < 9223372036854775808) (hab : a ||| b < 9223372036854775808) : bits .or .i64 (a : Int) (b : Int) = ((a ||| b : Nat) : Int) := by
  have h : IntKind.u64.wrap ((BitVec.ofInt 64 (a : Int) ||| BitVec.ofInt 64 (b : Int)).toNat : Int) = ((a ||| b : Nat) : Int) := u64_or_nat a b (by omega) (by omega)
  rw [IntKind.wrap_u64] at h
  show IntKind.i64.wrap ((BitVec.ofInt 64 (a : Int) ||| BitVec.ofInt 64 (b : Int)).toNat : Int) = _
  rw [IntKind.wrap_i64]
  have := (BitVec.ofInt 64 (a : Int) ||| BitVec.ofInt 64 (b : Int)).isLt
  omega
theorem num7_step (l : List UInt8) (n : Nat) (hn : n < 7) : bits .or .i64 ((num7 l n : Int) * 256) ((bt l n : Nat) : Int) = ((num7 l (n + 1) : Nat) : Int) := by
  have h := num7_lt l n
  have hb := bt_lt l n
  have hp : 256 ^ n ≤ 256 ^ 6 := Nat.pow_le_pow_right (by omega) (by omega)
  have ho : num7 l n * 256 ||| bt l n = num7 l n * 256 + bt l n := by
    have := Nat.two_pow_add_eq_or_of_lt (i := 8) (b := bt l n) hb (num7 l n)
    rw [Nat.mul_comm] at this
    exact this.symm
  have := i64_or_nat (num7 l n * 256) (bt l n) (by omega) (by omega) (by rw [ho]; omega)
  rw [ho] at this
  exact this
end Go.Proofs.YtipoljcgfcjlnaaGreatDoor
/- Numbers of sums: the reference's. -/
namespace Go.Proofs.YtipoljcgfcjlnaaGreatDoor
open Go.RowKit
set_option maxRecDepth 100000 in
theorem rnumber_walk (l : List UInt8) (w : World) (hl : 7 ≤ l.length) :
    Calls Tryz.prog 93 #[.string ⟨l.toArray⟩] w fun e w' => e = .returned (.int .i64 (num7 l 7 : Int)) ∧ w = w' := by
  go_enter Tryz.func93, Tryz.ntmps93
  go_wp2
  go_loop [3, 4, 5] (fun m _ i => ∃ (k a : Nat), k ≤ 7 ∧ a = num7 l k ∧ i = .int .i64 (k : Int) ∧ m = .int .i64 (a : Int)) (fun _ _ i => 7 - (intOf i).toNat)
  case atStart => exact ⟨0, 0, by omega, rfl, rfl, rfl⟩
  case round =>
    obtain ⟨k, a, hk, ha, rfl, rfl⟩ := hrel
    have hlt := num7_lt l k
    rw [← ha] at hlt
    by_cases hkt : k < 7
    · have hp : 256 ^ k ≤ 256 ^ 6 := Nat.pow_le_pow_right (by omega) (by omega)
      have hs := num7_step l k hkt
      rw [← ha] at hs
      have hw64 : wrap64 (bt l k : Int) = (bt l k : Int) := by
        have := bt_lt l k
        unfold wrap64; omega
      have HA := Lib.hid ha
      have ha2 : a < 281474976710656 := by omega
      clear ha hlt hp
      go_wp2
      go_round
      case rel => exact ⟨k + 1, num7 l (k + 1), by omega, rfl, by go_num, rfl⟩
      case measure => simp [intOf]; omega
    · obtain rfl : k = 7 := by omega
      subst ha
      go_wp2
      go_ret
      exact ⟨rfl, rfl⟩
end Go.Proofs.YtipoljcgfcjlnaaGreatDoor
/- Numbers and elements of sums: the program's. -/
namespace Go.Proofs.YtipoljcgfcjlnaaGreatDoor
open Go.RowKit
set_option maxRecDepth 100000 in
theorem number_walk (l : List UInt8) (w : World) (hl : 7 ≤ l.length) :
    Calls Tryz.prog 91 #[.string ⟨l.toArray⟩] w fun e w' => e = .returned (.int .i64 (num7 l 7 : Int)) ∧ w = w' := by
  go_enter Tryz.func91, Tryz.ntmps91
  go_wp2
  go_loop [3, 4, 5] (fun m _ i => ∃ (k a : Nat), k ≤ 7 ∧ a = num7 l k ∧ i = .int .i64 (k : Int) ∧ m = .int .i64 (a : Int)) (fun _ _ i => 7 - (intOf i).toNat)
  case atStart => exact ⟨0, 0, by omega, rfl, rfl, rfl⟩
  case round =>
    obtain ⟨k, a, hk, ha, rfl, rfl⟩ := hrel
    have hlt := num7_lt l k
    rw [← ha] at hlt
    by_cases hkt : k < 7
    · have hp : 256 ^ k ≤ 256 ^ 6 := Nat.pow_le_pow_right (by omega) (by omega)
      have hs := num7_step l k hkt
      rw [← ha] at hs
      have hw64 : wrap64 (bt l k : Int) = (bt l k : Int) := by
        have := bt_lt l k
        unfold wrap64; omega
      have HA := Lib.hid ha
      have ha2 : a < 281474976710656 := by omega
      clear ha hlt hp
      go_wp2
      go_round
      case rel => exact ⟨k + 1, num7 l (k + 1), by omega, rfl, by go_num, rfl⟩
      case measure => simp [intOf]; omega
    · obtain rfl : k = 7 := by omega
      subst ha
      go_wp2
      go_ret
      exact ⟨rfl, rfl⟩
/-- an element of a string -/
def elem (p : Int) (s : List UInt8) : Int := (num7 (sha s) 7 : Int) % (p - 1) + 1
set_option maxRecDepth 100000 in
theorem element_walk (p : Int) (s : List UInt8) (w : World) (hp : 2 ≤ p) (hp2 : p < 4294967296) (hs : s.length ≤ 140737488000000) :
    Calls Tryz.prog 75 #[.int .i64 p, .string ⟨s.toArray⟩] w fun e w' => e = .returned (.int .i64 (elem p s)) ∧ Below w.heap.size w w' := by
  have hsl := sha_length s
  have h7 := num7_lt (sha s) 7
  go_enter Tryz.func75, Tryz.ntmps75
  go_wp2_with (go_at_call 92; (with_reducible refine (sum_walk _ _ hs).mono ?_))
  rintro e w1 ⟨rfl, hb1⟩
  obtain ⟨q, hq⟩ : ∃ q, q = p - 1 := ⟨_, rfl⟩
  have hq1 : 1 ≤ q := by omega
  have hq2 : q < 4294967296 := by omega
  obtain rfl : p = q + 1 := by omega
  clear hq
  go_wp2_with (go_at_call 91; (with_reducible refine (number_walk _ _ (by omega)).mono ?_))
  rintro e w2 ⟨rfl, rfl⟩
  have he : elem (q + 1) s = (num7 (sha s) 7 : Int) % q + 1 := by rw [elem, show q + 1 - 1 = q by omega]
  generalize num7 (sha s) 7 = m at *
  have hm1 := Int.emod_nonneg (m : Int) (show q ≠ 0 by omega)
  have hm2 := Int.emod_lt_of_pos (m : Int) (show 0 < q by omega)
  have HE := Lib.hid he
  have hmx : max q 1 = q := by omega
  clear he
  go_wp2
  go_ret
  exact ⟨ret_int HE.out.symm, hb1⟩
end Go.Proofs.YtipoljcgfcjlnaaGreatDoor
/- Numbers and elements of sums: the reference's. -/
namespace Go.Proofs.YtipoljcgfcjlnaaGreatDoor
open Go.RowKit
set_option maxRecDepth 100000 in
theorem relement_walk (p : Int) (s : List UInt8) (w : World) (hp : 2 ≤ p) (hp2 : p < 4294967296) (hs : s.length ≤ 140737488000000) :
    Calls Tryz.prog 78 #[.int .i64 p, .string ⟨s.toArray⟩] w fun e w' => e = .returned (.int .i64 (elem p s)) ∧ Below w.heap.size w w' := by
  have hsl := sha_length s
  have h7 := num7_lt (sha s) 7
  go_enter Tryz.func78, Tryz.ntmps78
  go_wp2_with (go_at_call 24; (with_reducible refine (rsum_walk _ _ hs).mono ?_))
  rintro e w1 ⟨rfl, hb1⟩
  obtain ⟨q, hq⟩ : ∃ q, q = p - 1 := ⟨_, rfl⟩
  have hq1 : 1 ≤ q := by omega
  have hq2 : q < 4294967296 := by omega
  obtain rfl : p = q + 1 := by omega
  clear hq
  go_wp2_with (go_at_call 93; (with_reducible refine (rnumber_walk _ _ (by omega)).mono ?_))
  rintro e w2 ⟨rfl, rfl⟩
  have he : elem (q + 1) s = (num7 (sha s) 7 : Int) % q + 1 := by rw [elem, show q + 1 - 1 = q by omega]
  generalize num7 (sha s) 7 = m at *
  have hm1 := Int.emod_nonneg (m : Int) (show q ≠ 0 by omega)
  have hm2 := Int.emod_lt_of_pos (m : Int) (show 0 < q by omega)
  have HE := Lib.hid he
  have hmx : max q 1 = q := by omega
  clear he
  go_wp2
  go_ret
  exact ⟨ret_int HE.out.symm, hb1⟩
end Go.Proofs.YtipoljcgfcjlnaaGreatDoor
/- A block of its own whose cells are known (a struct's box). No program in sight. -/
namespace Go.Proofs.YtipoljcgfcjlnaaGreatDoor
open Go.RowKit
/-- block g holds these cells -/
def Bx (w : World) (g : Nat) (t : TypeId) (cs : List Value) : Prop := w.heap[g]? = some (.cells cs.toArray t (0, 0))
theorem Bx.new (w : World) (t : TypeId) (cs : List Value) : Bx (w.alloc (.cells cs.toArray t)) w.heap.size t cs := heap_alloc_new w _
theorem Bx.lt {w : World} {g : Nat} {t : TypeId} {cs : List Value} (h : Bx w g t cs) : g < w.heap.size := (Array.getElem?_eq_some_iff.1 h).1
theorem Bx.keep {w w' : World} {g : Nat} {t : TypeId} {cs : List Value} (h : Bx w g t cs) (hb : Below w.heap.size w w') : Bx w' g t cs := (hb.block g h.lt).trans h
theorem Bx.drew {w : World} {g : Nat} {t : TypeId} {cs : List Value} (h : Bx w g t cs) : Bx w.drew g t cs := h
theorem Bx.alloc {w : World} {g : Nat} {t : TypeId} {cs : List Value} (h : Bx w g t cs) (o : Obj) : Bx (w.alloc o) g t cs := h.keep ((Below.refl _ _).alloc (Nat.le_refl _) _)
theorem Bx.grown {w w' : World} {g : Nat} {t : TypeId} {cs : List Value} {row : Option Nat} (h : Bx w g t cs) (hb : w.grownBy w' row) (hne : some g ≠ row) : Bx w' g t cs := (hb.block g h.lt hne).trans h
theorem Bx.other {w : World} {g : Nat} {t : TypeId} {cs : List Value} (h : Bx w g t cs) {b : Nat} (hne : g ≠ b) (o : Nat) (v : Value) : Bx (w.setCell ⟨b, o, none⟩ v) g t cs := (heap_setCell_other w ⟨b, o, none⟩ g v hne).trans h
theorem Bx.cell {w : World} {g : Nat} {t : TypeId} {cs : List Value} (h : Bx w g t cs) (j : Nat) {v : Value} (hv : cs[j]? = some v) : w.cell? ⟨g, j, none⟩ = some v := by
  rw [Lib.cell_of_heap h]; simpa using hv
theorem Bx.free {w : World} {g : Nat} {t : TypeId} {cs : List Value} (h : Bx w g t cs) (j : Nat) : w.frozen? ⟨g, j, none⟩ = false := Lib.frozen_of_heap h j
theorem Bx.set {w : World} {g : Nat} {t : TypeId} {cs : List Value} (h : Bx w g t cs) (j : Nat) (v : Value) : Bx (w.setCell ⟨g, j, none⟩ v) g t (cs.set j v) := by
  have h' : w.heap[g]? = some (.cells cs.toArray t (0, 0)) := h
  simp [Bx, World.setCell, Array.getElem?_modify, h', Array.setIfInBounds]
  intro hj
  exact (List.set_eq_of_length_le hj).symm
end Go.Proofs.YtipoljcgfcjlnaaGreatDoor
/- Signatures: the challenge, how one is made, and when it is right. -/
namespace Go.Proofs.YtipoljcgfcjlnaaGreatDoor
open Go.RowKit
/-- the challenge of a signature -/
def chalF (p : Nat) (r pub : Int) (text : List UInt8) : Nat := (elem (p : Int) (putInt r ++ putInt pub ++ text)).toNat
theorem chalF_eq {p : Nat} (hp : 3 ≤ p) (r pub : Int) (text : List UInt8) : elem (p : Int) (putInt r ++ putInt pub ++ text) = (chalF p r pub text : Int) ∧ chalF p r pub text < p := by
  unfold chalF elem
  have h1 := Int.emod_nonneg ((num7 (sha (putInt r ++ putInt pub ++ text)) 7 : Nat) : Int) (show (p : Int) - 1 ≠ 0 by omega)
  have h2 := Int.emod_lt_of_pos ((num7 (sha (putInt r ++ putInt pub ++ text)) 7 : Nat) : Int) (show (0 : Int) < (p : Int) - 1 by omega)
  generalize ((num7 (sha (putInt r ++ putInt pub ++ text)) 7 : Nat) : Int) % ((p : Int) - 1) = z at *
  omega
set_option maxRecDepth 100000 in
theorem hchal_walk (p : Nat) (r pub : Int) (text : List UInt8) (w : World) (hp : 3 ≤ p) (hp2 : p ≤ 1073741824) (hr : I64 r) (hu : I64 pub) (ht : text.length ≤ 1000000) :
    Calls Tryz.prog 51 #[.int .i64 (p : Int), .int .i64 r, .int .i64 pub, .string ⟨text.toArray⟩] w fun e w' => e = .returned (.int .i64 (chalF p r pub text : Int)) ∧ Below w.heap.size w w' := by
  have l1 := putInt_ten hr
  have l2 := putInt_ten hu
  have k1 : ∀ V, Calls Tryz.prog 37 #[.string ⟨#[]⟩, .int .i64 r] V fun e w' => e = .returned (.string ⟨(putInt r).toArray⟩) ∧ Below V.heap.size V w' := fun V => putInt_nil r V hr
  have k2 : ∀ V, Calls Tryz.prog 37 #[.string ⟨(putInt r).toArray⟩, .int .i64 pub] V fun e w' => e = .returned (.string ⟨(putInt r ++ putInt pub).toArray⟩) ∧ Below V.heap.size V w' := fun V => putInt_any _ pub V hu (by omega)
  have k3 : ∀ V, Calls Tryz.prog 75 #[.int .i64 (p : Int), .string ⟨(putInt r ++ putInt pub ++ text).toArray⟩] V fun e w' => e = .returned (.int .i64 (chalF p r pub text : Int)) ∧ Below V.heap.size V w' := fun V => by
    rw [← (chalF_eq hp r pub text).1]
    exact element_walk p _ V (by omega) (by omega) (by rw [List.length_append, List.length_append]; omega)
  have hl : (putInt r ++ putInt pub).length ≤ 20 := by rw [List.length_append]; omega
  generalize chalF p r pub text = c at *
  generalize putInt r ++ putInt pub = s2 at *
  generalize putInt r = s1 at *
  have K1 := Lib.hid k1
  have K2 := Lib.hid k2
  have K3 := Lib.hid k3
  have hlim : ¬ (9223372036854775807 < s2.length + text.length) := by omega
  clear k1 k2 k3 l1 l2 hl ht
  go_enter Tryz.func51, Tryz.ntmps51
  go_wp2_with (first
    | (go_at_call 37; ((with_reducible refine (K1.out _).mono ?_)); rintro e w1 ⟨rfl, hb1⟩)
    | (go_at_call 37; ((with_reducible refine (K2.out _).mono ?_)); rintro e w2 ⟨rfl, hb2⟩)
    | (go_at_call 75; ((with_reducible refine (K3.out _).mono ?_)); rintro e w3 ⟨rfl, hb3⟩))
  go_ret
  exact ⟨rfl, below_tr (below_tr hb1 hb2) hb3⟩
abbrev sigT : TypeId := 26
abbrev sg (r s : Nat) : Value := .agg #[.int .i64 (r : Int), .int .i64 (s : Int)]
theorem Bx.sig {fn : Func} {t u : Tmp} (h : fn.results = #[.cell t 26, .tmp u]) (tmps : Array Value) {w : World} {g : Nat} {x y : Int} (ht : tmps.getD t undef = .pointer (some ⟨g, 0, none⟩)) (hD : Bx w g 26 [.int .i64 x, .int .i64 y]) :
    (results fn tmps).run Tryz.prog w = .ok (.tuple #[.agg #[.int .i64 x, .int .i64 y], tmps.getD u undef]) w := by
  have c0 := hD.cell 0 rfl
  have c1 := hD.cell 1 rfl
  have ht' : tmps[t]?.getD undef = .pointer (some ⟨g, 0, none⟩) := by simpa using ht
  simp [results, h, ht', go_sem, c0, c1]
theorem below2 {B g : Nat} {w w1 : World} (h : Below B w w1) (hg : B ≤ g) (x y : Value) : Below B w ((w1.setCell ⟨g, 0, none⟩ x).setCell ⟨g, 1, none⟩ y) :=
  (h.setCell (p := ⟨g, 0, none⟩) hg x).setCell (p := ⟨g, 1, none⟩) hg y
/-- the two numbers of a signature -/
def signR (p nonce : Nat) : Nat := gpw p 4 (nonce : Int)
def signS (p key nonce : Nat) (text : List UInt8) : Nat := (nonce + key * chalF p (signR p nonce : Int) (gpw p 4 (key : Int) : Int) text % p) % p
end Go.Proofs.YtipoljcgfcjlnaaGreatDoor
/- Four bytes, pairs, lists, numbers of sums: the program's and the reference's. -/
namespace Go.Proofs.YtipoljcgfcjlnaaGreatDoor
open Go.RowKit
def pairL (a b : List UInt8) : List UInt8 := sha ([1] ++ wbytes a.length ++ a ++ wbytes b.length ++ b)
/-- what stands of the first n strings -/
def listB (l : List (List UInt8)) (n : Nat) : List UInt8 := (l.take n).flatMap fun s => wbytes s.length ++ s
def listL (l : List (List UInt8)) : List UInt8 := sha ([2] ++ wbytes l.length ++ listB l l.length)
theorem wbytes_length (x : Int) : (wbytes x).length = 4 := rfl
theorem new_u8s {w : World} {t : TypeId} (Q : World → Prop) (xs : List UInt8) (h : ∀ w', Below w.heap.size w w' → Rd w' (some ⟨w.heap.size, 0, none⟩) (u8s xs) → Q w') : Q (w.alloc (.cells (u8s xs).toArray t)) :=
  h _ ((Below.refl _ _).alloc (Nat.le_refl _) _) (Rd.mk fun j u hj => by rw [Nat.zero_add, World.cell?_alloc_at _ _ _ _ rfl]; simpa using hj)
set_option maxRecDepth 100000 in
theorem four_walk (n : Int) (w : World) (hn : I64 n) :
    Calls Tryz.prog 94 #[.int .i64 n] w fun e w' => e = .returned (.string ⟨(wbytes n).toArray⟩) ∧ Below w.heap.size w w' := by
  have hn1 := hn.1
  have hn2 := hn.2
  have hw : Rd (w.alloc (.cells #[.int .u8 (n / 16777216 % 256), .int .u8 (n / 65536 % 256), .int .u8 (n / 256 % 256), .int .u8 (n % 256)] 5)) (some ⟨w.heap.size, 0, none⟩) (u8s (wbytes n)) := by
    rw [u8s_wbytes]
    exact Rd.mk fun j u hj => by rw [Nat.zero_add, World.cell?_alloc_at _ _ _ _ rfl]; simpa using hj
  have hb := (Below.refl w.heap.size w).alloc (Nat.le_refl _) (.cells #[.int .u8 (n / 16777216 % 256), .int .u8 (n / 65536 % 256), .int .u8 (n / 256 % 256), .int .u8 (n % 256)] 5)
  have hcv := run_bytes_str (P := Tryz.prog) _ 72 9 5 Tryz.underlying72 Tryz.underlying5 Tryz.underlying9 (n := 4) (c := 4) rfl hw
  go_enter Tryz.func94, Tryz.ntmps94
  clear hw hn1 hn2
  go_wp2
  go_ret
  exact ⟨rfl, hb⟩
set_option maxRecDepth 100000 in
theorem rfour_walk (n : Int) (w : World) (hn : I64 n) :
    Calls Tryz.prog 88 #[.int .i64 n] w fun e w' => e = .returned (.string ⟨(wbytes n).toArray⟩) ∧ Below w.heap.size w w' := by
  have hn1 := hn.1
  have hn2 := hn.2
  have hw : Rd (w.alloc (.cells #[.int .u8 (n / 16777216 % 256), .int .u8 (n / 65536 % 256), .int .u8 (n / 256 % 256), .int .u8 (n % 256)] 5)) (some ⟨w.heap.size, 0, none⟩) (u8s (wbytes n)) := by
    rw [u8s_wbytes]
    exact Rd.mk fun j u hj => by rw [Nat.zero_add, World.cell?_alloc_at _ _ _ _ rfl]; simpa using hj
  have hb := (Below.refl w.heap.size w).alloc (Nat.le_refl _) (.cells #[.int .u8 (n / 16777216 % 256), .int .u8 (n / 65536 % 256), .int .u8 (n / 256 % 256), .int .u8 (n % 256)] 5)
  have hcv := run_bytes_str (P := Tryz.prog) _ 72 9 5 Tryz.underlying72 Tryz.underlying5 Tryz.underlying9 (n := 4) (c := 4) rfl hw
  go_enter Tryz.func88, Tryz.ntmps88
  clear hw hn1 hn2
  go_wp2
  go_ret
  exact ⟨rfl, hb⟩
set_option maxRecDepth 100000 in
theorem pair_walk (a b : List UInt8) (w : World) (h : a.length + b.length ≤ 140737487000000) :
    Calls Tryz.prog 87 #[.string ⟨a.toArray⟩, .string ⟨b.toArray⟩] w fun e w' => e = .returned (.string ⟨(pairL a b).toArray⟩) ∧ Below w.heap.size w w' := by
  have hwa := wbytes_length (a.length : Int)
  have hwb := wbytes_length (b.length : Int)
  go_enter Tryz.func87, Tryz.ntmps87
  go_wp2_with (go_at_call 94; (with_reducible refine (four_walk _ _ (I64.nat (by omega))).mono ?_))
  rintro e w1 ⟨rfl, hb1⟩
  go_wp2_with (go_at_call 94; (with_reducible refine (four_walk _ _ (I64.nat (by omega))).mono ?_))
  rintro e w2 ⟨rfl, hb2⟩
  go_wp2_with (go_at_call 92; (with_reducible refine (sum_walk _ _ ?hl).mono ?_))
  case hl => simp [wbytes_length]; omega
  rintro e w3 ⟨rfl, hb3⟩
  go_wp2
  go_ret
  refine ⟨ret_str ?_, ?_⟩
  · rw [pairL]; try simp only [List.append_assoc, List.cons_append, List.nil_append]
  exact below_tr (below_tr hb1 hb2) hb3
set_option maxRecDepth 100000 in
theorem rpair_walk (a b : List UInt8) (w : World) (h : a.length + b.length ≤ 140737487000000) :
    Calls Tryz.prog 72 #[.string ⟨a.toArray⟩, .string ⟨b.toArray⟩] w fun e w' => e = .returned (.string ⟨(pairL a b).toArray⟩) ∧ Below w.heap.size w w' := by
  have hwa := wbytes_length (a.length : Int)
  have hwb := wbytes_length (b.length : Int)
  go_enter Tryz.func72, Tryz.ntmps72
  go_wp2_with (go_at_call 88; (with_reducible refine (rfour_walk _ _ (I64.nat (by omega))).mono ?_))
  rintro e w1 ⟨rfl, hb1⟩
  go_wp2_with (go_at_call 88; (with_reducible refine (rfour_walk _ _ (I64.nat (by omega))).mono ?_))
  rintro e w2 ⟨rfl, hb2⟩
  go_wp2_with (go_at_call 24; (with_reducible refine (rsum_walk _ _ ?hl).mono ?_))
  case hl => simp [wbytes_length]; omega
  rintro e w3 ⟨rfl, hb3⟩
  go_wp2
  go_ret
  refine ⟨ret_str ?_, ?_⟩
  · rw [pairL]; try simp only [List.append_assoc, List.cons_append, List.nil_append]
  exact below_tr (below_tr hb1 hb2) hb3
end Go.Proofs.YtipoljcgfcjlnaaGreatDoor
