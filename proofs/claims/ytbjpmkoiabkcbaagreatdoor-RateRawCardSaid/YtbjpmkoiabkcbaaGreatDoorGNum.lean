/- The first bytes as a number. -/
import Derived.Test.YtbjpmkoiabkcbaaGreatDoorGDigestS
import Derived.Laws.BitsAllLaws
import Derived.Test.YtbjpmkoiabkcbaaGreatDoorGDigestE
import Derived.Test.YtbjpmkoiabkcbaaGreatDoorGBk
import Derived.Test.YtbjpmkoiabkcbaaGreatDoorGCodecP
import Derived.Test.YtbjpmkoiabkcbaaGreatDoorGDigestF
namespace Go.Proofs.YtbjpmkoiabkcbaaGreatDoor
open Go.RowKit
/-- the first n bytes as a number -/
def num7 (l : List UInt8) : Nat → Nat
  | 0 => 0
  | n + 1 => num7 l n * 256 + bt l n
theorem num7_lt (l : List UInt8) (n : Nat) : num7 l n < 256 ^ n := by
  induction n with
  | zero => simp [num7]
  | succ n ih => have := bt_lt l n; rw [num7, Nat.pow_succ]; omega
theorem i64_or_nat (a b : Nat) (ha : a < 9223372036854775808) (hb : b < 9223372036854775808) (hab : a ||| b < 9223372036854775808) : bits .or .i64 (a : Int) (b : Int) = ((a ||| b : Nat) : Int) := by
  have h : IntKind.u64.wrap ((BitVec.ofInt 64 (a : Int) ||| BitVec.ofInt 64 (b : Int)).toNat : Int) = ((a ||| b : Nat) : Int) := u64_or_nat a b (by omega) (by omega)
  rw [IntKind.wrap_u64] at h
  show IntKind.i64.wrap ((BitVec.ofInt 64 (a : Int) ||| BitVec.ofInt 64 (b : Int)).toNat : Int) = _
  rw [IntKind.wrap_i64]
  have := (BitVec.ofInt 64 (a : Int) ||| BitVec.ofInt 64 (b : Int)).isLt
  omega
theorem num7_step (l : List UInt8) (n : Nat) (hn : n < 7) : bits .or .i64 ((num7 l n : Int) * 256) ((bt l n : Nat) : Int) = ((num7 l (n + 1) : Nat) : Int) := by
  have h := num7_lt l n
  have hb := bt_lt l n
  have hp : 256 ^ n ≤ 256 ^ 6 := Nat.pow_le_pow_right (by omega) (by omega)
  have ho : num7 l n * 256 ||| bt l n = num7 l n * 256 + bt l n := by
    have := Nat.two_pow_add_eq_or_of_lt (i := 8) (b := bt l n) hb (num7 l n)
    rw [Nat.mul_comm] at this
    exact this.symm
  have := i64_or_nat (num7 l n * 256) (bt l n) (by omega) (by omega) (by rw [ho]; omega)
  rw [ho] at this
  exact this
end Go.Proofs.YtbjpmkoiabkcbaaGreatDoor
/- Numbers and elements of sums: the program's. -/
namespace Go.Proofs.YtbjpmkoiabkcbaaGreatDoor
open Go.RowKit
set_option maxRecDepth 100000 in
theorem number_walk (l : List UInt8) (w : World) (hl : 7 ≤ l.length) :
    Calls Tryz.prog 73 #[.string ⟨l.toArray⟩] w fun e w' => e = .returned (.int .i64 (num7 l 7 : Int)) ∧ w = w' := by
  go_enter Tryz.func73, Tryz.ntmps73
  go_wp2
  go_loop [3, 4, 5] (fun m _ i => ∃ (k a : Nat), k ≤ 7 ∧ a = num7 l k ∧ i = .int .i64 (k : Int) ∧ m = .int .i64 (a : Int)) (fun _ _ i => 7 - (intOf i).toNat)
  case atStart => exact ⟨0, 0, by omega, rfl, rfl, rfl⟩
  case round =>
    obtain ⟨k, a, hk, ha, rfl, rfl⟩ := hrel
    have hlt := num7_lt l k
    rw [← ha] at hlt
    by_cases hkt : k < 7
    · have hp : 256 ^ k ≤ 256 ^ 6 := Nat.pow_le_pow_right (by omega) (by omega)
      have hs := num7_step l k hkt
      rw [← ha] at hs
      have hw64 : wrap64 (bt l k : Int) = (bt l k : Int) := by
        have := bt_lt l k
        unfold wrap64; omega
      have HA := Lib.hid ha
      have ha2 : a < 281474976710656 := by omega
      clear ha hlt hp
      go_wp2
      go_round
      case rel => exact ⟨k + 1, num7 l (k + 1), by omega, rfl, by go_num, rfl⟩
      case measure => simp [intOf]; omega
    · obtain rfl : k = 7 := by omega
      subst ha
      go_wp2
      go_ret
      exact ⟨rfl, rfl⟩
/-- an element of a string -/
def elem (p : Int) (s : List UInt8) : Int := (num7 (sha s) 7 : Int) % (p - 1) + 1
set_option maxRecDepth 100000 in
theorem element_walk (p : Int) (s : List UInt8) (w : World) (hp : 2 ≤ p) (hp2 : p < 4294967296) (hs : s.length ≤ 140737488000000) :
    Calls Tryz.prog 54 #[.int .i64 p, .string ⟨s.toArray⟩] w fun e w' => e = .returned (.int .i64 (elem p s)) ∧ Below w.heap.size w w' := by
  have hsl := sha_length s
  have h7 := num7_lt (sha s) 7
  go_enter Tryz.func54, Tryz.ntmps54
  go_wp2_with (go_at_call 74; (with_reducible refine (sum_walk _ _ hs).mono ?_))
  rintro e w1 ⟨rfl, hb1⟩
  obtain ⟨q, hq⟩ : ∃ q, q = p - 1 := ⟨_, rfl⟩
  have hq1 : 1 ≤ q := by omega
  have hq2 : q < 4294967296 := by omega
  obtain rfl : p = q + 1 := by omega
  clear hq
  go_wp2_with (go_at_call 73; (with_reducible refine (number_walk _ _ (by omega)).mono ?_))
  rintro e w2 ⟨rfl, rfl⟩
  have he : elem (q + 1) s = (num7 (sha s) 7 : Int) % q + 1 := by rw [elem, show q + 1 - 1 = q by omega]
  generalize num7 (sha s) 7 = m at *
  have hm1 := Int.emod_nonneg (m : Int) (show q ≠ 0 by omega)
  have hm2 := Int.emod_lt_of_pos (m : Int) (show 0 < q by omega)
  have HE := Lib.hid he
  have hmx : max q 1 = q := by omega
  clear he
  go_wp2
  go_ret
  exact ⟨ret_int HE.out.symm, hb1⟩
end Go.Proofs.YtbjpmkoiabkcbaaGreatDoor
/- Rings of keys: which keys are members, and elements; the challenge; whoever says that they know a secret. -/
namespace Go.Proofs.YtbjpmkoiabkcbaaGreatDoor
open Go.RowKit
set_option maxRecDepth 100000 in
theorem rmem1_walk (p : Nat) (x : Int) (g : Nat) (w : World) (hB : Bases w) (hs : safeP (p : Int) = true) (hc : w.cell? ⟨g, 0, none⟩ = some (.int .i64 (p : Int))) :
    Calls Tryz.prog 59 #[.int .i64 x, .pointer (some ⟨g, 0, none⟩)] w fun e w' => e = .returned (.bool (!memZ p x)) ∧ Below w.heap.size w w' := by
  have KM := Lib.hid (hMember_walk p x w hB hs)
  clear hs hB
  generalize memZ p x = z at *
  go_enter Tryz.func59, Tryz.ntmps59
  go_wp2_with (go_at_call 40; (with_reducible refine KM.out.mono ?_))
  rintro e w1 ⟨rfl, hb1⟩
  go_wp2
  go_ret
  exact ⟨rfl, hb1⟩
/-- all keys are members -/
def memsF (p : Nat) (l : List Int) : Bool := l.all (memZ p)
theorem memsF_true {p : Nat} {l : List Int} (h : ∀ x ∈ l.take l.length, memZ p x = true) : memsF p l = true := by
  rw [List.take_length] at h
  exact List.all_eq_true.2 h
theorem memsF_false {p : Nat} {l : List Int} {x : Int} (hx : x ∈ l) (h : memZ p x = false) : memsF p l = false := by
  cases hm : memsF p l with
  | false => rfl
  | true => rw [List.all_eq_true.1 hm x hx] at h; cases h
theorem Rd.one {w : World} {g : Nat} {v : Value} (h : Rd w (some ⟨g, 0, none⟩) [v]) : w.cell? ⟨g, 0, none⟩ = some v := by
  obtain ⟨g', off, e, hc⟩ := h 0 v rfl
  cases e
  exact hc
set_option maxRecDepth 100000 in
set_option maxHeartbeats 2000000 in
theorem rindex_walk (p : Nat) (a : Option Addr) (l : List Int) (cap : Nat) (g : Nat) (w : World) (hB : Bases w) (hs : safeP (p : Int) = true) (hP : Rd w (some ⟨g, 0, none⟩) [.int .i64 (p : Int)]) (hR : Rd w a (ints l)) (hl : l.length ≤ 281474976710656) :
    Calls Tryz.prog 77 #[.slice a l.length cap, .func (.func 59) #[] #[.pointer (some ⟨g, 0, none⟩)]] w fun e w' => ∃ i, e = .returned (.int .i64 i) ∧ decide (0 ≤ i) = !memsF p l ∧ Below w.heap.size w w' := by
  have HS := Lib.hid hs
  clear hs
  go_enter Tryz.func77, Tryz.ntmps77
  go_wp2_with fail
  go_loopw [8] (fun i wr => ∃ k : Nat, k ≤ l.length ∧ i = .int .i64 (k : Int) ∧ Hid (∀ x ∈ l.take k, memZ p x = true) ∧ Below w.heap.size w wr) (fun i _ => l.length - (intOf i).toNat)
  case atStart => exact ⟨0, Nat.zero_le _, rfl, Lib.hid (by simp), Below.refl _ _⟩
  case round =>
    obtain ⟨k, hk, rfl, hA, hB'⟩ := hrel
    by_cases hkt : k < l.length
    · obtain ⟨gx, off, x, rfl, hc, hx⟩ := (hR.keep hB').int (k := k) hkt
      have hkl : (k : Int) < (l.length : Int) := by omega
      have K1 := Lib.hid (rmem1_walk p x g wr (hB.keep hB') HS.out (hP.keep hB').one)
      have hT : memZ p x = true → ∀ y ∈ l.take (k + 1), memZ p y = true := fun h y hy => by
        rw [take_at hx] at hy
        rcases List.mem_append.1 hy with hy | hy
        · exact hA.out y hy
        · simp at hy; rw [hy]; exact h
      have hF : memZ p x = false → memsF p l = false := fun h => memsF_false (mem_at hx) h
      have HT := Lib.hid hT
      have HF := Lib.hid hF
      clear hT hF hA hx hR hP hB
      cases hz : memZ p x with
      | true =>
        rw [hz] at K1 HT
        clear hz
        go_wp2_with ((with_reducible refine K1.out.mono ?_); rintro e w1 ⟨rfl, hb1⟩)
        go_roundw
        case rel => exact ⟨k + 1, by omega, by go_num, Lib.hid (HT.out trivial), below_tr hB' hb1⟩
        case measure => simp [intOf]; omega
      | false =>
        rw [hz] at K1 HF
        clear hz
        go_wp2_with ((with_reducible refine K1.out.mono ?_); rintro e w1 ⟨rfl, hb1⟩)
        go_ret
        exact ⟨(k : Int), rfl, by rw [HF.out trivial]; simp, below_tr hB' hb1⟩
    · have hkl : ¬ (k : Int) < (l.length : Int) := by omega
      obtain rfl : k = l.length := by omega
      have hm := Lib.hid (memsF_true hA.out)
      clear hA
      go_wp2
      go_ret
      exact ⟨-1, rfl, by rw [hm.out]; rfl, hB'⟩
set_option maxRecDepth 100000 in
theorem rcontains_walk (p : Nat) (a : Option Addr) (l : List Int) (cap : Nat) (g : Nat) (w : World) (hB : Bases w) (hs : safeP (p : Int) = true) (hP : Rd w (some ⟨g, 0, none⟩) [.int .i64 (p : Int)]) (hR : Rd w a (ints l)) (hl : l.length ≤ 281474976710656) :
    Calls Tryz.prog 58 #[.slice a l.length cap, .func (.func 59) #[] #[.pointer (some ⟨g, 0, none⟩)]] w fun e w' => e = .returned (.bool (!memsF p l)) ∧ Below w.heap.size w w' := by
  have K1 := Lib.hid (rindex_walk p a l cap g w hB hs hP hR hl)
  clear hs hB hP hR hl
  go_enter Tryz.func58, Tryz.ntmps58
  go_wp2_with (go_at_call 77; (with_reducible refine K1.out.mono ?_))
  rintro e w1 ⟨i, rfl, hi, hb1⟩
  have HI := Lib.hid hi
  clear K1 hi
  go_wp2
  go_ret
  exact ⟨by rw [← HI.out]; rfl, hb1⟩
/-- keys that a ring may have -/
def keysOk (p : Nat) (l : List Int) : Bool := decide (1 ≤ l.length ∧ l.length ≤ 64) && memsF p l
set_option maxRecDepth 100000 in
theorem rmembers_walk (p : Nat) (a : Option Addr) (l : List Int) (cap : Nat) (w : World) (hB : Bases w) (hs : safeP (p : Int) = true) (hR : Rd w a (ints l)) (hl : l.length ≤ 281474976710656) :
    Calls Tryz.prog 29 #[.int .i64 (p : Int), .slice a l.length cap] w fun e w' => e = .returned (.bool (keysOk p l)) ∧ Below w.heap.size w w' := by
  have hb0 := (Below.refl w.heap.size w).alloc (Nat.le_refl _) (.cells #[.int .i64 (p : Int)] 3)
  have hP : Rd (w.alloc (.cells #[.int .i64 (p : Int)] 3)) (some ⟨w.heap.size, 0, none⟩) [.int .i64 (p : Int)] := Rd.mk fun j u hj => by rw [Nat.zero_add, World.cell?_alloc_at _ _ _ _ rfl]; simpa using hj
  by_cases hq : 1 ≤ l.length ∧ l.length ≤ 64
  · have HI := Lib.hid (fun V : World => in_yes (n := (l.length : Int)) (lo := 1) (hi := 64) V ⟨by omega, by omega⟩)
    have K1 := Lib.hid (rcontains_walk p a l cap w.heap.size _ (hB.keep hb0) hs hP (hR.keep hb0) hl)
    have hk : keysOk p l = memsF p l := by rw [keysOk, decide_eq_true hq]; rfl
    have HK := Lib.hid hk
    clear hs hB hP hR hl hq hk
    go_enter Tryz.func29, Tryz.ntmps29
    go_wp2_with (first | (go_at_call 41; (with_reducible refine (HI.out _).mono ?_); rintro e w0 ⟨rfl, rfl⟩) | (go_at_call 58; (with_reducible refine K1.out.mono ?_)))
    rintro e w1 ⟨rfl, hb1⟩
    have HB := Lib.hid (below_tr hb0 hb1)
    clear K1 hb0 hb1
    go_wp2
    go_ret
    exact ⟨by rw [HK.out]; simp, HB.out⟩
  · have HI := Lib.hid (fun V : World => in_no (n := (l.length : Int)) (lo := 1) (hi := 64) V (by omega))
    have hk : keysOk p l = false := by rw [keysOk, decide_eq_false hq]; rfl
    have HK := Lib.hid hk
    clear hs hB hP hR hl hq hk
    go_enter Tryz.func29, Tryz.ntmps29
    go_wp2_with (go_at_call 41; (with_reducible refine (HI.out _).mono ?_); rintro e w0 ⟨rfl, rfl⟩)
    go_ret
    exact ⟨by rw [HK.out]; rfl, hb0⟩
end Go.Proofs.YtbjpmkoiabkcbaaGreatDoor
/- Numbers of sums: the reference's. -/
namespace Go.Proofs.YtbjpmkoiabkcbaaGreatDoor
open Go.RowKit
set_option maxRecDepth 100000 in
theorem rnumber_walk (l : List UInt8) (w : World) (hl : 7 ≤ l.length) :
    Calls Tryz.prog 78 #[.string ⟨l.toArray⟩] w fun e w' => e = .returned (.int .i64 (num7 l 7 : Int)) ∧ w = w' := by
  go_enter Tryz.func78, Tryz.ntmps78
  go_wp2
  go_loop [3, 4, 5] (fun m _ i => ∃ (k a : Nat), k ≤ 7 ∧ a = num7 l k ∧ i = .int .i64 (k : Int) ∧ m = .int .i64 (a : Int)) (fun _ _ i => 7 - (intOf i).toNat)
  case atStart => exact ⟨0, 0, by omega, rfl, rfl, rfl⟩
  case round =>
    obtain ⟨k, a, hk, ha, rfl, rfl⟩ := hrel
    have hlt := num7_lt l k
    rw [← ha] at hlt
    by_cases hkt : k < 7
    · have hp : 256 ^ k ≤ 256 ^ 6 := Nat.pow_le_pow_right (by omega) (by omega)
      have hs := num7_step l k hkt
      rw [← ha] at hs
      have hw64 : wrap64 (bt l k : Int) = (bt l k : Int) := by
        have := bt_lt l k
        unfold wrap64; omega
      have HA := Lib.hid ha
      have ha2 : a < 281474976710656 := by omega
      clear ha hlt hp
      go_wp2
      go_round
      case rel => exact ⟨k + 1, num7 l (k + 1), by omega, rfl, by go_num, rfl⟩
      case measure => simp [intOf]; omega
    · obtain rfl : k = 7 := by omega
      subst ha
      go_wp2
      go_ret
      exact ⟨rfl, rfl⟩
end Go.Proofs.YtbjpmkoiabkcbaaGreatDoor
/- Numbers and elements of sums: the reference's. -/
namespace Go.Proofs.YtbjpmkoiabkcbaaGreatDoor
open Go.RowKit
set_option maxRecDepth 100000 in
theorem relement_walk (p : Int) (s : List UInt8) (w : World) (hp : 2 ≤ p) (hp2 : p < 4294967296) (hs : s.length ≤ 140737488000000) :
    Calls Tryz.prog 63 #[.int .i64 p, .string ⟨s.toArray⟩] w fun e w' => e = .returned (.int .i64 (elem p s)) ∧ Below w.heap.size w w' := by
  have hsl := sha_length s
  have h7 := num7_lt (sha s) 7
  go_enter Tryz.func63, Tryz.ntmps63
  go_wp2_with (go_at_call 79; (with_reducible refine (rsum_walk _ _ hs).mono ?_))
  rintro e w1 ⟨rfl, hb1⟩
  obtain ⟨q, hq⟩ : ∃ q, q = p - 1 := ⟨_, rfl⟩
  have hq1 : 1 ≤ q := by omega
  have hq2 : q < 4294967296 := by omega
  obtain rfl : p = q + 1 := by omega
  clear hq
  go_wp2_with (go_at_call 78; (with_reducible refine (rnumber_walk _ _ (by omega)).mono ?_))
  rintro e w2 ⟨rfl, rfl⟩
  have he : elem (q + 1) s = (num7 (sha s) 7 : Int) % q + 1 := by rw [elem, show q + 1 - 1 = q by omega]
  generalize num7 (sha s) 7 = m at *
  have hm1 := Int.emod_nonneg (m : Int) (show q ≠ 0 by omega)
  have hm2 := Int.emod_lt_of_pos (m : Int) (show 0 < q by omega)
  have HE := Lib.hid he
  have hmx : max q 1 = q := by omega
  clear he
  go_wp2
  go_ret
  exact ⟨ret_int HE.out.symm, hb1⟩
end Go.Proofs.YtbjpmkoiabkcbaaGreatDoor
