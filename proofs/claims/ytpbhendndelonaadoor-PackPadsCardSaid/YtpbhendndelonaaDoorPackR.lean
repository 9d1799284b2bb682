/- Padded strings: the reference's, and a string with a byte turned. -/
import Derived.Test.YtpbhendndelonaaDoorPackH
import Derived.Test.YtpbhendndelonaaDoorMake
import Derived.Test.YtpbhendndelonaaDoorDice
namespace Go.Proofs.YtpbhendndelonaaDoor
open Go.RowKit
theorem elB8 : ElemOf Tryd.prog 36 5 (.int .u8 0) 1 1 := ⟨Tryd.underlying36, by kernel_rfl, rfl, by decide, by decide⟩
theorem padz_bytes (s z : List UInt8) : (ByteArray.mk s.toArray ++ ByteArray.mk #[128] ++ ByteArray.mk z.toArray : ByteArray) = ByteArray.mk (s ++ [128] ++ z).toArray := by
  apply ByteArray.ext; simp
/-- what Pad returns at any unit -/
def padAny (s : List UInt8) (u : Int) : Value := if u < 1 ∨ 1024 < u then .tuple #[.string ⟨#[]⟩, .int .i64 2] else padRes s u.toNat
theorem padAny_in (s : List UInt8) (u : Nat) (h1 : 1 ≤ u) (h2 : u ≤ 1024) : padAny s (u : Int) = padRes s u := by rw [padAny, if_neg (by omega), Int.toNat_natCast]
set_option maxRecDepth 100000 in
theorem padAny_walk (s : List UInt8) (u : Int) (w : World) (hs : s.length ≤ 1048576) :
    Calls Tryd.prog 15 #[.string ⟨s.toArray⟩, .int .i64 u] w fun e w' => e = .returned (padAny s u) ∧ Below w.heap.size w w' := by
  by_cases h : u < 1 ∨ 1024 < u
  · have hR : padAny s u = .tuple #[.string ⟨#[]⟩, .int .i64 2] := by rw [padAny, if_pos h]
    have HR := Lib.hid hR
    clear hR
    rcases h with h | h
    · have hd : decide (u < 1) = true := by simpa using h
      go_enter Tryd.func15, Tryd.ntmps15
      go_wp2
      go_ret2
      exact ⟨by rw [HR.out]; rfl, Below.refl _ _⟩
    · have hd : decide (u < 1) = false := by simp; omega
      have hd2 : decide (u > 1024) = true := by simp; omega
      go_enter Tryd.func15, Tryd.ntmps15
      go_wp2
      go_ret2
      exact ⟨by rw [HR.out]; rfl, Below.refl _ _⟩
  · obtain ⟨n, rfl⟩ : ∃ n : Nat, u = (n : Int) := ⟨u.toNat, by omega⟩
    rw [padAny_in s n (by omega) (by omega)]
    exact pad_walk s n w hs (by omega) (by omega)
set_option maxRecDepth 100000 in
theorem rpad_walk (s : List UInt8) (u : Nat) (w : World) (hs : s.length ≤ 1048576) (hu : 1 ≤ u) (hu2 : u ≤ 1024) :
    Calls Tryd.prog 17 #[.string ⟨s.toArray⟩, .int .i64 (u : Int)] w fun e w' => e = .returned (padRes s u) ∧ Below w.heap.size w w' := by
  obtain ⟨q, hq⟩ : ∃ q, q = s.length / u := ⟨_, rfl⟩
  have hqi : (s.length : Int) / (u : Int) = (q : Int) := by rw [hq, Int.natCast_ediv]
  have hqs : q ≤ s.length := by rw [hq]; exact Nat.div_le_self _ _
  have hm := pad_mod s u hu
  have hpl := padL_length s u
  obtain ⟨z, hz⟩ : ∃ z, z = u - 1 - s.length % u := ⟨_, rfl⟩
  have hpd : padL s u = s ++ [128] ++ List.replicate z 0 := by rw [padL, ← hz]
  rw [← hq] at hm
  rw [← hz] at hpl
  have hz1 : z ≤ 1024 := by omega
  obtain ⟨n, hn⟩ : ∃ n, n = (padL s u).length := ⟨_, rfl⟩
  have hn2 : n = s.length + 1 + z := by omega
  have hni : ((q : Int) + 1) * (u : Int) = (n : Int) := by
    rw [hn, hm, Int.natCast_mul, Int.natCast_add, Int.mul_comm]; rfl
  have hns : (n : Int) - (s.length : Int) = ((z : Int) + 1) := by omega
  have hz0 : (z : Int) + 1 - 1 = (z : Int) := by omega
  have hn3 : n ≤ 1100000 := by omega
  have HPD := Lib.hid hpd
  have HN := Lib.hid hn
  have hu0 : (0 : Int) < (u : Int) := by omega
  clear hq hm hpl hz hpd hn hn2
  have hd : decide ((u : Int) < 1) = false := by simp; omega
  have hd2 : decide ((u : Int) > 1024) = false := by simp; omega
  go_enter Tryd.func17, Tryd.ntmps17
  rcases Nat.lt_or_ge 16384 n with h | h
  · have hR : padRes s u = .tuple #[.string ⟨#[]⟩, .int .i64 3] := by rw [padRes, if_pos (by rw [← HN.out]; exact h)]
    have HR := Lib.hid hR
    clear hR
    go_wp2
    go_ret2
    exact ⟨by rw [HR.out]; rfl, Below.refl _ _⟩
  · have hR : padRes s u = .tuple #[.string ⟨(padL s u).toArray⟩, .int .i64 0] := by rw [padRes, if_neg (by rw [← HN.out]; omega)]
    have HR := Lib.hid hR
    clear hR
    have mA : ∀ V, (Instr.makeSlice 36 (.int .i64 (z : Int)) (.int .i64 (z : Int))).run Tryd.prog V = _ := fun V => mk_run V elB8 rfl .i64 z (by omega)
    have cA := mk_str1 (P := Tryd.prog) w 36 9 5 Tryd.underlying36 Tryd.underlying5 Tryd.underlying9 z
    obtain ⟨zs, hzs⟩ : ∃ zs, zs = List.replicate z (0 : UInt8) := ⟨_, rfl⟩
    rw [← hzs] at cA
    have hr2 : padL s u = s ++ [128] ++ zs := by rw [HPD.out, hzs]
    have HR2 := Lib.hid hr2
    have hzl : zs.length ≤ 1024 := by rw [hzs, List.length_replicate]; exact hz1
    clear hr2 hzs
    go_wp2
    go_ret2
    refine ⟨?_, (Below.refl _ _).alloc (Nat.le_refl _) _⟩
    rw [HR.out, HR2.out]
    exact congrArg (fun b => Ending.returned (.tuple #[.string b, .int .i64 0])) (padz_bytes s zs)
set_option maxRecDepth 100000 in
theorem rpadAny_walk (s : List UInt8) (u : Int) (w : World) (hs : s.length ≤ 1048576) :
    Calls Tryd.prog 17 #[.string ⟨s.toArray⟩, .int .i64 u] w fun e w' => e = .returned (padAny s u) ∧ Below w.heap.size w w' := by
  by_cases h : u < 1 ∨ 1024 < u
  · have hR : padAny s u = .tuple #[.string ⟨#[]⟩, .int .i64 2] := by rw [padAny, if_pos h]
    have HR := Lib.hid hR
    clear hR
    rcases h with h | h
    · have hd : decide (u < 1) = true := by simpa using h
      go_enter Tryd.func17, Tryd.ntmps17
      go_wp2
      go_ret2
      exact ⟨by rw [HR.out]; rfl, Below.refl _ _⟩
    · have hd : decide (u < 1) = false := by simp; omega
      have hd2 : decide (u > 1024) = true := by simp; omega
      go_enter Tryd.func17, Tryd.ntmps17
      go_wp2
      go_ret2
      exact ⟨by rw [HR.out]; rfl, Below.refl _ _⟩
  · obtain ⟨n, rfl⟩ : ∃ n : Nat, u = (n : Int) := ⟨u.toNat, by omega⟩
    rw [padAny_in s n (by omega) (by omega)]
    exact rpad_walk s n w hs (by omega) (by omega)
set_option maxRecDepth 100000 in
theorem spoil_walk (s : List UInt8) (at_ bb : Int) (w : World) (hs : s.length ≤ 1048576) :
    Calls Tryd.prog 18 #[.string ⟨s.toArray⟩, .int .i64 at_, .int .i64 bb] w fun e w' => ∃ o : List UInt8, e = .returned (.string ⟨o.toArray⟩) ∧ o.length = s.length ∧ Below w.heap.size w w' := by
  go_enter Tryd.func18, Tryd.ntmps18
  by_cases h0 : s = []
  · subst h0
    go_wp2
    go_ret
    exact ⟨[], rfl, rfl, Below.refl _ _⟩
  · have hne : (s == []) = false := by rw [beq_eq_false_iff_ne]; exact h0
    have hl1 : 1 ≤ s.length := by cases s with | nil => exact absurd rfl h0 | cons => simp
    clear h0
    have hcv := Lib.run_convert_string_bytes (P := Tryd.prog) w 9 36 5 ⟨s.toArray⟩ Tryd.underlying9 Tryd.underlying36 Tryd.underlying5
    have hw0 := below_bytes w 5 ⟨s.toArray⟩
    have how := Ow.bytes w 5 ⟨s.toArray⟩ (by simp [maxLen, ByteArray.size]; omega)
    obtain ⟨j, hj⟩ : ∃ j : Nat, at_ % (s.length : Int) = (j : Int) := ⟨(at_ % (s.length : Int)).toNat, by have := Int.emod_nonneg at_ (show (s.length : Int) ≠ 0 by omega); omega⟩
    have hjl : j < s.length := by have := Int.emod_lt_of_pos at_ (show 0 < (s.length : Int) by omega); omega
    have hmod : ∀ W, Calls Tryd.prog 16 #[.int .i64 at_, .int .i64 (s.length : Int)] W fun e w' => e = .returned (.int .i64 (j : Int)) ∧ W = w' := fun W => by
      rw [← hj]; exact dmod_walk at_ _ W (by omega) (by omega)
    have HM := Lib.hid hmod
    clear hj hmod
    have hsz : (⟨s.toArray⟩ : ByteArray).size = s.length := rfl
    rw [hsz] at hcv how
    obtain ⟨hx, hf⟩ := how.slots
    have hcell := hx j _ (u8s_get s j hjl)
    have hfr := hf j (by have := how.2.1; omega)
    rw [Nat.zero_add] at hcell hfr
    clear hx hf
    generalize s[j] = c at hcell
    generalize grownCap w s.length 0 5 = cap at hcv how hfr
    generalize Lib.bytesWorld w 5 ⟨s.toArray⟩ = wB at *
    obtain ⟨y, hy⟩ : ∃ y : UInt8, ((c.toNat : Int) + bb) % 256 = (y.toNat : Int) := byte_of (by omega) (by omega)
    have how2 := (how.stored j (.int .u8 (y.toNat : Int))).1
    rw [u8s_set _ _ _ y rfl, Nat.zero_add] at how2
    have hrd2 := how2.rd
    have hc2 := run_bytes_str (P := Tryd.prog) (wB.setCell ⟨w.heap.size, j, none⟩ (.int .u8 (y.toNat : Int))) 36 9 5 Tryd.underlying36 Tryd.underlying5 Tryd.underlying9 (c := cap) (n := s.length) (by simp) hrd2
    have hb2 := hw0.setCell (p := ⟨w.heap.size, j, none⟩) (Nat.le_refl _) (.int .u8 (y.toNat : Int))
    obtain ⟨o, ho⟩ : ∃ o, o = s.set j y := ⟨_, rfl⟩
    have hol : o.length = s.length := by rw [ho]; simp
    have e2 : ((⟨s.toArray⟩ : ByteArray).data.toList).set j y = o := by rw [ho]
    rw [e2] at hc2
    have HOL := Lib.hid hol
    clear how how2 hrd2 ho hol e2
    go_wp2_with (go_at_call 16; (with_reducible refine (HM.out _).mono ?_))
    rintro e w1 ⟨rfl, rfl⟩
    go_wp2
    go_ret
    exact ⟨o, rfl, HOL.out, hb2⟩
end Go.Proofs.YtpbhendndelonaaDoor
