/- What is read from the elements of a string. -/
import Derived.Test.YtpbhendndelonaaDoorPackD
namespace Go.Proofs.YtpbhendndelonaaDoor
open Go.RowKit
/-- what Unpack gives for the elements of s and a length -/
def unpF (p : Int) (s : List UInt8) (len : Nat) : Option (List UInt8) :=
  if countF (widthF p) s.length = countF (widthF p) len then (if widthF p = 0 then some s else ubF (widthF p) len (packF p s) []) else none
def unpRes : Option (List UInt8) → Value
  | some o => .tuple #[.string ⟨o.toArray⟩, .int .i64 0]
  | none => .tuple #[.string ⟨#[]⟩, .int .i64 4]
theorem packF_nat (p : Int) (hp : 2 ≤ p) (hp2 : p ≤ 1073741824) (s : List UInt8) : ∃ l : List Nat, packF p s = l.map Int.ofNat ∧ l.length = countF (widthF p) s.length ∧ ∀ x ∈ l, x < 1073741824 := by
  have hb := packF_bd p hp s
  refine ⟨(packF p s).map Int.toNat, ?_, by rw [List.length_map, packF_length], ?_⟩
  · rw [List.map_map]
    conv => lhs; rw [← List.map_id (packF p s)]
    apply List.map_congr_left
    intro x hx
    have := (hb x hx).1
    exact (Int.toNat_of_nonneg this).symm
  · intro x hx
    obtain ⟨y, hy, rfl⟩ := List.mem_map.1 hx
    have := hb y hy
    omega
theorem countF_le (w n : Nat) (hn : n ≤ 256) : countF w n ≤ 2048 := by
  unfold countF
  split
  · omega
  · have := Nat.div_le_self n w
    have : min (n % w) 1 ≤ 1 := by omega
    omega
set_option maxRecDepth 100000 in
theorem unpack_walk (p : Int) (a : Option Addr) (s : List UInt8) (cap0 len : Nat) (w : World) (hB : Bases w) (hV : ValidOk p) (hp : 2 ≤ p) (hp2 : p ≤ 1073741824) (hR : Rd w a (ints (packF p s))) (hs : s.length ≤ 256) (hlen : len ≤ 6144) :
    Calls Tryd.prog 12 #[.int .i64 p, .slice a (packF p s).length cap0, .int .i64 (len : Int)] w fun e w' => e = .returned (unpRes (unpF p s len)) ∧ Below w.heap.size w w' := by
  obtain ⟨l, hl, hll, hlx⟩ := packF_nat p hp hp2 s
  have hlen2 : (packF p s).length = l.length := by rw [hl, List.length_map]
  have hl2 : l.length ≤ 2048 := by rw [hll]; exact countF_le _ _ hs
  have hV' : Calls Tryd.prog 23 #[.int .i64 p] w fun e w' => e = .returned (.bool true) ∧ w = w' := hV w hB
  have hU : unpF p s len = if l.length = countF (widthF p) len then (if widthF p = 0 then some s else ubF (widthF p) len (l.map Int.ofNat) []) else none := by rw [unpF, hll, hl]
  rw [hlen2]
  have HU := Lib.hid hU
  have HL := Lib.hid hl
  have HLL := Lib.hid hll
  clear hU hlen2 hl hll
  go_enter Tryd.func12, Tryd.ntmps12
  go_wp2_with (go_at_call 23; (with_reducible refine hV'.mono ?_))
  rintro e w1 ⟨rfl, rfl⟩
  go_wp2_with (go_at_call 13; (with_reducible refine (count_walk p len _ (by omega) hp2 (by omega)).mono ?_))
  rintro e w1 ⟨rfl, hb1⟩
  obtain ⟨c, hc⟩ : ∃ c, c = countF (widthF p) len := ⟨_, rfl⟩
  rw [← hc]
  have HC := Lib.hid hc
  clear hc
  by_cases hlc : l.length = c
  · have hbc : ((l.length : Int) != (c : Int)) = false := by rw [hlc]; simp
    have hl3 : (l.length : Int) ≤ 2048 := by omega
    have HLC := Lib.hid hlc
    clear hlc
    go_wp2_with (go_at_call 21; (with_reducible refine (width_walk p _ (by omega) hp2).mono ?_))
    rintro e w2 ⟨rfl, rfl⟩
    by_cases hw0 : widthF p = 0
    · have hc8 : l.length = 8 * s.length := by rw [HLL.out, hw0]; simp [countF]
      have hRb : Rd w1 a (ints (bitsL s s.length)) := by
        have : packF p s = bitsL s s.length := by rw [packF, if_pos hw0]
        rw [← this]; exact hR.keep hb1
      have hu : unpF p s len = some s := by rw [HU.out, ← HC.out, if_pos HLC.out, if_pos hw0]
      rw [hw0]
      have hcz : ((0 : Nat) : Int) = 0 := rfl
      rw [hcz]
      have HUU := Lib.hid hu
      clear hu hw0 hcz
      go_wp2_with (go_at_call 24; (with_reducible refine (byBits_walk _ s _ _ hRb hs).mono ?_))
      rintro e w2 ⟨rfl, hb2⟩
      go_wp2
      go_ret2
      exact ⟨by rw [HUU.out]; rfl, below_tr hb1 hb2⟩
    · have hwk := widthF_le p
      have hu : unpF p s len = ubF (widthF p) len (l.map Int.ofNat) [] := by rw [HU.out, ← HC.out, if_pos HLC.out, if_neg hw0]
      have hRb : Rd w1 a (ints (l.map Int.ofNat)) := by rw [← HL.out]; exact hR.keep hb1
      have HUU := Lib.hid hu
      clear hu
      generalize widthF p = k at *
      have hk1 : 1 ≤ k := by omega
      have hk0 : ((k : Int) == 0) = false := by rw [beq_eq_false_iff_ne]; omega
      clear hw0
      go_wp2_with (go_at_call 25; (with_reducible refine (byBytes_walk _ l _ len k _ hRb hlx hl2 hlen hk1 hwk).mono ?_))
      rintro e w2 ⟨rfl, hb2⟩
      cases hub : ubF k len (l.map Int.ofNat) [] with
      | none =>
        have hr : unpF p s len = none := by rw [HUU.out, hub]
        have HR := Lib.hid hr
        clear hr hub
        simp only [ubRes]
        go_wp2
        go_ret2
        exact ⟨by rw [HR.out]; rfl, below_tr hb1 hb2⟩
      | some o =>
        have hr : unpF p s len = some o := by rw [HUU.out, hub]
        have HR := Lib.hid hr
        clear hr hub
        simp only [ubRes]
        go_wp2
        go_ret2
        exact ⟨by rw [HR.out]; rfl, below_tr hb1 hb2⟩
  · have hbc : ((l.length : Int) != (c : Int)) = true := by rw [bne_iff_ne]; omega
    have hr : unpF p s len = none := by rw [HU.out, ← HC.out, if_neg hlc]
    have HR := Lib.hid hr
    clear hr hlc
    go_wp2
    go_ret2
    exact ⟨by rw [HR.out]; rfl, hb1⟩
end Go.Proofs.YtpbhendndelonaaDoor
