/- The dice's primes are permitted; the sanity check of layer 5. -/
import Derived.Test.YtpbhendndelonaaDoorPackE
import Derived.Test.YtpbhendndelonaaDoorDice
namespace Go.Proofs.YtpbhendndelonaaDoor
open Go.RowKit
theorem Bases.grown {w w' : World} {row : Option Nat} (h : Bases w) (hg : w.grownBy w' row) (hne : some 0 ≠ row) : Bases w' :=
  ⟨hg.cell h.1 hne, hg.cell h.2.1 hne, hg.cell h.2.2.1 hne, hg.cell h.2.2.2 hne⟩
set_option maxRecDepth 100000 in
theorem primes_vl : ∀ p ∈ primes, p = 2 ∨ (3 ≤ p ∧ p ≤ 1073741824 ∧ p % 2 = 1 ∧ vlF p basesL = true) := by decide +kernel
theorem prime_ok {p : Int} (h : p ∈ primes) : ValidOk p := fun w hB => by
  rcases primes_vl p h with rfl | ⟨h1, h2, h3, h4⟩
  · exact valid_two w hB
  · have := valid_odd p w hB h1 h2 h3
    rw [h4] at this
    exact this
theorem pack_walk (p : Int) (s : List UInt8) (w : World) (hB : Bases w) (hV : ValidOk p) (hp : 0 ≤ p) (hp2 : p ≤ 1073741824) (hs : s.length ≤ 256) :
    Calls Tryd.prog 11 #[.int .i64 p, .string ⟨s.toArray⟩] w fun e w' => ∃ a cap, e = .returned (.tuple #[.slice a (packF p s).length cap, .int .i64 0]) ∧ Rd w' a (ints (packF p s)) ∧ Below w.heap.size w w' := by
  by_cases h : widthF p = 0
  · exact pack_bits p s w hB hV hp hp2 hs h
  · exact pack_bytes p s w hB hV hp hp2 (by omega) (countF_le _ _ hs) h
set_option maxRecDepth 100000 in
theorem awake5_walk (w : World) (hB : Bases w) : Calls Tryd.prog 8 #[] w fun e w' => e = .returned (.bool true) ∧ Below w.heap.size w w' := by
  have hpk : packF 500000003 [1, 2, 3, 4] = [66051, 4] := by decide +kernel
  have hV : ValidOk 500000003 := prime_ok (by decide)
  go_enter Tryd.func8, Tryd.ntmps8
  go_wp2_with (go_at_call 11; (refine (pack_walk 500000003 [1, 2, 3, 4] _ hB hV (by decide) (by decide) (by decide)).mono ?_))
  rintro e w1 ⟨a, cap, rfl, hR, hb1⟩
  rw [hpk] at hR ⊢
  obtain ⟨g, off, rfl, hc⟩ := hR.at (by decide)
  have c0 := hc 0 _ rfl
  have c1 := hc 1 _ rfl
  have w7 : widthF 7 = 0 := by decide
  have w257 : widthF 257 = 1 := by decide
  clear hpk hR hc
  rw [Nat.add_zero] at c0
  simp only [List.length_cons, List.length_nil]
  go_wp2_with (go_at_call 21; (with_reducible refine (width_walk 7 _ (by decide) (by decide)).mono ?_))
  rintro e w2 ⟨rfl, rfl⟩
  rw [w7]
  go_wp2_with (go_at_call 21; (with_reducible refine (width_walk 257 _ (by decide) (by decide)).mono ?_))
  rintro e w2 ⟨rfl, rfl⟩
  rw [w257]
  go_wp2
  go_ret
  exact ⟨rfl, hb1⟩
end Go.Proofs.YtpbhendndelonaaDoor
