/- The published sums, and the sanity check of layer 3. -/
import Derived.Test.YtcppedmcchhhoaaDigestJ
namespace Go.Proofs.Ytcppedmcchhhoaa
open Go.RowKit
set_option maxRecDepth 1000000 in
theorem hex_abc : hexB (sha [97, 98, 99]) 32 = [98, 97, 55, 56, 49, 54, 98, 102, 56, 102, 48, 49, 99, 102, 101, 97, 52, 49, 52, 49, 52, 48, 100, 101, 53, 100, 97, 101, 50, 50, 50, 51, 98, 48, 48, 51, 54, 49, 97, 51, 57, 54, 49, 55, 55, 97, 57, 99, 98, 52, 49, 48, 102, 102, 54, 49, 102, 50, 48, 48, 49, 53, 97, 100] := by decide +kernel
set_option maxRecDepth 1000000 in
theorem hex_nil : hexB (sha []) 32 = [101, 51, 98, 48, 99, 52, 52, 50, 57, 56, 102, 99, 49, 99, 49, 52, 57, 97, 102, 98, 102, 52, 99, 56, 57, 57, 54, 102, 98, 57, 50, 52, 50, 55, 97, 101, 52, 49, 101, 52, 54, 52, 57, 98, 57, 51, 52, 99, 97, 52, 57, 53, 57, 57, 49, 98, 55, 56, 53, 50, 98, 56, 53, 53] := by decide +kernel
set_option maxRecDepth 100000 in
theorem awake33_walk (w : World) : Calls Try.prog 33 #[] w fun e w' => e = .returned (.bool true) ∧ Below w.heap.size w w' := by
  have e1 := sha_length [97, 98, 99]
  have e2 := sha_length []
  have g1 : (sha [97, 98, 99]).length ≤ 70368744000000 := by rw [e1]; decide
  have g2 : (sha []).length ≤ 70368744000000 := by rw [e2]; decide
  go_enter Try.func33, Try.ntmps33
  go_wp2_with (go_at_call 34; (refine (sum_walk [97, 98, 99] _ (by decide)).mono ?_))
  rintro e w1 ⟨rfl, hb1⟩
  go_wp2_with (go_at_call 36; (with_reducible refine (hex_walk _ _ g1).mono ?_))
  rintro e w2 ⟨rfl, hb2⟩
  rw [e1, hex_abc]
  go_wp2_with (go_at_call 34; (refine (sum_walk [] _ (by decide)).mono ?_))
  rintro e w3 ⟨rfl, hb3⟩
  go_wp2_with (go_at_call 36; (with_reducible refine (hex_walk _ _ g2).mono ?_))
  rintro e w4 ⟨rfl, hb4⟩
  rw [e2, hex_nil]
  go_wp2
  go_ret
  exact ⟨rfl, below_tr (below_tr (below_tr hb1 hb2) hb3) hb4⟩
end Go.Proofs.Ytcppedmcchhhoaa
