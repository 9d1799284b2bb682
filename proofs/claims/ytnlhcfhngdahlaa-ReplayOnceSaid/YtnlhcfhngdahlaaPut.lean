/- What numbers and texts are written as: the program's, by a call from elsewhere. -/
import Derived.Test.YtnlhcfhngdahlaaCodecW
namespace Go.Proofs.Ytnlhcfhngdahlaa
open Go.RowKit
theorem putInt_ten {n : Int} (h : I64 n) : (putInt n).length ≤ 10 := vint_ten (zig_lt h.1 h.2)
theorem putInt_any (b : List UInt8) (n : Int) (w : World) (h : I64 n) (hb : b.length ≤ 281474976710656) :
    Calls Try.prog 35 #[.string ⟨b.toArray⟩, .int .i64 n] w fun e w' => e = .returned (.string ⟨(b ++ putInt n).toArray⟩) ∧ Below w.heap.size w w' := putInt_walk b n w h.1 h.2 hb
theorem putInt_nil (n : Int) (w : World) (h : I64 n) :
    Calls Try.prog 35 #[.string ⟨#[]⟩, .int .i64 n] w fun e w' => e = .returned (.string ⟨(putInt n).toArray⟩) ∧ Below w.heap.size w w' := putInt_walk [] n w h.1 h.2 (by simp)

set_option maxRecDepth 100000 in
set_option maxHeartbeats 400000 in
theorem putText_any (b s : List UInt8) (w : World) (hb : b.length ≤ 281474976710656) (hs : s.length ≤ 281474976710656) :
    Calls Try.prog 34 #[.string ⟨b.toArray⟩, .string ⟨s.toArray⟩] w fun e w' => e = .returned (.string ⟨(b ++ putText s).toArray⟩) ∧ Below w.heap.size w w' := by
  have ht := putInt_ten (I64.nat hs)
  go_enter Try.func34, Try.ntmps34
  go_wp2_with (go_at_call 35; refine (putInt_any b s.length _ (I64.nat hs) hb).mono ?_; rintro e w1 ⟨rfl, hb1⟩)
  go_ret
  exact ⟨ret_str (by simp [putText]), hb1⟩
theorem putText_nil (s : List UInt8) (w : World) (hs : s.length ≤ 281474976710656) :
    Calls Try.prog 34 #[.string ⟨#[]⟩, .string ⟨s.toArray⟩] w fun e w' => e = .returned (.string ⟨(putText s).toArray⟩) ∧ Below w.heap.size w w' := putText_any [] s w (by simp) hs
end Go.Proofs.Ytnlhcfhngdahlaa
