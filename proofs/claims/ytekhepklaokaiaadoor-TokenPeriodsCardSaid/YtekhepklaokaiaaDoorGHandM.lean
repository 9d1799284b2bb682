/- Members of the group of a safe prime, as the program finds them. -/
import Derived.Test.YtekhepklaokaiaaDoorGHandE
import Derived.Test.YtekhepklaokaiaaDoorBk
namespace Go.Proofs.YtekhepklaokaiaaDoor
open Go.RowKit
set_option maxRecDepth 100000 in
theorem hMember_walk (p : Nat) (x : Int) (w : World) (hB : Bases w) (hs : safeP (p : Int) = true) :
    Calls Tryd.prog 28 #[.int .i64 (p : Int), .int .i64 x] w fun e w' => e = .returned (.bool (memZ p x)) ∧ Below w.heap.size w w' := by
  obtain ⟨h3, h30, -⟩ := safeP_bd hs
  have KO := Lib.hid (fun V h => hof_yes p V h hs)
  have KH := Lib.hid (fun V => hhas_walk p x V (by omega) (by omega))
  generalize memZ p x = z at *
  clear hs h3 h30
  go_enter Tryd.func28, Tryd.ntmps28
  go_wp2_with (go_at_call 41; (with_reducible refine (KO.out _ hB).mono ?_))
  rintro e w1 ⟨rfl, hb1⟩
  have hb2 := hb1.trans (((Below.refl w1.heap.size w1).alloc (Nat.le_refl _) (.cells #[.int .i64 (p : Int), .int .i64 ((2 * p + 1 : Nat) : Int)] 64)).mono hb1.size)
  have hX := Bx.new w1 64 [.int .i64 (p : Int), .int .i64 ((2 * p + 1 : Nat) : Int)]
  rw [grp] at *
  generalize ((2 * p + 1 : Nat) : Int) = m at *
  go_upto_region 2 with (fail)
  change Bx (w1.alloc (.cells #[.int .i64 (p : Int), .int .i64 m] 64)) _ _ _ at hX
  generalize w1.alloc (.cells #[.int .i64 (p : Int), .int .i64 m] 64) = w2 at *
  generalize w1.heap.size = g at *
  have x0 := hX.cell 0 (v := .int .i64 (p : Int)) rfl
  have x1 := hX.cell 1 (v := .int .i64 m) rfl
  clear hX hb1
  go_wp2_with (go_at_call 42; (with_reducible refine (KH.out _).mono ?_))
  rintro e w3 ⟨rfl, hb3⟩
  have HB := Lib.hid (below_tr hb2 hb3)
  clear hb2 hb3 x0 x1
  go_wp2
  go_ret
  exact ⟨rfl, HB.out⟩
end Go.Proofs.YtekhepklaokaiaaDoor
