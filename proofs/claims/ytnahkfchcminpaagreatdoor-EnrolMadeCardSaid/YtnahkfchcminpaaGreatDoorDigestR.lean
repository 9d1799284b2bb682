/- The rotations, the words. -/
import Derived.Test.YtnahkfchcminpaaGreatDoorDigestP
namespace Go.Proofs.YtnahkfchcminpaaGreatDoor
open Go.RowKit
theorem or_comm32 (a b : Int) : bits .or .u32 a b = bits .or .u32 b a := by
  show IntKind.u32.wrap ((BitVec.ofInt 32 a ||| BitVec.ofInt 32 b).toNat : Int) = IntKind.u32.wrap ((BitVec.ofInt 32 b ||| BitVec.ofInt 32 a).toNat : Int)
  rw [BitVec.or_comm]

set_option maxRecDepth 100000 in
theorem rotl7 (x : Int) (w : World) :
    Calls Tryz.prog 121 #[.int .u32 x, .int .i64 (-7)] w fun e w' => e = .returned (.int .u32 (rotr x 128 33554432)) ∧ w = w' := by
  go_enter Tryz.func121, Tryz.ntmps121
  have e : bits .and .u64 (IntKind.u64.wrap (-7)) 31 = 25 := by decide +kernel
  go_wp2
  go_ret
  exact ⟨ret_int (or_comm32 _ _), rfl⟩
set_option maxRecDepth 100000 in
theorem right7 (x : Int) (w : World) :
    Calls Tryz.prog 115 #[.int .u32 x, .int .i64 7] w fun e w' => e = .returned (.int .u32 (rotr x 128 33554432)) ∧ w = w' := by
  go_enter Tryz.func115, Tryz.ntmps115
  go_wp2_with (go_at_call 121; refine (rotl7 x _).mono ?_; rintro e w' ⟨rfl, rfl⟩)
  go_ret
  exact ⟨rfl, rfl⟩
set_option maxRecDepth 100000 in
theorem rotl18 (x : Int) (w : World) :
    Calls Tryz.prog 121 #[.int .u32 x, .int .i64 (-18)] w fun e w' => e = .returned (.int .u32 (rotr x 262144 16384)) ∧ w = w' := by
  go_enter Tryz.func121, Tryz.ntmps121
  have e : bits .and .u64 (IntKind.u64.wrap (-18)) 31 = 14 := by decide +kernel
  go_wp2
  go_ret
  exact ⟨ret_int (or_comm32 _ _), rfl⟩
set_option maxRecDepth 100000 in
theorem right18 (x : Int) (w : World) :
    Calls Tryz.prog 115 #[.int .u32 x, .int .i64 18] w fun e w' => e = .returned (.int .u32 (rotr x 262144 16384)) ∧ w = w' := by
  go_enter Tryz.func115, Tryz.ntmps115
  go_wp2_with (go_at_call 121; refine (rotl18 x _).mono ?_; rintro e w' ⟨rfl, rfl⟩)
  go_ret
  exact ⟨rfl, rfl⟩
set_option maxRecDepth 100000 in
theorem rotl17 (x : Int) (w : World) :
    Calls Tryz.prog 121 #[.int .u32 x, .int .i64 (-17)] w fun e w' => e = .returned (.int .u32 (rotr x 131072 32768)) ∧ w = w' := by
  go_enter Tryz.func121, Tryz.ntmps121
  have e : bits .and .u64 (IntKind.u64.wrap (-17)) 31 = 15 := by decide +kernel
  go_wp2
  go_ret
  exact ⟨ret_int (or_comm32 _ _), rfl⟩
set_option maxRecDepth 100000 in
theorem right17 (x : Int) (w : World) :
    Calls Tryz.prog 115 #[.int .u32 x, .int .i64 17] w fun e w' => e = .returned (.int .u32 (rotr x 131072 32768)) ∧ w = w' := by
  go_enter Tryz.func115, Tryz.ntmps115
  go_wp2_with (go_at_call 121; refine (rotl17 x _).mono ?_; rintro e w' ⟨rfl, rfl⟩)
  go_ret
  exact ⟨rfl, rfl⟩
set_option maxRecDepth 100000 in
theorem rotl19 (x : Int) (w : World) :
    Calls Tryz.prog 121 #[.int .u32 x, .int .i64 (-19)] w fun e w' => e = .returned (.int .u32 (rotr x 524288 8192)) ∧ w = w' := by
  go_enter Tryz.func121, Tryz.ntmps121
  have e : bits .and .u64 (IntKind.u64.wrap (-19)) 31 = 13 := by decide +kernel
  go_wp2
  go_ret
  exact ⟨ret_int (or_comm32 _ _), rfl⟩
set_option maxRecDepth 100000 in
theorem right19 (x : Int) (w : World) :
    Calls Tryz.prog 115 #[.int .u32 x, .int .i64 19] w fun e w' => e = .returned (.int .u32 (rotr x 524288 8192)) ∧ w = w' := by
  go_enter Tryz.func115, Tryz.ntmps115
  go_wp2_with (go_at_call 121; refine (rotl19 x _).mono ?_; rintro e w' ⟨rfl, rfl⟩)
  go_ret
  exact ⟨rfl, rfl⟩
set_option maxRecDepth 100000 in
theorem rotl6 (x : Int) (w : World) :
    Calls Tryz.prog 121 #[.int .u32 x, .int .i64 (-6)] w fun e w' => e = .returned (.int .u32 (rotr x 64 67108864)) ∧ w = w' := by
  go_enter Tryz.func121, Tryz.ntmps121
  have e : bits .and .u64 (IntKind.u64.wrap (-6)) 31 = 26 := by decide +kernel
  go_wp2
  go_ret
  exact ⟨ret_int (or_comm32 _ _), rfl⟩
set_option maxRecDepth 100000 in
theorem right6 (x : Int) (w : World) :
    Calls Tryz.prog 115 #[.int .u32 x, .int .i64 6] w fun e w' => e = .returned (.int .u32 (rotr x 64 67108864)) ∧ w = w' := by
  go_enter Tryz.func115, Tryz.ntmps115
  go_wp2_with (go_at_call 121; refine (rotl6 x _).mono ?_; rintro e w' ⟨rfl, rfl⟩)
  go_ret
  exact ⟨rfl, rfl⟩
set_option maxRecDepth 100000 in
theorem rotl11 (x : Int) (w : World) :
    Calls Tryz.prog 121 #[.int .u32 x, .int .i64 (-11)] w fun e w' => e = .returned (.int .u32 (rotr x 2048 2097152)) ∧ w = w' := by
  go_enter Tryz.func121, Tryz.ntmps121
  have e : bits .and .u64 (IntKind.u64.wrap (-11)) 31 = 21 := by decide +kernel
  go_wp2
  go_ret
  exact ⟨ret_int (or_comm32 _ _), rfl⟩
set_option maxRecDepth 100000 in
theorem right11 (x : Int) (w : World) :
    Calls Tryz.prog 115 #[.int .u32 x, .int .i64 11] w fun e w' => e = .returned (.int .u32 (rotr x 2048 2097152)) ∧ w = w' := by
  go_enter Tryz.func115, Tryz.ntmps115
  go_wp2_with (go_at_call 121; refine (rotl11 x _).mono ?_; rintro e w' ⟨rfl, rfl⟩)
  go_ret
  exact ⟨rfl, rfl⟩
set_option maxRecDepth 100000 in
theorem rotl25 (x : Int) (w : World) :
    Calls Tryz.prog 121 #[.int .u32 x, .int .i64 (-25)] w fun e w' => e = .returned (.int .u32 (rotr x 33554432 128)) ∧ w = w' := by
  go_enter Tryz.func121, Tryz.ntmps121
  have e : bits .and .u64 (IntKind.u64.wrap (-25)) 31 = 7 := by decide +kernel
  go_wp2
  go_ret
  exact ⟨ret_int (or_comm32 _ _), rfl⟩
set_option maxRecDepth 100000 in
theorem right25 (x : Int) (w : World) :
    Calls Tryz.prog 115 #[.int .u32 x, .int .i64 25] w fun e w' => e = .returned (.int .u32 (rotr x 33554432 128)) ∧ w = w' := by
  go_enter Tryz.func115, Tryz.ntmps115
  go_wp2_with (go_at_call 121; refine (rotl25 x _).mono ?_; rintro e w' ⟨rfl, rfl⟩)
  go_ret
  exact ⟨rfl, rfl⟩
set_option maxRecDepth 100000 in
theorem rotl2 (x : Int) (w : World) :
    Calls Tryz.prog 121 #[.int .u32 x, .int .i64 (-2)] w fun e w' => e = .returned (.int .u32 (rotr x 4 1073741824)) ∧ w = w' := by
  go_enter Tryz.func121, Tryz.ntmps121
  have e : bits .and .u64 (IntKind.u64.wrap (-2)) 31 = 30 := by decide +kernel
  go_wp2
  go_ret
  exact ⟨ret_int (or_comm32 _ _), rfl⟩
set_option maxRecDepth 100000 in
theorem right2 (x : Int) (w : World) :
    Calls Tryz.prog 115 #[.int .u32 x, .int .i64 2] w fun e w' => e = .returned (.int .u32 (rotr x 4 1073741824)) ∧ w = w' := by
  go_enter Tryz.func115, Tryz.ntmps115
  go_wp2_with (go_at_call 121; refine (rotl2 x _).mono ?_; rintro e w' ⟨rfl, rfl⟩)
  go_ret
  exact ⟨rfl, rfl⟩
set_option maxRecDepth 100000 in
theorem rotl13 (x : Int) (w : World) :
    Calls Tryz.prog 121 #[.int .u32 x, .int .i64 (-13)] w fun e w' => e = .returned (.int .u32 (rotr x 8192 524288)) ∧ w = w' := by
  go_enter Tryz.func121, Tryz.ntmps121
  have e : bits .and .u64 (IntKind.u64.wrap (-13)) 31 = 19 := by decide +kernel
  go_wp2
  go_ret
  exact ⟨ret_int (or_comm32 _ _), rfl⟩
set_option maxRecDepth 100000 in
theorem right13 (x : Int) (w : World) :
    Calls Tryz.prog 115 #[.int .u32 x, .int .i64 13] w fun e w' => e = .returned (.int .u32 (rotr x 8192 524288)) ∧ w = w' := by
  go_enter Tryz.func115, Tryz.ntmps115
  go_wp2_with (go_at_call 121; refine (rotl13 x _).mono ?_; rintro e w' ⟨rfl, rfl⟩)
  go_ret
  exact ⟨rfl, rfl⟩
set_option maxRecDepth 100000 in
theorem rotl22 (x : Int) (w : World) :
    Calls Tryz.prog 121 #[.int .u32 x, .int .i64 (-22)] w fun e w' => e = .returned (.int .u32 (rotr x 4194304 1024)) ∧ w = w' := by
  go_enter Tryz.func121, Tryz.ntmps121
  have e : bits .and .u64 (IntKind.u64.wrap (-22)) 31 = 10 := by decide +kernel
  go_wp2
  go_ret
  exact ⟨ret_int (or_comm32 _ _), rfl⟩
set_option maxRecDepth 100000 in
theorem right22 (x : Int) (w : World) :
    Calls Tryz.prog 115 #[.int .u32 x, .int .i64 22] w fun e w' => e = .returned (.int .u32 (rotr x 4194304 1024)) ∧ w = w' := by
  go_enter Tryz.func115, Tryz.ntmps115
  go_wp2_with (go_at_call 121; refine (rotl22 x _).mono ?_; rintro e w' ⟨rfl, rfl⟩)
  go_ret
  exact ⟨rfl, rfl⟩
def rots : List Int := [7, 18, 17, 19, 6, 11, 25, 2, 13, 22]
theorem rots_all {n : Int} (h : n ∈ rots) : n = 7 ∨ n = 18 ∨ n = 17 ∨ n = 19 ∨ n = 6 ∨ n = 11 ∨ n = 25 ∨ n = 2 ∨ n = 13 ∨ n = 22 := by
  simpa [rots] using h
theorem right_any (x n : Int) (w : World) (h : n ∈ rots) :
    Calls Tryz.prog 115 #[.int .u32 x, .int .i64 n] w fun e w' => e = .returned (.int .u32 (rot x n)) ∧ w = w' := by
  rcases rots_all h with rfl | rfl | rfl | rfl | rfl | rfl | rfl | rfl | rfl | rfl
  · exact right7 x w
  · exact right18 x w
  · exact right17 x w
  · exact right19 x w
  · exact right6 x w
  · exact right11 x w
  · exact right25 x w
  · exact right2 x w
  · exact right13 x w
  · exact right22 x w
theorem still {P : Program} {f : FuncId} {args : Array Value} {w : World} {c n : Nat} {v : Value} (h : Calls P f args (w.drewN (c + n)) fun e w' => e = .returned v ∧ w.drewN (c + n) = w') :
    Calls P f args (w.drewN (c + n)) fun e w'' => e = .returned v ∧ ∃ m, w'' = w.drewN (c + m) :=
  h.mono fun _ _ ⟨a, b⟩ => ⟨a, n, b.symm⟩
theorem index8 (w : World) {t : TypeId} (ht : Tryz.prog.underlying t = some (.array 8 97)) (cs : Array Value) (i : Nat) (hi : i < 8) (v : Value) (hv : cs[i]? = some v) :
    (Instr.index t (.agg cs) (.int .i64 (i : Int))).run Tryz.prog w = .ok v w := by
  simp [Instr.index, asIntOf, run_underlying ht, part, Tryz.sizeOf97, Tryz.isAgg97, hv]
  intro h
  omega
end Go.Proofs.YtnahkfchcminpaaGreatDoor
