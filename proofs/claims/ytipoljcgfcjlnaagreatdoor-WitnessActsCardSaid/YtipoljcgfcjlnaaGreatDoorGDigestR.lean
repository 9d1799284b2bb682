/- The rotations, the words. -/
import Derived.Test.YtipoljcgfcjlnaaGreatDoorDigestP
import Derived.Test.YtipoljcgfcjlnaaGreatDoorGDigestS
import Derived.Laws.Tables
namespace Go.Proofs.YtipoljcgfcjlnaaGreatDoor
open Go.RowKit
theorem or_comm32 (a b : Int) : bits .or .u32 a b = bits .or .u32 b a := by
  show IntKind.u32.wrap ((BitVec.ofInt 32 a ||| BitVec.ofInt 32 b).toNat : Int) = IntKind.u32.wrap ((BitVec.ofInt 32 b ||| BitVec.ofInt 32 a).toNat : Int)
  rw [BitVec.or_comm]

set_option maxRecDepth 100000 in
theorem rotl7 (x : Int) (w : World) :
    Calls Tryz.prog 110 #[.int .u32 x, .int .i64 (-7)] w fun e w' => e = .returned (.int .u32 (rotr x 128 33554432)) ∧ w = w' := by
  go_enter Tryz.func110, Tryz.ntmps110
  have e : bits .and .u64 (IntKind.u64.wrap (-7)) 31 = 25 := by decide +kernel
  go_wp2
  go_ret
  exact ⟨ret_int (or_comm32 _ _), rfl⟩
set_option maxRecDepth 100000 in
theorem right7 (x : Int) (w : World) :
    Calls Tryz.prog 104 #[.int .u32 x, .int .i64 7] w fun e w' => e = .returned (.int .u32 (rotr x 128 33554432)) ∧ w = w' := by
  go_enter Tryz.func104, Tryz.ntmps104
  go_wp2_with (go_at_call 110; refine (rotl7 x _).mono ?_; rintro e w' ⟨rfl, rfl⟩)
  go_ret
  exact ⟨rfl, rfl⟩
set_option maxRecDepth 100000 in
theorem rotl18 (x : Int) (w : World) :
    Calls Tryz.prog 110 #[.int .u32 x, .int .i64 (-18)] w fun e w' => e = .returned (.int .u32 (rotr x 262144 16384)) ∧ w = w' := by
  go_enter Tryz.func110, Tryz.ntmps110
  have e : bits .and .u64 (IntKind.u64.wrap (-18)) 31 = 14 := by decide +kernel
  go_wp2
  go_ret
  exact ⟨ret_int (or_comm32 _ _), rfl⟩
set_option maxRecDepth 100000 in
theorem right18 (x : Int) (w : World) :
    Calls Tryz.prog 104 #[.int .u32 x, .int .i64 18] w fun e w' => e = .returned (.int .u32 (rotr x 262144 16384)) ∧ w = w' := by
  go_enter Tryz.func104, Tryz.ntmps104
  go_wp2_with (go_at_call 110; refine (rotl18 x _).mono ?_; rintro e w' ⟨rfl, rfl⟩)
  go_ret
  exact ⟨rfl, rfl⟩
set_option maxRecDepth 100000 in
theorem rotl17 (x : Int) (w : World) :
    Calls Tryz.prog 110 #[.int .u32 x, .int .i64 (-17)] w fun e w' => e = .returned (.int .u32 (rotr x 131072 32768)) ∧ w = w' := by
  go_enter Tryz.func110, Tryz.ntmps110
  have e : bits .and .u64 (IntKind.u64.wrap (-17)) 31 = 15 := by decide +kernel
  go_wp2
  go_ret
  exact ⟨ret_int (or_comm32 _ _), rfl⟩
set_option maxRecDepth 100000 in
theorem right17 (x : Int) (w : World) :
    Calls Tryz.prog 104 #[.int .u32 x, .int .i64 17] w fun e w' => e = .returned (.int .u32 (rotr x 131072 32768)) ∧ w = w' := by
  go_enter Tryz.func104, Tryz.ntmps104
  go_wp2_with (go_at_call 110; refine (rotl17 x _).mono ?_; rintro e w' ⟨rfl, rfl⟩)
  go_ret
  exact ⟨rfl, rfl⟩
set_option maxRecDepth 100000 in
theorem rotl19 (x : Int) (w : World) :
    Calls Tryz.prog 110 #[.int .u32 x, .int .i64 (-19)] w fun e w' => e = .returned (.int .u32 (rotr x 524288 8192)) ∧ w = w' := by
  go_enter Tryz.func110, Tryz.ntmps110
  have e : bits .and .u64 (IntKind.u64.wrap (-19)) 31 = 13 := by decide +kernel
  go_wp2
  go_ret
  exact ⟨ret_int (or_comm32 _ _), rfl⟩
set_option maxRecDepth 100000 in
theorem right19 (x : Int) (w : World) :
    Calls Tryz.prog 104 #[.int .u32 x, .int .i64 19] w fun e w' => e = .returned (.int .u32 (rotr x 524288 8192)) ∧ w = w' := by
  go_enter Tryz.func104, Tryz.ntmps104
  go_wp2_with (go_at_call 110; refine (rotl19 x _).mono ?_; rintro e w' ⟨rfl, rfl⟩)
  go_ret
  exact ⟨rfl, rfl⟩
set_option maxRecDepth 100000 in
theorem rotl6 (x : Int) (w : World) :
    Calls Tryz.prog 110 #[.int .u32 x, .int .i64 (-6)] w fun e w' => e = .returned (.int .u32 (rotr x 64 67108864)) ∧ w = w' := by
  go_enter Tryz.func110, Tryz.ntmps110
  have e : bits .and .u64 (IntKind.u64.wrap (-6)) 31 = 26 := by decide +kernel
  go_wp2
  go_ret
  exact ⟨ret_int (or_comm32 _ _), rfl⟩
set_option maxRecDepth 100000 in
theorem right6 (x : Int) (w : World) :
    Calls Tryz.prog 104 #[.int .u32 x, .int .i64 6] w fun e w' => e = .returned (.int .u32 (rotr x 64 67108864)) ∧ w = w' := by
  go_enter Tryz.func104, Tryz.ntmps104
  go_wp2_with (go_at_call 110; refine (rotl6 x _).mono ?_; rintro e w' ⟨rfl, rfl⟩)
  go_ret
  exact ⟨rfl, rfl⟩
set_option maxRecDepth 100000 in
theorem rotl11 (x : Int) (w : World) :
    Calls Tryz.prog 110 #[.int .u32 x, .int .i64 (-11)] w fun e w' => e = .returned (.int .u32 (rotr x 2048 2097152)) ∧ w = w' := by
  go_enter Tryz.func110, Tryz.ntmps110
  have e : bits .and .u64 (IntKind.u64.wrap (-11)) 31 = 21 := by decide +kernel
  go_wp2
  go_ret
  exact ⟨ret_int (or_comm32 _ _), rfl⟩
set_option maxRecDepth 100000 in
theorem right11 (x : Int) (w : World) :
    Calls Tryz.prog 104 #[.int .u32 x, .int .i64 11] w fun e w' => e = .returned (.int .u32 (rotr x 2048 2097152)) ∧ w = w' := by
  go_enter Tryz.func104, Tryz.ntmps104
  go_wp2_with (go_at_call 110; refine (rotl11 x _).mono ?_; rintro e w' ⟨rfl, rfl⟩)
  go_ret
  exact ⟨rfl, rfl⟩
set_option maxRecDepth 100000 in
theorem rotl25 (x : Int) (w : World) :
    Calls Tryz.prog 110 #[.int .u32 x, .int .i64 (-25)] w fun e w' => e = .returned (.int .u32 (rotr x 33554432 128)) ∧ w = w' := by
  go_enter Tryz.func110, Tryz.ntmps110
  have e : bits .and .u64 (IntKind.u64.wrap (-25)) 31 = 7 := by decide +kernel
  go_wp2
  go_ret
  exact ⟨ret_int (or_comm32 _ _), rfl⟩
set_option maxRecDepth 100000 in
theorem right25 (x : Int) (w : World) :
    Calls Tryz.prog 104 #[.int .u32 x, .int .i64 25] w fun e w' => e = .returned (.int .u32 (rotr x 33554432 128)) ∧ w = w' := by
  go_enter Tryz.func104, Tryz.ntmps104
  go_wp2_with (go_at_call 110; refine (rotl25 x _).mono ?_; rintro e w' ⟨rfl, rfl⟩)
  go_ret
  exact ⟨rfl, rfl⟩
set_option maxRecDepth 100000 in
theorem rotl2 (x : Int) (w : World) :
    Calls Tryz.prog 110 #[.int .u32 x, .int .i64 (-2)] w fun e w' => e = .returned (.int .u32 (rotr x 4 1073741824)) ∧ w = w' := by
  go_enter Tryz.func110, Tryz.ntmps110
  have e : bits .and .u64 (IntKind.u64.wrap (-2)) 31 = 30 := by decide +kernel
  go_wp2
  go_ret
  exact ⟨ret_int (or_comm32 _ _), rfl⟩
set_option maxRecDepth 100000 in
theorem right2 (x : Int) (w : World) :
    Calls Tryz.prog 104 #[.int .u32 x, .int .i64 2] w fun e w' => e = .returned (.int .u32 (rotr x 4 1073741824)) ∧ w = w' := by
  go_enter Tryz.func104, Tryz.ntmps104
  go_wp2_with (go_at_call 110; refine (rotl2 x _).mono ?_; rintro e w' ⟨rfl, rfl⟩)
  go_ret
  exact ⟨rfl, rfl⟩
set_option maxRecDepth 100000 in
theorem rotl13 (x : Int) (w : World) :
    Calls Tryz.prog 110 #[.int .u32 x, .int .i64 (-13)] w fun e w' => e = .returned (.int .u32 (rotr x 8192 524288)) ∧ w = w' := by
  go_enter Tryz.func110, Tryz.ntmps110
  have e : bits .and .u64 (IntKind.u64.wrap (-13)) 31 = 19 := by decide +kernel
  go_wp2
  go_ret
  exact ⟨ret_int (or_comm32 _ _), rfl⟩
set_option maxRecDepth 100000 in
theorem right13 (x : Int) (w : World) :
    Calls Tryz.prog 104 #[.int .u32 x, .int .i64 13] w fun e w' => e = .returned (.int .u32 (rotr x 8192 524288)) ∧ w = w' := by
  go_enter Tryz.func104, Tryz.ntmps104
  go_wp2_with (go_at_call 110; refine (rotl13 x _).mono ?_; rintro e w' ⟨rfl, rfl⟩)
  go_ret
  exact ⟨rfl, rfl⟩
set_option maxRecDepth 100000 in
theorem rotl22 (x : Int) (w : World) :
    Calls Tryz.prog 110 #[.int .u32 x, .int .i64 (-22)] w fun e w' => e = .returned (.int .u32 (rotr x 4194304 1024)) ∧ w = w' := by
  go_enter Tryz.func110, Tryz.ntmps110
  have e : bits .and .u64 (IntKind.u64.wrap (-22)) 31 = 10 := by decide +kernel
  go_wp2
  go_ret
  exact ⟨ret_int (or_comm32 _ _), rfl⟩
set_option maxRecDepth 100000 in
theorem right22 (x : Int) (w : World) :
    Calls Tryz.prog 104 #[.int .u32 x, .int .i64 22] w fun e w' => e = .returned (.int .u32 (rotr x 4194304 1024)) ∧ w = w' := by
  go_enter Tryz.func104, Tryz.ntmps104
  go_wp2_with (go_at_call 110; refine (rotl22 x _).mono ?_; rintro e w' ⟨rfl, rfl⟩)
  go_ret
  exact ⟨rfl, rfl⟩
def rots : List Int := [7, 18, 17, 19, 6, 11, 25, 2, 13, 22]
theorem rots_all {n : Int} (h : n ∈ rots) : n = 7 ∨ n = 18 ∨ n = 17 ∨ n = 19 ∨ n = 6 ∨ n = 11 ∨ n = 25 ∨ n = 2 ∨ n = 13 ∨ n = 22 := by
  simpa [rots] using h
theorem right_any (x n : Int) (w : World) (h : n ∈ rots) :
    Calls Tryz.prog 104 #[.int .u32 x, .int .i64 n] w fun e w' => e = .returned (.int .u32 (rot x n)) ∧ w = w' := by
  rcases rots_all h with rfl | rfl | rfl | rfl | rfl | rfl | rfl | rfl | rfl | rfl
  · exact right7 x w
  · exact right18 x w
  · exact right17 x w
  · exact right19 x w
  · exact right6 x w
  · exact right11 x w
  · exact right25 x w
  · exact right2 x w
  · exact right13 x w
  · exact right22 x w
theorem still {P : Program} {f : FuncId} {args : Array Value} {w : World} {c n : Nat} {v : Value} (h : Calls P f args (w.drewN (c + n)) fun e w' => e = .returned v ∧ w.drewN (c + n) = w') :
    Calls P f args (w.drewN (c + n)) fun e w'' => e = .returned v ∧ ∃ m, w'' = w.drewN (c + m) :=
  h.mono fun _ _ ⟨a, b⟩ => ⟨a, n, b.symm⟩
theorem index8 (w : World) {t : TypeId} (ht : Tryz.prog.underlying t = some (.array 8 66)) (cs : Array Value) (i : Nat) (hi : i < 8) (v : Value) (hv : cs[i]? = some v) :
    (Instr.index t (.agg cs) (.int .i64 (i : Int))).run Tryz.prog w = .ok v w := by
  simp [Instr.index, asIntOf, run_underlying ht, part, Tryz.sizeOf66, Tryz.isAgg66, hv]
  intro h
  omega
end Go.Proofs.YtipoljcgfcjlnaaGreatDoor
/- The reference's turns of words. -/
namespace Go.Proofs.YtipoljcgfcjlnaaGreatDoor
open Go.RowKit
set_option maxRecDepth 100000 in
theorem rright7 (x : Int) (w : World) :
    Calls Tryz.prog 70 #[.int .u32 x, .int .i64 7] w fun e w' => e = .returned (.int .u32 (rotr x 128 33554432)) ∧ w = w' := by
  go_enter Tryz.func70, Tryz.ntmps70
  go_wp2
  go_ret
  exact ⟨rfl, rfl⟩

set_option maxRecDepth 100000 in
theorem rright18 (x : Int) (w : World) :
    Calls Tryz.prog 70 #[.int .u32 x, .int .i64 18] w fun e w' => e = .returned (.int .u32 (rotr x 262144 16384)) ∧ w = w' := by
  go_enter Tryz.func70, Tryz.ntmps70
  go_wp2
  go_ret
  exact ⟨rfl, rfl⟩

set_option maxRecDepth 100000 in
theorem rright17 (x : Int) (w : World) :
    Calls Tryz.prog 70 #[.int .u32 x, .int .i64 17] w fun e w' => e = .returned (.int .u32 (rotr x 131072 32768)) ∧ w = w' := by
  go_enter Tryz.func70, Tryz.ntmps70
  go_wp2
  go_ret
  exact ⟨rfl, rfl⟩

set_option maxRecDepth 100000 in
theorem rright19 (x : Int) (w : World) :
    Calls Tryz.prog 70 #[.int .u32 x, .int .i64 19] w fun e w' => e = .returned (.int .u32 (rotr x 524288 8192)) ∧ w = w' := by
  go_enter Tryz.func70, Tryz.ntmps70
  go_wp2
  go_ret
  exact ⟨rfl, rfl⟩

set_option maxRecDepth 100000 in
theorem rright6 (x : Int) (w : World) :
    Calls Tryz.prog 70 #[.int .u32 x, .int .i64 6] w fun e w' => e = .returned (.int .u32 (rotr x 64 67108864)) ∧ w = w' := by
  go_enter Tryz.func70, Tryz.ntmps70
  go_wp2
  go_ret
  exact ⟨rfl, rfl⟩

set_option maxRecDepth 100000 in
theorem rright11 (x : Int) (w : World) :
    Calls Tryz.prog 70 #[.int .u32 x, .int .i64 11] w fun e w' => e = .returned (.int .u32 (rotr x 2048 2097152)) ∧ w = w' := by
  go_enter Tryz.func70, Tryz.ntmps70
  go_wp2
  go_ret
  exact ⟨rfl, rfl⟩

set_option maxRecDepth 100000 in
theorem rright25 (x : Int) (w : World) :
    Calls Tryz.prog 70 #[.int .u32 x, .int .i64 25] w fun e w' => e = .returned (.int .u32 (rotr x 33554432 128)) ∧ w = w' := by
  go_enter Tryz.func70, Tryz.ntmps70
  go_wp2
  go_ret
  exact ⟨rfl, rfl⟩

set_option maxRecDepth 100000 in
theorem rright2 (x : Int) (w : World) :
    Calls Tryz.prog 70 #[.int .u32 x, .int .i64 2] w fun e w' => e = .returned (.int .u32 (rotr x 4 1073741824)) ∧ w = w' := by
  go_enter Tryz.func70, Tryz.ntmps70
  go_wp2
  go_ret
  exact ⟨rfl, rfl⟩

set_option maxRecDepth 100000 in
theorem rright13 (x : Int) (w : World) :
    Calls Tryz.prog 70 #[.int .u32 x, .int .i64 13] w fun e w' => e = .returned (.int .u32 (rotr x 8192 524288)) ∧ w = w' := by
  go_enter Tryz.func70, Tryz.ntmps70
  go_wp2
  go_ret
  exact ⟨rfl, rfl⟩

set_option maxRecDepth 100000 in
theorem rright22 (x : Int) (w : World) :
    Calls Tryz.prog 70 #[.int .u32 x, .int .i64 22] w fun e w' => e = .returned (.int .u32 (rotr x 4194304 1024)) ∧ w = w' := by
  go_enter Tryz.func70, Tryz.ntmps70
  go_wp2
  go_ret
  exact ⟨rfl, rfl⟩
theorem rright_any (x n : Int) (w : World) (h : n ∈ rots) :
    Calls Tryz.prog 70 #[.int .u32 x, .int .i64 n] w fun e w' => e = .returned (.int .u32 (rot x n)) ∧ w = w' := by
  rcases rots_all h with rfl | rfl | rfl | rfl | rfl | rfl | rfl | rfl | rfl | rfl
  · exact rright7 x w
  · exact rright18 x w
  · exact rright17 x w
  · exact rright19 x w
  · exact rright6 x w
  · exact rright11 x w
  · exact rright25 x w
  · exact rright2 x w
  · exact rright13 x w
  · exact rright22 x w
end Go.Proofs.YtipoljcgfcjlnaaGreatDoor
/- The constants and the beginning. -/
namespace Go.Proofs.YtipoljcgfcjlnaaGreatDoor
open Go.RowKit
set_option maxRecDepth 100000 in
theorem begin_walk (w : World) : Calls Tryz.prog 96 #[] w fun e w' => e = .returned (.agg (u32s H0).toArray) ∧ Below w.heap.size w w' := by
  go_enter Tryz.func96, Tryz.ntmps96
  go_wp2
  refine bodyPost_ret (results_cell_row rfl _ _ w.heap.size _ (u32s H0).toArray _ _ rfl (heap_alloc_new w _) Tryz.underlying102 rfl (by kernel_rfl)) rfl ⟨rfl, (Below.refl _ _).alloc (Nat.le_refl _) _⟩
set_option maxRecDepth 100000 in
theorem constants_walk (w : World) : Calls Tryz.prog 97 #[] w fun e w' => e = .returned (.pointer (some ⟨w.heap.size, 0, none⟩)) ∧ Wd w' w.heap.size 69 KS ∧ Below w.heap.size w w' := by
  go_enter Tryz.func97, Tryz.ntmps97
  go_wp2_with (refine wpList_build rfl _ _ rfl ?hf ?_)
  case hf => kernel_rfl
  generalize hA : Option.getD (Program.built _ _ _) _ = A
  have hA' : A = (u32s KS).toArray := by rw [← hA]; kernel_rfl
  clear hA
  subst hA'
  go_wp2
  go_ret
  exact ⟨rfl, heap_alloc_new w _, (Below.refl _ _).alloc (Nat.le_refl _) _⟩
end Go.Proofs.YtipoljcgfcjlnaaGreatDoor
/- The reference's constants and beginning. -/
namespace Go.Proofs.YtipoljcgfcjlnaaGreatDoor
open Go.RowKit
set_option maxRecDepth 100000 in
theorem first_walk (w : World) : Calls Tryz.prog 43 #[] w fun e w' => e = .returned (.agg (u32s H0).toArray) ∧ Below w.heap.size w w' := by
  go_enter Tryz.func43, Tryz.ntmps43
  go_wp2
  refine bodyPost_ret (results_cell_row rfl _ _ w.heap.size _ (u32s H0).toArray _ _ rfl (heap_alloc_new w _) Tryz.underlying67 rfl (by kernel_rfl)) rfl ⟨rfl, (Below.refl _ _).alloc (Nat.le_refl _) _⟩
set_option maxRecDepth 100000 in
set_option maxHeartbeats 1000000 in
theorem rconstants_walk (w : World) : Calls Tryz.prog 44 #[] w fun e w' => e = .returned (.agg (u32s KS).toArray) ∧ Below w.heap.size w w' := by
  go_enter Tryz.func44, Tryz.ntmps44
  go_wp2_with (refine wpList_build rfl _ _ rfl ?hf ?_)
  case hf => kernel_rfl
  generalize hA : Option.getD (Program.built _ _ _) _ = A
  have hA' : A = (u32s KS).toArray := by rw [← hA]; kernel_rfl
  clear hA
  subst hA'
  go_wp2
  rw [run_storeCells_from (P := Tryz.prog) w.heap.size 69 (u32s KS) 0 _ _ (heap_alloc_new w _) (by kernel_rfl) (by intro v hv; obtain ⟨_, _, rfl⟩ := List.mem_map.1 hv; rfl)]
  generalize hw2 : World.setRow _ _ _ = w2
  have hW : w2.heap[w.heap.size]? = some (.cells (u32s KS).toArray 69 (0, 0)) := by rw [← hw2]; exact setRow_heap _ _ _ _ _ _ (heap_alloc_new w _)
  have hB : Below w.heap.size w w2 := by
    rw [← hw2]
    exact ⟨rfl, rfl, rfl, by simp, fun k hk => (setRow_other _ _ _ _ (by omega)).trans (Below.heap_alloc w _ k hk)⟩
  clear hw2
  simp only [Result.andThen]
  go_wp2
  refine bodyPost_ret (results_cell_row rfl _ _ w.heap.size _ (u32s KS).toArray _ _ rfl hW Tryz.underlying69 rfl (by kernel_rfl)) rfl ⟨rfl, hB⟩
end Go.Proofs.YtipoljcgfcjlnaaGreatDoor
