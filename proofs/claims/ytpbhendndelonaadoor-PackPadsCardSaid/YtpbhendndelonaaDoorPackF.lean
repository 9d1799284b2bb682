/- Padded strings: the program's. -/
import Derived.Test.YtpbhendndelonaaDoorBase
import Derived.Test.YtpbhendndelonaaDoorShelf
namespace Go.Proofs.YtpbhendndelonaaDoor
open Go.RowKit
theorem repeat0_walk (n : Nat) (w : World) (h : n ≤ 140737488355328) :
    Calls Tryd.prog 26 #[.string ⟨#[0]⟩, .int .i64 n] w fun e w' => e = .returned (.string ⟨(List.replicate n (0 : UInt8)).toArray⟩) ∧ Below w.heap.size w w' := by
  have hz : Lib.repeatL [(0 : UInt8)] n = List.replicate n 0 := by
    induction n with
    | zero => rfl
    | succ n ih => simp [Lib.repeatL, ih (by omega), List.replicate_succ]
  have := Tryd.strings_Repeat ⟨#[0]⟩ n w (by omega) (by show 1 * n ≤ _; omega)
  rw [← hz]
  exact this
/-- a string padded to a multiple of u -/
def padL (s : List UInt8) (u : Nat) : List UInt8 := s ++ [128] ++ List.replicate (u - 1 - s.length % u) 0
theorem padL_length (s : List UInt8) (u : Nat) : (padL s u).length = s.length + 1 + (u - 1 - s.length % u) := by simp [padL]; omega
theorem pad_bytes (s : List UInt8) (z : Nat) : (ByteArray.mk s.toArray ++ ByteArray.mk #[128] ++ ByteArray.mk (Array.replicate z 0) : ByteArray) = ByteArray.mk (s ++ [128] ++ List.replicate z 0).toArray := by
  apply ByteArray.ext; simp
def padRes (s : List UInt8) (u : Nat) : Value := if (padL s u).length > 16384 then .tuple #[.string ⟨#[]⟩, .int .i64 3] else .tuple #[.string ⟨(padL s u).toArray⟩, .int .i64 0]
set_option maxRecDepth 100000 in
theorem pad_walk (s : List UInt8) (u : Nat) (w : World) (hs : s.length ≤ 1048576) (hu : 1 ≤ u) (hu2 : u ≤ 1024) :
    Calls Tryd.prog 15 #[.string ⟨s.toArray⟩, .int .i64 (u : Int)] w fun e w' => e = .returned (padRes s u) ∧ Below w.heap.size w w' := by
  obtain ⟨r, hr⟩ : ∃ r, r = s.length % u := ⟨_, rfl⟩
  have hri : (s.length : Int) % (u : Int) = (r : Int) := by rw [hr, Int.natCast_emod]
  have hru : r < u := by rw [hr]; exact Nat.mod_lt _ (by omega)
  obtain ⟨z, hz⟩ : ∃ z, z = u - 1 - r := ⟨_, rfl⟩
  have hzi : (u : Int) - 1 - (r : Int) = (z : Int) := by omega
  have hpl := padL_length s u
  rw [← hr, ← hz] at hpl
  have hpd : padL s u = s ++ [128] ++ List.replicate z 0 := by rw [padL, ← hr, ← hz]
  have HPD := Lib.hid hpd
  have HPL := Lib.hid hpl
  have hz1 : z ≤ 1024 := by omega
  clear hr hz hpd hpl
  have hu0 : (0 : Int) < (u : Int) := by omega
  go_enter Tryd.func15, Tryd.ntmps15
  rcases Nat.lt_or_ge 16384 (s.length + 1 + z) with h | h
  · have hR : padRes s u = .tuple #[.string ⟨#[]⟩, .int .i64 3] := by rw [padRes, if_pos (by rw [HPL.out]; exact h)]
    go_wp2
    go_ret2
    exact ⟨by rw [hR]; rfl, Below.refl _ _⟩
  · have hR : padRes s u = .tuple #[.string ⟨(padL s u).toArray⟩, .int .i64 0] := by rw [padRes, if_neg (by rw [HPL.out]; omega)]
    have HR := Lib.hid hR
    clear hR
    go_wp2_with (go_at_call 26; (refine (repeat0_walk z _ (by omega)).mono ?_))
    rintro e w1 ⟨rfl, hb1⟩
    go_wp2
    go_ret2
    refine ⟨?_, hb1⟩
    rw [HR.out, HPD.out]
    exact congrArg (fun b => Ending.returned (.tuple #[.string b, .int .i64 0])) (pad_bytes s z)
end Go.Proofs.YtpbhendndelonaaDoor
