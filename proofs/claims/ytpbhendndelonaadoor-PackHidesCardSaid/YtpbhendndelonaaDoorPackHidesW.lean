/- The walk of the law PackHides. -/
import Derived.Test.YtpbhendndelonaaDoorPackH
import Derived.Test.YtpbhendndelonaaDoorPackL
namespace Go.Proofs.YtpbhendndelonaaDoor
open Go.RowKit
theorem Bases.regrown {w : World} (h : Bases w) (d : Nat) (os : Array Obj) : Bases (Go.Sort.grow (redrawn w d) os) := h.keep (below_regrown w d os)
theorem padRes_ok (s : List UInt8) (u : Nat) (h : (padL s u).length ≤ 16384) : padRes s u = .tuple #[.string ⟨(padL s u).toArray⟩, .int .i64 0] := by rw [padRes, if_neg (by omega)]
theorem stripRes_pad (s : List UInt8) (u : Nat) (hu : 1 ≤ u) (hu2 : u ≤ 1024) (hl : (padL s u).length ≤ 16384) : stripRes (padL s u) = .tuple #[.string ⟨s.toArray⟩, .int .i64 0] := by
  rw [stripRes, strip_pad s u hu hu2 hl]
theorem pad_same (a b : List UInt8) (u : Nat) (hu : 1 ≤ u) : (padL a u).length = (padL b u).length ↔ a.length / u = b.length / u := by
  rw [pad_mod a u hu, pad_mod b u hu]
  constructor
  · intro h
    have := Nat.eq_of_mul_eq_mul_left (show 0 < u by omega) h
    omega
  · intro h; rw [h]
set_option maxRecDepth 100000 in
theorem hides_walk (W : World) (hB : Bases W) (a : List UInt8) (ha : a.length ≤ 140737488351232) (b : List UInt8) (hb : b.length ≤ 140737488351232) (n : Nat) (hn : n < 256) :
    Calls Tryd.prog 6 #[.string ⟨a.toArray⟩, .string ⟨b.toArray⟩, .int .u8 (n : Int)] W fun e w' => e = .returned (.bool true) ∧ Below W.heap.size W w' := by
  go_enter Tryd.func6, Tryd.ntmps6
  by_cases h1 : a.length > 300
  · have hd : decide ((a.length : Int) > 300) = true := by simp; omega
    go_wp2_with (go_at_call 8; (with_reducible refine (awake5_walk _ hB).mono ?_))
    rintro e w1 ⟨rfl, hb1⟩
    go_wp2
    go_ret
    exact ⟨rfl, hb1⟩
  have hd1 : decide ((a.length : Int) > 300) = false := by simp; omega
  by_cases h2 : b.length > 300
  · have hd : decide ((b.length : Int) > 300) = true := by simp; omega
    go_wp2_with (go_at_call 8; (with_reducible refine (awake5_walk _ hB).mono ?_))
    rintro e w1 ⟨rfl, hb1⟩
    go_wp2
    go_ret
    exact ⟨rfl, hb1⟩
  have hd2 : decide ((b.length : Int) > 300) = false := by simp; omega
  obtain ⟨u, hu⟩ : ∃ u, u = 1 + n := ⟨_, rfl⟩
  have hui : (1 : Int) + (n : Int) = (u : Int) := by omega
  have hu1 : 1 ≤ u := by omega
  have hu2 : u ≤ 256 := by omega
  clear hu hn ha hb
  have la := padL_length a u
  have lb := padL_length b u
  have lla : (padL a u).length ≤ 1000 := by omega
  have llb : (padL b u).length ≤ 1000 := by omega
  have RA := Lib.hid (padRes_ok a u (by omega))
  have RB := Lib.hid (padRes_ok b u (by omega))
  have SA := Lib.hid (stripRes_pad a u hu1 (by omega) (by omega))
  have SB := Lib.hid (stripRes_pad b u hu1 (by omega) (by omega))
  have hps := pad_same a b u hu1
  have hmo : (padL a u).length % u = 0 := by rw [pad_mod a u hu1]; exact Nat.mul_mod_right _ _
  clear la lb
  obtain ⟨x, hx⟩ : ∃ x, x = padL a u := ⟨_, rfl⟩
  obtain ⟨y, hy⟩ : ∃ y, y = padL b u := ⟨_, rfl⟩
  rw [← hx] at RA SA lla hps hmo
  rw [← hy] at RB SB llb hps
  clear hx hy
  have hmi : (x.length : Int) % (u : Int) = 0 := by rw [← Int.natCast_emod, hmo]; rfl
  obtain ⟨qa, hqa⟩ : ∃ q, q = a.length / u := ⟨_, rfl⟩
  obtain ⟨qb, hqb⟩ : ∃ q, q = b.length / u := ⟨_, rfl⟩
  have hqai : (a.length : Int) / (u : Int) = (qa : Int) := by rw [hqa, Int.natCast_ediv]
  have hqbi : (b.length : Int) / (u : Int) = (qb : Int) := by rw [hqb, Int.natCast_ediv]
  rw [← hqa, ← hqb] at hps
  have hu0 : (0 : Int) < (u : Int) := by omega
  have hbq : ((x.length : Int) == (y.length : Int)) = ((qa : Int) == (qb : Int)) := by
    rw [Bool.eq_iff_iff, beq_iff_eq, beq_iff_eq]; omega
  have hqal : qa ≤ 300 := by have := Nat.div_le_self a.length u; omega
  have hqbl : qb ≤ 300 := by have := Nat.div_le_self b.length u; omega
  clear hqa hqb hmo hps
  generalize hbv : ((qa : Int) == (qb : Int)) = bv at hbq
  go_wp2_with (go_at_call 15; (with_reducible refine (pad_walk a u _ (by omega) hu1 (by omega)).mono ?_))
  rintro e w1 ⟨rfl, hb1⟩
  rw [RA.out]
  go_wp2_with (go_at_call 15; (with_reducible refine (pad_walk b u _ (by omega) hu1 (by omega)).mono ?_))
  rintro e w2 ⟨rfl, hb2⟩
  rw [RB.out]
  replace hb2 := below_tr hb1 hb2
  go_wp2_with (go_at_call 19; (with_reducible refine (strip_walk x _ (by omega)).mono ?_))
  rintro e w3 ⟨rfl, rfl⟩
  rw [SA.out]
  go_wp2_with (go_at_call 19; (with_reducible refine (strip_walk y _ (by omega)).mono ?_))
  rintro e w3 ⟨rfl, rfl⟩
  rw [SB.out]
  replace hB := hB.keep hb2
  clear hb1
  go_wp2
  have t1 : (x.length : Int).tmod (u : Int) = 0 := by rw [Int.tmod_eq_emod_of_nonneg (by omega)]; exact hmi
  have t2 : (a.length : Int).tdiv (u : Int) = (qa : Int) := by rw [Int.tdiv_eq_ediv_of_nonneg (by omega)]; exact hqai
  have t3 : (b.length : Int).tdiv (u : Int) = (qb : Int) := by rw [Int.tdiv_eq_ediv_of_nonneg (by omega)]; exact hqbi
  cases bv
  all_goals
    refine wp_region_quiet_below (by kernel_rfl) (by kernel_rfl) ?_
    repeat (go_big_quiet_step (first | (go_at_call 8; exact Calls.regrown_of (awake5_walk _ (hB.regrown _ _)))))
    refine wpQuiet_nil ?_
    rintro w4 ⟨p1, rfl⟩
    have hb3 := below_tr hb2 (below_regrown w2 p1.d p1.os)
    go_wp2
    go_ret
    exact ⟨rfl, hb3⟩
end Go.Proofs.YtpbhendndelonaaDoor
