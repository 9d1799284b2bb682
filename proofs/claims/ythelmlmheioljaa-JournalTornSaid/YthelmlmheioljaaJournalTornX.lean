/- The walk of the law JournalTorn. -/
import Derived.Test.YthelmlmheioljaaJournalTornW
namespace Go.Proofs.Ythelmlmheioljaa
open Go.RowKit
set_option maxRecDepth 100000 in
set_option maxHeartbeats 4000000 in
theorem torn_walk (W : World) (s : List UInt8) (hs : s.length ≤ 140737488351232) (F : Nat) (hF : F < 256) (n : Nat) (hn : n < 256) :
    Calls Try.prog 6 #[.string ⟨s.toArray⟩, .int .u8 (F : Int), .int .u8 (n : Int)] W fun e w' => e = .returned (.bool true) ∧ Below W.heap.size W w' := by
  go_enter Try.func6, Try.ntmps6
  by_cases h1 : s.length > 100
  · have d1 : decide ((s.length : Int) > 100) = true := decide_eq_true (by omega)
    go_wp2_with (go_at_call 7; (with_reducible refine (awake35_walk _).mono ?_))
    rintro e w1 ⟨rfl, hb1⟩
    go_wp2
    go_ret
    exact ⟨rfl, hb1⟩
  have d1 : decide ((s.length : Int) > 100) = false := decide_eq_false (by omega)
  have hs1 : s.length ≤ 100 := by omega
  clear hs h1
  obtain ⟨B, hB⟩ : ∃ B, B = n % 4 := ⟨_, rfl⟩
  have hBi : (n : Int) % 4 = (B : Int) := by rw [hB, Int.natCast_emod]; rfl
  have hB4 : B < 4 := by omega
  obtain ⟨K, hK⟩ : ∃ K, K = 1 + F := ⟨_, rfl⟩
  have hKi : (1 : Int) + (F : Int) = (K : Int) := by omega
  have hK1 : 1 ≤ K := by omega
  have hK2 : K ≤ 256 := by omega
  clear hB hK
  have hD0 := Dk.new W [] 0 false
  have hb0 := (Below.refl W.heap.size W).alloc (Nat.le_refl _) (.cells #[.string ⟨#[]⟩, .int .i64 0, .bool false] 23)
  go_wp2
  generalize hx0 : W.heap.size = x0 at *
  go_loopw [8] (fun i wr => ∃ k : Nat, k ≤ B ∧ i = .int .i64 (k : Int) ∧ Dk wr x0 (framesF (olds k) 0) 0 false ∧ Below x0 W wr) (fun i _ => B - (intOf i).toNat)
  case atStart => exact ⟨0, Nat.zero_le _, rfl, hD0, hb0⟩
  case round =>
    clear hD0 hb0
    obtain ⟨k, hk, rfl, hD, hbw⟩ := hrel
    by_cases hkt : k < B
    · have hkl := framesF_length (olds k) 0
      have hke := olds_end k
      have hAp : appF (framesF (olds k) 0) 0 false [111, 108, 100] = (framesF (olds (k + 1)) 0, 0, false, 0) := by
        rw [appF_good (olds_short k) (by decide) (by rw [hke]; simp; omega) (Int.le_refl _) (by omega), if_neg (by omega), olds_succ]; rfl
      have hcall : ∀ V, Calls Try.prog 18 #[.agg #[.string ⟨(framesF (olds k) 0).toArray⟩, .int .i64 0, .bool false], .string ⟨#[111, 108, 100]⟩] V fun e w' => e = .returned (.tuple #[.agg #[.string ⟨(framesF (olds (k + 1)) 0).toArray⟩, .int .i64 0, .bool false], .int .i64 0]) ∧ Below V.heap.size V w' := fun V => by
        have := jappend_walk (framesF (olds k) 0) 0 false [111, 108, 100] V (by omega) (by decide)
        rw [hAp] at this; exact this
      obtain ⟨Y, hY⟩ : ∃ Y, Y = framesF (olds (k + 1)) 0 := ⟨_, rfl⟩
      rw [← hY] at hcall
      have HY := Lib.hid hY
      have HC := Lib.hid hcall
      have c0 := hD.c0
      have c1 := hD.c1
      have c2 := hD.c2
      have hki : (k : Int) < (B : Int) := by omega
      clear hcall hAp hkl hke hY
      go_wp2_with (go_at_call 18; (with_reducible refine (HC.out _).mono ?_))
      rintro e w1 ⟨rfl, hb1⟩
      replace hD := hD.keep hb1
      replace hbw := hbw.trans (hb1.mono (by have := hbw.size; omega))
      clear hb1 c0 c1 c2
      have c0 := hD.c0
      have c1 := hD.c1
      have c2 := hD.c2
      have f0 := hD.free 0
      have f1 := hD.free 1
      have f2 := hD.free 2
      have hl := hD.lt
      go_wp2
      go_roundw
      case rel => exact ⟨k + 1, by omega, by go_num, by rw [← HY.out]; exact (hD.store Y 0 false).alloc _, (below3 hbw (Nat.le_refl _) _ _ _).alloc (by have := hbw.size; simp; omega) _⟩
      case measure => simp [intOf]; omega
    · obtain rfl : k = B := by omega
      have hkl := framesF_length (olds k) 0
      have hke := olds_end k
      obtain ⟨D, hDD⟩ : ∃ D, D = framesF (olds k) 0 := ⟨_, rfl⟩
      have hDl : D.length ≤ 60 := by rw [hDD, hkl, hke]; omega
      have hAr : armF D 0 false (K : Int) = (D, (K : Int), false, 0) := by
        rw [armF, if_pos (checkF_ok (by omega) (Int.le_refl _) (by omega)), if_neg (by simp), if_pos (by omega)]
      have k1 : ∀ V, Calls Try.prog 17 #[.agg #[.string ⟨D.toArray⟩, .int .i64 0, .bool false], .int .i64 (K : Int)] V fun e w' => e = .returned (.tuple #[.agg #[.string ⟨D.toArray⟩, .int .i64 (K : Int), .bool false], .int .i64 0]) ∧ Below V.heap.size V w' := fun V => by
        have := jarm_walk D 0 false (K : Int) V (by omega)
        rw [hAr] at this; exact this
      obtain ⟨M, hM⟩ : ∃ M, M = s.length + 12 := ⟨_, rfl⟩
      have hMi : (s.length : Int) + 12 = (M : Int) := by omega
      obtain ⟨ce, m, tb, eb, ⟨T⟩, hd1, hd2, hd3, hcc⟩ : ∃ (ce : Int) (m : Nat) (tb eb : Bool), Nonempty (Torn k s K ce m) ∧ decide ((M : Int) ≥ (K : Int)) = tb ∧ decide (K ≤ M) = tb ∧ ((M : Int) == (K : Int)) = eb ∧ ((ce = 54 ∧ m = k ∧ tb = true ∧ eb = false) ∨ (ce = 54 ∧ m = k + 1 ∧ tb = true ∧ eb = true) ∨ (ce = 0 ∧ m = k + 1 ∧ tb = false ∧ eb = false)) := by
        by_cases h : K < 12 + s.length
        · exact ⟨54, k, true, false, torn_less hB4 hs1 hK1 h, by simp; omega, by simp; omega, by rw [beq_eq_false_iff_ne]; omega, .inl ⟨rfl, rfl, rfl, rfl⟩⟩
        · have ht := torn_more hB4 hs1 hK1 hK2 (show 12 + s.length ≤ K by omega)
          by_cases h2 : K = 12 + s.length
          · rw [if_pos h2] at ht
            exact ⟨54, k + 1, true, true, ht, by simp; omega, by simp; omega, by rw [beq_iff_eq]; omega, .inr (.inl ⟨rfl, rfl, rfl, rfl⟩)⟩
          · rw [if_neg h2] at ht
            exact ⟨0, k + 1, false, false, ht, by simp; omega, by simp; omega, by rw [beq_eq_false_iff_ne]; omega, .inr (.inr ⟨rfl, rfl, rfl, rfl⟩)⟩
      obtain ⟨E, fe, be, L, happ, hlen, hchk, hstart, hchk2, hread, hnum⟩ := T
      rw [← hDD] at happ
      obtain ⟨G, hG⟩ : ∃ G, G = framesF L 0 := ⟨_, rfl⟩
      rw [← hG] at hstart hchk2 hread
      have hGl : G.length ≤ 65536 := by
        have h := hchk2
        rcases checkF_cases G 0 with h | h
        · exact h.2.1
        · omega
      have k2 : ∀ V, Calls Try.prog 18 #[.agg #[.string ⟨D.toArray⟩, .int .i64 (K : Int), .bool false], .string ⟨s.toArray⟩] V fun e w' => e = .returned (.tuple #[.agg #[.string ⟨E.toArray⟩, .int .i64 fe, .bool be], .int .i64 ce]) ∧ Below V.heap.size V w' := fun V => by
        have := jappend_walk D (K : Int) false s V (by omega) (by omega)
        rw [happ] at this; exact this
      have k3 : ∀ V, Calls Try.prog 19 #[.agg #[.string ⟨E.toArray⟩, .int .i64 fe, .bool be]] V fun e w' => e = .returned (.tuple #[.agg #[.string ⟨G.toArray⟩, .int .i64 0, .bool false], .int .i64 0]) ∧ Below V.heap.size V w' := fun V => by
        have := jstart_walk E fe be V (by omega)
        rw [hstart, hchk] at this; exact this
      have k4 : ∀ V, Calls Try.prog 20 #[.agg #[.string ⟨G.toArray⟩, .int .i64 0, .bool false]] V fun e w' => ∃ a cap, e = .returned (.tuple #[.slice a m cap, .int .i64 (endF L : Int), .int .i64 0]) ∧ Below V.heap.size V w' := fun V => by
        refine (jread_walk G 0 false V (by omega)).mono ?_
        rintro e w' ⟨a, cap, he, -, hb⟩
        rw [hread, hchk2, hnum] at he
        exact ⟨a, cap, he, hb⟩
      rw [← hDD] at hD
      have K1 := Lib.hid k1
      have K2 := Lib.hid k2
      have K3 := Lib.hid k3
      have K4 := Lib.hid k4
      have hwl := wbytes_length 1
      have hI1 := Lib.hid (show I64 1 from ⟨by decide, by decide⟩)
      generalize endF L = en at *
      clear k1 k2 k3 k4 hDD hkl hke hAr hM happ hlen hchk hstart hchk2 hread hnum hG hk hkt
      have c0 := hD.c0
      have c1 := hD.c1
      have c2 := hD.c2
      have hsz := hbw.size
      go_wp2_with (go_at_call 17; (with_reducible refine (K1.out _).mono ?_))
      rintro e w1 ⟨rfl, hb1⟩
      replace hbw := hbw.trans (hb1.mono (by omega))
      have hsz1 := hbw.size
      clear hb1 c0 c1 c2 hD hsz
      go_wp2_with (go_at_call 18; (with_reducible refine (K2.out _).mono ?_))
      rintro e w2 ⟨rfl, hb2⟩
      replace hbw := (hbw.alloc (by omega) _).trans (hb2.mono (by simp; omega))
      have hsz2 := hbw.size
      clear hb2
      generalize w1.heap.size = x1 at *
      go_wp2_with (go_at_call 19; (with_reducible refine (K3.out _).mono ?_))
      rintro e w3 ⟨rfl, hb3⟩
      replace hbw := (hbw.alloc (by omega) _).trans (hb3.mono (by simp; omega))
      have hsz3 := hbw.size
      clear hb3
      generalize w2.heap.size = x2 at *
      go_wp2_with (go_at_call 20; (with_reducible refine (K4.out _).mono ?_))
      rintro e w4 ⟨ra, rc, rfl, hb4⟩
      have hX := (Dk.new w3 G 0 false).keep hb4
      replace hbw := (hbw.alloc (by omega) _).trans (hb4.mono (by simp; omega))
      have hsz4 := hbw.size
      clear hb4
      generalize w3.heap.size = x3 at *
      rcases hcc with ⟨rfl, rfl, rfl, rfl⟩ | ⟨rfl, rfl, rfl, rfl⟩ | ⟨rfl, rfl, rfl, rfl⟩
      all_goals
        go_wp2_with (go_at_call 7; (with_reducible refine (awake35_walk _).mono ?_))
        rintro e w5 ⟨rfl, hb5⟩
        replace hX := hX.keep hb5
        replace hbw := hbw.trans (hb5.mono (by omega))
        have c1 := hX.c1
        clear hb5
        go_wp2_with (go_at_call 22; (with_reducible refine (rfour_walk 1 _ hI1.out).mono ?_))
        rintro e w6 ⟨rfl, hb6⟩
        generalize wbytes 1 = y at *
        go_wp2
        go_ret
        exact ⟨rfl, hx0 ▸ hbw.trans (hb6.mono (by have := hbw.size; omega))⟩
end Go.Proofs.Ythelmlmheioljaa
