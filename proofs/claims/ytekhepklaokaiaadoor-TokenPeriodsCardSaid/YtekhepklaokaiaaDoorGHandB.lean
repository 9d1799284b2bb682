/- The test of Miller and Rabin, as the groups of handles have it. -/
import Derived.Test.YtekhepklaokaiaaDoorGHandA
import Derived.Test.YtekhepklaokaiaaDoorGPackZ
namespace Go.Proofs.YtekhepklaokaiaaDoor
open Go.RowKit
def sqH (m : Nat) : Nat → Nat → Bool
  | 0, x => x == m - 1
  | k + 1, x => if x = m - 1 then true else sqH m k (x * x % m)
def passH (m b : Nat) : Bool :=
  let x := (b % m) ^ (odF 32 (m - 1) 0).1 % m
  x == 1 || sqH m ((odF 32 (m - 1) 0).2 - 1) x
def primeH (m : Nat) : List Nat → Bool
  | [] => true
  | b :: bs => (m == b || (m % b != 0 && passH m b)) && primeH m bs
set_option maxRecDepth 100000 in
theorem hpasses_walk (q b : Nat) (w : World) (hq : 6 ≤ q) (hq2 : q ≤ 2147483648) (hb : b < 16) (hqe : q % 2 = 0) :
    Calls Tryd.prog 58 #[.int .i64 ((q + 1 : Nat) : Int), .int .i64 (b : Int)] w fun e w' => e = .returned (.bool (passH (q + 1) b)) ∧ w = w' := by
  obtain ⟨o, t, hot⟩ : ∃ o t, odF 32 q 0 = (o, t) := ⟨_, _, rfl⟩
  have hpos := odF_pos 32 q 0 (by omega)
  rw [hot] at hpos
  obtain ⟨ho1, ho2⟩ := hpos
  have ht1 : 1 ≤ t ∧ t ≤ 32 := by
    have h := hot
    rw [odF, if_pos hqe] at h
    have := odF_t 31 (q / 2) (0 + 1)
    rw [h] at this
    simp at this
    omega
  have hpf : passH (q + 1) b = ((b % (q + 1)) ^ o % (q + 1) == 1 || sqH (q + 1) (t - 1) ((b % (q + 1)) ^ o % (q + 1))) := by
    rw [passH, Nat.add_sub_cancel, hot]
  have hx : (b % (q + 1)) ^ o % (q + 1) < q + 1 := Nat.mod_lt _ (by omega)
  have hb2 : b % (q + 1) < q + 1 := Nat.mod_lt _ (by omega)
  have hbi : (b : Int) % ((q + 1 : Nat) : Int) = ((b % (q + 1) : Nat) : Int) := by simp
  have HO := Lib.hid hot
  have kp : ∀ V, Calls Tryd.prog 48 #[.int .i64 ((q + 1 : Nat) : Int), .int .i64 ((b % (q + 1) : Nat) : Int), .int .i64 (o : Int)] V fun e w' => e = .returned (.int .i64 (((b % (q + 1)) ^ o % (q + 1) : Nat) : Int)) ∧ V = w' :=
    fun V => hpow_walk (q + 1) (b % (q + 1)) o V (by omega) (by omega) hb2 (by omega)
  generalize b % (q + 1) = b2 at *
  generalize b2 ^ o % (q + 1) = x at *
  have KP := Lib.hid kp
  have HF := Lib.hid hpf
  have HB := Lib.hid hbi
  have hqn : ((q + 1 : Nat) : Int) - 1 = (q : Int) := by omega
  have HQN := Lib.hid hqn
  have hbm : (0 : Int) < ((q + 1 : Nat) : Int) := by omega
  obtain ⟨m, hm⟩ : ∃ m : Nat, m = q + 1 := ⟨_, rfl⟩
  have HM := Lib.hid hm
  rw [← hm] at hqn hbm hbi hx ⊢
  have hm7 : (7 : Int) ≤ (m : Int) := by omega
  clear hot kp hpf hb2 hm hqe
  go_enter Tryd.func58, Tryd.ntmps58
  go_wp2
  go_loopw [5, 6] (fun u v wr => ∃ (f n k : Nat), wr = w ∧ u = .int .i64 (n : Int) ∧ v = .int .i64 (k : Int) ∧ 1 ≤ n ∧ k + f ≤ 32 ∧ Hid (n < 2 ^ f) ∧ n ≤ 2147483648 ∧ Hid (odF f n k = (o, t))) (fun u _ _ => (intOf u).toNat)
  case atStart => exact ⟨32, q, 0, rfl, rfl, rfl, by omega, by omega, by show _ < _; omega, hq2, HO⟩
  case round =>
    obtain ⟨f, n, k, rfl, rfl, rfl, hn1, hkf, HN, hL, HD⟩ := hrel
    cases f with
    | zero => have := HN.out; simp at this; omega
    | succ f =>
      have hod := HD.out
      rw [odF] at hod
      by_cases h2 : n % 2 = 0
      · rw [if_pos h2] at hod
        have HD2 := Lib.hid hod
        have HN2 : Hid (n / 2 < 2 ^ f) := by have := HN.out; rw [Nat.pow_succ] at this; show _ < _; omega
        have hmi : ((n : Int) % 2 == 0) = true := by simp; omega
        clear hod HN HD
        go_wp2
        go_roundw
        case rel => exact ⟨f, n / 2, k + 1, trivial, by go_num, by go_num, by omega, by omega, HN2, by omega, HD2⟩
        case measure => simp [intOf]; omega
      · rw [if_neg h2] at hod
        simp only [Prod.mk.injEq] at hod
        obtain ⟨rfl, rfl⟩ := hod
        have hmi : ((n : Int) % 2 == 0) = false := by simp; omega
        clear h2 HN HD HO
        have hmk : ∀ V, Calls Tryd.prog 48 #[.int .i64 (m : Int), .int .i64 (b2 : Int), .int .i64 (n : Int)] V fun e w' => e = .returned (.int .i64 (x : Int)) ∧ V = w' := by rw [HM.out]; exact KP.out
        have KM := Lib.hid hmk
        have hpf := HF.out
        rw [← HM.out] at hpf
        clear hmk KP HF HB HQN
        go_wp2_with (go_at_call 48; (with_reducible refine (KM.out _).mono ?_))
        rintro e w2 ⟨rfl, rfl⟩
        by_cases e1 : x = 1
        · subst e1
          have hR : passH m b = true := by rw [hpf]; simp
          have HR := Lib.hid hR
          clear hpf hR
          go_wp2
          go_ret
          exact ⟨ret_bool HR.out.symm, rfl⟩
        · have b1 : ((x : Int) == 1) = false := by rw [beq_eq_false_iff_ne]; omega
          have hR : passH m b = sqH m (k - 1) x := by rw [hpf, show (x == 1) = false by rw [beq_eq_false_iff_ne]; exact e1]; simp
          have HR := Lib.hid hR
          clear e1 hR hpf
          obtain ⟨k', rfl⟩ : ∃ k', k = k' + 1 := ⟨k - 1, by omega⟩
          go_wp2
          go_loopw [7, 27] (fun u i wr' => ∃ (j y : Nat), wr' = wr ∧ j ≤ k' ∧ i = .int .i64 (j : Int) ∧ u = .int .i64 (y : Int) ∧ y < m ∧ Hid (sqH m (k' - j) y = passH m b)) (fun _ i _ => k' - (intOf i).toNat)
          case atStart => exact ⟨0, x, rfl, by omega, rfl, rfl, hx, by show _ = _; rw [HR.out]; rfl⟩
          case round =>
            clear hx b1
            obtain ⟨j, y, rfl, hj, rfl, rfl, hy, HS⟩ := hrel
            have hmq : m - 1 = q := by have := HM.out; omega
            by_cases hjt : j < k'
            · have hs := HS.out
              rw [show k' - j = (k' - (j + 1)) + 1 by omega, sqH, hmq] at hs
              by_cases ey : y = q
              · subst ey
                rw [if_pos rfl] at hs
                have HT := Lib.hid hs
                have yq : ((y : Int) == (y : Int)) = true := by simp
                clear hs HS
                go_wp2
                go_ret
                exact ⟨ret_bool HT.out, rfl⟩
              · rw [if_neg ey] at hs
                have kt : ∀ V, Calls Tryd.prog 37 #[.int .i64 (m : Int), .int .i64 (y : Int), .int .i64 (y : Int)] V fun e w' => e = .returned (.int .i64 ((y * y % m : Nat) : Int)) ∧ V = w' := fun V => htimes_walk m y y V (by omega) (by have := HM.out; omega) hy hy
                have hz : y * y % m < m := Nat.mod_lt _ (by omega)
                have yq : ((y : Int) == (q : Int)) = false := by rw [beq_eq_false_iff_ne]; omega
                generalize y * y % m = z at *
                have KT := Lib.hid kt
                have HT := Lib.hid hs
                clear hs HS ey kt
                go_wp2_with (go_at_call 37; (with_reducible refine (KT.out _).mono ?_))
                rintro e w2 ⟨rfl, rfl⟩
                go_wp2
                go_roundw
                case rel => exact ⟨j + 1, z, trivial, by omega, by go_num, rfl, hz, HT⟩
                case measure => simp [intOf]; omega
            · obtain rfl : j = k' := by omega
              have hs := HS.out
              rw [Nat.sub_self, sqH, hmq] at hs
              by_cases ey : y = q
              · subst ey
                have HT := Lib.hid hs
                have yq : ((y : Int) == (y : Int)) = true := by simp
                clear hs HS hjt
                go_wp2
                go_ret
                exact ⟨ret_bool (by rw [← HT.out]; simp), rfl⟩
              · have yq : ((y : Int) == (q : Int)) = false := by rw [beq_eq_false_iff_ne]; omega
                have HT := Lib.hid hs
                have HE := Lib.hid ey
                clear hs HS hjt ey
                go_wp2
                go_ret
                exact ⟨ret_bool (by rw [← HT.out]; simp [HE.out]), rfl⟩
end Go.Proofs.YtekhepklaokaiaaDoor
