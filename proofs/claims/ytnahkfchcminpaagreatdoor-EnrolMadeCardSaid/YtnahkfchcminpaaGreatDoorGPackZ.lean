/- Which numbers are permitted; how wide elements are. -/
import Derived.Test.YtnahkfchcminpaaGreatDoorGField
import Derived.Test.YtnahkfchcminpaaGreatDoorGModP
namespace Go.Proofs.YtnahkfchcminpaaGreatDoor
open Go.RowKit
theorem index4 (w : World) {t : TypeId} (ht : Tryz.prog.underlying t = some (.array 4 3)) (cs : Array Value) (i : Nat) (hi : i < 4) (v : Value) (hv : cs[i]? = some v) :
    (Instr.index t (.agg cs) (.int .i64 (i : Int))).run Tryz.prog w = .ok v w := by
  simp [Instr.index, asIntOf, run_underlying ht, part, Tryz.sizeOf3, Tryz.isAgg3, hv]
  intro h
  omega
/-- the table of bases, as it is laid -/
def Bases (w : World) : Prop := w.cell? ⟨0, 0, none⟩ = some (.int .i64 2) ∧ w.cell? ⟨0, 1, none⟩ = some (.int .i64 3) ∧ w.cell? ⟨0, 2, none⟩ = some (.int .i64 5) ∧ w.cell? ⟨0, 3, none⟩ = some (.int .i64 7)
theorem Bases.keep {w w' : World} (h : Bases w) (hb : Below w.heap.size w w') : Bases w' := by
  obtain ⟨a, b, c, d⟩ := h
  exact ⟨(hb.cell (World.block_lt_of_cell? w _ a)).trans a, (hb.cell (World.block_lt_of_cell? w _ b)).trans b, (hb.cell (World.block_lt_of_cell? w _ c)).trans c, (hb.cell (World.block_lt_of_cell? w _ d)).trans d⟩
theorem base_at (j : Nat) (h : j < 4) : ∃ b : Nat, basesL[j]? = some (b : Int) ∧ (ints basesL)[j]? = some (.int .i64 (b : Int)) ∧ 2 ≤ b ∧ b < 16 ∧ (j = 0 → b = 2) ∧ basesL.drop j = (b : Int) :: basesL.drop (j + 1) := by
  match j, h with
  | 0, _ => exact ⟨2, rfl, rfl, by decide, by decide, fun _ => rfl, rfl⟩
  | 1, _ => exact ⟨3, rfl, rfl, by decide, by decide, fun h => by omega, rfl⟩
  | 2, _ => exact ⟨5, rfl, rfl, by decide, by decide, fun h => by omega, rfl⟩
  | 3, _ => exact ⟨7, rfl, rfl, by decide, by decide, fun h => by omega, rfl⟩
set_option maxRecDepth 100000 in
theorem valid_two (w : World) (hB : Bases w) :
    Calls Tryz.prog 86 #[.int .i64 2] w fun e w' => e = .returned (.bool true) ∧ w = w' := by
  obtain ⟨g0, g1, g2, g3⟩ := hB
  go_enter Tryz.func86, Tryz.ntmps86
  go_wp2
  go_loopw [4, 21] (fun _ i wr => wr = w ∧ i = .int .i64 0) (fun _ _ _ => 0)
  case atStart => exact ⟨rfl, rfl⟩
  case round =>
    obtain ⟨rfl, rfl⟩ := hrel
    have hix : (Instr.index 110 (.agg #[.int .i64 2, .int .i64 3, .int .i64 5, .int .i64 7]) (.int .i64 0)).run Tryz.prog wr = .ok (.int .i64 2) wr := index4 wr Tryz.underlying110 _ 0 (by decide) _ rfl
    go_wp2
    go_ret
    exact ⟨rfl, rfl⟩
set_option maxRecDepth 100000 in
theorem valid_odd (p : Int) (w : World) (hB : Bases w) (hq : 3 ≤ p) (hq2 : p ≤ 1073741824) (hqe : p % 2 = 1) :
    Calls Tryz.prog 86 #[.int .i64 p] w fun e w' => e = .returned (.bool (vlF p basesL)) ∧ w = w' := by
  obtain ⟨g0, g1, g2, g3⟩ := hB
  have k3 : (2 : Int) < p := by omega
  have hps : ∀ (b : Nat) (w : World), b < 16 → Calls Tryz.prog 100 #[.int .i64 p, .int .i64 (b : Int)] w fun e w' => e = .returned (.bool (passF p (b : Int))) ∧ w = w' := fun b w hb => by
    obtain ⟨q, rfl⟩ : ∃ q : Nat, p = (q : Int) + 1 := ⟨(p - 1).toNat, by omega⟩
    exact passes_walk q b w (by omega) (by omega) hb (by omega)
  have HPS := Lib.hid hps
  clear hps
  go_enter Tryz.func86, Tryz.ntmps86
  go_wp2
  go_loopw [4, 21] (fun _ i wr => ∃ j : Nat, wr = w ∧ j ≤ 4 ∧ i = .int .i64 (j : Int) ∧ vlF p (basesL.drop j) = vlF p basesL) (fun _ i _ => 4 - (intOf i).toNat)
  case atStart => exact ⟨0, rfl, by omega, rfl, rfl⟩
  case round =>
    obtain ⟨j, rfl, hj, rfl, hv⟩ := hrel
    have HV := Lib.hid hv
    clear hv
    by_cases hjt : j < 4
    · obtain ⟨b, hb, hbi, hb2, hb16, -, hdr⟩ := base_at j hjt
      have hix := index4 wr Tryz.underlying110 #[.int .i64 2, .int .i64 3, .int .i64 5, .int .i64 7] j hjt (.int .i64 (b : Int)) (by simpa [ints, basesL] using hbi)
      have hR := HV.out
      rw [hdr, vlF] at hR
      have hm1 := Int.emod_nonneg p (show (b : Int) ≠ 0 by omega)
      by_cases eb : p = (b : Int)
      · rw [if_pos eb] at hR
        have HR := Lib.hid hR
        have bb : (p == (b : Int)) = true := by rw [beq_iff_eq]; exact eb
        clear hR HV eb hdr hb hbi
        go_wp2
        go_ret
        exact ⟨ret_bool HR.out, rfl⟩
      · rw [if_neg eb] at hR
        have bb : (p == (b : Int)) = false := by rw [beq_eq_false_iff_ne]; exact eb
        by_cases em : p % (b : Int) = 0
        · replace hR : false = vlF p basesL := by rw [← hR]; simp [em]
          have HR := Lib.hid hR
          have bm : (p % (b : Int) == 0) = true := by rw [beq_iff_eq]; exact em
          clear hR HV eb em hdr hb hbi
          go_wp2
          go_ret
          exact ⟨ret_bool HR.out, rfl⟩
        · have bm : (p % (b : Int) == 0) = false := by rw [beq_eq_false_iff_ne]; exact em
          cases hp : passF p (b : Int) with
          | false =>
            replace hR : false = vlF p basesL := by rw [← hR]; simp [hp]
            have HR := Lib.hid hR
            clear hR HV eb em hdr hb hbi
            have HP := Lib.hid hp
            clear hp
            go_wp2_with (go_at_call 100; (with_reducible refine (HPS.out b _ hb16).mono ?_))
            rintro e w2 ⟨rfl, rfl⟩
            rw [HP.out]
            go_wp2
            go_ret
            exact ⟨ret_bool HR.out, rfl⟩
          | true =>
            replace hR : vlF p (basesL.drop (j + 1)) = vlF p basesL := by rw [← hR]; simp [em, hp]
            have HR := Lib.hid hR
            clear hR HV eb em hdr hb hbi
            have HP := Lib.hid hp
            clear hp
            go_wp2_with (go_at_call 100; (with_reducible refine (HPS.out b _ hb16).mono ?_))
            rintro e w2 ⟨rfl, rfl⟩
            rw [HP.out]
            go_wp2
            go_roundw
            case rel => exact ⟨j + 1, trivial, by omega, by go_num, HR.out⟩
            case measure => simp [intOf]; omega
    · obtain rfl : j = 4 := by omega
      have HR := HV
      clear HV hjt
      go_wp2
      go_ret
      exact ⟨ret_bool HR.out, rfl⟩
end Go.Proofs.YtnahkfchcminpaaGreatDoor
/- The test of Miller and Rabin, as the groups of handles have it. -/
namespace Go.Proofs.YtnahkfchcminpaaGreatDoor
open Go.RowKit
def sqH (m : Nat) : Nat → Nat → Bool
  | 0, x => x == m - 1
  | k + 1, x => if x = m - 1 then true else sqH m k (x * x % m)
def passH (m b : Nat) : Bool :=
  let x := (b % m) ^ (odF 32 (m - 1) 0).1 % m
  x == 1 || sqH m ((odF 32 (m - 1) 0).2 - 1) x
def primeH (m : Nat) : List Nat → Bool
  | [] => true
  | b :: bs => (m == b || (m % b != 0 && passH m b)) && primeH m bs
set_option maxRecDepth 100000 in
theorem hpasses_walk (q b : Nat) (w : World) (hq : 6 ≤ q) (hq2 : q ≤ 2147483648) (hb : b < 16) (hqe : q % 2 = 0) :
    Calls Tryz.prog 101 #[.int .i64 ((q + 1 : Nat) : Int), .int .i64 (b : Int)] w fun e w' => e = .returned (.bool (passH (q + 1) b)) ∧ w = w' := by
  obtain ⟨o, t, hot⟩ : ∃ o t, odF 32 q 0 = (o, t) := ⟨_, _, rfl⟩
  have hpos := odF_pos 32 q 0 (by omega)
  rw [hot] at hpos
  obtain ⟨ho1, ho2⟩ := hpos
  have ht1 : 1 ≤ t ∧ t ≤ 32 := by
    have h := hot
    rw [odF, if_pos hqe] at h
    have := odF_t 31 (q / 2) (0 + 1)
    rw [h] at this
    simp at this
    omega
  have hpf : passH (q + 1) b = ((b % (q + 1)) ^ o % (q + 1) == 1 || sqH (q + 1) (t - 1) ((b % (q + 1)) ^ o % (q + 1))) := by
    rw [passH, Nat.add_sub_cancel, hot]
  have hx : (b % (q + 1)) ^ o % (q + 1) < q + 1 := Nat.mod_lt _ (by omega)
  have hb2 : b % (q + 1) < q + 1 := Nat.mod_lt _ (by omega)
  have hbi : (b : Int) % ((q + 1 : Nat) : Int) = ((b % (q + 1) : Nat) : Int) := by simp
  have HO := Lib.hid hot
  have kp : ∀ V, Calls Tryz.prog 72 #[.int .i64 ((q + 1 : Nat) : Int), .int .i64 ((b % (q + 1) : Nat) : Int), .int .i64 (o : Int)] V fun e w' => e = .returned (.int .i64 (((b % (q + 1)) ^ o % (q + 1) : Nat) : Int)) ∧ V = w' :=
    fun V => hpow_walk (q + 1) (b % (q + 1)) o V (by omega) (by omega) hb2 (by omega)
  generalize b % (q + 1) = b2 at *
  generalize b2 ^ o % (q + 1) = x at *
  have KP := Lib.hid kp
  have HF := Lib.hid hpf
  have HB := Lib.hid hbi
  have hqn : ((q + 1 : Nat) : Int) - 1 = (q : Int) := by omega
  have HQN := Lib.hid hqn
  have hbm : (0 : Int) < ((q + 1 : Nat) : Int) := by omega
  obtain ⟨m, hm⟩ : ∃ m : Nat, m = q + 1 := ⟨_, rfl⟩
  have HM := Lib.hid hm
  rw [← hm] at hqn hbm hbi hx ⊢
  have hm7 : (7 : Int) ≤ (m : Int) := by omega
  clear hot kp hpf hb2 hm hqe
  go_enter Tryz.func101, Tryz.ntmps101
  go_wp2
  go_loopw [5, 6] (fun u v wr => ∃ (f n k : Nat), wr = w ∧ u = .int .i64 (n : Int) ∧ v = .int .i64 (k : Int) ∧ 1 ≤ n ∧ k + f ≤ 32 ∧ Hid (n < 2 ^ f) ∧ n ≤ 2147483648 ∧ Hid (odF f n k = (o, t))) (fun u _ _ => (intOf u).toNat)
  case atStart => exact ⟨32, q, 0, rfl, rfl, rfl, by omega, by omega, by show _ < _; omega, hq2, HO⟩
  case round =>
    obtain ⟨f, n, k, rfl, rfl, rfl, hn1, hkf, HN, hL, HD⟩ := hrel
    cases f with
    | zero => have := HN.out; simp at this; omega
    | succ f =>
      have hod := HD.out
      rw [odF] at hod
      by_cases h2 : n % 2 = 0
      · rw [if_pos h2] at hod
        have HD2 := Lib.hid hod
        have HN2 : Hid (n / 2 < 2 ^ f) := by have := HN.out; rw [Nat.pow_succ] at this; show _ < _; omega
        have hmi : ((n : Int) % 2 == 0) = true := by simp; omega
        clear hod HN HD
        go_wp2
        go_roundw
        case rel => exact ⟨f, n / 2, k + 1, trivial, by go_num, by go_num, by omega, by omega, HN2, by omega, HD2⟩
        case measure => simp [intOf]; omega
      · rw [if_neg h2] at hod
        simp only [Prod.mk.injEq] at hod
        obtain ⟨rfl, rfl⟩ := hod
        have hmi : ((n : Int) % 2 == 0) = false := by simp; omega
        clear h2 HN HD HO
        have hmk : ∀ V, Calls Tryz.prog 72 #[.int .i64 (m : Int), .int .i64 (b2 : Int), .int .i64 (n : Int)] V fun e w' => e = .returned (.int .i64 (x : Int)) ∧ V = w' := by rw [HM.out]; exact KP.out
        have KM := Lib.hid hmk
        have hpf := HF.out
        rw [← HM.out] at hpf
        clear hmk KP HF HB HQN
        go_wp2_with (go_at_call 72; (with_reducible refine (KM.out _).mono ?_))
        rintro e w2 ⟨rfl, rfl⟩
        by_cases e1 : x = 1
        · subst e1
          have hR : passH m b = true := by rw [hpf]; simp
          have HR := Lib.hid hR
          clear hpf hR
          go_wp2
          go_ret
          exact ⟨ret_bool HR.out.symm, rfl⟩
        · have b1 : ((x : Int) == 1) = false := by rw [beq_eq_false_iff_ne]; omega
          have hR : passH m b = sqH m (k - 1) x := by rw [hpf, show (x == 1) = false by rw [beq_eq_false_iff_ne]; exact e1]; simp
          have HR := Lib.hid hR
          clear e1 hR hpf
          obtain ⟨k', rfl⟩ : ∃ k', k = k' + 1 := ⟨k - 1, by omega⟩
          go_wp2
          go_loopw [7, 27] (fun u i wr' => ∃ (j y : Nat), wr' = wr ∧ j ≤ k' ∧ i = .int .i64 (j : Int) ∧ u = .int .i64 (y : Int) ∧ y < m ∧ Hid (sqH m (k' - j) y = passH m b)) (fun _ i _ => k' - (intOf i).toNat)
          case atStart => exact ⟨0, x, rfl, by omega, rfl, rfl, hx, by show _ = _; rw [HR.out]; rfl⟩
          case round =>
            clear hx b1
            obtain ⟨j, y, rfl, hj, rfl, rfl, hy, HS⟩ := hrel
            have hmq : m - 1 = q := by have := HM.out; omega
            by_cases hjt : j < k'
            · have hs := HS.out
              rw [show k' - j = (k' - (j + 1)) + 1 by omega, sqH, hmq] at hs
              by_cases ey : y = q
              · subst ey
                rw [if_pos rfl] at hs
                have HT := Lib.hid hs
                have yq : ((y : Int) == (y : Int)) = true := by simp
                clear hs HS
                go_wp2
                go_ret
                exact ⟨ret_bool HT.out, rfl⟩
              · rw [if_neg ey] at hs
                have kt : ∀ V, Calls Tryz.prog 59 #[.int .i64 (m : Int), .int .i64 (y : Int), .int .i64 (y : Int)] V fun e w' => e = .returned (.int .i64 ((y * y % m : Nat) : Int)) ∧ V = w' := fun V => htimes_walk m y y V (by omega) (by have := HM.out; omega) hy hy
                have hz : y * y % m < m := Nat.mod_lt _ (by omega)
                have yq : ((y : Int) == (q : Int)) = false := by rw [beq_eq_false_iff_ne]; omega
                generalize y * y % m = z at *
                have KT := Lib.hid kt
                have HT := Lib.hid hs
                clear hs HS ey kt
                go_wp2_with (go_at_call 59; (with_reducible refine (KT.out _).mono ?_))
                rintro e w2 ⟨rfl, rfl⟩
                go_wp2
                go_roundw
                case rel => exact ⟨j + 1, z, trivial, by omega, by go_num, rfl, hz, HT⟩
                case measure => simp [intOf]; omega
            · obtain rfl : j = k' := by omega
              have hs := HS.out
              rw [Nat.sub_self, sqH, hmq] at hs
              by_cases ey : y = q
              · subst ey
                have HT := Lib.hid hs
                have yq : ((y : Int) == (y : Int)) = true := by simp
                clear hs HS hjt
                go_wp2
                go_ret
                exact ⟨ret_bool (by rw [← HT.out]; simp), rfl⟩
              · have yq : ((y : Int) == (q : Int)) = false := by rw [beq_eq_false_iff_ne]; omega
                have HT := Lib.hid hs
                have HE := Lib.hid ey
                clear hs HS hjt ey
                go_wp2
                go_ret
                exact ⟨ret_bool (by rw [← HT.out]; simp [HE.out]), rfl⟩
end Go.Proofs.YtnahkfchcminpaaGreatDoor
