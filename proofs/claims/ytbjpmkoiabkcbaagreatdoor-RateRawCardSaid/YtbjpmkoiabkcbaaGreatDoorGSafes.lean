/- The play's safe primes: plain. No program in sight. -/
import Derived.Test.YtbjpmkoiabkcbaaGreatDoorBase
import Derived.Test.YtbjpmkoiabkcbaaGreatDoorGRateP
import Derived.Test.YtbjpmkoiabkcbaaGreatDoorGCodecQ
import Derived.Test.YtbjpmkoiabkcbaaGreatDoorGRateE
namespace Go.Proofs.YtbjpmkoiabkcbaaGreatDoor
def safesL : List Int := [11, 23, 500000003, 29, 53, 83]
end Go.Proofs.YtbjpmkoiabkcbaaGreatDoor
/- The safe primes of the plays; marks of one handle differ where the secrets do: plain. -/
namespace Go.Proofs.YtbjpmkoiabkcbaaGreatDoor
open Go.RowKit
theorem good_of (p n : Nat) (h11 : 11 ≤ p) (hb : p ≤ 500000003) (ho : p % 2 = 1) (h1 : tryF p 2 n 3 = true) (hn : p < (3 + 2 * n) * (3 + 2 * n)) (h4 : fpow (2 * p + 1) 40 1 4 p = 1) (hs : safeK p = true) : Grp p ∧ safeP (p : Int) = true ∧ 11 ≤ p ∧ p ≤ 500000003 :=
  ⟨grp_of p (by omega) (by omega) h4 (primeP_of (by omega) (noDiv_of p n ho h1 hn)), safeP_of (by omega) (by omega) hs, h11, hb⟩
theorem safes_good : ∀ x ∈ safesL, ∃ p : Nat, x = (p : Int) ∧ Grp p ∧ safeP (p : Int) = true ∧ 11 ≤ p ∧ p ≤ 500000003 := by
  intro x hx
  simp only [safesL, List.mem_cons, List.not_mem_nil, or_false] at hx
  rcases hx with rfl | rfl | rfl | rfl | rfl | rfl
  · exact ⟨11, rfl, good_of 11 1 (by decide) (by decide) (by decide) (by decide +kernel) (by decide) (by decide +kernel) (by decide +kernel)⟩
  · exact ⟨23, rfl, good_of 23 1 (by decide) (by decide) (by decide) (by decide +kernel) (by decide) (by decide +kernel) (by decide +kernel)⟩
  · exact ⟨500000003, rfl, grp_big, safeP_big, by decide, by decide⟩
  · exact ⟨29, rfl, good_of 29 2 (by decide) (by decide) (by decide) (by decide +kernel) (by decide) (by decide +kernel) (by decide +kernel)⟩
  · exact ⟨53, rfl, good_of 53 3 (by decide) (by decide) (by decide) (by decide +kernel) (by decide) (by decide +kernel) (by decide +kernel)⟩
  · exact ⟨83, rfl, good_of 83 4 (by decide) (by decide) (by decide) (by decide +kernel) (by decide) (by decide +kernel) (by decide +kernel)⟩
theorem putInt_inj {a b : Int} (ha : I64 a) (hb : I64 b) (h : putInt a = putInt b) : a = b := by
  have h1 := getInt_put [] a [] ha (p := 0) rfl
  have h2 := getInt_put [] b [] hb (p := 0) rfl
  rw [h, h2] at h1
  exact (congrArg Prod.fst h1).symm
section
variable {P : Nat} (h : Grp P)
include h
/-- powers of a number other than 1 differ -/
theorem pow_apart {x : Nat} (hx1 : x % (2 * P + 1) ≠ 1) (hx : x ^ P % (2 * P + 1) = 1) {a b : Nat} (hab : a < b) (hb : b < P) : x ^ a % (2 * P + 1) ≠ x ^ b % (2 * P + 1) := by
  have hm : 1 < 2 * P + 1 := by have := h.three; omega
  intro e
  have e2 : x ^ (P - a) * x ^ a % (2 * P + 1) = x ^ (P - a) * x ^ b % (2 * P + 1) := by rw [Nat.mul_mod, e, ← Nat.mul_mod]
  rw [← Nat.pow_add, ← Nat.pow_add, show P - a + a = P by omega, show P - a + b = P + (b - a) by omega, hx, pow_mod_add, hx, Nat.one_mul, Nat.mod_mod] at e2
  exact pow_ne_one hm h.prime hx1 hx (by omega) (by omega) e2.symm
/-- the handle of a mark -/
theorem handle_ne {e : Nat} (h1 : 1 ≤ e) (h2 : e < P) : gpw P 4 (e : Int) ≠ 1 := by
  rw [gpw_nat h.three h.four]
  exact pow_ne_one (by have := h.three; omega) h.prime (by rw [Nat.mod_eq_of_lt (by have := h.three; omega)]; decide) h.four (by omega) h2
theorem handle_pow (e : Nat) : (gpw P 4 (e : Int)) ^ P % (2 * P + 1) = 1 := by
  rw [gpw_nat h.three h.four]
  exact pow_one_pow (by have := h.three; omega) h.four e
theorem marks_apart {e : Nat} (h1 : 1 ≤ e) (h2 : e < P) {a b : Nat} (ha : a < P) (hb : b < P) (hg : gpw P (gpw P 4 (e : Int)) (a : Int) = gpw P (gpw P 4 (e : Int)) (b : Int)) : a = b := by
  have hp := handle_pow h e
  have hn := handle_ne h h1 h2
  have hl := gpw_lt P 4 (e : Int)
  rw [gpw_nat h.three hp, gpw_nat h.three hp] at hg
  have hx : gpw P 4 (e : Int) % (2 * P + 1) ≠ 1 := by rw [Nat.mod_eq_of_lt hl]; exact hn
  rcases Nat.lt_trichotomy a b with hab | hab | hab
  · exact absurd hg (pow_apart h hx hp hab hb)
  · exact hab
  · exact absurd hg.symm (pow_apart h hx hp hab ha)
end
/-! ### Those of a list that are not equal to one before -/
def onceB {α : Type} [DecidableEq α] (l : List α) (i : Nat) : Bool := match l[i]? with | some x => !decide (x ∈ l.take i) | none => false
def onceI {α : Type} [DecidableEq α] (l : List α) (n : Nat) : List Nat := (List.range n).filter (onceB l)
theorem onceB_at {α : Type} [DecidableEq α] {l : List α} {i : Nat} {x : α} (h : l[i]? = some x) : onceB l i = !decide (x ∈ l.take i) := by rw [onceB, h]
theorem onceI_succ {α : Type} [DecidableEq α] (l : List α) (n : Nat) : onceI l (n + 1) = onceI l n ++ if onceB l n = true then [n] else [] := by
  rw [onceI, List.range_succ, List.filter_append, onceI]
  congr 1
  simp [List.filter_cons]
theorem onceI_le {α : Type} [DecidableEq α] (l : List α) (n : Nat) : (onceI l n).length ≤ n := by
  have := List.length_filter_le (onceB l) (List.range n)
  rw [List.length_range] at this; exact this
theorem onceI_app {α : Type} [DecidableEq α] (l m : List α) : onceI (l ++ m) l.length = onceI l l.length := by
  unfold onceI
  apply List.filter_congr
  intro i hi
  have hi' := List.mem_range.1 hi
  unfold onceB
  rw [List.getElem?_append_left hi', List.take_append_of_le_length (by omega)]
theorem onceI_snoc {α : Type} [DecidableEq α] (l : List α) (x : α) : onceI (l ++ [x]) (l ++ [x]).length = onceI l l.length ++ if x ∈ l then [] else [l.length] := by
  rw [List.length_append, List.length_singleton, onceI_succ, onceI_app, onceB_at (x := x) (by simp)]
  congr 1
  by_cases h : x ∈ l <;> simp [h]
theorem onceI_map {α β : Type} [DecidableEq α] [DecidableEq β] (f : α → β) (l : List α) (hf : ∀ x ∈ l, ∀ y ∈ l, f x = f y → x = y) (n : Nat) : onceI (l.map f) n = onceI l n := by
  unfold onceI
  apply List.filter_congr
  intro i _
  unfold onceB
  rw [List.getElem?_map]
  cases hx : l[i]? with
  | none => rfl
  | some x =>
    have hxm := List.mem_of_getElem? hx
    simp only [Option.map_some]
    congr 1
    rw [decide_eq_decide, ← List.map_take, List.mem_map]
    constructor
    · rintro ⟨y, hy, e⟩
      rw [← hf y (List.mem_of_mem_take hy) x hxm e]; exact hy
    · exact fun hy => ⟨x, hy, rfl⟩
end Go.Proofs.YtbjpmkoiabkcbaaGreatDoor
/- Marks are counted once: the program's Once. -/
namespace Go.Proofs.YtbjpmkoiabkcbaaGreatDoor
open Go.RowKit
set_option maxRecDepth 100000 in
set_option maxHeartbeats 2000000 in
theorem sindex_walk (a : Option Addr) (l : List (List UInt8)) (cap : Nat) (x : List UInt8) (w : World) (hR : Rd w a (strs l)) (hl : l.length ≤ 281474976710656) :
    Calls Tryz.prog 60 #[.slice a l.length cap, .string ⟨x.toArray⟩] w fun e w' => ∃ i, e = .returned (.int .i64 i) ∧ decide (0 ≤ i) = decide (x ∈ l) ∧ w = w' := by
  go_enter Tryz.func60, Tryz.ntmps60
  go_wp2_with fail
  go_loopw [8] (fun i wr => ∃ k : Nat, wr = w ∧ k ≤ l.length ∧ i = .int .i64 (k : Int) ∧ Hid (x ∉ l.take k)) (fun i _ => l.length - (intOf i).toNat)
  case atStart => exact ⟨0, rfl, Nat.zero_le _, rfl, Lib.hid (by simp)⟩
  case round =>
    obtain ⟨k, rfl, hk, rfl, hA⟩ := hrel
    by_cases hkt : k < l.length
    · obtain ⟨gx, off, y, rfl, hc, hx⟩ := hR.str (k := k) hkt
      have hkl : (k : Int) < (l.length : Int) := by omega
      by_cases hxy : x = y
      · subst hxy
        have hm := Lib.hid (mem_at hx)
        clear hA hx hR
        go_wp2
        go_ret
        exact ⟨(k : Int), rfl, by rw [decide_eq_true hm.out]; simp, rfl⟩
      · have hb : (x == y) = false := by rw [beq_eq_false_iff_ne]; exact hxy
        have hT : x ∉ l.take (k + 1) := fun h => by
          rw [take_at hx] at h
          rcases List.mem_append.1 h with h | h
          · exact hA.out h
          · simp at h; exact hxy h
        have HT := Lib.hid hT
        clear hT hA hx hR hxy
        go_wp2
        go_roundw
        case rel => exact ⟨k + 1, trivial, by omega, by go_num, HT⟩
        case measure => simp [intOf]; omega
    · have hkl : ¬ (k : Int) < (l.length : Int) := by omega
      obtain rfl : k = l.length := by omega
      have hm : x ∉ l := by have := hA.out; rwa [List.take_length] at this
      have HM := Lib.hid hm
      clear hA hm
      go_wp2
      go_ret
      exact ⟨-1, rfl, ⟨fun h => absurd h (by decide), fun h => absurd h HM.out⟩, rfl⟩
set_option maxRecDepth 100000 in
theorem scontains_walk (a : Option Addr) (l : List (List UInt8)) (cap : Nat) (x : List UInt8) (w : World) (hR : Rd w a (strs l)) (hl : l.length ≤ 281474976710656) :
    Calls Tryz.prog 32 #[.slice a l.length cap, .string ⟨x.toArray⟩] w fun e w' => e = .returned (.bool (decide (x ∈ l))) ∧ w = w' := by
  have K1 := Lib.hid (sindex_walk a l cap x w hR hl)
  clear hR hl
  go_enter Tryz.func32, Tryz.ntmps32
  go_wp2_with (go_at_call 60; (with_reducible refine K1.out.mono ?_))
  rintro e w1 ⟨i, rfl, hi, rfl⟩
  have HI := Lib.hid hi
  clear K1 hi
  go_wp2
  go_ret
  exact ⟨by rw [← HI.out]; rfl, rfl⟩
/-! ### The test of Once -/
set_option maxRecDepth 100000 in
set_option maxHeartbeats 2000000 in
theorem once1_walk (i : Nat) (g : Nat) (a : Option Addr) (l : List (List UInt8)) (cap : Nat) (w : World) (hG : Bx w g 38 [.slice a l.length cap]) (hR : Rd w a (strs l)) (hl : l.length ≤ 281474976710656) (hc : l.length ≤ cap) (hi : i < l.length) :
    Calls Tryz.prog 31 #[.int .i64 (i : Int), .pointer (some ⟨g, 0, none⟩)] w fun e w' => e = .returned (.bool (onceB l i)) ∧ ∃ n, w' = w.drewN n := by
  obtain ⟨gx, off, x, rfl, hx, hxl⟩ := hR.str (k := i) hi
  have c0 := hG.cell 0 rfl
  have htl : (l.take i).length = i := by rw [List.length_take]; omega
  have hRt : ∀ V, Rd V (some ⟨gx, off, none⟩) (strs l) → Rd V (some ⟨gx, off, none⟩) (strs (l.take i)) := fun V h => by
    refine Rd.mk fun j u hj => ?_
    obtain ⟨g', off', e, hc'⟩ := h j u (by
      simp only [strs, List.map_take] at hj ⊢
      rw [List.getElem?_take] at hj
      split at hj
      · exact hj
      · cases hj)
    cases e
    exact hc'
  have KC := Lib.hid (fun n => by
    have := scontains_walk (some ⟨gx, off, none⟩) (l.take i) cap x (w.drewN n) (hRt _ (fun j u hj => hR j u hj)) (by omega)
    rwa [htl] at this)
  have HB : Hid (onceB l i = !decide (x ∈ l.take i)) := (onceB_at hxl.out).trans (congrArg (!·) (decide_eq_decide.2 Iff.rfl))
  have hic : (0 : Int) ≤ (i : Int) ∧ (i : Int) ≤ (cap : Int) ∧ (i : Int) < (l.length : Int) := by omega
  obtain ⟨i0, i1, i2⟩ := hic
  clear hRt htl hxl
  generalize decide (x ∈ l.take i) = d at KC HB
  go_enter Tryz.func31, Tryz.ntmps31
  go_wp2_with fail
  go_quiet (first | (go_at_call 32; with_reducible exact hstill (KC.out _)))
  go_wp2
  go_ret
  exact ⟨by rw [HB.out]; rfl, _, rfl⟩
theorem Bx.drewN {w : World} {g : Nat} {t : TypeId} {cs : List Value} (h : Bx w g t cs) (n : Nat) : Bx (w.drewN n) g t cs := h
theorem Rd.drewN {w : World} {a : Option Addr} {xs : List Value} (h : Rd w a xs) (n : Nat) : Rd (w.drewN n) a xs := fun j u hj => h j u hj
def nats (l : List Nat) : List Int := l.map fun n : Nat => (n : Int)
theorem nats_snoc (l : List Nat) (n : Nat) : nats l ++ [(n : Int)] = nats (l ++ [n]) := by simp [nats]
set_option maxRecDepth 100000 in
set_option maxHeartbeats 4000000 in
theorem where_once (g : Nat) (a : Option Addr) (l : List (List UInt8)) (cap : Nat) (w : World) (hG : Bx w g 38 [.slice a l.length cap]) (hR : Rd w a (strs l)) (hl : l.length ≤ 1000000) (hc : l.length ≤ cap) :
    Calls Tryz.prog 30 #[.int .i64 (l.length : Int), .func (.func 31) #[] #[.pointer (some ⟨g, 0, none⟩)]] w fun e w' => ∃ b d, e = .returned (.slice b (onceI l l.length).length d) ∧ Below w.heap.size w w' := by
  go_enter Tryz.func30, Tryz.ntmps30
  go_wp2_with fail
  go_loopw [5, 8] (fun v i wr => ∃ (k m : Nat) (b : Option Addr) (c : Nat) (L : List Int), k ≤ l.length ∧ i = .int .i64 (k : Int) ∧ v = .slice b m c ∧ Hid (L = nats (onceI l k)) ∧ Hid (m = L.length) ∧ m ≤ k ∧ Ow wr w.heap.size 1 b m c (ints L) ∧ Below w.heap.size w wr) (fun _ i _ => l.length - (intOf i).toNat)
  case atStart => exact ⟨0, 0, none, 0, [], Nat.zero_le _, rfl, rfl, Lib.hid rfl, Lib.hid rfl, Nat.le_refl _, Ow.nil _ _ _, Below.refl _ _⟩
  case round =>
    obtain ⟨k, m, b, c, L, hk, rfl, rfl, hL, hm, hmk, hO, hB⟩ := hrel
    by_cases hkt : k < l.length
    · have hkl : (k : Int) < (l.length : Int) := by omega
      have K1 := Lib.hid (once1_walk k g a l cap wr (hG.keep hB) (hR.keep hB) (by omega) hc hkt)
      have hs := onceI_succ l k
      cases ho : onceB l k with
      | false =>
        rw [ho] at K1 hs
        have HL : Hid (L = nats (onceI l (k + 1))) := by rw [hs]; have := hL.out; show _ = _; rw [this]; simp
        clear hs ho hL
        go_wp2_with ((with_reducible refine K1.out.mono ?_))
        rintro e w1 ⟨rfl, n1, rfl⟩
        have hB2 := below_drewN hB n1
        have hO2 : Ow (wr.drewN n1) w.heap.size 1 b m c (ints L) := hO
        go_wp2
        go_roundw
        case rel => exact ⟨k + 1, m, b, c, L, by omega, by go_num, rfl, HL, hm, by omega, hO2, hB2⟩
        case measure => simp [intOf]; omega
      | true =>
        rw [ho] at K1 hs
        have HL : Hid (L ++ [(k : Int)] = nats (onceI l (k + 1))) := by rw [hs]; have := hL.out; show _ = _; rw [this, nats_snoc]; simp
        have hm2 : Hid (m + 1 = (L ++ [(k : Int)]).length) := by have := hm.out; show _ = _; simp [this]
        clear hs ho hL hm
        go_wp2_with ((with_reducible refine K1.out.mono ?_))
        rintro e w1 ⟨rfl, n1, rfl⟩
        have hB2 := below_drewN hB n1
        have hO2 : Ow (wr.drewN n1) w.heap.size 1 b m c (ints L) := hO
        go_wp2_with (at_builtin; refine wpList_app1 (w0 := w) (B := w.heap.size) rfl _ _ _ rfl elI4 rfl hO2 hB2 (Nat.le_refl _) hB2.size rfl (by rfl) (one1 rfl) (by omega) ?_)
        intro b' c' w2 hO3 hB3 _
        rw [ints_snoc] at hO3
        generalize L ++ [(k : Int)] = L' at *
        clear hO hO2 hB hB2
        go_wp2
        go_roundw
        case rel => exact ⟨k + 1, m + 1, b', c', L', by omega, by go_num, rfl, HL, hm2, by omega, hO3, hB3⟩
        case measure => simp [intOf]; omega
    · have hkl : ¬ (k : Int) < (l.length : Int) := by omega
      obtain rfl : k = l.length := by omega
      have he : m = (onceI l l.length).length := by rw [hm.out, hL.out]; simp [nats]
      have HE := Lib.hid he
      clear he hL hm hR hG
      go_wp2
      go_ret
      exact ⟨⟨b, c, by rw [← HE.out]; rfl⟩, hB⟩
set_option maxRecDepth 100000 in
set_option maxHeartbeats 4000000 in
theorem once_walk (a : Option Addr) (l : List (List UInt8)) (cap : Nat) (w : World) (hR : Rd w a (strs l)) (hl : l.length ≤ 1000000) (hc : l.length ≤ cap) :
    Calls Tryz.prog 11 #[.slice a l.length cap] w fun e w' => ∃ b d, e = .returned (.slice b (onceI l l.length).length d) ∧ Below w.heap.size w w' := by
  have hb0 := (Below.refl w.heap.size w).alloc (Nat.le_refl _) (.cells #[.slice a l.length cap] 38)
  have hG := Bx.new w 38 [.slice a l.length cap]
  have K1 := Lib.hid (where_once w.heap.size a l cap _ hG (hR.keep hb0) hl hc)
  clear hG hR
  go_enter Tryz.func11, Tryz.ntmps11
  go_wp2_with (go_at_call 30; (with_reducible refine K1.out.mono ?_))
  rintro e w1 ⟨b, d, rfl, hb1⟩
  have HB := Lib.hid (below_tr hb0 hb1)
  clear K1 hb0 hb1
  go_wp2
  go_ret
  first | exact ⟨b, d, rfl, HB.out⟩ | exact ⟨⟨b, d, rfl⟩, HB.out⟩
end Go.Proofs.YtbjpmkoiabkcbaaGreatDoor
