/- Guards: where a sender's row stands: slices.BinarySearchFunc at their rows. -/
import Derived.Test.YtnlhcfhngdahlaaReplayA
namespace Go.Proofs.Ytnlhcfhngdahlaa
open Go.RowKit
def cmpF (a b : Int) : Int := if a < b then -1 else if b < a then 1 else 0
set_option maxRecDepth 100000 in
theorem nan_walk (a : Int) (w : World) : Calls Try.prog 53 #[.int .i64 a] w fun e w' => e = .returned (.bool false) ∧ w = w' := by
  have h : (a != a) = false := by simp
  go_enter Try.func53, Try.ntmps53
  go_wp2
  go_ret
  exact ⟨rfl, rfl⟩
set_option maxRecDepth 100000 in
theorem compare_walk (a b : Int) (w : World) : Calls Try.prog 44 #[.int .i64 a, .int .i64 b] w fun e w' => e = .returned (.int .i64 (cmpF a b)) ∧ w = w' := by
  rcases Int.lt_trichotomy a b with h | h | h
  · have hf : cmpF a b = -1 := if_pos h
    rw [hf]
    clear hf
    have h1 : decide (a < b) = true := decide_eq_true h
    go_enter Try.func44, Try.ntmps44
    go_wp2_with (go_at_call 53; (with_reducible refine (nan_walk _ _).mono ?_); rintro e w1 ⟨rfl, rfl⟩)
    go_ret
    exact ⟨rfl, rfl⟩
  · subst h
    have hf : cmpF a a = 0 := by simp [cmpF]
    rw [hf]
    clear hf
    have h1 : decide (a < a) = false := by simp
    have h2 : decide (a > a) = false := by simp
    go_enter Try.func44, Try.ntmps44
    go_wp2_with (go_at_call 53; (with_reducible refine (nan_walk _ _).mono ?_); rintro e w1 ⟨rfl, rfl⟩)
    go_ret
    exact ⟨rfl, rfl⟩
  · have hf : cmpF a b = 1 := by rw [cmpF, if_neg (by omega), if_pos h]
    rw [hf]
    clear hf
    have h1 : decide (a < b) = false := decide_eq_false (by omega)
    have h2 : decide (a > b) = true := decide_eq_true h
    go_enter Try.func44, Try.ntmps44
    go_wp2_with (go_at_call 53; (with_reducible refine (nan_walk _ _).mono ?_); rintro e w1 ⟨rfl, rfl⟩)
    go_ret
    exact ⟨rfl, rfl⟩
set_option maxRecDepth 100000 in
theorem krow1_walk (r : Kpt) (s : Int) (w : World) : Calls Try.prog 43 #[.agg #[.int .i64 r.sen, .int .i64 r.cnt, .string ⟨r.mark.toArray⟩, .string ⟨r.ans.toArray⟩], .int .i64 s] w fun e w' => e = .returned (.int .i64 (cmpF r.sen s)) ∧ Below w.heap.size w w' := by
  have hb := (Below.refl w.heap.size w).alloc (Nat.le_refl _) (.cells #[.int .i64 r.sen, .int .i64 r.cnt, .string ⟨r.mark.toArray⟩, .string ⟨r.ans.toArray⟩] 37)
  go_enter Try.func43, Try.ntmps43
  go_wp2_with (go_at_call 44; (with_reducible refine (compare_walk _ _ _).mono ?_); rintro e w1 ⟨rfl, rfl⟩)
  go_ret
  exact ⟨rfl, hb⟩
theorem Rd.kp {w : World} {a : Option Addr} {l : List Kpt} (h : Rd w a (rowsC kpC l)) {k : Nat} (hk : k < l.length) :
    ∃ g off r, a = some ⟨g, off, none⟩ ∧ Hid (l[k]? = some r) ∧ w.cell? ⟨g, off + k * 4, none⟩ = some (.int .i64 r.sen) ∧ w.cell? ⟨g, off + k * 4 + 1, none⟩ = some (.int .i64 r.cnt) ∧ w.cell? ⟨g, off + k * 4 + 2, none⟩ = some (.string ⟨r.mark.toArray⟩) ∧ w.cell? ⟨g, off + k * 4 + 3, none⟩ = some (.string ⟨r.ans.toArray⟩) := by
  obtain ⟨g, off, r, ha, hr, hc⟩ := h.rows kpC_len (by decide) hk
  exact ⟨g, off, r, ha, hr, hc 0 _ rfl, hc 1 _ rfl, hc 2 _ rfl, hc 3 _ rfl⟩
def LoK (l : List Kpt) (s : Int) (x : Nat) : Prop := ∀ m r, m < x → l[m]? = some r → r.sen < s
def HiK (l : List Kpt) (s : Int) (y : Nat) : Prop := ∀ m r, y ≤ m → l[m]? = some r → s ≤ r.sen
theorem LoK.up {l : List Kpt} {s : Int} {h : Nat} {r : Kpt} (hG : Good l l.length) (hr : l[h]? = some r) (hs : r.sen < s) : LoK l s (h + 1) := fun m x hm hx => by
  by_cases e : m = h
  · subst e; rw [hr] at hx; cases hx; exact hs
  · have := hG.mono h m x r (by omega) hx hr; omega
theorem HiK.down {l : List Kpt} {s : Int} {h : Nat} {r : Kpt} (hG : Good l l.length) (hr : l[h]? = some r) (hs : s ≤ r.sen) : HiK l s h := fun m x hm hx => by
  by_cases e : m = h
  · subst e; rw [hr] at hx; cases hx; exact hs
  · have := hG.mono m h r x (by omega) hr hx; omega
theorem posF_of {l : List Kpt} {s : Int} {x : Nat} (hx : x ≤ l.length) (h1 : LoK l s x) (h2 : HiK l s x) : posF l s = x := posF_eq hx h1 fun r hr => h2 x r (Nat.le_refl _) hr
set_option maxRecDepth 100000 in
set_option maxHeartbeats 2000000 in
theorem ksearch_walk (a : Option Addr) (l : List Kpt) (cap : Nat) (s : Int) (w : World) (hR : Rd w a (rowsC kpC l)) (hn : l.length ≤ 1000000) (hG : Good l l.length) :
    Calls Try.prog 42 #[.slice a l.length cap, .int .i64 s, .func (.func 43) #[] #[]] w fun e w' => e = .returned (.tuple #[.int .i64 (posF l s : Int), .bool (hasF l s)]) ∧ Below w.heap.size w w' := by
  have HG := Lib.hid hG
  clear hG
  go_enter Try.func42, Try.ntmps42
  go_wp2_with fail
  go_loopw [9, 10] (fun i j wr => ∃ x y : Nat, i = .int .i64 (x : Int) ∧ j = .int .i64 (y : Int) ∧ x ≤ y ∧ y ≤ l.length ∧ LoK l s x ∧ HiK l s y ∧ Below w.heap.size w wr) (fun i j _ => (intOf j).toNat - (intOf i).toNat)
  case atStart => exact ⟨0, l.length, rfl, rfl, Nat.zero_le _, Nat.le_refl _, fun m r h => by omega, fun m r h hr => by have := (List.getElem?_eq_some_iff.1 hr).1; omega, Below.refl _ _⟩
  case round =>
    obtain ⟨x, y, rfl, rfl, hxy, hy, hL, hH, hB⟩ := hrel
    by_cases hlt : x < y
    · obtain ⟨g, off, r, rfl, hr, c0, c1, c2, c3⟩ := (hR.keep hB).kp (k := (x + y) / 2) (by omega)
      have HL := Lib.hid hL
      have HH := Lib.hid hH
      clear hL hH
      obtain ⟨c, hc⟩ : ∃ c, c = cmpF r.sen s := ⟨_, rfl⟩
      have k1 : ∀ V, Calls Try.prog 43 #[.agg #[.int .i64 r.sen, .int .i64 r.cnt, .string ⟨r.mark.toArray⟩, .string ⟨r.ans.toArray⟩], .int .i64 s] V fun e w' => e = .returned (.int .i64 c) ∧ Below V.heap.size V w' := fun V => by rw [hc]; exact krow1_walk r s V
      have K1 := Lib.hid k1
      clear k1
      by_cases hs : r.sen < s
      · have hcz : decide (c < 0) = true := by rw [hc, cmpF, if_pos hs]; rfl
        clear hc
        go_wp2_with ((with_reducible refine (K1.out _).mono ?_); rintro e w1 ⟨rfl, hb1⟩)
        go_roundw
        case rel => exact ⟨(x + y) / 2 + 1, y, by go_num, rfl, by omega, hy, LoK.up HG.out hr.out hs, HH.out, below_tr hB hb1⟩
        case measure => simp [intOf]; omega
      · have hcz : decide (c < 0) = false := by rw [hc, cmpF, if_neg hs]; split <;> rfl
        clear hc
        go_wp2_with ((with_reducible refine (K1.out _).mono ?_); rintro e w1 ⟨rfl, hb1⟩)
        go_roundw
        case rel => exact ⟨x, (x + y) / 2, rfl, by go_num, by omega, by omega, HL.out, HiK.down HG.out hr.out (by omega), below_tr hB hb1⟩
        case measure => simp [intOf]; omega
    · obtain rfl : x = y := by omega
      have hp := posF_of hy hL hH
      have HP := Lib.hid hp
      by_cases hxl : x < l.length
      · obtain ⟨g, off, r, rfl, hr, c0, c1, c2, c3⟩ := (hR.keep hB).kp (k := x) hxl
        have hh : hasF l s = decide (r.sen = s) := hasF_at (by rw [hp]; exact hr.out)
        have hge := hH x r (Nat.le_refl _) hr.out
        obtain ⟨c, hc⟩ : ∃ c, c = cmpF r.sen s := ⟨_, rfl⟩
        have k1 : ∀ V, Calls Try.prog 43 #[.agg #[.int .i64 r.sen, .int .i64 r.cnt, .string ⟨r.mark.toArray⟩, .string ⟨r.ans.toArray⟩], .int .i64 s] V fun e w' => e = .returned (.int .i64 c) ∧ Below V.heap.size V w' := fun V => by rw [hc]; exact krow1_walk r s V
        have K1 := Lib.hid k1
        have hlt2 : decide ((x : Int) < (l.length : Int)) = true := decide_eq_true (by omega)
        have hlt3 : decide (x < l.length) = true := decide_eq_true (by omega)
        have hcz : (c == 0) = decide (r.sen = s) := by
          rw [hc, cmpF, if_neg (by omega)]
          by_cases e : r.sen = s
          · rw [if_neg (by omega), decide_eq_true e]; rfl
          · rw [if_pos (by omega), decide_eq_false e]; rfl
        generalize decide (r.sen = s) = b at *
        have HB := Lib.hid hh
        clear k1 hp hh hL hH hc hge
        go_wp2_with ((with_reducible refine (K1.out _).mono ?_); rintro e w1 ⟨rfl, hb1⟩)
        go_ret2
        exact ⟨by rw [HP.out, HB.out]; rfl, below_tr hB hb1⟩
      · obtain rfl : x = l.length := by omega
        have hh : hasF l s = false := hasF_end hp
        have HB := Lib.hid hh
        clear hp hh hL hH
        go_wp2
        go_ret2
        exact ⟨by rw [HP.out, HB.out]; rfl, hB⟩
set_option maxRecDepth 100000 in
theorem krow_walk (a : Option Addr) (l : List Kpt) (cap : Nat) (s : Int) (w : World) (hR : Rd w a (rowsC kpC l)) (hn : l.length ≤ 1000000) (hG : Good l l.length) :
    Calls Try.prog 29 #[.agg #[.slice a l.length cap], .int .i64 s] w fun e w' => e = .returned (.tuple #[.int .i64 (posF l s : Int), .bool (hasF l s)]) ∧ Below w.heap.size w w' := by
  have hb0 := (Below.refl w.heap.size w).alloc (Nat.le_refl _) (.cells #[.slice a l.length cap] 24)
  have k1 := ksearch_walk a l cap s _ (hR.keep hb0) hn hG
  have K1 := Lib.hid k1
  clear k1 hG
  go_enter Try.func29, Try.ntmps29
  go_wp2_with (go_at_call 42; (with_reducible refine K1.out.mono ?_))
  rintro e w1 ⟨rfl, hb1⟩
  go_wp2
  go_ret2
  exact ⟨rfl, below_tr hb0 hb1⟩
end Go.Proofs.Ytnlhcfhngdahlaa
