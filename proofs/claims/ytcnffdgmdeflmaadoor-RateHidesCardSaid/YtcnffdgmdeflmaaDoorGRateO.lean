/- Marks are counted once: the program's Once. -/
import Derived.Test.YtcnffdgmdeflmaaDoorGRateS
import Derived.Test.YtcnffdgmdeflmaaDoorGRateE
namespace Go.Proofs.YtcnffdgmdeflmaaDoor
open Go.RowKit
set_option maxRecDepth 100000 in
set_option maxHeartbeats 2000000 in
theorem sindex_walk (a : Option Addr) (l : List (List UInt8)) (cap : Nat) (x : List UInt8) (w : World) (hR : Rd w a (strs l)) (hl : l.length ≤ 281474976710656) :
    Calls Tryd.prog 54 #[.slice a l.length cap, .string ⟨x.toArray⟩] w fun e w' => ∃ i, e = .returned (.int .i64 i) ∧ decide (0 ≤ i) = decide (x ∈ l) ∧ w = w' := by
  go_enter Tryd.func54, Tryd.ntmps54
  go_wp2_with fail
  go_loopw [8] (fun i wr => ∃ k : Nat, wr = w ∧ k ≤ l.length ∧ i = .int .i64 (k : Int) ∧ Hid (x ∉ l.take k)) (fun i _ => l.length - (intOf i).toNat)
  case atStart => exact ⟨0, rfl, Nat.zero_le _, rfl, Lib.hid (by simp)⟩
  case round =>
    obtain ⟨k, rfl, hk, rfl, hA⟩ := hrel
    by_cases hkt : k < l.length
    · obtain ⟨gx, off, y, rfl, hc, hx⟩ := hR.str (k := k) hkt
      have hkl : (k : Int) < (l.length : Int) := by omega
      by_cases hxy : x = y
      · subst hxy
        have hm := Lib.hid (mem_at hx)
        clear hA hx hR
        go_wp2
        go_ret
        exact ⟨(k : Int), rfl, by rw [decide_eq_true hm.out]; simp, rfl⟩
      · have hb : (x == y) = false := by rw [beq_eq_false_iff_ne]; exact hxy
        have hT : x ∉ l.take (k + 1) := fun h => by
          rw [take_at hx] at h
          rcases List.mem_append.1 h with h | h
          · exact hA.out h
          · simp at h; exact hxy h
        have HT := Lib.hid hT
        clear hT hA hx hR hxy
        go_wp2
        go_roundw
        case rel => exact ⟨k + 1, trivial, by omega, by go_num, HT⟩
        case measure => simp [intOf]; omega
    · have hkl : ¬ (k : Int) < (l.length : Int) := by omega
      obtain rfl : k = l.length := by omega
      have hm : x ∉ l := by have := hA.out; rwa [List.take_length] at this
      have HM := Lib.hid hm
      clear hA hm
      go_wp2
      go_ret
      exact ⟨-1, rfl, ⟨fun h => absurd h (by decide), fun h => absurd h HM.out⟩, rfl⟩
set_option maxRecDepth 100000 in
theorem scontains_walk (a : Option Addr) (l : List (List UInt8)) (cap : Nat) (x : List UInt8) (w : World) (hR : Rd w a (strs l)) (hl : l.length ≤ 281474976710656) :
    Calls Tryd.prog 40 #[.slice a l.length cap, .string ⟨x.toArray⟩] w fun e w' => e = .returned (.bool (decide (x ∈ l))) ∧ w = w' := by
  have K1 := Lib.hid (sindex_walk a l cap x w hR hl)
  clear hR hl
  go_enter Tryd.func40, Tryd.ntmps40
  go_wp2_with (go_at_call 54; (with_reducible refine K1.out.mono ?_))
  rintro e w1 ⟨i, rfl, hi, rfl⟩
  have HI := Lib.hid hi
  clear K1 hi
  go_wp2
  go_ret
  exact ⟨by rw [← HI.out]; rfl, rfl⟩
/-! ### The test of Once -/
set_option maxRecDepth 100000 in
set_option maxHeartbeats 2000000 in
theorem once1_walk (i : Nat) (g : Nat) (a : Option Addr) (l : List (List UInt8)) (cap : Nat) (w : World) (hG : Bx w g 44 [.slice a l.length cap]) (hR : Rd w a (strs l)) (hl : l.length ≤ 281474976710656) (hc : l.length ≤ cap) (hi : i < l.length) :
    Calls Tryd.prog 39 #[.int .i64 (i : Int), .pointer (some ⟨g, 0, none⟩)] w fun e w' => e = .returned (.bool (onceB l i)) ∧ ∃ n, w' = w.drewN n := by
  obtain ⟨gx, off, x, rfl, hx, hxl⟩ := hR.str (k := i) hi
  have c0 := hG.cell 0 rfl
  have htl : (l.take i).length = i := by rw [List.length_take]; omega
  have hRt : ∀ V, Rd V (some ⟨gx, off, none⟩) (strs l) → Rd V (some ⟨gx, off, none⟩) (strs (l.take i)) := fun V h => by
    refine Rd.mk fun j u hj => ?_
    obtain ⟨g', off', e, hc'⟩ := h j u (by
      simp only [strs, List.map_take] at hj ⊢
      rw [List.getElem?_take] at hj
      split at hj
      · exact hj
      · cases hj)
    cases e
    exact hc'
  have KC := Lib.hid (fun n => by
    have := scontains_walk (some ⟨gx, off, none⟩) (l.take i) cap x (w.drewN n) (hRt _ (fun j u hj => hR j u hj)) (by omega)
    rwa [htl] at this)
  have HB : Hid (onceB l i = !decide (x ∈ l.take i)) := (onceB_at hxl.out).trans (congrArg (!·) (decide_eq_decide.2 Iff.rfl))
  have hic : (0 : Int) ≤ (i : Int) ∧ (i : Int) ≤ (cap : Int) ∧ (i : Int) < (l.length : Int) := by omega
  obtain ⟨i0, i1, i2⟩ := hic
  clear hRt htl hxl
  generalize decide (x ∈ l.take i) = d at KC HB
  go_enter Tryd.func39, Tryd.ntmps39
  go_wp2_with fail
  go_quiet (first | (go_at_call 40; with_reducible exact hstill (KC.out _)))
  go_wp2
  go_ret
  exact ⟨by rw [HB.out]; rfl, _, rfl⟩
theorem Bx.drewN {w : World} {g : Nat} {t : TypeId} {cs : List Value} (h : Bx w g t cs) (n : Nat) : Bx (w.drewN n) g t cs := h
theorem Rd.drewN {w : World} {a : Option Addr} {xs : List Value} (h : Rd w a xs) (n : Nat) : Rd (w.drewN n) a xs := fun j u hj => h j u hj
def nats (l : List Nat) : List Int := l.map fun n : Nat => (n : Int)
theorem nats_snoc (l : List Nat) (n : Nat) : nats l ++ [(n : Int)] = nats (l ++ [n]) := by simp [nats]
set_option maxRecDepth 100000 in
set_option maxHeartbeats 4000000 in
theorem where_once (g : Nat) (a : Option Addr) (l : List (List UInt8)) (cap : Nat) (w : World) (hG : Bx w g 44 [.slice a l.length cap]) (hR : Rd w a (strs l)) (hl : l.length ≤ 1000000) (hc : l.length ≤ cap) :
    Calls Tryd.prog 38 #[.int .i64 (l.length : Int), .func (.func 39) #[] #[.pointer (some ⟨g, 0, none⟩)]] w fun e w' => ∃ b d, e = .returned (.slice b (onceI l l.length).length d) ∧ Below w.heap.size w w' := by
  go_enter Tryd.func38, Tryd.ntmps38
  go_wp2_with fail
  go_loopw [5, 8] (fun v i wr => ∃ (k m : Nat) (b : Option Addr) (c : Nat) (L : List Int), k ≤ l.length ∧ i = .int .i64 (k : Int) ∧ v = .slice b m c ∧ Hid (L = nats (onceI l k)) ∧ Hid (m = L.length) ∧ m ≤ k ∧ Ow wr w.heap.size 1 b m c (ints L) ∧ Below w.heap.size w wr) (fun _ i _ => l.length - (intOf i).toNat)
  case atStart => exact ⟨0, 0, none, 0, [], Nat.zero_le _, rfl, rfl, Lib.hid rfl, Lib.hid rfl, Nat.le_refl _, Ow.nil _ _ _, Below.refl _ _⟩
  case round =>
    obtain ⟨k, m, b, c, L, hk, rfl, rfl, hL, hm, hmk, hO, hB⟩ := hrel
    by_cases hkt : k < l.length
    · have hkl : (k : Int) < (l.length : Int) := by omega
      have K1 := Lib.hid (once1_walk k g a l cap wr (hG.keep hB) (hR.keep hB) (by omega) hc hkt)
      have hs := onceI_succ l k
      cases ho : onceB l k with
      | false =>
        rw [ho] at K1 hs
        have HL : Hid (L = nats (onceI l (k + 1))) := by rw [hs]; have := hL.out; show _ = _; rw [this]; simp
        clear hs ho hL
        go_wp2_with ((with_reducible refine K1.out.mono ?_))
        rintro e w1 ⟨rfl, n1, rfl⟩
        have hB2 := below_drewN hB n1
        have hO2 : Ow (wr.drewN n1) w.heap.size 1 b m c (ints L) := hO
        go_wp2
        go_roundw
        case rel => exact ⟨k + 1, m, b, c, L, by omega, by go_num, rfl, HL, hm, by omega, hO2, hB2⟩
        case measure => simp [intOf]; omega
      | true =>
        rw [ho] at K1 hs
        have HL : Hid (L ++ [(k : Int)] = nats (onceI l (k + 1))) := by rw [hs]; have := hL.out; show _ = _; rw [this, nats_snoc]; simp
        have hm2 : Hid (m + 1 = (L ++ [(k : Int)]).length) := by have := hm.out; show _ = _; simp [this]
        clear hs ho hL hm
        go_wp2_with ((with_reducible refine K1.out.mono ?_))
        rintro e w1 ⟨rfl, n1, rfl⟩
        have hB2 := below_drewN hB n1
        have hO2 : Ow (wr.drewN n1) w.heap.size 1 b m c (ints L) := hO
        go_wp2_with (at_builtin; refine wpList_app1 (w0 := w) (B := w.heap.size) rfl _ _ _ rfl elI4 rfl hO2 hB2 (Nat.le_refl _) hB2.size rfl (by rfl) (one1 rfl) (by omega) ?_)
        intro b' c' w2 hO3 hB3 _
        rw [ints_snoc] at hO3
        generalize L ++ [(k : Int)] = L' at *
        clear hO hO2 hB hB2
        go_wp2
        go_roundw
        case rel => exact ⟨k + 1, m + 1, b', c', L', by omega, by go_num, rfl, HL, hm2, by omega, hO3, hB3⟩
        case measure => simp [intOf]; omega
    · have hkl : ¬ (k : Int) < (l.length : Int) := by omega
      obtain rfl : k = l.length := by omega
      have he : m = (onceI l l.length).length := by rw [hm.out, hL.out]; simp [nats]
      have HE := Lib.hid he
      clear he hL hm hR hG
      go_wp2
      go_ret
      exact ⟨⟨b, c, by rw [← HE.out]; rfl⟩, hB⟩
set_option maxRecDepth 100000 in
set_option maxHeartbeats 4000000 in
theorem once_walk (a : Option Addr) (l : List (List UInt8)) (cap : Nat) (w : World) (hR : Rd w a (strs l)) (hl : l.length ≤ 1000000) (hc : l.length ≤ cap) :
    Calls Tryd.prog 19 #[.slice a l.length cap] w fun e w' => ∃ b d, e = .returned (.slice b (onceI l l.length).length d) ∧ Below w.heap.size w w' := by
  have hb0 := (Below.refl w.heap.size w).alloc (Nat.le_refl _) (.cells #[.slice a l.length cap] 44)
  have hG := Bx.new w 44 [.slice a l.length cap]
  have K1 := Lib.hid (where_once w.heap.size a l cap _ hG (hR.keep hb0) hl hc)
  clear hG hR
  go_enter Tryd.func19, Tryd.ntmps19
  go_wp2_with (go_at_call 38; (with_reducible refine K1.out.mono ?_))
  rintro e w1 ⟨b, d, rfl, hb1⟩
  have HB := Lib.hid (below_tr hb0 hb1)
  clear K1 hb0 hb1
  go_wp2
  go_ret
  first | exact ⟨b, d, rfl, HB.out⟩ | exact ⟨⟨b, d, rfl⟩, HB.out⟩
end Go.Proofs.YtcnffdgmdeflmaaDoor
