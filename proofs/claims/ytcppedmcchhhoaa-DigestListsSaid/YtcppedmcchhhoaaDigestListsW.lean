/- The walk of the law on pairs and lists. -/
import Derived.Test.YtcppedmcchhhoaaDigestL
namespace Go.Proofs.Ytcppedmcchhhoaa
open Go.RowKit
/-- the lengths of the first k strings, added up -/
def totN (l : List (List UInt8)) (k : Nat) : Nat := ((l.take k).map List.length).sum
theorem totN_succ {l : List (List UInt8)} {k : Nat} {x : List UInt8} (h : Hid (l[k]? = some x)) : totN l (k + 1) = totN l k + x.length := by
  rw [totN, take_at h, List.map_append, List.sum_append]; simp [totN]
theorem totN_le {l : List (List UInt8)} (hs : ∀ x ∈ l, x.length ≤ 140737488351232) : ∀ k, k ≤ l.length → totN l k ≤ k * 140737488351232
  | 0, _ => by simp [totN]
  | k + 1, hk => by
    have h : Hid (l[k]? = some l[k]) := List.getElem?_eq_getElem (by omega)
    have h1 := totN_le hs k (by omega)
    have h2 := hs _ (mem_at h)
    rw [totN_succ h]; omega
theorem listB_length (l : List (List UInt8)) : ∀ k, k ≤ l.length → (listB l k).length = 4 * k + totN l k
  | 0, _ => by simp [totN, listB]
  | k + 1, hk => by
    have h : Hid (l[k]? = some l[k]) := List.getElem?_eq_getElem (by omega)
    have := listB_length l k (by omega)
    rw [listB_succ h, totN_succ h, List.length_append, this, List.length_append, wbytes_length]; omega
set_option maxRecDepth 100000 in
theorem lists_walk (W : World) (a : List UInt8) (ha : a.length ≤ 140737488351232) (b : List UInt8) (hb : b.length ≤ 140737488351232) (p : Option Addr) (l : List (List UInt8)) (cap : Nat) (hR : Rd W p (strs l)) (hs : ∀ x ∈ l, x.length ≤ 140737488351232) (hl : l.length ≤ 17592186043904) :
    Calls Try.prog 10 #[.string ⟨a.toArray⟩, .string ⟨b.toArray⟩, .slice p l.length cap] W fun e w' => e = .returned (.bool true) ∧ Below W.heap.size W w' := by
  go_enter Try.func10, Try.ntmps10
  go_wp2
  go_loopw [7, 9, 17] (fun v _ i wr => ∃ (k : Nat) (m : Int), wr = W ∧ k ≤ l.length ∧ i = .int .i64 (k : Int) ∧ v = .int .i64 m ∧ (k ≤ 50 → m = ((a.length + b.length + totN l k : Nat) : Int))) (fun _ _ i _ => l.length - (intOf i).toNat)
  case atStart => exact ⟨0, _, rfl, by omega, rfl, rfl, fun _ => by simp [totN]⟩
  case round =>
    obtain ⟨k, m, rfl, hk, rfl, rfl, hm⟩ := hrel
    have HM := Lib.hid hm
    clear hm
    by_cases hkt : k < l.length
    · obtain ⟨g, off, x, rfl, hcell, hx⟩ := hR.str hkt
      have hxl := hs x (mem_at hx)
      by_cases hk5 : k + 1 ≤ 50
      · have ht := totN_le hs k hk
        have hm := HM.out (by omega)
        have hs2 := totN_succ hx
        have hml : 0 ≤ m := by omega
        have hmh : m ≤ 9000000000000000 := by omega
        have HS := Lib.hid hs2
        have HM2 := Lib.hid hm
        clear ht hm hs2 HM
        go_wp2
        go_roundw
        case rel => exact ⟨k + 1, m + x.length, trivial, by omega, by go_num, rfl, fun _ => by rw [HS.out, HM2.out]; omega⟩
        case measure => simp [intOf]; omega
      · go_wp2
        go_roundw
        case rel => exact ⟨k + 1, _, trivial, by omega, by go_num, rfl, fun h => by omega⟩
        case measure => simp [intOf]; omega
    · obtain rfl : k = l.length := by omega
      clear hkt hk
      rcases Int.lt_or_le 3000 m with h3 | h3
      · clear HM
        go_wp2_with (go_at_call 33; (with_reducible refine (awake33_walk _).mono ?_))
        rintro e w1 ⟨rfl, hb1⟩
        go_wp2
        go_ret
        exact ⟨rfl, hb1⟩
      · rcases Nat.lt_or_ge 50 l.length with h5 | h5
        · clear HM
          go_wp2_with (go_at_call 33; (with_reducible refine (awake33_walk _).mono ?_))
          rintro e w1 ⟨rfl, hb1⟩
          go_wp2
          go_ret
          exact ⟨rfl, hb1⟩
        · have hm := HM.out (by omega)
          have hlb := listB_length l l.length (Nat.le_refl _)
          have hab : a.length + b.length ≤ 140737487000000 := by omega
          have hll : (listB l l.length).length ≤ 140737487000000 := by omega
          have hl2 : l.length ≤ 281474976710656 := by omega
          clear hm hlb HM
          go_wp2_with (go_at_call 38; (with_reducible refine (pair_walk _ _ _ hab).mono ?_))
          rintro e w1 ⟨rfl, hb1⟩
          go_wp2_with (go_at_call 39; (with_reducible refine (rpair_walk _ _ _ hab).mono ?_))
          rintro e w2 ⟨rfl, hb2⟩
          replace hb2 := below_tr hb1 hb2
          go_wp2_with (go_at_call 40; (with_reducible refine (list_walk _ _ _ _ (hR.keep hb2) hl2 hll).mono ?_))
          rintro e w3 ⟨rfl, hb3⟩
          replace hb3 := below_tr hb2 hb3
          go_wp2_with (go_at_call 41; (with_reducible refine (rlist_walk _ _ _ _ (hR.keep hb3) hl2 hll).mono ?_))
          rintro e w4 ⟨rfl, hb4⟩
          replace hb4 := below_tr hb3 hb4
          go_wp2_with (go_at_call 33; (with_reducible refine (awake33_walk _).mono ?_))
          rintro e w5 ⟨rfl, hb5⟩
          go_wp2
          go_ret
          exact ⟨rfl, below_tr hb4 hb5⟩
end Go.Proofs.Ytcppedmcchhhoaa
