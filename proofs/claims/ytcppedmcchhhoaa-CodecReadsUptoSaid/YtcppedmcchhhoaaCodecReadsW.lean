/- The walk of the law CodecReads. -/
import Derived.Test.YtcppedmcchhhoaaCodecT
import Derived.Test.YtcppedmcchhhoaaCodecQ
namespace Go.Proofs.Ytcppedmcchhhoaa
open Go.RowKit

theorem rints_at {b : List UInt8} {p q e : Int} {l : List Int} (hg : getList getInt 2048 b p = (l, q, e)) (w : World) (hb : b.length ≤ 281474976710656) :
    Calls Try.prog 29 #[.string ⟨b.toArray⟩, .int .i64 p] w (ListRes l.length (ints l) q e w) := by
  have := rints_walk b p w hb
  rw [hg] at this; exact this
theorem rtexts_at {b : List UInt8} {p q e : Int} {l : List (List UInt8)} (hg : getList getText 256 b p = (l, q, e)) (w : World) (hb : b.length ≤ 281474976710656) :
    Calls Try.prog 31 #[.string ⟨b.toArray⟩, .int .i64 p] w (ListRes l.length (strs l) q e w) := by
  have := rtexts_walk b p w hb
  rw [hg] at this; exact this
theorem mod_lit (n m : Int) (h1 : 1 ≤ m) (h2 : m ≤ 281474976710656) :
    ∃ K : Nat, (K : Int) < m ∧ Hid (∀ w, Calls Try.prog 14 #[.int .i64 n, .int .i64 m] w fun e w' => e = .returned (.int .i64 (K : Int)) ∧ w = w') := by
  have a := Int.emod_nonneg n (show m ≠ 0 by omega)
  have b := Int.emod_lt_of_pos n (show 0 < m by omega)
  refine ⟨(n % m).toNat, by omega, fun w => ?_⟩
  rw [Int.toNat_of_nonneg a]
  exact mod_any n m w (by omega) (by omega)

theorem items_len {α : Type} (f : Int → α × Int × Int) : ∀ (n : Nat) (p : Int) (l : List α) (q : Int), items f n p = .inr (l, q) → l.length = n
  | 0, p, l, q, h => by simp only [items, Sum.inr.injEq, Prod.mk.injEq] at h; rw [← h.1]; rfl
  | n + 1, p, l, q, h => by
    rw [items] at h
    split at h
    · simp at h
    · split at h
      · simp at h
      · rename_i l' q' h'
        simp only [Sum.inr.injEq, Prod.mk.injEq] at h
        rw [← h.1, List.length_cons, items_len f n _ l' q' h']
theorem getList_len {α : Type} (f : List UInt8 → Int → α × Int × Int) (most : Int) (b : List UInt8) (p : Int) (h0 : 0 ≤ most) : ((getList f most b p).1.length : Int) ≤ most := by
  unfold getList
  split
  · simpa using h0
  · split
    · simpa using h0
    · split
      · simpa using h0
      · cases hi : items (f b) (getInt b p).1.toNat (getInt b p).2.1 with
        | inl e => simpa [listOf] using h0
        | inr r =>
          obtain ⟨l, q⟩ := r
          have := items_len _ _ _ _ _ hi
          simp only [listOf]; omega

/-- 'string(bytes)', the bytes as numbers -/
theorem run_nums_str {P : Program} (w : World) (src dst e : TypeId) (hs : P.underlying src = some (.slice e)) (he : P.underlying e = some (.int .u8)) (hd : P.underlying dst = some .string)
    {g off n c : Nat} {xs : List Int} (hl : xs.length = n) (h : Rd w (some ⟨g, off, none⟩) (xs.map (Value.int .u8))) :
    (convert src dst (.slice (some ⟨g, off, none⟩) n c)).run P w = .ok (.string ⟨(xs.map fun n => UInt8.ofNat n.toNat).toArray⟩) w := by
  rw [run_convert_bytes_arg w src e hs he g off n c xs hl (fun i hi => ?_) dst hd]
  · rfl
  · obtain ⟨g', off', ha, hc⟩ := h i (.int .u8 (xs.getD i 0)) (by simp [show i < xs.length by omega])
    simp only [Option.some.injEq, Addr.mk.injEq, and_true] at ha
    obtain ⟨rfl, rfl⟩ := ha
    exact hc

/-- a string of which a byte may have turned: as long -/
def Spoilt (s : List UInt8) (w : World) (e : Ending) (w' : World) : Prop := ∃ t : List UInt8, t.length = s.length ∧ e = .returned (.string ⟨t.toArray⟩) ∧ Below w.heap.size w w'
set_option maxRecDepth 100000 in
set_option maxHeartbeats 800000 in
theorem spoil_walk (s : List UInt8) (at' by' : Int) (w : World) (hs : s.length ≤ 140737488000000) :
    Calls Try.prog 24 #[.string ⟨s.toArray⟩, .int .i64 at', .int .i64 by'] w (Spoilt s w) := by
  by_cases h0 : s = []
  · subst h0
    go_enter Try.func24, Try.ntmps24
    go_wp2
    go_ret
    exact ⟨[], rfl, rfl, Below.refl _ _⟩
  · have hpos : 0 < s.length := List.length_pos_iff.2 h0
    have hcv := Lib.run_convert_string_bytes (P := Try.prog) w 9 49 5 ⟨s.toArray⟩ Try.underlying9 Try.underlying49 Try.underlying5
    have hw0 := below_bytes w 5 ⟨s.toArray⟩
    have how : Ow (Lib.bytesWorld w 5 ⟨s.toArray⟩) w.heap.size 1 (some ⟨w.heap.size, 0, none⟩) s.length (grownCap w s.length 0 5) (u8s s) := Ow.bytes w 5 ⟨s.toArray⟩ (by simp [maxLen, ByteArray.size]; omega)
    obtain ⟨K, hK, HK⟩ := mod_lit at' s.length (by omega) (by omega)
    have hn : (s == []) = false := by rw [beq_eq_false_iff_ne]; exact h0
    have hcap := how.2.1
    generalize hW : Lib.bytesWorld w 5 ⟨s.toArray⟩ = W at *
    have hKl : K < s.length := by omega
    have hcell : W.cell? ⟨w.heap.size, K, none⟩ = some (.int .u8 ((bt s K : Nat) : Int)) := by
      obtain ⟨_, _, _, ⟨h, _⟩ | ⟨g, off, ha, _, _, hx, _⟩⟩ := how
      · simp at h
      · simp only [Option.some.injEq, Addr.mk.injEq, and_true] at ha
        obtain ⟨rfl, rfl⟩ := ha
        have := hx K _ (u8s_get s K hKl)
        rw [Nat.zero_add] at this
        rw [this, bt, List.getElem?_eq_getElem hKl]; rfl
    have hfr : W.frozen? ⟨w.heap.size, K, none⟩ = false := by
      obtain ⟨_, _, _, ⟨h, _⟩ | ⟨g, off, ha, _, _, _, hf⟩⟩ := how
      · simp at h
      · simp only [Option.some.injEq, Addr.mk.injEq, and_true] at ha
        obtain ⟨rfl, rfl⟩ := ha
        have := (hf K (by omega)).2
        rwa [Nat.zero_add] at this
    have hcv2 : ∀ x : Int, (convert 49 9 (.slice (some ⟨w.heap.size, 0, none⟩) s.length (grownCap w s.length 0 5))).run Try.prog (W.setCell ⟨w.heap.size, K, none⟩ (.int .u8 x)) =
        .ok (.string ⟨(((s.map fun c => (c.toNat : Int)).set K x).map fun n => UInt8.ofNat n.toNat).toArray⟩) (W.setCell ⟨w.heap.size, K, none⟩ (.int .u8 x)) := fun x => by
      have h1 := (how.stored K (.int .u8 x)).1.rd
      rw [Nat.zero_add] at h1
      have e : (u8s s).set K (.int .u8 x) = ((s.map fun c => (c.toNat : Int)).set K x).map (Value.int .u8) := by rw [List.map_set]; simp [u8s]; rfl
      rw [e] at h1
      exact run_nums_str _ _ _ 5 Try.underlying49 Try.underlying5 Try.underlying9 (by simp) h1
    clear hW
    go_enter Try.func24, Try.ntmps24
    go_wp2_with (go_at_call 14; (with_reducible refine (HK.out _).mono ?_); rintro e w' ⟨rfl, rfl⟩)
    go_ret
    exact ⟨_, by simp, rfl, hw0.setCell (Nat.le_refl _) _⟩

set_option maxRecDepth 100000 in
set_option maxHeartbeats 4000000 in
theorem reads_walk (w : World) (b : List UInt8) (_ : b.length ≤ 140737488351232) (_ : b.length ≤ 1048576) (n : Int) (hn : I64 n) (at' : Int) (_ : I64 at')
    (la : Option Addr) (l : List Int) (lc : Nat) (hr : Rd w la (ints l)) (hx : ∀ x ∈ l, I64 x) (_ : l.length ≤ 17592186043904) (_ : l.length ≤ 1048576)
    (ma : Option Addr) (m : List (List UInt8)) (mc : Nat) (hrm : Rd w ma (strs m)) (hxm : ∀ x ∈ m, x.length ≤ 140737488351232) (_ : m.length ≤ 17592186043904) (hmt : tot m + m.length ≤ 1048576) :
    Calls Try.prog 6 #[.string ⟨b.toArray⟩, .int .i64 n, .int .i64 at', .slice la l.length lc, .slice ma m.length mc] w fun e w' => e = .returned (.bool true) ∧ Below w.heap.size w w' := by
  by_cases q1 : 500 < b.length
  · go_enter Try.func6, Try.ntmps6
    go_wp2_with (go_at_call 13; refine (awake4 _).mono ?_; rintro e w1 ⟨rfl, hb1⟩)
    go_ret
    exact ⟨rfl, hb1⟩
  by_cases q2 : 50 < l.length
  · go_enter Try.func6, Try.ntmps6
    go_wp2_with (go_at_call 13; refine (awake4 _).mono ?_; rintro e w1 ⟨rfl, hb1⟩)
    go_ret
    exact ⟨rfl, hb1⟩
  by_cases q3 : 30 < m.length
  · go_enter Try.func6, Try.ntmps6
    go_wp2_with (go_at_call 13; refine (awake4 _).mono ?_; rintro e w1 ⟨rfl, hb1⟩)
    go_ret
    exact ⟨rfl, hb1⟩
  have hxm' : ∀ x ∈ m, x.length ≤ 281474976710656 := fun x h => by have := hxm x h; omega
  have a1 := putInts_len hx (by omega)
  have a2 := putTexts_len hxm' (by omega)
  have a3 := putText_len (s := b) (by omega)
  have a4 := putInt_ten hn
  obtain ⟨M1, hM1, HM1⟩ := mod_lit n 300 (by omega) (by omega)
  obtain ⟨M2, hM2, HM2⟩ := mod_lit n 2 (by omega) (by omega)
  obtain ⟨M3, hM3, HM3⟩ := mod_lit at' ((b.length : Int) + 1) (by omega) (by omega)
  have a5 := putInt_ten (show I64 ((M1 : Int) - 2) by unfold I64; omega)
  have a6 := putInt_ten (show I64 (256 + (M2 : Int)) by unfold I64; omega)
  have a7 := putInt_ten (show I64 (2048 + (M2 : Int)) by unfold I64; omega)
  have a8 := putText_pos b
  have hM3' : (M3 : Int) ≤ (putText b).length := by
    rw [putText, List.length_append]; omega
  have hB := Below.refl w.heap.size w
  go_enter Try.func6, Try.ntmps6
  go_wp2_with (first
    | (go_at_call 17; refine (rputInt_walk [] _ _ (by first | exact hn | (unfold I64; omega)) (by simp)).mono ?_; rintro e w1 ⟨rfl, h1⟩; replace hB := below_tr hB h1)
    | (go_at_call 21; refine (rputInts_walk [] la lc l _ (by simp) (hr.keep hB) (by omega) hx (by omega)).mono ?_; rintro e w1 ⟨rfl, h1⟩; replace hB := below_tr hB h1)
    | (go_at_call 23; refine (rputTexts_walk [120] ma mc m _ (by simp) (hrm.keep hB) (by omega) hxm' (by omega)).mono ?_; rintro e w1 ⟨rfl, h1⟩; replace hB := below_tr hB h1)
    | (go_at_call 19; refine (rputText_walk [] b _ (by simp) (by omega)).mono ?_; rintro e w1 ⟨rfl, h1⟩; replace hB := below_tr hB h1)
    | (go_at_call 24; refine (spoil_walk (putInts l) _ _ _ (by omega)).mono ?_; rintro e w1 ⟨SP, hSP, rfl, h1⟩; replace hB := below_tr hB h1)
    | (go_at_call 14; (with_reducible refine (HM1.out _).mono ?_); rintro e w' ⟨rfl, rfl⟩)
    | (go_at_call 14; (with_reducible refine (HM2.out _).mono ?_); rintro e w' ⟨rfl, rfl⟩)
    | (go_at_call 14; (with_reducible refine (HM3.out _).mono ?_); rintro e w' ⟨rfl, rfl⟩))
  simp only [ByteArray.mk_append_mk]
  refine new_strs (Code.wp _ _ _ _) [b, putInt n ++ b, putInts l ++ b, (120 :: putTexts m) ++ b, putInt ((M1 : Int) - 2) ++ b, putInt (256 + (M2 : Int)) ++ b, putInt (2048 + (M2 : Int)), SP, (putText b).take M3] ?_
  intro w2 h2 hrd
  replace hB := below_tr hB h2
  obtain ⟨XS, hXS⟩ : ∃ XS, XS = [b, putInt n ++ b, putInts l ++ b, (120 :: putTexts m) ++ b, putInt ((M1 : Int) - 2) ++ b, putInt (256 + (M2 : Int)) ++ b, putInt (2048 + (M2 : Int)), SP, (putText b).take M3] := ⟨_, rfl⟩
  have hXl : XS.length = 9 := by rw [hXS]; rfl
  have hXb : ∀ x ∈ XS, x.length ≤ 3000000 := by
    intro x hx
    rw [hXS] at hx
    simp only [List.mem_cons, List.not_mem_nil, or_false] at hx
    rcases hx with rfl | rfl | rfl | rfl | rfl | rfl | rfl | rfl | rfl <;> (first | omega | (simp only [List.length_append, List.length_cons, List.length_take]; omega))
  rw [← hXS] at hrd
  have HX9 := Lib.hid hXl
  obtain ⟨G, hG⟩ : ∃ G, G = w1.heap.size := ⟨_, rfl⟩
  rw [← hG] at hrd ⊢
  clear hXS hXl hG h2 a1 a2 a3 a4 a5 a6 a7 a8 hM1 hM2 hM3 hM3' HM1 HM2 HM3 hr hrm hx hxm hxm'
  go_loopw [87] (fun i wr => ∃ k : Nat, k ≤ 9 ∧ i = .int .i64 (k : Int) ∧ Rd wr (some ⟨G, 0, none⟩) (strs XS) ∧ Below w.heap.size w wr) (fun i _ => 9 - (intOf i).toNat)
  case atStart => exact ⟨0, by omega, rfl, hrd, hB⟩
  case round =>
    obtain ⟨k, hk, rfl, hrd, hbel⟩ := hrel
    clear hB
    by_cases hlt : k < 9
    · obtain ⟨g, off, s, hga, hc, HS⟩ := hrd.str (k := k) (by rw [HX9.out]; exact hlt)
      simp only [Option.some.injEq, Addr.mk.injEq, and_true] at hga
      obtain ⟨rfl, rfl⟩ := hga
      rw [Nat.zero_add] at hc
      have hsb := hXb s (mem_at HS)
      obtain ⟨M, hM, HM⟩ := mod_lit at' ((s.length : Int) + 2) (by omega) (by omega)
      obtain ⟨w3, rfl⟩ : ∃ w3 : World, w3 = wr := ⟨_, rfl⟩
      go_wp2_with (go_at_call 14; (with_reducible refine (HM.out _).mono ?_); rintro e w' ⟨rfl, rfl⟩)
      refine new_ints (Code.wp _ _ _ _) [at', (M : Int) - 1, 0] ?_
      intro w4 h4 hrp
      have hrd4 := hrd.keep h4
      have hB4 := below_tr hbel h4
      clear hrd h4 hbel hc hM HM
      obtain ⟨J, hJ⟩ : ∃ J, J = w3.heap.size := ⟨_, rfl⟩
      rw [← hJ] at hrp ⊢
      clear hJ
      go_loopw [100] (fun i wr => ∃ j : Nat, j ≤ 3 ∧ i = .int .i64 (j : Int) ∧ Rd wr (some ⟨J, 0, none⟩) (ints [at', (M : Int) - 1, 0]) ∧ Rd wr (some ⟨G, 0, none⟩) (strs XS) ∧ Below w.heap.size w wr) (fun i _ => 3 - (intOf i).toNat)
      case atStart => exact ⟨0, by omega, rfl, hrp, hrd4, hB4⟩
      case round =>
        obtain ⟨j, hj, rfl, hrp, hrd, hbel⟩ := hrel
        clear hrd4 hB4
        by_cases hltj : j < 3
        · obtain ⟨g, off, p, hga, hc, HP⟩ := hrp.int (k := j) hltj
          simp only [Option.some.injEq, Addr.mk.injEq, and_true] at hga
          obtain ⟨rfl, rfl⟩ := hga
          rw [Nat.zero_add] at hc
          rcases g0 : getInt s p with ⟨x0, y0, z0⟩
          rcases g1 : getText s p with ⟨x1, y1, z1⟩
          rcases g2 : getList getInt 2048 s p with ⟨x2, y2, z2⟩
          rcases g3 : getList getText 256 s p with ⟨x3, y3, z3⟩
          have hx2 := getList_len getInt 2048 s p (by omega)
          have hx3 := getList_len getText 256 s p (by omega)
          rw [g2] at hx2
          rw [g3] at hx3
          simp only [] at hx2 hx3
          replace g0 := Lib.hid g0
          replace g1 := Lib.hid g1
          replace g2 := Lib.hid g2
          replace g3 := Lib.hid g3
          obtain ⟨w5, rfl⟩ : ∃ w5 : World, w5 = wr := ⟨_, rfl⟩
          go_wp2_with (first
            | (go_at_call 15; refine (int_at g0.out _ (by omega)).mono ?_; rintro e w' ⟨rfl, rfl⟩)
            | (go_at_call 25; refine (rint_at g0.out _ (by omega)).mono ?_; rintro e w' ⟨rfl, rfl⟩)
            | (go_at_call 26; refine (text_at g1.out _ (by omega)).mono ?_; rintro e w' ⟨rfl, rfl⟩)
            | (go_at_call 27; refine (rtext_at g1.out _ (by omega)).mono ?_; rintro e w' ⟨rfl, rfl⟩)
            | (go_at_call 28; refine (ints_at g2.out _ (by omega)).mono ?_; rintro e w6 ⟨ca, cc, rfl, -, cr, hb6⟩)
            | (go_at_call 29; refine (rints_at g2.out _ (by omega)).mono ?_; rintro e w7 ⟨da, dc, rfl, -, dr, hb7⟩; replace cr := cr.keep hb7; replace hb7 := below_tr hb6 hb7))
          go_loop [189] (fun i => ∃ k : Nat, k ≤ x2.length ∧ i = .int .i64 (k : Int)) (fun i => x2.length - (intOf i).toNat)
          case atStart => exact ⟨0, Nat.zero_le _, rfl⟩
          case round =>
            obtain ⟨q, hq, rfl⟩ := hrel
            by_cases hltq : q < x2.length
            · obtain ⟨g, off, x, rfl, hcc, HX⟩ := cr.int hltq
              obtain ⟨g', off', x', rfl, hcc', HX'⟩ := dr.int hltq
              obtain rfl := same_at HX HX'
              go_wp2
              go_round
              case rel => exact ⟨q + 1, by omega, by go_num⟩
              case measure => simp [intOf]; omega
            · clear cr dr
              go_wp2_with (first
                | (go_at_call 30; refine (texts_at g3.out _ (by omega)).mono ?_; rintro e w8 ⟨ua, uc, rfl, -, ur, hb8⟩; replace hb8 := below_tr hb7 hb8)
                | (go_at_call 31; refine (rtexts_at g3.out _ (by omega)).mono ?_; rintro e w9 ⟨va, vc, rfl, -, vr, hb9⟩; replace ur := ur.keep hb9; replace hb9 := below_tr hb8 hb9)
                | (go_at_call 32; refine (sameTexts_walk ua x3 uc va vc _ ur vr (by omega)).mono ?_; rintro e w' ⟨rfl, rfl⟩))
              go_roundw
              case rel => exact ⟨j + 1, by omega, by go_num, hrp.keep hb9, hrd.keep hb9, below_tr hbel hb9⟩
              case measure => simp [intOf]; omega
        · go_wp2
          refine ⟨?_, ?mea⟩
          (repeat apply Exists.intro)
          refine ⟨⟨k + 1, by omega, ?rl, hrd, hbel⟩, rfl⟩
          case rl => go_num
          case mea => simp [intOf]; omega
    · go_wp2_with (go_at_call 13; refine (awake4 _).mono ?_; rintro e w3 ⟨rfl, h3⟩)
      go_ret
      exact ⟨rfl, below_tr hbel h3⟩
end Go.Proofs.Ytcppedmcchhhoaa
