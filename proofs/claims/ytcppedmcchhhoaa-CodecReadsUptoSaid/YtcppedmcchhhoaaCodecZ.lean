import Derived.Test.YtcppedmcchhhoaaCodecY
namespace Go.Proofs.Ytcppedmcchhhoaa
open Go.RowKit

theorem int_at {b : List UInt8} {p n q e : Int} (hg : getInt b p = (n, q, e)) (w : World) (hb : b.length ≤ 281474976710656) :
    Calls Try.prog 15 #[.string ⟨b.toArray⟩, .int .i64 p] w fun r w' => r = .returned (.tuple #[.int .i64 n, .int .i64 q, .int .i64 e]) ∧ w = w' :=
  (int_walk b p w hb).mono fun _ _ h => by rw [hg] at h; exact h

set_option maxRecDepth 100000 in
set_option maxHeartbeats 400000 in
theorem text_walk (b : List UInt8) (p : Int) (w : World) (hb : b.length ≤ 281474976710656) :
    Calls Try.prog 26 #[.string ⟨b.toArray⟩, .int .i64 p] w fun e w' => e = .returned (.tuple #[.string ⟨(getText b p).1.toArray⟩, .int .i64 (getText b p).2.1, .int .i64 (getText b p).2.2]) ∧ w = w' := by
  rcases hg : getInt b p with ⟨n, q, e⟩
  have HG := Lib.hid hg
  clear hg
  by_cases he : e = 0
  · subst he
    obtain ⟨h1, h2, h3, h4⟩ := getInt_ok HG.out
    by_cases hn : n < 0
    · have hr : getText b p = ([], p, 4) := by simp [getText, HG.out, hn]
      rw [hr]; clear hr
      go_enter Try.func26, Try.ntmps26
      go_wp2_with (go_at_call 15; refine (int_at HG.out _ hb).mono ?_; rintro e w' ⟨rfl, rfl⟩)
      go_ret3
      exact ⟨rfl, rfl⟩
    · by_cases hm : (b.length : Int) - q < n
      · have hr : getText b p = ([], p, 5) := by simp [getText, HG.out, hn, hm]
        rw [hr]; clear hr
        go_enter Try.func26, Try.ntmps26
        go_wp2_with (go_at_call 15; refine (int_at HG.out _ hb).mono ?_; rintro e w' ⟨rfl, rfl⟩)
        go_ret3
        exact ⟨rfl, rfl⟩
      · have hr : getText b p = ((b.drop q.toNat).take n.toNat, q + n, 0) := by simp [getText, HG.out, hn, hm]
        rw [hr]; clear hr
        obtain ⟨N, rfl⟩ := Int.eq_ofNat_of_zero_le (by omega : 0 ≤ n)
        obtain ⟨K, rfl⟩ := Int.eq_ofNat_of_zero_le (by omega : 0 ≤ q)
        go_enter Try.func26, Try.ntmps26
        go_wp2_with (go_at_call 15; refine (int_at HG.out _ hb).mono ?_; rintro e w' ⟨rfl, rfl⟩)
        go_ret3
        exact ⟨by simp [show K + N - K = N by omega], rfl⟩
  · obtain ⟨rfl, rfl⟩ := getInt_no HG.out he
    have hr : getText b q = ([], q, e) := by simp [getText, HG.out, he]
    rw [hr]; clear hr
    have hne : (e != 0) = true := by rw [bne_iff_ne]; exact he
    go_enter Try.func26, Try.ntmps26
    go_wp2_with (go_at_call 15; refine (int_at HG.out _ hb).mono ?_; rintro e w' ⟨rfl, rfl⟩)
    go_ret3
    exact ⟨rfl, rfl⟩

/-- a list, where it goes on, the error's number; nothing that was there has turned -/
def ListRes (n : Nat) (vals : List Value) (p e : Int) (w : World) (r : Ending) (w' : World) : Prop :=
  ∃ a cap, r = .returned (.tuple #[.slice a n cap, .int .i64 p, .int .i64 e]) ∧ vals.length = n ∧ Rd w' a vals ∧ Below w.heap.size w w'
def joined {α : Type} (L : List α) : Int ⊕ (List α × Int) → Int ⊕ (List α × Int)
  | .inl e => .inl e
  | .inr (l, q) => .inr (L ++ l, q)
theorem joined_nil {α : Type} (r : Int ⊕ (List α × Int)) : joined [] r = r := by rcases r with e | ⟨l, q⟩ <;> rfl
theorem items_stop {α : Type} {f : Int → α × Int × Int} {n : Nat} {p : Int} {x : α} {q e : Int} (h : f p = (x, q, e)) (he : e ≠ 0) : items f (n + 1) p = .inl e := by
  rw [items, h]; exact if_pos he
theorem items_go {α : Type} {f : Int → α × Int × Int} {n : Nat} {p : Int} {x : α} {q : Int} (L : List α) (h : f p = (x, q, 0)) : joined L (items f (n + 1) p) = joined (L ++ [x]) (items f n q) := by
  rw [items, h]
  simp only [ne_eq, not_true_eq_false, if_false]
  rcases items f n q with e | ⟨l, q'⟩ <;> simp [joined]

theorem el_int : ElemOf Try.prog 29 3 (.int .i64 0) 1 8 := ⟨Try.underlying29, by kernel_rfl, rfl, by decide, by decide⟩
theorem el_str : ElemOf Try.prog 30 9 (.string ⟨#[]⟩) 1 16 := ⟨Try.underlying30, by kernel_rfl, rfl, by decide, by decide⟩

set_option maxRecDepth 100000 in
set_option maxHeartbeats 1000000 in
theorem listI_walk (b : List UInt8) (p most : Int) (w : World) (hb : b.length ≤ 281474976710656) (hm : most ≤ 100000) :
    Calls Try.prog 53 #[.string ⟨b.toArray⟩, .int .i64 p, .int .i64 most, .func (.func 15) #[] #[]] w
      (ListRes (getList getInt most b p).1.length (ints (getList getInt most b p).1) (getList getInt most b p).2.1 (getList getInt most b p).2.2 w) := by
  rcases hg : getInt b p with ⟨n, q, e⟩
  have HG := Lib.hid hg
  clear hg
  by_cases he : e = 0
  · subst he
    obtain ⟨h1, h2, h3, h4⟩ := getInt_ok HG.out
    by_cases hn : n < 0
    · have hr : getList getInt most b p = ([], p, 4) := by simp [getList, HG.out, hn]
      rw [hr]; clear hr
      go_enter Try.func53, Try.ntmps53
      go_wp2_with (go_at_call 15; refine (int_at HG.out _ hb).mono ?_; rintro e w' ⟨rfl, rfl⟩)
      go_ret3
      exact ⟨_, _, rfl, rfl, Rd.nil _ _, Below.refl _ _⟩
    · by_cases hmo : most < n
      · have hr : getList getInt most b p = ([], p, 3) := by simp [getList, HG.out, hn, hmo]
        rw [hr]; clear hr
        go_enter Try.func53, Try.ntmps53
        go_wp2_with (go_at_call 15; refine (int_at HG.out _ hb).mono ?_; rintro e w' ⟨rfl, rfl⟩)
        go_ret3
        exact ⟨_, _, rfl, rfl, Rd.nil _ _, Below.refl _ _⟩
      · obtain ⟨N, rfl⟩ := Int.eq_ofNat_of_zero_le (by omega : 0 ≤ n)
        have hr : getList getInt most b p = listOf p (items (getInt b) N q) := by rw [getList, HG.out]; simp only [ne_eq, not_true_eq_false, if_false, if_neg hn, if_neg hmo, Int.toNat_natCast]
        obtain ⟨R, hR⟩ : ∃ R, R = getList getInt most b p := ⟨_, rfl⟩
        rw [← hR] at hr ⊢
        have HR := Lib.hid hr
        clear hR hr
        go_enter Try.func53, Try.ntmps53
        go_wp2_with (go_at_call 15; refine (int_at HG.out _ hb).mono ?_; rintro e w' ⟨rfl, rfl⟩)
        go_loopw [12, 14, 40] (fun nx v i wr => ∃ (k : Nat) (L : List Int) (a : Option Addr) (cap : Nat) (x : Int), k ≤ N ∧ i = .int .i64 (k : Int) ∧ nx = .int .i64 x ∧ v = .slice a L.length cap ∧ L.length = k ∧ items (getInt b) N q = joined L (items (getInt b) (N - k) x) ∧ Ow wr w.heap.size 1 a L.length cap (ints L) ∧ Below w.heap.size w wr) (fun _ _ i _ => N - (intOf i).toNat)
        case atStart => exact ⟨0, [], none, 0, q, Nat.zero_le _, rfl, rfl, rfl, rfl, by rw [joined_nil]; rfl, Ow.nil _ _ _, Below.refl _ _⟩
        case round =>
          obtain ⟨k, L, a, cap, x, hk, rfl, rfl, rfl, hLk, hit, hown, hbel⟩ := hrel
          have hsz := hbel.size
          have HL := Lib.hid hLk
          have HI := Lib.hid hit
          have hLb : L.length ≤ 100000 := by omega
          clear hLk hit
          by_cases hlt : k < N
          · rcases hg2 : getInt b x with ⟨y, q2, e2⟩
            have HG2 := Lib.hid hg2
            clear hg2
            by_cases he2 : e2 = 0
            · subst he2
              go_wp2_with (first
                | (go_at_call 15; refine (int_at HG2.out _ hb).mono ?_; rintro e w' ⟨rfl, rfl⟩)
                | (at_builtin; refine wpList_app1 (w0 := w) (B := w.heap.size) rfl _ _ _ rfl el_int rfl hown hbel (Nat.le_refl _) hsz (cs := [_]) rfl rfl (one1 rfl) (by omega) ?_; intro a3 cap3 w3 hown3 hbel3 _))
              rw [ints_snoc] at hown3
              go_roundw
              case rel => exact ⟨k + 1, L ++ [y], a3, cap3, q2, by omega, by go_num, rfl, by simp, by have := HL.out; simp [this], by rw [HI.out, show N - k = N - (k + 1) + 1 by omega, items_go L HG2.out], by simpa using hown3, hbel3⟩
              case measure => simp [intOf]; omega
            · have hne : (e2 != 0) = true := by rw [bne_iff_ne]; exact he2
              have hR : R = ([], p, e2) := by rw [HR.out, HI.out, show N - k = N - (k + 1) + 1 by omega, items_stop HG2.out he2]; rfl
              subst hR
              go_wp2_with (go_at_call 15; refine (int_at HG2.out _ hb).mono ?_; rintro e w' ⟨rfl, rfl⟩)
              go_ret3
              exact ⟨_, _, rfl, rfl, Rd.nil _ _, hbel⟩
          · obtain rfl : k = N := by omega
            have hR : R = (L, x, 0) := by rw [HR.out, HI.out, Nat.sub_self]; simp [items, joined, listOf]
            subst hR
            go_wp2
            go_ret3
            exact ⟨_, _, rfl, ints_length L, hown.rd, hbel⟩
  · obtain ⟨rfl, rfl⟩ := getInt_no HG.out he
    have hr : getList getInt most b q = ([], q, e) := by simp [getList, HG.out, he]
    rw [hr]; clear hr
    have hne : (e != 0) = true := by rw [bne_iff_ne]; exact he
    go_enter Try.func53, Try.ntmps53
    go_wp2_with (go_at_call 15; refine (int_at HG.out _ hb).mono ?_; rintro e w' ⟨rfl, rfl⟩)
    go_ret3
    exact ⟨_, _, rfl, rfl, Rd.nil _ _, Below.refl _ _⟩

theorem text_at {b : List UInt8} {p q e : Int} {s : List UInt8} (hg : getText b p = (s, q, e)) (w : World) (hb : b.length ≤ 281474976710656) :
    Calls Try.prog 26 #[.string ⟨b.toArray⟩, .int .i64 p] w fun r w' => r = .returned (.tuple #[.string ⟨s.toArray⟩, .int .i64 q, .int .i64 e]) ∧ w = w' :=
  (text_walk b p w hb).mono fun _ _ h => by rw [hg] at h; exact h

set_option maxRecDepth 100000 in
set_option maxHeartbeats 1000000 in
theorem listS_walk (b : List UInt8) (p most : Int) (w : World) (hb : b.length ≤ 281474976710656) (hm : most ≤ 100000) :
    Calls Try.prog 55 #[.string ⟨b.toArray⟩, .int .i64 p, .int .i64 most, .func (.func 26) #[] #[]] w
      (ListRes (getList getText most b p).1.length (strs (getList getText most b p).1) (getList getText most b p).2.1 (getList getText most b p).2.2 w) := by
  rcases hg : getInt b p with ⟨n, q, e⟩
  have HG := Lib.hid hg
  clear hg
  by_cases he : e = 0
  · subst he
    obtain ⟨h1, h2, h3, h4⟩ := getInt_ok HG.out
    by_cases hn : n < 0
    · have hr : getList getText most b p = ([], p, 4) := by simp [getList, HG.out, hn]
      rw [hr]; clear hr
      go_enter Try.func55, Try.ntmps55
      go_wp2_with (go_at_call 15; refine (int_at HG.out _ hb).mono ?_; rintro e w' ⟨rfl, rfl⟩)
      go_ret3
      exact ⟨_, _, rfl, rfl, Rd.nil _ _, Below.refl _ _⟩
    · by_cases hmo : most < n
      · have hr : getList getText most b p = ([], p, 3) := by simp [getList, HG.out, hn, hmo]
        rw [hr]; clear hr
        go_enter Try.func55, Try.ntmps55
        go_wp2_with (go_at_call 15; refine (int_at HG.out _ hb).mono ?_; rintro e w' ⟨rfl, rfl⟩)
        go_ret3
        exact ⟨_, _, rfl, rfl, Rd.nil _ _, Below.refl _ _⟩
      · obtain ⟨N, rfl⟩ := Int.eq_ofNat_of_zero_le (by omega : 0 ≤ n)
        have hr : getList getText most b p = listOf p (items (getText b) N q) := by rw [getList, HG.out]; simp only [ne_eq, not_true_eq_false, if_false, if_neg hn, if_neg hmo, Int.toNat_natCast]
        obtain ⟨R, hR⟩ : ∃ R, R = getList getText most b p := ⟨_, rfl⟩
        rw [← hR] at hr ⊢
        have HR := Lib.hid hr
        clear hR hr
        go_enter Try.func55, Try.ntmps55
        go_wp2_with (go_at_call 15; refine (int_at HG.out _ hb).mono ?_; rintro e w' ⟨rfl, rfl⟩)
        go_loopw [12, 14, 40] (fun nx v i wr => ∃ (k : Nat) (L : List (List UInt8)) (a : Option Addr) (cap : Nat) (x : Int), k ≤ N ∧ i = .int .i64 (k : Int) ∧ nx = .int .i64 x ∧ v = .slice a L.length cap ∧ L.length = k ∧ items (getText b) N q = joined L (items (getText b) (N - k) x) ∧ Ow wr w.heap.size 1 a L.length cap (strs L) ∧ Below w.heap.size w wr) (fun _ _ i _ => N - (intOf i).toNat)
        case atStart => exact ⟨0, [], none, 0, q, Nat.zero_le _, rfl, rfl, rfl, rfl, by rw [joined_nil]; rfl, Ow.nil _ _ _, Below.refl _ _⟩
        case round =>
          obtain ⟨k, L, a, cap, x, hk, rfl, rfl, rfl, hLk, hit, hown, hbel⟩ := hrel
          have hsz := hbel.size
          have HL := Lib.hid hLk
          have HI := Lib.hid hit
          have hLb : L.length ≤ 100000 := by omega
          clear hLk hit
          by_cases hlt : k < N
          · rcases hg2 : getText b x with ⟨y, q2, e2⟩
            have HG2 := Lib.hid hg2
            clear hg2
            by_cases he2 : e2 = 0
            · subst he2
              go_wp2_with (first
                | (go_at_call 26; refine (text_at HG2.out _ hb).mono ?_; rintro e w' ⟨rfl, rfl⟩)
                | (at_builtin; refine wpList_app1 (w0 := w) (B := w.heap.size) rfl _ _ _ rfl el_str rfl hown hbel (Nat.le_refl _) hsz (cs := [_]) rfl rfl (one1 rfl) (by omega) ?_; intro a3 cap3 w3 hown3 hbel3 _))
              rw [strs_snoc] at hown3
              go_roundw
              case rel => exact ⟨k + 1, L ++ [y], a3, cap3, q2, by omega, by go_num, rfl, by simp, by have := HL.out; simp [this], by rw [HI.out, show N - k = N - (k + 1) + 1 by omega, items_go L HG2.out], by simpa using hown3, hbel3⟩
              case measure => simp [intOf]; omega
            · have hne : (e2 != 0) = true := by rw [bne_iff_ne]; exact he2
              have hR : R = ([], p, e2) := by rw [HR.out, HI.out, show N - k = N - (k + 1) + 1 by omega, items_stop HG2.out he2]; rfl
              subst hR
              go_wp2_with (go_at_call 26; refine (text_at HG2.out _ hb).mono ?_; rintro e w' ⟨rfl, rfl⟩)
              go_ret3
              exact ⟨_, _, rfl, rfl, Rd.nil _ _, hbel⟩
          · obtain rfl : k = N := by omega
            have hR : R = (L, x, 0) := by rw [HR.out, HI.out, Nat.sub_self]; simp [items, joined, listOf]
            subst hR
            go_wp2
            go_ret3
            exact ⟨_, _, rfl, strs_length L, hown.rd, hbel⟩
  · obtain ⟨rfl, rfl⟩ := getInt_no HG.out he
    have hr : getList getText most b q = ([], q, e) := by simp [getList, HG.out, he]
    rw [hr]; clear hr
    have hne : (e != 0) = true := by rw [bne_iff_ne]; exact he
    go_enter Try.func55, Try.ntmps55
    go_wp2_with (go_at_call 15; refine (int_at HG.out _ hb).mono ?_; rintro e w' ⟨rfl, rfl⟩)
    go_ret3
    exact ⟨_, _, rfl, rfl, Rd.nil _ _, Below.refl _ _⟩

theorem ints_walk (b : List UInt8) (p : Int) (w : World) (hb : b.length ≤ 281474976710656) :
    Calls Try.prog 28 #[.string ⟨b.toArray⟩, .int .i64 p] w
      (ListRes (getList getInt 2048 b p).1.length (ints (getList getInt 2048 b p).1) (getList getInt 2048 b p).2.1 (getList getInt 2048 b p).2.2 w) := by
  go_enter Try.func28, Try.ntmps28
  go_wp2_with (go_at_call 53; refine (listI_walk b p 2048 _ hb (by omega)).mono ?_; rintro e w1 ⟨a, cap, rfl, hl, hr, hb1⟩)
  go_ret3
  exact ⟨a, cap, rfl, hl, hr, hb1⟩
theorem texts_walk (b : List UInt8) (p : Int) (w : World) (hb : b.length ≤ 281474976710656) :
    Calls Try.prog 30 #[.string ⟨b.toArray⟩, .int .i64 p] w
      (ListRes (getList getText 256 b p).1.length (strs (getList getText 256 b p).1) (getList getText 256 b p).2.1 (getList getText 256 b p).2.2 w) := by
  go_enter Try.func30, Try.ntmps30
  go_wp2_with (go_at_call 55; refine (listS_walk b p 256 _ hb (by omega)).mono ?_; rintro e w1 ⟨a, cap, rfl, hl, hr, hb1⟩)
  go_ret3
  exact ⟨a, cap, rfl, hl, hr, hb1⟩
end Go.Proofs.Ytcppedmcchhhoaa
