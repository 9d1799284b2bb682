/- The walks of the reference of layer 4: texts and lists that are read. -/
import Derived.Test.YtcppedmcchhhoaaCodecS
namespace Go.Proofs.Ytcppedmcchhhoaa
open Go.RowKit

set_option maxRecDepth 100000 in
set_option maxHeartbeats 400000 in
theorem rtext_walk (b : List UInt8) (p : Int) (w : World) (hb : b.length ≤ 281474976710656) :
    Calls Try.prog 27 #[.string ⟨b.toArray⟩, .int .i64 p] w fun e w' => e = .returned (.tuple #[.string ⟨(getText b p).1.toArray⟩, .int .i64 (getText b p).2.1, .int .i64 (getText b p).2.2]) ∧ w = w' := by
  rcases hg : getInt b p with ⟨n, q, e⟩
  have HG := Lib.hid hg
  clear hg
  by_cases he : e = 0
  · subst he
    obtain ⟨h1, h2, h3, h4⟩ := getInt_ok HG.out
    by_cases hn : n < 0
    · have hr : getText b p = ([], p, 4) := by simp [getText, HG.out, hn]
      rw [hr]; clear hr
      go_enter Try.func27, Try.ntmps27
      go_wp2_with (go_at_call 25; refine (rint_at HG.out _ hb).mono ?_; rintro e w' ⟨rfl, rfl⟩)
      go_ret3
      exact ⟨rfl, rfl⟩
    · by_cases hm : (b.length : Int) - q < n
      · have hr : getText b p = ([], p, 5) := by simp [getText, HG.out, hn, hm]
        rw [hr]; clear hr
        go_enter Try.func27, Try.ntmps27
        go_wp2_with (go_at_call 25; refine (rint_at HG.out _ hb).mono ?_; rintro e w' ⟨rfl, rfl⟩)
        go_ret3
        exact ⟨rfl, rfl⟩
      · have hr : getText b p = ((b.drop q.toNat).take n.toNat, q + n, 0) := by simp [getText, HG.out, hn, hm]
        rw [hr]; clear hr
        obtain ⟨N, rfl⟩ := Int.eq_ofNat_of_zero_le (by omega : 0 ≤ n)
        obtain ⟨K, rfl⟩ := Int.eq_ofNat_of_zero_le (by omega : 0 ≤ q)
        go_enter Try.func27, Try.ntmps27
        go_wp2_with (go_at_call 25; refine (rint_at HG.out _ hb).mono ?_; rintro e w' ⟨rfl, rfl⟩)
        go_ret3
        exact ⟨by simp [show K + N - K = N by omega], rfl⟩
  · obtain ⟨rfl, rfl⟩ := getInt_no HG.out he
    have hr : getText b q = ([], q, e) := by simp [getText, HG.out, he]
    rw [hr]; clear hr
    have hne : (e != 0) = true := by rw [bne_iff_ne]; exact he
    go_enter Try.func27, Try.ntmps27
    go_wp2_with (go_at_call 25; refine (rint_at HG.out _ hb).mono ?_; rintro e w' ⟨rfl, rfl⟩)
    go_ret3
    exact ⟨rfl, rfl⟩


theorem rtext_at {b : List UInt8} {p q e : Int} {s : List UInt8} (hg : getText b p = (s, q, e)) (w : World) (hb : b.length ≤ 281474976710656) :
    Calls Try.prog 27 #[.string ⟨b.toArray⟩, .int .i64 p] w fun r w' => r = .returned (.tuple #[.string ⟨s.toArray⟩, .int .i64 q, .int .i64 e]) ∧ w = w' :=
  (rtext_walk b p w hb).mono fun _ _ h => by rw [hg] at h; exact h

/-- what 'count' gives -/
def getCount (most : Int) (b : List UInt8) (p : Int) : Int × Int × Int :=
  if (getInt b p).2.2 ≠ 0 then (0, p, (getInt b p).2.2) else if (getInt b p).1 < 0 then (0, p, 4) else if most < (getInt b p).1 then (0, p, 3) else ((getInt b p).1, (getInt b p).2.1, 0)

set_option maxRecDepth 100000 in
set_option maxHeartbeats 400000 in
theorem rcount_walk (b : List UInt8) (p most : Int) (w : World) (hb : b.length ≤ 281474976710656) :
    Calls Try.prog 54 #[.string ⟨b.toArray⟩, .int .i64 p, .int .i64 most] w fun e w' => e = .returned (int3 (getCount most b p)) ∧ w = w' := by
  rcases hg : getInt b p with ⟨n, q, e⟩
  have HG := Lib.hid hg
  clear hg
  by_cases he : e = 0
  · subst he
    by_cases hn : n < 0
    · have hr : getCount most b p = (0, p, 4) := by simp [getCount, HG.out, hn]
      rw [hr]; clear hr
      go_enter Try.func54, Try.ntmps54
      go_wp2_with (go_at_call 25; refine (rint_at HG.out _ hb).mono ?_; rintro e w' ⟨rfl, rfl⟩)
      go_ret3
      exact ⟨rfl, rfl⟩
    · by_cases hm : most < n
      · have hr : getCount most b p = (0, p, 3) := by simp [getCount, HG.out, hn, hm]
        rw [hr]; clear hr
        go_enter Try.func54, Try.ntmps54
        go_wp2_with (go_at_call 25; refine (rint_at HG.out _ hb).mono ?_; rintro e w' ⟨rfl, rfl⟩)
        go_ret3
        exact ⟨rfl, rfl⟩
      · have hr : getCount most b p = (n, q, 0) := by simp [getCount, HG.out, hn, hm]
        rw [hr]; clear hr
        go_enter Try.func54, Try.ntmps54
        go_wp2_with (go_at_call 25; refine (rint_at HG.out _ hb).mono ?_; rintro e w' ⟨rfl, rfl⟩)
        go_ret3
        exact ⟨rfl, rfl⟩
  · obtain ⟨rfl, rfl⟩ := getInt_no HG.out he
    have hr : getCount most b q = (0, q, e) := by simp [getCount, HG.out, he]
    rw [hr]; clear hr
    have hne : (e != 0) = true := by rw [bne_iff_ne]; exact he
    go_enter Try.func54, Try.ntmps54
    go_wp2_with (go_at_call 25; refine (rint_at HG.out _ hb).mono ?_; rintro e w' ⟨rfl, rfl⟩)
    go_ret3
    exact ⟨rfl, rfl⟩
theorem rcount_at {b : List UInt8} {p most n q e : Int} (hg : getCount most b p = (n, q, e)) (w : World) (hb : b.length ≤ 281474976710656) :
    Calls Try.prog 54 #[.string ⟨b.toArray⟩, .int .i64 p, .int .i64 most] w fun r w' => r = .returned (.tuple #[.int .i64 n, .int .i64 q, .int .i64 e]) ∧ w = w' :=
  (rcount_walk b p most w hb).mono fun _ _ h => by rw [hg] at h; exact h
theorem getList_count {α : Type} (f : List UInt8 → Int → α × Int × Int) (most : Int) (b : List UInt8) (p : Int) :
    getList f most b p = if (getCount most b p).2.2 ≠ 0 then ([], p, (getCount most b p).2.2) else listOf p (items (f b) (getCount most b p).1.toNat (getCount most b p).2.1) := by
  unfold getList getCount
  split
  · rename_i h; simp
  · split
    · simp
    · split <;> simp
theorem getCount_ok {most : Int} {b : List UInt8} {p n q : Int} (h : getCount most b p = (n, q, 0)) : 0 ≤ n ∧ n ≤ most := by
  unfold getCount at h
  split at h
  · rename_i h1
    simp only [Prod.mk.injEq] at h
    exact absurd h.2.2 h1
  · split at h
    · simp at h
    · split at h
      · simp at h
      · simp only [Prod.mk.injEq] at h; omega


set_option maxRecDepth 100000 in
set_option maxHeartbeats 1000000 in
theorem rints_walk (b : List UInt8) (p : Int) (w : World) (hb : b.length ≤ 281474976710656) :
    Calls Try.prog 29 #[.string ⟨b.toArray⟩, .int .i64 p] w
      (ListRes (getList getInt 2048 b p).1.length (ints (getList getInt 2048 b p).1) (getList getInt 2048 b p).2.1 (getList getInt 2048 b p).2.2 w) := by
  have hgl := getList_count getInt 2048 b p
  rcases hg : getCount 2048 b p with ⟨n, q, e⟩
  rw [hg] at hgl
  have HG := Lib.hid hg
  clear hg
  by_cases he : e = 0
  · subst he
    obtain ⟨h1, h2⟩ := getCount_ok HG.out
    obtain ⟨N, rfl⟩ := Int.eq_ofNat_of_zero_le h1
    simp only [ne_eq, not_true_eq_false, if_false, Int.toNat_natCast] at hgl
    obtain ⟨R, hR⟩ : ∃ R, R = getList getInt 2048 b p := ⟨_, rfl⟩
    rw [← hR] at hgl ⊢
    have HR := Lib.hid hgl
    clear hR hgl
    go_enter Try.func29, Try.ntmps29
    go_wp2_with (go_at_call 54; refine (rcount_at HG.out _ hb).mono ?_; rintro e w' ⟨rfl, rfl⟩)
    go_loopw [8, 10, 26] (fun nx v i wr => ∃ (k : Nat) (L : List Int) (a : Option Addr) (cap : Nat) (x : Int), k ≤ N ∧ i = .int .i64 (k : Int) ∧ nx = .int .i64 x ∧ v = .slice a L.length cap ∧ L.length = k ∧ items (getInt b) N q = joined L (items (getInt b) (N - k) x) ∧ Ow wr w.heap.size 1 a L.length cap (ints L) ∧ Below w.heap.size w wr) (fun _ _ i _ => N - (intOf i).toNat)
    case atStart => exact ⟨0, [], none, 0, q, Nat.zero_le _, rfl, rfl, rfl, rfl, by rw [joined_nil]; rfl, Ow.nil _ _ _, Below.refl _ _⟩
    case round =>
      obtain ⟨k, L, a, cap, x, hk, rfl, rfl, rfl, hLk, hit, hown, hbel⟩ := hrel
      have hsz := hbel.size
      have HL := Lib.hid hLk
      have HI := Lib.hid hit
      have hLb : L.length ≤ 100000 := by omega
      clear hLk hit
      by_cases hlt : k < N
      · rcases hg2 : getInt b x with ⟨y, q2, e2⟩
        have HG2 := Lib.hid hg2
        clear hg2
        by_cases he2 : e2 = 0
        · subst he2
          go_wp2_with (first
            | (go_at_call 25; refine (rint_at HG2.out _ hb).mono ?_; rintro e w' ⟨rfl, rfl⟩)
            | (at_builtin; refine wpList_app1 (w0 := w) (B := w.heap.size) rfl _ _ _ rfl el_int rfl hown hbel (Nat.le_refl _) hsz (cs := [_]) rfl rfl (one1 rfl) (by omega) ?_; intro a3 cap3 w3 hown3 hbel3 _))
          rw [ints_snoc] at hown3
          go_roundw
          case rel => exact ⟨k + 1, L ++ [y], a3, cap3, q2, by omega, by go_num, rfl, by simp, by have := HL.out; simp [this], by rw [HI.out, show N - k = N - (k + 1) + 1 by omega, items_go L HG2.out], by simpa using hown3, hbel3⟩
          case measure => simp [intOf]; omega
        · have hne : (e2 != 0) = true := by rw [bne_iff_ne]; exact he2
          have hR : R = ([], p, e2) := by rw [HR.out, HI.out, show N - k = N - (k + 1) + 1 by omega, items_stop HG2.out he2]; rfl
          subst hR
          go_wp2_with (go_at_call 25; refine (rint_at HG2.out _ hb).mono ?_; rintro e w' ⟨rfl, rfl⟩)
          go_ret3
          exact ⟨_, _, rfl, rfl, Rd.nil _ _, hbel⟩
      · obtain rfl : k = N := by omega
        have hR : R = (L, x, 0) := by rw [HR.out, HI.out, Nat.sub_self]; simp [items, joined, listOf]
        subst hR
        go_wp2
        go_ret3
        exact ⟨_, _, rfl, ints_length L, hown.rd, hbel⟩
  · simp only [ne_eq, he, not_false_eq_true, if_true] at hgl
    rw [hgl]; clear hgl
    have hne : (e != 0) = true := by rw [bne_iff_ne]; exact he
    go_enter Try.func29, Try.ntmps29
    go_wp2_with (go_at_call 54; refine (rcount_at HG.out _ hb).mono ?_; rintro e w' ⟨rfl, rfl⟩)
    go_ret3
    exact ⟨_, _, rfl, rfl, Rd.nil _ _, Below.refl _ _⟩

set_option maxRecDepth 100000 in
set_option maxHeartbeats 1000000 in
theorem rtexts_walk (b : List UInt8) (p : Int) (w : World) (hb : b.length ≤ 281474976710656) :
    Calls Try.prog 31 #[.string ⟨b.toArray⟩, .int .i64 p] w
      (ListRes (getList getText 256 b p).1.length (strs (getList getText 256 b p).1) (getList getText 256 b p).2.1 (getList getText 256 b p).2.2 w) := by
  have hgl := getList_count getText 256 b p
  rcases hg : getCount 256 b p with ⟨n, q, e⟩
  rw [hg] at hgl
  have HG := Lib.hid hg
  clear hg
  by_cases he : e = 0
  · subst he
    obtain ⟨h1, h2⟩ := getCount_ok HG.out
    obtain ⟨N, rfl⟩ := Int.eq_ofNat_of_zero_le h1
    simp only [ne_eq, not_true_eq_false, if_false, Int.toNat_natCast] at hgl
    obtain ⟨R, hR⟩ : ∃ R, R = getList getText 256 b p := ⟨_, rfl⟩
    rw [← hR] at hgl ⊢
    have HR := Lib.hid hgl
    clear hR hgl
    go_enter Try.func31, Try.ntmps31
    go_wp2_with (go_at_call 54; refine (rcount_at HG.out _ hb).mono ?_; rintro e w' ⟨rfl, rfl⟩)
    go_loopw [8, 10, 26] (fun nx v i wr => ∃ (k : Nat) (L : List (List UInt8)) (a : Option Addr) (cap : Nat) (x : Int), k ≤ N ∧ i = .int .i64 (k : Int) ∧ nx = .int .i64 x ∧ v = .slice a L.length cap ∧ L.length = k ∧ items (getText b) N q = joined L (items (getText b) (N - k) x) ∧ Ow wr w.heap.size 1 a L.length cap (strs L) ∧ Below w.heap.size w wr) (fun _ _ i _ => N - (intOf i).toNat)
    case atStart => exact ⟨0, [], none, 0, q, Nat.zero_le _, rfl, rfl, rfl, rfl, by rw [joined_nil]; rfl, Ow.nil _ _ _, Below.refl _ _⟩
    case round =>
      obtain ⟨k, L, a, cap, x, hk, rfl, rfl, rfl, hLk, hit, hown, hbel⟩ := hrel
      have hsz := hbel.size
      have HL := Lib.hid hLk
      have HI := Lib.hid hit
      have hLb : L.length ≤ 100000 := by omega
      clear hLk hit
      by_cases hlt : k < N
      · rcases hg2 : getText b x with ⟨y, q2, e2⟩
        have HG2 := Lib.hid hg2
        clear hg2
        by_cases he2 : e2 = 0
        · subst he2
          go_wp2_with (first
            | (go_at_call 27; refine (rtext_at HG2.out _ hb).mono ?_; rintro e w' ⟨rfl, rfl⟩)
            | (at_builtin; refine wpList_app1 (w0 := w) (B := w.heap.size) rfl _ _ _ rfl el_str rfl hown hbel (Nat.le_refl _) hsz (cs := [_]) rfl rfl (one1 rfl) (by omega) ?_; intro a3 cap3 w3 hown3 hbel3 _))
          rw [strs_snoc] at hown3
          go_roundw
          case rel => exact ⟨k + 1, L ++ [y], a3, cap3, q2, by omega, by go_num, rfl, by simp, by have := HL.out; simp [this], by rw [HI.out, show N - k = N - (k + 1) + 1 by omega, items_go L HG2.out], by simpa using hown3, hbel3⟩
          case measure => simp [intOf]; omega
        · have hne : (e2 != 0) = true := by rw [bne_iff_ne]; exact he2
          have hR : R = ([], p, e2) := by rw [HR.out, HI.out, show N - k = N - (k + 1) + 1 by omega, items_stop HG2.out he2]; rfl
          subst hR
          go_wp2_with (go_at_call 27; refine (rtext_at HG2.out _ hb).mono ?_; rintro e w' ⟨rfl, rfl⟩)
          go_ret3
          exact ⟨_, _, rfl, rfl, Rd.nil _ _, hbel⟩
      · obtain rfl : k = N := by omega
        have hR : R = (L, x, 0) := by rw [HR.out, HI.out, Nat.sub_self]; simp [items, joined, listOf]
        subst hR
        go_wp2
        go_ret3
        exact ⟨_, _, rfl, strs_length L, hown.rd, hbel⟩
  · simp only [ne_eq, he, not_false_eq_true, if_true] at hgl
    rw [hgl]; clear hgl
    have hne : (e != 0) = true := by rw [bne_iff_ne]; exact he
    go_enter Try.func31, Try.ntmps31
    go_wp2_with (go_at_call 54; refine (rcount_at HG.out _ hb).mono ?_; rintro e w' ⟨rfl, rfl⟩)
    go_ret3
    exact ⟨_, _, rfl, rfl, Rd.nil _ _, Below.refl _ _⟩

theorem sameTexts_walk (la : Option Addr) (l : List (List UInt8)) (lc : Nat) (ma : Option Addr) (mc : Nat) (w : World) (hr : Rd w la (strs l)) (hrm : Rd w ma (strs l)) (hl : l.length ≤ 17592186043904) :
    Calls Try.prog 32 #[.slice la l.length lc, .slice ma l.length mc] w fun e w' => e = .returned (.bool true) ∧ w = w' := by
  go_enter Try.func32, Try.ntmps32
  go_wp2_with fail
  go_loop [14] (fun i => ∃ k : Nat, k ≤ l.length ∧ i = .int .i64 (k : Int)) (fun i => l.length - (intOf i).toNat)
  case atStart => exact ⟨0, Nat.zero_le _, rfl⟩
  case round =>
    obtain ⟨k, hk, rfl⟩ := hrel
    by_cases hlt : k < l.length
    · obtain ⟨g, off, x, rfl, hc, HX⟩ := hr.str hlt
      obtain ⟨g', off', x', rfl, hc', HX'⟩ := hrm.str hlt
      obtain rfl := same_at HX HX'
      go_wp2
      go_round
      case rel => exact ⟨k + 1, by omega, by go_num⟩
      case measure => simp [intOf]; omega
    · go_wp2
      go_ret
      exact ⟨rfl, rfl⟩
end Go.Proofs.Ytcppedmcchhhoaa
