/- The walk of the law CodecBack. -/
import Derived.Test.YtcppedmcchhhoaaCodecL
import Derived.Test.YtcppedmcchhhoaaCodecQ
namespace Go.Proofs.Ytcppedmcchhhoaa
open Go.RowKit

set_option maxRecDepth 100000 in
set_option maxHeartbeats 1000000 in
theorem back_walk (w : World) (bf : List UInt8) (_ : bf.length ≤ 140737488351232) (_ : bf.length ≤ 1048576) (n : Int) (hn : I64 n) (s : List UInt8) (_ : s.length ≤ 140737488351232) (_ : s.length ≤ 1048576)
    (la : Option Addr) (l : List Int) (lc : Nat) (hr : Rd w la (ints l)) (hx : ∀ x ∈ l, I64 x) (_ : l.length ≤ 17592186043904) (_ : l.length ≤ 1048576)
    (ma : Option Addr) (m : List (List UInt8)) (mc : Nat) (hrm : Rd w ma (strs m)) (hxm : ∀ x ∈ m, x.length ≤ 140737488351232) (_ : m.length ≤ 17592186043904) (hmt : tot m + m.length ≤ 1048576)
    (af : List UInt8) (_ : af.length ≤ 140737488351232) (_ : af.length ≤ 1048576) :
    Calls Try.prog 8 #[.string ⟨bf.toArray⟩, .int .i64 n, .string ⟨s.toArray⟩, .slice la l.length lc, .slice ma m.length mc, .string ⟨af.toArray⟩] w fun e w' => e = .returned (.bool true) ∧ Below w.heap.size w w' := by
  by_cases hbig : 1000 < bf.length + s.length + af.length ∨ 100 < l.length ∨ 40 < m.length
  · by_cases h1 : 1000 < bf.length + s.length + af.length
    · go_enter Try.func8, Try.ntmps8
      go_wp2_with (go_at_call 13; refine (awake4 _).mono ?_; rintro e w1 ⟨rfl, hb1⟩)
      go_ret
      exact ⟨rfl, hb1⟩
    · by_cases h2 : 100 < l.length
      · go_enter Try.func8, Try.ntmps8
        go_wp2_with (go_at_call 13; refine (awake4 _).mono ?_; rintro e w1 ⟨rfl, hb1⟩)
        go_ret
        exact ⟨rfl, hb1⟩
      · have h3 : 40 < m.length := by omega
        go_enter Try.func8, Try.ntmps8
        go_wp2_with (go_at_call 13; refine (awake4 _).mono ?_; rintro e w1 ⟨rfl, hb1⟩)
        go_ret
        exact ⟨rfl, hb1⟩
  · have hxm' : ∀ x ∈ m, x.length ≤ 281474976710656 := fun x h => by have := hxm x h; omega
    have a1 := putInt_ten hn
    have a2 := putText_len (s := s) (by omega)
    have a3 := putInts_len hx (by omega)
    have a4 := putTexts_len hxm' (by omega)
    obtain ⟨B, hB⟩ : ∃ B, B = bf ++ putInt n ++ putText s ++ putInts l ++ putTexts m ++ af := ⟨_, rfl⟩
    have hBl : B.length = bf.length + (putInt n).length + (putText s).length + (putInts l).length + (putTexts m).length + af.length := by rw [hB]; simp only [List.length_append]
    obtain ⟨p1, hp1⟩ : ∃ p : Int, p = (bf.length : Int) + (putInt n).length := ⟨_, rfl⟩
    obtain ⟨p2, hp2⟩ : ∃ p : Int, p = p1 + (putText s).length := ⟨_, rfl⟩
    obtain ⟨p3, hp3⟩ : ∃ p : Int, p = p2 + (putInts l).length := ⟨_, rfl⟩
    obtain ⟨p4, hp4⟩ : ∃ p : Int, p = p3 + (putTexts m).length := ⟨_, rfl⟩
    have g0 : getInt B bf.length = (n, p1, 0) := by
      have := getInt_put bf n (putText s ++ putInts l ++ putTexts m ++ af) hn (p := bf.length) rfl
      rw [hB, hp1, ← this]; simp
    have g1 : getText B p1 = (s, p2, 0) := by
      have := getText_put (bf ++ putInt n) s (putInts l ++ putTexts m ++ af) (by omega) (p := p1) (by simp; omega)
      rw [hB, hp2, ← this]; simp
    have g2 : getList getInt 2048 B p2 = (l, p3, 0) := by
      have := getInts_put (bf ++ putInt n ++ putText s) l (putTexts m ++ af) 2048 p2 hx (by omega) (by omega) (by simp; omega)
      rw [hB, hp3, ← this]; simp
    have g3 : getList getText 256 B p3 = (m, p4, 0) := by
      have := getTexts_put (bf ++ putInt n ++ putText s ++ putInts l) m af 256 p3 hxm' (by omega) (by omega) (by simp; omega)
      rw [hB, hp4, ← this]
    have hp5 : p4 = (B.length : Int) - af.length := by omega
    have hBb : B.length ≤ 3000000 := by omega
    have hL1 : (putTexts m).length ≤ 2000000 := by omega
    have hL2 : (putInts l).length ≤ 1010 := by omega
    have hL3 : (putText s).length ≤ 1010 := by omega
    have q1 : bf.length + s.length + af.length ≤ 1000 := by omega
    have q2 : l.length ≤ 100 := by omega
    have q3 : m.length ≤ 40 := by omega
    have G0 := Lib.hid g0
    have G1 := Lib.hid g1
    have G2 := Lib.hid g2
    have G3 := Lib.hid g3
    have HB := Lib.hid hB
    have h5 : (p4 != (B.length : Int) - af.length) = false := by rw [hp5]; simp
    clear g0 g1 g2 g3 hB hp1 hp2 hp3 hp4 hp5 hBl a2 a3 a4 hbig
    go_enter Try.func8, Try.ntmps8
    go_wp2_with (first
      | (go_at_call 16; refine (putInt_any bf n _ hn (by omega)).mono ?_; rintro e w1 ⟨rfl, hb1⟩)
      | (go_at_call 18; refine (putText_any _ s _ (by simp; omega) (by omega)).mono ?_; rintro e w2 ⟨rfl, hb2⟩; have hb2 := below_tr hb1 hb2; have hr2 := hr.keep hb2)
      | (go_at_call 20; refine (putInts_any _ la lc l _ (by simp; omega) hr2 (by omega) hx (by omega)).mono ?_; rintro e w3 ⟨rfl, hb3⟩; have hb3 := below_tr hb2 hb3; have hr3 := hrm.keep hb3)
      | (go_at_call 22; refine (putTexts_any _ ma mc m _ (by simp; omega) hr3 (by omega) hxm' (by omega)).mono ?_; rintro e w4 ⟨rfl, hb4⟩; have hb4 := below_tr hb3 hb4))
    have eB : (ByteArray.mk (bf ++ (putInt n ++ (putText s ++ (putInts l ++ putTexts m)))).toArray ++ ByteArray.mk af.toArray) = ByteArray.mk B.toArray := by rw [ByteArray.mk_append_mk, HB.out]; simp
    rw [eB]
    clear eB
    go_wp2_with (first
      | (go_at_call 15; refine (int_at G0.out _ (by omega)).mono ?_; rintro e w' ⟨rfl, rfl⟩)
      | (go_at_call 26; refine (text_at G1.out _ (by omega)).mono ?_; rintro e w' ⟨rfl, rfl⟩)
      | (go_at_call 28; refine (ints_at G2.out _ (by omega)).mono ?_; rintro e w5 ⟨ua, uc, rfl, -, ur, hb5⟩; have hb5 := below_tr hb4 hb5)
      | (go_at_call 30; refine (texts_at G3.out _ (by omega)).mono ?_; rintro e w6 ⟨va, vc, rfl, -, vr, hb6⟩; have ur := ur.keep hb6; have hb6 := below_tr hb5 hb6))
    have lr := hr.keep hb6
    have mr := hrm.keep hb6
    clear h5 hr2 hr3 hL1 hL2 hL3 hBb q1
    go_loop [136] (fun i => ∃ k : Nat, k ≤ l.length ∧ i = .int .i64 (k : Int)) (fun i => l.length - (intOf i).toNat)
    case atStart => exact ⟨0, Nat.zero_le _, rfl⟩
    case round =>
      obtain ⟨k, hk, rfl⟩ := hrel
      by_cases hlt : k < l.length
      · obtain ⟨g, off, x, rfl, hc, HX⟩ := lr.int hlt
        obtain ⟨g', off', x', rfl, hc', HX'⟩ := ur.int hlt
        obtain rfl := same_at HX HX'
        go_wp2
        go_round
        case rel => exact ⟨k + 1, by omega, by go_num⟩
        case measure => simp [intOf]; omega
      · go_wp2_with fail
        go_loop [150] (fun i => ∃ k : Nat, k ≤ m.length ∧ i = .int .i64 (k : Int)) (fun i => m.length - (intOf i).toNat)
        case atStart => exact ⟨0, Nat.zero_le _, rfl⟩
        case round =>
          obtain ⟨k, hk, rfl⟩ := hrel
          by_cases hlt : k < m.length
          · obtain ⟨g, off, x, rfl, hc, HX⟩ := mr.str hlt
            obtain ⟨g', off', x', rfl, hc', HX'⟩ := vr.str hlt
            obtain rfl := same_at HX HX'
            go_wp2
            go_round
            case rel => exact ⟨k + 1, by omega, by go_num⟩
            case measure => simp [intOf]; omega
          · go_wp2_with (go_at_call 13; refine (awake4 _).mono ?_; rintro e w7 ⟨rfl, hb7⟩)
            go_ret
            exact ⟨rfl, below_tr hb6 hb7⟩
end Go.Proofs.Ytcppedmcchhhoaa
