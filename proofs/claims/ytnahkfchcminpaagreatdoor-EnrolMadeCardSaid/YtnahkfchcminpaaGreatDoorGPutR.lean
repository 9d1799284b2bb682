/- What numbers and texts are written as: the reference's. -/
import Derived.Test.YtnahkfchcminpaaGreatDoorGNum
import Derived.Lib.Zigzag
import Derived.Test.YtnahkfchcminpaaGreatDoorGRPow
namespace Go.Proofs.YtnahkfchcminpaaGreatDoor
open Go.RowKit
theorem zig_neg {n : Int} (hn : I64 n) (h : n < 0) : bits BinOp.xor IntKind.u64 IntKind.u64.max (IntKind.u64.wrap (IntKind.u64.wrap n * 2)) = (zig n : Int) := by
  rw [Lib.zigzag_neg hn.1 h]
  unfold Lib.zigzag zig
  rw [if_neg (by omega)]
theorem zig_pos {n : Int} (hn : I64 n) (h : 0 ≤ n) : IntKind.u64.wrap (IntKind.u64.wrap n * 2) = (zig n : Int) := by
  have h2 := hn.2
  unfold zig
  rw [if_pos (by omega), IntKind.wrap_u64, IntKind.wrap_u64]
  omega

set_option maxRecDepth 100000 in
set_option maxHeartbeats 800000 in
theorem rputInt_walk (b : List UInt8) (n : Int) (w : World) (hn : I64 n) (hb : b.length ≤ 140737488000000) :
    Calls Tryz.prog 46 #[.string ⟨b.toArray⟩, .int .i64 n] w fun e w' => e = .returned (.string ⟨(b ++ putInt n).toArray⟩) ∧ Below w.heap.size w w' := by
  have hcv := Lib.run_convert_string_bytes (P := Tryz.prog) w 9 77 5 ⟨b.toArray⟩ Tryz.underlying9 Tryz.underlying77 Tryz.underlying5
  have hz := zig_lt hn.1 hn.2
  have hw0 := below_bytes w 5 ⟨b.toArray⟩
  have how := Ow.bytes w 5 ⟨b.toArray⟩ (by simp [maxLen, ByteArray.size]; omega)
  have HZ := Lib.hid hz
  clear hz
  have hd : Hid (n < 0) ∨ Hid (0 ≤ n) := by
    by_cases h0 : n < 0
    · exact Or.inl h0
    · exact Or.inr (Int.not_lt.1 h0)
  rcases hd with h0 | h0
  · have h1 := h0.out
    go_enter Tryz.func46, Tryz.ntmps46
    go_wp2_with fail
    rw [zig_neg hn h0.out]
    clear h1 h0
    clear hcv
    go_loopw [5, 6] (fun u v wr => ∃ (L : List UInt8) (k : Nat) (a : Option Addr) (cap : Nat), v = .slice a L.length cap ∧ u = .int .u64 (k : Int) ∧ k < 18446744073709551616 ∧ L ++ vint k = b ++ putInt n ∧ Ow wr w.heap.size 1 a L.length cap (u8s L) ∧ Below w.heap.size w wr) (fun u _ _ => (intOf u).toNat)
    case atStart => exact ⟨b, zig n, _, _, rfl, rfl, HZ.out, rfl, how, hw0⟩
    case round =>
      obtain ⟨L, k, sa, cap, rfl, rfl, hk, hpre, hown, hbel⟩ := hrel
      have hlen := congrArg List.length hpre
      have hpos := vint_pos k
      rw [List.length_append, List.length_append] at hlen
      have hten := putInt_ten hn
      have hl : L.length ≤ 140737488100000 := by omega
      have hsz := hbel.size
      have HP := Lib.hid hpre
      have HK := Lib.hid hk
      clear hpre hk hlen hpos hten how hw0
      by_cases hlt : (k : Int) < 128
      · go_wp2_with (at_builtin; refine wpList_app1 (w0 := w) (B := w.heap.size) rfl _ _ _ rfl el_u8 rfl hown hbel (by omega) (by omega) (cs := [_]) rfl rfl (one1 rfl) (by omega) ?_)
        intro a1 cap1 w1 hown1 hbel1 _
        have hc : (k : Int) = ((UInt8.ofNat k).toNat : Int) := by simp; omega
        rw [u8s_snoc _ _ _ hc] at hown1
        have hcv := run_bytes_str (P := Tryz.prog) w1 77 9 5 Tryz.underlying77 Tryz.underlying5 Tryz.underlying9 (n := L.length + 1) (c := cap1) (by simp) hown1.rd
        clear hc
        go_wp2
        go_ret
        exact ⟨ret_str (by rw [← HP.out, vint_lt (by omega)]), hbel1⟩
      · go_wp2_with (at_builtin; refine wpList_app1 (w0 := w) (B := w.heap.size) rfl _ _ _ rfl el_u8 rfl hown hbel (by omega) (by omega) (cs := [_]) rfl rfl (one1 rfl) (by omega) ?_)
        intro a1 cap1 w1 hown1 hbel1 _
        rw [or_bits, u8s_snoc _ _ _ rfl] at hown1
        go_wp2
        go_roundw
        case rel => exact ⟨L ++ [UInt8.ofNat (k % 128 + 128)], k / 128, a1, cap1, by simp, by simp, by have := HK.out; omega, by rw [← HP.out, vint_ge (u := k) (by omega)]; simp, by simpa using hown1, hbel1⟩
        case measure => simp [intOf]; omega
  · have h1 := h0.out
    go_enter Tryz.func46, Tryz.ntmps46
    go_wp2_with fail
    rw [zig_pos hn h0.out]
    clear h1 h0
    clear hcv
    go_loopw [5, 6] (fun u v wr => ∃ (L : List UInt8) (k : Nat) (a : Option Addr) (cap : Nat), v = .slice a L.length cap ∧ u = .int .u64 (k : Int) ∧ k < 18446744073709551616 ∧ L ++ vint k = b ++ putInt n ∧ Ow wr w.heap.size 1 a L.length cap (u8s L) ∧ Below w.heap.size w wr) (fun u _ _ => (intOf u).toNat)
    case atStart => exact ⟨b, zig n, _, _, rfl, rfl, HZ.out, rfl, how, hw0⟩
    case round =>
      obtain ⟨L, k, sa, cap, rfl, rfl, hk, hpre, hown, hbel⟩ := hrel
      have hlen := congrArg List.length hpre
      have hpos := vint_pos k
      rw [List.length_append, List.length_append] at hlen
      have hten := putInt_ten hn
      have hl : L.length ≤ 140737488100000 := by omega
      have hsz := hbel.size
      have HP := Lib.hid hpre
      have HK := Lib.hid hk
      clear hpre hk hlen hpos hten how hw0
      by_cases hlt : (k : Int) < 128
      · go_wp2_with (at_builtin; refine wpList_app1 (w0 := w) (B := w.heap.size) rfl _ _ _ rfl el_u8 rfl hown hbel (by omega) (by omega) (cs := [_]) rfl rfl (one1 rfl) (by omega) ?_)
        intro a1 cap1 w1 hown1 hbel1 _
        have hc : (k : Int) = ((UInt8.ofNat k).toNat : Int) := by simp; omega
        rw [u8s_snoc _ _ _ hc] at hown1
        have hcv := run_bytes_str (P := Tryz.prog) w1 77 9 5 Tryz.underlying77 Tryz.underlying5 Tryz.underlying9 (n := L.length + 1) (c := cap1) (by simp) hown1.rd
        clear hc
        go_wp2
        go_ret
        exact ⟨ret_str (by rw [← HP.out, vint_lt (by omega)]), hbel1⟩
      · go_wp2_with (at_builtin; refine wpList_app1 (w0 := w) (B := w.heap.size) rfl _ _ _ rfl el_u8 rfl hown hbel (by omega) (by omega) (cs := [_]) rfl rfl (one1 rfl) (by omega) ?_)
        intro a1 cap1 w1 hown1 hbel1 _
        rw [or_bits, u8s_snoc _ _ _ rfl] at hown1
        go_wp2
        go_roundw
        case rel => exact ⟨L ++ [UInt8.ofNat (k % 128 + 128)], k / 128, a1, cap1, by simp, by simp, by have := HK.out; omega, by rw [← HP.out, vint_ge (u := k) (by omega)]; simp, by simpa using hown1, hbel1⟩
        case measure => simp [intOf]; omega

end Go.Proofs.YtnahkfchcminpaaGreatDoor
/- The reference's groups: public numbers, challenges, signatures. -/
namespace Go.Proofs.YtnahkfchcminpaaGreatDoor
open Go.RowKit
set_option maxRecDepth 100000 in
theorem rchal_walk (p : Nat) (r pub : Int) (text : List UInt8) (w : World) (hp : 3 ≤ p) (hp2 : p ≤ 1073741824) (hr : I64 r) (hu : I64 pub) (ht : text.length ≤ 1000000) :
    Calls Tryz.prog 25 #[.int .i64 (p : Int), .int .i64 r, .int .i64 pub, .string ⟨text.toArray⟩] w fun e w' => e = .returned (.int .i64 (chalF p r pub text : Int)) ∧ Below w.heap.size w w' := by
  have l1 := putInt_ten hr
  have l2 := putInt_ten hu
  have k1 : ∀ V, Calls Tryz.prog 46 #[.string ⟨#[]⟩, .int .i64 r] V fun e w' => e = .returned (.string ⟨(putInt r).toArray⟩) ∧ Below V.heap.size V w' := fun V => rputInt_walk [] r V hr (by simp)
  have k2 : ∀ V, Calls Tryz.prog 46 #[.string ⟨(putInt r).toArray⟩, .int .i64 pub] V fun e w' => e = .returned (.string ⟨(putInt r ++ putInt pub).toArray⟩) ∧ Below V.heap.size V w' := fun V => rputInt_walk _ pub V hu (by omega)
  have k3 : ∀ V, Calls Tryz.prog 53 #[.int .i64 (p : Int), .string ⟨(putInt r ++ putInt pub ++ text).toArray⟩] V fun e w' => e = .returned (.int .i64 (chalF p r pub text : Int)) ∧ Below V.heap.size V w' := fun V => by
    rw [← (chalF_eq hp r pub text).1]
    exact relement_walk p _ V (by omega) (by omega) (by rw [List.length_append, List.length_append]; omega)
  have hl : (putInt r ++ putInt pub).length ≤ 20 := by rw [List.length_append]; omega
  generalize chalF p r pub text = c at *
  generalize putInt r ++ putInt pub = s2 at *
  generalize putInt r = s1 at *
  have K1 := Lib.hid k1
  have K2 := Lib.hid k2
  have K3 := Lib.hid k3
  have hlim : ¬ (9223372036854775807 < s2.length + text.length) := by omega
  clear k1 k2 k3 l1 l2 hl ht
  go_enter Tryz.func25, Tryz.ntmps25
  go_wp2_with (first
    | (go_at_call 46; ((with_reducible refine (K1.out _).mono ?_)); rintro e w1 ⟨rfl, hb1⟩)
    | (go_at_call 46; ((with_reducible refine (K2.out _).mono ?_)); rintro e w2 ⟨rfl, hb2⟩)
    | (go_at_call 53; ((with_reducible refine (K3.out _).mono ?_)); rintro e w3 ⟨rfl, hb3⟩))
  go_ret
  exact ⟨rfl, below_tr (below_tr hb1 hb2) hb3⟩
set_option maxRecDepth 100000 in
set_option maxHeartbeats 1000000 in
theorem rsign_yes (p key nonce : Nat) (text : List UInt8) (w : World) (hs : rsafe (p : Int) = true) (hk : 1 ≤ key) (hkp : key < p) (hn : 1 ≤ nonce) (hnp : nonce < p) (ht : text.length ≤ 1000000) :
    Calls Tryz.prog 10 #[.int .i64 (p : Int), .int .i64 (key : Int), .int .i64 (nonce : Int), .string ⟨text.toArray⟩] w fun e w' => e = .returned (.tuple #[.agg #[.int .i64 (signR p nonce : Int), .int .i64 (signS p key nonce text : Int)], .int .i64 0]) ∧ Below w.heap.size w w' := by
  obtain ⟨h3, h30, -⟩ := rsafe_bd hs
  have hp3 : 3 ≤ p := by omega
  have hp30 : p ≤ 1073741824 := by omega
  have km : ∀ V, Calls Tryz.prog 24 #[.int .i64 (p : Int)] V fun e w' => e = .returned (.tuple #[.int .i64 (2 * (p : Int) + 1), .bool true]) ∧ V = w' := fun V => by
    have := rmod_walk (p : Int) V
    rw [hs] at this
    exact this
  have k1 : ∀ V, Calls Tryz.prog 13 #[.int .i64 (p : Int), .int .i64 (nonce : Int)] V fun e w' => e = .returned (.int .i64 (signR p nonce : Int)) ∧ V = w' := fun V => rPublic_walk p nonce V hp3 hp30
  have k2 : ∀ V, Calls Tryz.prog 13 #[.int .i64 (p : Int), .int .i64 (key : Int)] V fun e w' => e = .returned (.int .i64 (gpw p 4 (key : Int) : Int)) ∧ V = w' := fun V => rPublic_walk p key V hp3 hp30
  have b1 : signR p nonce < 2 * p + 1 := gpw_lt _ _ _
  have b2 : gpw p 4 (key : Int) < 2 * p + 1 := gpw_lt _ _ _
  have k3 : ∀ V, Calls Tryz.prog 25 #[.int .i64 (p : Int), .int .i64 (signR p nonce : Int), .int .i64 (gpw p 4 (key : Int) : Int), .string ⟨text.toArray⟩] V fun e w' => e = .returned (.int .i64 (chalF p (signR p nonce : Int) (gpw p 4 (key : Int) : Int) text : Int)) ∧ Below V.heap.size V w' := fun V => rchal_walk p _ _ text V hp3 hp30 ⟨by omega, by omega⟩ ⟨by omega, by omega⟩ ht
  have hc := (chalF_eq hp3 (signR p nonce : Int) (gpw p 4 (key : Int) : Int) text).2
  have hS : (signS p key nonce text : Int) = ((nonce : Int) + (key : Int) * (chalF p (signR p nonce : Int) (gpw p 4 (key : Int) : Int) text : Int)) % (p : Int) := by
    rw [signS, Nat.add_mod_mod, Int.natCast_emod, Int.natCast_add, Int.natCast_mul]
  generalize chalF p (signR p nonce : Int) (gpw p 4 (key : Int) : Int) text = c at *
  generalize gpw p 4 (key : Int) = pub at *
  generalize signR p nonce = R at *
  generalize signS p key nonce text = S at *
  obtain ⟨q1, q2⟩ := prod_bd (p := (p : Int)) (a := (key : Int)) (b := (c : Int)) (by omega) (by omega) (by omega) (by omega) (by omega)
  obtain ⟨C, hC⟩ : ∃ C : Int, C = (c : Int) := ⟨_, rfl⟩
  obtain ⟨N, hN⟩ : ∃ N : Int, N = (nonce : Int) := ⟨_, rfl⟩
  obtain ⟨Ky, hKy⟩ : ∃ Ky : Int, Ky = (key : Int) := ⟨_, rfl⟩
  obtain ⟨Pi, hPi⟩ : ∃ Pi : Int, Pi = (p : Int) := ⟨_, rfl⟩
  rw [← hC] at q1 q2 hS k3
  rw [← hN] at hS k1 ⊢
  rw [← hKy] at hS q1 q2 k2 ⊢
  rw [← hPi] at hS km k1 k2 k3 ⊢
  have z1 : 1 ≤ Ky := by omega
  have z2 : Ky < Pi := by omega
  have z3 : 1 ≤ N := by omega
  have z4 : N < Pi := by omega
  have z5 : Pi ≤ 1073741824 := by omega
  have z6 : 3 ≤ Pi := by omega
  have KM := Lib.hid km
  have K1 := Lib.hid k1
  have K2 := Lib.hid k2
  have K3 := Lib.hid k3
  have HS := Lib.hid hS
  have hb0 := (Below.refl w.heap.size w).alloc (Nat.le_refl _) (.cells #[.int .i64 0, .int .i64 0] 34)
  have hk := Bx.new w 34 [.int .i64 0, .int .i64 0]
  clear km k1 k2 k3 hS b1 b2 hc hs ht hC hN hKy hPi hkp hn hnp h3 h30 hp3 hp30
  go_enter Tryz.func10, Tryz.ntmps10
  go_wp2_with (go_at_call 24; (with_reducible refine (KM.out _).mono ?_))
  rintro e w1 ⟨rfl, rfl⟩
  go_wp2_with (go_at_call 13; (with_reducible refine (K1.out _).mono ?_))
  rintro e w1 ⟨rfl, rfl⟩
  go_wp2_with (go_at_call 13; (with_reducible refine (K2.out _).mono ?_))
  rintro e w2 ⟨rfl, rfl⟩
  go_wp2_with (go_at_call 25; (with_reducible refine (K3.out _).mono ?_))
  rintro e w3 ⟨rfl, hb1⟩
  replace hk := hk.keep hb1
  replace hb0 := hb0.trans (hb1.mono hb0.size)
  clear hb1
  obtain ⟨g, hg⟩ : ∃ g, g = w.heap.size := ⟨_, rfl⟩
  have hwg : w.heap.size ≤ g := by omega
  rw [← hg] at hk ⊢
  clear hg
  have c0 := hk.cell 0 rfl
  have c1 := hk.cell 1 rfl
  have f0 := hk.free 0
  have f1 := hk.free 1
  go_wp2
  exact bodyPost_ret (Bx.sig (t := 8) (u := 9) rfl _ rfl ((hk.set 0 (.int .i64 (R : Int))).set 1 (.int .i64 ((N + Ky * C) % Pi)))) rfl ⟨by rw [HS.out]; rfl, below2 hb0 hwg _ _⟩
set_option maxRecDepth 100000 in
set_option maxHeartbeats 1000000 in
theorem rsign_no (p key nonce : Int) (text : List UInt8) (w : World) (hs : rsafe p = false ∨ key < 1 ∨ p ≤ key ∨ nonce < 1 ∨ p ≤ nonce) :
    Calls Tryz.prog 10 #[.int .i64 p, .int .i64 key, .int .i64 nonce, .string ⟨text.toArray⟩] w fun e w' => e = .returned (.tuple #[.agg #[.int .i64 0, .int .i64 0], .int .i64 2]) ∧ Below w.heap.size w w' := by
  have hb0 := (Below.refl w.heap.size w).alloc (Nat.le_refl _) (.cells #[.int .i64 0, .int .i64 0] 34)
  have hk := Bx.new w 34 [.int .i64 0, .int .i64 0]
  cases hsp : rsafe p with
  | false =>
    have km : ∀ V, Calls Tryz.prog 24 #[.int .i64 p] V fun e w' => e = .returned (.tuple #[.int .i64 0, .bool false]) ∧ V = w' := fun V => by
      have := rmod_walk p V
      rw [hsp] at this
      exact this
    have KM := Lib.hid km
    clear hs hsp km
    go_enter Tryz.func10, Tryz.ntmps10
    go_wp2_with (go_at_call 24; (with_reducible refine (KM.out _).mono ?_))
    rintro e w1 ⟨rfl, rfl⟩
    go_wp2
    exact bodyPost_ret (Bx.sig (t := 8) (u := 9) rfl _ rfl hk) rfl ⟨rfl, hb0⟩
  | true =>
    have km : ∀ V, Calls Tryz.prog 24 #[.int .i64 p] V fun e w' => e = .returned (.tuple #[.int .i64 (2 * p + 1), .bool true]) ∧ V = w' := fun V => by
      have := rmod_walk p V
      rw [hsp] at this
      exact this
    have KM := Lib.hid km
    have hs' : key < 1 ∨ p ≤ key ∨ nonce < 1 ∨ p ≤ nonce := by
      rcases hs with h | h
      · rw [hsp] at h; cases h
      · exact h
    clear hs hsp km
    rcases Int.lt_or_le key 1 with g1 | g1
    rotate_left
    rcases Int.lt_or_le key p with g2 | g2
    rcases Int.lt_or_le nonce 1 with g3 | g3
    rotate_left
    have g4 : p ≤ nonce := by omega
    all_goals
      clear hs'
      go_enter Tryz.func10, Tryz.ntmps10
      go_wp2_with (go_at_call 24; (with_reducible refine (KM.out _).mono ?_))
      rintro e w1 ⟨rfl, rfl⟩
      go_wp2
      exact bodyPost_ret (Bx.sig (t := 8) (u := 9) rfl _ rfl hk) rfl ⟨rfl, hb0⟩
end Go.Proofs.YtnahkfchcminpaaGreatDoor
