/- law28: too many seats: what all functions return. -/
import Derived.Test.YtpofijdkckaphaaGreatDoorGGreRE
namespace Go.Proofs.YtpofijdkckaphaaGreatDoor
open Go.RowKit
set_option maxRecDepth 100000 in
theorem grun_long (n : Nat) (a : Option Addr) (c : Nat) (w : World) (hn : 32 < n) (hn2 : n ≤ 281474976710656) :
    Calls Tryz.prog 33 #[.slice a n c] w fun e w' => e = .returned (.tuple #[.slice none 0 0, .slice none 0 0, .int .i64 3]) ∧ Below w.heap.size w w' := by
  have hl2 : decide ((n : Int) > 32) = true := decide_eq_true (by omega)
  have hl3 : 32 < n := hn
  go_enter Tryz.func33, Tryz.ntmps33
  go_wp2
  refine wp_scope_jumps 0 (fun _ _ => False) (fun _ _ => 0) rfl ?_ (fun _ _ h => h.elim)
  go_wp2
  simp only [Exit.jump]
  go_ret3
  exact ⟨rfl, Below.refl _ _⟩
set_option maxRecDepth 100000 in
theorem gset_long (n : Nat) (a : Option Addr) (c : Nat) (w : World) (hn : 32 < n) (hn2 : n ≤ 281474976710656) :
    Calls Tryz.prog 11 #[.slice a n c] w fun e w' => e = .returned (.tuple #[.slice none 0 0, .int .i64 3]) ∧ Below w.heap.size w w' := by
  have hl2 : decide ((n : Int) > 32) = true := decide_eq_true (by omega)
  have hl3 : 32 < n := hn
  have K1 := Lib.hid (grun_long n a c w hn hn2)
  go_enter Tryz.func11, Tryz.ntmps11
  go_wp2_with (go_at_call 33; (with_reducible refine K1.out.mono ?_); (first | rintro e w1 ⟨rfl, hb1⟩ | rintro e w1 rfl hb1))
  go_ret2
  exact ⟨rfl, hb1⟩
set_option maxRecDepth 100000 in
theorem grounds_long (n : Nat) (a : Option Addr) (c : Nat) (w : World) (hn : 32 < n) (hn2 : n ≤ 281474976710656) :
    Calls Tryz.prog 26 #[.slice a n c] w fun e w' => e = .returned (.tuple #[.slice none 0 0, .int .i64 3]) ∧ Below w.heap.size w w' := by
  have hl2 : decide ((n : Int) > 32) = true := decide_eq_true (by omega)
  have hl3 : 32 < n := hn
  have K1 := Lib.hid (grun_long n a c w hn hn2)
  go_enter Tryz.func26, Tryz.ntmps26
  go_wp2_with (go_at_call 33; (with_reducible refine K1.out.mono ?_); (first | rintro e w1 ⟨rfl, hb1⟩ | rintro e w1 rfl hb1))
  go_ret2
  exact ⟨rfl, hb1⟩
set_option maxRecDepth 100000 in
theorem gopens_long (n : Nat) (a : Option Addr) (c : Nat) (sa : Option Addr) (m sc : Nat) (w : World) (hn : 32 < n) (hn2 : n ≤ 281474976710656) :
    Calls Tryz.prog 12 #[.slice a n c, .slice sa m sc] w fun e w' => e = .returned (.bool false) ∧ Below w.heap.size w w' := by
  have hl2 : decide ((n : Int) > 32) = true := decide_eq_true (by omega)
  have hl3 : 32 < n := hn
  go_enter Tryz.func12, Tryz.ntmps12
  go_wp2
  go_ret
  exact ⟨rfl, Below.refl _ _⟩
set_option maxRecDepth 100000 in
theorem gcheck_long (n : Nat) (a : Option Addr) (c : Nat) (sa : Option Addr) (m sc : Nat) (ra : Option Addr) (r rc : Nat) (w : World) (hn : 32 < n) (hn2 : n ≤ 281474976710656) :
    Calls Tryz.prog 18 #[.slice a n c, .slice sa m sc, .slice ra r rc] w fun e w' => e = .returned (.int .i64 3) ∧ Below w.heap.size w w' := by
  have hl2 : decide ((n : Int) > 32) = true := decide_eq_true (by omega)
  have hl3 : 32 < n := hn
  go_enter Tryz.func18, Tryz.ntmps18
  go_wp2
  go_ret
  exact ⟨rfl, Below.refl _ _⟩
set_option maxRecDepth 100000 in
theorem ground_long (n : Nat) (a : Option Addr) (c : Nat) (s : Int) (w : World) (hn : 32 < n) (hn2 : n ≤ 281474976710656) :
    Calls Tryz.prog 27 #[.slice a n c, .int .i64 s] w fun e w' => e = .returned (.int .i64 (-1)) ∧ Below w.heap.size w w' := by
  have hb0 := (Below.refl w.heap.size w).alloc (Nat.le_refl _) (.cells #[.int .i64 s] 3)
  have h1 := Bx.new w 3 [.int .i64 s]
  change Bx (w.alloc (.cells #[.int .i64 s] 3)) _ _ _ at h1
  have K1 := Lib.hid (fun V => grounds_long n a c V hn hn2)
  obtain ⟨g, hg⟩ : ∃ g, w.heap.size = g := ⟨_, rfl⟩
  rw [hg] at h1
  have HB := Lib.hid hb0
  clear hb0
  go_enter Tryz.func27, Tryz.ntmps27
  go_upto_region 1 with (fail)
  try rw [hg]
  generalize w.alloc (.cells #[.int .i64 s] 3) = w1 at *
  have KI := Lib.hid (fun V (hV : Below w1.heap.size w1 V) => show Calls Tryz.prog 50 #[.slice none 0 0, .func (.func 51) #[] #[.pointer (some ⟨g, 0, none⟩)]] V fun e w' => e = .returned (.int .i64 (-1)) ∧ V = w' from ridx_walk [] none 0 g s V (RdL.nil _ _) (h1.keep hV) (by simp) (fun x hx => by simp at hx))
  clear hg h1
  go_wp2_with (first
    | (go_at_call 26; (with_reducible refine (K1.out _).mono ?_); (first | rintro e w2 ⟨rfl, hb2⟩ | rintro e w2 rfl hb2))
    | (go_at_call 50; (with_reducible refine (KI.out _ hb2).mono ?_); (first | rintro e w3 ⟨rfl, rfl⟩ | rintro e w3 rfl rfl)))
  go_ret
  exact ⟨rfl, below_tr HB.out hb2⟩
set_option maxRecDepth 100000 in
theorem gneeds_long (n : Nat) (a : Option Addr) (c : Nat) (sa : Option Addr) (m sc : Nat) (s : Int) (w : World) (hn : 32 < n) (hn2 : n ≤ 281474976710656) :
    Calls Tryz.prog 28 #[.slice a n c, .slice sa m sc, .int .i64 s] w fun e w' => e = .returned (.slice none 0 0) ∧ Below w.heap.size w w' := by
  have hl2 : decide ((n : Int) > 32) = true := decide_eq_true (by omega)
  have hl3 : 32 < n := hn
  have hb := (((Below.refl w.heap.size w).alloc (Nat.le_refl _) (.cells #[.slice a n c] 27)).alloc (by simp) (.cells #[.slice sa m sc] 22)).alloc (by simp; omega) (.cells #[.int .i64 s] 3)
  have h1 := (((Bx.new w 27 [.slice a n c]).alloc (.cells #[.slice sa m sc] 22)).alloc (.cells #[.int .i64 s] 3)).cell 0 rfl
  change (((w.alloc (.cells #[.slice a n c] 27)).alloc (.cells #[.slice sa m sc] 22)).alloc (.cells #[.int .i64 s] 3)).cell? _ = _ at h1
  have HB := Lib.hid hb
  clear hb
  go_enter Tryz.func28, Tryz.ntmps28
  go_upto_region 1 with (fail)
  generalize ((w.alloc (.cells #[.slice a n c] 27)).alloc (.cells #[.slice sa m sc] 22)).alloc (.cells #[.int .i64 s] 3) = w1 at *
  go_wp2
  go_ret
  exact ⟨rfl, HB.out⟩
set_option maxRecDepth 100000 in
theorem rrounds_long (n : Nat) (a : Option Addr) (c : Nat) (w : World) (hn : 32 < n) (hn2 : n ≤ 281474976710656) :
    Calls Tryz.prog 22 #[.slice a n c] w fun e w' => e = .returned (.tuple #[.slice none 0 0, .int .i64 3]) ∧ Below w.heap.size w w' := by
  have hl2 : decide ((n : Int) > 32) = true := decide_eq_true (by omega)
  have hl3 : 32 < n := hn
  go_enter Tryz.func22, Tryz.ntmps22
  go_wp2
  go_ret2
  exact ⟨rfl, Below.refl _ _⟩
set_option maxRecDepth 100000 in
theorem rset_long (n : Nat) (a : Option Addr) (c : Nat) (w : World) (hn : 32 < n) (hn2 : n ≤ 281474976710656) :
    Calls Tryz.prog 21 #[.slice a n c] w fun e w' => e = .returned (.tuple #[.slice none 0 0, .int .i64 3]) ∧ Below w.heap.size w w' := by
  have hl2 : decide ((n : Int) > 32) = true := decide_eq_true (by omega)
  have hl3 : 32 < n := hn
  have K1 := Lib.hid (rrounds_long n a c w hn hn2)
  go_enter Tryz.func21, Tryz.ntmps21
  go_wp2_with (go_at_call 22; (with_reducible refine K1.out.mono ?_); (first | rintro e w1 ⟨rfl, hb1⟩ | rintro e w1 rfl hb1))
  go_ret2
  exact ⟨rfl, hb1⟩
set_option maxRecDepth 100000 in
theorem ropens_long (n : Nat) (a : Option Addr) (c : Nat) (sa : Option Addr) (m sc : Nat) (w : World) (hn : 32 < n) (hn2 : n ≤ 281474976710656) :
    Calls Tryz.prog 43 #[.slice a n c, .slice sa m sc] w fun e w' => e = .returned (.bool false) ∧ Below w.heap.size w w' := by
  have hl2 : decide ((n : Int) > 32) = true := decide_eq_true (by omega)
  have hl3 : 32 < n := hn
  go_enter Tryz.func43, Tryz.ntmps43
  go_wp2
  go_ret
  exact ⟨rfl, Below.refl _ _⟩
set_option maxRecDepth 100000 in
theorem rcheck_long (n : Nat) (a : Option Addr) (c : Nat) (sa : Option Addr) (m sc : Nat) (ra : Option Addr) (r rc : Nat) (w : World) (hn : 32 < n) (hn2 : n ≤ 281474976710656) :
    Calls Tryz.prog 44 #[.slice a n c, .slice sa m sc, .slice ra r rc] w fun e w' => e = .returned (.int .i64 3) ∧ Below w.heap.size w w' := by
  have hl2 : decide ((n : Int) > 32) = true := decide_eq_true (by omega)
  have hl3 : 32 < n := hn
  go_enter Tryz.func44, Tryz.ntmps44
  go_wp2
  go_ret
  exact ⟨rfl, Below.refl _ _⟩
set_option maxRecDepth 100000 in
theorem rround_long (n : Nat) (a : Option Addr) (c : Nat) (s : Int) (w : World) (hn : 32 < n) (hn2 : n ≤ 281474976710656) :
    Calls Tryz.prog 45 #[.slice a n c, .int .i64 s] w fun e w' => e = .returned (.int .i64 (-1)) ∧ Below w.heap.size w w' := by
  have hl2 : decide ((n : Int) > 32) = true := decide_eq_true (by omega)
  have hl3 : 32 < n := hn
  have K1 := Lib.hid (rrounds_long n a c w hn hn2)
  go_enter Tryz.func45, Tryz.ntmps45
  go_upto_region 3 with (go_at_call 22; (with_reducible refine K1.out.mono ?_); (first | rintro e w1 ⟨rfl, hb1⟩ | rintro e w1 rfl hb1))
  go_loopw [7] (fun i wr => wr = w1 ∧ i = .int .i64 0) (fun _ _ => 0)
  case atStart => exact ⟨rfl, rfl⟩
  case round =>
    obtain ⟨rfl, rfl⟩ := hrel
    go_wp2
    go_ret
    exact ⟨rfl, hb1⟩
set_option maxRecDepth 100000 in
theorem rneeds_long (n : Nat) (a : Option Addr) (c : Nat) (sa : Option Addr) (m sc : Nat) (s : Int) (w : World) (hn : 32 < n) (hn2 : n ≤ 281474976710656) :
    Calls Tryz.prog 46 #[.slice a n c, .slice sa m sc, .int .i64 s] w fun e w' => e = .returned (.slice none 0 0) ∧ Below w.heap.size w w' := by
  have hl2 : decide ((n : Int) > 32) = true := decide_eq_true (by omega)
  have hl3 : 32 < n := hn
  go_enter Tryz.func46, Tryz.ntmps46
  go_wp2
  go_ret
  exact ⟨rfl, Below.refl _ _⟩
set_option maxRecDepth 100000 in
set_option maxHeartbeats 4000000 in
theorem agree28_long (n : Nat) (a : Option Addr) (c : Nat) (sa : Option Addr) (m sc : Nat) (ra : Option Addr) (r rc : Nat) (s : Int) (w : World) (hn : 32 < n) (hn2 : n ≤ 281474976710656) :
    Calls Tryz.prog 20 #[.slice a n c, .slice sa m sc, .slice ra r rc, .int .i64 s] w fun e w' => e = .returned (.bool true) ∧ Below w.heap.size w w' := by
  have K1 := Lib.hid (fun V => gset_long n a c V hn hn2)
  have K2 := Lib.hid (fun V => rset_long n a c V hn hn2)
  have K3 := Lib.hid (fun V => grounds_long n a c V hn hn2)
  have K4 := Lib.hid (fun V => rrounds_long n a c V hn hn2)
  have K5 := Lib.hid (fun V => gopens_long n a c sa m sc V hn hn2)
  have K6 := Lib.hid (fun V => ropens_long n a c sa m sc V hn hn2)
  have K7 := Lib.hid (fun V => gcheck_long n a c sa m sc ra r rc V hn hn2)
  have K8 := Lib.hid (fun V => rcheck_long n a c sa m sc ra r rc V hn hn2)
  have K9 := Lib.hid (fun V => ground_long n a c s V hn hn2)
  have K10 := Lib.hid (fun V => rround_long n a c s V hn hn2)
  have K11 := Lib.hid (fun V => gneeds_long n a c sa m sc s V hn hn2)
  have K12 := Lib.hid (fun V => rneeds_long n a c sa m sc s V hn hn2)
  have KS := Lib.hid (fun V => show Calls Tryz.prog 19 #[.slice none 0 0, .slice none 0 0] V fun e w' => e = .returned (.bool true) ∧ Below V.heap.size V w' from lsame_eq none [] 0 none 0 V (Rd.nil _ _) (Rd.nil _ _) (by simp))
  have KSS := Lib.hid (fun V => show Calls Tryz.prog 42 #[.slice none 0 0, .slice none 0 0] V fun e w' => e = .returned (.bool true) ∧ Below V.heap.size V w' from same28_walk [] [] none none 0 0 V (RdL.nil _ _) (RdL.nil _ _) rfl (by simp) (fun x hx => by simp at hx))
  go_enter Tryz.func20, Tryz.ntmps20
  go_wp2_with (first
    | (go_at_call 11; (with_reducible refine (K1.out _).mono ?_); (first | rintro e w1 ⟨rfl, hb1⟩ | rintro e w1 rfl hb1))
    | (go_at_call 21; (with_reducible refine (K2.out _).mono ?_); (first | rintro e w2 ⟨rfl, hb2⟩ | rintro e w2 rfl hb2); have hd2 := below_tr hb1 hb2)
    | (go_at_call 26; (with_reducible refine (K3.out _).mono ?_); (first | rintro e w3 ⟨rfl, hb3⟩ | rintro e w3 rfl hb3); have hd3 := below_tr hd2 hb3)
    | (go_at_call 22; (with_reducible refine (K4.out _).mono ?_); (first | rintro e w4 ⟨rfl, hb4⟩ | rintro e w4 rfl hb4); have hd4 := below_tr hd3 hb4; have S1 := Lib.hid hd4)
    | (go_at_call 42; (with_reducible refine (KSS.out _).mono ?_); (first | rintro e u2 ⟨rfl, hc2⟩ | rintro e u2 rfl hc2); have he2 := below_tr he1 hc2)
    | (go_at_call 12; (with_reducible refine (K5.out _).mono ?_); (first | rintro e u3 ⟨rfl, hc3⟩ | rintro e u3 rfl hc3); have he3 := below_tr he2 hc3)
    | (go_at_call 43; (with_reducible refine (K6.out _).mono ?_); (first | rintro e u4 ⟨rfl, hc4⟩ | rintro e u4 rfl hc4); have he4 := below_tr he3 hc4)
    | (go_at_call 18; (with_reducible refine (K7.out _).mono ?_); (first | rintro e u5 ⟨rfl, hc5⟩ | rintro e u5 rfl hc5); have he5 := below_tr he4 hc5)
    | (go_at_call 44; (with_reducible refine (K8.out _).mono ?_); (first | rintro e u6 ⟨rfl, hc6⟩ | rintro e u6 rfl hc6); have he6 := below_tr he5 hc6)
    | (go_at_call 27; (with_reducible refine (K9.out _).mono ?_); (first | rintro e u7 ⟨rfl, hc7⟩ | rintro e u7 rfl hc7); have he7 := below_tr he6 hc7)
    | (go_at_call 45; (with_reducible refine (K10.out _).mono ?_); (first | rintro e u8 ⟨rfl, hc8⟩ | rintro e u8 rfl hc8); have he8 := below_tr he7 hc8)
    | (go_at_call 28; (with_reducible refine (K11.out _).mono ?_); (first | rintro e u9 ⟨rfl, hc9⟩ | rintro e u9 rfl hc9); have he9 := below_tr he8 hc9)
    | (go_at_call 46; (with_reducible refine (K12.out _).mono ?_); (first | rintro e v1 ⟨rfl, hc10⟩ | rintro e v1 rfl hc10); have he10 := below_tr he9 hc10)
    | (go_at_call 19; (with_reducible refine (KS.out _).mono ?_); (first | rintro e u1 ⟨rfl, hc1⟩ | rintro e u1 rfl hc1); first | (have heL := below_tr he10 hc1) | (have he1 := below_tr S1.out hc1)))
  go_ret
  exact ⟨rfl, heL⟩
end Go.Proofs.YtpofijdkckaphaaGreatDoor
