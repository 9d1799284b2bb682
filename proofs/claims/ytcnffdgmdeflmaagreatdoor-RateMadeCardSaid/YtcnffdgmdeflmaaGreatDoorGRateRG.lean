/- The program and the reference answer alike about rings: the law's agree. -/
import Derived.Test.YtcnffdgmdeflmaaGreatDoorGRateJ
import Derived.Test.YtcnffdgmdeflmaaGreatDoorGRateE
import Derived.Test.YtcnffdgmdeflmaaGreatDoorGDice
import Derived.Test.YtcnffdgmdeflmaaGreatDoorGRateQ
import Derived.Test.YtcnffdgmdeflmaaGreatDoorGNoDiv
import Derived.Test.YtcnffdgmdeflmaaGreatDoorGAppAt
namespace Go.Proofs.YtcnffdgmdeflmaaGreatDoor
open Go.RowKit
set_option maxRecDepth 100000 in
set_option maxHeartbeats 8000000 in
theorem agree_walk (p : Nat) (a : Option Addr) (keys : List Int) (cap : Nat) (me secret : Int) (text : List UInt8) (ra : Option Addr) (rnd : List Int) (rc : Nat) (ca : Option Addr) (C : List Int) (cc : Nat) (za : Option Addr) (Z : List Int) (zc : Nat) (w : World) (hB : Bases w) (hs : safeP (p : Int) = true) (hr : rsafe (p : Int) = true)
    (hR : Rd w a (ints keys)) (hl : keys.length ≤ 281474976710656) (hRR : Rd w ra (ints rnd)) (hrl : rnd.length ≤ 281474976710656) (hrc : rnd.length ≤ rc) (hRC : Rd w ca (ints C)) (hCl : C.length ≤ 281474976710656) (hRZ : Rd w za (ints Z)) (hZl : Z.length ≤ 281474976710656) (ht : text.length ≤ 1000000) :
    Calls Tryz.prog 18 #[.int .i64 (p : Int), .slice a keys.length cap, .int .i64 me, .int .i64 secret, .string ⟨text.toArray⟩, .slice ra rnd.length rc, .agg #[.slice ca C.length cc, .slice za Z.length zc]] w fun e w' => e = .returned (.bool true) ∧ Below w.heap.size w w' := by
  have k1 := fun V h1 h2 h3 => prove_walk p a keys cap me secret text ra rnd rc V h1 hs h2 hl h3 hrl hrc ht
  have k2 := fun V h2 h3 => rrprove_walk p a keys cap me secret text ra rnd rc V hr h2 hl h3 hrl ht
  have k3 := fun V h h1 h2 h3 => explain_walk p a keys cap me secret text ca C cc za Z zc V h hs h1 hl h2 hCl h3 hZl ht
  have k4 := fun V h1 h2 h3 => rrexplain_walk p a keys cap me secret text ca C cc za Z zc V hr h1 hl h2 hCl h3 hZl ht
  have k5 := fun V h => mark_walk p me secret V h hs
  have k6 := fun V => rmark_walk p me secret V hr
  have k7 := fun V h h1 h2 h3 => verify_walk p a keys cap text ca C cc za Z zc V h hs h1 hl h2 hCl h3 hZl ht
  have k8 := fun V h1 h2 h3 => rrverify_walk p a keys cap text ca C cc za Z zc V hr h1 hl h2 hCl h3 hZl ht
  have hpl : (proveF p keys me secret text rnd).1.1.length ≤ 281474976710656 ∧ (proveF p keys me secret text rnd).1.2.length ≤ 281474976710656 := by
    unfold proveF
    split
    · exact ⟨by simp, by simp⟩
    · split
      · exact ⟨by simp, by simp⟩
      · exact ⟨by simp [cL_length]; omega, by simp [zL_length]; omega⟩
  have hel : (expF p keys me secret text C Z).1.length ≤ 281474976710656 := by
    unfold expF
    split
    · simp
    · split
      · simp
      · rename_i h _
        have hko := (allow_ok (Classical.byContradiction h)).1
        have hkn := (keysOk_bd hko).1
        have := restL_len C Z me.toNat keys.length
        simp; omega
  generalize proveF p keys me secret text rnd = X at *
  generalize expF p keys me secret text C Z = Y at *
  generalize markF p me secret = M at *
  generalize verF p keys text C Z = v at *
  obtain ⟨⟨X1, X2⟩, X3⟩ := X
  obtain ⟨Y1, Y2⟩ := Y
  obtain ⟨M1, M2⟩ := M
  dsimp only at *
  have k9 := fun V ca cc za zc ca' cc' za' zc' h1 h2 h3 h4 => rsame_eq ca X1 cc za X2 zc ca' cc' za' zc' V h1 h2 h3 h4 hpl.1 hpl.2
  have k10 := fun V b c b' c' h1 h2 => lsame_eq b Y1 c b' c' V h1 h2 hel
  have K1 := Lib.hid k1
  have K2 := Lib.hid k2
  have K3 := Lib.hid k3
  have K4 := Lib.hid k4
  have K5 := Lib.hid k5
  have K6 := Lib.hid k6
  have K7 := Lib.hid k7
  have K8 := Lib.hid k8
  have K9 := Lib.hid k9
  have K10 := Lib.hid k10
  clear k1 k2 k3 k4 k5 k6 k7 k8 k9 k10 hs hr hpl hel
  have hG := Bx.new w 30 [.slice ca C.length cc, .slice za Z.length zc]
  have hb := (Below.refl w.heap.size w).alloc (Nat.le_refl _) (.cells #[.slice ca C.length cc, .slice za Z.length zc] 30)
  change Bx (w.alloc (.cells #[.slice ca C.length cc, .slice za Z.length zc] 30)) _ _ _ at hG
  go_enter Tryz.func18, Tryz.ntmps18
  go_upto_region 1 with (fail)
  generalize w.alloc (.cells #[.slice ca C.length cc, .slice za Z.length zc] 30) = w0 at *
  obtain ⟨gb, hgb⟩ : ∃ gb, gb = w.heap.size := ⟨_, rfl⟩
  rw [← hgb] at hG ⊢
  clear hgb
  go_wp2_with (go_at_call 10; (with_reducible refine (K1.out _ (hB.keep hb) (hR.keep hb) (hRR.keep hb)).mono ?_))
  (first | rintro e w1 ⟨c1, d1, z1, f1, rfl, r1, r2, -, -, hb1⟩ | rintro e w1 c1 d1 z1 f1 rfl r1 r2 - - hb1)
  replace hb := hb.trans (hb1.mono hb.size)
  replace hG := hG.keep hb1
  clear hb1 K1
  go_upto_region 2 with (fail)
  have hbx := (Below.refl w1.heap.size w1).alloc (Nat.le_refl _) (.cells #[.slice c1 X1.length d1, .slice z1 X2.length f1] 30)
  have hG1 : Bx (w1.alloc (.cells #[.slice c1 X1.length d1, .slice z1 X2.length f1] 30)) w1.heap.size 30 [.slice c1 X1.length d1, .slice z1 X2.length f1] := Bx.new w1 _ _
  replace hb := hb.trans (hbx.mono hb.size)
  replace hG := hG.keep hbx
  replace r1 := r1.keep hbx
  replace r2 := r2.keep hbx
  clear hbx
  generalize w1.alloc (.cells #[.slice c1 X1.length d1, .slice z1 X2.length f1] 30) = w2 at *
  generalize w1.heap.size = g1 at *
  go_wp2_with (go_at_call 17; (with_reducible refine (K2.out _ (hR.keep hb) (hRR.keep hb)).mono ?_))
  (first | rintro e w3 ⟨c2, d2, z2, f2, rfl, s1, s2, -, -, hb1⟩ | rintro e w3 c2 d2 z2 f2 rfl s1 s2 - - hb1)
  replace hb := hb.trans (hb1.mono hb.size)
  replace hG := hG.keep hb1
  replace hG1 := hG1.keep hb1
  replace r1 := r1.keep hb1
  replace r2 := r2.keep hb1
  clear hb1 K2
  go_upto_region 3 with (fail)
  have hbx := (Below.refl w3.heap.size w3).alloc (Nat.le_refl _) (.cells #[.slice c2 X1.length d2, .slice z2 X2.length f2] 30)
  have hG2 : Bx (w3.alloc (.cells #[.slice c2 X1.length d2, .slice z2 X2.length f2] 30)) w3.heap.size 30 [.slice c2 X1.length d2, .slice z2 X2.length f2] := Bx.new w3 _ _
  replace hb := hb.trans (hbx.mono hb.size)
  replace hG := hG.keep hbx
  replace hG1 := hG1.keep hbx
  replace r1 := r1.keep hbx
  replace r2 := r2.keep hbx
  replace s1 := s1.keep hbx
  replace s2 := s2.keep hbx
  clear hbx
  generalize w3.alloc (.cells #[.slice c2 X1.length d2, .slice z2 X2.length f2] 30) = w4 at *
  generalize w3.heap.size = g2 at *
  have y0 := hG.cell 0 (v := .slice ca C.length cc) rfl
  have y1 := hG.cell 1 (v := .slice za Z.length zc) rfl
  go_wp2_with (go_at_call 20; (with_reducible refine (K3.out _ (hB.keep hb) (hR.keep hb) (hRC.keep hb) (hRZ.keep hb)).mono ?_))
  (first | rintro e w5 ⟨l1, n1, rfl, t1, -, hb1⟩ | rintro e w5 l1 n1 rfl t1 - hb1)
  replace hb := hb.trans (hb1.mono hb.size)
  replace hG := hG.keep hb1
  replace hG1 := hG1.keep hb1
  replace hG2 := hG2.keep hb1
  replace r1 := r1.keep hb1
  replace r2 := r2.keep hb1
  replace s1 := s1.keep hb1
  replace s2 := s2.keep hb1
  clear hb1 K3 y0 y1
  have y0 := hG.cell 0 (v := .slice ca C.length cc) rfl
  have y1 := hG.cell 1 (v := .slice za Z.length zc) rfl
  go_wp2_with (go_at_call 45; (with_reducible refine (K4.out _ (hR.keep hb) (hRC.keep hb) (hRZ.keep hb)).mono ?_))
  (first | rintro e w6 ⟨l2, n2, rfl, t2, -, hb1⟩ | rintro e w6 l2 n2 rfl t2 - hb1)
  replace hb := hb.trans (hb1.mono hb.size)
  replace hG := hG.keep hb1
  replace hG1 := hG1.keep hb1
  replace hG2 := hG2.keep hb1
  replace r1 := r1.keep hb1
  replace r2 := r2.keep hb1
  replace s1 := s1.keep hb1
  replace s2 := s2.keep hb1
  replace t1 := t1.keep hb1
  clear hb1 K4 y0 y1
  go_wp2_with (go_at_call 46; (with_reducible refine (K5.out _ (hB.keep hb)).mono ?_))
  rintro e w7 ⟨rfl, hb1⟩
  replace hb := hb.trans (hb1.mono hb.size)
  replace hG := hG.keep hb1
  replace hG1 := hG1.keep hb1
  replace hG2 := hG2.keep hb1
  replace r1 := r1.keep hb1
  replace r2 := r2.keep hb1
  replace s1 := s1.keep hb1
  replace s2 := s2.keep hb1
  replace t1 := t1.keep hb1
  replace t2 := t2.keep hb1
  clear hb1 K5
  go_wp2_with (go_at_call 47; (with_reducible refine (K6.out _).mono ?_))
  rintro e w8 ⟨rfl, hb1⟩
  replace hb := hb.trans (hb1.mono hb.size)
  replace hG := hG.keep hb1
  replace hG1 := hG1.keep hb1
  replace hG2 := hG2.keep hb1
  replace r1 := r1.keep hb1
  replace r2 := r2.keep hb1
  replace s1 := s1.keep hb1
  replace s2 := s2.keep hb1
  replace t1 := t1.keep hb1
  replace t2 := t2.keep hb1
  clear hb1 K6
  have y0 := cell_regrown (hG.cell 0 (v := .slice ca C.length cc) rfl)
  have y1 := cell_regrown (hG.cell 1 (v := .slice za Z.length zc) rfl)
  have y2 := cell_regrown (hG1.cell 0 (v := .slice c1 X1.length d1) rfl)
  have y3 := cell_regrown (hG1.cell 1 (v := .slice z1 X2.length f1) rfl)
  have y4 := cell_regrown (hG2.cell 0 (v := .slice c2 X1.length d2) rfl)
  have y5 := cell_regrown (hG2.cell 1 (v := .slice z2 X2.length f2) rfl)
  have q1 : (X3 == X3) = true := by simp
  have q2 : (Y2 == Y2) = true := by simp
  have q3 : (M2 == M2) = true := by simp
  have q4 : (M1 == M1) = true := by simp
  have q5 : (v == v) = true := by simp
  have HBB := Lib.hid (fun d os => hB.keep (hb.trans ((below_regrown w8 d os).mono hb.size)))
  have HRR := Lib.hid (fun d os => hR.keep (hb.trans ((below_regrown w8 d os).mono hb.size)))
  have HRC := Lib.hid (fun d os => hRC.keep (hb.trans ((below_regrown w8 d os).mono hb.size)))
  have HRZ := Lib.hid (fun d os => hRZ.keep (hb.trans ((below_regrown w8 d os).mono hb.size)))
  have HB := Lib.hid hb
  clear hG hG1 hG2 hb hR hRR hRC hRZ hB
  go_wp2_with fail
  refine wp_region_quiet_below (by kernel_rfl) (by kernel_rfl) ?_
  repeat (go_big_quiet_step (first
    | (go_at_call 21; with_reducible exact Calls.regrown_of (K9.out _ _ _ _ _ _ _ _ _ (r1.keep (below_regrown _ _ _)) (r2.keep (below_regrown _ _ _)) (s1.keep (below_regrown _ _ _)) (s2.keep (below_regrown _ _ _))))
    | (go_at_call 48; with_reducible exact Calls.regrown_of (K10.out _ _ _ _ _ (t1.keep (below_regrown _ _ _)) (t2.keep (below_regrown _ _ _))))
    | (go_at_call 12; with_reducible exact Calls.regrown_of (K7.out _ (HBB.out _ _) (HRR.out _ _) (HRC.out _ _) (HRZ.out _ _)))
    | (go_at_call 13; with_reducible exact Calls.regrown_of (K8.out _ (HRR.out _ _) (HRC.out _ _) (HRZ.out _ _)))))
  refine wpQuiet_nil ?_
  rintro w9 ⟨p2, rfl⟩
  have hb9 := HB.out.trans ((below_regrown _ p2.d p2.os).mono HB.out.size)
  go_wp2
  go_ret
  exact ⟨by simp, hb9⟩
end Go.Proofs.YtcnffdgmdeflmaaGreatDoor
/- The play's numbers: a list that follows from a seed. -/
namespace Go.Proofs.YtcnffdgmdeflmaaGreatDoor
open Go.RowKit
def fillX (p seed : Int) : Nat → Int
  | 0 => seed % p
  | i + 1 => (fillX p seed i * 7 + 3 * (i : Int) + 5) % p
def fillL (p seed : Int) (n : Nat) : List Int := (List.range n).map fun i => fillX p seed (i + 1)
theorem fillX_bd {p : Int} (hp : 1 ≤ p) (seed : Int) (i : Nat) : 0 ≤ fillX p seed i ∧ fillX p seed i < p := by
  cases i <;> exact ⟨Int.emod_nonneg _ (by omega), Int.emod_lt_of_pos _ (by omega)⟩
theorem fillL_length (p seed : Int) (n : Nat) : (fillL p seed n).length = n := by simp [fillL]
theorem fillL_succ (p seed : Int) (n : Nat) : fillL p seed (n + 1) = fillL p seed n ++ [fillX p seed (n + 1)] := by rw [fillL, List.range_succ, List.map_append]; rfl
set_option maxRecDepth 100000 in
set_option maxHeartbeats 2000000 in
theorem fill_walk (p seed : Int) (n : Nat) (w : World) (hp : 1 ≤ p) (hp2 : p ≤ 1073741824) (hn : n ≤ 100000) :
    Calls Tryz.prog 11 #[.int .i64 p, .int .i64 seed, .int .i64 (n : Int)] w fun e w' => ∃ a c, e = .returned (.slice a n c) ∧ Ow w' w.heap.size 1 a n c (ints (fillL p seed n)) ∧ Below w.heap.size w w' := by
  have K1 := Lib.hid (fun V => dmod_walk seed p V hp (by omega))
  go_enter Tryz.func11, Tryz.ntmps11
  go_wp2_with (go_at_call 24; (with_reducible refine (K1.out _).mono ?_))
  rintro e w1 ⟨rfl, rfl⟩
  go_wp2_with fail
  go_loopw [7, 8, 9] (fun v x i wr => ∃ (k : Nat) (a : Option Addr) (c : Nat), k ≤ n ∧ i = .int .i64 (k : Int) ∧ (∃ t, x = .int .i64 t ∧ Hid (t = fillX p seed k) ∧ 0 ≤ t ∧ t < p) ∧ v = .slice a k c ∧ Ow wr w.heap.size 1 a k c (ints (fillL p seed k)) ∧ Below w.heap.size w wr) (fun _ _ i _ => n - (intOf i).toNat)
  case atStart => exact ⟨0, none, 0, by omega, rfl, ⟨_, rfl, Lib.hid rfl, (fillX_bd hp seed 0).1, (fillX_bd hp seed 0).2⟩, rfl, Ow.nil _ _ _, Below.refl _ _⟩
  case round =>
    obtain ⟨k, a, c, hk, rfl, ⟨t, rfl, hT, t0, t1⟩, rfl, hO, hB⟩ := hrel
    by_cases hkt : k < n
    · have hkl : (k : Int) < (n : Int) := by omega
      have a1 : IntKind.i64.wrap (t * 7) = t * 7 := by rw [IntKind.wrap_i64]; omega
      have a2 : IntKind.i64.wrap (3 * (k : Int)) = 3 * (k : Int) := by rw [IntKind.wrap_i64]; omega
      have a3 : IntKind.i64.wrap (t * 7 + 3 * (k : Int)) = t * 7 + 3 * (k : Int) := by rw [IntKind.wrap_i64]; omega
      have a4 : IntKind.i64.wrap (t * 7 + 3 * (k : Int) + 5) = t * 7 + 3 * (k : Int) + 5 := by rw [IntKind.wrap_i64]; omega
      have a5 : (t * 7 + 3 * (k : Int) + 5).tmod p = (t * 7 + 3 * (k : Int) + 5) % p := Int.tmod_eq_emod_of_nonneg (by omega)
      have b0 := Int.emod_nonneg (t * 7 + 3 * (k : Int) + 5) (show p ≠ 0 by omega)
      have b1 := Int.emod_lt_of_pos (t * 7 + 3 * (k : Int) + 5) (show 0 < p by omega)
      obtain ⟨u, hu⟩ : ∃ u, u = (t * 7 + 3 * (k : Int) + 5) % p := ⟨_, rfl⟩
      rw [← hu] at a5 b0 b1
      have HU := Lib.hid (show u = fillX p seed (k + 1) by rw [fillX, ← hT.out]; exact hu)
      have hp0 : (p == 0) = false := by rw [beq_eq_false_iff_ne]; omega
      have hp1 : p ≠ 0 := by omega
      have a6 : IntKind.i64.wrap u = u := by rw [IntKind.wrap_i64]; omega
      clear hu hT
      go_wp2_with (at_builtin; refine wpList_app1 (w0 := w) (B := w.heap.size) rfl _ _ _ rfl elI4 rfl hO hB (Nat.le_refl _) hB.size rfl (by rfl) (one1 rfl) (by omega) ?_)
      intro b' c' w2 hO3 hB3 _
      have e3 : ints (fillL p seed k) ++ [.int .i64 u] = ints (fillL p seed (k + 1)) := by rw [ints_snoc, fillL_succ, HU.out]
      rw [e3] at hO3
      clear hO hB e3
      go_wp2
      go_roundw
      case rel => exact ⟨k + 1, b', c', by omega, by go_num, ⟨u, rfl, HU, b0, b1⟩, rfl, hO3, hB3⟩
      case measure => simp [intOf]; omega
    · have hkl : ¬ (k : Int) < (n : Int) := by omega
      obtain rfl : k = n := by omega
      clear hT
      go_wp2
      go_ret
      exact ⟨a, c, rfl, hO, hB⟩
end Go.Proofs.YtcnffdgmdeflmaaGreatDoor
/- A ring that is copied. -/
namespace Go.Proofs.YtcnffdgmdeflmaaGreatDoor
open Go.RowKit
theorem ints_one (l : List Int) : ∀ u ∈ ints l, u.oneCell' = true := by
  intro u hu; obtain ⟨_, _, rfl⟩ := List.mem_map.1 hu; rfl
theorem Ow.other {w : World} {base size : Nat} {a : Option Addr} {n cap : Nat} {xs : List Value} (h : Ow w base size a n cap xs) {b : Nat} (hne : ∀ g, rowOf a = some g → g ≠ b) (o : Nat) (v : Value) : Ow (w.setCell ⟨b, o, none⟩ v) base size a n cap xs := by
  refine h.kept (row := some b) ⟨rfl, rfl, rfl, by simp, fun k _ hk => heap_setCell_other w ⟨b, o, none⟩ k v (fun e => hk (by simp [e]))⟩ ?_
  cases hx : rowOf a with
  | none => exact .inl rfl
  | some x => exact .inr fun e => hne x hx (Option.some.inj e)
theorem Rd.lt {w : World} {a : Option Addr} {l : List Int} (h : Rd w a (ints l)) (h0 : 0 < l.length) : ∀ g off, a = some ⟨g, off, none⟩ → g < w.heap.size := fun g off hp => by
  obtain ⟨g', off', x', he, hc, _⟩ := h.int h0
  rw [hp] at he
  cases he
  exact World.block_lt_of_cell? w _ hc
theorem grown_set1 (w : World) (g o : Nat) (v : Value) : w.grownBy (w.setCell ⟨g, o, none⟩ v) (some g) := ⟨rfl, rfl, rfl, by simp, fun k _ hk => heap_setCell_other w ⟨g, o, none⟩ k v (fun e => hk (by simp [e]))⟩
/-- a copy of a ring: its box, and two slices of the call's own -/
structure Odd (w : World) (B go : Nat) (a1 : Option Addr) (C : List Int) (e1 : Nat) (a2 : Option Addr) (Z : List Int) (e2 : Nat) : Prop where
  o : Bx w go 30 [.slice a1 C.length e1, .slice a2 Z.length e2]
  c : Ow w B 1 a1 C.length e1 (ints C)
  z : Ow w B 1 a2 Z.length e2 (ints Z)
  ap : Apart2 a1 a2
  n1 : ∀ g, rowOf a1 = some g → g ≠ go
  n2 : ∀ g, rowOf a2 = some g → g ≠ go
  lo : B ≤ go
theorem Odd.keep {w w' : World} {B go : Nat} {a1 : Option Addr} {C : List Int} {e1 : Nat} {a2 : Option Addr} {Z : List Int} {e2 : Nat} (h : Odd w B go a1 C e1 a2 Z e2) (hb : Below w.heap.size w w') : Odd w' B go a1 C e1 a2 Z e2 :=
  ⟨h.o.keep hb, h.c.keep hb, h.z.keep hb, h.ap, h.n1, h.n2, h.lo⟩
theorem Odd.drew {w : World} {B go : Nat} {a1 : Option Addr} {C : List Int} {e1 : Nat} {a2 : Option Addr} {Z : List Int} {e2 : Nat} (h : Odd w B go a1 C e1 a2 Z e2) : Odd w.drew B go a1 C e1 a2 Z e2 := h.keep (Below.refl _ _).drew
theorem Odd.grown {w w' : World} {B go : Nat} {a1 : Option Addr} {C : List Int} {e1 : Nat} {a2 : Option Addr} {Z : List Int} {e2 : Nat} (h : Odd w B go a1 C e1 a2 Z e2) {r : Nat} (hg : w.grownBy w' (some r)) (hr : r < B) : Odd w' B go a1 C e1 a2 Z e2 := by
  refine ⟨h.o.grown hg (fun e => by have := Option.some.inj e; have := h.lo; omega), h.c.kept hg ?_, h.z.kept hg ?_, h.ap, h.n1, h.n2, h.lo⟩
  · cases hx : rowOf a1 with
    | none => exact .inl rfl
    | some x => exact .inr fun e => by have := (h.c.row x hx).1; have := Option.some.inj e; omega
  · cases hx : rowOf a2 with
    | none => exact .inl rfl
    | some x => exact .inr fun e => by have := (h.z.row x hx).1; have := Option.some.inj e; omega
/-- an answer is set -/
theorem Odd.setZ {w : World} {B go : Nat} {a1 : Option Addr} {C : List Int} {e1 g off : Nat} {Z : List Int} {e2 : Nat} (h : Odd w B go a1 C e1 (some ⟨g, off, none⟩) Z e2) (k : Nat) (v : Int) :
    Odd (w.setCell ⟨g, off + k, none⟩ (.int .i64 v)) B go a1 C e1 (some ⟨g, off, none⟩) (Z.set k v) e2 ∧ B ≤ g := by
  have hg := h.n2 g rfl
  have hB := (h.z.row g rfl).1
  have hs := h.z.stored k (.int .i64 v)
  rw [ints_set'] at hs
  refine ⟨⟨?_, h.c.kept hs.2 ?_, ?_, h.ap, h.n1, h.n2, h.lo⟩, hB⟩
  · rw [List.length_set]; exact h.o.other (fun e => hg e.symm) _ _
  · cases hx : rowOf a1 with
    | none => exact .inl rfl
    | some x => exact .inr fun e => h.ap x hx e.symm
  · rw [List.length_set]; exact hs.1
/-- a challenge is set -/
theorem Odd.setC {w : World} {B go : Nat} {a2 : Option Addr} {C : List Int} {e1 g off : Nat} {Z : List Int} {e2 : Nat} (h : Odd w B go (some ⟨g, off, none⟩) C e1 a2 Z e2) (k : Nat) (v : Int) :
    Odd (w.setCell ⟨g, off + k, none⟩ (.int .i64 v)) B go (some ⟨g, off, none⟩) (C.set k v) e1 a2 Z e2 ∧ B ≤ g := by
  have hg := h.n1 g rfl
  have hB := (h.c.row g rfl).1
  have hs := h.c.stored k (.int .i64 v)
  rw [ints_set'] at hs
  refine ⟨⟨?_, ?_, h.z.kept hs.2 ?_, h.ap, h.n1, h.n2, h.lo⟩, hB⟩
  · rw [List.length_set]; exact h.o.other (fun e => hg e.symm) _ _
  · rw [List.length_set]; exact hs.1
  · cases hx : rowOf a2 with
    | none => exact .inl rfl
    | some x => exact .inr fun e => h.ap g rfl (hx.trans (by rw [← e]))
theorem rsafe_prime : ∀ x ∈ safesL, rsafe x = true := by
  intro x hx
  simp only [safesL, List.mem_cons, List.not_mem_nil, or_false] at hx
  rcases hx with rfl | rfl | rfl | rfl | rfl | rfl
  · exact rsafe_of 11 1 2 (by decide) (by decide) (by decide) (by decide +kernel) (by decide) (by decide +kernel) (by decide)
  · exact rsafe_of 23 1 3 (by decide) (by decide) (by decide) (by decide +kernel) (by decide) (by decide +kernel) (by decide)
  · exact rsafe_big
  · exact rsafe_of 29 2 4 (by decide) (by decide) (by decide) (by decide +kernel) (by decide) (by decide +kernel) (by decide)
  · exact rsafe_of 53 3 4 (by decide) (by decide) (by decide) (by decide +kernel) (by decide) (by decide +kernel) (by decide)
  · exact rsafe_of 83 4 6 (by decide) (by decide) (by decide) (by decide +kernel) (by decide) (by decide +kernel) (by decide)
end Go.Proofs.YtcnffdgmdeflmaaGreatDoor
