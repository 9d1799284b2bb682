/- The program and the reference answer alike about rings, whatever the number is: the law's agree. -/
import Derived.Test.YtbjpmkoiabkcbaaGreatDoorGRateI
import Derived.Test.YtbjpmkoiabkcbaaGreatDoorGRateRE
namespace Go.Proofs.YtbjpmkoiabkcbaaGreatDoor
open Go.RowKit
set_option maxRecDepth 100000 in
set_option maxHeartbeats 8000000 in
theorem agree_gen (p : Int) (a : Option Addr) (keys : List Int) (cap : Nat) (me secret : Int) (text : List UInt8) (ra : Option Addr) (rnd : List Int) (rc : Nat) (ca : Option Addr) (C : List Int) (cc : Nat) (za : Option Addr) (Z : List Int) (zc : Nat) (X1 X2 : List Int) (X3 : Int) (Y1 : List Int) (Y2 : Int) (M1 : List UInt8) (M2 : Int) (v : Bool) (w : World) (hB : Bases w)
    (hR : Rd w a (ints keys)) (hRR : Rd w ra (ints rnd)) (hRC : Rd w ca (ints C)) (hRZ : Rd w za (ints Z))
    (hpl : X1.length ≤ 281474976710656 ∧ X2.length ≤ 281474976710656) (hel : Y1.length ≤ 281474976710656)
    (k1 : ∀ V, Bases V → Rd V a (ints keys) → Rd V ra (ints rnd) → Calls Tryz.prog 7 #[.int .i64 p, .slice a keys.length cap, .int .i64 me, .int .i64 secret, .string ⟨text.toArray⟩, .slice ra rnd.length rc] V (RingRes V X1 X2 X3))
    (k2 : ∀ V, Rd V a (ints keys) → Rd V ra (ints rnd) → Calls Tryz.prog 12 #[.int .i64 p, .slice a keys.length cap, .int .i64 me, .int .i64 secret, .string ⟨text.toArray⟩, .slice ra rnd.length rc] V (RingRes V X1 X2 X3))
    (k3 : ∀ V, Bases V → Rd V a (ints keys) → Rd V ca (ints C) → Rd V za (ints Z) → Calls Tryz.prog 8 #[.int .i64 p, .slice a keys.length cap, .int .i64 me, .int .i64 secret, .string ⟨text.toArray⟩, .agg #[.slice ca C.length cc, .slice za Z.length zc]] V (ListRes V Y1 Y2))
    (k4 : ∀ V, Rd V a (ints keys) → Rd V ca (ints C) → Rd V za (ints Z) → Calls Tryz.prog 13 #[.int .i64 p, .slice a keys.length cap, .int .i64 me, .int .i64 secret, .string ⟨text.toArray⟩, .agg #[.slice ca C.length cc, .slice za Z.length zc]] V (ListRes V Y1 Y2))
    (k5 : ∀ V, Bases V → Calls Tryz.prog 14 #[.int .i64 p, .int .i64 me, .int .i64 secret] V fun e w' => e = .returned (.tuple #[.string ⟨M1.toArray⟩, .int .i64 M2]) ∧ Below V.heap.size V w')
    (k6 : ∀ V, Calls Tryz.prog 15 #[.int .i64 p, .int .i64 me, .int .i64 secret] V fun e w' => e = .returned (.tuple #[.string ⟨M1.toArray⟩, .int .i64 M2]) ∧ Below V.heap.size V w')
    (k7 : ∀ V, Bases V → Rd V a (ints keys) → Rd V ca (ints C) → Rd V za (ints Z) → Calls Tryz.prog 9 #[.int .i64 p, .slice a keys.length cap, .string ⟨text.toArray⟩, .agg #[.slice ca C.length cc, .slice za Z.length zc]] V fun e w' => e = .returned (.bool v) ∧ Below V.heap.size V w')
    (k8 : ∀ V, Rd V a (ints keys) → Rd V ca (ints C) → Rd V za (ints Z) → Calls Tryz.prog 17 #[.int .i64 p, .slice a keys.length cap, .string ⟨text.toArray⟩, .agg #[.slice ca C.length cc, .slice za Z.length zc]] V fun e w' => e = .returned (.bool v) ∧ Below V.heap.size V w') :
    Calls Tryz.prog 5 #[.int .i64 p, .slice a keys.length cap, .int .i64 me, .int .i64 secret, .string ⟨text.toArray⟩, .slice ra rnd.length rc, .agg #[.slice ca C.length cc, .slice za Z.length zc]] w fun e w' => e = .returned (.bool true) ∧ Below w.heap.size w w' := by
  have k9 := fun V ca cc za zc ca' cc' za' zc' h1 h2 h3 h4 => rsame_eq ca X1 cc za X2 zc ca' cc' za' zc' V h1 h2 h3 h4 hpl.1 hpl.2
  have k10 := fun V b c b' c' h1 h2 => lsame_eq b Y1 c b' c' V h1 h2 hel
  have K1 := Lib.hid k1
  have K2 := Lib.hid k2
  have K3 := Lib.hid k3
  have K4 := Lib.hid k4
  have K5 := Lib.hid k5
  have K6 := Lib.hid k6
  have K7 := Lib.hid k7
  have K8 := Lib.hid k8
  have K9 := Lib.hid k9
  have K10 := Lib.hid k10
  clear k1 k2 k3 k4 k5 k6 k7 k8 k9 k10 hpl hel
  have hG := Bx.new w 24 [.slice ca C.length cc, .slice za Z.length zc]
  have hb := (Below.refl w.heap.size w).alloc (Nat.le_refl _) (.cells #[.slice ca C.length cc, .slice za Z.length zc] 24)
  change Bx (w.alloc (.cells #[.slice ca C.length cc, .slice za Z.length zc] 24)) _ _ _ at hG
  go_enter Tryz.func5, Tryz.ntmps5
  go_upto_region 1 with (fail)
  generalize w.alloc (.cells #[.slice ca C.length cc, .slice za Z.length zc] 24) = w0 at *
  obtain ⟨gb, hgb⟩ : ∃ gb, gb = w.heap.size := ⟨_, rfl⟩
  rw [← hgb] at hG ⊢
  clear hgb
  go_wp2_with (go_at_call 7; (with_reducible refine (K1.out _ (hB.keep hb) (hR.keep hb) (hRR.keep hb)).mono ?_))
  (first | rintro e w1 ⟨c1, d1, z1, f1, rfl, r1, r2, -, -, hb1⟩ | rintro e w1 c1 d1 z1 f1 rfl r1 r2 - - hb1)
  replace hb := hb.trans (hb1.mono hb.size)
  replace hG := hG.keep hb1
  clear hb1 K1
  go_upto_region 2 with (fail)
  have hbx := (Below.refl w1.heap.size w1).alloc (Nat.le_refl _) (.cells #[.slice c1 X1.length d1, .slice z1 X2.length f1] 24)
  have hG1 : Bx (w1.alloc (.cells #[.slice c1 X1.length d1, .slice z1 X2.length f1] 24)) w1.heap.size 24 [.slice c1 X1.length d1, .slice z1 X2.length f1] := Bx.new w1 _ _
  replace hb := hb.trans (hbx.mono hb.size)
  replace hG := hG.keep hbx
  replace r1 := r1.keep hbx
  replace r2 := r2.keep hbx
  clear hbx
  generalize w1.alloc (.cells #[.slice c1 X1.length d1, .slice z1 X2.length f1] 24) = w2 at *
  generalize w1.heap.size = g1 at *
  go_wp2_with (go_at_call 12; (with_reducible refine (K2.out _ (hR.keep hb) (hRR.keep hb)).mono ?_))
  (first | rintro e w3 ⟨c2, d2, z2, f2, rfl, s1, s2, -, -, hb1⟩ | rintro e w3 c2 d2 z2 f2 rfl s1 s2 - - hb1)
  replace hb := hb.trans (hb1.mono hb.size)
  replace hG := hG.keep hb1
  replace hG1 := hG1.keep hb1
  replace r1 := r1.keep hb1
  replace r2 := r2.keep hb1
  clear hb1 K2
  go_upto_region 3 with (fail)
  have hbx := (Below.refl w3.heap.size w3).alloc (Nat.le_refl _) (.cells #[.slice c2 X1.length d2, .slice z2 X2.length f2] 24)
  have hG2 : Bx (w3.alloc (.cells #[.slice c2 X1.length d2, .slice z2 X2.length f2] 24)) w3.heap.size 24 [.slice c2 X1.length d2, .slice z2 X2.length f2] := Bx.new w3 _ _
  replace hb := hb.trans (hbx.mono hb.size)
  replace hG := hG.keep hbx
  replace hG1 := hG1.keep hbx
  replace r1 := r1.keep hbx
  replace r2 := r2.keep hbx
  replace s1 := s1.keep hbx
  replace s2 := s2.keep hbx
  clear hbx
  generalize w3.alloc (.cells #[.slice c2 X1.length d2, .slice z2 X2.length f2] 24) = w4 at *
  generalize w3.heap.size = g2 at *
  have y0 := hG.cell 0 (v := .slice ca C.length cc) rfl
  have y1 := hG.cell 1 (v := .slice za Z.length zc) rfl
  go_wp2_with (go_at_call 8; (with_reducible refine (K3.out _ (hB.keep hb) (hR.keep hb) (hRC.keep hb) (hRZ.keep hb)).mono ?_))
  (first | rintro e w5 ⟨l1, n1, rfl, t1, -, hb1⟩ | rintro e w5 l1 n1 rfl t1 - hb1)
  replace hb := hb.trans (hb1.mono hb.size)
  replace hG := hG.keep hb1
  replace hG1 := hG1.keep hb1
  replace hG2 := hG2.keep hb1
  replace r1 := r1.keep hb1
  replace r2 := r2.keep hb1
  replace s1 := s1.keep hb1
  replace s2 := s2.keep hb1
  clear hb1 K3 y0 y1
  have y0 := hG.cell 0 (v := .slice ca C.length cc) rfl
  have y1 := hG.cell 1 (v := .slice za Z.length zc) rfl
  go_wp2_with (go_at_call 13; (with_reducible refine (K4.out _ (hR.keep hb) (hRC.keep hb) (hRZ.keep hb)).mono ?_))
  (first | rintro e w6 ⟨l2, n2, rfl, t2, -, hb1⟩ | rintro e w6 l2 n2 rfl t2 - hb1)
  replace hb := hb.trans (hb1.mono hb.size)
  replace hG := hG.keep hb1
  replace hG1 := hG1.keep hb1
  replace hG2 := hG2.keep hb1
  replace r1 := r1.keep hb1
  replace r2 := r2.keep hb1
  replace s1 := s1.keep hb1
  replace s2 := s2.keep hb1
  replace t1 := t1.keep hb1
  clear hb1 K4 y0 y1
  go_wp2_with (go_at_call 14; (with_reducible refine (K5.out _ (hB.keep hb)).mono ?_))
  rintro e w7 ⟨rfl, hb1⟩
  replace hb := hb.trans (hb1.mono hb.size)
  replace hG := hG.keep hb1
  replace hG1 := hG1.keep hb1
  replace hG2 := hG2.keep hb1
  replace r1 := r1.keep hb1
  replace r2 := r2.keep hb1
  replace s1 := s1.keep hb1
  replace s2 := s2.keep hb1
  replace t1 := t1.keep hb1
  replace t2 := t2.keep hb1
  clear hb1 K5
  go_wp2_with (go_at_call 15; (with_reducible refine (K6.out _).mono ?_))
  rintro e w8 ⟨rfl, hb1⟩
  replace hb := hb.trans (hb1.mono hb.size)
  replace hG := hG.keep hb1
  replace hG1 := hG1.keep hb1
  replace hG2 := hG2.keep hb1
  replace r1 := r1.keep hb1
  replace r2 := r2.keep hb1
  replace s1 := s1.keep hb1
  replace s2 := s2.keep hb1
  replace t1 := t1.keep hb1
  replace t2 := t2.keep hb1
  clear hb1 K6
  have y0 := cell_regrown (hG.cell 0 (v := .slice ca C.length cc) rfl)
  have y1 := cell_regrown (hG.cell 1 (v := .slice za Z.length zc) rfl)
  have y2 := cell_regrown (hG1.cell 0 (v := .slice c1 X1.length d1) rfl)
  have y3 := cell_regrown (hG1.cell 1 (v := .slice z1 X2.length f1) rfl)
  have y4 := cell_regrown (hG2.cell 0 (v := .slice c2 X1.length d2) rfl)
  have y5 := cell_regrown (hG2.cell 1 (v := .slice z2 X2.length f2) rfl)
  have q1 : (X3 == X3) = true := by simp
  have q2 : (Y2 == Y2) = true := by simp
  have q3 : (M2 == M2) = true := by simp
  have q4 : (M1 == M1) = true := by simp
  have q5 : (v == v) = true := by simp
  have HBB := Lib.hid (fun d os => hB.keep (hb.trans ((below_regrown w8 d os).mono hb.size)))
  have HRR := Lib.hid (fun d os => hR.keep (hb.trans ((below_regrown w8 d os).mono hb.size)))
  have HRC := Lib.hid (fun d os => hRC.keep (hb.trans ((below_regrown w8 d os).mono hb.size)))
  have HRZ := Lib.hid (fun d os => hRZ.keep (hb.trans ((below_regrown w8 d os).mono hb.size)))
  have HB := Lib.hid hb
  clear hG hG1 hG2 hb hR hRR hRC hRZ hB
  go_wp2_with fail
  refine wp_region_quiet_below (by kernel_rfl) (by kernel_rfl) ?_
  repeat (go_big_quiet_step (first
    | (go_at_call 10; with_reducible exact Calls.regrown_of (K9.out _ _ _ _ _ _ _ _ _ (r1.keep (below_regrown _ _ _)) (r2.keep (below_regrown _ _ _)) (s1.keep (below_regrown _ _ _)) (s2.keep (below_regrown _ _ _))))
    | (go_at_call 16; with_reducible exact Calls.regrown_of (K10.out _ _ _ _ _ (t1.keep (below_regrown _ _ _)) (t2.keep (below_regrown _ _ _))))
    | (go_at_call 9; with_reducible exact Calls.regrown_of (K7.out _ (HBB.out _ _) (HRR.out _ _) (HRC.out _ _) (HRZ.out _ _)))
    | (go_at_call 17; with_reducible exact Calls.regrown_of (K8.out _ (HRR.out _ _) (HRC.out _ _) (HRZ.out _ _)))))
  refine wpQuiet_nil ?_
  rintro w9 ⟨p2, rfl⟩
  have hb9 := HB.out.trans ((below_regrown _ p2.d p2.os).mono HB.out.size)
  go_wp2
  go_ret
  exact ⟨by simp, hb9⟩

/-- THE LAW's agree, FOR ANY NUMBER -/
theorem agree_any (p : Int) (a : Option Addr) (keys : List Int) (cap : Nat) (me secret : Int) (text : List UInt8) (ra : Option Addr) (rnd : List Int) (rc : Nat) (ca : Option Addr) (C : List Int) (cc : Nat) (za : Option Addr) (Z : List Int) (zc : Nat) (w : World) (hB : Bases w)
    (hR : Rd w a (ints keys)) (hl : keys.length ≤ 281474976710656) (hRR : Rd w ra (ints rnd)) (hrl : rnd.length ≤ 281474976710656) (hrc : rnd.length ≤ rc) (hRC : Rd w ca (ints C)) (hCl : C.length ≤ 281474976710656) (hRZ : Rd w za (ints Z)) (hZl : Z.length ≤ 281474976710656) (ht : text.length ≤ 1000000) :
    Calls Tryz.prog 5 #[.int .i64 p, .slice a keys.length cap, .int .i64 me, .int .i64 secret, .string ⟨text.toArray⟩, .slice ra rnd.length rc, .agg #[.slice ca C.length cc, .slice za Z.length zc]] w fun e w' => e = .returned (.bool true) ∧ Below w.heap.size w w' := by
  cases hs : safeP p with
  | true =>
    have hr : rsafe p = true := by rw [← safe_eq, hs]
    obtain ⟨h3, -⟩ := safeP_bd hs
    obtain ⟨P, rfl⟩ : ∃ P : Nat, p = (P : Int) := ⟨p.toNat, by omega⟩
    refine agree_gen (P : Int) a keys cap me secret text ra rnd rc ca C cc za Z zc _ _ _ _ _ _ _ _ w hB hR hRR hRC hRZ ?hpl ?hel
      (fun V h1 h2 h3 => prove_walk P a keys cap me secret text ra rnd rc V h1 hs h2 hl h3 hrl hrc ht)
      (fun V h2 h3 => rrprove_walk P a keys cap me secret text ra rnd rc V hr h2 hl h3 hrl ht)
      (fun V h h1 h2 h3 => explain_walk P a keys cap me secret text ca C cc za Z zc V h hs h1 hl h2 hCl h3 hZl ht)
      (fun V h1 h2 h3 => rrexplain_walk P a keys cap me secret text ca C cc za Z zc V hr h1 hl h2 hCl h3 hZl ht)
      (fun V h => mark_walk P me secret V h hs)
      (fun V => rmark_walk P me secret V hr)
      (fun V h h1 h2 h3 => verify_walk P a keys cap text ca C cc za Z zc V h hs h1 hl h2 hCl h3 hZl ht)
      (fun V h1 h2 h3 => rrverify_walk P a keys cap text ca C cc za Z zc V hr h1 hl h2 hCl h3 hZl ht)
    case hpl =>
      unfold proveF
      split
      · exact ⟨by simp, by simp⟩
      · split
        · exact ⟨by simp, by simp⟩
        · exact ⟨by simp [cL_length]; omega, by simp [zL_length]; omega⟩
    case hel =>
      unfold expF
      split
      · simp
      · split
        · simp
        · rename_i h _
          have hko := (allow_ok (Classical.byContradiction h)).1
          have hkn := (keysOk_bd hko).1
          have := restL_len C Z me.toNat keys.length
          simp; omega
  | false =>
    have hr : rsafe p = false := by rw [← safe_eq, hs]
    exact agree_gen p a keys cap me secret text ra rnd rc ca C cc za Z zc [] [] 2 [] 2 [] 2 false w hB hR hRR hRC hRZ ⟨by simp, by simp⟩ (by simp)
      (fun V h1 _ _ => prove_no h1 hs) (fun V _ _ => rrprove_no hr) (fun V h1 _ _ _ => explain_no h1 hs) (fun V _ _ _ => rrexplain_no hr)
      (fun V h => mark_no h hs) (fun V => rmark_no hr) (fun V h _ _ _ => verify_no h hs) (fun V _ _ _ => rrverify_no hr)
end Go.Proofs.YtbjpmkoiabkcbaaGreatDoor
