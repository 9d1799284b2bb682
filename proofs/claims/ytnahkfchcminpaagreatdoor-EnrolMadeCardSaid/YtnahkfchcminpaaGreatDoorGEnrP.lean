/- Rolls: who signs the right text is added; the law's sanity check. -/
import Derived.Test.YtnahkfchcminpaaGreatDoorGEnrN
import Derived.Test.YtnahkfchcminpaaGreatDoorGGrp
import Derived.Test.YtnahkfchcminpaaGreatDoorGRPow
import Derived.Test.YtnahkfchcminpaaGreatDoorGMilG
namespace Go.Proofs.YtnahkfchcminpaaGreatDoor
open Go.RowKit
theorem key_ne {P : Nat} (h : Grp P) {e : Nat} (h1 : 1 ≤ e) (h2 : e < P) : gpw P 4 (e : Int) ≠ 1 := by
  rw [gpw_nat h.three h.four]
  exact pow_ne_one (by have := h.three; omega) h.prime (by rw [Nat.mod_eq_of_lt (by have := h.three; omega)]; decide) h.four (by omega) h2
theorem gpw_ev (p x k : Nat) (h : k % p < 2 ^ 40) : gpw p x (k : Int) = fpow (2 * p + 1) 40 1 x (k % p) := by
  rw [gpw, ← Int.natCast_emod, Int.toNat_natCast, pow_eval _ _ _ h]
theorem key_ok {P : Nat} (h : Grp P) {e : Nat} (h1 : 1 ≤ e) (h2 : e < P) : (((gpw P 4 (e : Int) : Nat) : Int) != 1 && memZ P ((gpw P 4 (e : Int) : Nat) : Int)) = true := by
  rw [mem_gpw h, Bool.and_true, bne_iff_ne]
  have := key_ne h h1 h2
  omega
theorem add_made {P : Nat} (hG : Grp P) (hs : safeP (P : Int) = true) {l : List Prs} (hl : chkP P l = 0) (h64 : l.length < 64) {id dep : Int} {key nonce : Nat} (h1 : 1 ≤ id ∧ id ≤ 1048576) (hd : 0 ≤ dep ∧ dep ≤ 63) (hk1 : 1 ≤ key) (hk : key < P)
    (hno : (l.any fun r => r.id == id || r.key == ((gpw P 4 (key : Int) : Nat) : Int)) = false) :
    addE P l ⟨id, ((gpw P 4 (key : Int) : Nat) : Int), dep⟩ (verP P ((gpw P 4 (key : Int) : Nat) : Int) (clmF id dep) (signR P nonce : Int) (signS P key nonce (clmF id dep) : Int)) = 0 := by
  refine addE_ok hl ⟨h1, hd⟩ ?_ hno ?_ h64
  · rw [Int.toNat_natCast]; exact key_ok hG hk1 hk
  · rw [verP, hs, Int.toNat_natCast, sign_right hG]; rfl
theorem chk_nil {p : Int} (hs : safeP p = true) : chkP p [] = 0 := chkP_ok hs (by decide) (PGood.zero _ _)
/-- from a world on, nothing old has turned -/
def Bz (B : Nat) (w a : World) : Prop := Below B w a ∧ B ≤ a.heap.size
theorem Bz.next {B : Nat} {w a b : World} (h : Bz B w a) (k : Below a.heap.size a b) : Bz B w b := ⟨h.1.trans (k.mono h.2), Nat.le_trans h.2 k.size⟩
theorem Bz.start {B : Nat} {w b : World} (h : B = w.heap.size) (k : Below w.heap.size w b) : Bz B w b := ⟨h ▸ k, by have := k.size; omega⟩
theorem Bz.b {B : Nat} {w a : World} (h : Bz B w a) : Below B w a := h.1
theorem aw_y : gpw 500000003 4 ((5 : Nat) : Int) = 1024 := by rw [gpw_ev _ _ _ (by decide)]; decide +kernel
theorem aw_mem : memZ 500000003 1024 = true := by
  have := mem_gpw grp_big 5
  rwa [aw_y] at this
theorem aw_chk1 : chkP 500000003 [⟨3, 1024, 1⟩] = 0 := chkP_ok safeP_big (by decide) (fun i r hi hr => by
  obtain rfl : i = 0 := by simp at hi; exact hi
  cases hr
  exact ⟨by decide, fun x h => absurd h (by omega), aw_mem, by decide, by decide, fun j x h => by omega⟩)
theorem aw_chk4 : chkP 4 [] = 40 := chkP_unsafe (by decide +kernel)
set_option maxRecDepth 100000 in
set_option maxHeartbeats 4000000 in
theorem awake23_walk (w : World) (hB : Bases w) :
    Calls Tryz.prog 7 #[] w fun e w' => e = .returned (.bool true) ∧ Below w.heap.size w w' := by
  have hrs : rsafe 500000003 = true := (safe_eq 500000003).symm.trans safeP_big
  have K1 := Lib.hid (fun V => (show Calls Tryz.prog 13 #[.int .i64 500000003, .int .i64 5] V fun r w' => r = .returned (.int .i64 1024) ∧ V = w' by
    have := rPublic_walk 500000003 ((5 : Nat) : Int) V (by decide) (by decide)
    rw [aw_y] at this; exact this))
  have hcl := clmF_len (id := 3) (dep := 1) ⟨by decide, by decide⟩ ⟨by decide, by decide⟩
  have K2 := Lib.hid (fun V => eclaim_walk 3 1 V ⟨by decide, by decide⟩ ⟨by decide, by decide⟩)
  have k3 := fun V => rsign_yes 500000003 5 7 (clmF 3 1) V hrs (by decide) (by decide) (by decide) (by decide) (by omega)
  have k4 := fun V hV => eadd_walk 500000003 none [] 0 ⟨3, 1024, 1⟩ (signR 500000003 7 : Int) (signS 500000003 5 7 (clmF 3 1) : Int) V hV (Rd.nil _ _) (by simp) (by decide)
  have he : addE 500000003 [] ⟨3, 1024, 1⟩ (verP 500000003 1024 (clmF 3 1) (signR 500000003 7 : Int) (signS 500000003 5 7 (clmF 3 1) : Int)) = 0 := by
    have := add_made (nonce := 7) grp_big safeP_big (chk_nil safeP_big) (by decide) (id := 3) (dep := 1) (key := 5) ⟨by decide, by decide⟩ ⟨by decide, by decide⟩ (by decide) (by decide) rfl
    rw [aw_y] at this; exact this
  simp only [he] at k4
  have k3' : ∀ V, Calls Tryz.prog 10 #[.int .i64 500000003, .int .i64 5, .int .i64 7, .string ⟨(clmF 3 1).toArray⟩] V fun e w' => e = .returned (.tuple #[.agg #[.int .i64 (signR 500000003 7 : Int), .int .i64 (signS 500000003 5 7 (clmF 3 1) : Int)], .int .i64 0]) ∧ Below V.heap.size V w' := k3
  have K3 := Lib.hid k3'
  have k4' : ∀ V, Bases V → Calls Tryz.prog 12 #[.agg #[.int .i64 500000003, .slice none 0 0], .agg #[.int .i64 3, .int .i64 1024, .int .i64 1], .agg #[.int .i64 (signR 500000003 7 : Int), .int .i64 (signS 500000003 5 7 (clmF 3 1) : Int)]] V (RollRes V 500000003 0 [⟨3, 1024, 1⟩]) := k4
  have K4 := Lib.hid k4'
  have K5 := Lib.hid (fun V q c (hV : Bases V) (hR : Rd V q (rowsC prC [⟨3, 1024, 1⟩])) => (show Calls Tryz.prog 21 #[.agg #[.int .i64 500000003, .slice q 1 c], .int .i64 3] V (RollRes V 500000003 0 []) by
    have := eleave_walk 500000003 q [⟨3, 1024, 1⟩] c 3 V hV hR (by intro r hr; simp at hr; subst hr; exact ⟨by decide, by decide⟩) (by decide)
    rwa [lvE_ok aw_chk1 (by decide)] at this))
  have K6 := Lib.hid (fun V q c (hR : Rd V q (rowsC prC [⟨3, 1024, 1⟩])) => (show Calls Tryz.prog 22 #[.agg #[.int .i64 500000003, .slice q 1 c], .int .i64 3] V fun e w' => e = .returned (.tuple #[.agg #[.int .i64 3, .int .i64 1024, .int .i64 1], .bool true]) ∧ Below V.heap.size V w' from
    efind_walk 500000003 q [⟨3, 1024, 1⟩] c 3 V hR (by decide)))
  have K7 := Lib.hid (fun V q c (hV : Bases V) (hR : Rd V q (rowsC prC [⟨3, 1024, 1⟩])) => (show Calls Tryz.prog 23 #[.agg #[.int .i64 500000003, .slice q 1 c]] V fun e w' => e = .returned (.int .i64 0) ∧ Below V.heap.size V w' by
    have := echeck_walk 500000003 q [⟨3, 1024, 1⟩] c V hV hR (by intro r hr; simp at hr; subst hr; exact ⟨by decide, by decide⟩) (by decide)
    rwa [aw_chk1] at this))
  have K8 := Lib.hid (fun V (hV : Bases V) => (show Calls Tryz.prog 23 #[.agg #[.int .i64 4, .slice none 0 0]] V fun e w' => e = .returned (.int .i64 40) ∧ Below V.heap.size V w' by
    have := echeck_walk 4 none [] 0 V hV (Rd.nil _ _) (by simp) (by decide)
    rwa [aw_chk4] at this))
  clear k3 k3' k4 k4' he hcl hrs
  generalize clmF 3 1 = txt at *
  generalize ((signR 500000003 7 : Nat) : Int) = sR at *
  generalize ((signS 500000003 5 7 txt : Nat) : Int) = sS at *
  obtain ⟨B, hBz⟩ : ∃ B, B = w.heap.size := ⟨_, rfl⟩
  have HBS : Hid (∀ V, Below B w V → Bases V) := Lib.hid (fun V hV => hB.keep (hBz ▸ hV))
  have HBW := Lib.hid hBz
  clear hB hBz
  go_enter Tryz.func7, Tryz.ntmps7
  go_wp2_with (go_at_call 13; (with_reducible refine (K1.out _).mono ?_))
  (try rintro e w1 ⟨rfl, rfl⟩)
  have hbA := (Below.refl w.heap.size w).alloc (Nat.le_refl _) (.cells #[.int .i64 3, .int .i64 1024, .int .i64 1] 43)
  have p1 := Bx.new w 43 [.int .i64 3, .int .i64 1024, .int .i64 1]
  change Bx (w.alloc (.cells #[.int .i64 3, .int .i64 1024, .int .i64 1] 43)) _ _ _ at p1
  have hb := Bz.start HBW.out hbA
  clear hbA
  go_upto_region 2 with (fail)
  generalize w.alloc (.cells #[.int .i64 3, .int .i64 1024, .int .i64 1] 43) = x1 at *
  rw [← HBW.out] at p1 ⊢
  go_wp2_with (go_at_call 11; (with_reducible refine (K2.out _).mono ?_))
  (first | rintro e w2 rfl hb1 | rintro e w2 ⟨rfl, hb1⟩)
  replace hb := hb.next hb1
  replace p1 := p1.keep hb1
  clear hb1
  go_wp2_with (go_at_call 10; (with_reducible refine (K3.out _).mono ?_))
  (first | rintro e w3 rfl hb1 | rintro e w3 ⟨rfl, hb1⟩)
  replace hb := hb.next hb1
  replace p1 := p1.keep hb1
  clear hb1
  have hbA := (Below.refl w3.heap.size w3).alloc (Nat.le_refl _) (.cells #[.int .i64 sR, .int .i64 sS] 34)
  have p2 := Bx.new w3 34 [.int .i64 sR, .int .i64 sS]
  change Bx (w3.alloc (.cells #[.int .i64 sR, .int .i64 sS] 34)) _ _ _ at p2
  replace hb := hb.next hbA
  replace p1 := p1.keep hbA
  clear hbA
  go_upto_region 3 with (fail)
  generalize w3.alloc (.cells #[.int .i64 sR, .int .i64 sS] 34) = x2 at *
  generalize w3.heap.size = o2 at *
  have p1c0 := p1.cell 0 (v := .int .i64 3) rfl
  have p1c1 := p1.cell 1 (v := .int .i64 1024) rfl
  have p1c2 := p1.cell 2 (v := .int .i64 1) rfl
  have p2c0 := p2.cell 0 (v := .int .i64 sR) rfl
  have p2c1 := p2.cell 1 (v := .int .i64 sS) rfl
  go_wp2_with (go_at_call 12; (with_reducible refine (K4.out _ (HBS.out _ hb.b)).mono ?_))
  (first | rintro e w4 ⟨a1, c1, rfl, -, r1, -, hb1⟩ | rintro e w4 a1 c1 rfl - r1 - hb1)
  replace hb := hb.next hb1
  replace p1 := p1.keep hb1
  replace p2 := p2.keep hb1
  clear hb1
  clear p1c0 p1c1 p1c2
  clear p2c0 p2c1
  have hbA := (Below.refl w4.heap.size w4).alloc (Nat.le_refl _) (.cells #[.int .i64 500000003, .slice a1 1 c1] 30)
  have p3 := Bx.new w4 30 [.int .i64 500000003, .slice a1 1 c1]
  change Bx (w4.alloc (.cells #[.int .i64 500000003, .slice a1 1 c1] 30)) _ _ _ at p3
  replace hb := hb.next hbA
  replace p1 := p1.keep hbA
  replace r1 := r1.keep hbA
  clear hbA
  go_upto_region 4 with (fail)
  generalize w4.alloc (.cells #[.int .i64 500000003, .slice a1 1 c1] 30) = x3 at *
  generalize w4.heap.size = o3 at *
  have p3c0 := p3.cell 0 (v := .int .i64 500000003) rfl
  have p3c1 := p3.cell 1 (v := .slice a1 1 c1) rfl
  go_wp2_with (go_at_call 21; (with_reducible refine (K5.out _ _ _ (HBS.out _ hb.b) r1).mono ?_))
  (first | rintro e w5 ⟨a2, c2, rfl, -, -, -, hb1⟩ | rintro e w5 a2 c2 rfl - - - hb1)
  replace hb := hb.next hb1
  replace p1 := p1.keep hb1
  replace p3 := p3.keep hb1
  replace r1 := r1.keep hb1
  clear hb1
  clear p3c0 p3c1
  have hbA := (Below.refl w5.heap.size w5).alloc (Nat.le_refl _) (.cells #[.int .i64 500000003, .slice a2 0 c2] 30)
  have p4 := Bx.new w5 30 [.int .i64 500000003, .slice a2 0 c2]
  change Bx (w5.alloc (.cells #[.int .i64 500000003, .slice a2 0 c2] 30)) _ _ _ at p4
  replace hb := hb.next hbA
  replace p1 := p1.keep hbA
  replace p3 := p3.keep hbA
  replace r1 := r1.keep hbA
  clear hbA
  go_upto_region 5 with (fail)
  generalize w5.alloc (.cells #[.int .i64 500000003, .slice a2 0 c2] 30) = x4 at *
  generalize w5.heap.size = o4 at *
  have p3c0 := p3.cell 0 (v := .int .i64 500000003) rfl
  have p3c1 := p3.cell 1 (v := .slice a1 1 c1) rfl
  go_wp2_with (go_at_call 22; (with_reducible refine (K6.out _ _ _ r1).mono ?_))
  (first | rintro e w6 rfl hb1 | rintro e w6 ⟨rfl, hb1⟩)
  replace hb := hb.next hb1
  replace p1 := p1.keep hb1
  replace p3 := p3.keep hb1
  replace p4 := p4.keep hb1
  replace r1 := r1.keep hb1
  clear hb1
  clear p3c0 p3c1
  have hbA := (Below.refl w6.heap.size w6).alloc (Nat.le_refl _) (.cells #[.int .i64 3, .int .i64 1024, .int .i64 1] 43)
  have p5 := Bx.new w6 43 [.int .i64 3, .int .i64 1024, .int .i64 1]
  change Bx (w6.alloc (.cells #[.int .i64 3, .int .i64 1024, .int .i64 1] 43)) _ _ _ at p5
  replace hb := hb.next hbA
  replace p1 := p1.keep hbA
  replace p3 := p3.keep hbA
  replace p4 := p4.keep hbA
  replace r1 := r1.keep hbA
  clear hbA
  go_upto_region 6 with (fail)
  generalize w6.alloc (.cells #[.int .i64 3, .int .i64 1024, .int .i64 1] 43) = x5 at *
  generalize w6.heap.size = o5 at *
  have p1c0 := p1.cell 0 (v := .int .i64 3) rfl
  have p1c1 := p1.cell 1 (v := .int .i64 1024) rfl
  have p1c2 := p1.cell 2 (v := .int .i64 1) rfl
  have p5c0 := p5.cell 0 (v := .int .i64 3) rfl
  have p5c1 := p5.cell 1 (v := .int .i64 1024) rfl
  have p5c2 := p5.cell 2 (v := .int .i64 1) rfl
  have p3c0 := p3.cell 0 (v := .int .i64 500000003) rfl
  have p3c1 := p3.cell 1 (v := .slice a1 1 c1) rfl
  have p4c0 := p4.cell 0 (v := .int .i64 500000003) rfl
  have p4c1 := p4.cell 1 (v := .slice a2 0 c2) rfl
  go_wp2_with (go_at_call 23; (with_reducible refine (K7.out _ _ _ (HBS.out _ hb.b) r1).mono ?_))
  (first | rintro e w7 rfl hb1 | rintro e w7 ⟨rfl, hb1⟩)
  replace hb := hb.next hb1
  clear hb1
  go_wp2_with (go_at_call 23; (with_reducible refine (K8.out _ (HBS.out _ hb.b)).mono ?_))
  (first | rintro e w8 rfl hb1 | rintro e w8 ⟨rfl, hb1⟩)
  replace hb := hb.next hb1
  clear hb1
  go_wp2
  go_ret
  exact ⟨rfl, HBW.out ▸ hb.b⟩
end Go.Proofs.YtnahkfchcminpaaGreatDoor
