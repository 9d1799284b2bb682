/- The walk of the law RateNone. -/
import Derived.Test.YtcnffdgmdeflmaaGreatDoorGRateRG
import Derived.Test.YtcnffdgmdeflmaaGreatDoorRegionL
namespace Go.Proofs.YtcnffdgmdeflmaaGreatDoor
open Go.RowKit
theorem good_big : Grp 500000003 ∧ safeP ((500000003 : Nat) : Int) = true ∧ rsafe ((500000003 : Nat) : Int) = true := ⟨grp_big, safeP_big, rsafe_big⟩
theorem other_key {P : Nat} (h : Grp P) (hP : 12 ≤ P) {me : Nat} (hme : me < 3) (text : List UInt8) (rnd : List Int) : proveF P (keyL P 3) (me : Int) 9 text rnd = (([], []), 47) := by
  have hk := keyL_ok h (n := 3) (by decide) (by decide)
  have hne : ((gpw P 4 9 : Nat) : Int) ≠ (keyL P 3).getD me 0 := by
    rw [keyL_get hme]
    intro e
    have h1 : gpw P 4 ((9 : Nat) : Int) = gpw P 4 (((me + 2 : Nat)) : Int) := by
      have : ((gpw P 4 9 : Nat) : Int) = ((gpw P 4 ((me : Int) + 2) : Nat) : Int) := e
      rw [Int.natCast_add]
      exact Int.ofNat.inj this
    rw [gpw_nat h.three h.four, gpw_nat h.three h.four] at h1
    exact pow_apart h (x := 4) (by rw [Nat.mod_eq_of_lt (by omega)]; decide) h.four (a := me + 2) (b := 9) (by omega) (by omega) h1.symm
  have ha : allowF P (keyL P 3) (me : Int) 9 = 47 := by
    rw [allowF, if_neg (by rw [hk]; decide), if_neg (by rw [keyL_length]; omega), if_pos (.inr (by rw [Int.toNat_natCast]; exact hne))]
  rw [proveF, if_pos (by rw [ha]; decide), ha]
set_option maxRecDepth 100000 in
set_option maxHeartbeats 8000000 in
theorem rnone_walk (W : World) (hB : Bases W) (p : Option Addr) (l : List Int) (cap : Nat) (hR : Rd W p (ints l)) (hl : l.length ≤ 17592186043904) :
    Calls Tryz.prog 3 #[.slice p l.length cap] W fun e w' => e = .returned (.bool true) ∧ Below W.heap.size W w' := by
  go_enter Tryz.func3, Tryz.ntmps3
  go_wp2_with (go_at_call 5; (with_reducible refine (light_walk _ _ _ _ (by omega)).mono ?_))
  rintro e w1 ⟨rfl, rfl⟩
  rcases Nat.lt_or_ge 500 l.length with h5 | h5
  · have hd5 : decide (l.length ≤ 500) = false := by simp; omega
    go_wp2_with (go_at_call 6; (with_reducible refine (awake25_walk _ hB).mono ?_))
    rintro e w1 ⟨rfl, hb1⟩
    go_wp2
    go_ret
    exact ⟨rfl, hb1⟩
  have hd5 : decide (l.length ≤ 500) = true := by simp; omega
  go_wp2_with (go_at_call 7; (with_reducible refine (roll_walk _ _ _ _).mono ?_))
  rintro e w1 ⟨rfl, hD, hb1⟩
  have hE : Env W w1 W.heap.size p l cap 0 := ⟨hD, hR.keep hb1, hb1⟩
  have HNE := Lib.hid (rd_ne hR (Nat.le_refl _))
  have HRW := Lib.hid hR
  have HBW := Lib.hid hB
  clear hD hb1 hR hB
  have k2 : ∀ V, Calls Tryz.prog 8 #[.int .i64 500000003, .int .i64 2] V fun r w' => r = .returned (.int .i64 ((gpw 500000003 4 2 : Nat) : Int)) ∧ V = w' := fun V => rPublic_walk 500000003 2 V (by decide) (by decide)
  have k3 : ∀ V, Calls Tryz.prog 8 #[.int .i64 500000003, .int .i64 3] V fun r w' => r = .returned (.int .i64 ((gpw 500000003 4 3 : Nat) : Int)) ∧ V = w' := fun V => rPublic_walk 500000003 3 V (by decide) (by decide)
  have k4 : ∀ V, Calls Tryz.prog 8 #[.int .i64 500000003, .int .i64 4] V fun r w' => r = .returned (.int .i64 ((gpw 500000003 4 4 : Nat) : Int)) ∧ V = w' := fun V => rPublic_walk 500000003 4 V (by decide) (by decide)
  have hkk : keyL 500000003 3 = [((gpw 500000003 4 2 : Nat) : Int), ((gpw 500000003 4 3 : Nat) : Int), ((gpw 500000003 4 4 : Nat) : Int)] := rfl
  have HKK := Lib.hid hkk
  clear hkk
  generalize ((gpw 500000003 4 2 : Nat) : Int) = x0 at *
  generalize ((gpw 500000003 4 3 : Nat) : Int) = x1 at *
  generalize ((gpw 500000003 4 4 : Nat) : Int) = x2 at *
  have K2 := Lib.hid k2
  have K3 := Lib.hid k3
  have K4 := Lib.hid k4
  clear k2 k3 k4
  go_wp2_with (go_at_call 8; (with_reducible refine (K2.out _).mono ?_))
  (try rintro e w2 ⟨rfl, rfl⟩)
  go_wp2_with (go_at_call 8; (with_reducible refine (K3.out _).mono ?_))
  (try rintro e w2 ⟨rfl, rfl⟩)
  go_wp2_with (go_at_call 8; (with_reducible refine (K4.out _).mono ?_))
  (try rintro e w2 ⟨rfl, rfl⟩)
  go_upto_region 6 with (fail)
  have hbx := (Below.refl w1.heap.size w1).alloc (Nat.le_refl _) (.cells #[.int .i64 x0, .int .i64 x1, .int .i64 x2] 3)
  have hK : Rd (w1.alloc (.cells #[.int .i64 x0, .int .i64 x1, .int .i64 x2] 3)) (some ⟨w1.heap.size, 0, none⟩) (ints (keyL 500000003 3)) := by rw [HKK.out]; exact (Bx.new w1 3 [.int .i64 x0, .int .i64 x1, .int .i64 x2]).rdd
  have hE2 := hE.keep hbx
  have hkg : w1.heap.size ≠ W.heap.size := by have := hE.dice.lt; omega
  generalize w1.alloc (.cells #[.int .i64 x0, .int .i64 x1, .int .i64 x2] 3) = w2 at *
  generalize w1.heap.size = gk at *
  clear hE hbx HKK K2 K3 K4
  obtain ⟨db, hdb⟩ : ∃ db, db = W.heap.size := ⟨_, rfl⟩
  rw [← hdb] at hE2 HNE hkg ⊢
  have HDB := Lib.hid (Nat.le_of_eq hdb.symm)
  clear hdb
  go_wp2_with (go_at_call 9; (with_reducible refine (next_walk _ p l cap 0 3 _ hE2.dice hE2.rd HNE.out (by omega) (by omega) (by omega)).mono ?_))
  rintro e w3 ⟨rfl, hD, hg⟩
  have hE3 := hE2.grown HNE.out HDB.out hD hg
  replace hK := hK.grown hg (by intro g off h e; cases h; exact hkg (Option.some.inj e))
  have a1 := dnum_lo l 0 (n := 3) (by omega)
  have a2 := dnum_hi l 0 (n := 3) (by omega)
  obtain ⟨me, hme⟩ : ∃ me : Nat, dnum l 0 3 = (me : Int) := ⟨(dnum l 0 3).toNat, by omega⟩
  rw [hme] at a1 a2 ⊢
  have hme3 : me < 3 := by omega
  generalize dnxt l 0 = q1 at *
  clear hD hg hE2 hme a1 a2
  go_wp2_with (go_at_call 9; (with_reducible refine (next_walk _ p l cap q1 1000 _ hE3.dice hE3.rd HNE.out (by omega) (by omega) (by omega)).mono ?_))
  rintro e w4 ⟨rfl, hD, hg⟩
  have hE4 := hE3.grown HNE.out HDB.out hD hg
  replace hK := hK.grown hg (by intro g off h e; cases h; exact hkg (Option.some.inj e))
  generalize dnum l q1 1000 = seed at *
  generalize dnxt l q1 = q2 at *
  clear hD hg hE3
  -- the rings
  have kF1 : ∀ V, Calls Tryz.prog 11 #[.int .i64 500000003, .int .i64 seed, .int .i64 5] V fun e w' => ∃ a c, e = .returned (.slice a 5 c) ∧ Ow w' V.heap.size 1 a 5 c (ints (fillL 500000003 seed 5)) ∧ Below V.heap.size V w' := fun V => fill_walk 500000003 seed 5 V (by decide) (by decide) (by decide)
  have kF2 : ∀ V, Calls Tryz.prog 11 #[.int .i64 500000003, .int .i64 1, .int .i64 5] V fun e w' => ∃ a c, e = .returned (.slice a 5 c) ∧ Ow w' V.heap.size 1 a 5 c (ints (fillL 500000003 1 5)) ∧ Below V.heap.size V w' := fun V => fill_walk 500000003 1 5 V (by decide) (by decide) (by decide)
  have hfl := fillL_length 500000003 seed 5
  have hfl2 := fillL_length 500000003 1 5
  have hfe : elsF ((500000003 : Nat) : Int) (fillL 500000003 seed 5) = true := by
    rw [elsF, List.all_eq_true]
    intro x hx
    simp only [fillL, List.mem_map] at hx
    obtain ⟨i, -, rfl⟩ := hx
    exact decide_eq_true (fillX_bd (by decide) seed (i + 1))
  have r1 := prove_key grp_big (n := 3) (by omega) (by omega) hme3 [116, 101, 120, 116] (by rw [hfl]) hfe
  have r2 := other_key grp_big (by decide) hme3 [116, 101, 120, 116] (fillL 500000003 1 5)
  generalize fillL 500000003 seed 5 = rnd at *
  generalize fillL 500000003 1 5 = rnd2 at *
  have rC : ((cL rnd me 3 3).set me (cMe 500000003 (keyL 500000003 3) rnd me [116, 101, 120, 116])).length = 3 := by rw [List.length_set, cL_length]
  have rZ : ((zL rnd me 3 3).set me (zMe 500000003 (keyL 500000003 3) rnd me ((me : Int) + 2) [116, 101, 120, 116])).length = 3 := by rw [List.length_set, zL_length]
  have rZ0 := made_ver grp_big (n := 3) (by omega) hme3 [116, 101, 120, 116] (by rw [hfl]) hfe
  generalize (cL rnd me 3 3).set me (cMe 500000003 (keyL 500000003 3) rnd me [116, 101, 120, 116]) = C at *
  generalize (zL rnd me 3 3).set me (zMe 500000003 (keyL 500000003 3) rnd me ((me : Int) + 2) [116, 101, 120, 116]) = Z at *
  have hZb := elsF_all (ver_ok rZ0).2.2.2.2.1
  have hkl := keyL_length 500000003 3
  generalize keyL 500000003 3 = keys at *
  have kP1 : ∀ V ra rc, Bases V → Rd V (some ⟨gk, 0, none⟩) (ints keys) → Rd V ra (ints rnd) → 5 ≤ rc → Calls Tryz.prog 10 #[.int .i64 500000003, .slice (some ⟨gk, 0, none⟩) 3 3, .int .i64 (me : Int), .int .i64 ((me : Int) + 2), .string ⟨#[116, 101, 120, 116]⟩, .slice ra 5 rc] V (RingRes V C Z 0) := fun V ra rc hB hK hRR hrc => by
    have := prove_walk 500000003 (some ⟨gk, 0, none⟩) keys 3 (me : Int) ((me : Int) + 2) [116, 101, 120, 116] ra rnd rc V hB safeP_big hK (by omega) hRR (by omega) (by omega) (by decide)
    rwa [r1, hkl, hfl] at this
  have kP2 : ∀ V ra rc, Bases V → Rd V (some ⟨gk, 0, none⟩) (ints keys) → Rd V ra (ints rnd2) → 5 ≤ rc → Calls Tryz.prog 10 #[.int .i64 500000003, .slice (some ⟨gk, 0, none⟩) 3 3, .int .i64 (me : Int), .int .i64 9, .string ⟨#[116, 101, 120, 116]⟩, .slice ra 5 rc] V (RingRes V [] [] 47) := fun V ra rc hB hK hRR hrc => by
    have := prove_walk 500000003 (some ⟨gk, 0, none⟩) keys 3 (me : Int) 9 [116, 101, 120, 116] ra rnd2 rc V hB safeP_big hK (by omega) hRR (by omega) (by omega) (by decide)
    rwa [r2, hkl, hfl2] at this
  have kV := fun V (text : List UInt8) ca cd (Cx : List Int) za zd (Zx : List Int) (hB : Bases V) (hK : Rd V (some ⟨gk, 0, none⟩) (ints keys)) (hC : Rd V ca (ints Cx)) (hZ : Rd V za (ints Zx)) (h1 : Cx.length ≤ 1000) (h2 : Zx.length ≤ 1000) (ht : text.length ≤ 10) => (show Calls Tryz.prog 12 #[.int .i64 500000003, .slice (some ⟨gk, 0, none⟩) 3 3, .string ⟨text.toArray⟩, .agg #[.slice ca Cx.length cd, .slice za Zx.length zd]] V fun e w' => e = .returned (.bool (verF 500000003 keys text Cx Zx)) ∧ Below V.heap.size V w' by
    have := verify_walk 500000003 (some ⟨gk, 0, none⟩) keys 3 text ca Cx cd za Zx zd V hB safeP_big hK (by omega) hC (by omega) hZ (by omega) (by omega)
    rwa [hkl] at this)
  have kRV := fun V (text : List UInt8) ca cd (Cx : List Int) za zd (Zx : List Int) (hK : Rd V (some ⟨gk, 0, none⟩) (ints keys)) (hC : Rd V ca (ints Cx)) (hZ : Rd V za (ints Zx)) (h1 : Cx.length ≤ 1000) (h2 : Zx.length ≤ 1000) (ht : text.length ≤ 10) => (show Calls Tryz.prog 13 #[.int .i64 500000003, .slice (some ⟨gk, 0, none⟩) 3 3, .string ⟨text.toArray⟩, .agg #[.slice ca Cx.length cd, .slice za Zx.length zd]] V fun e w' => e = .returned (.bool (verF 500000003 keys text Cx Zx)) ∧ Below V.heap.size V w' by
    have := rrverify_walk 500000003 (some ⟨gk, 0, none⟩) keys 3 text ca Cx cd za Zx zd V rsafe_big hK (by omega) hC (by omega) hZ (by omega) (by omega)
    rwa [hkl] at this)
  have kV2 := fun V ca cd za zd (hB : Bases V) (hK : Rd V (some ⟨gk, 0, none⟩) (ints keys)) (hC : Rd V ca (ints C)) (hZ : Rd V za (ints Z)) => (show Calls Tryz.prog 12 #[.int .i64 500000003, .slice (some ⟨gk, 0, none⟩) 2 3, .string ⟨#[116, 101, 120, 116]⟩, .agg #[.slice ca C.length cd, .slice za Z.length zd]] V fun e w' => e = .returned (.bool false) ∧ Below V.heap.size V w' by
    have htl : (keys.take 2).length = 2 := by rw [List.length_take]; omega
    have hKt : Rd V (some ⟨gk, 0, none⟩) (ints (keys.take 2)) := fun j u hj => hK j u (by
      simp only [ints, List.map_take] at hj ⊢
      rw [List.getElem?_take] at hj
      split at hj
      · exact hj
      · cases hj)
    have := verify_walk 500000003 (some ⟨gk, 0, none⟩) (keys.take 2) 3 [116, 101, 120, 116] ca C cd za Z zd V hB safeP_big hKt (by omega) hC (by omega) hZ (by omega) (by decide)
    rwa [htl, show verF 500000003 (keys.take 2) [116, 101, 120, 116] C Z = false by rw [verF, htl, rC, decide_eq_false (show ¬ (3 = 2) by decide)]; simp] at this)
  have KF1 := Lib.hid kF1
  have KF2 := Lib.hid kF2
  have KP1 := Lib.hid kP1
  have KP2 := Lib.hid kP2
  have KV := Lib.hid kV
  have KRV := Lib.hid kRV
  have KV2 := Lib.hid kV2
  have KA := Lib.hid (fun V hV => awake25_walk V hV)
  have HZB := Lib.hid hZb
  have HRC := Lib.hid rC
  have HRZ := Lib.hid rZ
  have HKL := Lib.hid hkl
  clear kF1 kF2 kP1 kP2 kV kRV kV2 hfl hfl2 hfe r1 r2 rC rZ rZ0 hZb hkl
  go_wp2_with (go_at_call 11; (with_reducible refine (KF1.out _).mono ?_))
  first | rintro e w5 ⟨ra, rc, rfl, hOr, hb5⟩ | rintro e w5 ra rc rfl hOr hb5
  have hncap := hOr.2.1
  have hRr := hOr.rd
  have hE5 := hE4.keep hb5
  replace hK := hK.keep hb5
  have hB5 := HBW.out.keep hE5.below
  clear hb5 hOr hE4 KF1
  go_wp2_with (go_at_call 10; (with_reducible refine (KP1.out _ _ _ hB5 hK hRr hncap).mono ?_))
  first | rintro e w6 ⟨ca, cd, za, zd, rfl, r1, r2, f1, f2, hb6⟩ | rintro e w6 ca cd za zd rfl r1 r2 f1 f2 hb6
  have hE6 := hE5.keep hb6
  replace hK := hK.keep hb6
  have hdb5 : db < w5.heap.size := hE5.dice.lt
  have HF1 : Hid (∀ g off, ca = some ⟨g, off, none⟩ → some g ≠ some db) := fun g off h e => by have := f1 g off h; have := Option.some.inj e; omega
  have HF2 : Hid (∀ g off, za = some ⟨g, off, none⟩ → some g ≠ some db) := fun g off h e => by have := f2 g off h; have := Option.some.inj e; omega
  clear hb6 hB5 KP1 hncap hRr hE5 f1 f2 hdb5
  go_upto_region 8 with (fail)
  have hbx := (Below.refl w6.heap.size w6).alloc (Nat.le_refl _) (.cells #[.slice ca C.length cd, .slice za Z.length zd] 30)
  have hG : Bx (w6.alloc (.cells #[.slice ca C.length cd, .slice za Z.length zd] 30)) w6.heap.size 30 [.slice ca C.length cd, .slice za Z.length zd] := Bx.new w6 _ _
  replace r1 := r1.keep hbx
  replace r2 := r2.keep hbx
  replace hK := hK.keep hbx
  have hgr : w6.heap.size ≠ db := by have := hE6.dice.lt; omega
  replace hE6 := hE6.keep hbx
  clear hbx
  generalize w6.alloc (.cells #[.slice ca C.length cd, .slice za Z.length zd] 30) = w7 at *
  generalize w6.heap.size = gr at *
  go_wp2_with (go_at_call 11; (with_reducible refine (KF2.out _).mono ?_))
  first | rintro e w8 ⟨ra', rc', rfl, hOr, hb5⟩ | rintro e w8 ra' rc' rfl hOr hb5
  have hncap := hOr.2.1
  have hRr := hOr.rd
  replace r1 := r1.keep hb5
  replace r2 := r2.keep hb5
  replace hG := hG.keep hb5
  have hE8 := hE6.keep hb5
  replace hK := hK.keep hb5
  have hB5 := HBW.out.keep hE8.below
  clear hb5 hOr hE6 KF2
  go_wp2_with (go_at_call 10; (with_reducible refine (KP2.out _ _ _ hB5 hK hRr hncap).mono ?_))
  first | rintro e w9 ⟨ca', cd', za', zd', rfl, -, -, -, -, hb6⟩ | rintro e w9 ca' cd' za' zd' rfl - - - - hb6
  replace r1 := r1.keep hb6
  replace r2 := r2.keep hb6
  replace hG := hG.keep hb6
  have hE9 := hE8.keep hb6
  replace hK := hK.keep hb6
  clear hb6 hB5 KP2 hncap hRr hE8
  go_upto_region 9 with (fail)
  have hbx : Below w9.heap.size w9 _ := (Below.refl w9.heap.size w9).alloc (Nat.le_refl _) (.cells #[.slice ca' ([] : List Int).length cd', .slice za' ([] : List Int).length zd'] 30)
  replace r1 := r1.keep hbx
  replace r2 := r2.keep hbx
  replace hG := hG.keep hbx
  have hE10 := hE9.keep hbx
  replace hK := hK.keep hbx
  clear hbx hE9
  change Rd (w9.alloc (.cells #[.slice ca' 0 cd', .slice za' 0 zd'] 30)) _ _ at r1
  change Rd (w9.alloc (.cells #[.slice ca' 0 cd', .slice za' 0 zd'] 30)) _ _ at r2
  change Rd (w9.alloc (.cells #[.slice ca' 0 cd', .slice za' 0 zd'] 30)) _ _ at hK
  change Bx (w9.alloc (.cells #[.slice ca' 0 cd', .slice za' 0 zd'] 30)) _ _ _ at hG
  change Env W (w9.alloc (.cells #[.slice ca' 0 cd', .slice za' 0 zd'] 30)) _ _ _ _ _ at hE10
  generalize w9.alloc (.cells #[.slice ca' 0 cd', .slice za' 0 zd'] 30) = wp at *
  have hX1 : C.length ≤ 1000 := by have := HRC.out; omega
  have hX2 : Z.length ≤ 1000 := by have := HRZ.out; omega
  go_cut [11] (fun v wx => ∃ (go : Nat) (a1 : Option Addr) (e1 : Nat) (a2 : Option Addr) (e2 : Nat), v = .pointer (some ⟨go, 0, none⟩) ∧ Below wp.heap.size wp wx ∧ Odd wx wp.heap.size go a1 C e1 a2 Z e2)
  case first =>
    refine wp_region_held_last' (S := fun w' => w'.cell? ⟨gr, 0, none⟩ = some (.slice ca C.length cd) ∧ w'.cell? ⟨gr, 1, none⟩ = some (.slice za Z.length zd)) 8 rfl (by kernel_rfl) (by kernel_rfl) (by kernel_rfl) ⟨(hG.keep (Below.refl _ _).drew).cell 0 rfl, (hG.keep (Below.refl _ _).drew).cell 1 rfl⟩ (fun hHeld => ?_)
    dsimp only [List.dropLast, List.replicate] at hHeld ⊢
    have hb9 : Below wp.heap.size wp wp.drew := (Below.refl _ _).drew
    generalize wp.drew = wL at *
    refine held_take (0) (v := ?_) rfl (by kernel_rfl) (by kernel_rfl) (by kernel_rfl) (fun _ _ _ h => h) (Or.inl ⟨by rfl, ?_⟩) (by assumption) ?_
    rotate_left
    · intro w hSw
      try dsimp only at hSw
      go_simp
      with_reducible rfl
    try simp only [Act.put, List.setIfInBounds_toArray, List.set_cons_zero, List.set_cons_succ]
    refine held_take (1) (v := ?_) rfl (by kernel_rfl) (by kernel_rfl) (by kernel_rfl) (fun _ _ _ h => h) (Or.inl ⟨by rfl, ?_⟩) (by assumption) ?_
    rotate_left
    · intro w hSw
      try dsimp only at hSw
      go_simp
      with_reducible rfl
    try simp only [Act.put, List.setIfInBounds_toArray, List.set_cons_zero, List.set_cons_succ]
    refine held_take (3) (v := ?_) rfl (by kernel_rfl) (by kernel_rfl) (by kernel_rfl) (fun _ _ _ h => h) (Or.inl ⟨by rfl, ?_⟩) (by assumption) ?_
    rotate_left
    · intro w hSw
      try dsimp only at hSw
      go_simp
      with_reducible rfl
    try simp only [Act.put, List.setIfInBounds_toArray, List.set_cons_zero, List.set_cons_succ]
    refine held_take (4) (v := ?_) rfl (by kernel_rfl) (by kernel_rfl) (by kernel_rfl) (fun _ _ _ h => h) (Or.inl ⟨by rfl, ?_⟩) (by assumption) ?_
    rotate_left
    · intro w hSw
      try dsimp only at hSw
      go_simp
      with_reducible rfl
    try simp only [Act.put, List.setIfInBounds_toArray, List.set_cons_zero, List.set_cons_succ]
    refine wpAnyH_ready (rs := [2, 7]) (by kernel_rfl) (by simp) ?_
    refine held_cons rfl (fun K hK => ?_) ?_
    · skip
      have hB9 := hb9.size
      refine step_copyn rfl _ _ _ _ rfl elI4 rfl rfl (Src.slice Tryz.underlying22 (by rw [ints_length, Nat.mul_one]) (r1.keep hb9) (ints_one C)) (by omega) (B := wp.heap.size) hB9 ?_
      intro a1 e1 wL1 hC hbN hrN
      replace hb9 := hb9.trans (hbN.mono hb9.size)
      clear hbN hrN hB9
      refine hK.out _ _ ⟨(hG.keep hb9).cell 0 rfl, (hG.keep hb9).cell 1 rfl⟩ (fun hHeld => ?_)
      clear hK K
      try simp only [Act.put, List.setIfInBounds_toArray, List.set_cons_zero, List.set_cons_succ]
      refine wpAnyH_ready (rs := [5, 7]) (by kernel_rfl) (by simp) ?_
      refine held_cons rfl (fun K hK => ?_) ?_
      · skip
        have hB9 := hb9.size
        have xC := hC.row
        refine step_copyn rfl _ _ _ _ rfl elI4 rfl rfl (Src.slice Tryz.underlying22 (by rw [ints_length, Nat.mul_one]) (r2.keep hb9) (ints_one Z)) (by omega) (B := wp.heap.size) hB9 ?_
        intro a2 e2 wL2 hZ hbN hrN
        have hap : Apart2 a1 a2 := (apart_new xC hrN).symm
        replace hC := hC.keep hbN
        replace hb9 := hb9.trans (hbN.mono hb9.size)
        clear hbN hrN hB9 xC
        refine hK.out _ _ ⟨(hG.keep hb9).cell 0 rfl, (hG.keep hb9).cell 1 rfl⟩ (fun hHeld => ?_)
        clear hK K
        try simp only [Act.put, List.setIfInBounds_toArray, List.set_cons_zero, List.set_cons_succ]
        refine held_take (6) (v := ?_) rfl (by kernel_rfl) (by kernel_rfl) (by kernel_rfl) (fun _ _ _ h => h) (Or.inl ⟨by rfl, ?_⟩) (by assumption) ?_
        rotate_left
        · intro w hSw
          try dsimp only at hSw
          go_simp
          with_reducible rfl
        try simp only [Act.put, List.setIfInBounds_toArray, List.set_cons_zero, List.set_cons_succ]
        refine wpAnyH_ready (rs := [7]) (by kernel_rfl) (by simp) ?_
        refine held_cons rfl (fun K hK => ?_) AllReadyH.nil
        have hB9 := hb9.size
        have xC := hC.row
        have xZ := hZ.row
        have hlo : wp.heap.size ≤ wL2.heap.size := hb9.size
        clear hB9
        go_simp
        have hbN : Below wL2.heap.size wL2 (wL2.alloc (.cells #[.slice none 0 0, .slice none 0 0] 30)) := (Below.refl _ _).alloc (Nat.le_refl _) (.cells #[.slice none 0 0, .slice none 0 0] 30)
        have hO : Bx (wL2.alloc (.cells #[.slice none 0 0, .slice none 0 0] 30)) wL2.heap.size 30 [.slice none 0 0, .slice none 0 0] := Bx.new wL2 30 [.slice none 0 0, .slice none 0 0]
        have n1 := row_old xC
        have n2 := row_old xZ
        replace hC := hC.keep hbN
        replace hZ := hZ.keep hbN
        replace hb9 := hb9.trans (hbN.mono hb9.size)
        clear hbN xC xZ
        generalize wL2.heap.size = go at *
        generalize wL2.alloc (.cells #[.slice none 0 0, .slice none 0 0] 30) = wL3 at *
        refine hK.out _ _ ⟨(hG.keep hb9).cell 0 rfl, (hG.keep hb9).cell 1 rfl⟩ (fun hHeld => ?_)
        clear hK K
        try simp only [Act.put, List.setIfInBounds_toArray, List.set_cons_zero, List.set_cons_succ]
        refine wpAnyH_done (by kernel_rfl) ?_ _
        dsimp only [Behind]
        have z0 := hO.free 0
        have z1 := hO.free 1
        have y0 := hO.cell 0 (v := .slice none 0 0) rfl
        have y1 := hO.cell 1 (v := .slice none 0 0) rfl
        go_simp
        go_wp2_with fail
        go_meet
        case rel =>
          exact ⟨go, a1, e1, a2, e2, rfl, (hb9.setCell (p := ⟨go, 0, none⟩) hlo _).setCell (p := ⟨go, 1, none⟩) hlo _, ⟨(hO.set 0 _).set 1 _, (hC.other n1 _ _).other n1 _ _, (hZ.other n2 _ _).other n2 _ _, hap, n1, n2, hlo⟩⟩
      · refine held_cons rfl (fun K hK => ?_) AllReadyH.nil
        have hB9 := hb9.size
        have xC := hC.row
        have hlo : wp.heap.size ≤ wL1.heap.size := hb9.size
        clear hB9
        go_simp
        have hbN : Below wL1.heap.size wL1 (wL1.alloc (.cells #[.slice none 0 0, .slice none 0 0] 30)) := (Below.refl _ _).alloc (Nat.le_refl _) (.cells #[.slice none 0 0, .slice none 0 0] 30)
        have hO : Bx (wL1.alloc (.cells #[.slice none 0 0, .slice none 0 0] 30)) wL1.heap.size 30 [.slice none 0 0, .slice none 0 0] := Bx.new wL1 30 [.slice none 0 0, .slice none 0 0]
        have n1 := row_old xC
        replace hC := hC.keep hbN
        replace hb9 := hb9.trans (hbN.mono hb9.size)
        clear hbN xC
        generalize wL1.heap.size = go at *
        generalize wL1.alloc (.cells #[.slice none 0 0, .slice none 0 0] 30) = wL2 at *
        refine hK.out _ _ ⟨(hG.keep hb9).cell 0 rfl, (hG.keep hb9).cell 1 rfl⟩ (fun hHeld => ?_)
        clear hK K
        try simp only [Act.put, List.setIfInBounds_toArray, List.set_cons_zero, List.set_cons_succ]
        refine wpAnyH_ready (rs := [5]) (by kernel_rfl) (by simp) ?_
        refine held_cons rfl (fun K hK => ?_) AllReadyH.nil
        have hB9 := hb9.size
        have xC := hC.row
        have xO := hO.lt
        refine step_copyn rfl _ _ _ _ rfl elI4 rfl rfl (Src.slice Tryz.underlying22 (by rw [ints_length, Nat.mul_one]) (r2.keep hb9) (ints_one Z)) (by omega) (B := wp.heap.size) hB9 ?_
        intro a2 e2 wL3 hZ hbN hrN
        have hap : Apart2 a1 a2 := (apart_new xC hrN).symm
        have n2 := row_new xO hrN
        replace hC := hC.keep hbN
        replace hO := hO.keep hbN
        replace hb9 := hb9.trans (hbN.mono hb9.size)
        clear hbN hrN hB9 xC xO
        refine hK.out _ _ ⟨(hG.keep hb9).cell 0 rfl, (hG.keep hb9).cell 1 rfl⟩ (fun hHeld => ?_)
        clear hK K
        try simp only [Act.put, List.setIfInBounds_toArray, List.set_cons_zero, List.set_cons_succ]
        refine held_take (6) (v := ?_) rfl (by kernel_rfl) (by kernel_rfl) (by kernel_rfl) (fun _ _ _ h => h) (Or.inl ⟨by rfl, ?_⟩) (by assumption) ?_
        rotate_left
        · intro w hSw
          try dsimp only at hSw
          go_simp
          with_reducible rfl
        try simp only [Act.put, List.setIfInBounds_toArray, List.set_cons_zero, List.set_cons_succ]
        refine wpAnyH_done (by kernel_rfl) ?_ _
        dsimp only [Behind]
        have z0 := hO.free 0
        have z1 := hO.free 1
        have y0 := hO.cell 0 (v := .slice none 0 0) rfl
        have y1 := hO.cell 1 (v := .slice none 0 0) rfl
        go_simp
        go_wp2_with fail
        go_meet
        case rel =>
          exact ⟨go, a1, e1, a2, e2, rfl, (hb9.setCell (p := ⟨go, 0, none⟩) hlo _).setCell (p := ⟨go, 1, none⟩) hlo _, ⟨(hO.set 0 _).set 1 _, (hC.other n1 _ _).other n1 _ _, (hZ.other n2 _ _).other n2 _ _, hap, n1, n2, hlo⟩⟩
    · refine held_cons rfl (fun K hK => ?_) AllReadyH.nil
      have hB9 := hb9.size
      have hlo : wp.heap.size ≤ wL.heap.size := hb9.size
      clear hB9
      go_simp
      have hbN : Below wL.heap.size wL (wL.alloc (.cells #[.slice none 0 0, .slice none 0 0] 30)) := (Below.refl _ _).alloc (Nat.le_refl _) (.cells #[.slice none 0 0, .slice none 0 0] 30)
      have hO : Bx (wL.alloc (.cells #[.slice none 0 0, .slice none 0 0] 30)) wL.heap.size 30 [.slice none 0 0, .slice none 0 0] := Bx.new wL 30 [.slice none 0 0, .slice none 0 0]
      replace hb9 := hb9.trans (hbN.mono hb9.size)
      clear hbN
      generalize wL.heap.size = go at *
      generalize wL.alloc (.cells #[.slice none 0 0, .slice none 0 0] 30) = wL1 at *
      refine hK.out _ _ ⟨(hG.keep hb9).cell 0 rfl, (hG.keep hb9).cell 1 rfl⟩ (fun hHeld => ?_)
      clear hK K
      try simp only [Act.put, List.setIfInBounds_toArray, List.set_cons_zero, List.set_cons_succ]
      refine wpAnyH_ready (rs := [2]) (by kernel_rfl) (by simp) ?_
      refine held_cons rfl (fun K hK => ?_) AllReadyH.nil
      have hB9 := hb9.size
      have xO := hO.lt
      refine step_copyn rfl _ _ _ _ rfl elI4 rfl rfl (Src.slice Tryz.underlying22 (by rw [ints_length, Nat.mul_one]) (r1.keep hb9) (ints_one C)) (by omega) (B := wp.heap.size) hB9 ?_
      intro a1 e1 wL2 hC hbN hrN
      have n1 := row_new xO hrN
      replace hO := hO.keep hbN
      replace hb9 := hb9.trans (hbN.mono hb9.size)
      clear hbN hrN hB9 xO
      refine hK.out _ _ ⟨(hG.keep hb9).cell 0 rfl, (hG.keep hb9).cell 1 rfl⟩ (fun hHeld => ?_)
      clear hK K
      try simp only [Act.put, List.setIfInBounds_toArray, List.set_cons_zero, List.set_cons_succ]
      refine wpAnyH_ready (rs := [5]) (by kernel_rfl) (by simp) ?_
      refine held_cons rfl (fun K hK => ?_) AllReadyH.nil
      have hB9 := hb9.size
      have xC := hC.row
      have xO := hO.lt
      refine step_copyn rfl _ _ _ _ rfl elI4 rfl rfl (Src.slice Tryz.underlying22 (by rw [ints_length, Nat.mul_one]) (r2.keep hb9) (ints_one Z)) (by omega) (B := wp.heap.size) hB9 ?_
      intro a2 e2 wL3 hZ hbN hrN
      have hap : Apart2 a1 a2 := (apart_new xC hrN).symm
      have n2 := row_new xO hrN
      replace hC := hC.keep hbN
      replace hO := hO.keep hbN
      replace hb9 := hb9.trans (hbN.mono hb9.size)
      clear hbN hrN hB9 xC xO
      refine hK.out _ _ ⟨(hG.keep hb9).cell 0 rfl, (hG.keep hb9).cell 1 rfl⟩ (fun hHeld => ?_)
      clear hK K
      try simp only [Act.put, List.setIfInBounds_toArray, List.set_cons_zero, List.set_cons_succ]
      refine held_take (6) (v := ?_) rfl (by kernel_rfl) (by kernel_rfl) (by kernel_rfl) (fun _ _ _ h => h) (Or.inl ⟨by rfl, ?_⟩) (by assumption) ?_
      rotate_left
      · intro w hSw
        try dsimp only at hSw
        go_simp
        with_reducible rfl
      try simp only [Act.put, List.setIfInBounds_toArray, List.set_cons_zero, List.set_cons_succ]
      refine wpAnyH_done (by kernel_rfl) ?_ _
      dsimp only [Behind]
      have z0 := hO.free 0
      have z1 := hO.free 1
      have y0 := hO.cell 0 (v := .slice none 0 0) rfl
      have y1 := hO.cell 1 (v := .slice none 0 0) rfl
      go_simp
      go_wp2_with fail
      go_meet
      case rel =>
        exact ⟨go, a1, e1, a2, e2, rfl, (hb9.setCell (p := ⟨go, 0, none⟩) hlo _).setCell (p := ⟨go, 1, none⟩) hlo _, ⟨(hO.set 0 _).set 1 _, (hC.other n1 _ _).other n1 _ _, (hZ.other n2 _ _).other n2 _ _, hap, n1, n2, hlo⟩⟩
  case rest =>
    obtain ⟨go, a1, e1, a2, e2, rfl, hb9, hOd⟩ := hcut
    have hE11 := hE10.keep hb9
    have hdw : db < wp.heap.size := hE10.dice.lt
    have l1 := r1.lt (by rw [HRC.out]; decide)
    have l2 := r2.lt (by rw [HRZ.out]; decide)
    have l3 := hK.lt (by rw [HKL.out]; decide) gk 0 rfl
    have l4 := hG.lt
    replace r1 := r1.keep hb9
    replace r2 := r2.keep hb9
    replace hG := hG.keep hb9
    replace hK := hK.keep hb9
    have hwp := hE10.below.size
    generalize wp.heap.size = B at *
    clear hb9 hE10
    have g0 := hOd.o.cell 0 (v := .slice a1 C.length e1) rfl
    have g1 := hOd.o.cell 1 (v := .slice a2 Z.length e2) rfl
    have tZ : ((Z.length : Int) != 3) = false := by rw [HRZ.out]; rfl
    go_wp2_with (go_at_call 9; (with_reducible refine (next_walk _ p l cap q2 3 _ hE11.dice hE11.rd HNE.out (by omega) (by omega) (by omega)).mono ?_))
    (first | rintro e w12 rfl hD hg | rintro e w12 ⟨rfl, hD, hg⟩)
    have hE12 := hE11.grown HNE.out HDB.out hD hg
    replace hOd := hOd.grown hg hdw
    replace hK := hK.grown hg (by intro g off h e; cases h; exact hkg (Option.some.inj e))
    replace hG := hG.grown hg (fun e => hgr (Option.some.inj e))
    replace r1 := r1.grown hg HF1.out
    replace r2 := r2.grown hg HF2.out
    have a1' := dnum_lo l q2 (n := 3) (by omega)
    have a2' := dnum_hi l q2 (n := 3) (by omega)
    obtain ⟨k, hk⟩ : ∃ k : Nat, dnum l q2 3 = (k : Int) := ⟨(dnum l q2 3).toNat, by omega⟩
    rw [hk] at a1' a2' ⊢
    have hk3 : k < Z.length := by rw [HRZ.out]; omega
    clear hk g0 g1 hE11 hD hg
    obtain ⟨gz, oz, x, ha2, cz, hx⟩ := hOd.z.rd.int hk3
    subst ha2
    have hxb := HZB.out x (mem_at hx)
    obtain ⟨x0, x1⟩ := hxb
    have hw1 : IntKind.i64.wrap (x + 1) = x + 1 := by rw [IntKind.wrap_i64]; omega
    have hm1 : (x + 1).tmod 500000003 = (x + 1) % 500000003 := Int.tmod_eq_emod_of_nonneg (by omega)
    obtain ⟨y, hy⟩ : ∃ y, y = (x + 1) % 500000003 := ⟨_, rfl⟩
    rw [← hy] at hm1
    have hki : (k : Int) < (Z.length : Int) := by omega
    obtain ⟨hOs, hBg⟩ := hOd.setZ k y
    have hfr : w12.frozen? ⟨gz, oz + k, none⟩ = false := by
      obtain ⟨-, hnc, -, ⟨h, -⟩ | ⟨g', o', e, -, -, -, hf⟩⟩ := hOd.z
      · cases h
      · cases e; exact (hf k (by omega)).2
    have q0 := hOd.o.cell 0 (v := .slice a1 C.length e1) rfl
    have q1 := hOd.o.cell 1 (v := .slice (some ⟨gz, oz, none⟩) Z.length e2) rfl
    have hbs : Below B w12 (w12.setCell ⟨gz, oz + k, none⟩ (.int .i64 y)) := (Below.refl B w12).setCell (p := ⟨gz, oz + k, none⟩) hBg _
    clear hx hy
    go_upto_region 13 with (fail)
    refine wp_region_held_last' (S := fun w' => w'.cell? ⟨go, 0, none⟩ = some (.slice a1 C.length e1) ∧ w'.cell? ⟨go, 1, none⟩ = some (.slice (some ⟨gz, oz, none⟩) Z.length e2) ∧ w'.cell? ⟨gz, oz + k, none⟩ = some (.int .i64 x)) 12 rfl (by kernel_rfl) (by kernel_rfl) (by kernel_rfl) ⟨hOd.drew.o.cell 0 rfl, hOd.drew.o.cell 1 rfl, cz⟩ (fun hHeld => ?_)
    dsimp only [List.dropLast, List.replicate] at hHeld ⊢
    refine held_take (0) (v := ?_) rfl (by kernel_rfl) (by kernel_rfl) (by kernel_rfl) (fun _ _ _ h => h) (Or.inl ⟨by rfl, ?_⟩) (by assumption) ?_
    rotate_left
    · intro w hSw
      try dsimp only at hSw
      go_simp
      with_reducible rfl
    try simp only [Act.put, List.setIfInBounds_toArray, List.set_cons_zero, List.set_cons_succ]
    refine held_take (1) (v := ?_) rfl (by kernel_rfl) (by kernel_rfl) (by kernel_rfl) (fun _ _ _ h => h) (Or.inl ⟨by rfl, ?_⟩) (by assumption) ?_
    rotate_left
    · intro w hSw
      try dsimp only at hSw
      go_simp
      with_reducible rfl
    try simp only [Act.put, List.setIfInBounds_toArray, List.set_cons_zero, List.set_cons_succ]
    refine held_take (2) (v := ?_) rfl (by kernel_rfl) (by kernel_rfl) (by kernel_rfl) (fun _ _ _ h => h) (Or.inl ⟨by rfl, ?_⟩) (by assumption) ?_
    rotate_left
    · intro w hSw
      try dsimp only at hSw
      go_simp
      with_reducible rfl
    try simp only [Act.put, List.setIfInBounds_toArray, List.set_cons_zero, List.set_cons_succ]
    refine held_take (3) (v := ?_) rfl (by kernel_rfl) (by kernel_rfl) (by kernel_rfl) (fun _ _ _ h => h) (Or.inl ⟨by rfl, ?_⟩) (by assumption) ?_
    rotate_left
    · intro w hSw
      try dsimp only at hSw
      go_simp
      with_reducible rfl
    try simp only [Act.put, List.setIfInBounds_toArray, List.set_cons_zero, List.set_cons_succ]
    refine held_take (4) (v := ?_) rfl (by kernel_rfl) (by kernel_rfl) (by kernel_rfl) (fun _ _ _ h => h) (Or.inl ⟨by rfl, ?_⟩) (by assumption) ?_
    rotate_left
    · intro w hSw
      try dsimp only at hSw
      go_simp
      with_reducible rfl
    try simp only [Act.put, List.setIfInBounds_toArray, List.set_cons_zero, List.set_cons_succ]
    refine held_take (5) (v := ?_) rfl (by kernel_rfl) (by kernel_rfl) (by kernel_rfl) (fun _ _ _ h => h) (Or.inl ⟨by rfl, ?_⟩) (by assumption) ?_
    rotate_left
    · intro w hSw
      try dsimp only at hSw
      go_simp
      with_reducible rfl
    try simp only [Act.put, List.setIfInBounds_toArray, List.set_cons_zero, List.set_cons_succ]
    refine held_take (6) (v := ?_) rfl (by kernel_rfl) (by kernel_rfl) (by kernel_rfl) (fun _ _ _ h => h) (Or.inl ⟨by rfl, ?_⟩) (by assumption) ?_
    rotate_left
    · intro w hSw
      try dsimp only at hSw
      go_simp
      with_reducible rfl
    try simp only [Act.put, List.setIfInBounds_toArray, List.set_cons_zero, List.set_cons_succ]
    refine held_take (7) (v := ?_) rfl (by kernel_rfl) (by kernel_rfl) (by kernel_rfl) (fun _ _ _ h => h) (Or.inl ⟨by rfl, ?_⟩) (by assumption) ?_
    rotate_left
    · intro w hSw
      try dsimp only at hSw
      go_simp
      with_reducible rfl
    try simp only [Act.put, List.setIfInBounds_toArray, List.set_cons_zero, List.set_cons_succ]
    refine held_take (8) (v := ?_) rfl (by kernel_rfl) (by kernel_rfl) (by kernel_rfl) (fun _ _ _ h => h) (Or.inl ⟨by rfl, ?_⟩) (by assumption) ?_
    rotate_left
    · intro w hSw
      try dsimp only at hSw
      go_simp
      with_reducible rfl
    try simp only [Act.put, List.setIfInBounds_toArray, List.set_cons_zero, List.set_cons_succ]
    refine held_take (9) (v := ?_) rfl (by kernel_rfl) (by kernel_rfl) (by kernel_rfl) (fun _ _ _ h => h) (Or.inl ⟨by rfl, ?_⟩) (by assumption) ?_
    rotate_left
    · intro w hSw
      try dsimp only at hSw
      go_simp
      with_reducible rfl
    try simp only [Act.put, List.setIfInBounds_toArray, List.set_cons_zero, List.set_cons_succ]
    refine held_take (10) (v := ?_) rfl (by kernel_rfl) (by kernel_rfl) (by kernel_rfl) (fun _ _ _ h => h) (Or.inl ⟨by rfl, ?_⟩) (by assumption) ?_
    rotate_left
    · intro w hSw
      try dsimp only at hSw
      go_simp
      with_reducible rfl
    try simp only [Act.put, List.setIfInBounds_toArray, List.set_cons_zero, List.set_cons_succ]
    refine held_take (11) (v := ?_) rfl (by kernel_rfl) (by kernel_rfl) (by kernel_rfl) (fun _ _ _ h => h) (Or.inl ⟨by rfl, ?_⟩) (by assumption) ?_
    rotate_left
    · intro w hSw
      try dsimp only at hSw
      go_simp
      with_reducible rfl
    try simp only [Act.put, List.setIfInBounds_toArray, List.set_cons_zero, List.set_cons_succ]
    refine wpAnyH_done (by kernel_rfl) ?_ _
    dsimp only [Behind]
    clear hHeld
    go_simp
    have hgs := grown_set1 w12 gz (oz + k) (.int .i64 y)
    replace r1 := r1.grown hgs (fun g off h e => by have := l1 g off h; have := Option.some.inj e; omega)
    replace r2 := r2.grown hgs (fun g off h e => by have := l2 g off h; have := Option.some.inj e; omega)
    replace hK := hK.grown hgs (fun g off h e => by cases h; have := Option.some.inj e; omega)
    replace hG := hG.grown hgs (fun e => by have := Option.some.inj e; omega)
    have hbW := (hE12.below.setCell (p := ⟨gz, oz + k, none⟩) (show W.heap.size ≤ gz by omega) (.int .i64 y)).drew
    replace r1 := r1.drewN 1
    replace r2 := r2.drewN 1
    replace hK := hK.drewN 1
    replace hG := hG.drew
    replace hOs := hOs.drew
    change Rd (w12.setCell ⟨gz, oz + k, none⟩ (.int .i64 y)).drew _ _ at r1
    change Rd (w12.setCell ⟨gz, oz + k, none⟩ (.int .i64 y)).drew _ _ at r2
    change Rd (w12.setCell ⟨gz, oz + k, none⟩ (.int .i64 y)).drew _ _ at hK
    generalize (w12.setCell ⟨gz, oz + k, none⟩ (.int .i64 y)).drew = w13 at *
    clear hgs hbs hOd hfr cz q0 q1 hw1 hm1 l1 l2 l3 l4 hE12
    have hzl : (Z.set k y).length ≤ 1000 := by rw [List.length_set]; exact hX2
    have go0 := hOs.o.cell 0 (v := .slice a1 C.length e1) rfl
    have go1 := hOs.o.cell 1 (v := .slice (some ⟨gz, oz, none⟩) (Z.set k y).length e2) rfl
    have hzr := hOs.z.rd
    have hcr := hOs.c.rd
    generalize Z.set k y = Z2 at *
    have K1 := Lib.hid (fun V h1 h2 h3 h4 => KV.out V [116, 101, 120, 116] a1 e1 C (some ⟨gz, oz, none⟩) e2 Z2 h1 h2 h3 h4 hX1 hzl (by decide))
    have K2 := Lib.hid (fun V h2 h3 h4 => KRV.out V [116, 101, 120, 116] a1 e1 C (some ⟨gz, oz, none⟩) e2 Z2 h2 h3 h4 hX1 hzl (by decide))
    have K3 := Lib.hid (fun V h1 h2 h3 h4 => KV.out V [111, 116, 104, 101, 114] ca cd C za zd Z h1 h2 h3 h4 hX1 hX2 (by decide))
    have K4 := Lib.hid (fun V h2 h3 h4 => KRV.out V [111, 116, 104, 101, 114] ca cd C za zd Z h2 h3 h4 hX1 hX2 (by decide))
    generalize verF 500000003 keys [116, 101, 120, 116] C Z2 = v1 at *
    generalize verF 500000003 keys [111, 116, 104, 101, 114] C Z = v2 at *
    have q1 : (v1 == v1) = true := by simp
    have q2' : (v2 == v2) = true := by simp
    have y0 := cell_regrown go0
    have y1 := cell_regrown go1
    have y2 := cell_regrown (hG.cell 0 (v := .slice ca C.length cd) rfl)
    have y3 := cell_regrown (hG.cell 1 (v := .slice za Z.length zd) rfl)
    have HBB := Lib.hid (fun d os => HBW.out.keep (hbW.trans ((below_regrown w13 d os).mono hbW.size)))
    have HB := Lib.hid hbW
    clear hOs hG hbW KV KRV go0 go1 HBW
    go_wp2_with fail
    refine wp_region_quiet_below (by kernel_rfl) (by kernel_rfl) ?_
    repeat (go_big_quiet_step (first
      | (go_at_call 6; with_reducible exact Calls.regrown_of (KA.out _ (HBB.out _ _)))
      | (go_at_call 13; (first | (with_reducible exact Calls.regrown_of (K2.out _ (hK.keep (below_regrown _ _ _)) (hcr.keep (below_regrown _ _ _)) (hzr.keep (below_regrown _ _ _)))) | (with_reducible exact Calls.regrown_of (K4.out _ (hK.keep (below_regrown _ _ _)) (r1.keep (below_regrown _ _ _)) (r2.keep (below_regrown _ _ _))))))
      | (go_at_call 12; (first | (with_reducible exact Calls.regrown_of (K1.out _ (HBB.out _ _) (hK.keep (below_regrown _ _ _)) (hcr.keep (below_regrown _ _ _)) (hzr.keep (below_regrown _ _ _)))) | (with_reducible exact Calls.regrown_of (K3.out _ (HBB.out _ _) (hK.keep (below_regrown _ _ _)) (r1.keep (below_regrown _ _ _)) (r2.keep (below_regrown _ _ _)))) | (with_reducible exact Calls.regrown_of (KV2.out _ _ _ _ _ (HBB.out _ _) (hK.keep (below_regrown _ _ _)) (r1.keep (below_regrown _ _ _)) (r2.keep (below_regrown _ _ _))))))))
    refine wpQuiet_nil ?_
    rintro w14 ⟨p2, rfl⟩
    have hb9 := HB.out.trans ((below_regrown _ p2.d p2.os).mono HB.out.size)
    go_wp2
    go_ret
    exact ⟨by simp, hb9⟩
end Go.Proofs.YtcnffdgmdeflmaaGreatDoor
