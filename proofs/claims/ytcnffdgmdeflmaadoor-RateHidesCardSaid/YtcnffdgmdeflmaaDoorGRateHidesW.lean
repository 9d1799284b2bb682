/- The walk of the law RateHides. -/
import Derived.Test.YtcnffdgmdeflmaaDoorGRateQ
import Derived.Test.YtcnffdgmdeflmaaDoorGRateL
namespace Go.Proofs.YtcnffdgmdeflmaaDoor
open Go.RowKit
set_option maxRecDepth 100000 in
set_option maxHeartbeats 8000000 in
theorem rhides_walk (W : World) (hB : Bases W) (p : Option Addr) (l : List Int) (cap : Nat) (hR : Rd W p (ints l)) (hl : l.length ≤ 17592186043904) (text : List UInt8) (ht : text.length ≤ 281474976710656) :
    Calls Tryd.prog 3 #[.slice p l.length cap, .string ⟨text.toArray⟩] W fun e w' => e = .returned (.bool true) ∧ Below W.heap.size W w' := by
  go_enter Tryd.func3, Tryd.ntmps3
  go_wp2_with (go_at_call 5; (with_reducible refine (light_walk _ _ _ _ (by omega)).mono ?_))
  rintro e w1 ⟨rfl, rfl⟩
  rcases Nat.lt_or_ge 500 l.length with h5 | h5
  · have hd5 : decide (l.length ≤ 500) = false := by simp; omega
    go_wp2_with (go_at_call 6; (with_reducible refine (awake25_walk _ hB).mono ?_))
    rintro e w1 ⟨rfl, hb1⟩
    go_wp2
    go_ret
    exact ⟨rfl, hb1⟩
  have hd5 : decide (l.length ≤ 500) = true := by simp; omega
  rcases Nat.lt_or_ge 100 text.length with h6 | h6
  · have hd6 : decide ((text.length : Int) > 100) = true := decide_eq_true (by omega)
    have hd7 : (100 : Int) < (text.length : Int) := by omega
    go_wp2_with (go_at_call 6; (with_reducible refine (awake25_walk _ hB).mono ?_))
    rintro e w1 ⟨rfl, hb1⟩
    go_wp2
    go_ret
    exact ⟨rfl, hb1⟩
  have hd6 : decide ((text.length : Int) > 100) = false := decide_eq_false (by omega)
  have hd7 : ¬ (100 : Int) < (text.length : Int) := by omega
  go_wp2_with (go_at_call 7; (with_reducible refine (roll_walk _ _ _ _).mono ?_))
  rintro e w1 ⟨rfl, hD, hb1⟩
  have hE : Env W w1 W.heap.size p l cap 0 := ⟨hD, hR.keep hb1, hb1⟩
  have HNE := Lib.hid (rd_ne hR (Nat.le_refl _))
  clear hD hb1
  go_wp2_with (go_at_call 8; (with_reducible refine (psafe_walk _ p l cap 0 W _ hE hR (Nat.le_refl _) (by omega)).mono ?_))
  rintro e w2 ⟨rfl, hE2⟩
  obtain ⟨P, hP, hgrp, hsafe, h11, hbig⟩ := safes_good _ (ofF_mem l 0 safesL (by decide))
  rw [hP]
  generalize dnxt l 0 = q1 at *
  clear hP hE
  go_wp2_with (go_at_call 9; (with_reducible refine (next_walk _ p l cap q1 4 _ hE2.dice hE2.rd HNE.out (by omega) (by omega) (by omega)).mono ?_))
  rintro e w3 ⟨rfl, hD, hg⟩
  have hE3 := hE2.grown HNE.out (Nat.le_refl _) hD hg
  have a1 := dnum_lo l q1 (n := 4) (by omega)
  have a2 := dnum_hi l q1 (n := 4) (by omega)
  generalize dnum l q1 4 = n0 at *
  generalize dnxt l q1 = q2 at *
  clear hD hg hE2
  obtain ⟨db, hdb⟩ : ∃ db, db = W.heap.size := ⟨_, rfl⟩
  rw [← hdb] at hE3 HNE ⊢
  have HDB := Lib.hid (Nat.le_of_eq hdb.symm)
  clear hdb
  go_upto_region 6 with (fail)
  obtain ⟨n, hn, hn1, hn4⟩ : ∃ n : Nat, (1 : Int) + n0 = (n : Int) ∧ 1 ≤ n ∧ n ≤ 4 := ⟨(1 + n0).toNat, by omega, by omega, by omega⟩
  rw [hn]
  clear hn a1 a2
  have kpub : ∀ V (i : Nat), Calls Tryd.prog 10 #[.int .i64 (P : Int), .int .i64 ((i : Int) + 2)] V fun r w' => r = .returned (.int .i64 ((gpw P 4 ((i : Int) + 2) : Nat) : Int)) ∧ V = w' := fun V i => rPublic_walk P ((i : Int) + 2) V (by omega) (by omega)
  have KPUB := Lib.hid kpub
  have HRW := Lib.hid hR
  have HBW := Lib.hid hB
  clear kpub hR hB
  go_wp2_with fail
  go_loopw [8, 9] (fun v8 v9 wr => ∃ (j : Nat) (ka : Option Addr) (kc : Nat), j ≤ n ∧ v8 = .slice ka j kc ∧ v9 = .int .i64 (j : Int) ∧ Ow wr (db + 1) 1 ka j kc (ints (keyL P j)) ∧ Env W wr db p l cap q2) (fun _ v9 _ => n - (intOf v9).toNat)
  case atStart => exact ⟨0, none, 0, Nat.zero_le _, rfl, rfl, Ow.nil _ _ _, hE3⟩
  case round =>
    clear hE3
    obtain ⟨j, ka, kc, hj, rfl, rfl, hO, hE⟩ := hrel
    have hlt := hE.dice.lt
    have hdb' := HDB.out
    by_cases hjn : j < n
    · have hji : (j : Int) < (n : Int) := by omega
      have hks := keyL_succ P j
      have e1 : Hid (ints (keyL P j) ++ [.int .i64 ((gpw P 4 ((j : Int) + 2) : Nat) : Int)] = ints (keyL P (j + 1))) := by show _ = _; rw [hks, ints_snoc]
      have hkl : (keyL P j).length = j := keyL_length P j
      clear hks
      go_wp2_with (go_at_call 10; (with_reducible refine (KPUB.out _ _).mono ?_))
      rintro e w4 ⟨rfl, rfl⟩
      generalize ((gpw P 4 ((j : Int) + 2) : Nat) : Int) = x at *
      go_wp2_with (at_builtin; refine wpList_app1 (w0 := W) (B := W.heap.size) rfl _ _ _ rfl elI4 rfl hO hE.below (by omega) (by omega) rfl (by rfl) (one1 rfl) (by omega) ?_)
      intro ka' kc' w5 hO5 hb5 hg5
      have hE5 := hE.row hg5 (fun k h => (hO.row k h).1) hdb' HRW.out
      rw [e1.out] at hO5
      clear hO hE hb5 hg5 hlt hkl e1
      go_wp2_with fail
      go_roundw
      case rel => exact ⟨j + 1, ka', kc', by omega, rfl, by go_num, hO5, hE5⟩
      case measure => simp [intOf]; omega
    · have hji : ¬ (j : Int) < (n : Int) := by omega
      obtain rfl : j = n := by omega
      clear hjn hj
      go_wp2_with (go_at_call 9; (with_reducible refine (next_walk _ p l cap q2 (j : Int) _ hE.dice hE.rd HNE.out (by omega) (by omega) (by omega)).mono ?_))
      rintro e w4 rfl hD hg
      have hE4 := hE.grown HNE.out HDB.out hD hg
      have hO4 := hO.kept hg (by cases hr : rowOf ka with | none => exact .inl rfl | some x => exact .inr (fun e => by have := (hO.row x hr).1; have := Option.some.inj e; omega))
      have b1 := dnum_lo l q2 (n := (j : Int)) (by omega)
      have b2 := dnum_hi l q2 (n := (j : Int)) (by omega)
      obtain ⟨me, hme⟩ : ∃ me : Nat, dnum l q2 (j : Int) = (me : Int) := ⟨(dnum l q2 (j : Int)).toNat, by omega⟩
      rw [hme] at b1 b2 ⊢
      have hmej : me < j := by omega
      generalize dnxt l q2 = q3 at *
      clear hD hg hE hO hme b1 b2
      go_wp2_with (go_at_call 9; (with_reducible refine (next_walk _ p l cap q3 1000 _ hE4.dice hE4.rd HNE.out (by omega) (by omega) (by omega)).mono ?_))
      rintro e w5 ⟨rfl, hD, hg⟩
      have hE5 := hE4.grown HNE.out HDB.out hD hg
      have hO5 := hO4.kept hg (by cases hr : rowOf ka with | none => exact .inl rfl | some x => exact .inr (fun e => by have := (hO4.row x hr).1; have := Option.some.inj e; omega))
      generalize dnum l q3 1000 = seed at *
      generalize dnxt l q3 = q4 at *
      clear hD hg hE4 hO4
      -- what is known of the ring
      obtain ⟨N, hN⟩ : ∃ N : Nat, N + 1 = 2 * j := ⟨2 * j - 1, by omega⟩
      have hNw : IntKind.i64.wrap (2 * (j : Int)) = 2 * (j : Int) := by rw [IntKind.wrap_i64]; omega
      have hNw2 : IntKind.i64.wrap (2 * (j : Int) - 1) = (N : Int) := by rw [IntKind.wrap_i64]; omega
      have kF : ∀ V, Calls Tryd.prog 11 #[.int .i64 (P : Int), .int .i64 seed, .int .i64 (N : Int)] V fun e w' => ∃ a c, e = .returned (.slice a N c) ∧ Ow w' V.heap.size 1 a N c (ints (fillL P seed N)) ∧ Below V.heap.size V w' := fun V => by
        exact fill_walk (P : Int) seed N V (by omega) (by omega) (by omega)
      have hfl := fillL_length (P : Int) seed N
      have hfe : elsF P (fillL P seed N) = true := by
        rw [elsF, List.all_eq_true]
        intro x hx
        simp only [fillL, List.mem_map] at hx
        obtain ⟨i, -, rfl⟩ := hx
        exact decide_eq_true (fillX_bd (by omega) seed (i + 1))
      generalize fillL (P : Int) seed N = rnd at *
      have hrl : rnd.length + 1 = 2 * j := by omega
      have r1 := prove_key hgrp (n := j) (by omega) (by omega) hmej text hrl hfe
      have r2 := made_ver hgrp (n := j) (by omega) hmej text hrl hfe
      have r3 := made_exp (P := P) hmej text hrl hfe
      have rC : ((cL rnd me j j).set me (cMe P (keyL P j) rnd me text)).length = j := by rw [List.length_set, cL_length]
      have rZ : ((zL rnd me j j).set me (zMe P (keyL P j) rnd me ((me : Int) + 2) text)).length = j := by rw [List.length_set, zL_length]
      generalize (cL rnd me j j).set me (cMe P (keyL P j) rnd me text) = C at *
      generalize (zL rnd me j j).set me (zMe P (keyL P j) rnd me ((me : Int) + 2) text) = Z at *
      have r4 := fun (i : Nat) (hi : i < j) => exp_key hgrp (n := j) (by omega) (by omega) hi text r2
      have r5 := fun (i : Nat) (hi : i < j) => exp_prove hgrp (n := j) (by omega) (by omega) hi text r2
      have r6 := fun (i : Nat) (hi : i < j) => expL_length (P := P) (C := C) (Z := Z) hi
      have hkl := keyL_length P j
      generalize keyL P j = keys at *
      have kP1 : ∀ V ra rc, Bases V → Rd V ka (ints keys) → Rd V ra (ints rnd) → N ≤ rc → Calls Tryd.prog 12 #[.int .i64 (P : Int), .slice ka j kc, .int .i64 (me : Int), .int .i64 ((me : Int) + 2), .string ⟨text.toArray⟩, .slice ra N rc] V (RingRes V C Z 0) := fun V ra rc hB hK hRR hrc => by
        have := prove_walk P ka keys kc (me : Int) ((me : Int) + 2) text ra rnd rc V hB hsafe hK (by omega) hRR (by omega) (by omega) (by omega)
        rwa [r1, hkl, hfl] at this
      have kV : ∀ V ca cd za zd, Bases V → Rd V ka (ints keys) → Rd V ca (ints C) → Rd V za (ints Z) → Calls Tryd.prog 13 #[.int .i64 (P : Int), .slice ka j kc, .string ⟨text.toArray⟩, .agg #[.slice ca C.length cd, .slice za Z.length zd]] V fun e w' => e = .returned (.bool true) ∧ Below V.heap.size V w' := fun V ca cd za zd hB hK hC hZ => by
        have := verify_walk P ka keys kc text ca C cd za Z zd V hB hsafe hK (by omega) hC (by omega) hZ (by omega) (by omega)
        rwa [r2, hkl] at this
      have kE : ∀ V (i : Nat) ca cd za zd, i < j → Bases V → Rd V ka (ints keys) → Rd V ca (ints C) → Rd V za (ints Z) → Calls Tryd.prog 14 #[.int .i64 (P : Int), .slice ka j kc, .int .i64 (i : Int), .int .i64 ((i : Int) + 2), .string ⟨text.toArray⟩, .agg #[.slice ca C.length cd, .slice za Z.length zd]] V (ListRes V (expL P j i C Z) 0) := fun V i ca cd za zd hi hB hK hC hZ => by
        have := explain_walk P ka keys kc (i : Int) ((i : Int) + 2) text ca C cd za Z zd V hB hsafe hK (by omega) hC (by omega) hZ (by omega) (by omega)
        rwa [r4 i hi, hkl] at this
      have kP2 : ∀ V (i : Nat) la ld, i < j → Bases V → Rd V ka (ints keys) → Rd V la (ints (expL P j i C Z)) → (expL P j i C Z).length ≤ ld → Calls Tryd.prog 12 #[.int .i64 (P : Int), .slice ka j kc, .int .i64 (i : Int), .int .i64 ((i : Int) + 2), .string ⟨text.toArray⟩, .slice la (expL P j i C Z).length ld] V (RingRes V C Z 0) := fun V i la ld hi hB hK hL hld => by
        have hl6 := r6 i hi
        have := prove_walk P ka keys kc (i : Int) ((i : Int) + 2) text la (expL P j i C Z) ld V hB hsafe hK (by omega) hL (by omega) hld (by omega)
        rwa [r5 i hi, hkl] at this
      have kS : ∀ V ca cd za zd ca' cd' za' zd', Rd V ca (ints C) → Rd V za (ints Z) → Rd V ca' (ints C) → Rd V za' (ints Z) → Calls Tryd.prog 15 #[.agg #[.slice ca C.length cd, .slice za Z.length zd], .agg #[.slice ca' C.length cd', .slice za' Z.length zd']] V fun e w' => e = .returned (.bool true) ∧ Below V.heap.size V w' := fun V ca cd za zd ca' cd' za' zd' h1 h2 h3 h4 =>
        rsame_eq ca C cd za Z zd ca' cd' za' zd' V h1 h2 h3 h4 (by omega) (by omega)
      have kL : ∀ V la ld ra rc, Rd V la (ints (expL P j me C Z)) → Rd V ra (ints rnd) → Calls Tryd.prog 16 #[.slice la (expL P j me C Z).length ld, .slice ra N rc] V fun e w' => e = .returned (.bool true) ∧ Below V.heap.size V w' := fun V la ld ra rc h1 h2 => by
        rw [r3] at h1 ⊢
        have := lsame_eq la rnd ld ra rc V h1 h2 (by omega)
        rwa [hfl] at this ⊢
      have KF := Lib.hid kF
      have KP1 := Lib.hid kP1
      have KV := Lib.hid kV
      have KE := Lib.hid kE
      have KP2 := Lib.hid kP2
      have KS := Lib.hid kS
      have KL := Lib.hid kL
      have KA := Lib.hid (fun V hV => awake25_walk V hV)
      have hRk := hO5.rd
      have HBE := Lib.hid hE5.below
      clear kF kP1 kV kE kP2 kS kL r1 r2 r3 r4 r5 r6 rC rZ hrl hfe hfl hkl hgrp hsafe hE5 hO5 hN
      go_wp2_with (go_at_call 11; (with_reducible refine (KF.out _).mono ?_))
      first | rintro e w6 ⟨ra, rc, rfl, hOr, hb6⟩ | rintro e w6 ra rc rfl hOr hb6
      have hncap := hOr.2.1
      have hRr := hOr.rd
      have hRk6 := hRk.keep hb6
      have HB6 := Lib.hid (HBE.out.trans (hb6.mono HBE.out.size))
      have hB6 := HBW.out.keep HB6.out
      clear hb6 hOr hRk HBE KF
      go_wp2_with (go_at_call 12; (with_reducible refine (KP1.out _ _ _ hB6 hRk6 hRr hncap).mono ?_))
      first | rintro e w7 ⟨ca, cd, za, zd, rfl, r1, r2, hb7⟩ | rintro e w7 ca cd za zd rfl r1 r2 hb7
      replace HB6 := Lib.hid (HB6.out.trans (hb7.mono HB6.out.size))
      replace hRk6 := hRk6.keep hb7
      replace hRr := hRr.keep hb7
      clear hb7 hB6 KP1 hncap
      go_upto_region 14 with (fail)
      have hbx := (Below.refl w7.heap.size w7).alloc (Nat.le_refl _) (.cells #[.slice ca C.length cd, .slice za Z.length zd] 32)
      have hG : Bx (w7.alloc (.cells #[.slice ca C.length cd, .slice za Z.length zd] 32)) w7.heap.size 32 [.slice ca C.length cd, .slice za Z.length zd] := Bx.new w7 _ _
      replace r1 := r1.keep hbx
      replace r2 := r2.keep hbx
      replace hRk6 := hRk6.keep hbx
      replace hRr := hRr.keep hbx
      replace HB6 := Lib.hid (HB6.out.trans (hbx.mono HB6.out.size))
      clear hbx
      generalize w7.alloc (.cells #[.slice ca C.length cd, .slice za Z.length zd] 32) = w8 at *
      generalize w7.heap.size = gr at *
      have g0 := hG.cell 0 (v := .slice ca C.length cd) rfl
      have g1 := hG.cell 1 (v := .slice za Z.length zd) rfl
      have hB8 := HBW.out.keep HB6.out
      go_wp2_with (go_at_call 13; (with_reducible refine (KV.out _ _ _ _ _ hB8 hRk6 r1 r2).mono ?_))
      first | rintro e w9 ⟨rfl, hb9⟩ | rintro e w9 rfl hb9
      replace HB6 := Lib.hid (HB6.out.trans (hb9.mono HB6.out.size))
      replace hRk6 := hRk6.keep hb9
      replace hRr := hRr.keep hb9
      replace r1 := r1.keep hb9
      replace r2 := r2.keep hb9
      replace hG := hG.keep hb9
      have hB9 := HBW.out.keep HB6.out
      clear hb9 hB8 KV g0 g1
      go_wp2_with fail
      go_loopw [14] (fun v14 wr => ∃ i : Nat, i ≤ j ∧ v14 = .int .i64 (i : Int) ∧ Below w9.heap.size w9 wr) (fun v14 _ => j - (intOf v14).toNat)
      case atStart => exact ⟨0, Nat.zero_le _, rfl, Below.refl _ _⟩
      case round =>
        obtain ⟨i, hi, rfl, hb⟩ := hrel
        by_cases hij : i < j
        · have hii : (i : Int) < (j : Int) := by omega
          have hBr := hB9.keep hb
          have hRkr := hRk6.keep hb
          have r1r := r1.keep hb
          have r2r := r2.keep hb
          have hGr := hG.keep hb
          have hRrr := hRr.keep hb
          have g0 := hGr.cell 0 (v := .slice ca C.length cd) rfl
          have g1 := hGr.cell 1 (v := .slice za Z.length zd) rfl
          have KEi := Lib.hid (KE.out · i)
          have KP2i := Lib.hid (KP2.out · i)
          obtain ⟨X, hX⟩ : ∃ X, X = expL P j i C Z := ⟨_, rfl⟩
          rw [← hX] at KEi KP2i
          have HX := Lib.hid hX
          clear hX hB9 hRk6 hG hRr
          go_wp2_with (go_at_call 14; (with_reducible refine (KEi.out _ _ _ _ _ hij hBr hRkr r1r r2r).mono ?_))
          first | rintro e w10 ⟨la, ld, rfl, hL, hld, hb10⟩ | rintro e w10 la ld rfl hL hld hb10
          replace hb := hb.trans (hb10.mono hb.size)
          replace hBr := hBr.keep hb10
          replace hRkr := hRkr.keep hb10
          replace r1r := r1r.keep hb10
          replace r2r := r2r.keep hb10
          replace hGr := hGr.keep hb10
          replace hRrr := hRrr.keep hb10
          clear hb10 g0 g1 KEi
          go_wp2_with (go_at_call 12; (with_reducible refine (KP2i.out _ _ _ hij hBr hRkr hL hld).mono ?_))
          first | rintro e w11 ⟨ca', cd', za', zd', rfl, s1, s2, hb11⟩ | rintro e w11 ca' cd' za' zd' rfl s1 s2 hb11
          replace hb := hb.trans (hb11.mono hb.size)
          replace r1r := r1r.keep hb11
          replace r2r := r2r.keep hb11
          replace hGr := hGr.keep hb11
          replace hRrr := hRrr.keep hb11
          replace hL := hL.keep hb11
          clear hb11 hBr hRkr KP2i
          go_upto_region 21 with (fail)
          have hbx := (Below.refl w11.heap.size w11).alloc (Nat.le_refl _) (.cells #[.slice ca' C.length cd', .slice za' Z.length zd'] 32)
          have hH : Bx (w11.alloc (.cells #[.slice ca' C.length cd', .slice za' Z.length zd'] 32)) w11.heap.size 32 [.slice ca' C.length cd', .slice za' Z.length zd'] := Bx.new w11 _ _
          replace r1r := r1r.keep hbx
          replace r2r := r2r.keep hbx
          replace s1 := s1.keep hbx
          replace s2 := s2.keep hbx
          replace hGr := hGr.keep hbx
          replace hRrr := hRrr.keep hbx
          replace hL := hL.keep hbx
          replace hb := hb.trans (hbx.mono hb.size)
          clear hbx
          generalize w11.alloc (.cells #[.slice ca' C.length cd', .slice za' Z.length zd'] 32) = w12 at *
          generalize w11.heap.size = gh at *
          have g0 := hGr.cell 0 (v := .slice ca C.length cd) rfl
          have g1 := hGr.cell 1 (v := .slice za Z.length zd) rfl
          have h0 := hH.cell 0 (v := .slice ca' C.length cd') rfl
          have h1 := hH.cell 1 (v := .slice za' Z.length zd') rfl
          go_wp2_with (go_at_call 15; (with_reducible refine (KS.out _ _ _ _ _ _ _ _ _ s1 s2 r1r r2r).mono ?_))
          first | rintro e w13 ⟨rfl, hb13⟩ | rintro e w13 rfl hb13
          replace hb := hb.trans (hb13.mono hb.size)
          replace hRrr := hRrr.keep hb13
          replace hL := hL.keep hb13
          clear hb13 hGr hH g0 g1 h0 h1 s1 s2 r1r r2r
          by_cases him : i = me
          · subst him
            have KLi : Hid (∀ V la ld ra rc, Rd V la (ints X) → Rd V ra (ints rnd) → Calls Tryd.prog 16 #[.slice la X.length ld, .slice ra N rc] V fun e w' => e = .returned (.bool true) ∧ Below V.heap.size V w') := by rw [HX.out]; exact KL
            go_wp2_with (go_at_call 16; (with_reducible refine (KLi.out _ _ _ _ _ hL hRrr).mono ?_))
            first | rintro e w14 ⟨rfl, hb14⟩ | rintro e w14 rfl hb14
            replace hb := hb.trans (hb14.mono hb.size)
            clear hb14 hL hRrr
            go_wp2
            go_roundw
            case rel => exact ⟨i + 1, by omega, by go_num, hb⟩
            case measure => simp [intOf]; omega
          · have t1 : ((i : Int) == (me : Int)) = false := by rw [beq_eq_false_iff_ne]; omega
            go_wp2
            go_roundw
            case rel => exact ⟨i + 1, by omega, by go_num, hb⟩
            case measure => simp [intOf]; omega
        · have hii : ¬ (i : Int) < (j : Int) := by omega
          have hBr := hB9.keep hb
          replace HB6 := Lib.hid (HB6.out.trans (hb.mono HB6.out.size))
          clear hb hB9 hRk6 hG hRr r1 r2
          go_wp2_with (go_at_call 6; (with_reducible refine (KA.out _ hBr).mono ?_))
          first | rintro e w10 rfl hb10 | rintro e w10 ⟨rfl, hb10⟩
          replace HB6 := Lib.hid (HB6.out.trans (hb10.mono HB6.out.size))
          clear hb10 hBr
          go_wp2
          go_ret
          exact ⟨rfl, HB6.out⟩
end Go.Proofs.YtcnffdgmdeflmaaDoor
