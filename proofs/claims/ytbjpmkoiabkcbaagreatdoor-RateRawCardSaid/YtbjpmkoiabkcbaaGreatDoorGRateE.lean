/- Rings of keys: which verify. -/
import Derived.Test.YtbjpmkoiabkcbaaGreatDoorGRateC
import Derived.Test.YtbjpmkoiabkcbaaGreatDoorRegionL
import Derived.Test.YtbjpmkoiabkcbaaGreatDoorAppStep
namespace Go.Proofs.YtbjpmkoiabkcbaaGreatDoor
open Go.RowKit
theorem elI4 : ElemOf Tryz.prog 22 3 (.int .i64 0) 1 8 := ⟨Tryz.underlying22, by kernel_rfl, rfl, by decide, by decide⟩
/-- the commitments of the first n keys -/
def comsI (p : Nat) (keys C Z : List Int) (n : Nat) : List Int := (List.range n).map fun i => ((comF p (keys.getD i 0).toNat (C.getD i 0) (Z.getD i 0) : Nat) : Int)
theorem comsI_succ (p : Nat) (keys C Z : List Int) (n : Nat) : comsI p keys C Z (n + 1) = comsI p keys C Z n ++ [((comF p (keys.getD n 0).toNat (C.getD n 0) (Z.getD n 0) : Nat) : Int)] := by
  rw [comsI, List.range_succ, List.map_append]; rfl
theorem comsI_length (p : Nat) (keys C Z : List Int) (n : Nat) : (comsI p keys C Z n).length = n := by simp [comsI]
theorem comsI_bd (p : Nat) (hp : p ≤ 1073741824) (keys C Z : List Int) (n : Nat) : ∀ x ∈ comsI p keys C Z n, I64 x := fun x hx => by
  simp only [comsI, List.mem_map] at hx
  obtain ⟨i, -, rfl⟩ := hx
  have := comF_lt p (keys.getD i 0).toNat (C.getD i 0) (Z.getD i 0)
  exact ⟨by omega, by omega⟩
/-- does a ring verify? -/
def verF (p : Nat) (keys : List Int) (text : List UInt8) (C Z : List Int) : Bool :=
  keysOk p keys && (decide (C.length = keys.length) && (decide (Z.length = keys.length) && (elsF p C && (elsF p Z && (sumF p C == rchF p keys (comsI p keys C Z keys.length) text)))))
theorem memZ_bd {p : Nat} {x : Int} (h : memZ p x = true) : 0 < x ∧ x < 2 * (p : Int) + 1 := by
  simp only [memZ, memH, Bool.and_eq_true, decide_eq_true_eq] at h
  omega
theorem keysOk_bd {p : Nat} {keys : List Int} (h : keysOk p keys = true) : (1 ≤ keys.length ∧ keys.length ≤ 64) ∧ ∀ x ∈ keys, 0 < x ∧ x < 2 * (p : Int) + 1 := by
  simp only [keysOk, Bool.and_eq_true, decide_eq_true_eq] at h
  exact ⟨h.1, fun x hx => memZ_bd (List.all_eq_true.1 h.2 x hx)⟩
set_option maxRecDepth 100000 in
set_option maxHeartbeats 8000000 in
theorem verify_walk (p : Nat) (a : Option Addr) (keys : List Int) (cap : Nat) (text : List UInt8) (ca : Option Addr) (C : List Int) (cc : Nat) (za : Option Addr) (Z : List Int) (zc : Nat) (w : World) (hB : Bases w) (hs : safeP (p : Int) = true)
    (hR : Rd w a (ints keys)) (hl : keys.length ≤ 281474976710656) (hRC : Rd w ca (ints C)) (hCl : C.length ≤ 281474976710656) (hRZ : Rd w za (ints Z)) (hZl : Z.length ≤ 281474976710656) (ht : text.length ≤ 1000000) :
    Calls Tryz.prog 9 #[.int .i64 (p : Int), .slice a keys.length cap, .string ⟨text.toArray⟩, .agg #[.slice ca C.length cc, .slice za Z.length zc]] w fun e w' => e = .returned (.bool (verF p keys text C Z)) ∧ Below w.heap.size w w' := by
  obtain ⟨h3, h30, -⟩ := safeP_bd hs
  have KS := Lib.hid (fun V h => ratesafe_walk (p : Int) V h hs)
  have KM := Lib.hid (fun V h hV => rmembers_walk p a keys cap V h hs hV hl)
  have KE := Lib.hid (fun V h hV => elements_walk p ca C cc V h hs hV hCl)
  have KF := Lib.hid (fun V h hV => elements_walk p za Z zc V h hs hV hZl)
  clear hs
  obtain ⟨gb, hgb⟩ : ∃ gb, gb = w.heap.size := ⟨_, rfl⟩
  have hb0 := (Below.refl w.heap.size w).alloc (Nat.le_refl _) (.cells #[.slice ca C.length cc, .slice za Z.length zc] 24)
  have hG := Bx.new w 24 [.slice ca C.length cc, .slice za Z.length zc]
  rw [← hgb] at hG
  have HGB := Lib.hid hgb
  have hgw : w.heap.size = gb := hgb.symm
  clear hgb
  change Bx (w.alloc (.cells #[.slice ca C.length cc, .slice za Z.length zc] 24)) _ _ _ at hG
  have hBw := hB.keep hb0
  have hRw := hR.keep hb0
  obtain ⟨kb, hkb⟩ : ∃ b, b = keysOk p keys := ⟨_, rfl⟩
  rw [← hkb] at KM
  go_enter Tryz.func9, Tryz.ntmps9
  go_upto_region 1 with (fail)
  generalize w.alloc (.cells #[.slice ca C.length cc, .slice za Z.length zc] 24) = w0 at *
  clear hgw
  go_wp2_with (go_at_call 28; (with_reducible refine (KS.out _ hBw).mono ?_))
  rintro e w1 ⟨rfl, rfl⟩
  go_wp2_with (go_at_call 29; (with_reducible refine (KM.out _ hBw hRw).mono ?_))
  rintro e w1 ⟨rfl, hb1⟩
  replace hb0 := below_tr hb0 hb1
  replace hG := hG.keep hb1
  clear hb1 hBw hRw KM KS
  have HK := Lib.hid hkb
  have g0 := hG.cell 0 (v := .slice ca C.length cc) rfl
  have g1 := hG.cell 1 (v := .slice za Z.length zc) rfl
  clear hkb
  cases kb with
  | false =>
    have HV := Lib.hid (show verF p keys text C Z = false by rw [verF, ← HK.out]; rfl)
    go_wp2
    go_ret
    exact ⟨by rw [HV.out]; rfl, hb0⟩
  | true =>
    by_cases hC : C.length = keys.length
    rotate_left
    · have t1 : ((C.length : Int) != (keys.length : Int)) = true := by rw [bne_iff_ne]; omega
      have HV := Lib.hid (show verF p keys text C Z = false by rw [verF, decide_eq_false hC]; simp)
      clear hC
      go_wp2
      go_ret
      exact ⟨by rw [HV.out]; rfl, hb0⟩
    by_cases hZ : Z.length = keys.length
    rotate_left
    · have t2 : ((Z.length : Int) != (keys.length : Int)) = true := by rw [bne_iff_ne]; omega
      have HV := Lib.hid (show verF p keys text C Z = false by rw [verF, decide_eq_false hZ]; simp)
      have t1 : ((C.length : Int) != (keys.length : Int)) = false := by rw [bne_eq_false_iff_eq]; omega
      clear hC hZ
      go_wp2
      go_ret
      exact ⟨by rw [HV.out]; rfl, hb0⟩
    have t1 : ((C.length : Int) != (keys.length : Int)) = false := by rw [bne_eq_false_iff_eq]; omega
    have t2 : ((Z.length : Int) != (keys.length : Int)) = false := by rw [bne_eq_false_iff_eq]; omega
    obtain ⟨eC, heC⟩ : ∃ b, b = elsF p C := ⟨_, rfl⟩
    obtain ⟨eZ, heZ⟩ : ∃ b, b = elsF p Z := ⟨_, rfl⟩
    rw [← heC] at KE
    rw [← heZ] at KF
    have HC := Lib.hid hC
    have HZ := Lib.hid hZ
    have HEC := Lib.hid heC
    have HEZ := Lib.hid heZ
    have hBw := hB.keep hb0
    have hRCw := hRC.keep hb0
    clear hC hZ heC heZ
    go_wp2_with (go_at_call 20; (with_reducible refine (KE.out _ hBw hRCw).mono ?_))
    rintro e w2 ⟨rfl, hb2⟩
    replace hb0 := below_tr hb0 hb2
    replace hG := hG.keep hb2
    clear hb2 hBw hRCw KE g0 g1
    have g0 := hG.cell 0 (v := .slice ca C.length cc) rfl
    have g1 := hG.cell 1 (v := .slice za Z.length zc) rfl
    cases eC with
    | false =>
      have HV := Lib.hid (show verF p keys text C Z = false by rw [verF, ← HEC.out]; simp)
      go_wp2
      go_ret
      exact ⟨by rw [HV.out]; rfl, hb0⟩
    | true =>
      have hBw := hB.keep hb0
      have hRZw := hRZ.keep hb0
      go_wp2_with (go_at_call 20; (with_reducible refine (KF.out _ hBw hRZw).mono ?_))
      rintro e w3 ⟨rfl, hb3⟩
      replace hb0 := below_tr hb0 hb3
      replace hG := hG.keep hb3
      clear hb3 hBw hRZw KF g0 g1 t1 t2
      cases eZ with
      | false =>
        have HV := Lib.hid (show verF p keys text C Z = false by rw [verF, ← HEZ.out]; simp)
        clear hG
        go_wp2
        go_ret
        exact ⟨by rw [HV.out]; rfl, hb0⟩
      | true =>
        obtain ⟨hn, hkey⟩ := keysOk_bd HK.out.symm
        have hCel := elsF_all HEC.out.symm
        have hZel := elsF_all HEZ.out.symm
        have HKEY := Lib.hid hkey
        have HCE := Lib.hid hCel
        have HZE := Lib.hid hZel
        clear hkey hCel hZel
        rw [HC.out, HZ.out] at hG
        go_wp2_with fail
        go_loopw [9, 53] (fun v i wr => ∃ (k : Nat) (a' : Option Addr) (c' : Nat), k ≤ keys.length ∧ i = .int .i64 (k : Int) ∧ v = .slice a' k c' ∧ Ow wr (gb + 1) 1 a' k c' (ints (comsI p keys C Z k)) ∧ Bx wr gb 24 [.slice ca keys.length cc, .slice za keys.length zc] ∧ Below w.heap.size w wr) (fun _ i _ => keys.length - (intOf i).toNat)
        case atStart => exact ⟨0, none, 0, by omega, rfl, rfl, Ow.nil _ _ _, hG, hb0⟩
        case round =>
          clear hG hb0
          obtain ⟨k, a', c', hk, rfl, rfl, hO, hG, hB2⟩ := hrel
          by_cases hkt : k < keys.length
          · skip
            have hkl : (k : Int) < (keys.length : Int) := by omega
            obtain ⟨gk, ok, ky, hka, hck, hkx⟩ := (hR.keep hB2).int (k := k) hkt
            obtain ⟨g1, o1, x, hca, -, hx1⟩ := (hRC.keep hB2).int (k := k) (by rw [HC.out]; exact hkt)
            obtain ⟨g2, o2, z, hza, -, hx2⟩ := (hRZ.keep hB2).int (k := k) (by rw [HZ.out]; exact hkt)
            have hkyb := HKEY.out ky (mem_at hkx)
            have hxb := HCE.out x (mem_at hx1)
            obtain ⟨kn, hkn⟩ : ∃ m : Nat, ky = (m : Int) := ⟨ky.toNat, by omega⟩
            subst hkn
            have hKX := Lib.hid (show (keys.getD k 0).toNat = kn by rw [List.getD, hkx.out]; simp)
            have hX1 := Lib.hid (show C.getD k 0 = x by rw [List.getD, hx1.out]; rfl)
            have hX2 := Lib.hid (show Z.getD k 0 = z by rw [List.getD, hx2.out]; rfl)
            subst hca hza hka
            have HSS := Lib.hid (fun V (hV : Bx V gb 24 [.slice (some ⟨g1, o1, none⟩) keys.length cc, .slice (some ⟨g2, o2, none⟩) keys.length zc]) (hb : Below w.heap.size w V) => (show V.cell? ⟨gb, 0, none⟩ = some (.slice (some ⟨g1, o1, none⟩) keys.length cc) ∧ V.cell? ⟨gb, 1, none⟩ = some (.slice (some ⟨g2, o2, none⟩) keys.length zc) ∧ V.cell? ⟨g1, o1 + k, none⟩ = some (.int .i64 x) ∧ V.cell? ⟨g2, o2 + k, none⟩ = some (.int .i64 z) from by
              refine ⟨hV.cell 0 rfl, hV.cell 1 rfl, ?_, ?_⟩
              · obtain ⟨g', off', x', e, hc, hx'⟩ := (hRC.keep hb).int (k := k) (by rw [HC.out]; exact hkt)
                cases e
                rw [← same_at hx1 hx']; exact hc
              · obtain ⟨g', off', x', e, hc, hx'⟩ := (hRZ.keep hb).int (k := k) (by rw [HZ.out]; exact hkt)
                cases e
                rw [← same_at hx2 hx']; exact hc))
            have KC := Lib.hid (fun V => comm_walk p kn x z V (by omega) (by omega) (by omega) (by omega) (by omega))
            obtain ⟨y, hy⟩ : ∃ y, y = comF p kn x z := ⟨_, rfl⟩
            rw [← hy] at KC
            have HY := Lib.hid hy
            have hGB : w.heap.size ≤ gb := Nat.le_of_eq HGB.out.symm
            clear hy hkx hx1 hx2 hkyb hxb hR hRC hRZ hB
            go_upto_region 7 with (fail)
            refine wp_region_held_last' (S := fun w' => w'.cell? ⟨gb, 0, none⟩ = some (.slice (some ⟨g1, o1, none⟩) keys.length cc) ∧ w'.cell? ⟨gb, 1, none⟩ = some (.slice (some ⟨g2, o2, none⟩) keys.length zc) ∧ w'.cell? ⟨g1, o1 + k, none⟩ = some (.int .i64 x) ∧ w'.cell? ⟨g2, o2 + k, none⟩ = some (.int .i64 z)) 16 rfl (by kernel_rfl) (by kernel_rfl) (by kernel_rfl) (HSS.out _ (hG.keep (Below.refl _ _).drew) (below_tr hB2 (Below.refl _ _).drew)) (fun hHeld => ?_)
            dsimp only [List.dropLast, List.replicate] at hHeld ⊢
            replace hO := hO.keep (Below.refl _ _).drew
            replace hB2 := below_tr hB2 (Below.refl _ _).drew
            replace hG := hG.drew
            refine held_take (0) (v := ?_) rfl (by kernel_rfl) (by kernel_rfl) (by kernel_rfl) (fun _ _ _ h => h) (Or.inl ⟨by rfl, ?_⟩) (by assumption) ?_
            rotate_left
            · intro w hSw
              try dsimp only at hSw
              go_simp
              with_reducible rfl
            try simp only [Act.put, List.setIfInBounds_toArray, List.set_cons_zero, List.set_cons_succ]
            refine held_take (1) (v := ?_) rfl (by kernel_rfl) (by kernel_rfl) (by kernel_rfl) (fun _ _ _ h => h) (Or.inl ⟨by rfl, ?_⟩) (by assumption) ?_
            rotate_left
            · intro w hSw
              try dsimp only at hSw
              go_simp
              with_reducible rfl
            try simp only [Act.put, List.setIfInBounds_toArray, List.set_cons_zero, List.set_cons_succ]
            refine held_take (2) (v := ?_) rfl (by kernel_rfl) (by kernel_rfl) (by kernel_rfl) (fun _ _ _ h => h) (Or.inl ⟨by rfl, ?_⟩) (by assumption) ?_
            rotate_left
            · intro w hSw
              try dsimp only at hSw
              go_simp
              with_reducible rfl
            try simp only [Act.put, List.setIfInBounds_toArray, List.set_cons_zero, List.set_cons_succ]
            refine held_take (3) (v := ?_) rfl (by kernel_rfl) (by kernel_rfl) (by kernel_rfl) (fun _ _ _ h => h) (Or.inl ⟨by rfl, ?_⟩) (by assumption) ?_
            rotate_left
            · intro w hSw
              try dsimp only at hSw
              go_simp
              with_reducible rfl
            try simp only [Act.put, List.setIfInBounds_toArray, List.set_cons_zero, List.set_cons_succ]
            refine held_take (4) (v := ?_) rfl (by kernel_rfl) (by kernel_rfl) (by kernel_rfl) (fun _ _ _ h => h) (Or.inl ⟨by rfl, ?_⟩) (by assumption) ?_
            rotate_left
            · intro w hSw
              try dsimp only at hSw
              go_simp
              with_reducible rfl
            try simp only [Act.put, List.setIfInBounds_toArray, List.set_cons_zero, List.set_cons_succ]
            refine held_take (5) (v := ?_) rfl (by kernel_rfl) (by kernel_rfl) (by kernel_rfl) (fun _ _ _ h => h) (Or.inl ⟨by rfl, ?_⟩) (by assumption) ?_
            rotate_left
            · intro w hSw
              try dsimp only at hSw
              go_simp
              with_reducible rfl
            try simp only [Act.put, List.setIfInBounds_toArray, List.set_cons_zero, List.set_cons_succ]
            refine held_take (6) (v := ?_) rfl (by kernel_rfl) (by kernel_rfl) (by kernel_rfl) (fun _ _ _ h => h) (Or.inl ⟨by rfl, ?_⟩) (by assumption) ?_
            rotate_left
            · intro w hSw
              try dsimp only at hSw
              go_simp
              with_reducible rfl
            try simp only [Act.put, List.setIfInBounds_toArray, List.set_cons_zero, List.set_cons_succ]
            refine held_take (7) (v := ?_) rfl (by kernel_rfl) (by kernel_rfl) (by kernel_rfl) (fun _ _ _ h => h) (Or.inl ⟨by rfl, ?_⟩) (by assumption) ?_
            rotate_left
            · intro w hSw
              try dsimp only at hSw
              go_simp
              with_reducible rfl
            try simp only [Act.put, List.setIfInBounds_toArray, List.set_cons_zero, List.set_cons_succ]
            refine held_take (8) (v := ?_) rfl (by kernel_rfl) (by kernel_rfl) (by kernel_rfl) (fun _ _ _ h => h) (Or.inl ⟨by rfl, ?_⟩) (by assumption) ?_
            rotate_left
            · intro w hSw
              try dsimp only at hSw
              go_simp
              with_reducible rfl
            try simp only [Act.put, List.setIfInBounds_toArray, List.set_cons_zero, List.set_cons_succ]
            refine held_take (9) (v := ?_) rfl (by kernel_rfl) (by kernel_rfl) (by kernel_rfl) (fun _ _ _ h => h) (Or.inl ⟨by rfl, ?_⟩) (by assumption) ?_
            rotate_left
            · intro w hSw
              try dsimp only at hSw
              go_simp
              with_reducible rfl
            try simp only [Act.put, List.setIfInBounds_toArray, List.set_cons_zero, List.set_cons_succ]
            refine held_take (10) (v := ?_) rfl (by kernel_rfl) (by kernel_rfl) (by kernel_rfl) (fun _ _ _ h => h) (Or.inl ⟨by rfl, ?_⟩) (by assumption) ?_
            rotate_left
            · intro w hSw
              try dsimp only at hSw
              go_simp
              with_reducible rfl
            try simp only [Act.put, List.setIfInBounds_toArray, List.set_cons_zero, List.set_cons_succ]
            refine held_take (11) (v := ?_) rfl (by kernel_rfl) (by kernel_rfl) (by kernel_rfl) (fun _ _ _ h => h) (Or.inl ⟨by rfl, ?_⟩) (by assumption) ?_
            rotate_left
            · intro w hSw
              try dsimp only at hSw
              go_simp
              with_reducible rfl
            try simp only [Act.put, List.setIfInBounds_toArray, List.set_cons_zero, List.set_cons_succ]
            refine held_take (12) (v := ?_) rfl (by kernel_rfl) (by kernel_rfl) (by kernel_rfl) (fun _ _ _ h => h) (Or.inl ⟨by rfl, ?_⟩) (by assumption) ?_
            rotate_left
            · intro w hSw
              try dsimp only at hSw
              go_simp
              with_reducible rfl
            try simp only [Act.put, List.setIfInBounds_toArray, List.set_cons_zero, List.set_cons_succ]
            refine wpAnyH_ready (rs := [13]) (by kernel_rfl) (by simp) ?_
            refine held_cons rfl (fun K hK => ?_) AllReadyH.nil
            go_simp
            go_at_call 22
            (with_reducible refine (KC.out _).mono ?_)
            rintro e wN ⟨rfl, hbN⟩
            go_wp2_with fail
            replace hG := hG.keep hbN
            replace hO := hO.keep hbN
            replace hB2 := below_tr hB2 hbN
            clear hbN
            refine hK.out _ _ (HSS.out _ hG hB2) (fun hHeld => ?_)
            clear hK K
            try simp only [Act.put, List.setIfInBounds_toArray, List.set_cons_zero, List.set_cons_succ]
            refine wpAnyH_ready (rs := [14]) (by kernel_rfl) (by simp) ?_
            refine held_cons rfl (fun K hK => ?_) AllReadyH.nil
            go_simp
            have hbL := (Below.refl wN.heap.size wN).alloc (Nat.le_refl _) (.cells #[.int .i64 (y : Int)] 3)
            refine hK.out _ _ (HSS.out _ (hG.keep hbL) (below_tr hB2 hbL)) (fun hHeld => ?_)
            clear hK K
            try simp only [Act.put, List.setIfInBounds_toArray, List.set_cons_zero, List.set_cons_succ]
            refine wpAnyH_ready (rs := [15]) (by kernel_rfl) (by simp) ?_
            refine held_cons rfl (fun K hK => ?_) AllReadyH.nil
            refine step_appn (w0 := w) (B := w.heap.size) (base := gb + 1) rfl _ _ _ rfl elI4 rfl hO hB2 (by omega) (by have := hG.lt; omega) (m := 1) (cs := [_]) rfl rfl (one1 rfl) (by omega) ?_
            intro a2 c2 wA hO8 hb8 hg8
            have hG2 := hG.grown hg8 (fun e => by have := (hO.row gb e.symm).1; omega)
            refine hK.out _ _ (HSS.out _ hG2 hb8) (fun hHeld => ?_)
            clear hK K
            try simp only [Act.put, List.setIfInBounds_toArray, List.set_cons_zero, List.set_cons_succ]
            refine wpAnyH_done (by kernel_rfl) ?_ _
            dsimp only [Behind]
            go_simp
            have hO9 : Ow wA (gb + 1) 1 a2 (k + 1) c2 (ints (comsI p keys C Z (k + 1))) := by
              rw [comsI_succ, ← ints_snoc, hKX.out, hX1.out, hX2.out, ← HY.out]
              exact hO8
            clear hO hG hB2
            go_wp2_with fail
            go_roundw
            case rel => exact ⟨k + 1, a2, c2, by omega, by go_num, rfl, hO9, hG2, hb8⟩
            case measure => simp [intOf]; omega
          · skip
            have hkl : ¬ (k : Int) < (keys.length : Int) := by omega
            obtain rfl : k = keys.length := by omega
            have hcl := comsI_length p keys C Z keys.length
            have hcb := comsI_bd p (by omega) keys C Z keys.length
            have KT := Lib.hid (rsum_walk' p ca C cc wr (by omega) (by omega) (hRC.keep hB2) hCl (fun x hx => by have := HCE.out x hx; omega))
            have KH : Hid (∀ V, Rd V a (ints keys) → Rd V a' (ints (comsI p keys C Z keys.length)) → Calls Tryz.prog 24 #[.int .i64 (p : Int), .slice a keys.length cap, .slice a' keys.length c', .string ⟨text.toArray⟩] V fun e w' => e = .returned (.int .i64 (rchF p keys (comsI p keys C Z keys.length) text)) ∧ Below V.heap.size V w') := Lib.hid fun V h1 h2 => by
              have := rchal_walk' p a keys cap a' (comsI p keys C Z keys.length) c' text V (by omega) (by omega) h1 h2 (fun x hx => by have := HKEY.out x hx; exact ⟨by omega, by omega⟩) hcb (by omega) (by omega) ht
              rw [hcl] at this
              exact this
            have HV := Lib.hid (show verF p keys text C Z = (sumF p C == rchF p keys (comsI p keys C Z keys.length) text) by
              rw [verF, ← HK.out, ← HEC.out, ← HEZ.out, decide_eq_true HC.out, decide_eq_true HZ.out]; rfl)
            rw [HC.out] at KT
            have hRw := hR.keep hB2
            have hA := hO.rd
            clear hcl hcb hO
            generalize comsI p keys C Z keys.length = A at *
            have g0 := hG.cell 0 (v := .slice ca keys.length cc) rfl
            go_wp2_with (go_at_call 25; (with_reducible refine KT.out.mono ?_))
            first | rintro e w4 rfl hb4 | rintro e w4 ⟨rfl, hb4⟩
            go_wp2_with (go_at_call 24; (with_reducible refine (KH.out _ (hRw.keep hb4) (hA.keep hb4)).mono ?_))
            first | rintro e w5 rfl hb5 | rintro e w5 ⟨rfl, hb5⟩
            have HB := Lib.hid (below_tr (below_tr hB2 hb4) hb5)
            clear KT KH hG g0 hRw hA hb4 hb5 hB2
            go_wp2
            go_ret
            exact ⟨by rw [HV.out]; rfl, HB.out⟩
end Go.Proofs.YtbjpmkoiabkcbaaGreatDoor
