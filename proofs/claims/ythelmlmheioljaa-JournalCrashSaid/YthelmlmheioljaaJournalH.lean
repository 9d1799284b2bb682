/- The journal: Append: the program's. -/
import Derived.Test.YthelmlmheioljaaJournalF
namespace Go.Proofs.Ythelmlmheioljaa
open Go.RowKit
def appF (d : List UInt8) (f : Int) (b : Bool) (s : List UInt8) : DR :=
  if checkF d f = 0 then
    if b = true then (d, f, b, 54)
    else if 4096 < s.length ∨ 65536 < endF (goods d) + (12 + s.length) then (d, f, b, 3)
    else if 0 < f ∧ f ≤ ((12 + s.length : Nat) : Int) then (d.take (endF (goods d)) ++ (frameF (goods d).length s).take f.toNat, 0, true, 54)
    else (d.take (endF (goods d)) ++ frameF (goods d).length s, max 0 (f - ((12 + s.length : Nat) : Int)), false, 0)
  else (d, f, b, 53)
theorem frameRes_ok {n : Nat} {s : List UInt8} (hn : n ≤ 65536) (hs : s.length ≤ 4096) : frameRes (n : Int) s = .tuple #[.string ⟨(frameF n s).toArray⟩, .int .i64 0] := by
  rw [frameRes, if_neg (by omega), if_neg (by omega), Int.toNat_natCast]
theorem frameRes_big {n : Nat} {s : List UInt8} (hn : n ≤ 65536) (hs : 4096 < s.length) : frameRes (n : Int) s = .tuple #[.string ⟨#[]⟩, .int .i64 3] := by
  rw [frameRes, if_neg (by omega), if_pos hs]
theorem Dk.drew {w : World} {g : Nat} {d : List UInt8} {f : Int} {b : Bool} (h : Dk w g d f b) : Dk w.drew g d f b := h
set_option maxRecDepth 100000 in
set_option maxHeartbeats 2000000 in
theorem jappend_walk (d : List UInt8) (f : Int) (b : Bool) (s : List UInt8) (w : World) (hd : d.length ≤ 281474976710656) (hs : s.length ≤ 1048576) :
    Calls Try.prog 18 #[.agg #[.string ⟨d.toArray⟩, .int .i64 f, .bool b], .string ⟨s.toArray⟩] w fun e w' => e = .returned (dres (appF d f b s)) ∧ Below w.heap.size w w' := by
  have hb0 := ((Below.refl w.heap.size w).alloc (Nat.le_refl _) (.cells #[.string ⟨d.toArray⟩, .int .i64 f, .bool b] 23)).alloc (by simp) (.cells #[.string ⟨#[]⟩, .int .i64 0, .bool false] 23)
  have hD := (Dk.new w d f b).alloc (.cells #[.string ⟨#[]⟩, .int .i64 0, .bool false] 23)
  have hE := Dk.new (w.alloc (.cells #[.string ⟨d.toArray⟩, .int .i64 f, .bool b] 23)) [] 0 false
  rw [World.size_alloc] at hE
  go_enter Try.func18, Try.ntmps18
  go_wp2_with (go_at_call 28; (with_reducible refine (jcheck_walk d f b _ hd).mono ?_))
  rintro e w1 ⟨rfl, hb1⟩
  replace hD := hD.keep hb1
  replace hE := hE.keep hb1
  replace hb0 := hb0.trans (hb1.mono (by simp; omega))
  clear hb1
  rcases checkF_cases d f with ⟨hc, hl, hf1, hf2⟩ | hc
  · cases b with
    | true =>
      have HA := Lib.hid (show appF d f true s = (d, f, true, 54) by rw [appF, if_pos hc, if_pos rfl])
      have c0 := hD.c0
      have c1 := hD.c1
      have c2 := hD.c2
      have e0 := hE.c0
      have e1 := hE.c1
      have e2 := hE.c2
      have f0 := hE.free 0
      have f1 := hE.free 1
      have f2 := hE.free 2
      rw [hc]
      clear hc
      go_wp2
      exact bodyPost_ret (Dk.ret (t := 4) (u := 5) rfl _ rfl (hE.store d f true)) rfl ⟨by rw [HA.out]; rfl, below3 hb0 (by omega) _ _ _⟩
    | false =>
      have hA : appF d f false s = if 4096 < s.length ∨ 65536 < endF (goods d) + (12 + s.length) then (d, f, false, 3)
          else if 0 < f ∧ f ≤ ((12 + s.length : Nat) : Int) then (d.take (endF (goods d)) ++ (frameF (goods d).length s).take f.toNat, 0, true, 54)
          else (d.take (endF (goods d)) ++ frameF (goods d).length s, max 0 (f - ((12 + s.length : Nat) : Int)), false, 0) := by rw [appF, if_pos hc, if_neg (by simp)]
      have c0 := hD.c0
      have c2 := hD.c2
      rw [hc]
      clear hc
      have hge := goods_end d
      have hgc := endF_count (goods d)
      have HA := Lib.hid hA
      clear hA
      go_wp2_with (go_at_call 33; (with_reducible refine (good_walk d _ hl).mono ?_))
      rintro e w2 ⟨a, cap, rfl, -, hb2⟩
      have hA := HA.out
      clear HA
      generalize endF (goods d) = en at *
      generalize (goods d).length = n at *
      replace hD := hD.keep hb2
      replace hE := hE.keep hb2
      replace hb0 := hb0.trans (hb2.mono (by have := hb0.size; omega))
      clear hb2 c0 c2
      have hn : n ≤ 65536 := by omega
      by_cases hs4 : 4096 < s.length
      · have HA := Lib.hid (show appF d f false s = (d, f, false, 3) by rw [hA, if_pos (.inl hs4)])
        have HF := Lib.hid (frameRes_big (n := n) hn hs4)
        clear hA
        go_wp2_with (go_at_call 27; (with_reducible refine (jframe_walk _ s _ hs).mono ?_))
        rintro e w3 ⟨rfl, hb3⟩
        rw [HF.out]
        replace hD := hD.keep hb3
        replace hE := hE.keep hb3
        replace hb0 := hb0.trans (hb3.mono (by have := hb0.size; omega))
        clear hb3
        have c0 := hD.c0
        have c1 := hD.c1
        have c2 := hD.c2
        have e0 := hE.c0
        have e1 := hE.c1
        have e2 := hE.c2
        have f0 := hE.free 0
        have f1 := hE.free 1
        have f2 := hE.free 2
        go_wp2
        exact bodyPost_ret (Dk.ret (t := 4) (u := 5) rfl _ rfl (hE.store d f false)) rfl ⟨by rw [HA.out]; rfl, below3 hb0 (by omega) _ _ _⟩
      · have HF := Lib.hid (frameRes_ok (n := n) (s := s) hn (by omega))
        have hfl := frameF_length n s
        obtain ⟨L, hL⟩ : ∃ L, L = 12 + s.length := ⟨_, rfl⟩
        rw [← hL] at hfl hA
        have hs5 : s.length ≤ 4096 := by omega
        have HA0 := Lib.hid hA
        clear hA hs4
        go_wp2_with (go_at_call 27; (with_reducible refine (jframe_walk _ s _ hs).mono ?_))
        rintro e w3 ⟨rfl, hb3⟩
        rw [HF.out]
        have hA := HA0.out
        clear HA0 HF
        generalize frameF n s = fr at *
        replace hD := hD.keep hb3
        replace hE := hE.keep hb3
        replace hb0 := hb0.trans (hb3.mono (by have := hb0.size; omega))
        clear hb3
        have c0 := hD.c0
        have c1 := hD.c1
        have c2 := hD.c2
        have e0 := hE.c0
        have e1 := hE.c1
        have e2 := hE.c2
        have f0 := hE.free 0
        have f1 := hE.free 1
        have f2 := hE.free 2
        have hL5 : L ≤ 5000 := by omega
        have hen : en ≤ 65536 := by omega
        have heni : (en : Int) ≤ (d.length : Int) := by omega
        by_cases hbig : 65536 < en + L
        · have HA := Lib.hid (show appF d f false s = (d, f, false, 3) by rw [hA, if_pos (.inr hbig)])
          clear hA hL
          have hd1 : decide ((en : Int) + (L : Int) > 65536) = true := by simp; omega
          go_wp2
          exact bodyPost_ret (Dk.ret (t := 4) (u := 5) rfl _ rfl (hE.store d f false)) rfl ⟨by rw [HA.out]; rfl, below3 hb0 (by omega) _ _ _⟩
        · have hd1 : decide ((en : Int) + (L : Int) > 65536) = false := by simp; omega
          rw [if_neg (by omega)] at hA
          clear hL
          obtain ⟨F, rfl⟩ : ∃ F : Nat, f = (F : Int) := ⟨f.toNat, by omega⟩
          by_cases hfu : 0 < (F : Int) ∧ (F : Int) ≤ (L : Int)
          · rw [if_pos hfu, Int.toNat_natCast] at hA
            have HA := Lib.hid hA
            obtain ⟨hfu1, hfu2⟩ := hfu
            have hd2 : decide ((F : Int) > 0) = true := by simp; omega
            have hd3 : decide ((L : Int) ≥ (F : Int)) = true := by simp; omega
            clear hA hf1
            go_wp2
            have k1 : ¬ (9223372036854775807 < min en d.length + min F L) := by omega
            have k2 : (F : Int).toNat = F := Int.toNat_natCast F
            have hfi : (F : Int) ≤ (fr.length : Int) := by omega
            go_region
            all_goals
              go_wp2
              exact bodyPost_ret (Dk.ret (t := 4) (u := 5) rfl _ rfl (Dk.drew (hE.store (d.take en ++ fr.take F) 0 true))) rfl ⟨by rw [HA.out]; rfl, (below3 hb0 (by omega) _ _ _).drew⟩
          · rw [if_neg hfu] at hA
            obtain ⟨m, hm⟩ : ∃ m : Int, max 0 ((F : Int) - (L : Int)) = m := ⟨_, rfl⟩
            rw [hm] at hA
            have HA := Lib.hid hA
            have k1 : ¬ (9223372036854775807 < min en d.length + L) := by omega
            clear hA hf1
            by_cases hF0 : F = 0
            · subst hF0
              have hm2 : m = max 0 (-(L : Int)) := by rw [← hm]; congr 1; omega
              have hA2 := HA.out
              rw [hm2] at hA2
              have HA := Lib.hid hA2
              clear hA2 hm hm2
              have hd2 : decide (((0 : Nat) : Int) > 0) = false := by simp
              clear hfu
              go_wp2
              go_region
              all_goals
                go_wp2
                exact bodyPost_ret (Dk.ret (t := 4) (u := 5) rfl _ rfl (Dk.drew (hE.store (d.take en ++ fr) (max 0 (-(L : Int))) false))) rfl ⟨by rw [HA.out]; rfl, (below3 hb0 (by omega) _ _ _).drew⟩
            · have hd2 : decide ((F : Int) > 0) = true := by simp; omega
              have hd3 : decide ((L : Int) ≥ (F : Int)) = false := by simp; omega
              have hd4 : decide (F ≤ L) = false := by simp; omega
              clear hfu
              go_wp2
              go_region
              all_goals
                go_wp2
                exact bodyPost_ret (Dk.ret (t := 4) (u := 5) rfl _ rfl (Dk.drew (hE.store (d.take en ++ fr) m false))) rfl ⟨by rw [HA.out]; rfl, (below3 hb0 (by omega) _ _ _).drew⟩
  · have HA := Lib.hid (show appF d f b s = (d, f, b, 53) by rw [appF, if_neg (by omega)])
    have c0 := hD.c0
    have c1 := hD.c1
    have c2 := hD.c2
    have e0 := hE.c0
    have e1 := hE.c1
    have e2 := hE.c2
    have f0 := hE.free 0
    have f1 := hE.free 1
    have f2 := hE.free 2
    rw [hc]
    clear hc
    go_wp2
    exact bodyPost_ret (Dk.ret (t := 4) (u := 5) rfl _ rfl (hE.store d f b)) rfl ⟨by rw [HA.out]; rfl, below3 hb0 (by omega) _ _ _⟩
end Go.Proofs.Ythelmlmheioljaa
