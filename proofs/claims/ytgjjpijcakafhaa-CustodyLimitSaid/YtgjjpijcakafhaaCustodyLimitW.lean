/- The walk of the law CustodyLimit. -/
import Derived.Test.YtgjjpijcakafhaaCustodyJ
namespace Go.Proofs.Ytgjjpijcakafhaa
open Go.RowKit
/-- the law's chain of k records -/
def chainC : Nat → List Rec
  | 0 => []
  | k + 1 => chainC k ++ [⟨(k : Int), 0, 7, [], (lastF (chainC k)).1⟩]
theorem chainC_length (k : Nat) : (chainC k).length = k := by
  induction k with
  | zero => rfl
  | succ k ih => rw [chainC, List.length_append, ih]; rfl
theorem chainC_time (k : Nat) : (lastF (chainC k)).2 = 0 := by
  cases k with
  | zero => rfl
  | succ k => rw [chainC, lastF_snoc]
theorem chainC_in (k : Nat) (hk : k ≤ 2000) : ∀ r ∈ chainC k, r.In := by
  induction k with
  | zero => intro r hr; simp [chainC] at hr
  | succ k ih =>
    intro r hr
    rw [chainC, List.mem_append, List.mem_singleton] at hr
    rcases hr with hr | rfl
    · exact ih (by omega) r hr
    · exact Rec.In.mk (by constructor <;> (dsimp only; omega)) (by constructor <;> (dsimp only; omega)) (by constructor <;> (dsimp only; omega))
theorem chainC_right (k : Nat) (hk : k ≤ 1024) : Right (chainC k) k := by
  induction k with
  | zero => exact Right.zero _
  | succ k ih =>
    have hl := chainC_length k
    have := ih (by omega)
    have h2 := Right.snoc (l := chainC k) (t := 0) (k := 7) (body := []) (by rw [hl]; exact this) (by omega) (by rw [chainC_time]; omega) (by omega) (by omega) (by simp)
    rw [hl] at h2
    exact h2
theorem chainC_over : checkF (chainC 1025) = (1024, 3) := by
  have hl := chainC_length 1024
  have hr := chainC_right 1024 (Nat.le_refl _)
  have he : chainC 1025 = chainC 1024 ++ [⟨((1024 : Nat) : Int), 0, 7, [], (lastF (chainC 1024)).1⟩] := rfl
  have hx : (chainC 1025)[1024]? = some ⟨((1024 : Nat) : Int), 0, 7, [], (lastF (chainC 1024)).1⟩ := by
    rw [he, List.getElem?_append_right (by omega), hl]; simp
  have hR : Right (chainC 1025) 1024 := fun i r hi h => by
    rw [he] at h ⊢
    rw [List.getElem?_append_left (by omega)] at h
    rw [List.take_append_of_le_length (by omega)]
    exact hr i r hi h
  have hf : followsF ((chainC 1025).take 1024) ⟨((1024 : Nat) : Int), 0, 7, [], (lastF (chainC 1024)).1⟩ = 3 := by
    rw [followsF, if_pos (.inl (by rw [List.length_take, chainC_length]; decide))]
  rw [checkF_no hx hR (by rw [hf]; decide), hf]
  rfl
theorem Rk.grown {w w' : World} {g : Nat} {r : Rec} {row : Option Nat} (h : Rk w g r) (hg : w.grownBy w' row) (hne : some g ≠ row) : Rk w' g r := (hg.block g h.lt hne).trans h
set_option maxRecDepth 100000 in
set_option maxHeartbeats 2000000 in
theorem limit_walk (W : World) (n : Nat) (hn : n < 256) :
    Calls Try.prog 3 #[.int .u8 (n : Int)] W fun e w' => e = .returned (.bool true) ∧ Below W.heap.size W w' := by
  obtain ⟨m, hm⟩ : ∃ m, m = n % 3 := ⟨_, rfl⟩
  have hm3 : m < 3 := by omega
  have hmi : (n : Int) % 3 = (m : Int) := by rw [hm, Int.natCast_emod]; rfl
  clear hm
  obtain ⟨N, hN⟩ : ∃ N, N = 1023 + m := ⟨_, rfl⟩
  have hNi : (1023 : Int) + (m : Int) = (N : Int) := by omega
  have hN1 : N ≤ 1025 := by omega
  have HNm := Lib.hid hN
  clear hN
  go_enter Try.func3, Try.ntmps3
  go_wp2_with fail
  go_loopw [3, 4, 15] (fun v s i wr => ∃ (k : Nat) (L : List Rec) (b : List UInt8) (sa : Option Addr) (sc : Nat), k ≤ N ∧ i = .int .i64 (k : Int) ∧ v = .slice sa k sc ∧ s = .string ⟨b.toArray⟩ ∧ Hid (L = chainC k) ∧ Hid (b = (lastF L).1) ∧ Ow wr W.heap.size 5 sa k sc (recs L) ∧ Below W.heap.size W wr) (fun _ _ i _ => N - (intOf i).toNat)
  case atStart => exact ⟨0, [], [], none, 0, by omega, rfl, rfl, rfl, rfl, rfl, Ow.nil _ _ _, Below.refl _ _⟩
  case round =>
    obtain ⟨k, L, b, sa, sc, hk, rfl, rfl, rfl, hL, hb, hO, hB⟩ := hrel
    have HL := hL
    have HB := hb
    replace hL := hL.out
    replace hb := hb.out
    by_cases hkt : k < N
    · have hbl := lastF_len L
      rw [← hb] at hbl
      obtain ⟨r, hr⟩ : ∃ r : Rec, r = ⟨(k : Int), 0, 7, [], b⟩ := ⟨_, rfl⟩
      have k2 : ∀ V, Calls Try.prog 6 #[.agg #[.int .i64 (k : Int), .int .i64 0, .int .i64 7, .string ⟨#[]⟩, .string ⟨b.toArray⟩]] V fun e' w' => e' = .returned (.string ⟨(digF r).toArray⟩) ∧ Below V.heap.size V w' := fun V => by
        have := rdig_walk r V (by rw [hr]; exact Rec.In.mk (by constructor <;> (dsimp only; omega)) (by constructor <;> (dsimp only; omega)) (by constructor <;> (dsimp only; omega))) (by rw [hr]; dsimp only; simp; omega)
        rw [hr] at this ⊢; exact this
      have hL2 : L ++ [r] = chainC (k + 1) := by rw [chainC, ← hL, hr, hb]
      have hd2 : digF r = (lastF (L ++ [r])).1 := by rw [lastF_snoc]
      have K2 := Lib.hid k2
      have HL2 := Lib.hid hL2
      have HD2 := Lib.hid hd2
      have hrc : recs (L ++ [r]) = recs L ++ [.int .i64 (k : Int), .int .i64 0, .int .i64 7, .string ⟨#[]⟩, .string ⟨b.toArray⟩] := by rw [recs_append, hr]; rfl
      have HRC := Lib.hid hrc
      generalize digF r = dg at *
      generalize L ++ [r] = L2 at *
      clear k2 hr hL hb hL2 hd2 hrc
      have hbx : Rk (wr.alloc (.cells #[.int .i64 (k : Int), .int .i64 0, .int .i64 7, .string ⟨#[]⟩, .string ⟨b.toArray⟩] 24)) wr.heap.size ⟨(k : Int), 0, 7, [], b⟩ := heap_alloc_new _ _
      have hb1 := (Below.refl wr.heap.size wr).alloc (Nat.le_refl _) (.cells #[.int .i64 (k : Int), .int .i64 0, .int .i64 7, .string ⟨#[]⟩, .string ⟨b.toArray⟩] 24)
      have hrow : ∀ j, rowOf sa = some j → j < wr.heap.size := fun j hj => (hO.row j hj).2
      replace hO := hO.keep hb1
      replace hB := hB.trans (hb1.mono hB.size)
      have hkl : (k : Int) < (N : Int) := by omega
      go_wp2_with fail
      generalize wr.alloc (.cells #[.int .i64 (k : Int), .int .i64 0, .int .i64 7, .string ⟨#[]⟩, .string ⟨b.toArray⟩] 24) = w1 at *
      clear hb1
      generalize wr.heap.size = gb at *
      have c0 := hbx.c0
      have c1 := hbx.c1
      have c2 := hbx.c2
      have c3 := hbx.c3
      have c4 := hbx.c4
      have hgl := hbx.lt
      have hne : some gb ≠ rowOf sa := fun e => by have := hrow gb e.symm; omega
      have hby : (k + 1) * 56 ≤ 140737488355328 := by omega
      replace hO : Ow w1.drew W.heap.size 5 sa k sc (recs L) := hO
      have bX : Below W.heap.size W w1.drew := hB.drew
      replace hbx : Rk w1.drew gb ⟨(k : Int), 0, 7, [], b⟩ := hbx
      clear hB
      go_region_law (first
        | (go_simp; go_at_call 6; with_reducible refine (K2.out _).mono ?_; rintro e wD ⟨rfl, hbD⟩; (try replace hO := hO.keep hbD); (try replace hO2 := hO2.keep hbD); (first | replace bX2 := bX2.trans (hbD.mono bX2.size) | replace bX := bX.trans (hbD.mono bX.size)); replace hbx := hbx.keep hbD; have e0 := hbx.c0; have e1 := hbx.c1; have e2 := hbx.c2; have e3 := hbx.c3; have e4 := hbx.c4; have hgl2 := hbx.lt)
        | (refine step_appn (w0 := W) (B := W.heap.size) rfl _ _ _ rfl el_rec rfl hO bX (Nat.le_refl _) bX.size (m := 1) (cs := [.int .i64 (k : Int), .int .i64 0, .int .i64 7, .string ⟨#[]⟩, .string ⟨b.toArray⟩]) rfl rfl ?one hby ?_; (case one => intro u hu; simp at hu; rcases hu with rfl | rfl | rfl | rfl | rfl <;> rfl); intro a2 s2 w2 hO2 bX2 hgr; replace hbx := Rk.grown hbx hgr hne; have f0 := hbx.c0; have f1 := hbx.c1; have f2 := hbx.c2; have f3 := hbx.c3; have f4 := hbx.c4; have hgl3 := hbx.lt))
      all_goals
        rw [← HRC.out] at hO2
        go_wp2_with fail
        refine ⟨?_, ?mea⟩
        · (repeat apply Exists.intro)
          refine ⟨⟨k + 1, by omega, ?num, L2, dg, a2, s2, rfl, rfl, HL2, HD2, hO2⟩, rfl, rfl, rfl, rfl, rfl⟩
          case num => go_num
        case mea => simp [intOf]; omega
    · obtain rfl : k = N := by omega
      have hLl : L.length = k := by rw [hL]; exact chainC_length k
      have hI : ∀ r ∈ L, r.In := by rw [hL]; exact chainC_in k (by omega)
      have hcc := hO.2.1
      have hrd := hO.rd
      obtain ⟨i1, e1, e2, hck, had, hcs⟩ : ∃ i1 e1 e2, checkF L = (i1, e1) ∧ addF L 1 7 [] = e2 ∧ ((m = 0 ∧ e1 = 0 ∧ e2 = 0) ∨ (m = 1 ∧ e1 = 0 ∧ e2 = 3) ∨ (m = 2 ∧ i1 = 1024 ∧ e1 = 3 ∧ e2 = 3)) := by
        have hm := HNm.out
        have hlt : (lastF L).2 = 0 := by rw [hL]; exact chainC_time k
        rcases (show m = 0 ∨ m = 1 ∨ m = 2 by omega) with rfl | rfl | rfl
        · have hr := chainC_right k (by omega)
          rw [← hL] at hr
          have hr2 : Right L L.length := by rw [hLl]; exact hr
          exact ⟨_, _, _, checkF_right hr2, addF_ok hr2 (by omega) (by rw [hlt]; omega) (by omega) (by omega) (by simp), .inl ⟨rfl, rfl, rfl⟩⟩
        · have hr := chainC_right k (by omega)
          rw [← hL] at hr
          have hr2 : Right L L.length := by rw [hLl]; exact hr
          refine ⟨_, _, _, checkF_right hr2, ?_, .inr (.inl ⟨rfl, rfl, rfl⟩)⟩
          rw [addF, checkF_right hr2, if_neg (by simp), if_neg (by rw [hlt]; omega), if_neg (by omega), if_pos (.inr (by omega))]
        · have hk5 : k = 1025 := by omega
          have ho := chainC_over
          rw [← hk5, ← hL] at ho
          refine ⟨_, _, _, ho, ?_, .inr (.inr ⟨rfl, rfl, rfl, rfl⟩)⟩
          rw [addF, ho, if_pos (by decide)]
      obtain ⟨Q, hQ⟩ : ∃ Q, Q = addL L 1 7 [] := ⟨_, rfl⟩
      have hQ0 : e2 = 0 → Q.length = k + 1 := fun h => by rw [hQ, addL, had, if_pos h, List.length_append, hLl]; rfl
      have hQ1 : e2 ≠ 0 → Q.length = 0 := fun h => by rw [hQ, addL, had, if_neg h]; rfl
      have k1 : Calls Try.prog 7 #[.slice sa k sc] wr fun e w' => e = .returned (.tuple #[.int .i64 i1, .int .i64 e1]) ∧ Below wr.heap.size wr w' := by
        have := ccheck_walk sa L sc wr hrd (by omega) (by omega) hI
        rw [hck, hLl] at this; exact this
      have k2 : ∀ V, Rd V sa (recs L) → Calls Try.prog 8 #[.slice sa k sc, .int .i64 1, .int .i64 7, .string ⟨#[]⟩] V (AddRes V e2 Q) := fun V h => by
        have := add_walk' sa L sc 1 7 [] V h (by omega) (by omega) hI
        rw [had, ← hQ, hLl] at this; exact this
      have K1 := Lib.hid k1
      have K2 := Lib.hid k2
      have HQ0 := Lib.hid hQ0
      have HQ1 := Lib.hid hQ1
      have HC := Lib.hid hcs
      have hBs := hB.size
      have HK3 := HNm
      clear k1 k2 hQ0 hQ1 hQ had hck hI hLl hO hL hb HL HB HNm hkt hcs hk
      go_wp2_with (go_at_call 7; (with_reducible refine K1.out.mono ?_))
      rintro e w2 ⟨rfl, hb2⟩
      replace hrd := hrd.keep hb2
      replace hB := hB.trans (hb2.mono hBs)
      clear hb2 K1 hBs
      go_wp2_with (go_at_call 8; (with_reducible refine (K2.out _ hrd).mono ?_))
      rintro e w3 ⟨a3, c3, rfl, hO3, hb3⟩
      replace hB := hB.trans (hb3.mono hB.size)
      clear hb3 K2 hrd hO3
      obtain ⟨q, hq⟩ : ∃ q, q = Q.length := ⟨_, rfl⟩
      have HQ := Lib.hid hq
      rw [← hq]
      clear hq
      rcases HC.out with ⟨rfl, rfl, rfl⟩ | ⟨rfl, rfl, rfl⟩ | ⟨rfl, rfl, rfl, rfl⟩
      · have hq : q = 1024 := by have := HK3.out; rw [HQ.out, HQ0.out rfl]; omega
        subst hq
        clear HQ0 HQ1 HC HQ HK3
        go_wp2_with (go_at_call 9; (with_reducible refine (awake20_walk _).mono ?_))
        rintro e w4 ⟨rfl, hb4⟩
        go_wp2
        go_ret
        exact ⟨rfl, hB.trans (hb4.mono hB.size)⟩
      · have hq : q = 0 := by rw [HQ.out, HQ1.out (by decide)]
        subst hq
        clear HQ0 HQ1 HC HQ HK3
        go_wp2_with (go_at_call 9; (with_reducible refine (awake20_walk _).mono ?_))
        rintro e w4 ⟨rfl, hb4⟩
        go_wp2
        go_ret
        exact ⟨rfl, hB.trans (hb4.mono hB.size)⟩
      · clear HQ0 HQ1 HC HQ HK3
        go_wp2_with (go_at_call 9; (with_reducible refine (awake20_walk _).mono ?_))
        rintro e w4 ⟨rfl, hb4⟩
        go_wp2
        go_ret
        exact ⟨rfl, hB.trans (hb4.mono hB.size)⟩
end Go.Proofs.Ytgjjpijcakafhaa
