/- Rings of keys: what explains one. -/
import Derived.Test.YtbjpmkoiabkcbaaGreatDoorGRateE
namespace Go.Proofs.YtbjpmkoiabkcbaaGreatDoor
open Go.RowKit
/-- the numbers of the other members -/
def restL (C Z : List Int) (me n : Nat) : List Int := (List.range n).flatMap fun i => if i = me then [] else [C.getD i 0, Z.getD i 0]
theorem restL_me (C Z : List Int) (me : Nat) : restL C Z me (me + 1) = restL C Z me me := by
  rw [restL, List.range_succ, List.flatMap_append]; simp [restL]
theorem restL_other {C Z : List Int} {me n : Nat} (h : n ≠ me) : restL C Z me (n + 1) = restL C Z me n ++ [C.getD n 0, Z.getD n 0] := by
  rw [restL, List.range_succ, List.flatMap_append]; simp [restL, h]
theorem restL_len (C Z : List Int) (me n : Nat) : (restL C Z me n).length ≤ 2 * n := by
  induction n with
  | zero => simp [restL]
  | succ n ih =>
    by_cases h : n = me
    · subst h; rw [restL_me]; omega
    · rw [restL_other h, List.length_append]; simp; omega
/-- a list that is returned, and an error -/
def ListRes (w : World) (L : List Int) (e : Int) : Ending → World → Prop := fun en w' =>
  ∃ b d, en = .returned (.tuple #[.slice b L.length d, .int .i64 e]) ∧ Rd w' b (ints L) ∧ L.length ≤ d ∧ Below w.heap.size w w'
/-- what explains a ring, and the error -/
def expF (p : Nat) (keys : List Int) (me secret : Int) (text : List UInt8) (C Z : List Int) : List Int × Int :=
  if allowF p keys me secret ≠ 0 then ([], allowF p keys me secret)
  else if verF p keys text C Z = false then ([], 44)
  else ((Z.getD me.toNat 0 - C.getD me.toNat 0 * secret % p) % p :: restL C Z me.toNat keys.length, 0)
theorem allow_ok {p : Nat} {keys : List Int} {me secret : Int} (h : allowF p keys me secret = 0) : keysOk p keys = true ∧ (0 ≤ me ∧ me < keys.length) ∧ (0 ≤ secret ∧ secret < p) ∧ ((gpw p 4 secret : Nat) : Int) = keys.getD me.toNat 0 := by
  unfold allowF at h
  split at h
  · cases h
  split at h
  · cases h
  split at h
  · cases h
  rename_i h1 h2 h3
  refine ⟨by cases hk : keysOk p keys with | true => rfl | false => exact absurd hk h1, Classical.byContradiction fun hn => h2 hn, Classical.byContradiction fun hn => h3 (.inl hn), Classical.byContradiction fun hn => h3 (.inr hn)⟩
theorem ver_ok {p : Nat} {keys : List Int} {text : List UInt8} {C Z : List Int} (h : verF p keys text C Z = true) : keysOk p keys = true ∧ C.length = keys.length ∧ Z.length = keys.length ∧ elsF p C = true ∧ elsF p Z = true ∧ sumF p C = rchF p keys (comsI p keys C Z keys.length) text := by
  simp only [verF, Bool.and_eq_true, decide_eq_true_eq, beq_iff_eq] at h
  exact h
theorem Ow.lit1 (w : World) (base : Nat) (e : TypeId) (v : Value) (h : base ≤ w.heap.size) : Ow ((w.alloc (.cells #[v] e)).drew) base 1 (some ⟨w.heap.size, 0, none⟩) 1 1 [v] := by
  have hX : Bx ((w.alloc (.cells #[v] e)).drew) w.heap.size e [v] := (Bx.new w e [v]).drew
  refine ⟨by simp, Nat.le_refl _, by decide, .inr ⟨w.heap.size, 0, rfl, h, hX.lt, fun j u hj => ?_, fun j hj => ?_⟩⟩
  · rw [Nat.zero_add]; exact hX.cell j hj
  · obtain rfl : j = 0 := by omega
    exact ⟨by rw [hX.cell 0 rfl]; simp, hX.free _⟩
set_option maxRecDepth 100000 in
set_option maxHeartbeats 8000000 in
theorem explain_walk (p : Nat) (a : Option Addr) (keys : List Int) (cap : Nat) (me secret : Int) (text : List UInt8) (ca : Option Addr) (C : List Int) (cc : Nat) (za : Option Addr) (Z : List Int) (zc : Nat) (w : World) (hB : Bases w) (hs : safeP (p : Int) = true)
    (hR : Rd w a (ints keys)) (hl : keys.length ≤ 281474976710656) (hRC : Rd w ca (ints C)) (hCl : C.length ≤ 281474976710656) (hRZ : Rd w za (ints Z)) (hZl : Z.length ≤ 281474976710656) (ht : text.length ≤ 1000000) :
    Calls Tryz.prog 8 #[.int .i64 (p : Int), .slice a keys.length cap, .int .i64 me, .int .i64 secret, .string ⟨text.toArray⟩, .agg #[.slice ca C.length cc, .slice za Z.length zc]] w (ListRes w (expF p keys me secret text C Z).1 (expF p keys me secret text C Z).2) := by
  obtain ⟨h3, h30, -⟩ := safeP_bd hs
  have KA := Lib.hid (fun V h hV => allowed_walk p a keys cap me secret V h hs hV hl)
  have KV := Lib.hid (fun V h h1 h2 h3 => verify_walk p a keys cap text ca C cc za Z zc V h hs h1 hl h2 hCl h3 hZl ht)
  clear hs
  obtain ⟨gb, hgb⟩ : ∃ gb, gb = w.heap.size := ⟨_, rfl⟩
  have hb0 := (Below.refl w.heap.size w).alloc (Nat.le_refl _) (.cells #[.slice ca C.length cc, .slice za Z.length zc] 24)
  have hG := Bx.new w 24 [.slice ca C.length cc, .slice za Z.length zc]
  rw [← hgb] at hG
  have HGB := Lib.hid hgb
  have hgw : w.heap.size = gb := hgb.symm
  clear hgb
  change Bx (w.alloc (.cells #[.slice ca C.length cc, .slice za Z.length zc] 24)) _ _ _ at hG
  obtain ⟨ae, hae⟩ : ∃ e, e = allowF p keys me secret := ⟨_, rfl⟩
  rw [← hae] at KA
  go_enter Tryz.func8, Tryz.ntmps8
  go_upto_region 1 with (fail)
  generalize w.alloc (.cells #[.slice ca C.length cc, .slice za Z.length zc] 24) = w0 at *
  clear hgw
  have hBw := hB.keep hb0
  have hRw := hR.keep hb0
  go_wp2_with (go_at_call 19; (with_reducible refine (KA.out _ hBw hRw).mono ?_))
  rintro e w1 ⟨rfl, hb1⟩
  replace hb0 := below_tr hb0 hb1
  replace hG := hG.keep hb1
  clear hb1 hBw hRw KA
  by_cases hz : ae = 0
  rotate_left
  · have t1 : (ae != 0) = true := by rw [bne_iff_ne]; exact hz
    have HE := Lib.hid (show expF p keys me secret text C Z = ([], ae) by rw [expF, if_pos (by rw [← hae]; exact hz), hae])
    clear hz hae
    go_wp2
    go_ret2
    rw [HE.out]
    exact ⟨none, 0, rfl, Rd.nil _ _, Nat.le_refl _, hb0⟩
  have t1 : (ae != 0) = false := by rw [bne_eq_false_iff_eq]; exact hz
  obtain ⟨-, ⟨hme0, hme1⟩, ⟨hsc0, hsc1⟩, -⟩ := allow_ok (hae.symm.trans hz)
  have HAE := Lib.hid (hae.symm.trans hz)
  clear hz hae
  obtain ⟨vb, hvb⟩ : ∃ b, b = verF p keys text C Z := ⟨_, rfl⟩
  rw [← hvb] at KV
  have HVB := Lib.hid hvb
  clear hvb
  have hBw := hB.keep hb0
  have hRw := hR.keep hb0
  have hRCw := hRC.keep hb0
  have hRZw := hRZ.keep hb0
  have g0 := hG.cell 0 (v := .slice ca C.length cc) rfl
  have g1 := hG.cell 1 (v := .slice za Z.length zc) rfl
  go_wp2_with (go_at_call 9; (with_reducible refine (KV.out _ hBw hRw hRCw hRZw).mono ?_))
  rintro e w3 ⟨rfl, hb3⟩
  have hB2 := below_tr hb0 hb3
  replace hG := hG.keep hb3
  clear hb3 hb0 hBw hRw hRCw hRZw KV g0 g1
  cases vb with
  | false =>
    have HE := Lib.hid (show expF p keys me secret text C Z = ([], 44) by rw [expF, if_neg (fun h => h HAE.out), if_pos HVB.out.symm])
    clear hG
    go_wp2
    go_ret2
    rw [HE.out]
    exact ⟨none, 0, rfl, Rd.nil _ _, Nat.le_refl _, hB2⟩
  | true =>
    obtain ⟨hko, hC, hZ, heC, heZ, -⟩ := ver_ok HVB.out.symm
    obtain ⟨hkn, -⟩ := keysOk_bd hko
    have HC := Lib.hid hC
    have HZ := Lib.hid hZ
    have HCE := Lib.hid (elsF_all heC)
    have HZE := Lib.hid (elsF_all heZ)
    obtain ⟨j, rfl, hj⟩ : ∃ j : Nat, me = (j : Int) ∧ j < keys.length := ⟨me.toNat, by omega, by omega⟩
    obtain ⟨g1, o1, x, rfl, -, hx1⟩ := hRC.int (k := j) (by rw [hC]; exact hj)
    obtain ⟨g2, o2, z, rfl, -, hx2⟩ := hRZ.int (k := j) (by rw [hZ]; exact hj)
    have hxb := HCE.out x (mem_at hx1)
    have hzb := HZE.out z (mem_at hx2)
    have hji : (j : Int) < (keys.length : Int) := by omega
    rw [hC, hZ] at hG
    have HSS := Lib.hid (fun V (hV : Bx V gb 24 [.slice (some ⟨g1, o1, none⟩) keys.length cc, .slice (some ⟨g2, o2, none⟩) keys.length zc]) (hb : Below w.heap.size w V) => (show V.cell? ⟨gb, 0, none⟩ = some (.slice (some ⟨g1, o1, none⟩) keys.length cc) ∧ V.cell? ⟨gb, 1, none⟩ = some (.slice (some ⟨g2, o2, none⟩) keys.length zc) ∧ V.cell? ⟨g1, o1 + j, none⟩ = some (.int .i64 x) ∧ V.cell? ⟨g2, o2 + j, none⟩ = some (.int .i64 z) from by
      refine ⟨hV.cell 0 rfl, hV.cell 1 rfl, ?_, ?_⟩
      · obtain ⟨g', off', x', e, hc, hx'⟩ := (hRC.keep hb).int (k := j) (by rw [HC.out]; exact hj)
        cases e
        rw [← same_at hx1 hx']; exact hc
      · obtain ⟨g', off', x', e, hc, hx'⟩ := (hRZ.keep hb).int (k := j) (by rw [HZ.out]; exact hj)
        cases e
        rw [← same_at hx2 hx']; exact hc))
    have hm0 : 0 ≤ x * secret := Int.mul_nonneg hxb.1 hsc0
    have hm1 : x * secret < 9223372036854775808 := by
      have := Int.mul_le_mul (Int.le_of_lt hxb.2) (Int.le_of_lt hsc1) hsc0 (by omega)
      have h5 : (p : Int) * (p : Int) ≤ 1073741824 * 1073741824 := Int.mul_le_mul h30 h30 (by omega) (by omega)
      omega
    have hmm0 := Int.emod_nonneg (x * secret) (show (p : Int) ≠ 0 by omega)
    have hmm1 := Int.emod_lt_of_pos (x * secret) (show (0 : Int) < (p : Int) by omega)
    have KMU := Lib.hid (fun V => mul_walk (p : Int) x secret V (by omega) h30 hm0 hm1)
    have HHD : Hid ((Z.getD j 0 - C.getD j 0 * secret % p) % p = (z - x * secret % p) % p) := Lib.hid (by
      rw [show Z.getD j 0 = z by rw [List.getD, hx2.out]; rfl, show C.getD j 0 = x by rw [List.getD, hx1.out]; rfl])
    obtain ⟨xs, hxs⟩ : ∃ t, t = x * secret % (p : Int) := ⟨_, rfl⟩
    rw [← hxs] at KMU HHD hmm0 hmm1
    have KSU := Lib.hid (fun V => fsub_walk (p : Int) z xs V (by omega) h30 (by omega) (by omega))
    obtain ⟨hd, hhd⟩ : ∃ t, t = (z - xs) % (p : Int) := ⟨_, rfl⟩
    rw [← hhd] at KSU HHD
    have hGB : w.heap.size ≤ gb := Nat.le_of_eq HGB.out.symm
    have HE := Lib.hid (show expF p keys (j : Int) secret text C Z = (hd :: restL C Z j keys.length, 0) by
      rw [expF, if_neg (fun h => h HAE.out), if_neg (by rw [← HVB.out]; decide), Int.toNat_natCast, HHD.out])
    clear hko hC hZ heC heZ hx1 hx2 hxb hzb hm0 hm1 hmm0 hmm1 hxs hhd HHD hme0 hme1 hsc0 hsc1
    go_upto_region 6 with (fail)
    --R6
    refine wp_region_held_last' (S := fun w' => w'.cell? ⟨gb, 0, none⟩ = some (.slice (some ⟨g1, o1, none⟩) keys.length cc) ∧ w'.cell? ⟨gb, 1, none⟩ = some (.slice (some ⟨g2, o2, none⟩) keys.length zc) ∧ w'.cell? ⟨g1, o1 + j, none⟩ = some (.int .i64 x) ∧ w'.cell? ⟨g2, o2 + j, none⟩ = some (.int .i64 z)) 16 rfl (by kernel_rfl) (by kernel_rfl) (by kernel_rfl) (HSS.out _ (hG.keep (Below.refl _ _).drew) (below_tr hB2 (Below.refl _ _).drew)) (fun hHeld => ?_)
    dsimp only [List.dropLast, List.replicate] at hHeld ⊢
    refine held_take (0) (v := ?_) rfl (by kernel_rfl) (by kernel_rfl) (by kernel_rfl) (fun _ _ _ h => h) (Or.inl ⟨by rfl, ?_⟩) (by assumption) ?_
    rotate_left
    · intro w hSw
      try dsimp only at hSw
      go_simp
      with_reducible rfl
    try simp only [Act.put, List.setIfInBounds_toArray, List.set_cons_zero, List.set_cons_succ]
    refine held_take (1) (v := ?_) rfl (by kernel_rfl) (by kernel_rfl) (by kernel_rfl) (fun _ _ _ h => h) (Or.inl ⟨by rfl, ?_⟩) (by assumption) ?_
    rotate_left
    · intro w hSw
      try dsimp only at hSw
      go_simp
      with_reducible rfl
    try simp only [Act.put, List.setIfInBounds_toArray, List.set_cons_zero, List.set_cons_succ]
    refine held_take (2) (v := ?_) rfl (by kernel_rfl) (by kernel_rfl) (by kernel_rfl) (fun _ _ _ h => h) (Or.inl ⟨by rfl, ?_⟩) (by assumption) ?_
    rotate_left
    · intro w hSw
      try dsimp only at hSw
      go_simp
      with_reducible rfl
    try simp only [Act.put, List.setIfInBounds_toArray, List.set_cons_zero, List.set_cons_succ]
    refine held_take (3) (v := ?_) rfl (by kernel_rfl) (by kernel_rfl) (by kernel_rfl) (fun _ _ _ h => h) (Or.inl ⟨by rfl, ?_⟩) (by assumption) ?_
    rotate_left
    · intro w hSw
      try dsimp only at hSw
      go_simp
      with_reducible rfl
    try simp only [Act.put, List.setIfInBounds_toArray, List.set_cons_zero, List.set_cons_succ]
    refine held_take (4) (v := ?_) rfl (by kernel_rfl) (by kernel_rfl) (by kernel_rfl) (fun _ _ _ h => h) (Or.inl ⟨by rfl, ?_⟩) (by assumption) ?_
    rotate_left
    · intro w hSw
      try dsimp only at hSw
      go_simp
      with_reducible rfl
    try simp only [Act.put, List.setIfInBounds_toArray, List.set_cons_zero, List.set_cons_succ]
    refine held_take (5) (v := ?_) rfl (by kernel_rfl) (by kernel_rfl) (by kernel_rfl) (fun _ _ _ h => h) (Or.inl ⟨by rfl, ?_⟩) (by assumption) ?_
    rotate_left
    · intro w hSw
      try dsimp only at hSw
      go_simp
      with_reducible rfl
    try simp only [Act.put, List.setIfInBounds_toArray, List.set_cons_zero, List.set_cons_succ]
    refine held_take (6) (v := ?_) rfl (by kernel_rfl) (by kernel_rfl) (by kernel_rfl) (fun _ _ _ h => h) (Or.inl ⟨by rfl, ?_⟩) (by assumption) ?_
    rotate_left
    · intro w hSw
      try dsimp only at hSw
      go_simp
      with_reducible rfl
    try simp only [Act.put, List.setIfInBounds_toArray, List.set_cons_zero, List.set_cons_succ]
    refine held_take (7) (v := ?_) rfl (by kernel_rfl) (by kernel_rfl) (by kernel_rfl) (fun _ _ _ h => h) (Or.inl ⟨by rfl, ?_⟩) (by assumption) ?_
    rotate_left
    · intro w hSw
      try dsimp only at hSw
      go_simp
      with_reducible rfl
    try simp only [Act.put, List.setIfInBounds_toArray, List.set_cons_zero, List.set_cons_succ]
    refine held_take (8) (v := ?_) rfl (by kernel_rfl) (by kernel_rfl) (by kernel_rfl) (fun _ _ _ h => h) (Or.inl ⟨by rfl, ?_⟩) (by assumption) ?_
    rotate_left
    · intro w hSw
      try dsimp only at hSw
      go_simp
      with_reducible rfl
    try simp only [Act.put, List.setIfInBounds_toArray, List.set_cons_zero, List.set_cons_succ]
    refine held_take (9) (v := ?_) rfl (by kernel_rfl) (by kernel_rfl) (by kernel_rfl) (fun _ _ _ h => h) (Or.inl ⟨by rfl, ?_⟩) (by assumption) ?_
    rotate_left
    · intro w hSw
      try dsimp only at hSw
      go_simp
      with_reducible rfl
    try simp only [Act.put, List.setIfInBounds_toArray, List.set_cons_zero, List.set_cons_succ]
    refine held_take (10) (v := ?_) rfl (by kernel_rfl) (by kernel_rfl) (by kernel_rfl) (fun _ _ _ h => h) (Or.inl ⟨by rfl, ?_⟩) (by assumption) ?_
    rotate_left
    · intro w hSw
      try dsimp only at hSw
      go_simp
      with_reducible rfl
    try simp only [Act.put, List.setIfInBounds_toArray, List.set_cons_zero, List.set_cons_succ]
    refine held_take (11) (v := ?_) rfl (by kernel_rfl) (by kernel_rfl) (by kernel_rfl) (fun _ _ _ h => h) (Or.inl ⟨by rfl, ?_⟩) (by assumption) ?_
    rotate_left
    · intro w hSw
      try dsimp only at hSw
      go_simp
      with_reducible rfl
    try simp only [Act.put, List.setIfInBounds_toArray, List.set_cons_zero, List.set_cons_succ]
    refine held_take (12) (v := ?_) rfl (by kernel_rfl) (by kernel_rfl) (by kernel_rfl) (fun _ _ _ h => h) (Or.inl ⟨by rfl, ?_⟩) (by assumption) ?_
    rotate_left
    · intro w hSw
      try dsimp only at hSw
      go_simp
      with_reducible rfl
    try simp only [Act.put, List.setIfInBounds_toArray, List.set_cons_zero, List.set_cons_succ]
    refine wpAnyH_ready (rs := [13]) (by kernel_rfl) (by simp) ?_
    refine held_cons rfl (fun K hK => ?_) AllReadyH.nil
    go_simp
    go_at_call 27
    (with_reducible refine (KMU.out _).mono ?_)
    first | rintro e wN rfl rfl | rintro e wN ⟨rfl, rfl⟩
    go_wp2_with fail
    refine hK.out _ _ (HSS.out _ (hG.keep (Below.refl _ _).drew) (below_tr hB2 (Below.refl _ _).drew)) (fun hHeld => ?_)
    clear hK K
    try simp only [Act.put, List.setIfInBounds_toArray, List.set_cons_zero, List.set_cons_succ]
    refine wpAnyH_ready (rs := [14]) (by kernel_rfl) (by simp) ?_
    refine held_cons rfl (fun K hK => ?_) AllReadyH.nil
    go_simp
    go_at_call 23
    (with_reducible refine (KSU.out _).mono ?_)
    first | rintro e wN rfl rfl | rintro e wN ⟨rfl, rfl⟩
    go_wp2_with fail
    refine hK.out _ _ (HSS.out _ (hG.keep (Below.refl _ _).drew) (below_tr hB2 (Below.refl _ _).drew)) (fun hHeld => ?_)
    clear hK K
    try simp only [Act.put, List.setIfInBounds_toArray, List.set_cons_zero, List.set_cons_succ]
    refine wpAnyH_ready (rs := [15]) (by kernel_rfl) (by simp) ?_
    refine held_cons rfl (fun K hK => ?_) AllReadyH.nil
    go_simp
    have hbL := ((Below.refl w3.heap.size w3).alloc (Nat.le_refl _) (.cells #[.int .i64 hd] 3)).drew
    refine hK.out _ _ (HSS.out _ (hG.keep hbL) (below_tr hB2 hbL)) (fun hHeld => ?_)
    clear hK K
    try simp only [Act.put, List.setIfInBounds_toArray, List.set_cons_zero, List.set_cons_succ]
    refine wpAnyH_done (by kernel_rfl) ?_ _
    dsimp only [Behind]
    go_simp
    --/R6
    have hO := Ow.lit1 w3 (gb + 1) 3 (.int .i64 hd) (by have := hG.lt; omega)
    have hb4 := ((Below.refl w3.heap.size w3).alloc (Nat.le_refl _) (.cells #[.int .i64 hd] 3)).drew
    replace hB2 := below_tr hB2 hb4
    replace hG := hG.keep hb4
    generalize (w3.alloc (.cells #[.int .i64 hd] 3)).drew = w4 at *
    generalize w3.heap.size = gl at *
    clear hb4 HSS KMU KSU
    go_wp2_with fail
    go_loopw [15, 49] (fun v i wr => ∃ (k : Nat) (a' : Option Addr) (c' : Nat) (LL : List Int), k ≤ keys.length ∧ i = .int .i64 (k : Int) ∧ v = .slice a' LL.length c' ∧ Hid (LL = hd :: restL C Z j k) ∧ Ow wr (gb + 1) 1 a' LL.length c' (ints LL) ∧ Bx wr gb 24 [.slice (some ⟨g1, o1, none⟩) keys.length cc, .slice (some ⟨g2, o2, none⟩) keys.length zc] ∧ Below w.heap.size w wr) (fun _ i _ => keys.length - (intOf i).toNat)
    case atStart => exact ⟨0, some ⟨gl, 0, none⟩, 1, [hd], by omega, rfl, rfl, Lib.hid rfl, hO, hG, hB2⟩
    case round =>
      clear hO hG hB2
      obtain ⟨k, a', c', LL, hk, rfl, rfl, hLL, hO, hG, hB2⟩ := hrel
      have hLn : LL.length ≤ 2 * k + 1 := by
        have := restL_len C Z j k
        rw [hLL.out, List.length_cons]; omega
      by_cases hkt : k < keys.length
      · have hkl : (k : Int) < (keys.length : Int) := by omega
        by_cases hkj : k = j
        · subst hkj
          have t5 : ((k : Int) != (k : Int)) = false := by simp
          have HL2 : Hid (LL = hd :: restL C Z k (k + 1)) := Lib.hid (by rw [restL_me]; exact hLL.out)
          clear hLL
          go_wp2_with fail
          go_roundw
          case rel => exact ⟨k + 1, a', c', LL, by omega, by go_num, rfl, HL2, hO, hG, hB2⟩
          case measure => simp [intOf]; omega
        · have t5 : ((k : Int) != (j : Int)) = true := by rw [bne_iff_ne]; omega
          have HNE := Lib.hid hkj
          obtain ⟨g1', o1', x, hca, -, hx1⟩ := (hRC.keep hB2).int (k := k) (by rw [HC.out]; exact hkt)
          obtain ⟨g2', o2', z, hza, -, hx2⟩ := (hRZ.keep hB2).int (k := k) (by rw [HZ.out]; exact hkt)
          cases hca
          cases hza
          have HX1 := Lib.hid (show C.getD k 0 = x by rw [List.getD, hx1.out]; rfl)
          have HX2 := Lib.hid (show Z.getD k 0 = z by rw [List.getD, hx2.out]; rfl)
          have HSS := Lib.hid (fun V (hV : Bx V gb 24 [.slice (some ⟨g1, o1, none⟩) keys.length cc, .slice (some ⟨g2, o2, none⟩) keys.length zc]) (hb : Below w.heap.size w V) => (show V.cell? ⟨gb, 0, none⟩ = some (.slice (some ⟨g1, o1, none⟩) keys.length cc) ∧ V.cell? ⟨gb, 1, none⟩ = some (.slice (some ⟨g2, o2, none⟩) keys.length zc) ∧ V.cell? ⟨g1, o1 + k, none⟩ = some (.int .i64 x) ∧ V.cell? ⟨g2, o2 + k, none⟩ = some (.int .i64 z) from by
            refine ⟨hV.cell 0 rfl, hV.cell 1 rfl, ?_, ?_⟩
            · obtain ⟨g', off', x', e, hc, hx'⟩ := (hRC.keep hb).int (k := k) (by rw [HC.out]; exact hkt)
              cases e
              rw [← same_at hx1 hx']; exact hc
            · obtain ⟨g', off', x', e, hc, hx'⟩ := (hRZ.keep hb).int (k := k) (by rw [HZ.out]; exact hkt)
              cases e
              rw [← same_at hx2 hx']; exact hc))
          have HL2 : Hid (LL ++ [x, z] = hd :: restL C Z j (k + 1)) := Lib.hid (by
            rw [restL_other hkj, HX1.out, HX2.out, hLL.out]; rfl)
          clear hLL hx1 hx2 hkj
          go_upto_region 11 with (fail)
          --R11
          refine wp_region_held_last' (S := fun w' => w'.cell? ⟨gb, 0, none⟩ = some (.slice (some ⟨g1, o1, none⟩) keys.length cc) ∧ w'.cell? ⟨gb, 1, none⟩ = some (.slice (some ⟨g2, o2, none⟩) keys.length zc) ∧ w'.cell? ⟨g1, o1 + k, none⟩ = some (.int .i64 x) ∧ w'.cell? ⟨g2, o2 + k, none⟩ = some (.int .i64 z)) 13 rfl (by kernel_rfl) (by kernel_rfl) (by kernel_rfl) (HSS.out _ (hG.keep (Below.refl _ _).drew) (below_tr hB2 (Below.refl _ _).drew)) (fun hHeld => ?_)
          dsimp only [List.dropLast, List.replicate] at hHeld ⊢
          replace hO := hO.keep (Below.refl _ _).drew
          replace hB2 := below_tr hB2 (Below.refl _ _).drew
          replace hG := hG.drew
          refine held_take (0) (v := ?_) rfl (by kernel_rfl) (by kernel_rfl) (by kernel_rfl) (fun _ _ _ h => h) (Or.inl ⟨by rfl, ?_⟩) (by assumption) ?_
          rotate_left
          · intro w hSw
            try dsimp only at hSw
            go_simp
            with_reducible rfl
          try simp only [Act.put, List.setIfInBounds_toArray, List.set_cons_zero, List.set_cons_succ]
          refine held_take (1) (v := ?_) rfl (by kernel_rfl) (by kernel_rfl) (by kernel_rfl) (fun _ _ _ h => h) (Or.inl ⟨by rfl, ?_⟩) (by assumption) ?_
          rotate_left
          · intro w hSw
            try dsimp only at hSw
            go_simp
            with_reducible rfl
          try simp only [Act.put, List.setIfInBounds_toArray, List.set_cons_zero, List.set_cons_succ]
          refine held_take (2) (v := ?_) rfl (by kernel_rfl) (by kernel_rfl) (by kernel_rfl) (fun _ _ _ h => h) (Or.inl ⟨by rfl, ?_⟩) (by assumption) ?_
          rotate_left
          · intro w hSw
            try dsimp only at hSw
            go_simp
            with_reducible rfl
          try simp only [Act.put, List.setIfInBounds_toArray, List.set_cons_zero, List.set_cons_succ]
          refine held_take (3) (v := ?_) rfl (by kernel_rfl) (by kernel_rfl) (by kernel_rfl) (fun _ _ _ h => h) (Or.inl ⟨by rfl, ?_⟩) (by assumption) ?_
          rotate_left
          · intro w hSw
            try dsimp only at hSw
            go_simp
            with_reducible rfl
          try simp only [Act.put, List.setIfInBounds_toArray, List.set_cons_zero, List.set_cons_succ]
          refine held_take (4) (v := ?_) rfl (by kernel_rfl) (by kernel_rfl) (by kernel_rfl) (fun _ _ _ h => h) (Or.inl ⟨by rfl, ?_⟩) (by assumption) ?_
          rotate_left
          · intro w hSw
            try dsimp only at hSw
            go_simp
            with_reducible rfl
          try simp only [Act.put, List.setIfInBounds_toArray, List.set_cons_zero, List.set_cons_succ]
          refine held_take (5) (v := ?_) rfl (by kernel_rfl) (by kernel_rfl) (by kernel_rfl) (fun _ _ _ h => h) (Or.inl ⟨by rfl, ?_⟩) (by assumption) ?_
          rotate_left
          · intro w hSw
            try dsimp only at hSw
            go_simp
            with_reducible rfl
          try simp only [Act.put, List.setIfInBounds_toArray, List.set_cons_zero, List.set_cons_succ]
          refine held_take (6) (v := ?_) rfl (by kernel_rfl) (by kernel_rfl) (by kernel_rfl) (fun _ _ _ h => h) (Or.inl ⟨by rfl, ?_⟩) (by assumption) ?_
          rotate_left
          · intro w hSw
            try dsimp only at hSw
            go_simp
            with_reducible rfl
          try simp only [Act.put, List.setIfInBounds_toArray, List.set_cons_zero, List.set_cons_succ]
          refine held_take (7) (v := ?_) rfl (by kernel_rfl) (by kernel_rfl) (by kernel_rfl) (fun _ _ _ h => h) (Or.inl ⟨by rfl, ?_⟩) (by assumption) ?_
          rotate_left
          · intro w hSw
            try dsimp only at hSw
            go_simp
            with_reducible rfl
          try simp only [Act.put, List.setIfInBounds_toArray, List.set_cons_zero, List.set_cons_succ]
          refine held_take (8) (v := ?_) rfl (by kernel_rfl) (by kernel_rfl) (by kernel_rfl) (fun _ _ _ h => h) (Or.inl ⟨by rfl, ?_⟩) (by assumption) ?_
          rotate_left
          · intro w hSw
            try dsimp only at hSw
            go_simp
            with_reducible rfl
          try simp only [Act.put, List.setIfInBounds_toArray, List.set_cons_zero, List.set_cons_succ]
          refine held_take (9) (v := ?_) rfl (by kernel_rfl) (by kernel_rfl) (by kernel_rfl) (fun _ _ _ h => h) (Or.inl ⟨by rfl, ?_⟩) (by assumption) ?_
          rotate_left
          · intro w hSw
            try dsimp only at hSw
            go_simp
            with_reducible rfl
          try simp only [Act.put, List.setIfInBounds_toArray, List.set_cons_zero, List.set_cons_succ]
          refine held_take (10) (v := ?_) rfl (by kernel_rfl) (by kernel_rfl) (by kernel_rfl) (fun _ _ _ h => h) (Or.inl ⟨by rfl, ?_⟩) (by assumption) ?_
          rotate_left
          · intro w hSw
            try dsimp only at hSw
            go_simp
            with_reducible rfl
          try simp only [Act.put, List.setIfInBounds_toArray, List.set_cons_zero, List.set_cons_succ]
          refine wpAnyH_ready (rs := [11]) (by kernel_rfl) (by simp) ?_
          refine held_cons rfl (fun K hK => ?_) AllReadyH.nil
          go_simp
          have hbL := (Below.refl wr.drew.heap.size wr.drew).alloc (Nat.le_refl _) (.cells #[.int .i64 x, .int .i64 z] 3)
          refine hK.out _ _ (HSS.out _ (hG.keep hbL) (below_tr hB2 hbL)) (fun hHeld => ?_)
          clear hK K
          try simp only [Act.put, List.setIfInBounds_toArray, List.set_cons_zero, List.set_cons_succ]
          refine wpAnyH_ready (rs := [12]) (by kernel_rfl) (by simp) ?_
          refine held_cons rfl (fun K hK => ?_) AllReadyH.nil
          refine step_appn (w0 := w) (B := w.heap.size) (base := gb + 1) rfl _ _ _ rfl elI4 rfl hO hB2 (by omega) (by have := hG.lt; omega) (m := 2) (cs := [_, _]) rfl rfl (by intro u hu; simp at hu; rcases hu with rfl | rfl <;> rfl) (by omega) ?_
          intro a2 c2 wA hO8 hb8 hg8
          have hG2 := hG.grown hg8 (fun e => by have := (hO.row gb e.symm).1; omega)
          refine hK.out _ _ (HSS.out _ hG2 hb8) (fun hHeld => ?_)
          clear hK K
          try simp only [Act.put, List.setIfInBounds_toArray, List.set_cons_zero, List.set_cons_succ]
          refine wpAnyH_done (by kernel_rfl) ?_ _
          dsimp only [Behind]
          go_simp
          clear hO hG hB2
          go_wp2_with fail
          go_roundw
          case rel => exact ⟨k + 1, a2, c2, LL ++ [x, z], by omega, by go_num, by rw [List.length_append]; rfl, HL2, by rw [List.length_append, ints, List.map_append]; exact hO8, hG2, hb8⟩
          case measure => simp [intOf]; omega
          --/R11
      · have hkl : ¬ (k : Int) < (keys.length : Int) := by omega
        obtain rfl : k = keys.length := by omega
        have hLR := hO.rd
        have HCC := Lib.hid hO.2.1
        clear hG hO
        go_wp2
        go_ret2
        rw [HE.out]
        rw [← hLL.out]
        exact ⟨a', c', rfl, hLR, HCC.out, hB2⟩
end Go.Proofs.YtbjpmkoiabkcbaaGreatDoor
