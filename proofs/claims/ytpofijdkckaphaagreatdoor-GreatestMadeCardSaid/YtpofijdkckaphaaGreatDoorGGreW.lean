/- Seats: the program's Round and Needs. -/
import Derived.Test.YtpofijdkckaphaaGreatDoorGGreV
import Derived.Test.YtpofijdkckaphaaGreatDoorRegionL
namespace Go.Proofs.YtpofijdkckaphaaGreatDoor
open Go.RowKit
theorem round_at {R : List IL} {k : Nat} {x : IL} {s : Int} (hx : R[k]? = some x) (hs : s ∈ x.lst) (h : ∀ y ∈ R.take k, s ∉ y.lst) : roundP (R.map IL.lst) s = (k : Int) := by
  unfold roundP
  rw [List.findIdx?_map]
  obtain ⟨h2, h2e⟩ := List.getElem?_eq_some_iff.1 hx
  have hf : R.findIdx? ((fun r => decide (s ∈ r)) ∘ IL.lst) = some k := by
    rw [List.findIdx?_eq_some_iff_getElem]
    refine ⟨h2, by rw [h2e]; exact decide_eq_true hs, fun j hj => ?_⟩
    have := h R[j] (List.mem_take_iff_getElem.2 ⟨j, by omega, rfl⟩)
    simpa using this
  rw [hf]
theorem round_no {R : List IL} {s : Int} (h : ∀ y ∈ R, s ∉ y.lst) : roundP (R.map IL.lst) s = -1 := by
  unfold roundP
  rw [List.findIdx?_map]
  have hf : R.findIdx? ((fun r => decide (s ∈ r)) ∘ IL.lst) = none := List.findIdx?_eq_none_iff.2 (fun y hy => by simpa using h y hy)
  rw [hf]
set_option maxRecDepth 100000 in
theorem round1_clo (x : List Int) (xa : Option Addr) (xc : Nat) (g : Nat) (s : Int) (w : World) (hx : Rd w xa (ints x)) (hg : Bx w g 3 [.int .i64 s]) (hl : x.length ≤ 1000) :
    Calls Tryz.prog 51 #[.slice xa x.length xc, .pointer (some ⟨g, 0, none⟩)] w fun e w' => e = .returned (.bool (decide (s ∈ x))) ∧ w = w' := by
  have K1 := Lib.hid (icontains_walk xa x xc s w hx (by omega))
  have d0 := hg.cell 0 rfl
  clear hx hg
  go_enter Tryz.func51, Tryz.ntmps51
  go_wp2_with (go_at_call 35; (with_reducible refine K1.out.mono ?_); (first | rintro e w1 ⟨rfl, rfl⟩ | rintro e w1 rfl rfl))
  go_ret
  exact ⟨rfl, rfl⟩
set_option maxRecDepth 100000 in
set_option maxHeartbeats 2000000 in
theorem ridx_walk (R : List IL) (ra : Option Addr) (rc : Nat) (g : Nat) (s : Int) (w : World) (hR : RdL w ra R) (hg : Bx w g 3 [.int .i64 s]) (hRl : R.length ≤ 1000) (hRx : ∀ x ∈ R, x.lst.length ≤ 1000) :
    Calls Tryz.prog 50 #[.slice ra R.length rc, .func (.func 51) #[] #[.pointer (some ⟨g, 0, none⟩)]] w fun e w' => e = .returned (.int .i64 (roundP (R.map IL.lst) s)) ∧ w = w' := by
  have HRX := Lib.hid hRx
  have HG := Lib.hid hg
  clear hRx hg
  go_enter Tryz.func50, Tryz.ntmps50
  go_wp2_with fail
  go_loopw [8] (fun i wr => ∃ k : Nat, wr = w ∧ k ≤ R.length ∧ i = .int .i64 (k : Int) ∧ Hid (∀ y ∈ R.take k, s ∉ y.lst)) (fun i _ => R.length - (intOf i).toNat)
  case atStart => exact ⟨0, rfl, Nat.zero_le _, rfl, Lib.hid (by simp)⟩
  case round =>
    obtain ⟨k, rfl, hk, rfl, hA⟩ := hrel
    by_cases hkt : k < R.length
    · obtain ⟨gr, orr, x, rfl, cx, hx, hxr⟩ := hR.at hkt
      have hkl : (k : Int) < (R.length : Int) := by omega
      have K1 := Lib.hid (round1_clo x.lst x.ad x.cap g s wr hxr HG.out (HRX.out x (mem_at hx)))
      have HT : Hid (s ∉ x.lst → ∀ y ∈ R.take (k + 1), s ∉ y.lst) := Lib.hid (fun h y hy => by
        rw [take_at hx] at hy
        rcases List.mem_append.1 hy with hy | hy
        · exact hA.out y hy
        · rw [List.mem_singleton.1 hy]; exact h)
      have HF : Hid (s ∈ x.lst → roundP (R.map IL.lst) s = (k : Int)) := Lib.hid (fun h => round_at hx.out h hA.out)
      clear hA hx hR hxr
      by_cases hz : s ∈ x.lst
      · rw [decide_eq_true hz] at K1
        have HF2 := Lib.hid (HF.out hz)
        clear hz HT HF
        go_wp2_with ((with_reducible refine K1.out.mono ?_); (first | rintro e w1 ⟨rfl, rfl⟩ | rintro e w1 rfl rfl))
        go_ret
        exact ⟨by rw [HF2.out]; rfl, rfl⟩
      · rw [decide_eq_false hz] at K1
        have HT2 := Lib.hid (HT.out hz)
        clear hz HT HF
        go_wp2_with ((with_reducible refine K1.out.mono ?_); (first | rintro e w1 ⟨rfl, rfl⟩ | rintro e w1 rfl rfl))
        go_roundw
        case rel => exact ⟨k + 1, trivial, by omega, by go_num, HT2⟩
        case measure => simp [intOf]; omega
    · have hkl : ¬ (k : Int) < (R.length : Int) := by omega
      obtain rfl : k = R.length := by omega
      have hm := Lib.hid (round_no (R := R) (s := s) (by have := hA.out; rwa [List.take_length] at this))
      clear hA
      go_wp2
      go_ret
      exact ⟨by rw [hm.out]; rfl, rfl⟩
theorem rounds_small (op : Int → Bool) (HH : List Int → Int → Bool) : ∀ (f : Nat) (A : List Int) (r : List (List Int)) (n : Nat), A.length ≤ n → r.length + A.length ≤ n → (∀ x ∈ r, x.length ≤ n) → (runP op HH f A r).2.length ≤ n ∧ ∀ x ∈ (runP op HH f A r).2, x.length ≤ n := by
  intro f
  induction f with
  | zero => intro A r n _ h2 h3; exact ⟨by show r.length ≤ n; omega, h3⟩
  | succ f ih =>
    intro A r n h1 h2 h3
    rw [runP]
    split
    · exact ⟨by show r.length ≤ n; omega, h3⟩
    · rename_i hg
      have hlt := goes_lt hg
      have hgl : (goesP op HH A).length ≤ A.length := List.length_filter_le _ _
      refine ih _ _ n (by omega) (by rw [List.length_append]; simp only [List.length_singleton]; omega) (fun x hx => ?_)
      rcases List.mem_append.1 hx with hx | hx
      · exact h3 x hx
      · rw [List.mem_singleton.1 hx]; omega
theorem rounds_bound (op : Int → Bool) (HH : List Int → Int → Bool) (n : Nat) : (roundsP op HH n).length ≤ n ∧ ∀ x ∈ roundsP op HH n, x.length ≤ n :=
  rounds_small op HH (n + 1) (upI n) [] n (by rw [upI_len]; exact Nat.le_refl _) (by simp [upI_len]) (fun x hx => by simp at hx)
theorem rd_bound {R : List IL} {Q : List (List Int)} {n : Nat} (h : R.map IL.lst = Q) (hq : Q.length ≤ n ∧ ∀ x ∈ Q, x.length ≤ n) : R.length ≤ n ∧ ∀ x ∈ R, x.lst.length ≤ n := by
  subst h
  exact ⟨by simpa using hq.1, fun x hx => hq.2 _ (List.mem_map_of_mem hx)⟩
set_option maxRecDepth 100000 in
set_option maxHeartbeats 1000000 in
theorem round_walk (l : List Seat) (a : Option Addr) (c : Nat) (s : Int) (w : World) (hS : RdS w a l) (hl : l.length ≤ 32) :
    Calls Tryz.prog 27 #[.slice a l.length c, .int .i64 s] w fun e w' => e = .returned (.int .i64 (roundP (roundsP (opS l) (holdS wiF l) l.length) s)) ∧ Below w.heap.size w w' := by
  have hb0 := (Below.refl w.heap.size w).alloc (Nat.le_refl _) (.cells #[.int .i64 s] 3)
  have h1 := Bx.new w 3 [.int .i64 s]
  change Bx (w.alloc (.cells #[.int .i64 s] 3)) _ _ _ at h1
  have K1 := Lib.hid (grounds_walk l a c _ (hS.keep hb0) hl)
  have HQ := Lib.hid (rounds_bound (opS l) (holdS wiF l) l.length)
  generalize roundsP (opS l) (holdS wiF l) l.length = Q at *
  have HB := Lib.hid hb0
  have hw0 : w.heap.size = w.heap.size := rfl
  obtain ⟨g, hg⟩ : ∃ g, w.heap.size = g := ⟨_, rfl⟩
  rw [hg] at h1
  have HG := Lib.hid hg
  clear hS hb0 hw0
  go_enter Tryz.func27, Tryz.ntmps27
  go_upto_region 1 with (fail)
  try rw [hg]
  clear hg
  generalize w.alloc (.cells #[.int .i64 s] 3) = w1 at *
  go_wp2_with (first
    | (go_at_call 26; (with_reducible refine K1.out.mono ?_); (first | rintro e w2 ⟨a2, c2, R, rfl, hR2, hRQ, hb2⟩ | rintro e w2 a2 c2 R rfl hR2 hRQ hb2); have hrb := rd_bound hRQ HQ.out)
    | (go_at_call 50; (with_reducible refine (ridx_walk R a2 c2 _ s w2 hR2 (h1.keep hb2) (by omega) (fun x hx => by have := hrb.2 x hx; omega)).mono ?_); (first | rintro e w3 ⟨rfl, rfl⟩ | rintro e w3 rfl rfl)))
  go_ret
  exact ⟨by rw [← hRQ]; rfl, below_tr HB.out hb2⟩
/-- what the closure of Needs reads -/
structure EnvGn (w : World) (gs gl gt : Nat) (s : Int) (a : Option Addr) (l : List Seat) (c : Nat) (sa : Option Addr) (A : List Int) (sc : Nat) : Prop where
  bn : Bx w gs 3 [.int .i64 s]
  bl : Bx w gl 27 [.slice a l.length c]
  bt : Bx w gt 22 [.slice sa A.length sc]
  r : RdS w a l
  i : Rd w sa (ints A)
theorem EnvGn.keep {w w' : World} {gs gl gt : Nat} {s : Int} {a : Option Addr} {l : List Seat} {c : Nat} {sa : Option Addr} {A : List Int} {sc : Nat} (h : EnvGn w gs gl gt s a l c sa A sc) (hb : Below w.heap.size w w') : EnvGn w' gs gl gt s a l c sa A sc :=
  ⟨h.bn.keep hb, h.bl.keep hb, h.bt.keep hb, h.r.keep hb, h.i.keep hb⟩
theorem EnvGn.cells {w : World} {gs gl gt : Nat} {s : Int} {a : Option Addr} {l : List Seat} {c : Nat} {sa : Option Addr} {A : List Int} {sc : Nat} (h : EnvGn w gs gl gt s a l c sa A sc) : w.cell? ⟨gs, 0, none⟩ = some (.int .i64 s) ∧ w.cell? ⟨gl, 0, none⟩ = some (.slice a l.length c) ∧ w.cell? ⟨gt, 0, none⟩ = some (.slice sa A.length sc) :=
  ⟨h.bn.cell 0 rfl, h.bl.cell 0 rfl, h.bt.cell 0 rfl⟩
theorem new_int1 (w : World) (x : Int) : Rd (w.alloc (.cells #[.int .i64 x] 3)) (some ⟨w.heap.size, 0, none⟩) (ints [x]) := Rd.mk fun j u hj => by
  rw [Nat.zero_add, World.cell?_alloc_at _ _ _ _ rfl]; simpa [ints] using hj
set_option maxRecDepth 100000 in
set_option maxHeartbeats 4000000 in
theorem needs1_clo (l : List Seat) (a : Option Addr) (c : Nat) (A : List Int) (sa : Option Addr) (sc : Nat) (gs gl gt : Nat) (s : Nat) (x : Int) (w : World) (hE : EnvGn w gs gl gt (s : Int) a l c sa A sc) (hin : ∀ i ∈ A, i ∈ upI l.length) (hs : s < l.length) (hAl : A.length ≤ 1000) :
    Calls Tryz.prog 54 #[.int .i64 x, .pointer (some ⟨gs, 0, none⟩), .pointer (some ⟨gl, 0, none⟩), .pointer (some ⟨gt, 0, none⟩)] w fun e w' => e = .returned (.bool (decide (x = (s : Int)) || holdS wiF l (lessP A [x]) (s : Int))) ∧ Below w.heap.size w w' := by
  by_cases hx : x = (s : Int)
  · have d1 : (x == (s : Int)) = true := beq_iff_eq.2 hx
    rw [decide_eq_true hx, Bool.true_or]
    obtain ⟨y0, y1, y2⟩ := hE.cells
    clear hE hin hs hAl hx
    go_enter Tryz.func54, Tryz.ntmps54
    go_wp2
    go_region
    all_goals (go_wp2; go_ret)
    all_goals exact ⟨rfl, (Below.refl _ _).drew⟩
  have d1 : (x == (s : Int)) = false := by rw [beq_eq_false_iff_ne]; exact hx
  rw [decide_eq_false hx, Bool.false_or]
  have KL := Lib.hid (fun V (hV : EnvGn V gs gl gt (s : Int) a l c sa A sc) g (hg : Rd V (some ⟨g, 0, none⟩) (ints [x])) => show Calls Tryz.prog 41 #[.slice sa A.length sc, .slice (some ⟨g, 0, none⟩) 1 1] V _ from less_walk A [x] sa (some ⟨g, 0, none⟩) sc 1 V hV.i hg hAl (by simp))
  have hsub : (lessP A [x]).Sublist A := less_sub
  have KH := Lib.hid (fun V (hV : EnvGn V gs gl gt (s : Int) a l c sa A sc) a3 c3 (h3 : Rd V a3 (ints (lessP A [x]))) => gholds_walk l a c (lessP A [x]) a3 c3 s V hV.r h3 (fun i hi => hin i (hsub.subset hi)) hs (Nat.le_trans hsub.length_le hAl))
  generalize holdS wiF l (lessP A [x]) (s : Int) = hh at *
  generalize lessP A [x] = LP at *
  obtain ⟨w0, hw0⟩ : ∃ w0, w0 = w := ⟨_, rfl⟩
  have hB : Below w0.heap.size w0 w := by rw [hw0]; exact Below.refl _ _
  rw [show (fun (e : Ending) (w' : World) => e = .returned (.bool hh) ∧ Below w.heap.size w w') = fun e w' => e = .returned (.bool hh) ∧ Below w0.heap.size w0 w' by rw [hw0]]
  clear hw0 hin hs hAl hx hsub
  go_enter Tryz.func54, Tryz.ntmps54
  go_upto_region 1 with (fail)
  refine wp_region_held_last' (S := fun w' => w'.cell? ⟨gs, 0, none⟩ = some (.int .i64 (s : Int)) ∧ w'.cell? ⟨gl, 0, none⟩ = some (.slice a l.length c) ∧ w'.cell? ⟨gt, 0, none⟩ = some (.slice sa A.length sc)) 12 rfl (by kernel_rfl) (by kernel_rfl) (by kernel_rfl) hE.cells (fun hHeld => ?_)
  dsimp only [List.dropLast, List.replicate] at hHeld ⊢
  replace hE := hE.keep (Below.refl _ _).drew
  replace hB := hB.drew
  generalize w.drew = v0 at *
  refine held_take (0) (v := ?_) rfl (by kernel_rfl) (by kernel_rfl) (by kernel_rfl) (fun _ _ _ h => h) (Or.inl ⟨by rfl, ?_⟩) (by assumption) ?_
  rotate_left
  · intro w hSw
    try dsimp only at hSw
    go_simp
    with_reducible rfl
  try simp only [Act.put, List.setIfInBounds_toArray, List.set_cons_zero, List.set_cons_succ]
  refine held_take (1) (v := ?_) rfl (by kernel_rfl) (by kernel_rfl) (by kernel_rfl) (fun _ _ _ h => h) (Or.inl ⟨by rfl, ?_⟩) (by assumption) ?_
  rotate_left
  · intro w hSw
    try dsimp only at hSw
    go_simp
    with_reducible rfl
  try simp only [Act.put, List.setIfInBounds_toArray, List.set_cons_zero, List.set_cons_succ]
  refine held_take (2) (v := ?_) rfl (by kernel_rfl) (by kernel_rfl) (by kernel_rfl) (fun _ _ _ h => h) (Or.inl ⟨by rfl, ?_⟩) (by assumption) ?_
  rotate_left
  · intro w hSw
    try dsimp only at hSw
    go_simp
    with_reducible rfl
  try simp only [Act.put, List.setIfInBounds_toArray, List.set_cons_zero, List.set_cons_succ]
  refine held_take (3) (v := ?_) rfl (by kernel_rfl) (by kernel_rfl) (by kernel_rfl) (fun _ _ _ h => h) (Or.inl ⟨by rfl, ?_⟩) (by assumption) ?_
  rotate_left
  · intro w hSw
    try dsimp only at hSw
    go_simp
    with_reducible rfl
  try simp only [Act.put, List.setIfInBounds_toArray, List.set_cons_zero, List.set_cons_succ]
  refine held_take (4) (v := ?_) rfl (by kernel_rfl) (by kernel_rfl) (by kernel_rfl) (fun _ _ _ h => h) (Or.inl ⟨by rfl, ?_⟩) (by assumption) ?_
  rotate_left
  · intro w hSw
    try dsimp only at hSw
    go_simp
    with_reducible rfl
  try simp only [Act.put, List.setIfInBounds_toArray, List.set_cons_zero, List.set_cons_succ]
  refine held_take (5) (v := ?_) rfl (by kernel_rfl) (by kernel_rfl) (by kernel_rfl) (fun _ _ _ h => h) (Or.inl ⟨by rfl, ?_⟩) (by assumption) ?_
  rotate_left
  · intro w hSw
    try dsimp only at hSw
    go_simp
    with_reducible rfl
  try simp only [Act.put, List.setIfInBounds_toArray, List.set_cons_zero, List.set_cons_succ]
  refine held_take (6) (v := ?_) rfl (by kernel_rfl) (by kernel_rfl) (by kernel_rfl) (fun _ _ _ h => h) (Or.inl ⟨by rfl, ?_⟩) (by assumption) ?_
  rotate_left
  · intro w hSw
    try dsimp only at hSw
    go_simp
    with_reducible rfl
  try simp only [Act.put, List.setIfInBounds_toArray, List.set_cons_zero, List.set_cons_succ]
  refine held_take (9) (v := ?_) rfl (by kernel_rfl) (by kernel_rfl) (by kernel_rfl) (fun _ _ _ h => h) (Or.inl ⟨by rfl, ?_⟩) (by assumption) ?_
  rotate_left
  · intro w hSw
    try dsimp only at hSw
    go_simp
    with_reducible rfl
  try simp only [Act.put, List.setIfInBounds_toArray, List.set_cons_zero, List.set_cons_succ]
  refine wpAnyH_ready (rs := [7]) (by kernel_rfl) (by simp) ?_
  refine held_cons rfl (fun K hK => ?_) AllReadyH.nil
  go_simp
  have hbQ := (Below.refl v0.heap.size v0).alloc (Nat.le_refl _) (.cells #[.int .i64 x] 3)
  have hNew := new_int1 v0 x
  have hQ := hE.keep hbQ
  have hBQ := below_tr hB hbQ
  clear hbQ hE hB
  generalize v0.alloc (.cells #[.int .i64 x] 3) = v1 at *
  generalize v0.heap.size = gn at *
  refine hK.out _ _ hQ.cells (fun hHeld => ?_)
  clear hK K
  try simp only [Act.put, List.setIfInBounds_toArray, List.set_cons_zero, List.set_cons_succ]
  refine wpAnyH_ready (rs := [8]) (by kernel_rfl) (by simp) ?_
  refine held_cons rfl (fun K hK => ?_) AllReadyH.nil
  go_simp
  go_at_call 41
  (with_reducible refine (KL.out _ hQ _ hNew).mono ?_)
  (first | rintro e v2 ⟨a3, c3, rfl, hR3, hb3, -⟩ | rintro e v2 a3 c3 rfl hR3 hb3 -)
  have hE2 := hQ.keep hb3
  have hB2 := below_tr hBQ hb3
  clear hb3 hQ hBQ hNew
  go_wp2_with fail
  refine hK.out _ _ hE2.cells (fun hHeld => ?_)
  clear hK K
  try simp only [Act.put, List.setIfInBounds_toArray, List.set_cons_zero, List.set_cons_succ]
  refine wpAnyH_ready (rs := [10]) (by kernel_rfl) (by simp) ?_
  refine held_cons rfl (fun K hK => ?_) AllReadyH.nil
  go_simp
  go_at_call 36
  (with_reducible refine (KH.out _ hE2 _ _ hR3).mono ?_)
  (first | rintro e v3 rfl hb4 | rintro e v3 ⟨rfl, hb4⟩)
  have hE3 := hE2.keep hb4
  have hB3 := below_tr hB2 hb4
  clear hb4 hE2 hB2
  go_wp2_with fail
  refine hK.out _ _ hE3.cells (fun hHeld => ?_)
  clear hK K
  try simp only [Act.put, List.setIfInBounds_toArray, List.set_cons_zero, List.set_cons_succ]
  refine held_take (11) (v := ?_) rfl (by kernel_rfl) (by kernel_rfl) (by kernel_rfl) (fun _ _ _ h => h) (Or.inl ⟨by rfl, ?_⟩) (by assumption) ?_
  rotate_left
  · intro w hSw
    try dsimp only at hSw
    go_simp
    with_reducible rfl
  try simp only [Act.put, List.setIfInBounds_toArray, List.set_cons_zero, List.set_cons_succ]
  refine wpAnyH_done (by kernel_rfl) ?_ _
  dsimp only [Behind]
  have HB := Lib.hid hB3
  clear hB3 hE3 hHeld
  go_simp
  go_wp2
  go_ret
  exact ⟨rfl, HB.out⟩
set_option maxRecDepth 100000 in
set_option maxHeartbeats 2000000 in
theorem needs_walk (l : List Seat) (a : Option Addr) (c : Nat) (A : List Int) (sa : Option Addr) (sc : Nat) (s : Int) (w : World) (hS : RdS w a l) (hA : Rd w sa (ints A)) (hl : l.length ≤ 32) (hAl : A.length ≤ 1000) :
    Calls Tryz.prog 28 #[.slice a l.length c, .slice sa A.length sc, .int .i64 s] w fun e w' => ∃ a' c', e = .returned (.slice a' (needsP (holdS wiF l) l.length A s).length c') ∧ Rd w' a' (ints (needsP (holdS wiF l) l.length A s)) ∧ Below w.heap.size w w' := by
  obtain ⟨v, hv⟩ : ∃ v, v = w.alloc (.cells #[.slice a l.length c] 27) := ⟨_, rfl⟩
  obtain ⟨u, hu⟩ : ∃ u, u = v.alloc (.cells #[.slice sa A.length sc] 22) := ⟨_, rfl⟩
  obtain ⟨w1, hw1⟩ : ∃ w1, w1 = u.alloc (.cells #[.int .i64 s] 3) := ⟨_, rfl⟩
  have hb0 := (Below.refl w.heap.size w).alloc (Nat.le_refl _) (.cells #[.slice a l.length c] 27)
  have h1 := Bx.new w 27 [.slice a l.length c]
  change Bx (w.alloc (.cells #[.slice a l.length c] 27)) _ _ _ at h1
  rw [← hv] at hb0 h1
  have hb1 := (Below.refl v.heap.size v).alloc (Nat.le_refl _) (.cells #[.slice sa A.length sc] 22)
  have h2 := Bx.new v 22 [.slice sa A.length sc]
  change Bx (v.alloc (.cells #[.slice sa A.length sc] 22)) _ _ _ at h2
  rw [← hu] at hb1 h2
  have hb2 := (Below.refl u.heap.size u).alloc (Nat.le_refl _) (.cells #[.int .i64 s] 3)
  have h3 := Bx.new u 3 [.int .i64 s]
  change Bx (u.alloc (.cells #[.int .i64 s] 3)) _ _ _ at h3
  rw [← hw1] at hb2 h3
  have hE : EnvGn w1 u.heap.size w.heap.size v.heap.size s a l c sa A sc := ⟨h3, (h1.keep hb1).keep hb2, h2.keep hb2, ((hS.keep hb0).keep hb1).keep hb2, ((hA.keep hb0).keep hb1).keep hb2⟩
  have HB := Lib.hid (below_tr (below_tr hb0 hb1) hb2)
  have hs1 : v.heap.size = w.heap.size + 1 := by rw [hv]; exact Array.size_push _
  have hs2 : u.heap.size = w.heap.size + 1 + 1 := by rw [hu, ← hs1]; exact Array.size_push _
  rw [hs1, hs2] at hE
  have HW : Hid (w1 = ((w.alloc (.cells #[.slice a l.length c] 27)).alloc (.cells #[.slice sa A.length sc] 22)).alloc (.cells #[.int .i64 s] 3)) := Lib.hid (by rw [hw1, hu, hv])
  clear h1 h2 h3 hb0 hb1 hb2 hS hA hv hu hw1 hs1 hs2
  obtain ⟨y0, y1, y2⟩ := hE.cells
  have hl2 : decide ((l.length : Int) > 32) = false := decide_eq_false (by omega)
  have hl3 : ¬ (32 < l.length) := by omega
  have e1 : IntKind.i64.wrap ((l.length : Int) - 1) = (l.length : Int) - 1 := by rw [IntKind.wrap_i64] <;> omega
  have KR := Lib.hid (rising_walk l.length ((l.length : Int) - 1) sa A sc w1 rfl hE.i (by omega))
  have KC := Lib.hid (icontains_walk sa A sc s w1 hE.i (by omega))
  have KK := Lib.hid (iclone_walk sa A sc w1 hE.i (by omega))
  have hdef : needsP (holdS wiF l) l.length A s = if riseP l.length A && decide (s ∈ A) then A.filter fun i => !(decide (i = s) || holdS wiF l (lessP A [i]) s) else [] := rfl
  generalize hG : needsP (holdS wiF l) l.length A s = G at *
  clear hG
  cases hr : riseP l.length A with
  | false =>
    rw [hr] at KR hdef
    have HD : Hid (G = []) := Lib.hid hdef
    clear hdef hr hE
    go_enter Tryz.func28, Tryz.ntmps28
    go_upto_region 1 with (fail)
    rw [← HW.out]
    clear HW
    go_wp2_with (go_at_call 34; (with_reducible refine KR.out.mono ?_); rintro e w2 ⟨rfl, rfl⟩)
    go_ret
    exact ⟨none, 0, by rw [HD.out]; rfl, by rw [HD.out]; exact Rd.nil _ _, HB.out⟩
  | true =>
    rw [hr] at KR hdef
    by_cases hm : s ∈ A
    rotate_left
    · rw [decide_eq_false hm] at KC hdef
      have HD : Hid (G = []) := Lib.hid hdef
      clear hdef hr hE hm
      go_enter Tryz.func28, Tryz.ntmps28
      go_upto_region 1 with (fail)
      rw [← HW.out]
      clear HW
      go_wp2_with (first
        | (go_at_call 34; (with_reducible refine KR.out.mono ?_); rintro e w2 ⟨rfl, rfl⟩)
        | (go_at_call 35; (with_reducible refine KC.out.mono ?_); (first | rintro e w3 ⟨rfl, rfl⟩ | rintro e w3 rfl rfl)))
      go_ret
      exact ⟨none, 0, by rw [HD.out]; rfl, by rw [HD.out]; exact Rd.nil _ _, HB.out⟩
    rw [decide_eq_true hm] at KC hdef
    have HD : Hid (G = A.filter fun i => !(decide (i = s) || holdS wiF l (lessP A [i]) s)) := Lib.hid hdef
    have hin := rise_mem hr
    have hsu := mem_upI.1 (hin s hm)
    obtain ⟨k, rfl⟩ : ∃ k : Nat, s = (k : Int) := ⟨s.toNat, by omega⟩
    have hk : k < l.length := by omega
    have KD : Hid (∀ V a' c', Below w1.heap.size w1 V → Ow V w1.heap.size 1 a' A.length c' (ints A) → Calls Tryz.prog 52 #[.slice a' A.length c', .func (.func 54) #[] #[.pointer (some ⟨w.heap.size + 1 + 1, 0, none⟩), .pointer (some ⟨w.heap.size, 0, none⟩), .pointer (some ⟨w.heap.size + 1, 0, none⟩)]] V (fun e w' => e = .returned (.slice a' G.length c') ∧ Rd w' a' (ints G) ∧ Below w1.heap.size V w')) := Lib.hid (fun V a' c' hv hO => by
      have h := ndel_walk (fun i => decide (i = (k : Int)) || holdS wiF l (lessP A [i]) (k : Int)) w1.heap.size a' A c' (w.heap.size + 1 + 1) w.heap.size (w.heap.size + 1) V hv.size (fun x hx w2 hw2 => needs1_clo l a c A sa sc _ _ _ k x w2 (hE.keep (hv.trans hw2)) hin hk hAl) hO (by omega)
      rw [HD.out]
      exact h)
    clear hdef hr hE hm hin hsu HD
    go_enter Tryz.func28, Tryz.ntmps28
    go_upto_region 1 with (fail)
    rw [← HW.out]
    clear HW
    generalize w.heap.size + 1 + 1 = g2 at *
    generalize w.heap.size + 1 = g1 at *
    go_wp2_with (first
      | (go_at_call 34; (with_reducible refine KR.out.mono ?_); rintro e w2 ⟨rfl, rfl⟩)
      | (go_at_call 35; (with_reducible refine KC.out.mono ?_); (first | rintro e w3 ⟨rfl, rfl⟩ | rintro e w3 rfl rfl))
      | (go_at_call 53; (with_reducible refine KK.out.mono ?_); (first | rintro e w4 ⟨a4, c4, rfl, hO4, hb4⟩ | rintro e w4 a4 c4 rfl hO4 hb4))
      | (go_at_call 52; (with_reducible refine (KD.out _ _ _ hb4 hO4).mono ?_); (first | rintro e w5 ⟨rfl, hR5, hb5⟩ | rintro e w5 rfl hR5 hb5)))
    go_ret
    exact ⟨a4, c4, rfl, hR5, below_tr HB.out (hb4.trans hb5)⟩
end Go.Proofs.YtpofijdkckaphaaGreatDoor
