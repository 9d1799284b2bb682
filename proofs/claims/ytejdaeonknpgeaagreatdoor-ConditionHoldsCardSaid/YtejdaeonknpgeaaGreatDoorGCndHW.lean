/- The law ConditionHolds walked. -/
import Derived.Test.YtejdaeonknpgeaaGreatDoorGCndW
import Derived.Test.YtejdaeonknpgeaaGreatDoorGCndO
import Derived.Test.YtejdaeonknpgeaaGreatDoorGCndOe
import Derived.Test.YtejdaeonknpgeaaGreatDoorGCndHD
import Derived.Test.YtejdaeonknpgeaaGreatDoorGCndHE
namespace Go.Proofs.YtejdaeonknpgeaaGreatDoor
open Go.RowKit
abbrev Cnd := Option Addr × Nat × List Trm
def slV (e : Cnd) : Value := .slice e.1 e.2.2.length e.2.1
/-- behind the last throw of the dice -/
structure Hs (W w : World) (gx : Nat) (xs : List Cnd) (la : Option Addr) (M : List Mem) (ra : Option Addr) (Q : List Mem) : Prop where
  b : Below W.heap.size W w
  x : Bx w gx 34 (xs.map slV)
  cx : ∀ e ∈ xs, Cn w e.1 e.2.1 e.2.2
  m : RdM w la M
  q : RdM w ra Q
/-- with a condition -/
structure Hc (W w : World) (gx : Nat) (xs : List Cnd) (la : Option Addr) (M : List Mem) (ra : Option Addr) (Q : List Mem) (gc : Nat) (xa : Option Addr) (xc : Nat) (X : List Trm) : Prop where
  s : Hs W w gx xs la M ra Q
  c : Bx w gc 34 [.slice xa X.length xc]
  n : Cn w xa xc X
/-- with the two lists, and one of them -/
structure Hm (W w : World) (gx : Nat) (xs : List Cnd) (la : Option Addr) (M : List Mem) (ra : Option Addr) (Q : List Mem) (gc : Nat) (xa : Option Addr) (xc : Nat) (X : List Trm) (gl : Nat) (cl : List Value) : Prop where
  h : Hc W w gx xs la M ra Q gc xa xc X
  l : Bx w gl 23 cl
section
variable {W w w' : World} {gx : Nat} {xs : List Cnd} {la : Option Addr} {M : List Mem} {ra : Option Addr} {Q : List Mem} {gc : Nat} {xa : Option Addr} {xc : Nat} {X : List Trm} {gl : Nat} {cl : List Value}
theorem Hs.keep (h : Hs W w gx xs la M ra Q) (hb : Below w.heap.size w w') : Hs W w' gx xs la M ra Q := ⟨h.b.trans (hb.mono h.b.size), h.x.keep hb, fun e he => (h.cx e he).keep hb, h.m.keep hb, h.q.keep hb⟩
theorem Hs.at' (h : Hs W w gx xs la M ra Q) {i : Nat} (hx : xs[i]? = some (xa, xc, X)) : w.cell? ⟨gx, i, none⟩ = some (.slice xa X.length xc) ∧ Cn w xa xc X :=
  ⟨h.x.cell i (by rw [List.getElem?_map, hx]; rfl), h.cx _ (List.mem_of_getElem? hx)⟩
theorem Hc.keep (h : Hc W w gx xs la M ra Q gc xa xc X) (hb : Below w.heap.size w w') : Hc W w' gx xs la M ra Q gc xa xc X := ⟨h.s.keep hb, h.c.keep hb, h.n.keep hb⟩
theorem Hm.keep (h : Hm W w gx xs la M ra Q gc xa xc X gl cl) (hb : Below w.heap.size w w') : Hm W w' gx xs la M ra Q gc xa xc X gl cl := ⟨h.h.keep hb, h.l.keep hb⟩
end
theorem mod_any (n : Int) (m : Nat) (hm : m ≤ 1000000) (w : World) : Calls Tryz.prog 10 #[.int .i64 n, .int .i64 ((m : Int) + 1)] w fun e w' => e = .returned (.int .i64 (n % ((m : Int) + 1))) ∧ w = w' := dmod_walk n ((m : Int) + 1) w (by omega) (by omega)
set_option maxRecDepth 100000 in
set_option maxHeartbeats 16000000 in
theorem holds17_walk (W : World) (p : Option Addr) (l : List Int) (cap : Nat) (hR : Rd W p (ints l)) (hS : Spc W) (hl : l.length ≤ 17592186043904) (ra : Option Addr) (Q : List Mem) (rc : Nat) (hQ : RdM W ra Q) (hQl : Q.length ≤ 281474976710656) (tm me : Int) :
    Calls Tryz.prog 3 #[.slice p l.length cap, .slice ra Q.length rc, .int .i64 tm, .int .i64 me] W fun e w' => e = .returned (.bool true) ∧ Below W.heap.size W w' := by
  have HS := Lib.hid hS
  have HQ := Lib.hid hQ
  clear hS hQ
  have KA := Lib.hid (fun V => awake17 V)
  go_enter Tryz.func3, Tryz.ntmps3
  by_cases hq : l.length ≤ 500
  rotate_left
  · have hd5 : decide (l.length ≤ 500) = false := decide_eq_false hq
    clear hq
    go_wp2_with (first | (go_at_call 4; (with_reducible refine (light_walk _ _ _ _ (by omega)).mono ?_); (first | rintro e w1 rfl rfl | rintro e w1 ⟨rfl, rfl⟩)) | (go_at_call 5; (with_reducible refine (KA.out _).mono ?_); (first | rintro e w2 rfl hb2 | rintro e w2 ⟨rfl, hb2⟩)))
    go_ret
    exact ⟨rfl, hb2⟩
  have hd5 : decide (l.length ≤ 500) = true := decide_eq_true hq
  by_cases h12 : Q.length ≤ 12
  rotate_left
  · have e1 : decide ((Q.length : Int) > 12) = true := decide_eq_true (by omega)
    have e2 : decide (12 < Q.length) = true := decide_eq_true (by omega)
    clear hq h12
    go_wp2_with (first | (go_at_call 4; (with_reducible refine (light_walk _ _ _ _ (by omega)).mono ?_); (first | rintro e w1 rfl rfl | rintro e w1 ⟨rfl, rfl⟩)) | (go_at_call 5; (with_reducible refine (KA.out _).mono ?_); (first | rintro e w2 rfl hb2 | rintro e w2 ⟨rfl, hb2⟩)))
    go_ret
    exact ⟨rfl, hb2⟩
  have e1 : decide ((Q.length : Int) > 12) = false := decide_eq_false (by omega)
  have e2 : decide (12 < Q.length) = false := decide_eq_false (by omega)
  go_upto_region 4 with (go_at_call 4; (with_reducible refine (light_walk _ _ _ _ (by omega)).mono ?_); (first | rintro e w1 rfl rfl | rintro e w1 ⟨rfl, rfl⟩))
  have HR := Lib.hid hR
  have hl48 : l.length ≤ 281474976710656 := by omega
  have HQ12 := Lib.hid h12
  clear hd5 e1 e2 h12 hq hl hR
  go_loopw [33] (fun iv wr => ∃ i : Nat, i ≤ Q.length ∧ iv = .int .i64 (i : Int) ∧ Below W.heap.size W wr) (fun iv _ => Q.length - (intOf iv).toNat)
  case atStart => exact ⟨0, Nat.zero_le _, rfl, Below.refl _ _⟩
  case round =>
    obtain ⟨i, hi, rfl, hB⟩ := hrel
    by_cases hit : i < Q.length
    · have hil : (i : Int) < (Q.length : Int) := by omega
      obtain ⟨g', o', y, rfl, hy, ⟨x0, x1, x2, x3, x4⟩, -, hIy⟩ := (HQ.out.keep hB).mem (k := i) hit
      have hbL := (Below.refl wr.heap.size wr).alloc (Nat.le_refl _) (.cells #[.string ⟨y.person.toArray⟩, .int .i64 y.number, .int .i64 y.dept, .int .i64 y.day, .slice y.aa y.ans.length y.ac] 28)
      have hY := Bx.new wr 28 [.string ⟨y.person.toArray⟩, .int .i64 y.number, .int .i64 y.dept, .int .i64 y.day, .slice y.aa y.ans.length y.ac]
      change Bx (wr.alloc (.cells #[.string ⟨y.person.toArray⟩, .int .i64 y.number, .int .i64 y.dept, .int .i64 y.day, .slice y.aa y.ans.length y.ac] 28)) _ _ _ at hY
      have hB1 := hB.trans (hbL.mono hB.size)
      have hyl : y.ans.length ≤ 9223372036854775807 := by have := hIy.2.2.2; omega
      clear hbL hy hB hIy
      go_upto_region 6 with (fail)
      generalize wr.alloc (.cells #[.string ⟨y.person.toArray⟩, .int .i64 y.number, .int .i64 y.dept, .int .i64 y.day, .slice y.aa y.ans.length y.ac] 28) = w2 at *
      generalize wr.heap.size = gy at *
      clear x0 x1 x2 x3 x4
      have q4 := hY.cell 4 rfl
      have HB1 := Lib.hid hB1
      clear hY hB1
      by_cases h10 : y.ans.length ≤ 10
      · have e1 : decide ((y.ans.length : Int) > 10) = false := decide_eq_false (by omega)
        have e2 : decide (10 < y.ans.length) = false := decide_eq_false (by omega)
        go_wp2_with fail
        go_roundw
        case rel => exact ⟨i + 1, by omega, by go_num, HB1.out⟩
        case measure => simp [intOf]; omega
      · have e1 : decide ((y.ans.length : Int) > 10) = true := decide_eq_true (by omega)
        have e2 : decide (10 < y.ans.length) = true := decide_eq_true (by omega)
        go_wp2_with (go_at_call 5; (with_reducible refine (KA.out _).mono ?_); (first | rintro e w3 rfl hb3 | rintro e w3 ⟨rfl, hb3⟩))
        go_ret
        exact ⟨rfl, below_tr HB1.out hb3⟩
    have hil : ¬ (i : Int) < (Q.length : Int) := by omega
    obtain rfl : i = Q.length := by omega
    obtain ⟨db, hdb⟩ : ∃ db, db = wr.heap.size := ⟨_, rfl⟩
    have HDB := Lib.hid hdb
    have HB0 := Lib.hid hB
    clear hdb hB
    go_upto_region 10 with (go_at_call 6; (with_reducible refine (roll_walk _ _ _ _).mono ?_); (first | rintro e w1 rfl hD hb1 | rintro e w1 ⟨rfl, hD, hb1⟩))
    rw [← HDB.out] at hD ⊢
    have hb0 := HB0.out.trans (hb1.mono HB0.out.size)
    have hE : Env W w1 db p l cap 0 := ⟨hD, HR.out.keep hb0, hb0⟩
    have hWd : W.heap.size ≤ db := by rw [HDB.out]; exact HB0.out.size
    clear hD hb1 hb0 HDB HB0
    have KM : Hid (Calls Tryz.prog 7 #[.pointer (some ⟨db, 0, none⟩), .int .i64 7] w1 (MemRes W w1 db p l cap 7)) := Lib.hid (kmems_walk W db p l cap 0 7 w1 hl48 (by omega) hE hWd HR.out)
    clear hE
    go_upto_region 12 with (first
      | (go_at_call 7; (with_reducible refine KM.out.mono ?_); (first | rintro e w2 ⟨M, la, lc, q2, rfl, hMl, hE2, hM2, -⟩ | rintro e w2 M la lc q2 rfl hMl hE2 hM2 -); clear KM; have KC : Hid (Calls Tryz.prog 8 #[.pointer (some ⟨db, 0, none⟩), .int .i64 4] w2 _) := Lib.hid (kcond_walk2 W db p l cap q2 4 w2 hl48 (by omega) (by omega) hE2 hWd HR.out))
      | (go_at_call 8; (with_reducible refine KC.out.mono ?_); (first | rintro e w3 ⟨C, ta, tc, q3, rfl, hGC, hCl, hE3, hCC, hk3⟩ | rintro e w3 C ta tc q3 rfl hGC hCl hE3 hCC hk3)))
    have hz4 : szK 4 ≤ 40 := by decide
    have HCl := Lib.hid (show 1 ≤ C.length ∧ C.length ≤ 40 by omega)
    have hM3 := hM2.kp hk3
    have zb := (Below.refl w3.heap.size w3).alloc (Nat.le_refl _) (.cells #[.slice ta C.length tc] 34)
    have z1 := Bx.new w3 34 [.slice ta C.length tc]
    change Bx (w3.alloc (.cells #[.slice ta C.length tc] 34)) _ _ _ at z1
    have hE4 := hE3.keep zb
    have hC4 := hCC.keep zb
    have hM4 := hM3.keep zb
    have hg13 : db < w3.heap.size := hE3.dice.lt
    have hargs : ∀ t ∈ C, t.args.length ≤ 900 := fun t ht => by
      have h1 := hGC [] [] rfl
      simp only [List.nil_append, List.append_nil, Nat.zero_add] at h1
      obtain ⟨j, hj⟩ := List.mem_iff_getElem?.1 ht
      have := (growT_len C 4 0 _ h1).2 j (Nat.zero_le _) (List.getElem?_eq_some_iff.1 hj).1 t hj
      omega
    have HARG := Lib.hid hargs
    have HMl := Lib.hid hMl
    clear hE2 hM2 hE3 hCC hM3 zb hk3 hGC hCl hz4 hargs hMl KC
    generalize w3.alloc (.cells #[.slice ta C.length tc] 34) = w4 at *
    generalize w3.heap.size = g13 at *
    refine wp_region_held_drew (S := fun w' => w'.cell? ⟨g13, 0, none⟩ = some (.slice ta C.length tc)) (by kernel_rfl) ((z1.keep (Below.refl _ _).drew).cell 0 rfl) (fun hHeld => ?_)
    simp only [List.size_toArray, List.length_cons, List.length_nil]
    have hE := hE4.keep (Below.refl _ _).drew
    have hC := hC4.keep (Below.refl _ _).drew
    have hM := hM4.keep (Below.refl _ _).drew
    replace z1 := z1.keep (Below.refl _ _).drew
    clear hE4 hC4 hM4
    generalize w4.drew = v0 at *
    replace hHeld := id hHeld
    refine held_take (0) (v := ?_) rfl (by kernel_rfl) (by kernel_rfl) (by kernel_rfl) (fun _ _ _ h => h) (Or.inl ⟨by rfl, ?_⟩) (by assumption) ?_
    rotate_left
    · intro w hSw
      try dsimp only at hSw
      go_simp
      with_reducible rfl
    try simp only [Act.put, List.setIfInBounds_toArray, List.set_cons_zero, List.set_cons_succ]
    refine held_take (1) (v := ?_) rfl (by kernel_rfl) (by kernel_rfl) (by kernel_rfl) (fun _ _ _ h => h) (Or.inl ⟨by rfl, ?_⟩) (by assumption) ?_
    rotate_left
    · intro w hSw
      try dsimp only at hSw
      go_simp
      with_reducible rfl
    try simp only [Act.put, List.setIfInBounds_toArray, List.set_cons_zero, List.set_cons_succ]
    refine held_take (2) (v := ?_) rfl (by kernel_rfl) (by kernel_rfl) (by kernel_rfl) (fun _ _ _ h => h) (Or.inl ⟨by rfl, ?_⟩) (by assumption) ?_
    rotate_left
    · intro w hSw
      try dsimp only at hSw
      go_simp
      with_reducible rfl
    try simp only [Act.put, List.setIfInBounds_toArray, List.set_cons_zero, List.set_cons_succ]
    refine held_take (6) (v := ?_) rfl (by kernel_rfl) (by kernel_rfl) (by kernel_rfl) (fun _ _ _ h => h) (Or.inl ⟨by rfl, ?_⟩) (by assumption) ?_
    rotate_left
    · intro w hSw
      try dsimp only at hSw
      go_simp
      with_reducible rfl
    try simp only [Act.put, List.setIfInBounds_toArray, List.set_cons_zero, List.set_cons_succ]
    refine wpAnyH_ready (rs := [3]) (by kernel_rfl) (by simp) ?_
    refine held_cons rfl (fun K hK => ?_) AllReadyH.nil
    go_simp
    have KO := Lib.hid (odd_walk W db p l cap q3 C ta tc v0 hl48 hE hWd HR.out hC (by have := HCl.out; omega) (by have := HCl.out; omega) HARG.out)
    go_at_call 9
    (with_reducible refine KO.out.mono ?_)
    (first | rintro e v1 ⟨Od, oa, oc, q4, rfl, hO, -, hE5, hk⟩ | rintro e v1 Od oa oc q4 rfl hO - hE5 hk)
    have n1 : Cn v1 ta tc C := ⟨hC.d.r.kp hk (fun j hj e => by have := hC.d.a j hj; have e' : j = db := e; omega) (fun t ht j hj e => by have := hC.d.t t ht j hj; have e' : j = db := e; omega), hC.c, by have := HCl.out; omega⟩
    have xb := z1.kp hk (fun e => by have e' : g13 = db := e; omega)
    have hm := (hM.kp hk).r
    have hw0 := hE5.below
    clear hE hC hM hE5 hk KO z1
    go_wp2_with fail
    refine hK.out _ _ (xb.cell 0 rfl) (fun hHeld => ?_)
    clear hK K
    try simp only [Act.put, List.setIfInBounds_toArray, List.set_cons_zero, List.set_cons_succ]
    refine wpAnyH_ready (rs := [4]) (by kernel_rfl) (by simp) ?_
    refine held_cons rfl (fun K hK => ?_) AllReadyH.nil
    go_simp
    have hba := (Below.refl v1.heap.size v1).alloc (Nat.le_refl _) (.cells #[.slice ta C.length tc, .slice oa Od.length oc] 34)
    have zx := Bx.new v1 34 [.slice ta C.length tc, .slice oa Od.length oc]
    change Bx (v1.alloc (.cells #[.slice ta C.length tc, .slice oa Od.length oc] 34)) _ _ _ at zx
    obtain ⟨xs, hxs⟩ : ∃ xs : List Cnd, xs = [(ta, tc, C), (oa, oc, Od)] := ⟨_, rfl⟩
    have hS : Hs W (v1.alloc (.cells #[.slice ta C.length tc, .slice oa Od.length oc] 34)) v1.heap.size xs la M ra Q := by
      refine ⟨hw0.trans (hba.mono hw0.size), by rw [hxs]; exact zx, fun e he => ?_, hm.keep hba, (HQ.out.keep hw0).keep hba⟩
      rw [hxs] at he
      simp only [List.mem_cons, List.not_mem_nil, or_false] at he
      rcases he with rfl | rfl
      · exact n1.keep hba
      · exact hO.keep hba
    have xb2 := xb.keep hba
    have hx2 : xs.length = 2 := by rw [hxs]; rfl
    clear hba zx xb n1 hO hxs hm
    generalize v1.alloc (.cells #[.slice ta C.length tc, .slice oa Od.length oc] 34) = v2 at *
    generalize v1.heap.size = gx at *
    refine hK.out _ _ (xb2.cell 0 rfl) (fun hHeld => ?_)
    clear hK K
    try simp only [Act.put, List.setIfInBounds_toArray, List.set_cons_zero, List.set_cons_succ]
    refine held_take (5) (v := ?_) rfl (by kernel_rfl) (by kernel_rfl) (by kernel_rfl) (fun _ _ _ h => h) (Or.inl ⟨by rfl, ?_⟩) (by assumption) ?_
    rotate_left
    · intro w hSw
      try dsimp only at hSw
      go_simp
      with_reducible rfl
    try simp only [Act.put, List.setIfInBounds_toArray, List.set_cons_zero, List.set_cons_succ]
    refine wpAnyH_done (by kernel_rfl) ?_ _
    clear hHeld hw0 xb2
    go_simp
    go_wp2_with fail
    have HX2 := Lib.hid hx2
    clear hx2
    go_loopw [55] (fun iv wr => ∃ i : Nat, i ≤ 2 ∧ iv = .int .i64 (i : Int) ∧ Hs W wr gx xs la M ra Q) (fun iv _ => 2 - (intOf iv).toNat)
    case atStart => exact ⟨0, Nat.zero_le _, rfl, hS⟩
    case round =>
      clear hS
      obtain ⟨i, hi, rfl, hS⟩ := hrel
      by_cases hit : i < 2
      rotate_left
      · have hil : ¬ (i : Int) < 2 := by omega
        have HSw := Lib.hid hS.b
        clear hS
        go_wp2_with (go_at_call 5; (with_reducible refine (KA.out _).mono ?_); (first | rintro e w8 rfl hb8 | rintro e w8 ⟨rfl, hb8⟩))
        go_ret
        exact ⟨rfl, below_tr HSw.out hb8⟩
      have hil : (i : Int) < 2 := by omega
      obtain ⟨⟨xa, xc, X⟩, hx⟩ : ∃ e, xs[i]? = some e := ⟨_, List.getElem?_eq_getElem (by have := HX2.out; omega)⟩
      obtain ⟨cx, hX⟩ := hS.at' hx
      have hXl := hX.l
      have HXl := Lib.hid hXl
      have hb7 := (Below.refl wr.heap.size wr).alloc (Nat.le_refl _) (.cells #[.slice xa X.length xc] 34)
      have z7 := Bx.new wr 34 [.slice xa X.length xc]
      change Bx (wr.alloc (.cells #[.slice xa X.length xc] 34)) _ _ _ at z7
      have hH : Hc W (wr.alloc (.cells #[.slice xa X.length xc] 34)) gx xs la M ra Q wr.heap.size xa xc X := ⟨hS.keep hb7, z7, hX.keep hb7⟩
      clear hS hX hb7 hx z7 hXl
      go_upto_region 15 with (fail)
      clear cx
      generalize wr.alloc (.cells #[.slice xa X.length xc] 34) = w5 at *
      generalize wr.heap.size = gc at *
      have hb8 := (Below.refl w5.heap.size w5).alloc (Nat.le_refl _) (.cells #[.slice la M.length lc, .slice ra Q.length rc] 23)
      have z8 := Bx.new w5 23 [.slice la M.length lc, .slice ra Q.length rc]
      change Bx (w5.alloc (.cells #[.slice la M.length lc, .slice ra Q.length rc] 23)) _ _ _ at z8
      have hm0 : Hm W (w5.alloc (.cells #[.slice la M.length lc, .slice ra Q.length rc] 23)) gx xs la M ra Q gc xa xc X w5.heap.size [.slice la M.length lc, .slice ra Q.length rc] := ⟨hH.keep hb8, z8⟩
      clear hH hb8 z8
      go_upto_region 16 with (fail)
      generalize w5.alloc (.cells #[.slice la M.length lc, .slice ra Q.length rc] 23) = w6 at *
      generalize w5.heap.size = gl at *
      obtain ⟨cl, hcl⟩ : ∃ cl, cl = [Value.slice la M.length lc, .slice ra Q.length rc] := ⟨_, rfl⟩
      rw [← hcl] at hm0
      have HCL := Lib.hid hcl
      clear hcl
      go_loopw [63] (fun jv wx => ∃ j : Nat, j ≤ 2 ∧ jv = .int .i64 (j : Int) ∧ Hm W wx gx xs la M ra Q gc xa xc X gl cl) (fun jv _ => 2 - (intOf jv).toNat)
      case atStart => exact ⟨0, Nat.zero_le _, rfl, hm0⟩
      case round =>
        clear hm0
        obtain ⟨j, hj, rfl, hm⟩ := hrel
        by_cases hjt : j < 2
        rotate_left
        · have hjl : ¬ (j : Int) < 2 := by omega
          have hH := hm.h
          clear hm
          go_upto_region 31 with (fail)
          have K7 : Hid (∀ V, Hc W V gx xs la M ra Q gc xa xc X → Calls Tryz.prog 17 #[.agg #[.slice xa X.length xc]] V fun e w' => e = .returned (.bool (rightC X)) ∧ Below V.heap.size V w') := Lib.hid (fun V hV => cvalid_walk X xa xc V hV.n.r (by have := hV.n.l; omega))
          have K8 : Hid (∀ V, Hc W V gx xs la M ra Q gc xa xc X → Calls Tryz.prog 18 #[.agg #[.slice xa X.length xc]] V fun e w' => e = .returned (.bool (rightC X)) ∧ Below V.heap.size V w') := Lib.hid (fun V hV => rvalid_walk X xa xc V hV.n.l hV.n.r (HS.out.keep hV.s.b))
          have K9 : Hid (∀ V, Hc W V gx xs la M ra Q gc xa xc X → Calls Tryz.prog 19 #[.agg #[.slice xa X.length xc]] V fun e w' => e = .returned (.int .i64 (leastF X)) ∧ Below V.heap.size V w') := Lib.hid (fun V hV => cleast_walk X xa xc V hV.n.r (by have := hV.n.l; omega))
          have K0 : Hid (∀ V, Hc W V gx xs la M ra Q gc xa xc X → Calls Tryz.prog 20 #[.agg #[.slice xa X.length xc]] V fun e w' => e = .returned (.int .i64 (leastF X)) ∧ Below V.heap.size V w') := Lib.hid (fun V hV => rcleast_walk X xa xc V hV.n.r hV.n.l (HS.out.keep hV.s.b))
          generalize rightC X = f4 at *
          generalize leastF X = f5 at *
          refine wp_region_held_drew (S := fun w' => w'.cell? ⟨gc, 0, none⟩ = some (.slice xa X.length xc)) (by kernel_rfl) ((hH.keep (Below.refl _ _).drew).c.cell 0 rfl) (fun hHeld => ?_)
          simp only [List.size_toArray, List.length_cons, List.length_nil]
          replace hH := hH.keep (Below.refl _ _).drew
          generalize wr.drew = u0 at *
          replace hHeld := id hHeld
          refine held_take (0) (v := ?_) rfl (by kernel_rfl) (by kernel_rfl) (by kernel_rfl) (fun _ _ _ h => h) (Or.inl ⟨by rfl, ?_⟩) (by assumption) ?_
          rotate_left
          · intro w hSw
            try dsimp only at hSw
            go_simp
            with_reducible rfl
          try simp only [Act.put, List.setIfInBounds_toArray, List.set_cons_zero, List.set_cons_succ]
          refine held_take (2) (v := ?_) rfl (by kernel_rfl) (by kernel_rfl) (by kernel_rfl) (fun _ _ _ h => h) (Or.inl ⟨by rfl, ?_⟩) (by assumption) ?_
          rotate_left
          · intro w hSw
            try dsimp only at hSw
            go_simp
            with_reducible rfl
          try simp only [Act.put, List.setIfInBounds_toArray, List.set_cons_zero, List.set_cons_succ]
          refine wpAnyH_ready (rs := [1]) (by kernel_rfl) (by simp) ?_
          refine held_cons rfl (fun K hK => ?_) AllReadyH.nil
          go_simp
          go_at_call 17
          (with_reducible refine (K7.out _ hH).mono ?_)
          (first | rintro e u1 rfl hb | rintro e u1 ⟨rfl, hb⟩)
          replace hH := hH.keep hb
          clear hb
          go_wp2_with fail
          refine hK.out _ _ (hH.c.cell 0 rfl) (fun hHeld => ?_)
          clear hK K
          try simp only [Act.put, List.setIfInBounds_toArray, List.set_cons_zero, List.set_cons_succ]
          refine wpAnyH_ready (rs := [3]) (by kernel_rfl) (by simp) ?_
          refine held_cons rfl (fun K hK => ?_) AllReadyH.nil
          go_simp
          go_at_call 18
          (with_reducible refine (K8.out _ hH).mono ?_)
          (first | rintro e u2 rfl hb | rintro e u2 ⟨rfl, hb⟩)
          replace hH := hH.keep hb
          clear hb
          go_wp2_with fail
          refine hK.out _ _ (hH.c.cell 0 rfl) (fun hHeld => ?_)
          clear hK K
          try simp only [Act.put, List.setIfInBounds_toArray, List.set_cons_zero, List.set_cons_succ]
          refine held_take (4) (v := ?_) rfl (by kernel_rfl) (by kernel_rfl) (by kernel_rfl) (fun _ _ _ h => h) (Or.inl ⟨by rfl, ?_⟩) (by assumption) ?_
          rotate_left
          · intro w hSw
            try dsimp only at hSw
            go_simp
            with_reducible rfl
          try simp only [Act.put, List.setIfInBounds_toArray, List.set_cons_zero, List.set_cons_succ]
          refine held_take (5) (v := ?_) rfl (by kernel_rfl) (by kernel_rfl) (by kernel_rfl) (fun _ _ _ h => h) (Or.inl ⟨by rfl, ?_⟩) (by assumption) ?_
          rotate_left
          · intro w hSw
            try dsimp only at hSw
            go_simp
            with_reducible rfl
          try simp only [Act.put, List.setIfInBounds_toArray, List.set_cons_zero, List.set_cons_succ]
          refine held_take (6) (v := ?_) rfl (by kernel_rfl) (by kernel_rfl) (by kernel_rfl) (fun _ _ _ h => h) (Or.inl ⟨by rfl, ?_⟩) (by assumption) ?_
          rotate_left
          · intro w hSw
            try dsimp only at hSw
            go_simp
            with_reducible rfl
          try simp only [Act.put, List.setIfInBounds_toArray, List.set_cons_zero, List.set_cons_succ]
          refine held_take (8) (v := ?_) rfl (by kernel_rfl) (by kernel_rfl) (by kernel_rfl) (fun _ _ _ h => h) (Or.inl ⟨by rfl, ?_⟩) (by assumption) ?_
          rotate_left
          · intro w hSw
            try dsimp only at hSw
            go_simp
            with_reducible rfl
          try simp only [Act.put, List.setIfInBounds_toArray, List.set_cons_zero, List.set_cons_succ]
          refine wpAnyH_ready (rs := [7]) (by kernel_rfl) (by simp) ?_
          refine held_cons rfl (fun K hK => ?_) AllReadyH.nil
          go_simp
          go_at_call 19
          (with_reducible refine (K9.out _ hH).mono ?_)
          (first | rintro e u3 rfl hb | rintro e u3 ⟨rfl, hb⟩)
          replace hH := hH.keep hb
          clear hb
          go_wp2_with fail
          refine hK.out _ _ (hH.c.cell 0 rfl) (fun hHeld => ?_)
          clear hK K
          try simp only [Act.put, List.setIfInBounds_toArray, List.set_cons_zero, List.set_cons_succ]
          refine wpAnyH_ready (rs := [9]) (by kernel_rfl) (by simp) ?_
          refine held_cons rfl (fun K hK => ?_) AllReadyH.nil
          go_simp
          go_at_call 20
          (with_reducible refine (K0.out _ hH).mono ?_)
          (first | rintro e u4 rfl hb | rintro e u4 ⟨rfl, hb⟩)
          replace hH := hH.keep hb
          clear hb
          go_wp2_with fail
          refine hK.out _ _ (hH.c.cell 0 rfl) (fun hHeld => ?_)
          clear hK K
          try simp only [Act.put, List.setIfInBounds_toArray, List.set_cons_zero, List.set_cons_succ]
          refine held_take (10) (v := ?_) rfl (by kernel_rfl) (by kernel_rfl) (by kernel_rfl) (fun _ _ _ h => h) (Or.inl ⟨by rfl, ?_⟩) (by assumption) ?_
          rotate_left
          · intro w hSw
            try dsimp only at hSw
            go_simp
            with_reducible rfl
          try simp only [Act.put, List.setIfInBounds_toArray, List.set_cons_zero, List.set_cons_succ]
          refine held_take (11) (v := ?_) rfl (by kernel_rfl) (by kernel_rfl) (by kernel_rfl) (fun _ _ _ h => h) (Or.inl ⟨by rfl, ?_⟩) (by assumption) ?_
          rotate_left
          · intro w hSw
            try dsimp only at hSw
            go_simp
            with_reducible rfl
          try simp only [Act.put, List.setIfInBounds_toArray, List.set_cons_zero, List.set_cons_succ]
          refine wpAnyH_done (by kernel_rfl) ?_ _
          clear hHeld K7 K8 K9 K0
          have HS9 := Lib.hid hH.s
          clear hH
          go_simp
          go_wp2_with fail
          go_roundw
          case rel => exact ⟨i + 1, by omega, by go_num, HS9.out⟩
          case measure => simp [intOf]; omega
        have hjl : (j : Int) < 2 := by omega
        obtain ⟨ma, mc, N, cN, hN, hN12⟩ : ∃ (ma : Option Addr) (mc : Nat) (N : List Mem), wr.cell? ⟨gl, j, none⟩ = some (.slice ma N.length mc) ∧ (∀ V, Hm W V gx xs la M ra Q gc xa xc X gl cl → RdM V ma N) ∧ N.length ≤ 12 := by
          rcases (show j = 0 ∨ j = 1 by omega) with rfl | rfl
          · exact ⟨la, lc, M, hm.l.cell 0 (by rw [HCL.out]; rfl), fun V hV => hV.h.s.m, by have := HMl.out; omega⟩
          · exact ⟨ra, rc, Q, hm.l.cell 1 (by rw [HCL.out]; rfl), fun V hV => hV.h.s.q, HQ12.out⟩
        have HN := Lib.hid hN
        have hN9 : N.length ≤ 1000000 := by omega
        have HN12 := Lib.hid hN12
        have KMod := Lib.hid (fun V => mod_any me N.length hN9 V)
        have hwn : IntKind.i64.wrap ((N.length : Int) + 1) = (N.length : Int) + 1 := by rw [IntKind.wrap_i64]; omega
        generalize hz1 : me % ((N.length : Int) + 1) = m1 at *
        have Hm0 := Lib.hid hm
        clear hN hN12 hz1 hm
        have hbi : Below wr.heap.size wr (wr.alloc (.cells #[.int .i64 me, .int .i64 m1, .int .i64 0, .int .i64 1] 3)) := (Below.refl wr.heap.size wr).alloc (Nat.le_refl _) _
        have zi := Bx.new wr 3 [.int .i64 me, .int .i64 m1, .int .i64 0, .int .i64 1]
        change Bx (wr.alloc (.cells #[.int .i64 me, .int .i64 m1, .int .i64 0, .int .i64 1] 3)) _ _ _ at zi
        have hm1 := Hm0.out.keep hbi
        clear hbi
        go_upto_region 19 with (go_at_call 10; (with_reducible refine (KMod.out _).mono ?_); (try rintro e w7 ⟨rfl, rfl⟩))
        generalize wr.alloc (.cells #[.int .i64 me, .int .i64 m1, .int .i64 0, .int .i64 1] 3) = w7 at *
        generalize wr.heap.size = gi at *
        clear cN KMod hwn Hm0
        go_loopw [75] (fun kv wx => ∃ k : Nat, k ≤ 4 ∧ kv = .int .i64 (k : Int) ∧ Hm W wx gx xs la M ra Q gc xa xc X gl cl ∧ Bx wx gi 3 [.int .i64 me, .int .i64 m1, .int .i64 0, .int .i64 1]) (fun kv _ => 4 - (intOf kv).toNat)
        case atStart => exact ⟨0, Nat.zero_le _, rfl, hm1, zi⟩
        case round =>
          clear hm1 zi
          obtain ⟨k, hk, rfl, hm, hzi⟩ := hrel
          by_cases hkt : k < 4
          rotate_left
          · have hkl : ¬ (k : Int) < 4 := by omega
            have HM9 := Lib.hid hm
            clear hm hzi
            go_wp2_with fail
            go_roundw
            case rel => exact ⟨j + 1, by omega, by go_num, HM9.out⟩
            case measure => simp [intOf]; omega
          have hkl : (k : Int) < 4 := by omega
          obtain ⟨z, cz⟩ : ∃ z : Int, wr.cell? ⟨gi, k, none⟩ = some (.int .i64 z) := by
            rcases (show k = 0 ∨ k = 1 ∨ k = 2 ∨ k = 3 by omega) with rfl | rfl | rfl | rfl
            · exact ⟨_, hzi.cell 0 rfl⟩
            · exact ⟨_, hzi.cell 1 rfl⟩
            · exact ⟨_, hzi.cell 2 rfl⟩
            · exact ⟨_, hzi.cell 3 rfl⟩
          have K1 : Hid (∀ V, Hm W V gx xs la M ra Q gc xa xc X gl cl → Calls Tryz.prog 11 #[.agg #[.slice xa X.length xc], .slice ma N.length mc, .int .i64 z] V fun e w' => e = .returned (.bool (termF wiF X 0 N z)) ∧ Below V.heap.size V w') := Lib.hid (fun V hV => cholds_walk X xa xc N ma mc z V ⟨hV.h.n.r, HN.out V hV⟩ (by have := hV.h.n.l; omega) (by omega))
          have K2 : Hid (∀ V, Hm W V gx xs la M ra Q gc xa xc X gl cl → Calls Tryz.prog 12 #[.agg #[.slice xa X.length xc], .slice ma N.length mc, .int .i64 z] V fun e w' => e = .returned (.bool (termF wiF X 0 N z)) ∧ Below V.heap.size V w') := Lib.hid (fun V hV => rcholds_walk X xa xc N ma mc z V hV.h.n.r (HN.out V hV) hV.h.n.l (by have := HN12.out; omega) (HS.out.keep hV.h.s.b))
          have K3 : Hid (∀ V, Hm W V gx xs la M ra Q gc xa xc X gl cl → Calls Tryz.prog 13 #[.slice ma N.length mc, .int .i64 z] V fun e w' => e = .returned (.int .i64 (persF N z)) ∧ Below V.heap.size V w') := Lib.hid (fun V hV => cpersons_walk N ma mc z V (HN.out V hV) (by omega))
          have K4 : Hid (∀ V, Hm W V gx xs la M ra Q gc xa xc X gl cl → Calls Tryz.prog 14 #[.slice ma N.length mc, .int .i64 z] V fun e w' => e = .returned (.int .i64 (persF N z)) ∧ Below V.heap.size V w') := Lib.hid (fun V hV => rcpersons_walk N ma mc z V (HN.out V hV) (by omega))
          generalize termF wiF X 0 N z = f1 at *
          generalize persF N z = f2 at *
          go_upto_region 21 with (fail)
          clear cz
          refine wp_region_held_drew (S := fun w' => w'.cell? ⟨gc, 0, none⟩ = some (.slice xa X.length xc)) (by kernel_rfl) ((hm.keep (Below.refl _ _).drew).h.c.cell 0 rfl) (fun hHeld => ?_)
          simp only [List.size_toArray, List.length_cons, List.length_nil]
          replace hm := hm.keep (Below.refl _ _).drew
          replace hzi := hzi.keep (Below.refl _ _).drew
          generalize wr.drew = u0 at *
          replace hHeld := id hHeld
          refine held_take (0) (v := ?_) rfl (by kernel_rfl) (by kernel_rfl) (by kernel_rfl) (fun _ _ _ h => h) (Or.inl ⟨by rfl, ?_⟩) (by assumption) ?_
          rotate_left
          · intro w hSw
            try dsimp only at hSw
            go_simp
            with_reducible rfl
          try simp only [Act.put, List.setIfInBounds_toArray, List.set_cons_zero, List.set_cons_succ]
          refine held_take (1) (v := ?_) rfl (by kernel_rfl) (by kernel_rfl) (by kernel_rfl) (fun _ _ _ h => h) (Or.inl ⟨by rfl, ?_⟩) (by assumption) ?_
          rotate_left
          · intro w hSw
            try dsimp only at hSw
            go_simp
            with_reducible rfl
          try simp only [Act.put, List.setIfInBounds_toArray, List.set_cons_zero, List.set_cons_succ]
          refine held_take (2) (v := ?_) rfl (by kernel_rfl) (by kernel_rfl) (by kernel_rfl) (fun _ _ _ h => h) (Or.inl ⟨by rfl, ?_⟩) (by assumption) ?_
          rotate_left
          · intro w hSw
            try dsimp only at hSw
            go_simp
            with_reducible rfl
          try simp only [Act.put, List.setIfInBounds_toArray, List.set_cons_zero, List.set_cons_succ]
          refine held_take (4) (v := ?_) rfl (by kernel_rfl) (by kernel_rfl) (by kernel_rfl) (fun _ _ _ h => h) (Or.inl ⟨by rfl, ?_⟩) (by assumption) ?_
          rotate_left
          · intro w hSw
            try dsimp only at hSw
            go_simp
            with_reducible rfl
          try simp only [Act.put, List.setIfInBounds_toArray, List.set_cons_zero, List.set_cons_succ]
          refine held_take (5) (v := ?_) rfl (by kernel_rfl) (by kernel_rfl) (by kernel_rfl) (fun _ _ _ h => h) (Or.inl ⟨by rfl, ?_⟩) (by assumption) ?_
          rotate_left
          · intro w hSw
            try dsimp only at hSw
            go_simp
            with_reducible rfl
          try simp only [Act.put, List.setIfInBounds_toArray, List.set_cons_zero, List.set_cons_succ]
          refine held_take (6) (v := ?_) rfl (by kernel_rfl) (by kernel_rfl) (by kernel_rfl) (fun _ _ _ h => h) (Or.inl ⟨by rfl, ?_⟩) (by assumption) ?_
          rotate_left
          · intro w hSw
            try dsimp only at hSw
            go_simp
            with_reducible rfl
          try simp only [Act.put, List.setIfInBounds_toArray, List.set_cons_zero, List.set_cons_succ]
          refine wpAnyH_ready (rs := [3]) (by kernel_rfl) (by simp) ?_
          refine held_cons rfl (fun K hK => ?_) AllReadyH.nil
          go_simp
          go_at_call 11
          (with_reducible refine (K1.out _ hm).mono ?_)
          (first | rintro e u1 rfl hb | rintro e u1 ⟨rfl, hb⟩)
          replace hm := hm.keep hb
          replace hzi := hzi.keep hb
          clear hb
          go_wp2_with fail
          refine hK.out _ _ (hm.h.c.cell 0 rfl) (fun hHeld => ?_)
          clear hK K
          try simp only [Act.put, List.setIfInBounds_toArray, List.set_cons_zero, List.set_cons_succ]
          refine wpAnyH_ready (rs := [7]) (by kernel_rfl) (by simp) ?_
          refine held_cons rfl (fun K hK => ?_) AllReadyH.nil
          go_simp
          go_at_call 12
          (with_reducible refine (K2.out _ hm).mono ?_)
          (first | rintro e u2 rfl hb | rintro e u2 ⟨rfl, hb⟩)
          replace hm := hm.keep hb
          replace hzi := hzi.keep hb
          clear hb
          go_wp2_with fail
          refine hK.out _ _ (hm.h.c.cell 0 rfl) (fun hHeld => ?_)
          clear hK K
          try simp only [Act.put, List.setIfInBounds_toArray, List.set_cons_zero, List.set_cons_succ]
          refine held_take (8) (v := ?_) rfl (by kernel_rfl) (by kernel_rfl) (by kernel_rfl) (fun _ _ _ h => h) (Or.inl ⟨by rfl, ?_⟩) (by assumption) ?_
          rotate_left
          · intro w hSw
            try dsimp only at hSw
            go_simp
            with_reducible rfl
          try simp only [Act.put, List.setIfInBounds_toArray, List.set_cons_zero, List.set_cons_succ]
          refine held_take (9) (v := ?_) rfl (by kernel_rfl) (by kernel_rfl) (by kernel_rfl) (fun _ _ _ h => h) (Or.inl ⟨by rfl, ?_⟩) (by assumption) ?_
          rotate_left
          · intro w hSw
            try dsimp only at hSw
            go_simp
            with_reducible rfl
          try simp only [Act.put, List.setIfInBounds_toArray, List.set_cons_zero, List.set_cons_succ]
          refine held_take (10) (v := ?_) rfl (by kernel_rfl) (by kernel_rfl) (by kernel_rfl) (fun _ _ _ h => h) (Or.inl ⟨by rfl, ?_⟩) (by assumption) ?_
          rotate_left
          · intro w hSw
            try dsimp only at hSw
            go_simp
            with_reducible rfl
          try simp only [Act.put, List.setIfInBounds_toArray, List.set_cons_zero, List.set_cons_succ]
          refine held_take (11) (v := ?_) rfl (by kernel_rfl) (by kernel_rfl) (by kernel_rfl) (fun _ _ _ h => h) (Or.inl ⟨by rfl, ?_⟩) (by assumption) ?_
          rotate_left
          · intro w hSw
            try dsimp only at hSw
            go_simp
            with_reducible rfl
          try simp only [Act.put, List.setIfInBounds_toArray, List.set_cons_zero, List.set_cons_succ]
          refine held_take (13) (v := ?_) rfl (by kernel_rfl) (by kernel_rfl) (by kernel_rfl) (fun _ _ _ h => h) (Or.inl ⟨by rfl, ?_⟩) (by assumption) ?_
          rotate_left
          · intro w hSw
            try dsimp only at hSw
            go_simp
            with_reducible rfl
          try simp only [Act.put, List.setIfInBounds_toArray, List.set_cons_zero, List.set_cons_succ]
          refine held_take (14) (v := ?_) rfl (by kernel_rfl) (by kernel_rfl) (by kernel_rfl) (fun _ _ _ h => h) (Or.inl ⟨by rfl, ?_⟩) (by assumption) ?_
          rotate_left
          · intro w hSw
            try dsimp only at hSw
            go_simp
            with_reducible rfl
          try simp only [Act.put, List.setIfInBounds_toArray, List.set_cons_zero, List.set_cons_succ]
          refine wpAnyH_ready (rs := [12]) (by kernel_rfl) (by simp) ?_
          refine held_cons rfl (fun K hK => ?_) AllReadyH.nil
          go_simp
          go_at_call 13
          (with_reducible refine (K3.out _ hm).mono ?_)
          (first | rintro e u3 rfl hb | rintro e u3 ⟨rfl, hb⟩)
          replace hm := hm.keep hb
          replace hzi := hzi.keep hb
          clear hb
          go_wp2_with fail
          refine hK.out _ _ (hm.h.c.cell 0 rfl) (fun hHeld => ?_)
          clear hK K
          try simp only [Act.put, List.setIfInBounds_toArray, List.set_cons_zero, List.set_cons_succ]
          refine wpAnyH_ready (rs := [15]) (by kernel_rfl) (by simp) ?_
          refine held_cons rfl (fun K hK => ?_) AllReadyH.nil
          go_simp
          go_at_call 14
          (with_reducible refine (K4.out _ hm).mono ?_)
          (first | rintro e u4 rfl hb | rintro e u4 ⟨rfl, hb⟩)
          replace hm := hm.keep hb
          replace hzi := hzi.keep hb
          clear hb
          go_wp2_with fail
          refine hK.out _ _ (hm.h.c.cell 0 rfl) (fun hHeld => ?_)
          clear hK K
          try simp only [Act.put, List.setIfInBounds_toArray, List.set_cons_zero, List.set_cons_succ]
          refine held_take (16) (v := ?_) rfl (by kernel_rfl) (by kernel_rfl) (by kernel_rfl) (fun _ _ _ h => h) (Or.inl ⟨by rfl, ?_⟩) (by assumption) ?_
          rotate_left
          · intro w hSw
            try dsimp only at hSw
            go_simp
            with_reducible rfl
          try simp only [Act.put, List.setIfInBounds_toArray, List.set_cons_zero, List.set_cons_succ]
          refine held_take (17) (v := ?_) rfl (by kernel_rfl) (by kernel_rfl) (by kernel_rfl) (fun _ _ _ h => h) (Or.inl ⟨by rfl, ?_⟩) (by assumption) ?_
          rotate_left
          · intro w hSw
            try dsimp only at hSw
            go_simp
            with_reducible rfl
          try simp only [Act.put, List.setIfInBounds_toArray, List.set_cons_zero, List.set_cons_succ]
          refine wpAnyH_done (by kernel_rfl) ?_ _
          clear hHeld
          go_simp
          go_upto_region 23 with (fail)
          have KMod := Lib.hid (fun V => mod_any tm X.length (by have := HXl.out; omega) V)
          have hwn : IntKind.i64.wrap ((X.length : Int) + 1) = (X.length : Int) + 1 := by have := HXl.out; rw [IntKind.wrap_i64]; omega
          generalize hz1 : tm % ((X.length : Int) + 1) = m2 at *
          have Hm0 := Lib.hid hm
          have Hzi := Lib.hid hzi
          have q15 := hm.h.c.cell 0 rfl
          have hbi : Below u4.heap.size u4 (u4.alloc (.cells #[.int .i64 tm, .int .i64 m2, .int .i64 1, .int .i64 2] 3)) := (Below.refl u4.heap.size u4).alloc (Nat.le_refl _) _
          have zi2 := Bx.new u4 3 [.int .i64 tm, .int .i64 m2, .int .i64 1, .int .i64 2]
          change Bx (u4.alloc (.cells #[.int .i64 tm, .int .i64 m2, .int .i64 1, .int .i64 2] 3)) _ _ _ at zi2
          have hm1 := Hm0.out.keep hbi
          have hzi1 := Hzi.out.keep hbi
          clear hbi hz1 hm hzi K1 K2 K3 K4
          go_upto_region 24 with (go_at_call 10; (with_reducible refine (KMod.out _).mono ?_); (try rintro e w9 ⟨rfl, rfl⟩))
          generalize u4.alloc (.cells #[.int .i64 tm, .int .i64 m2, .int .i64 1, .int .i64 2] 3) = w9 at *
          generalize u4.heap.size = gt at *
          clear q15 KMod hwn Hm0 Hzi
          go_loopw [106] (fun qv wx => ∃ q : Nat, q ≤ 4 ∧ qv = .int .i64 (q : Int) ∧ Hm W wx gx xs la M ra Q gc xa xc X gl cl ∧ Bx wx gi 3 [.int .i64 me, .int .i64 m1, .int .i64 0, .int .i64 1] ∧ Bx wx gt 3 [.int .i64 tm, .int .i64 m2, .int .i64 1, .int .i64 2]) (fun qv _ => 4 - (intOf qv).toNat)
          case atStart => exact ⟨0, Nat.zero_le _, rfl, hm1, hzi1, zi2⟩
          case round =>
            clear hm1 hzi1 zi2
            obtain ⟨q, hq, rfl, hm, hzi, hzt⟩ := hrel
            by_cases hqt : q < 4
            rotate_left
            · have hql : ¬ (q : Int) < 4 := by omega
              have HM9 := Lib.hid (And.intro hm hzi)
              clear hm hzi hzt
              go_wp2_with fail
              go_roundw
              case rel => exact ⟨k + 1, by omega, by go_num, HM9.out.1, HM9.out.2⟩
              case measure => simp [intOf]; omega
            have hql : (q : Int) < 4 := by omega
            obtain ⟨y, cy⟩ : ∃ y : Int, wr.cell? ⟨gt, q, none⟩ = some (.int .i64 y) := by
              rcases (show q = 0 ∨ q = 1 ∨ q = 2 ∨ q = 3 by omega) with rfl | rfl | rfl | rfl
              · exact ⟨_, hzt.cell 0 rfl⟩
              · exact ⟨_, hzt.cell 1 rfl⟩
              · exact ⟨_, hzt.cell 2 rfl⟩
              · exact ⟨_, hzt.cell 3 rfl⟩
            have K5 : Hid (∀ V, Hm W V gx xs la M ra Q gc xa xc X gl cl → Calls Tryz.prog 15 #[.agg #[.slice xa X.length xc], .int .i64 y, .slice ma N.length mc, .int .i64 z] V fun e w' => e = .returned (.bool (termF wiF X y N z)) ∧ Below V.heap.size V w') := Lib.hid (fun V hV => cterm_walk X xa xc y N ma mc z V ⟨hV.h.n.r, HN.out V hV⟩ (by have := hV.h.n.l; omega) (by omega))
            have K6 : Hid (∀ V, Hm W V gx xs la M ra Q gc xa xc X gl cl → Calls Tryz.prog 16 #[.agg #[.slice xa X.length xc], .int .i64 y, .slice ma N.length mc, .int .i64 z] V fun e w' => e = .returned (.bool (termF wiF X y N z)) ∧ Below V.heap.size V w') := Lib.hid (fun V hV => rcterm_walk X xa xc y N ma mc z V hV.h.n.r (HN.out V hV) hV.h.n.l (by have := HN12.out; omega) (HS.out.keep hV.h.s.b))
            generalize termF wiF X y N z = f3 at *
            go_upto_region 26 with (fail)
            clear cy
            refine wp_region_held_drew (S := fun w' => w'.cell? ⟨gc, 0, none⟩ = some (.slice xa X.length xc)) (by kernel_rfl) ((hm.keep (Below.refl _ _).drew).h.c.cell 0 rfl) (fun hHeld => ?_)
            simp only [List.size_toArray, List.length_cons, List.length_nil]
            replace hm := hm.keep (Below.refl _ _).drew
            replace hzi := hzi.keep (Below.refl _ _).drew
            replace hzt := hzt.keep (Below.refl _ _).drew
            generalize wr.drew = u0 at *
            replace hHeld := id hHeld
            refine held_take (0) (v := ?_) rfl (by kernel_rfl) (by kernel_rfl) (by kernel_rfl) (fun _ _ _ h => h) (Or.inl ⟨by rfl, ?_⟩) (by assumption) ?_
            rotate_left
            · intro w hSw
              try dsimp only at hSw
              go_simp
              with_reducible rfl
            try simp only [Act.put, List.setIfInBounds_toArray, List.set_cons_zero, List.set_cons_succ]
            refine held_take (1) (v := ?_) rfl (by kernel_rfl) (by kernel_rfl) (by kernel_rfl) (fun _ _ _ h => h) (Or.inl ⟨by rfl, ?_⟩) (by assumption) ?_
            rotate_left
            · intro w hSw
              try dsimp only at hSw
              go_simp
              with_reducible rfl
            try simp only [Act.put, List.setIfInBounds_toArray, List.set_cons_zero, List.set_cons_succ]
            refine held_take (2) (v := ?_) rfl (by kernel_rfl) (by kernel_rfl) (by kernel_rfl) (fun _ _ _ h => h) (Or.inl ⟨by rfl, ?_⟩) (by assumption) ?_
            rotate_left
            · intro w hSw
              try dsimp only at hSw
              go_simp
              with_reducible rfl
            try simp only [Act.put, List.setIfInBounds_toArray, List.set_cons_zero, List.set_cons_succ]
            refine held_take (3) (v := ?_) rfl (by kernel_rfl) (by kernel_rfl) (by kernel_rfl) (fun _ _ _ h => h) (Or.inl ⟨by rfl, ?_⟩) (by assumption) ?_
            rotate_left
            · intro w hSw
              try dsimp only at hSw
              go_simp
              with_reducible rfl
            try simp only [Act.put, List.setIfInBounds_toArray, List.set_cons_zero, List.set_cons_succ]
            refine held_take (5) (v := ?_) rfl (by kernel_rfl) (by kernel_rfl) (by kernel_rfl) (fun _ _ _ h => h) (Or.inl ⟨by rfl, ?_⟩) (by assumption) ?_
            rotate_left
            · intro w hSw
              try dsimp only at hSw
              go_simp
              with_reducible rfl
            try simp only [Act.put, List.setIfInBounds_toArray, List.set_cons_zero, List.set_cons_succ]
            refine held_take (6) (v := ?_) rfl (by kernel_rfl) (by kernel_rfl) (by kernel_rfl) (fun _ _ _ h => h) (Or.inl ⟨by rfl, ?_⟩) (by assumption) ?_
            rotate_left
            · intro w hSw
              try dsimp only at hSw
              go_simp
              with_reducible rfl
            try simp only [Act.put, List.setIfInBounds_toArray, List.set_cons_zero, List.set_cons_succ]
            refine held_take (7) (v := ?_) rfl (by kernel_rfl) (by kernel_rfl) (by kernel_rfl) (fun _ _ _ h => h) (Or.inl ⟨by rfl, ?_⟩) (by assumption) ?_
            rotate_left
            · intro w hSw
              try dsimp only at hSw
              go_simp
              with_reducible rfl
            try simp only [Act.put, List.setIfInBounds_toArray, List.set_cons_zero, List.set_cons_succ]
            refine held_take (8) (v := ?_) rfl (by kernel_rfl) (by kernel_rfl) (by kernel_rfl) (fun _ _ _ h => h) (Or.inl ⟨by rfl, ?_⟩) (by assumption) ?_
            rotate_left
            · intro w hSw
              try dsimp only at hSw
              go_simp
              with_reducible rfl
            try simp only [Act.put, List.setIfInBounds_toArray, List.set_cons_zero, List.set_cons_succ]
            refine wpAnyH_ready (rs := [4]) (by kernel_rfl) (by simp) ?_
            refine held_cons rfl (fun K hK => ?_) AllReadyH.nil
            go_simp
            go_at_call 15
            (with_reducible refine (K5.out _ hm).mono ?_)
            (first | rintro e u1 rfl hb | rintro e u1 ⟨rfl, hb⟩)
            replace hm := hm.keep hb
            replace hzi := hzi.keep hb
            replace hzt := hzt.keep hb
            clear hb
            go_wp2_with fail
            refine hK.out _ _ (hm.h.c.cell 0 rfl) (fun hHeld => ?_)
            clear hK K
            try simp only [Act.put, List.setIfInBounds_toArray, List.set_cons_zero, List.set_cons_succ]
            refine wpAnyH_ready (rs := [9]) (by kernel_rfl) (by simp) ?_
            refine held_cons rfl (fun K hK => ?_) AllReadyH.nil
            go_simp
            go_at_call 16
            (with_reducible refine (K6.out _ hm).mono ?_)
            (first | rintro e u2 rfl hb | rintro e u2 ⟨rfl, hb⟩)
            replace hm := hm.keep hb
            replace hzi := hzi.keep hb
            replace hzt := hzt.keep hb
            clear hb
            go_wp2_with fail
            refine hK.out _ _ (hm.h.c.cell 0 rfl) (fun hHeld => ?_)
            clear hK K
            try simp only [Act.put, List.setIfInBounds_toArray, List.set_cons_zero, List.set_cons_succ]
            refine held_take (10) (v := ?_) rfl (by kernel_rfl) (by kernel_rfl) (by kernel_rfl) (fun _ _ _ h => h) (Or.inl ⟨by rfl, ?_⟩) (by assumption) ?_
            rotate_left
            · intro w hSw
              try dsimp only at hSw
              go_simp
              with_reducible rfl
            try simp only [Act.put, List.setIfInBounds_toArray, List.set_cons_zero, List.set_cons_succ]
            refine wpAnyH_done (by kernel_rfl) ?_ _
            clear hHeld K5 K6
            have HM9 := Lib.hid (And.intro hm (And.intro hzi hzt))
            clear hm hzi hzt
            go_simp
            go_wp2_with fail
            go_roundw
            case rel => exact ⟨q + 1, by omega, by go_num, HM9.out.1, HM9.out.2.1, HM9.out.2.2⟩
            case measure => simp [intOf]; omega
end Go.Proofs.YtejdaeonknpgeaaGreatDoor
