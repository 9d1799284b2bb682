/- Offices: where the row of a person and a period stands: slices.BinarySearchFunc at their rows; what is left. -/
import Derived.Test.YtekhepklaokaiaaDoorGTokB
namespace Go.Proofs.YtekhepklaokaiaaDoor
open Go.RowKit
set_option maxRecDepth 100000 in
theorem irow_walk (r : Iss) (a b : Int) (w : World) (h1 : -4611686018427387904 ≤ r.per - a ∧ r.per - a ≤ 4611686018427387904) (h2 : -4611686018427387904 ≤ r.prd - b ∧ r.prd - b ≤ 4611686018427387904) :
    Calls Tryd.prog 31 #[.agg #[.int .i64 r.per, .int .i64 r.prd, .int .i64 r.cnt], .int .i64 a, .int .i64 b] w fun e w' => e = .returned (.int .i64 (rowI r a b)) ∧ Below w.heap.size w w' := by
  have hb := (Below.refl w.heap.size w).alloc (Nat.le_refl _) (.cells #[.int .i64 r.per, .int .i64 r.prd, .int .i64 r.cnt] 57)
  have w1 : IntKind.i64.wrap (r.per - a) = r.per - a := by rw [IntKind.wrap_i64]; omega
  have w2 : IntKind.i64.wrap (r.prd - b) = r.prd - b := by rw [IntKind.wrap_i64]; omega
  by_cases h : r.per = a
  · have hf : rowI r a b = r.prd - b := if_pos h
    rw [hf]
    have t1 : (r.per != a) = false := by rw [bne_eq_false_iff_eq]; exact h
    clear hf h w1 h1 h2
    go_enter Tryd.func31, Tryd.ntmps31
    go_wp2
    go_ret
    exact ⟨rfl, hb⟩
  · have hf : rowI r a b = r.per - a := if_neg h
    rw [hf]
    have t1 : (r.per != a) = true := by rw [bne_iff_ne]; exact h
    clear hf h w2 h1 h2
    go_enter Tryd.func31, Tryd.ntmps31
    go_wp2
    go_ret
    exact ⟨rfl, hb⟩
set_option maxRecDepth 100000 in
theorem iplace1_walk (r : Iss) (a b : Int) (pb : Nat) (w : World) (hP : Bx w pb 3 [.int .i64 a]) (h1 : -4611686018427387904 ≤ r.per - a ∧ r.per - a ≤ 4611686018427387904) (h2 : -4611686018427387904 ≤ r.prd - b ∧ r.prd - b ≤ 4611686018427387904) :
    Calls Tryd.prog 40 #[.agg #[.int .i64 r.per, .int .i64 r.prd, .int .i64 r.cnt], .int .i64 b, .pointer (some ⟨pb, 0, none⟩)] w fun e w' => e = .returned (.int .i64 (rowI r a b)) ∧ Below w.heap.size w w' := by
  have hb := (Below.refl w.heap.size w).alloc (Nat.le_refl _) (.cells #[.int .i64 r.per, .int .i64 r.prd, .int .i64 r.cnt] 57)
  have hP1 := (hP.alloc (.cells #[.int .i64 r.per, .int .i64 r.prd, .int .i64 r.cnt] 57)).cell 0 (v := .int .i64 a) rfl
  have K1 := Lib.hid (fun V => irow_walk r a b V h1 h2)
  clear h1 h2
  go_enter Tryd.func40, Tryd.ntmps40
  go_wp2_with (go_at_call 31; (with_reducible refine (K1.out _).mono ?_))
  rintro e w1 ⟨rfl, hb1⟩
  go_wp2
  go_ret
  exact ⟨rfl, below_tr hb hb1⟩
theorem Rd.is {w : World} {a : Option Addr} {l : List Iss} (h : Rd w a (rowsC isC l)) {k : Nat} (hk : k < l.length) :
    ∃ g off r, a = some ⟨g, off, none⟩ ∧ Hid (l[k]? = some r) ∧ w.cell? ⟨g, off + k * 3, none⟩ = some (.int .i64 r.per) ∧ w.cell? ⟨g, off + k * 3 + 1, none⟩ = some (.int .i64 r.prd) ∧ w.cell? ⟨g, off + k * 3 + 2, none⟩ = some (.int .i64 r.cnt) := by
  obtain ⟨g, off, r, ha, hr, hc⟩ := h.rows isC_len (by decide) hk
  exact ⟨g, off, r, ha, hr, hc 0 _ rfl, hc 1 _ rfl, hc 2 _ rfl⟩
def LoI (l : List Iss) (a b : Int) (x : Nat) : Prop := ∀ m r, m < x → l[m]? = some r → ltI r a b
def HiI (l : List Iss) (a b : Int) (y : Nat) : Prop := ∀ m r, y ≤ m → l[m]? = some r → ¬ ltI r a b
theorem LoI.up {l : List Iss} {a b : Int} {h : Nat} {r : Iss} (hG : IGood l l.length) (hr : l[h]? = some r) (hs : ltI r a b) : LoI l a b (h + 1) := fun m x hm hx => by
  by_cases e : m = h
  · subst e; rw [hr] at hx; cases hx; exact hs
  · have := hG.mono h m x r (by omega) hx hr; unfold ltI at *; omega
theorem HiI.down {l : List Iss} {a b : Int} {h : Nat} {r : Iss} (hG : IGood l l.length) (hr : l[h]? = some r) (hs : ¬ ltI r a b) : HiI l a b h := fun m x hm hx => by
  by_cases e : m = h
  · subst e; rw [hr] at hx; cases hx; exact hs
  · have := hG.mono m h r x (by omega) hr hx; unfold ltI at *; omega
theorem posI_of {l : List Iss} {a b : Int} {x : Nat} (hx : x ≤ l.length) (h1 : LoI l a b x) (h2 : HiI l a b x) : posI l a b = x := posI_eq hx h1 fun r hr => h2 x r (Nat.le_refl _) hr
/-- numbers that are no great ones -/
def small (a b : Int) : Prop := (-1152921504606846976 ≤ a ∧ a ≤ 1152921504606846976) ∧ (-1152921504606846976 ≤ b ∧ b ≤ 1152921504606846976)
theorem iOk.near {l : List Iss} {i : Nat} {r : Iss} {a b : Int} (h : iOk l i r) (hs : small a b) : (-4611686018427387904 ≤ r.per - a ∧ r.per - a ≤ 4611686018427387904) ∧ (-4611686018427387904 ≤ r.prd - b ∧ r.prd - b ≤ 4611686018427387904) := by
  obtain ⟨h1, h2, -⟩ := h
  obtain ⟨s1, s2⟩ := hs
  omega
set_option maxRecDepth 100000 in
set_option maxHeartbeats 2000000 in
theorem isearch_walk (p : Option Addr) (l : List Iss) (cap : Nat) (a b : Int) (pb : Nat) (w : World) (hR : Rd w p (rowsC isC l)) (hn : l.length ≤ 1000000) (hG : IGood l l.length) (hP : Bx w pb 3 [.int .i64 a]) (hs : small a b) :
    Calls Tryd.prog 39 #[.slice p l.length cap, .int .i64 b, .func (.func 40) #[] #[.pointer (some ⟨pb, 0, none⟩)]] w fun e w' => e = .returned (.tuple #[.int .i64 (posI l a b : Int), .bool (hasI l a b)]) ∧ Below w.heap.size w w' := by
  have HG := Lib.hid hG
  have HS := Lib.hid hs
  clear hG hs
  go_enter Tryd.func39, Tryd.ntmps39
  go_wp2_with fail
  go_loopw [9, 10] (fun i j wr => ∃ x y : Nat, i = .int .i64 (x : Int) ∧ j = .int .i64 (y : Int) ∧ x ≤ y ∧ y ≤ l.length ∧ LoI l a b x ∧ HiI l a b y ∧ Below w.heap.size w wr) (fun i j _ => (intOf j).toNat - (intOf i).toNat)
  case atStart => exact ⟨0, l.length, rfl, rfl, Nat.zero_le _, Nat.le_refl _, fun m r h => by omega, fun m r h hr => by have := (List.getElem?_eq_some_iff.1 hr).1; omega, Below.refl _ _⟩
  case round =>
    obtain ⟨x, y, rfl, rfl, hxy, hy, hL, hH, hB⟩ := hrel
    by_cases hlt : x < y
    · obtain ⟨g, off, r, rfl, hr, c0, c1, c2⟩ := (hR.keep hB).is (k := (x + y) / 2) (by omega)
      have HL := Lib.hid hL
      have HH := Lib.hid hH
      clear hL hH
      have hnear := (HG.out _ r (by omega) hr.out).near HS.out
      obtain ⟨c, hc⟩ : ∃ c, c = rowI r a b := ⟨_, rfl⟩
      have k1 : ∀ V, Bx V pb 3 [.int .i64 a] → Calls Tryd.prog 40 #[.agg #[.int .i64 r.per, .int .i64 r.prd, .int .i64 r.cnt], .int .i64 b, .pointer (some ⟨pb, 0, none⟩)] V fun e w' => e = .returned (.int .i64 c) ∧ Below V.heap.size V w' := fun V hV => by rw [hc]; exact iplace1_walk r a b pb V hV hnear.1 hnear.2
      have K1 := Lib.hid k1
      have hPr := hP.keep hB
      clear k1 hnear
      by_cases hs : ltI r a b
      · have hcz : decide (c < 0) = true := decide_eq_true (by rw [hc]; exact (rowI_neg r a b).2 hs)
        have HLT := Lib.hid hs
        clear hc hs
        go_wp2_with ((with_reducible refine (K1.out _ hPr).mono ?_); rintro e w1 ⟨rfl, hb1⟩)
        go_roundw
        case rel => exact ⟨(x + y) / 2 + 1, y, by go_num, rfl, by omega, hy, LoI.up HG.out hr.out HLT.out, HH.out, below_tr hB hb1⟩
        case measure => simp [intOf]; omega
      · have hcz : decide (c < 0) = false := decide_eq_false (by rw [hc, rowI_neg]; exact hs)
        have HLT := Lib.hid hs
        clear hc hs
        go_wp2_with ((with_reducible refine (K1.out _ hPr).mono ?_); rintro e w1 ⟨rfl, hb1⟩)
        go_roundw
        case rel => exact ⟨x, (x + y) / 2, rfl, by go_num, by omega, by omega, HL.out, HiI.down HG.out hr.out HLT.out, below_tr hB hb1⟩
        case measure => simp [intOf]; omega
    · obtain rfl : x = y := by omega
      have hp := posI_of hy hL hH
      have HP := Lib.hid hp
      by_cases hxl : x < l.length
      · obtain ⟨g, off, r, rfl, hr, c0, c1, c2⟩ := (hR.keep hB).is (k := x) hxl
        have hh : hasI l a b = decide (r.per = a ∧ r.prd = b) := hasI_at (by rw [hp]; exact hr.out)
        have hnear := (HG.out _ r hxl hr.out).near HS.out
        obtain ⟨c, hc⟩ : ∃ c, c = rowI r a b := ⟨_, rfl⟩
        have k1 : ∀ V, Bx V pb 3 [.int .i64 a] → Calls Tryd.prog 40 #[.agg #[.int .i64 r.per, .int .i64 r.prd, .int .i64 r.cnt], .int .i64 b, .pointer (some ⟨pb, 0, none⟩)] V fun e w' => e = .returned (.int .i64 c) ∧ Below V.heap.size V w' := fun V hV => by rw [hc]; exact iplace1_walk r a b pb V hV hnear.1 hnear.2
        have K1 := Lib.hid k1
        have hPr := hP.keep hB
        have hlt2 : decide ((x : Int) < (l.length : Int)) = true := decide_eq_true (by omega)
        have hlt3 : decide (x < l.length) = true := decide_eq_true (by omega)
        have hcz : (c == 0) = decide (r.per = a ∧ r.prd = b) := by
          rw [hc]
          by_cases e : r.per = a ∧ r.prd = b
          · rw [decide_eq_true e, (rowI_zero r a b).2 e]; rfl
          · rw [decide_eq_false e, beq_eq_false_iff_ne, ne_eq, rowI_zero]; exact e
        generalize decide (r.per = a ∧ r.prd = b) = bb at *
        have HB := Lib.hid hh
        clear k1 hp hh hL hH hc hnear
        go_wp2_with ((with_reducible refine (K1.out _ hPr).mono ?_); rintro e w1 ⟨rfl, hb1⟩)
        go_ret2
        exact ⟨by rw [HP.out, HB.out]; rfl, below_tr hB hb1⟩
      · obtain rfl : x = l.length := by omega
        have hh : hasI l a b = false := hasI_end hp
        have HB := Lib.hid hh
        clear hp hh hL hH
        go_wp2
        go_ret2
        exact ⟨by rw [HP.out, HB.out]; rfl, hB⟩
/-- an office's cells -/
abbrev offC (p key quota : Int) (v : Value) : List Value := [.int .i64 p, .int .i64 key, .int .i64 quota, v]
set_option maxRecDepth 100000 in
theorem iplace_walk (p key quota : Int) (q : Option Addr) (l : List Iss) (cap : Nat) (a b : Int) (w : World) (hR : Rd w q (rowsC isC l)) (hn : l.length ≤ 1000000) (hG : IGood l l.length) (hs : small a b) :
    Calls Tryd.prog 25 #[.agg #[.int .i64 p, .int .i64 key, .int .i64 quota, .slice q l.length cap], .int .i64 a, .int .i64 b] w fun e w' => e = .returned (.tuple #[.int .i64 (posI l a b : Int), .bool (hasI l a b)]) ∧ Below w.heap.size w w' := by
  have hb0 := ((Below.refl w.heap.size w).alloc (Nat.le_refl _) (.cells #[.int .i64 p, .int .i64 key, .int .i64 quota, .slice q l.length cap] 35)).alloc (by simp) (.cells #[.int .i64 a] 3)
  have hO := (Bx.new w 35 (offC p key quota (.slice q l.length cap))).alloc (.cells #[.int .i64 a] 3)
  have hP := Bx.new (w.alloc (.cells #[.int .i64 p, .int .i64 key, .int .i64 quota, .slice q l.length cap] 35)) 3 [.int .i64 a]
  have hR1 := hR.keep hb0
  have hsz : (w.alloc (.cells #[.int .i64 p, .int .i64 key, .int .i64 quota, .slice q l.length cap] 35)).heap.size = w.heap.size + 1 := by simp
  rw [hsz] at hP
  clear hsz
  change Bx ((w.alloc (.cells #[.int .i64 p, .int .i64 key, .int .i64 quota, .slice q l.length cap] 35)).alloc (.cells #[.int .i64 a] 3)) _ _ _ at hO hP
  go_enter Tryd.func25, Tryd.ntmps25
  go_upto_region 1 with (fail)
  generalize (w.alloc (.cells #[.int .i64 p, .int .i64 key, .int .i64 quota, .slice q l.length cap] 35)).alloc (.cells #[.int .i64 a] 3) = w0 at *
  have c3 := hO.cell 3 (v := .slice q l.length cap) rfl
  have k1 := isearch_walk q l cap a b (w.heap.size + 1) w0 hR1 hn hG hP hs
  have K1 := Lib.hid k1
  clear k1 hG hs
  go_wp2_with (go_at_call 39; (with_reducible refine K1.out.mono ?_))
  rintro e w1 ⟨rfl, hb1⟩
  go_wp2
  go_ret2
  exact ⟨rfl, below_tr hb0 hb1⟩
set_option maxRecDepth 100000 in
set_option maxHeartbeats 1000000 in
theorem ileft_walk (p key quota : Int) (q : Option Addr) (l : List Iss) (cap : Nat) (a b : Int) (w : World) (hR : Rd w q (rowsC isC l)) (hn : l.length ≤ 1000000) (hG : IGood l l.length) (hs : small a b) (hq : 0 ≤ quota ∧ quota ≤ 1000) :
    Calls Tryd.prog 11 #[.agg #[.int .i64 p, .int .i64 key, .int .i64 quota, .slice q l.length cap], .int .i64 a, .int .i64 b] w fun e w' => e = .returned (.int .i64 (leftI quota l a b)) ∧ Below w.heap.size w w' := by
  have hb0 := (Below.refl w.heap.size w).alloc (Nat.le_refl _) (.cells #[.int .i64 p, .int .i64 key, .int .i64 quota, .slice q l.length cap] 35)
  have hO := Bx.new w 35 (offC p key quota (.slice q l.length cap))
  have K1 := Lib.hid (fun V h => iplace_walk p key quota q l cap a b V h hn hG hs)
  have hR1 := hR.keep hb0
  have hle := posI_le l a b
  change Bx (w.alloc (.cells #[.int .i64 p, .int .i64 key, .int .i64 quota, .slice q l.length cap] 35)) _ _ _ at hO
  go_enter Tryd.func11, Tryd.ntmps11
  go_upto_region 1 with (fail)
  generalize w.alloc (.cells #[.int .i64 p, .int .i64 key, .int .i64 quota, .slice q l.length cap] 35) = w0 at *
  generalize w.heap.size = gb at hO ⊢
  have c0 := hO.cell 0 (v := .int .i64 p) rfl
  have c1 := hO.cell 1 (v := .int .i64 key) rfl
  have c2 := hO.cell 2 (v := .int .i64 quota) rfl
  have c3 := hO.cell 3 (v := .slice q l.length cap) rfl
  cases hh : hasI l a b with
  | false =>
    have HF := Lib.hid (leftI_not (quota := quota) hh)
    rw [hh] at K1
    clear hh
    go_wp2_with (go_at_call 25; (with_reducible refine (K1.out _ hR1).mono ?_))
    rintro e w1 ⟨rfl, hb1⟩
    replace hO := hO.keep hb1
    clear c0 c1 c2 c3
    have c2 := hO.cell 2 (v := .int .i64 quota) rfl
    have hw : IntKind.i64.wrap (quota - 0) = quota - 0 := by rw [IntKind.wrap_i64]; omega
    rcases Int.lt_or_le 0 quota with h0 | h0
    · go_wp2
      go_ret
      exact ⟨ret_int HF.out.symm, below_tr hb0 hb1⟩
    · have hz : quota = 0 := by omega
      have HZ := Lib.hid hz
      clear hz
      go_wp2
      go_ret
      exact ⟨ret_int (by rw [HF.out, HZ.out]), below_tr hb0 hb1⟩
  | true =>
    obtain ⟨r, hr, h1, h2⟩ := hasI_some hh
    have HF := Lib.hid (leftI_has (quota := quota) hr ⟨h1, h2⟩)
    rw [hh] at K1
    have hpl : posI l a b < l.length := (List.getElem?_eq_some_iff.1 hr).1
    have hcn := (hG _ r hpl hr).2.2.1
    generalize posI l a b = k at *
    have HR := Lib.hid hr
    clear hh hr h1 h2 hG
    go_wp2_with (go_at_call 25; (with_reducible refine (K1.out _ hR1).mono ?_))
    rintro e w1 ⟨rfl, hb1⟩
    replace hO := hO.keep hb1
    clear c0 c1 c2 c3
    have c2 := hO.cell 2 (v := .int .i64 quota) rfl
    have c3 := hO.cell 3 (v := .slice q l.length cap) rfl
    obtain ⟨g, off, r', rfl, hr', d0, d1, d2⟩ := (hR1.keep hb1).is hpl
    obtain rfl := same_at HR hr'
    have hw : IntKind.i64.wrap (quota - r'.cnt) = quota - r'.cnt := by rw [IntKind.wrap_i64]; omega
    have hkl : (k : Int) < (l.length : Int) := by omega
    rcases Int.lt_or_le 0 (quota - r'.cnt) with h0 | h0
    · have hz : max 0 (quota - r'.cnt) = quota - r'.cnt := by omega
      have HZ := Lib.hid hz
      clear hz
      go_wp2
      go_ret
      exact ⟨ret_int (by rw [HF.out, HZ.out]), below_tr hb0 hb1⟩
    · have hz : max 0 (quota - r'.cnt) = 0 := by omega
      have HZ := Lib.hid hz
      clear hz
      go_wp2
      go_ret
      exact ⟨ret_int (by rw [HF.out, HZ.out]), below_tr hb0 hb1⟩
end Go.Proofs.YtekhepklaokaiaaDoor
