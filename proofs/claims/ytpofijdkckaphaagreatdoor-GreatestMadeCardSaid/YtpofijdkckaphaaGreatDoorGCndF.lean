/- Conditions: when they hold: the program's. -/
import Derived.Test.YtpofijdkckaphaaGreatDoorGCndE
import Derived.Test.YtpofijdkckaphaaGreatDoorRegionL
namespace Go.Proofs.YtpofijdkckaphaaGreatDoor
open Go.RowKit
theorem perL_all (O : List Mem) : perL (fun _ => true) O = O.map Mem.person := by
  rw [perL, List.filter_eq_self.2 (fun _ _ => rfl)]
set_option maxRecDepth 100000 in
theorem answers_walk (f x : List UInt8) (w : World) :
    Calls Tryz.prog 106 #[.string ⟨f.toArray⟩, .string ⟨x.toArray⟩] w fun e w' => ∃ gf gx, e = .returned (.func (.func 119) #[] #[.pointer (some ⟨gf, 0, none⟩), .pointer (some ⟨gx, 0, none⟩)]) ∧ EnvA w' gf gx f x ∧ Below w.heap.size w w' := by
  have b1 := (Below.refl w.heap.size w).alloc (Nat.le_refl _) (.cells #[.string ⟨f.toArray⟩] 9)
  have b2 := b1.alloc b1.size (.cells #[.string ⟨x.toArray⟩] 9)
  have h1 := (Bx.new w 9 [.string ⟨f.toArray⟩]).alloc (.cells #[.string ⟨x.toArray⟩] 9)
  have h2 := Bx.new (w.alloc (.cells #[.string ⟨f.toArray⟩] 9)) 9 [.string ⟨x.toArray⟩]
  have hz : (w.alloc (.cells #[.string ⟨f.toArray⟩] 9)).heap.size = w.heap.size + 1 := by simp
  rw [hz] at h2
  have HE : Hid (EnvA ((w.alloc (.cells #[.string ⟨f.toArray⟩] 9)).alloc (.cells #[.string ⟨x.toArray⟩] 9)) w.heap.size (w.heap.size + 1) f x) := Lib.hid ⟨h1, h2⟩
  have HB := Lib.hid b2
  clear b1 b2 h1 h2 hz
  go_enter Tryz.func106, Tryz.ntmps106
  go_wp2
  go_ret
  exact ⟨_, _, rfl, HE.out, HB.out⟩
set_option maxRecDepth 100000 in
set_option maxHeartbeats 1000000 in
theorem hol1_idx {p : Int → Bool} {gv : Nat} (a : Option Addr) (l : List Int) (c : Nat) (w : World) (hE : ∀ V, Below w.heap.size w V → ∀ r ∈ l, Calls Tryz.prog 98 #[.int .i64 r, .pointer (some ⟨gv, 0, none⟩)] V fun e w1 => e = .returned (.bool (p r)) ∧ Below V.heap.size V w1) (hR : Rd w a (ints l)) (hl : l.length ≤ 281474976710656) :
    Calls Tryz.prog 68 #[.slice a l.length c, .func (.func 98) #[] #[.pointer (some ⟨gv, 0, none⟩)]] w fun e w' => e = .returned (.int .i64 (idxL (p) l)) ∧ Below w.heap.size w w' := by
  have HE := Lib.hid hE
  have HR0 := Lib.hid hR
  clear hE
  go_enter Tryz.func68, Tryz.ntmps68
  go_wp2_with fail
  go_loopw [8] (fun i wr => ∃ k : Nat, k ≤ l.length ∧ i = .int .i64 (k : Int) ∧ Hid (∀ (j : Nat) (r : Int), j < k → l[j]? = some r → (p) r = false) ∧ Below w.heap.size w wr) (fun i _ => l.length - (intOf i).toNat)
  case atStart => exact ⟨0, Nat.zero_le _, rfl, Lib.hid (fun j r h => by omega), Below.refl _ _⟩
  case round =>
    obtain ⟨k, hk, rfl, hA, hB'⟩ := hrel
    by_cases hkt : k < l.length
    · obtain ⟨gx0, off, r, rfl, d0, hr⟩ := (HR0.out.keep hB').int (k := k) hkt
      have hkl : (k : Int) < (l.length : Int) := by omega
      have K1 := Lib.hid (HE.out wr hB' r (mem_at hr))
      have HT : Hid ((p) r = false → ∀ (j : Nat) (r : Int), j < k + 1 → l[j]? = some r → (p) r = false) := Lib.hid fun h j x hj hx => by
        by_cases e : j = k
        · subst e; rw [hr.out] at hx; cases hx; exact h
        · exact hA.out j x (by omega) hx
      have HF : Hid ((p) r = true → idxL (p) l = (k : Int)) := Lib.hid fun h => idxL_at hr.out h hA.out
      clear hA hr
      have hz0 : p r = (p) r := rfl
      cases hz : (p) r with
      | false =>
        rw [hz0.trans hz] at K1
        replace HT := Lib.hid (HT.out hz)
        clear hz hz0 HF
        go_wp2_with ((with_reducible refine K1.out.mono ?_); (first | rintro e w1 rfl hb1 | rintro e w1 ⟨rfl, hb1⟩))
        go_roundw
        case rel => exact ⟨k + 1, by omega, by go_num, HT, below_tr hB' hb1⟩
        case measure => simp [intOf]; omega
      | true =>
        rw [hz0.trans hz] at K1
        replace HF := Lib.hid (HF.out hz)
        clear hz hz0 HT
        go_wp2_with ((with_reducible refine K1.out.mono ?_); (first | rintro e w1 rfl hb1 | rintro e w1 ⟨rfl, hb1⟩))
        go_ret
        exact ⟨ret_int HF.out.symm, below_tr hB' hb1⟩
    · have hkl : ¬ (k : Int) < (l.length : Int) := by omega
      obtain rfl : k = l.length := by omega
      have HN := Lib.hid (idxL_none (f := p) hA.out)
      clear hA
      go_wp2
      go_ret
      exact ⟨ret_int HN.out.symm, hB'⟩
set_option maxRecDepth 100000 in
theorem hol1_any {p : Int → Bool} {gv : Nat} (a : Option Addr) (l : List Int) (c : Nat) (w : World) (hE : ∀ V, Below w.heap.size w V → ∀ r ∈ l, Calls Tryz.prog 98 #[.int .i64 r, .pointer (some ⟨gv, 0, none⟩)] V fun e w1 => e = .returned (.bool (p r)) ∧ Below V.heap.size V w1) (hR : Rd w a (ints l)) (hl : l.length ≤ 281474976710656) :
    Calls Tryz.prog 97 #[.slice a l.length c, .func (.func 98) #[] #[.pointer (some ⟨gv, 0, none⟩)]] w fun e w' => e = .returned (.bool (l.any (p))) ∧ Below w.heap.size w w' := by
  have K1 := Lib.hid (hol1_idx  a l c w hE hR hl)
  have HE := Lib.hid (idxL_any (p) l)
  generalize idxL (p) l = i at *
  generalize l.any (p) = b at *
  clear hE hR
  go_enter Tryz.func97, Tryz.ntmps97
  go_wp2_with (go_at_call 68; (with_reducible refine K1.out.mono ?_); (first | rintro e w1 rfl hb1 | rintro e w1 ⟨rfl, hb1⟩))
  go_ret
  exact ⟨ret_bool (by rw [← HE.out]), hb1⟩
set_option maxRecDepth 100000 in
set_option maxHeartbeats 1000000 in
theorem hol0_idx {p : Int → Bool} {g : Nat} (a : Option Addr) (l : List Int) (c : Nat) (w : World) (hE : ∀ V, Below w.heap.size w V → ∀ r ∈ l, Calls Tryz.prog 80 #[.pointer (some ⟨g, 0, none⟩), .int .i64 r] V fun e w1 => e = .returned (.bool (p r)) ∧ Below V.heap.size V w1) (hR : Rd w a (ints l)) (hl : l.length ≤ 281474976710656) :
    Calls Tryz.prog 68 #[.slice a l.length c, .func (.func 80) #[.pointer (some ⟨g, 0, none⟩)] #[]] w fun e w' => e = .returned (.int .i64 (idxL (p) l)) ∧ Below w.heap.size w w' := by
  have HE := Lib.hid hE
  have HR0 := Lib.hid hR
  clear hE
  go_enter Tryz.func68, Tryz.ntmps68
  go_wp2_with fail
  go_loopw [8] (fun i wr => ∃ k : Nat, k ≤ l.length ∧ i = .int .i64 (k : Int) ∧ Hid (∀ (j : Nat) (r : Int), j < k → l[j]? = some r → (p) r = false) ∧ Below w.heap.size w wr) (fun i _ => l.length - (intOf i).toNat)
  case atStart => exact ⟨0, Nat.zero_le _, rfl, Lib.hid (fun j r h => by omega), Below.refl _ _⟩
  case round =>
    obtain ⟨k, hk, rfl, hA, hB'⟩ := hrel
    by_cases hkt : k < l.length
    · obtain ⟨gx0, off, r, rfl, d0, hr⟩ := (HR0.out.keep hB').int (k := k) hkt
      have hkl : (k : Int) < (l.length : Int) := by omega
      have K1 := Lib.hid (HE.out wr hB' r (mem_at hr))
      have HT : Hid ((p) r = false → ∀ (j : Nat) (r : Int), j < k + 1 → l[j]? = some r → (p) r = false) := Lib.hid fun h j x hj hx => by
        by_cases e : j = k
        · subst e; rw [hr.out] at hx; cases hx; exact h
        · exact hA.out j x (by omega) hx
      have HF : Hid ((p) r = true → idxL (p) l = (k : Int)) := Lib.hid fun h => idxL_at hr.out h hA.out
      clear hA hr
      have hz0 : p r = (p) r := rfl
      cases hz : (p) r with
      | false =>
        rw [hz0.trans hz] at K1
        replace HT := Lib.hid (HT.out hz)
        clear hz hz0 HF
        go_wp2_with ((with_reducible refine K1.out.mono ?_); (first | rintro e w1 rfl hb1 | rintro e w1 ⟨rfl, hb1⟩))
        go_roundw
        case rel => exact ⟨k + 1, by omega, by go_num, HT, below_tr hB' hb1⟩
        case measure => simp [intOf]; omega
      | true =>
        rw [hz0.trans hz] at K1
        replace HF := Lib.hid (HF.out hz)
        clear hz hz0 HT
        go_wp2_with ((with_reducible refine K1.out.mono ?_); (first | rintro e w1 rfl hb1 | rintro e w1 ⟨rfl, hb1⟩))
        go_ret
        exact ⟨ret_int HF.out.symm, below_tr hB' hb1⟩
    · have hkl : ¬ (k : Int) < (l.length : Int) := by omega
      obtain rfl : k = l.length := by omega
      have HN := Lib.hid (idxL_none (f := p) hA.out)
      clear hA
      go_wp2
      go_ret
      exact ⟨ret_int HN.out.symm, hB'⟩
set_option maxRecDepth 100000 in
theorem hol0_any {p : Int → Bool} {g : Nat} (a : Option Addr) (l : List Int) (c : Nat) (w : World) (hE : ∀ V, Below w.heap.size w V → ∀ r ∈ l, Calls Tryz.prog 80 #[.pointer (some ⟨g, 0, none⟩), .int .i64 r] V fun e w1 => e = .returned (.bool (p r)) ∧ Below V.heap.size V w1) (hR : Rd w a (ints l)) (hl : l.length ≤ 281474976710656) :
    Calls Tryz.prog 97 #[.slice a l.length c, .func (.func 80) #[.pointer (some ⟨g, 0, none⟩)] #[]] w fun e w' => e = .returned (.bool (l.any (p))) ∧ Below w.heap.size w w' := by
  have K1 := Lib.hid (hol0_idx  a l c w hE hR hl)
  have HE := Lib.hid (idxL_any (p) l)
  generalize idxL (p) l = i at *
  generalize l.any (p) = b at *
  clear hE hR
  go_enter Tryz.func97, Tryz.ntmps97
  go_wp2_with (go_at_call 68; (with_reducible refine K1.out.mono ?_); (first | rintro e w1 rfl hb1 | rintro e w1 ⟨rfl, hb1⟩))
  go_ret
  exact ⟨ret_bool (by rw [← HE.out]), hb1⟩
set_option maxRecDepth 100000 in
theorem holds1_clo {gv g : Nat} {r : Int} {b : Bool} (w : World) (hP : Bx w gv 102 [.pointer (some ⟨g, 0, none⟩)])
    (hK : Calls Tryz.prog 80 #[.pointer (some ⟨g, 0, none⟩), .int .i64 r] w fun e w1 => e = .returned (.bool b) ∧ Below w.heap.size w w1) :
    Calls Tryz.prog 98 #[.int .i64 r, .pointer (some ⟨gv, 0, none⟩)] w fun e w1 => e = .returned (.bool (!b)) ∧ Below w.heap.size w w1 := by
  have K1 := Lib.hid hK
  have c0 := hP.cell 0 rfl
  clear hK hP
  go_enter Tryz.func98, Tryz.ntmps98
  go_wp2_with (go_at_call 80; (with_reducible refine K1.out.mono ?_); (first | rintro e w1 rfl hb1 | rintro e w1 ⟨rfl, hb1⟩))
  go_ret
  exact ⟨rfl, hb1⟩
/-- the boxes of a turn of holds -/
structure Hw (W w : World) (gv gt g : Nat) (ta : Option Addr) (T : List Trm) (tc : Nat) (m : Mem) (oa : Option Addr) (O : List Mem) (oc : Nat) (t : Trm) : Prop where
  p : Bx w gv 102 [.pointer (some ⟨g, 0, none⟩)]
  tt : Bx w gt 50 (trC t)
  v : View w g ta T tc m oa O oc
  r : Rd w t.aa (ints t.args)
  b : Below W.heap.size W w
section
variable {W w w' : World} {gv gt g : Nat} {ta : Option Addr} {T : List Trm} {tc : Nat} {m : Mem} {oa : Option Addr} {O : List Mem} {oc : Nat} {t : Trm}
theorem Hw.keep (h : Hw W w gv gt g ta T tc m oa O oc t) (hb : Below w.heap.size w w') : Hw W w' gv gt g ta T tc m oa O oc t := ⟨h.p.keep hb, h.tt.keep hb, h.v.keep hb, h.r.keep hb, h.b.trans (hb.mono h.b.size)⟩
theorem Hw.held (h : Hw W w gv gt g ta T tc m oa O oc t) : w.cell? ⟨gv, 0, none⟩ = some (.pointer (some ⟨g, 0, none⟩)) ∧ w.cell? ⟨gt, 0, none⟩ = some (.int .i64 t.kind) ∧ w.cell? ⟨gt, 1, none⟩ = some (.int .i64 t.number) ∧ w.cell? ⟨gt, 3, none⟩ = some (.string ⟨t.field.toArray⟩) ∧ w.cell? ⟨gt, 4, none⟩ = some (.string ⟨t.text.toArray⟩) ∧ w.cell? ⟨gt, 5, none⟩ = some (.slice t.aa t.args.length t.ac) :=
  ⟨h.p.cell 0 rfl, h.tt.cell 0 rfl, h.tt.cell 1 rfl, h.tt.cell 3 rfl, h.tt.cell 4 rfl, h.tt.cell 5 rfl⟩
theorem Hw.envw (h : Hw W w gv gt g ta T tc m oa O oc t) : EnvW w gv g gt m t.years (.slice ta T.length tc) (.slice m.aa m.ans.length m.ac) (.slice oa O.length oc) (.int .i64 t.kind) (.int .i64 t.number) (.string ⟨t.field.toArray⟩) (.string ⟨t.text.toArray⟩) (.slice t.aa t.args.length t.ac) := ⟨h.p, h.v.v, h.tt⟩
theorem Hw.envn (h : Hw W w gv gt g ta T tc m oa O oc t) : EnvN w gv g m (.slice ta T.length tc) (.slice m.aa m.ans.length m.ac) (.slice oa O.length oc) := ⟨h.p, h.v.v⟩
end
theorem all_not (p : Int → Bool) (l : List Int) : (!(l.any fun r => !(p r))) = l.all p := by
  induction l with
  | nil => rfl
  | cons x l ih =>
    rw [List.any_cons, List.all_cons, ← ih]
    cases p x <;> simp
theorem perL_len (p : Mem → Bool) (O : List Mem) : dst (perL p O) ≤ O.length := by
  refine Nat.le_trans (dst_le _) ?_
  rw [perL, List.length_map]
  exact List.length_filter_le _ _
set_option maxRecDepth 100000 in
set_option maxHeartbeats 4000000 in
theorem holds_walk (T : List Trm) (ta : Option Addr) (tc : Nat) (hS : Seg T 0 T.length) (m : Mem) (O : List Mem) (hO : O.length ≤ 1000000000) (g : Nat) (oa : Option Addr) (oc : Nat) : ∀ (f n : Nat) (w : World), n < T.length → T.length - n ≤ f → View w g ta T tc m oa O oc →
    Calls Tryz.prog 80 #[.pointer (some ⟨g, 0, none⟩), .int .i64 (n : Int)] w fun e w' => e = .returned (.bool (holdsT wiF T m O f n)) ∧ Below w.heap.size w w' := by
  intro f
  induction f with
  | zero => intro n w hn hf; omega
  | succ f ih =>
    intro n w hn hf hV
    obtain ⟨g1, o1, t, e1, ht, ⟨c0, c1, c2, c3, c4, c5⟩, hA, hIn⟩ := hV.t.trm (k := n) hn
    obtain ⟨t', ht', -, hargs⟩ := hS n (Nat.zero_le _) hn
    rw [ht.out] at ht'
    obtain rfl := Option.some.inj ht'
    have he : holdsT wiF T m O (f + 1) n = if t.kind = 1 then t.args.all (fun a => holdsT wiF T m O f a.toNat) else if t.kind = 2 then t.args.any (fun a => holdsT wiF T m O f a.toNat) else leafT wiF t m O := by
      simp only [holdsT, ht.out]
    have IH : Hid (∀ V, View V g ta T tc m oa O oc → ∀ r ∈ t.args, Calls Tryz.prog 80 #[.pointer (some ⟨g, 0, none⟩), .int .i64 r] V fun e w1 => e = .returned (.bool (holdsT wiF T m O f r.toNat)) ∧ Below V.heap.size V w1) := Lib.hid (fun V hV r hr => by
      have h1 := hargs r hr
      have h2 := ih r.toNat V (by omega) (by omega) hV
      rwa [show ((r.toNat : Nat) : Int) = r by omega] at h2)
    generalize holdsT wiF T m O (f + 1) n = R at *
    generalize holdsT wiF T m O f = HT at *
    have hlen := hIn.2.2.2.2.2
    have hfl := hIn.2.1
    have hxl := hIn.2.2.1
    have HE := Lib.hid he
    have v0 := hV.v.cell 0 rfl
    have b1 := (Below.refl w.heap.size w).alloc (Nat.le_refl _) (.cells #[.pointer (some ⟨g, 0, none⟩)] 102)
    have h1 := Bx.new w 102 [.pointer (some ⟨g, 0, none⟩)]
    change Bx (w.alloc (.cells #[.pointer (some ⟨g, 0, none⟩)] 102)) _ _ _ at h1
    obtain ⟨gv, hgv⟩ : ∃ x, x = w.heap.size := ⟨_, rfl⟩
    have hbw : w.heap.size = gv := hgv.symm
    rw [← hgv] at h1
    have hV1 := hV.keep b1
    have y0 := cell_alloc b1 v0
    have x0 := cell_alloc b1 c0
    have x1 := cell_alloc b1 c1
    have x2 := cell_alloc b1 c2
    have x3 := cell_alloc b1 c3
    have x4 := cell_alloc b1 c4
    have x5 := cell_alloc b1 c5
    have hA1 := hA.keep b1
    clear he ih hargs hV v0 c0 c1 c2 c3 c4 c5 hA hgv
    rw [e1] at y0
    go_enter Tryz.func80, Tryz.ntmps80
    go_upto_region 1 with (fail)
    generalize w.alloc (.cells #[.pointer (some ⟨g, 0, none⟩)] 102) = w1 at *
    clear hbw
    have q0 := h1.cell 0 rfl
    have b2 := b1.alloc b1.size (.cells #[.int .i64 t.kind, .int .i64 t.number, .int .i64 t.years, .string ⟨t.field.toArray⟩, .string ⟨t.text.toArray⟩, .slice t.aa t.args.length t.ac] 50)
    have h2 := Bx.new w1 50 (trC t)
    change Bx (w1.alloc (.cells #[.int .i64 t.kind, .int .i64 t.number, .int .i64 t.years, .string ⟨t.field.toArray⟩, .string ⟨t.text.toArray⟩, .slice t.aa t.args.length t.ac] 50)) _ _ _ at h2
    have hW : Hw w (w1.alloc (.cells #[.int .i64 t.kind, .int .i64 t.number, .int .i64 t.years, .string ⟨t.field.toArray⟩, .string ⟨t.text.toArray⟩, .slice t.aa t.args.length t.ac] 50)) gv w1.heap.size g ta T tc m oa O oc t := ⟨h1.alloc _, h2, hV1.keep ((Below.refl _ _).alloc (Nat.le_refl _) _), hA1.keep ((Below.refl _ _).alloc (Nat.le_refl _) _), b2⟩
    clear h1 h2 hV1 hA1 b1 b2
    go_upto_region 2 with (fail)
    generalize w1.alloc (.cells #[.int .i64 t.kind, .int .i64 t.number, .int .i64 t.years, .string ⟨t.field.toArray⟩, .string ⟨t.text.toArray⟩, .slice t.aa t.args.length t.ac] 50) = w2 at *
    generalize w1.heap.size = gt at *
    clear q0 y0 x0 x1 x2 x3 x4 x5
    obtain ⟨z0, zk, zn, zf, zx, za⟩ := hW.held
    go_upto_region 3 with (fail)
    by_cases k1 : t.kind = 1
    · have b1 : (t.kind == 1) = true := by rw [beq_iff_eq]; exact k1
      have HR : Hid (R = t.args.all (fun a => HT a.toNat)) := Lib.hid (by rw [HE.out, if_pos k1])
      have KA := Lib.hid (hol1_any (p := fun r => !(HT r.toNat)) (gv := gv) t.aa t.args t.ac w2 (fun V hV r hr => holds1_clo V (hW.p.keep hV) (IH.out V (hW.v.keep hV) r hr)) hW.r hlen)
      have HB := Lib.hid hW.b
      clear k1 hW HE IH
      go_wp2_with (go_at_call 97; (with_reducible refine KA.out.mono ?_); (first | rintro e w3 rfl hb3 | rintro e w3 ⟨rfl, hb3⟩))
      go_ret
      exact ⟨ret_bool (by rw [HR.out]; exact all_not (fun r => HT r.toNat) t.args), HB.out.trans (hb3.mono HB.out.size)⟩
    have b1 : (t.kind == 1) = false := by rw [beq_eq_false_iff_ne]; exact k1
    by_cases k2 : t.kind = 2
    · have b2 : (t.kind == 2) = true := by rw [beq_iff_eq]; exact k2
      have HR : Hid (R = t.args.any (fun a => HT a.toNat)) := Lib.hid (by rw [HE.out, if_neg k1, if_pos k2])
      have KA := Lib.hid (hol0_any (p := fun r => HT r.toNat) (g := g) t.aa t.args t.ac w2 (fun V hV r hr => IH.out V (hW.v.keep hV) r hr) hW.r hlen)
      have HB := Lib.hid hW.b
      clear k1 k2 hW HE IH
      go_wp2_with (go_at_call 97; (with_reducible refine KA.out.mono ?_); (first | rintro e w3 rfl hb3 | rintro e w3 ⟨rfl, hb3⟩))
      go_ret
      exact ⟨ret_bool HR.out.symm, HB.out.trans (hb3.mono HB.out.size)⟩
    have b2 : (t.kind == 2) = false := by rw [beq_eq_false_iff_ne]; exact k2
    have he2 : R = leafT wiF t m O := by rw [HE.out, if_neg k1, if_neg k2]
    unfold leafT at he2
    clear HE IH k1 k2
    by_cases k3 : t.kind = 3
    · have b3 : (t.kind == 3) = true := by rw [beq_iff_eq]; exact k3
      have kp := fun V (hV : View V g ta T tc m oa O oc) => pers_any V trivial hV hO
      rw [← perL_all] at he2
      rw [if_pos k3] at he2
      obtain ⟨dn, hdn⟩ : ∃ dn : Nat, dst (perL (fun _ => true) O) = dn := ⟨_, rfl⟩
      have hdl : dn ≤ O.length + 1 := by rw [← hdn]; exact Nat.le_succ_of_le (perL_len _ _)
      rw [hdn] at he2
      simp only [hdn] at kp
      have KP := Lib.hid kp
      have HR := Lib.hid he2
      have hw1 : IntKind.i64.wrap (1 + (dn : Int)) = 1 + (dn : Int) := by rw [IntKind.wrap_i64]; omega
      clear he2 hdn k3 kp
      go_upto_region 8 with (fail)
      refine wp_region_held_last' (S := fun w' => w'.cell? ⟨gv, 0, none⟩ = some (.pointer (some ⟨g, 0, none⟩)) ∧ w'.cell? ⟨gt, 1, none⟩ = some (.int .i64 t.number)) 6 rfl (by kernel_rfl) (by kernel_rfl) (by kernel_rfl) ⟨(hW.keep (Below.refl _ _).drew).p.cell 0 rfl, (hW.keep (Below.refl _ _).drew).tt.cell 1 rfl⟩ (fun hHeld => ?_)
      dsimp only [List.dropLast, List.replicate] at hHeld ⊢
      replace hW := hW.keep (Below.refl _ _).drew
      generalize w2.drew = wd at *
      refine held_take (0) (v := ?_) rfl (by kernel_rfl) (by kernel_rfl) (by kernel_rfl) (fun _ _ _ h => h) (Or.inl ⟨by rfl, ?_⟩) (by assumption) ?_
      rotate_left
      · intro w hSw
        try dsimp only at hSw
        go_simp
        with_reducible rfl
      try simp only [Act.put, List.setIfInBounds_toArray, List.set_cons_zero, List.set_cons_succ]
      refine held_take (3) (v := ?_) rfl (by kernel_rfl) (by kernel_rfl) (by kernel_rfl) (fun _ _ _ h => h) (Or.inl ⟨by rfl, ?_⟩) (by assumption) ?_
      rotate_left
      · intro w hSw
        try dsimp only at hSw
        go_simp
        with_reducible rfl
      try simp only [Act.put, List.setIfInBounds_toArray, List.set_cons_zero, List.set_cons_succ]
      refine held_take (4) (v := ?_) rfl (by kernel_rfl) (by kernel_rfl) (by kernel_rfl) (fun _ _ _ h => h) (Or.inl ⟨by rfl, ?_⟩) (by assumption) ?_
      rotate_left
      · intro w hSw
        try dsimp only at hSw
        go_simp
        with_reducible rfl
      try simp only [Act.put, List.setIfInBounds_toArray, List.set_cons_zero, List.set_cons_succ]
      refine wpAnyH_ready (rs := [1]) (by kernel_rfl) (by simp) ?_
      refine held_cons rfl (fun K hK => ?_) AllReadyH.nil
      go_simp
      go_at_call 99
      (with_reducible refine (KP.out _ hW.v).mono ?_)
      (first | rintro e w3 rfl hb3 | rintro e w3 ⟨rfl, hb3⟩)
      have hW3 := hW.keep hb3
      go_wp2_with fail
      refine hK.out _ _ ⟨hW3.p.cell 0 rfl, hW3.tt.cell 1 rfl⟩ (fun hHeld => ?_)
      clear hK K
      try simp only [Act.put, List.setIfInBounds_toArray, List.set_cons_zero, List.set_cons_succ]
      refine held_take (2) (v := ?_) rfl (by kernel_rfl) (by kernel_rfl) (by kernel_rfl) (fun _ _ _ h => h) (Or.inl ⟨by rfl, ?_⟩) (by assumption) ?_
      rotate_left
      · intro w hSw
        try dsimp only at hSw
        go_simp
        with_reducible rfl
      try simp only [Act.put, List.setIfInBounds_toArray, List.set_cons_zero, List.set_cons_succ]
      refine held_take (5) (v := ?_) rfl (by kernel_rfl) (by kernel_rfl) (by kernel_rfl) (fun _ _ _ h => h) (Or.inl ⟨by rfl, ?_⟩) (by assumption) ?_
      rotate_left
      · intro w hSw
        try dsimp only at hSw
        go_simp
        with_reducible rfl
      try simp only [Act.put, List.setIfInBounds_toArray, List.set_cons_zero, List.set_cons_succ]
      refine wpAnyH_done (by kernel_rfl) ?_ _
      dsimp only [Behind]
      have HB := Lib.hid hW3.b
      go_simp
      go_wp2
      go_ret
      exact ⟨ret_bool HR.out.symm, HB.out⟩
    have b3 : (t.kind == 3) = false := by rw [beq_eq_false_iff_ne]; exact k3
    rw [if_neg k3] at he2
    clear k3
    by_cases k4 : t.kind = 4
    · have b4 : (t.kind == 4) = true := by rw [beq_iff_eq]; exact k4
      have kp := fun V (hV : View V g ta T tc m oa O oc) => deps_walk V hV hO
      rw [if_pos k4] at he2
      obtain ⟨dn, hdn⟩ : ∃ dn : Nat, dst (m.dept :: O.map Mem.dept) = dn := ⟨_, rfl⟩
      have hdl : dn ≤ O.length + 1 := by rw [← hdn]; exact Nat.le_trans (dst_le _) (by simp)
      rw [hdn] at he2
      simp only [hdn] at kp
      have KP := Lib.hid kp
      have HR := Lib.hid he2
      clear he2 hdn k4 kp
      go_upto_region 10 with (fail)
      refine wp_region_held_last' (S := fun w' => w'.cell? ⟨gv, 0, none⟩ = some (.pointer (some ⟨g, 0, none⟩)) ∧ w'.cell? ⟨gt, 1, none⟩ = some (.int .i64 t.number)) 5 rfl (by kernel_rfl) (by kernel_rfl) (by kernel_rfl) ⟨(hW.keep (Below.refl _ _).drew).p.cell 0 rfl, (hW.keep (Below.refl _ _).drew).tt.cell 1 rfl⟩ (fun hHeld => ?_)
      dsimp only [List.dropLast, List.replicate] at hHeld ⊢
      replace hW := hW.keep (Below.refl _ _).drew
      generalize w2.drew = wd at *
      refine held_take (0) (v := ?_) rfl (by kernel_rfl) (by kernel_rfl) (by kernel_rfl) (fun _ _ _ h => h) (Or.inl ⟨by rfl, ?_⟩) (by assumption) ?_
      rotate_left
      · intro w hSw
        try dsimp only at hSw
        go_simp
        with_reducible rfl
      try simp only [Act.put, List.setIfInBounds_toArray, List.set_cons_zero, List.set_cons_succ]
      refine held_take (2) (v := ?_) rfl (by kernel_rfl) (by kernel_rfl) (by kernel_rfl) (fun _ _ _ h => h) (Or.inl ⟨by rfl, ?_⟩) (by assumption) ?_
      rotate_left
      · intro w hSw
        try dsimp only at hSw
        go_simp
        with_reducible rfl
      try simp only [Act.put, List.setIfInBounds_toArray, List.set_cons_zero, List.set_cons_succ]
      refine held_take (3) (v := ?_) rfl (by kernel_rfl) (by kernel_rfl) (by kernel_rfl) (fun _ _ _ h => h) (Or.inl ⟨by rfl, ?_⟩) (by assumption) ?_
      rotate_left
      · intro w hSw
        try dsimp only at hSw
        go_simp
        with_reducible rfl
      try simp only [Act.put, List.setIfInBounds_toArray, List.set_cons_zero, List.set_cons_succ]
      refine wpAnyH_ready (rs := [1]) (by kernel_rfl) (by simp) ?_
      refine held_cons rfl (fun K hK => ?_) AllReadyH.nil
      go_simp
      go_at_call 101
      (with_reducible refine (KP.out _ hW.v).mono ?_)
      (first | rintro e w3 rfl hb3 | rintro e w3 ⟨rfl, hb3⟩)
      have hW3 := hW.keep hb3
      go_wp2_with fail
      refine hK.out _ _ ⟨hW3.p.cell 0 rfl, hW3.tt.cell 1 rfl⟩ (fun hHeld => ?_)
      clear hK K
      try simp only [Act.put, List.setIfInBounds_toArray, List.set_cons_zero, List.set_cons_succ]
      refine held_take (4) (v := ?_) rfl (by kernel_rfl) (by kernel_rfl) (by kernel_rfl) (fun _ _ _ h => h) (Or.inl ⟨by rfl, ?_⟩) (by assumption) ?_
      rotate_left
      · intro w hSw
        try dsimp only at hSw
        go_simp
        with_reducible rfl
      try simp only [Act.put, List.setIfInBounds_toArray, List.set_cons_zero, List.set_cons_succ]
      refine wpAnyH_done (by kernel_rfl) ?_ _
      dsimp only [Behind]
      have HB := Lib.hid hW3.b
      go_simp
      go_wp2
      go_ret
      exact ⟨ret_bool HR.out.symm, HB.out⟩
    have b4 : (t.kind == 4) = false := by rw [beq_eq_false_iff_ne]; exact k4
    rw [if_neg k4] at he2
    clear k4
    by_cases k5 : t.kind = 5
    · have b5 : (t.kind == 5) = true := by rw [beq_iff_eq]; exact k5
      have kp := fun V (hW : Hw w V gv gt g ta T tc m oa O oc t) => pers_within V hW.envw hW.v hO
      change R = if t.kind = 5 then decide (t.number ≤ 1 + (dst (perL (fun y => wiF m.day y.day t.years) O) : Int)) else _ at he2
      rw [if_pos k5] at he2
      obtain ⟨dn, hdn⟩ : ∃ dn : Nat, dst (perL (fun y => wiF m.day y.day t.years) O) = dn := ⟨_, rfl⟩
      have hdl : dn ≤ O.length + 1 := by rw [← hdn]; exact Nat.le_succ_of_le (perL_len _ _)
      rw [hdn] at he2
      simp only [hdn] at kp
      have KP := Lib.hid kp
      have HR := Lib.hid he2
      have hw1 : IntKind.i64.wrap (1 + (dn : Int)) = 1 + (dn : Int) := by rw [IntKind.wrap_i64]; omega
      clear he2 hdn k5 kp
      go_upto_region 12 with (fail)
      refine wp_region_held_last' (S := fun w' => w'.cell? ⟨gv, 0, none⟩ = some (.pointer (some ⟨g, 0, none⟩)) ∧ w'.cell? ⟨gt, 1, none⟩ = some (.int .i64 t.number)) 7 rfl (by kernel_rfl) (by kernel_rfl) (by kernel_rfl) ⟨(hW.keep (Below.refl _ _).drew).p.cell 0 rfl, (hW.keep (Below.refl _ _).drew).tt.cell 1 rfl⟩ (fun hHeld => ?_)
      dsimp only [List.dropLast, List.replicate] at hHeld ⊢
      replace hW := hW.keep (Below.refl _ _).drew
      generalize w2.drew = wd at *
      refine held_take (0) (v := ?_) rfl (by kernel_rfl) (by kernel_rfl) (by kernel_rfl) (fun _ _ _ h => h) (Or.inl ⟨by rfl, ?_⟩) (by assumption) ?_
      rotate_left
      · intro w hSw
        try dsimp only at hSw
        go_simp
        with_reducible rfl
      try simp only [Act.put, List.setIfInBounds_toArray, List.set_cons_zero, List.set_cons_succ]
      refine held_take (1) (v := ?_) rfl (by kernel_rfl) (by kernel_rfl) (by kernel_rfl) (fun _ _ _ h => h) (Or.inl ⟨by rfl, ?_⟩) (by assumption) ?_
      rotate_left
      · intro w hSw
        try dsimp only at hSw
        go_simp
        with_reducible rfl
      try simp only [Act.put, List.setIfInBounds_toArray, List.set_cons_zero, List.set_cons_succ]
      refine held_take (4) (v := ?_) rfl (by kernel_rfl) (by kernel_rfl) (by kernel_rfl) (fun _ _ _ h => h) (Or.inl ⟨by rfl, ?_⟩) (by assumption) ?_
      rotate_left
      · intro w hSw
        try dsimp only at hSw
        go_simp
        with_reducible rfl
      try simp only [Act.put, List.setIfInBounds_toArray, List.set_cons_zero, List.set_cons_succ]
      refine held_take (5) (v := ?_) rfl (by kernel_rfl) (by kernel_rfl) (by kernel_rfl) (fun _ _ _ h => h) (Or.inl ⟨by rfl, ?_⟩) (by assumption) ?_
      rotate_left
      · intro w hSw
        try dsimp only at hSw
        go_simp
        with_reducible rfl
      try simp only [Act.put, List.setIfInBounds_toArray, List.set_cons_zero, List.set_cons_succ]
      refine wpAnyH_ready (rs := [2]) (by kernel_rfl) (by simp) ?_
      refine held_cons rfl (fun K hK => ?_) AllReadyH.nil
      go_simp
      go_at_call 99
      (with_reducible refine (KP.out _ hW).mono ?_)
      (first | rintro e w3 rfl hb3 | rintro e w3 ⟨rfl, hb3⟩)
      have hW3 := hW.keep hb3
      go_wp2_with fail
      refine hK.out _ _ ⟨hW3.p.cell 0 rfl, hW3.tt.cell 1 rfl⟩ (fun hHeld => ?_)
      clear hK K
      try simp only [Act.put, List.setIfInBounds_toArray, List.set_cons_zero, List.set_cons_succ]
      refine held_take (3) (v := ?_) rfl (by kernel_rfl) (by kernel_rfl) (by kernel_rfl) (fun _ _ _ h => h) (Or.inl ⟨by rfl, ?_⟩) (by assumption) ?_
      rotate_left
      · intro w hSw
        try dsimp only at hSw
        go_simp
        with_reducible rfl
      try simp only [Act.put, List.setIfInBounds_toArray, List.set_cons_zero, List.set_cons_succ]
      refine held_take (6) (v := ?_) rfl (by kernel_rfl) (by kernel_rfl) (by kernel_rfl) (fun _ _ _ h => h) (Or.inl ⟨by rfl, ?_⟩) (by assumption) ?_
      rotate_left
      · intro w hSw
        try dsimp only at hSw
        go_simp
        with_reducible rfl
      try simp only [Act.put, List.setIfInBounds_toArray, List.set_cons_zero, List.set_cons_succ]
      refine wpAnyH_done (by kernel_rfl) ?_ _
      dsimp only [Behind]
      have HB := Lib.hid hW3.b
      go_simp
      go_wp2
      go_ret
      exact ⟨ret_bool HR.out.symm, HB.out⟩
    have b5 : (t.kind == 5) = false := by rw [beq_eq_false_iff_ne]; exact k5
    rw [if_neg k5] at he2
    clear k5
    by_cases k6 : t.kind = 6
    · have b6 : (t.kind == 6) = true := by rw [beq_iff_eq]; exact k6
      rw [if_pos k6] at he2
      have HR := Lib.hid he2
      have v6 := hW.v.v.cell 6 rfl
      have KA := Lib.hid (first_any oa O oc w2 hW.envn hW.v.o (by omega))
      have HB := Lib.hid hW.b
      clear he2 hW k6
      go_wp2_with (go_at_call 104; (with_reducible refine KA.out.mono ?_); (first | rintro e w3 rfl hb3 | rintro e w3 ⟨rfl, hb3⟩))
      go_ret
      exact ⟨ret_bool HR.out.symm, HB.out.trans (hb3.mono HB.out.size)⟩
    have b6 : (t.kind == 6) = false := by rw [beq_eq_false_iff_ne]; exact k6
    rw [if_neg k6] at he2
    clear k6
    by_cases k7 : t.kind = 7
    · have b7 : (t.kind == 7) = true := by rw [beq_iff_eq]; exact k7
      have kp := fun V gf gx (hE : EnvA V gf gx t.field t.text) (hV : View V g ta T tc m oa O oc) => pers_says V hE hV hO
      have KO := Lib.hid (fun V gf gx (hE : EnvA V gf gx t.field t.text) (hV : View V g ta T tc m oa O oc) => own_says V hE hV)
      have KAn := Lib.hid (answers_walk t.field t.text w2)
      change R = if t.kind = 7 then decide (t.number ≤ (if saysB t.field t.text m = true then 1 else 0) + (dst (perL (fun y => saysB t.field t.text y) O) : Int)) else _ at he2
      rw [if_pos k7] at he2
      obtain ⟨dn, hdn⟩ : ∃ dn : Nat, dst (perL (fun y => saysB t.field t.text y) O) = dn := ⟨_, rfl⟩
      have hdl : dn ≤ O.length + 1 := by rw [← hdn]; exact Nat.le_succ_of_le (perL_len _ _)
      rw [hdn] at he2
      simp only [hdn] at kp
      have KP := Lib.hid kp
      have HR := Lib.hid he2
      have ho : (if saysB t.field t.text m = true then (1 : Int) else 0) = 0 ∨ (if saysB t.field t.text m = true then (1 : Int) else 0) = 1 := by split <;> simp
      clear he2 hdn k7 kp
      generalize (if saysB t.field t.text m = true then (1 : Int) else 0) = own at *
      have hw1 : IntKind.i64.wrap (own + (dn : Int)) = own + (dn : Int) := by rw [IntKind.wrap_i64]; omega
      clear ho
      go_upto_region 17 with (go_at_call 106; (with_reducible refine KAn.out.mono ?_); (first | rintro e w9 ⟨gf, gx, rfl, hEA, hb9⟩ | rintro e w9 gf gx rfl hEA hb9))
      replace hW := hW.keep hb9
      clear hb9 KAn z0 zk zn zf zx za
      refine wp_region_held_last' (S := fun w' => w'.cell? ⟨gv, 0, none⟩ = some (.pointer (some ⟨g, 0, none⟩)) ∧ w'.cell? ⟨gt, 1, none⟩ = some (.int .i64 t.number)) 10 rfl (by kernel_rfl) (by kernel_rfl) (by kernel_rfl) ⟨(hW.keep (Below.refl _ _).drew).p.cell 0 rfl, (hW.keep (Below.refl _ _).drew).tt.cell 1 rfl⟩ (fun hHeld => ?_)
      dsimp only [List.dropLast, List.replicate] at hHeld ⊢
      replace hW := hW.keep (Below.refl _ _).drew
      replace hEA := hEA.keep (Below.refl _ _).drew
      generalize w9.drew = wd at *
      refine held_take (0) (v := ?_) rfl (by kernel_rfl) (by kernel_rfl) (by kernel_rfl) (fun _ _ _ h => h) (Or.inl ⟨by rfl, ?_⟩) (by assumption) ?_
      rotate_left
      · intro w hSw
        try dsimp only at hSw
        go_simp
        with_reducible rfl
      try simp only [Act.put, List.setIfInBounds_toArray, List.set_cons_zero, List.set_cons_succ]
      refine held_take (1) (v := ?_) rfl (by kernel_rfl) (by kernel_rfl) (by kernel_rfl) (fun _ _ _ h => h) (Or.inl ⟨by rfl, ?_⟩) (by assumption) ?_
      rotate_left
      · intro w hSw
        try dsimp only at hSw
        go_simp
        with_reducible rfl
      try simp only [Act.put, List.setIfInBounds_toArray, List.set_cons_zero, List.set_cons_succ]
      refine held_take (3) (v := ?_) rfl (by kernel_rfl) (by kernel_rfl) (by kernel_rfl) (fun _ _ _ h => h) (Or.inl ⟨by rfl, ?_⟩) (by assumption) ?_
      rotate_left
      · intro w hSw
        try dsimp only at hSw
        go_simp
        with_reducible rfl
      try simp only [Act.put, List.setIfInBounds_toArray, List.set_cons_zero, List.set_cons_succ]
      refine held_take (4) (v := ?_) rfl (by kernel_rfl) (by kernel_rfl) (by kernel_rfl) (fun _ _ _ h => h) (Or.inl ⟨by rfl, ?_⟩) (by assumption) ?_
      rotate_left
      · intro w hSw
        try dsimp only at hSw
        go_simp
        with_reducible rfl
      try simp only [Act.put, List.setIfInBounds_toArray, List.set_cons_zero, List.set_cons_succ]
      refine held_take (7) (v := ?_) rfl (by kernel_rfl) (by kernel_rfl) (by kernel_rfl) (fun _ _ _ h => h) (Or.inl ⟨by rfl, ?_⟩) (by assumption) ?_
      rotate_left
      · intro w hSw
        try dsimp only at hSw
        go_simp
        with_reducible rfl
      try simp only [Act.put, List.setIfInBounds_toArray, List.set_cons_zero, List.set_cons_succ]
      refine held_take (8) (v := ?_) rfl (by kernel_rfl) (by kernel_rfl) (by kernel_rfl) (fun _ _ _ h => h) (Or.inl ⟨by rfl, ?_⟩) (by assumption) ?_
      rotate_left
      · intro w hSw
        try dsimp only at hSw
        go_simp
        with_reducible rfl
      try simp only [Act.put, List.setIfInBounds_toArray, List.set_cons_zero, List.set_cons_succ]
      refine wpAnyH_ready (rs := [2]) (by kernel_rfl) (by simp) ?_
      refine held_cons rfl (fun K hK => ?_) AllReadyH.nil
      go_simp
      go_at_call 107
      (with_reducible refine (KO.out _ _ _ hEA hW.v).mono ?_)
      (first | rintro e w3 rfl hb3 | rintro e w3 ⟨rfl, hb3⟩)
      have hW3 := hW.keep hb3
      have hEA3 := hEA.keep hb3
      go_wp2_with fail
      refine hK.out _ _ ⟨hW3.p.cell 0 rfl, hW3.tt.cell 1 rfl⟩ (fun hHeld => ?_)
      clear hK K
      try simp only [Act.put, List.setIfInBounds_toArray, List.set_cons_zero, List.set_cons_succ]
      refine wpAnyH_ready (rs := [5]) (by kernel_rfl) (by simp) ?_
      refine held_cons rfl (fun K hK => ?_) AllReadyH.nil
      go_simp
      go_at_call 99
      (with_reducible refine (KP.out _ _ _ hEA3 hW3.v).mono ?_)
      (first | rintro e w4 rfl hb4 | rintro e w4 ⟨rfl, hb4⟩)
      have hW4 := hW3.keep hb4
      have hEA4 := hEA3.keep hb4
      go_wp2_with fail
      refine hK.out _ _ ⟨hW4.p.cell 0 rfl, hW4.tt.cell 1 rfl⟩ (fun hHeld => ?_)
      clear hK K
      try simp only [Act.put, List.setIfInBounds_toArray, List.set_cons_zero, List.set_cons_succ]
      refine held_take (6) (v := ?_) rfl (by kernel_rfl) (by kernel_rfl) (by kernel_rfl) (fun _ _ _ h => h) (Or.inl ⟨by rfl, ?_⟩) (by assumption) ?_
      rotate_left
      · intro w hSw
        try dsimp only at hSw
        go_simp
        with_reducible rfl
      try simp only [Act.put, List.setIfInBounds_toArray, List.set_cons_zero, List.set_cons_succ]
      refine held_take (9) (v := ?_) rfl (by kernel_rfl) (by kernel_rfl) (by kernel_rfl) (fun _ _ _ h => h) (Or.inl ⟨by rfl, ?_⟩) (by assumption) ?_
      rotate_left
      · intro w hSw
        try dsimp only at hSw
        go_simp
        with_reducible rfl
      try simp only [Act.put, List.setIfInBounds_toArray, List.set_cons_zero, List.set_cons_succ]
      refine wpAnyH_done (by kernel_rfl) ?_ _
      dsimp only [Behind]
      have HB := Lib.hid hW4.b
      go_simp
      go_wp2
      go_ret
      exact ⟨ret_bool HR.out.symm, HB.out⟩
    have b7 : (t.kind == 7) = false := by rw [beq_eq_false_iff_ne]; exact k7
    rw [if_neg k7] at he2
    clear k7
    have HR := Lib.hid he2
    have HB := Lib.hid hW.b
    have e8 : (t.kind == 8) = decide (t.kind = 8) := by rw [Bool.eq_iff_iff]; simp
    clear he2 hW
    go_wp2
    go_ret
    exact ⟨ret_bool HR.out.symm, HB.out⟩
end Go.Proofs.YtpofijdkckaphaaGreatDoor
