/- Plays: dice whose numbers are not looked at; the closure of play.Condition. -/
import Derived.Test.YtpofijdkckaphaaGreatDoorGKp
import Derived.Test.YtpofijdkckaphaaGreatDoorGMod
import Derived.Test.YtpofijdkckaphaaGreatDoorRegionL
namespace Go.Proofs.YtpofijdkckaphaaGreatDoor
open Go.RowKit
/-- dice, however many numbers were given out, beside what lay before -/
structure Dc (W w : World) (db : Nat) (p : Option Addr) (l : List Int) (cap : Nat) : Prop where
  env : ∃ q, Env W w db p l cap q
  lo : W.heap.size ≤ db
  rd : Rd W p (ints l)
  len : l.length ≤ 281474976710656
/-- a world as it was but for the dice -/
abbrev KD (db : Nat) (w w' : World) : Prop := Kp (fun j => j = db) w w'
section
variable {W w w' : World} {db : Nat} {p : Option Addr} {l : List Int} {cap : Nat}
theorem Dc.lt (h : Dc W w db p l cap) : db < w.heap.size := by
  obtain ⟨q, hq⟩ := h.env
  exact hq.dice.lt
theorem Dc.below (h : Dc W w db p l cap) : Below W.heap.size W w := by
  obtain ⟨q, hq⟩ := h.env
  exact hq.below
theorem Dc.keep (h : Dc W w db p l cap) (hb : Below w.heap.size w w') : Dc W w' db p l cap := by
  obtain ⟨q, hq⟩ := h.env
  exact ⟨⟨q, hq.keep hb⟩, h.lo, h.rd, h.len⟩
theorem Dc.kp {S : Nat → Prop} (h : Dc W w db p l cap) (hk : Kp S w w') (hs : ∀ j, j ≤ db → ¬ S j) : Dc W w' db p l cap := by
  obtain ⟨q, hq⟩ := h.env
  have hlt := hq.dice.lt
  have hlo := h.lo
  exact ⟨⟨q, hq.kp hk (by omega) (fun j hj => hs j (by omega)) (hs db (Nat.le_refl _)) h.rd⟩, h.lo, h.rd, h.len⟩
theorem Dc.ne (h : Dc W w db p l cap) : 0 < l.length → ∀ g off, p = some ⟨g, off, none⟩ → g ≠ db := rd_ne h.rd h.lo
theorem KD.tr {a b c : World} (h : KD db a b) (k : KD db b c) : KD db a c := Kp.trans h k (fun _ _ e => e)
theorem KD.of_below {a b : World} (h : Below a.heap.size a b) : KD db a b := Kp.of_below h _
theorem KD.set {a b : World} (h : KD db a b) {g : Nat} (hg : a.heap.size ≤ g) (o : Nat) (v : Value) : KD db a (b.setCell ⟨g, o, none⟩ v) :=
  h.trans (setCell_kp b g o v (S := fun j => j = g) rfl) (fun j hj e => by omega)
theorem dnext (h : Dc W w db p l cap) (n : Int) (h1 : 1 ≤ n) (h2 : n ≤ 1000000) :
    Calls Tryz.prog 17 #[.pointer (some ⟨db, 0, none⟩), .int .i64 n] w fun e w' => ∃ z : Nat, e = .returned (.int .i64 (z : Int)) ∧ (z : Int) < n ∧ Dc W w' db p l cap ∧ KD db w w' := by
  obtain ⟨q, hq⟩ := h.env
  refine (next_walk db p l cap q n w hq.dice hq.rd h.ne h.len (by omega) (by omega)).mono ?_
  rintro e w' ⟨he, hD, hg⟩
  have a1 := dnum_lo l q (n := n) (by omega)
  have a2 := dnum_hi l q (n := n) (by omega)
  exact ⟨(dnum l q n).toNat, by rw [he, Int.toNat_of_nonneg a1], by omega, ⟨⟨_, hq.grown h.ne h.lo hD hg⟩, h.lo, h.rd, h.len⟩, Kp.of_grown hg (fun j e => (Option.some.inj e).symm)⟩
theorem dpick (h : Dc W w db p l cap) (g : Nat) (xs : List Int) (xc : Nat) (hX : Rd w (some ⟨g, 0, none⟩) (ints xs)) (hgd : g ≠ db) (hx1 : 1 ≤ xs.length) (hx2 : xs.length ≤ 1000) :
    Calls Tryz.prog 70 #[.pointer (some ⟨db, 0, none⟩), .slice (some ⟨g, 0, none⟩) xs.length xc] w fun e w' => ∃ x, e = .returned (.int .i64 x) ∧ x ∈ xs ∧ Dc W w' db p l cap ∧ KD db w w' := by
  obtain ⟨q, hq⟩ := h.env
  refine (of_walk db p l cap q g xs xc w hq.dice hq.rd h.ne h.len hX hgd hx1 hx2).mono ?_
  rintro e w' ⟨he, hD, hg⟩
  exact ⟨_, he, ofF_mem l q xs hx1, ⟨⟨_, hq.grown h.ne h.lo hD hg⟩, h.lo, h.rd, h.len⟩, Kp.of_grown hg (fun j e => (Option.some.inj e).symm)⟩
theorem dtext (h : Dc W w db p l cap) (g : Nat) (xs : List (List UInt8)) (xc : Nat) (hX : Rd w (some ⟨g, 0, none⟩) (strs xs)) (hgd : g ≠ db) (hx1 : 1 ≤ xs.length) (hx2 : xs.length ≤ 1000) :
    Calls Tryz.prog 31 #[.pointer (some ⟨db, 0, none⟩), .slice (some ⟨g, 0, none⟩) xs.length xc] w fun e w' => ∃ x, e = .returned (.string ⟨x.toArray⟩) ∧ x ∈ xs ∧ Dc W w' db p l cap ∧ KD db w w' := by
  obtain ⟨q, hq⟩ := h.env
  refine (dword_walk db p l cap q g xs xc w hq.dice hq.rd h.ne h.len hX hgd hx1 hx2).mono ?_
  rintro e w' ⟨he, hD, hg⟩
  exact ⟨_, he, wordF_mem l q xs hx1, ⟨⟨_, hq.grown h.ne h.lo hD hg⟩, h.lo, h.rd, h.len⟩, Kp.of_grown hg (fun j e => (Option.some.inj e).symm)⟩
set_option maxRecDepth 100000 in
theorem done_walk (h : Dc W w db p l cap) (n : Int) (h1 : 1 ≤ n) (h2 : n ≤ 1000000) :
    Calls Tryz.prog 32 #[.pointer (some ⟨db, 0, none⟩), .int .i64 n] w fun e w' => ∃ b, e = .returned (.bool b) ∧ Dc W w' db p l cap ∧ KD db w w' := by
  have K1 := Lib.hid (dnext h n h1 h2)
  have e1 : IntKind.i64.wrap (n - 1) = n - 1 := by rw [IntKind.wrap_i64] <;> omega
  clear h
  go_enter Tryz.func32, Tryz.ntmps32
  go_wp2_with (go_at_call 17; (with_reducible refine K1.out.mono ?_); (first | rintro e w1 ⟨z, rfl, hz, hD, hk⟩ | rintro e w1 z rfl hz hD hk))
  go_ret
  exact ⟨_, rfl, hD, hk⟩
end
theorem Trm.ret {fn : Func} {t : Tmp} (h : fn.results = #[.cell t 50]) (tmps : Array Value) {w : World} {g : Nat} {v0 v1 v2 v3 v4 v5 : Value} (ht : tmps.getD t undef = .pointer (some ⟨g, 0, none⟩)) (hD : Bx w g 50 [v0, v1, v2, v3, v4, v5]) :
    (results fn tmps).run Tryz.prog w = .ok (.agg #[v0, v1, v2, v3, v4, v5]) w := by
  have c0 := hD.cell 0 (v := v0) rfl
  have c1 := hD.cell 1 (v := v1) rfl
  have c2 := hD.cell 2 (v := v2) rfl
  have c3 := hD.cell 3 (v := v3) rfl
  have c4 := hD.cell 4 (v := v4) rfl
  have c5 := hD.cell 5 (v := v5) rfl
  have ht' : tmps[t]?.getD undef = .pointer (some ⟨g, 0, none⟩) := by simpa using ht
  simp [results, h, ht', go_sem, c0, c1, c2, c3, c4, c5]
/-- what the closure of Condition gives -/
def TrmRes (W w : World) (db : Nat) (p : Option Addr) (l : List Int) (cap : Nat) (e : Ending) (w' : World) : Prop :=
  ∃ (k n y : Int) (f x : List UInt8), e = .returned (.agg #[.int .i64 k, .int .i64 n, .int .i64 y, .string ⟨f.toArray⟩, .string ⟨x.toArray⟩, .slice none 0 0]) ∧ ((0 ≤ k ∧ k ≤ 1000) ∧ (0 ≤ n ∧ n ≤ 1000) ∧ (0 ≤ y ∧ y ≤ 1000) ∧ f.length ≤ 1000 ∧ x.length ≤ 1000) ∧ Dc W w' db p l cap ∧ KD db w w'
theorem TrmRes.mk {W w w' : World} {db : Nat} {p : Option Addr} {l : List Int} {cap : Nat} (k n y : Int) (f x : List UInt8) (h : (0 ≤ k ∧ k ≤ 1000) ∧ (0 ≤ n ∧ n ≤ 1000) ∧ (0 ≤ y ∧ y ≤ 1000) ∧ f.length ≤ 1000 ∧ x.length ≤ 1000) (hD : Dc W w' db p l cap) (hk : KD db w w') :
    TrmRes W w db p l cap (.returned (.agg #[.int .i64 k, .int .i64 n, .int .i64 y, .string ⟨f.toArray⟩, .string ⟨x.toArray⟩, .slice none 0 0])) w' := ⟨k, n, y, f, x, rfl, h, hD, hk⟩
/-- the closure under way: its result's box -/
structure Tw (W w0 w : World) (db : Nat) (p : Option Addr) (l : List Int) (cap gt g : Nat) : Prop where
  d : Dc W w db p l cap
  k : KD db w0 w
  b : Bx w gt 50 [.int .i64 0, .int .i64 0, .int .i64 0, .string ⟨#[]⟩, .string ⟨#[]⟩, .slice none 0 0]
  c : Bx w g 25 [.pointer (some ⟨db, 0, none⟩)]
  lo : w0.heap.size ≤ gt
  n1 : gt ≠ db
  n2 : g ≠ db
  n3 : gt ≠ g
section
variable {W w0 w w' : World} {db : Nat} {p : Option Addr} {l : List Int} {cap gt g : Nat}
theorem Tw.next (h : Tw W w0 w db p l cap gt g) (hD : Dc W w' db p l cap) (hk : KD db w w') : Tw W w0 w' db p l cap gt g :=
  ⟨hD, h.k.tr hk, h.b.kp hk h.n1, h.c.kp hk h.n2, h.lo, h.n1, h.n2, h.n3⟩
theorem Tw.keep (h : Tw W w0 w db p l cap gt g) (hb : Below w.heap.size w w') : Tw W w0 w' db p l cap gt g := h.next (h.d.keep hb) (KD.of_below hb)
theorem Tw.cells (h : Tw W w0 w db p l cap gt g) : w.cell? ⟨gt, 0, none⟩ = some (.int .i64 0) ∧ w.cell? ⟨gt, 1, none⟩ = some (.int .i64 0) ∧ w.cell? ⟨gt, 2, none⟩ = some (.int .i64 0) ∧ w.cell? ⟨gt, 3, none⟩ = some (.string ⟨#[]⟩) ∧ w.cell? ⟨gt, 4, none⟩ = some (.string ⟨#[]⟩) ∧ w.cell? ⟨gt, 5, none⟩ = some (.slice none 0 0) ∧ w.frozen? ⟨gt, 0, none⟩ = false ∧ w.frozen? ⟨gt, 1, none⟩ = false ∧ w.frozen? ⟨gt, 2, none⟩ = false ∧ w.frozen? ⟨gt, 3, none⟩ = false ∧ w.frozen? ⟨gt, 4, none⟩ = false ∧ w.frozen? ⟨gt, 5, none⟩ = false :=
  ⟨h.b.cell 0 rfl, h.b.cell 1 rfl, h.b.cell 2 rfl, h.b.cell 3 rfl, h.b.cell 4 rfl, h.b.cell 5 rfl, h.b.free 0, h.b.free 1, h.b.free 2, h.b.free 3, h.b.free 4, h.b.free 5⟩
/-- the result stored -/
theorem Tw.put (h : Tw W w0 w db p l cap gt g) (hlo : db < w0.heap.size) (v0 v1 v2 v3 v4 v5 : Value) : Bx (w.setCells gt 0 [v0, v1, v2, v3, v4, v5]) gt 50 [v0, v1, v2, v3, v4, v5] ∧ Dc W (w.setCells gt 0 [v0, v1, v2, v3, v4, v5]) db p l cap ∧ KD db w0 (w.setCells gt 0 [v0, v1, v2, v3, v4, v5]) := by
  have hg := grownBy_setCells w gt 0 [v0, v1, v2, v3, v4, v5]
  have hk := Kp.of_grown hg (S := fun j => j = gt) (fun j e => (Option.some.inj e).symm)
  have hl := h.lo
  exact ⟨h.b.setAll _ rfl, h.d.kp hk (fun j hj e => by omega), h.k.trans hk (fun j hj e => by omega)⟩
end
set_option maxRecDepth 100000 in
set_option maxHeartbeats 4000000 in
theorem pterm_walk (W : World) (db : Nat) (p : Option Addr) (l : List Int) (cap : Nat) (g : Nat) (w : World) (h : Dc W w db p l cap) (hg : Bx w g 25 [.pointer (some ⟨db, 0, none⟩)]) (hne : g ≠ db) :
    Calls Tryz.prog 69 #[.pointer (some ⟨g, 0, none⟩)] w (TrmRes W w db p l cap) := by
  have hdl := h.lt
  have hgl := hg.lt
  have hb0 := (Below.refl w.heap.size w).alloc (Nat.le_refl _) (.cells #[.int .i64 0, .int .i64 0, .int .i64 0, .string ⟨#[]⟩, .string ⟨#[]⟩, .slice none 0 0] 50)
  have h1 := Bx.new w 50 [.int .i64 0, .int .i64 0, .int .i64 0, .string ⟨#[]⟩, .string ⟨#[]⟩, .slice none 0 0]
  change Bx (w.alloc (.cells #[.int .i64 0, .int .i64 0, .int .i64 0, .string ⟨#[]⟩, .string ⟨#[]⟩, .slice none 0 0] 50)) _ _ _ at h1
  have hT : Tw W w (w.alloc (.cells #[.int .i64 0, .int .i64 0, .int .i64 0, .string ⟨#[]⟩, .string ⟨#[]⟩, .slice none 0 0] 50)) db p l cap w.heap.size g := ⟨h.keep hb0, KD.of_below hb0, h1, hg.keep hb0, Nat.le_refl _, by omega, hne, by omega⟩
  have HDL := Lib.hid hdl
  clear h hg h1 hb0 hdl hgl
  go_enter Tryz.func69, Tryz.ntmps69
  go_upto_region 1 with (fail)
  generalize w.alloc (.cells #[.int .i64 0, .int .i64 0, .int .i64 0, .string ⟨#[]⟩, .string ⟨#[]⟩, .slice none 0 0] 50) = w1 at *
  generalize hgt : w.heap.size = gt at *
  have HGT := Lib.hid hgt
  clear hgt
  have K1 := Lib.hid (dnext hT.d 8 (by decide) (by decide))
  have c1 := hT.c.cell 0 rfl
  go_upto_region 2 with (go_at_call 17; (with_reducible refine K1.out.mono ?_); (first | rintro e w2 ⟨z, rfl, hz, hD, hk⟩ | rintro e w2 z rfl hz hD hk))
  replace hT := hT.next hD hk
  clear c1 K1 hD hk w1
  have c1 := hT.c.cell 0 rfl
  obtain ⟨b0, b1, b2, b3, b4, b5, f0, f1, f2, f3, f4, f5⟩ := hT.cells
  rcases (show z = 0 ∨ z = 1 ∨ z = 2 ∨ z = 3 ∨ z = 4 ∨ z = 5 ∨ z = 6 ∨ z = 7 by omega) with rfl | rfl | rfl | rfl | rfl | rfl | rfl | rfl
  · clear b0 b1 b2 b3 b4 b5 f0 f1 f2 f3 f4 f5 hz
    have K2 := Lib.hid (dnext hT.d 4 (by decide) (by decide))
    have HT := Lib.hid hT
    go_wp2_with (go_at_call 17; (with_reducible refine K2.out.mono ?_); (first | rintro e w3 ⟨y, rfl, hy, hD, hk⟩ | rintro e w3 y rfl hy hD hk); have hT3 := hT.next hD hk; obtain ⟨b0, b1, b2, b3, b4, b5, f0, f1, f2, f3, f4, f5⟩ := hT3.cells; have e1 : IntKind.i64.wrap (1 + (y : Int)) = 1 + (y : Int) := (by rw [IntKind.wrap_i64]; omega))
    have hP := hT3.put (by have := HDL.out; have := HGT.out; omega) (.int .i64 3) (.int .i64 (1 + (y : Int))) (.int .i64 0) (.string ⟨#[]⟩) (.string ⟨#[]⟩) (.slice none 0 0)
    exact bodyPost_ret (Trm.ret (t := 1) rfl _ rfl hP.1) rfl (TrmRes.mk 3 (1 + (y : Int)) 0 [] [] ⟨by omega, by omega, by omega, by decide, by decide⟩ hP.2.1 hP.2.2)
  · clear b0 b1 b2 b3 b4 b5 f0 f1 f2 f3 f4 f5 hz
    have K2 := Lib.hid (dnext hT.d 4 (by decide) (by decide))
    have HT := Lib.hid hT
    go_wp2_with (go_at_call 17; (with_reducible refine K2.out.mono ?_); (first | rintro e w3 ⟨y, rfl, hy, hD, hk⟩ | rintro e w3 y rfl hy hD hk); have hT3 := hT.next hD hk; obtain ⟨b0, b1, b2, b3, b4, b5, f0, f1, f2, f3, f4, f5⟩ := hT3.cells; have e1 : IntKind.i64.wrap (1 + (y : Int)) = 1 + (y : Int) := (by rw [IntKind.wrap_i64]; omega))
    have hP := hT3.put (by have := HDL.out; have := HGT.out; omega) (.int .i64 3) (.int .i64 (1 + (y : Int))) (.int .i64 0) (.string ⟨#[]⟩) (.string ⟨#[]⟩) (.slice none 0 0)
    exact bodyPost_ret (Trm.ret (t := 1) rfl _ rfl hP.1) rfl (TrmRes.mk 3 (1 + (y : Int)) 0 [] [] ⟨by omega, by omega, by omega, by decide, by decide⟩ hP.2.1 hP.2.2)
  · clear b0 b1 b2 b3 b4 b5 f0 f1 f2 f3 f4 f5 hz
    have K2 := Lib.hid (dnext hT.d 4 (by decide) (by decide))
    have HT := Lib.hid hT
    go_wp2_with (go_at_call 17; (with_reducible refine K2.out.mono ?_); (first | rintro e w3 ⟨y, rfl, hy, hD, hk⟩ | rintro e w3 y rfl hy hD hk); have hT3 := hT.next hD hk; obtain ⟨b0, b1, b2, b3, b4, b5, f0, f1, f2, f3, f4, f5⟩ := hT3.cells; have e1 : IntKind.i64.wrap (1 + (y : Int)) = 1 + (y : Int) := (by rw [IntKind.wrap_i64]; omega))
    have hP := hT3.put (by have := HDL.out; have := HGT.out; omega) (.int .i64 3) (.int .i64 (1 + (y : Int))) (.int .i64 0) (.string ⟨#[]⟩) (.string ⟨#[]⟩) (.slice none 0 0)
    exact bodyPost_ret (Trm.ret (t := 1) rfl _ rfl hP.1) rfl (TrmRes.mk 3 (1 + (y : Int)) 0 [] [] ⟨by omega, by omega, by omega, by decide, by decide⟩ hP.2.1 hP.2.2)
  · clear b0 b1 b2 b3 b4 b5 f0 f1 f2 f3 f4 f5 hz
    have K2 := Lib.hid (dnext hT.d 3 (by decide) (by decide))
    have HT := Lib.hid hT
    go_wp2_with (go_at_call 17; (with_reducible refine K2.out.mono ?_); (first | rintro e w3 ⟨y, rfl, hy, hD, hk⟩ | rintro e w3 y rfl hy hD hk); have hT3 := hT.next hD hk; obtain ⟨b0, b1, b2, b3, b4, b5, f0, f1, f2, f3, f4, f5⟩ := hT3.cells; have e1 : IntKind.i64.wrap (1 + (y : Int)) = 1 + (y : Int) := (by rw [IntKind.wrap_i64]; omega))
    have hP := hT3.put (by have := HDL.out; have := HGT.out; omega) (.int .i64 4) (.int .i64 (1 + (y : Int))) (.int .i64 0) (.string ⟨#[]⟩) (.string ⟨#[]⟩) (.slice none 0 0)
    exact bodyPost_ret (Trm.ret (t := 1) rfl _ rfl hP.1) rfl (TrmRes.mk 4 (1 + (y : Int)) 0 [] [] ⟨by omega, by omega, by omega, by decide, by decide⟩ hP.2.1 hP.2.2)
  · clear b0 b1 b2 b3 b4 b5 f0 f1 f2 f3 f4 f5 hz
    go_upto_region 9 with (fail)
    refine wp_region_held_last' (S := fun w' => w'.cell? ⟨g, 0, none⟩ = some (.pointer (some ⟨db, 0, none⟩))) 6 rfl (by kernel_rfl) (by kernel_rfl) (by kernel_rfl) c1 (fun hHeld => ?_)
    dsimp only [List.dropLast, List.replicate] at hHeld ⊢
    replace hT := hT.keep (Below.refl _ _).drew
    generalize w2.drew = v0 at *
    clear c1
    refine held_take (0) (v := ?_) rfl (by kernel_rfl) (by kernel_rfl) (by kernel_rfl) (fun _ _ _ h => h) (Or.inl ⟨by rfl, ?_⟩) (by assumption) ?_
    rotate_left
    · intro w hSw
      try dsimp only at hSw
      go_simp
      with_reducible rfl
    try simp only [Act.put, List.setIfInBounds_toArray, List.set_cons_zero, List.set_cons_succ]
    refine held_take (3) (v := ?_) rfl (by kernel_rfl) (by kernel_rfl) (by kernel_rfl) (fun _ _ _ h => h) (Or.inl ⟨by rfl, ?_⟩) (by assumption) ?_
    rotate_left
    · intro w hSw
      try dsimp only at hSw
      go_simp
      with_reducible rfl
    try simp only [Act.put, List.setIfInBounds_toArray, List.set_cons_zero, List.set_cons_succ]
    refine wpAnyH_ready (rs := [1]) (by kernel_rfl) (by simp) ?_
    refine held_cons rfl (fun K hK => ?_) AllReadyH.nil
    go_simp
    have K1 := Lib.hid (dnext hT.d 3 (by decide) (by decide))
    go_at_call 17
    (with_reducible refine K1.out.mono ?_)
    (first | rintro e v1 ⟨y, rfl, hy, hD, hk⟩ | rintro e v1 y rfl hy hD hk)
    have hT1 := hT.next hD hk
    clear hD hk K1
    have e1 : IntKind.i64.wrap (1 + (y : Int)) = 1 + (y : Int) := by rw [IntKind.wrap_i64]; omega
    go_wp2_with fail
    refine hK.out _ _ (hT1.c.cell 0 rfl) (fun hHeld => ?_)
    clear hK K
    try simp only [Act.put, List.setIfInBounds_toArray, List.set_cons_zero, List.set_cons_succ]
    refine held_take (2) (v := ?_) rfl (by kernel_rfl) (by kernel_rfl) (by kernel_rfl) (fun _ _ _ h => h) (Or.inl ⟨by rfl, ?_⟩) (by assumption) ?_
    rotate_left
    · intro w hSw
      try dsimp only at hSw
      go_simp
      with_reducible rfl
    try simp only [Act.put, List.setIfInBounds_toArray, List.set_cons_zero, List.set_cons_succ]
    refine wpAnyH_ready (rs := [4]) (by kernel_rfl) (by simp) ?_
    refine held_cons rfl (fun K hK => ?_) AllReadyH.nil
    go_simp
    have K4 := Lib.hid (dnext hT1.d 3 (by decide) (by decide))
    go_at_call 17
    (with_reducible refine K4.out.mono ?_)
    (first | rintro e v2 ⟨x, rfl, hx, hD, hk⟩ | rintro e v2 x rfl hx hD hk)
    have hT2 := hT1.next hD hk
    clear hD hk K4
    have e4 : IntKind.i64.wrap (1 + (x : Int)) = 1 + (x : Int) := by rw [IntKind.wrap_i64]; omega
    go_wp2_with fail
    refine hK.out _ _ (hT2.c.cell 0 rfl) (fun hHeld => ?_)
    clear hK K
    try simp only [Act.put, List.setIfInBounds_toArray, List.set_cons_zero, List.set_cons_succ]
    refine held_take (5) (v := ?_) rfl (by kernel_rfl) (by kernel_rfl) (by kernel_rfl) (fun _ _ _ h => h) (Or.inl ⟨by rfl, ?_⟩) (by assumption) ?_
    rotate_left
    · intro w hSw
      try dsimp only at hSw
      go_simp
      with_reducible rfl
    try simp only [Act.put, List.setIfInBounds_toArray, List.set_cons_zero, List.set_cons_succ]
    refine wpAnyH_done (by kernel_rfl) ?_ _
    dsimp only [Behind]
    obtain ⟨b0, b1, b2, b3, b4, b5, f0, f1, f2, f3, f4, f5⟩ := hT2.cells
    have HT := Lib.hid hT2
    clear hT hT1 hT2 hHeld
    go_simp
    go_wp2
    have hP := HT.out.put (by have := HDL.out; have := HGT.out; omega) (.int .i64 5) (.int .i64 (1 + (y : Int))) (.int .i64 (x : Int)) (.string ⟨#[]⟩) (.string ⟨#[]⟩) (.slice none 0 0)
    exact bodyPost_ret (Trm.ret (t := 1) rfl _ rfl hP.1) rfl (TrmRes.mk 5 (1 + (y : Int)) (x : Int) [] [] ⟨by omega, by omega, by omega, by decide, by decide⟩ hP.2.1 hP.2.2)
  · clear hz
    have HT := Lib.hid hT
    go_wp2
    have hP := HT.out.put (by have := HDL.out; have := HGT.out; omega) (.int .i64 6) (.int .i64 0) (.int .i64 0) (.string ⟨#[]⟩) (.string ⟨#[]⟩) (.slice none 0 0)
    exact bodyPost_ret (Trm.ret (t := 1) rfl _ rfl hP.1) rfl (TrmRes.mk 6 0 0 [] [] ⟨by omega, by omega, by omega, by decide, by decide⟩ hP.2.1 hP.2.2)
  · clear b0 b1 b2 b3 b4 b5 f0 f1 f2 f3 f4 f5 hz
    have K2 := Lib.hid (dnext hT.d 2 (by decide) (by decide))
    have HT := Lib.hid hT
    go_wp2_with (go_at_call 17; (with_reducible refine K2.out.mono ?_); (first | rintro e w3 ⟨y, rfl, hy, hD, hk⟩ | rintro e w3 y rfl hy hD hk); have hT3 := hT.next hD hk; obtain ⟨b0, b1, b2, b3, b4, b5, f0, f1, f2, f3, f4, f5⟩ := hT3.cells; have e1 : IntKind.i64.wrap (1 + (y : Int)) = 1 + (y : Int) := (by rw [IntKind.wrap_i64]; omega))
    have hP := hT3.put (by have := HDL.out; have := HGT.out; omega) (.int .i64 7) (.int .i64 (1 + (y : Int))) (.int .i64 0) (.string ⟨#[107, 105, 110, 100]⟩) (.string ⟨#[97]⟩) (.slice none 0 0)
    exact bodyPost_ret (Trm.ret (t := 1) rfl _ rfl hP.1) rfl (TrmRes.mk 7 (1 + (y : Int)) 0 [107, 105, 110, 100] [97] ⟨by omega, by omega, by omega, by decide, by decide⟩ hP.2.1 hP.2.2)
  · clear hz
    have HT := Lib.hid hT
    go_wp2
    have hP := HT.out.put (by have := HDL.out; have := HGT.out; omega) (.int .i64 8) (.int .i64 0) (.int .i64 0) (.string ⟨#[]⟩) (.string ⟨#[]⟩) (.slice none 0 0)
    exact bodyPost_ret (Trm.ret (t := 1) rfl _ rfl hP.1) rfl (TrmRes.mk 8 0 0 [] [] ⟨by omega, by omega, by omega, by decide, by decide⟩ hP.2.1 hP.2.2)
end Go.Proofs.YtpofijdkckaphaaGreatDoor
