/- The walk of the law EnrolOrder. -/
import Derived.Test.YtnahkfchcminpaaGreatDoorGEnrP
import Derived.Test.YtnahkfchcminpaaGreatDoorGDice
namespace Go.Proofs.YtnahkfchcminpaaGreatDoor
open Go.RowKit
theorem Bases.grow0 {w w' : World} {db : Nat} (h : Bases w) (hg : w.grownBy w' (some db)) (h0 : 0 < db) : Bases w' := by
  obtain ⟨h1, h2, h3, h4⟩ := h
  exact ⟨hg.cell h1 (by simp; omega), hg.cell h2 (by simp; omega), hg.cell h3 (by simp; omega), hg.cell h4 (by simp; omega)⟩
/-- the two rolls -/
structure Eo (W w : World) (B ga gb m1 : Nat) (a1 : Option Addr) (c1 m2 : Nat) (a2 : Option Addr) (c2 : Nat) : Prop where
  x : Bx w ga 30 [.int .i64 500000003, .slice a1 (subI m1).length c1]
  y : Bx w gb 30 [.int .i64 500000003, .slice a2 (subI m2).length c2]
  r : Rd w a1 (rowsC prC (subI m1))
  s : Rd w a2 (rowsC prC (subI m2))
  f1 : ∀ j, rowOf a1 = some j → gb < j
  f2 : ∀ j, rowOf a2 = some j → gb < j
  b : Below B W w
  lo : B ≤ ga
  lt : ga < gb
section
variable {W w w' : World} {B ga gb m1 : Nat} {a1 : Option Addr} {c1 m2 : Nat} {a2 : Option Addr} {c2 : Nat}
theorem Eo.keep (h : Eo W w B ga gb m1 a1 c1 m2 a2 c2) (hb : Below w.heap.size w w') : Eo W w' B ga gb m1 a1 c1 m2 a2 c2 :=
  ⟨h.x.keep hb, h.y.keep hb, h.r.keep hb, h.s.keep hb, h.f1, h.f2, h.b.trans (hb.mono (by have := h.x.lt; have := h.lo; omega)), h.lo, h.lt⟩
theorem Eo.setx (h : Eo W w B ga gb m1 a1 c1 m2 a2 c2) {m' : Nat} {a' : Option Addr} {c' : Nat} (hr : Rd w a' (rowsC prC (subI m'))) (hf : ∀ j, rowOf a' = some j → gb < j) :
    Eo W ((w.setCell ⟨ga, 0, none⟩ (.int .i64 500000003)).setCell ⟨ga, 1, none⟩ (.slice a' (subI m').length c')) B ga gb m' a' c' m2 a2 c2 := by
  have h1 := set_grown w ga 0 (.int .i64 500000003)
  have h2 := set_grown (w.setCell ⟨ga, 0, none⟩ (.int .i64 500000003)) ga 1 (.slice a' (subI m').length c')
  have hg := grown_tr h1 h2
  have hlo := h.lo
  have hlt := h.lt
  refine ⟨(h.x.set 0 _).set 1 _, h.y.grown hg (by simp; omega), hr.grown hg (fun g o e => ?_), h.s.grown hg (fun g o e => ?_), hf, h.f2, (h.b.setCell (p := ⟨ga, 0, none⟩) hlo _).setCell (p := ⟨ga, 1, none⟩) hlo _, hlo, hlt⟩
  · have := hf g (by rw [e]; rfl); simp; omega
  · have := h.f2 g (by rw [e]; rfl); simp; omega
theorem Eo.sety (h : Eo W w B ga gb m1 a1 c1 m2 a2 c2) {m' : Nat} {a' : Option Addr} {c' : Nat} (hr : Rd w a' (rowsC prC (subI m'))) (hf : ∀ j, rowOf a' = some j → gb < j) :
    Eo W ((w.setCell ⟨gb, 0, none⟩ (.int .i64 500000003)).setCell ⟨gb, 1, none⟩ (.slice a' (subI m').length c')) B ga gb m1 a1 c1 m' a' c' := by
  have h1 := set_grown w gb 0 (.int .i64 500000003)
  have h2 := set_grown (w.setCell ⟨gb, 0, none⟩ (.int .i64 500000003)) gb 1 (.slice a' (subI m').length c')
  have hg := grown_tr h1 h2
  have hlo := h.lo
  have hlt := h.lt
  refine ⟨h.x.grown hg (by simp; omega), (h.y.set 0 _).set 1 _, h.r.grown hg (fun g o e => ?_), hr.grown hg (fun g o e => ?_), h.f1, hf, (h.b.setCell (p := ⟨gb, 0, none⟩) (by show _ ≤ gb; omega) _).setCell (p := ⟨gb, 1, none⟩) (by show _ ≤ gb; omega) _, hlo, hlt⟩
  · have := h.f1 g (by rw [e]; rfl); simp; omega
  · have := hf g (by rw [e]; rfl); simp; omega
theorem Eo.cells (h : Eo W w B ga gb m1 a1 c1 m2 a2 c2) : w.cell? ⟨ga, 0, none⟩ = some (.int .i64 500000003) ∧ w.cell? ⟨ga, 1, none⟩ = some (.slice a1 (subI m1).length c1) ∧ w.cell? ⟨gb, 0, none⟩ = some (.int .i64 500000003) ∧ w.cell? ⟨gb, 1, none⟩ = some (.slice a2 (subI m2).length c2) :=
  ⟨h.x.cell 0 rfl, h.x.cell 1 rfl, h.y.cell 0 rfl, h.y.cell 1 rfl⟩
theorem Eo.frees (h : Eo W w B ga gb m1 a1 c1 m2 a2 c2) : w.frozen? ⟨ga, 0, none⟩ = false ∧ w.frozen? ⟨ga, 1, none⟩ = false ∧ w.frozen? ⟨gb, 0, none⟩ = false ∧ w.frozen? ⟨gb, 1, none⟩ = false :=
  ⟨h.x.free 0, h.x.free 1, h.y.free 0, h.y.free 1⟩
end
theorem keys_all : ∀ m, m < 32 → ∀ r ∈ subI m, r.key < 5000 ∧ 0 ≤ r.key := by decide +kernel
theorem sub_i64 {m : Nat} (h : m < 32) : ∀ r ∈ subI m, I64 r.key := fun r hr => by
  have := keys_all m h r hr
  exact ⟨by omega, by omega⟩
/-- a person k + 1 who comes to those who are there: the program's Add -/
theorem add_one {m k : Nat} (hm : m < 32) (hk : k < 5) (ht : m.testBit k = false) (V : World) (a : Option Addr) (c : Nat) (hB : Bases V) (hR : Rd V a (rowsC prC (subI m))) :
    Calls Tryz.prog 12 #[.agg #[.int .i64 500000003, .slice a (subI m).length c], .agg #[.int .i64 ((k + 1 : Nat) : Int), .int .i64 ((4 ^ (k + 2) : Nat) : Int), .int .i64 (((k + 1) % 3 : Nat) : Int)], .agg #[.int .i64 (signR 500000003 4 : Int), .int .i64 (signS 500000003 (k + 2) 4 (clmF ((k + 1 : Nat) : Int) (((k + 1) % 3 : Nat) : Int)) : Int)]] V (RollRes V 500000003 0 (subI (m + 2 ^ k))) := by
  have h := eadd_walk 500000003 a (subI m) c (prsI (k + 1)) (signR 500000003 4 : Int) (signS 500000003 (k + 2) 4 (clmF ((k + 1 : Nat) : Int) (((k + 1) % 3 : Nat) : Int)) : Int) V hB hR (sub_i64 hm) (by have := len_all m hm; omega)
  have he := add_sub hm hk ht
  have hp : addP 0 (prsI (k + 1)) (subI m) = subI (m + 2 ^ k) := by rw [addP, if_pos rfl]; exact ins_all m hm k hk ht
  have he2 : addE 500000003 (subI m) (prsI (k + 1)) (verP 500000003 (prsI (k + 1)).key (clmF (prsI (k + 1)).id (prsI (k + 1)).dep) (signR 500000003 4 : Int) (signS 500000003 (k + 2) 4 (clmF ((k + 1 : Nat) : Int) (((k + 1) % 3 : Nat) : Int)) : Int)) = 0 := he
  rw [he2, hp] at h
  exact h
/-- what a turn meets -/
theorem turn_contracts {m kk : Nat} (hm : m < 32) (hk : kk < 5) (ht : m.testBit kk = false) : ∃ (idv y sR sS : Int) (txt : List UInt8), idv = ((kk + 1 : Nat) : Int) ∧
    (∀ V, Calls Tryz.prog 11 #[.int .i64 idv, .int .i64 (idv % 3)] V fun e w' => e = .returned (.string ⟨txt.toArray⟩) ∧ Below V.heap.size V w') ∧
    (∀ V, Calls Tryz.prog 10 #[.int .i64 500000003, .int .i64 (idv + 1), .int .i64 4, .string ⟨txt.toArray⟩] V fun e w' => e = .returned (.tuple #[.agg #[.int .i64 sR, .int .i64 sS], .int .i64 0]) ∧ Below V.heap.size V w') ∧
    (∀ V, Calls Tryz.prog 13 #[.int .i64 500000003, .int .i64 (idv + 1)] V fun e w' => e = .returned (.int .i64 y) ∧ V = w') ∧
    (∀ V a c, Bases V → Rd V a (rowsC prC (subI m)) → Calls Tryz.prog 12 #[.agg #[.int .i64 500000003, .slice a (subI m).length c], .agg #[.int .i64 idv, .int .i64 y, .int .i64 (idv % 3)], .agg #[.int .i64 sR, .int .i64 sS]] V (RollRes V 500000003 0 (subI (m + 2 ^ kk)))) := by
  have hrs : rsafe 500000003 = true := (safe_eq 500000003).symm.trans safeP_big
  have e3 : ((kk + 1 : Nat) : Int) % 3 = (((kk + 1) % 3 : Nat) : Int) := by omega
  have e2 : ((kk + 1 : Nat) : Int) + 1 = ((kk + 2 : Nat) : Int) := by omega
  have i1 : I64 ((kk + 1 : Nat) : Int) := ⟨by omega, by omega⟩
  have i2 : I64 (((kk + 1) % 3 : Nat) : Int) := ⟨by omega, by omega⟩
  have hcl := clmF_len i1 i2
  refine ⟨((kk + 1 : Nat) : Int), ((4 ^ (kk + 2) : Nat) : Int), (signR 500000003 4 : Int), (signS 500000003 (kk + 2) 4 (clmF ((kk + 1 : Nat) : Int) (((kk + 1) % 3 : Nat) : Int)) : Int), clmF ((kk + 1 : Nat) : Int) (((kk + 1) % 3 : Nat) : Int), rfl, ?_, ?_, ?_, ?_⟩
  · intro V; rw [e3]; exact eclaim_walk _ _ V i1 i2
  · intro V; rw [e2]; exact rsign_yes 500000003 (kk + 2) 4 _ V hrs (by omega) (by omega) (by omega) (by omega) (by omega)
  · intro V; rw [e2]
    have := rPublic_walk 500000003 ((kk + 2 : Nat) : Int) V (by decide) (by decide)
    rw [keyI kk hk] at this
    exact this
  · intro V a c hB hR; rw [e3]; exact add_one hm hk ht V a c hB hR
set_option maxRecDepth 100000 in
set_option maxHeartbeats 8000000 in
theorem order_walk (W : World) (hB : Bases W) (p : Option Addr) (l : List Int) (cap : Nat) (hR : Rd W p (ints l)) (hl : l.length ≤ 17592186043904) :
    Calls Tryz.prog 3 #[.slice p l.length cap] W fun e w' => e = .returned (.bool true) ∧ Below W.heap.size W w' := by
  have h0W : 0 < W.heap.size := by have := World.block_lt_of_cell? W _ hB.1; omega
  obtain ⟨B, hBz⟩ : ∃ B, B = W.heap.size := ⟨_, rfl⟩
  have HBS : Hid (∀ V, Below B W V → Bases V) := Lib.hid (fun V hV => hB.keep (hBz ▸ hV))
  have HBW := Lib.hid hBz
  have KA := Lib.hid (fun V hV => awake23_walk V hV)
  clear hBz hB
  go_enter Tryz.func3, Tryz.ntmps3
  go_wp2_with (go_at_call 6; (with_reducible refine (light_walk _ _ _ _ (by omega)).mono ?_))
  rintro e w1 ⟨rfl, rfl⟩
  by_cases hq : 500 < l.length
  · have h1 : decide (l.length ≤ 500) = false := by simp; omega
    clear hq
    go_wp2_with (go_at_call 7; (with_reducible refine (KA.out _ (HBS.out _ (Below.refl _ _))).mono ?_))
    (first | rintro e w1 rfl hb1 | rintro e w1 ⟨rfl, hb1⟩)
    go_wp2
    go_ret
    exact ⟨rfl, hb1⟩
  have hd5 : decide (l.length ≤ 500) = true := by simp; omega
  clear hq
  go_wp2_with (go_at_call 8; (with_reducible refine (roll_walk _ _ _ _).mono ?_))
  rintro e w1 ⟨rfl, hD, hb1⟩
  have hE : Env W w1 W.heap.size p l cap 0 := ⟨hD, hR.keep hb1, hb1⟩
  have HNE := Lib.hid (rd_ne hR (Nat.le_refl _))
  clear hD hb1 hd5 hR
  have K1 := Lib.hid (next_walk W.heap.size p l cap 0 5 w1 hE.dice hE.rd HNE.out (by omega) (by omega) (by omega))
  go_wp2_with (go_at_call 9; (with_reducible refine K1.out.mono ?_))
  rintro e w2 ⟨rfl, hD4, hg4⟩
  replace hE := hE.grown HNE.out (Nat.le_refl _) hD4 hg4
  clear K1 hD4 hg4
  obtain ⟨n, hn5, hn1, hn6⟩ : ∃ n : Nat, dnum l 0 5 = (n : Int) - 1 ∧ 1 ≤ n ∧ n < 6 := by
    have a1 := dnum_lo l 0 (n := 5) (by omega)
    have a2 := dnum_hi l 0 (n := 5) (by omega)
    exact ⟨(dnum l 0 5 + 1).toNat, by omega, by omega, by omega⟩
  have hdn : IntKind.i64.wrap (1 + dnum l 0 5) = (n : Int) := by rw [IntKind.wrap_i64]; omega
  generalize dnxt l 0 = q0 at *
  go_upto_region 5 with (fail)
  have hn5' : (1 : Int) + ((n : Int) - 1) = (n : Int) := by omega
  rw [hn5']
  clear hdn hn5 hn5'
  obtain ⟨ga, hga⟩ : ∃ g, g = w2.heap.size := ⟨_, rfl⟩
  have hX : Bx ((w2.alloc (.cells #[.int .i64 500000003, .slice none 0 0] 30)).alloc (.cells #[.int .i64 500000003, .slice none 0 0] 30)) ga 30 [.int .i64 500000003, .slice none 0 0] := by
    rw [hga]; exact (Bx.new w2 30 [.int .i64 500000003, .slice none 0 0]).alloc _
  have hY : Bx ((w2.alloc (.cells #[.int .i64 500000003, .slice none 0 0] 30)).alloc (.cells #[.int .i64 500000003, .slice none 0 0] 30)) (ga + 1) 30 [.int .i64 500000003, .slice none 0 0] := by
    have := Bx.new (w2.alloc (.cells #[.int .i64 500000003, .slice none 0 0] 30)) 30 [.int .i64 500000003, .slice none 0 0]
    have e : (w2.alloc (.cells #[.int .i64 500000003, .slice none 0 0] 30)).heap.size = ga + 1 := by rw [hga]; simp
    rw [e] at this
    exact this
  have hEE := (hE.alloc (.cells #[.int .i64 500000003, .slice none 0 0] 30)).alloc (.cells #[.int .i64 500000003, .slice none 0 0] 30)
  have hgaW : W.heap.size < ga := by rw [hga]; exact hE.dice.lt
  have hga2 : w2.heap.size = ga := hga.symm
  clear hE hga
  go_upto_region 6 with (fail)
  generalize (w2.alloc (.cells #[.int .i64 500000003, .slice none 0 0] 30)).alloc (.cells #[.int .i64 500000003, .slice none 0 0] 30) = w3 at *
  clear hga2
  have K1 := Lib.hid (next_walk W.heap.size p l cap q0 (n : Int) w3 hEE.dice hEE.rd HNE.out (by omega) (by omega) (by omega))
  go_wp2_with (go_at_call 9; (with_reducible refine K1.out.mono ?_))
  rintro e w4 ⟨rfl, hD4, hg4⟩
  replace hX := hX.grown hg4 (by simp; omega)
  replace hY := hY.grown hg4 (by simp; omega)
  have hbl := (hEE.grown HNE.out (Nat.le_refl _) hD4 hg4).below
  clear K1 hD4 hg4 hEE
  obtain ⟨z, hz, hzn⟩ : ∃ z : Nat, dnum l q0 (n : Int) = (z : Int) ∧ z < n := by
    have a1 := dnum_lo l q0 (n := (n : Int)) (by omega)
    have a2 := dnum_hi l q0 (n := (n : Int)) (by omega)
    exact ⟨(dnum l q0 (n : Int)).toNat, by omega, by omega⟩
  rw [hz]
  clear hz
  obtain ⟨gb, hgb⟩ : ∃ g, g = ga + 1 := ⟨_, rfl⟩
  rw [← hgb] at hY ⊢
  have e1 : subI 0 = [] := by decide
  have hX2 : Bx w4 ga 30 [.int .i64 500000003, .slice none (subI 0).length 0] := by rw [e1]; exact hX
  have hY2 : Bx w4 gb 30 [.int .i64 500000003, .slice none (subI 0).length 0] := by rw [e1]; exact hY
  have hn0 : Rd w4 none (rowsC prC (subI 0)) := by rw [e1]; exact Rd.nil _ _
  have hO : Eo W w4 B ga gb (mskI n 0 0) none 0 (mskI n z 0) none 0 := ⟨hX2, hY2, hn0, hn0, fun j h => by simp [rowOf] at h, fun j h => by simp [rowOf] at h, HBW.out ▸ hbl, by rw [HBW.out]; omega, by omega⟩
  clear hX hY hX2 hY2 hn0 e1 hbl hgb hgaW
  have HMA := Lib.hid (msk_all n hn6)
  have HME := Lib.hid (msk_end n hn6 z hzn)
  go_wp2_with fail
  go_loopw [8] (fun i wr => ∃ k : Nat, k ≤ n ∧ i = .int .i64 (k : Int) ∧ ∃ a1 c1 a2 c2, Eo W wr B ga gb (mskI n 0 k) a1 c1 (mskI n z k) a2 c2) (fun i _ => n - (intOf i).toNat)
  case atStart => exact ⟨0, Nat.zero_le _, rfl, _, _, _, _, hO⟩
  case round =>
    clear hO
    obtain ⟨k, hk, rfl, a1, c1, a2, c2, hO⟩ := hrel
    by_cases hkt : k < n
    rotate_left
    · have hkl : ¬ ((k : Int) < (n : Int)) := by omega
      obtain rfl : k = n := by omega
      have hme := HME.out
      rw [hme.1] at hO
      have hlen := hme.2
      have hm32 : (subI (mskI k 0 k)).length ≤ 1000000 := by omega
      have hlz : (((subI (mskI k 0 k)).length : Int) == (k : Int)) = true := by rw [hlen]; simp
      obtain ⟨x0, x1, y0, y1⟩ := hO.cells
      have HLZ := Lib.hid hlz
      clear HME HMA hlen hlz hme
      go_wp2_with (go_at_call 7; (with_reducible refine (KA.out _ (HBS.out _ hO.b)).mono ?_))
      (first | rintro e w5 rfl hb1 | rintro e w5 ⟨rfl, hb1⟩)
      replace hO := hO.keep hb1
      clear x0 x1 y0 y1 hb1
      obtain ⟨x0, x1, y0, y1⟩ := hO.cells
      have ks := rsame_walk 500000003 500000003 a1 (subI (mskI k 0 k)) c1 a2 (subI (mskI k 0 k)) c2 w5 hO.r hO.s hm32
      rw [eqR_true] at ks
      have KSm := Lib.hid ks
      clear ks
      go_wp2_with (go_at_call 14; (with_reducible refine KSm.out.mono ?_))
      (first | rintro e w6 rfl hb1 | rintro e w6 ⟨rfl, hb1⟩)
      replace hO := hO.keep hb1
      have hb2 := hO.b
      clear x0 x1 y0 y1
      obtain ⟨x0, x1, y0, y1⟩ := hO.cells
      have hlz := HLZ.out
      go_wp2
      go_ret
      exact ⟨rfl, HBW.out ▸ hb2⟩
    have hkl : (k : Int) < (n : Int) := by omega
    go_upto_region 11 with (fail)
    have hbS := (Below.refl wr.heap.size wr).alloc (Nat.le_refl _) (.cells #[.pointer (some ⟨ga, 0, none⟩), .pointer (some ⟨gb, 0, none⟩)] 31)
    have hS := Bx.new wr 31 [.pointer (some ⟨ga, 0, none⟩), .pointer (some ⟨gb, 0, none⟩)]
    change Bx (wr.alloc (.cells #[.pointer (some ⟨ga, 0, none⟩), .pointer (some ⟨gb, 0, none⟩)] 31)) _ _ _ at hS
    have hgs : gb < wr.heap.size := hO.y.lt
    replace hO := hO.keep hbS
    generalize wr.alloc (.cells #[.pointer (some ⟨ga, 0, none⟩), .pointer (some ⟨gb, 0, none⟩)] 31) = wS at *
    generalize wr.heap.size = gs at *
    clear hbS
    go_wp2_with fail
    go_loopw [37] (fun t wq => ∃ (q : Nat) (a1 : Option Addr) (c1 : Nat) (a2 : Option Addr) (c2 : Nat), q ≤ 2 ∧ t = .int .i64 (q : Int) ∧ Eo W wq B ga gb (if q = 0 then mskI n 0 k else mskI n 0 (k + 1)) a1 c1 (if q = 2 then mskI n z (k + 1) else mskI n z k) a2 c2 ∧ Bx wq gs 31 [.pointer (some ⟨ga, 0, none⟩), .pointer (some ⟨gb, 0, none⟩)]) (fun t _ => 2 - (intOf t).toNat)
    case atStart => exact ⟨0, _, _, _, _, by omega, rfl, by rw [if_pos rfl, if_neg (by decide)]; exact hO, hS⟩
    case round =>
      clear hO hS
      obtain ⟨q, b1, d1, b2, d2, hq2, rfl, hO, hS⟩ := hrel
      have s0 := hS.cell 0 rfl
      have s1 := hS.cell 1 rfl
      generalize hqt : (q : Int) = t at *
      rcases (show q = 0 ∨ q = 1 ∨ q = 2 by omega) with rfl | rfl | rfl
      · obtain rfl : t = 0 := by omega
        rw [if_pos rfl, if_neg (by decide)] at hO
        clear hqt
        obtain ⟨kk, hkk⟩ : ∃ kk : Nat, kk = (k + 0) % n := ⟨_, rfl⟩
        have hkk5 : kk < 5 := by rw [hkk]; exact Nat.lt_of_lt_of_le (Nat.mod_lt _ (by omega)) (by omega)
        have hmm := HMA.out 0 (by omega) k hkt
        rw [← hkk] at hmm
        have HMS : Hid (mskI n 0 (k + 1) = mskI n 0 k + 2 ^ kk) := Lib.hid (by rw [hkk]; rfl)
        have hk0 : kk = k := hkk.trans (Nat.mod_eq_of_lt (show k + 0 < n from hkt))
        have hslot : (k : Int) + 1 = ((kk + 1 : Nat) : Int) := by omega
        clear hk0
        obtain ⟨idv, y, sR, sS, txt, hid, kC, kS, kP, kD⟩ := turn_contracts hmm.1 hkk5 hmm.2
        rw [← hid] at hslot
        have hi1 : 1 ≤ idv := by omega
        have hi5 : idv ≤ 5 := by omega
        have KC := Lib.hid kC
        have KS := Lib.hid kS
        have KP := Lib.hid kP
        have KD := Lib.hid kD
        have HSL := Lib.hid hslot
        clear kC kS kP kD hslot hid hmm hkk hkk5
        go_upto_region 16 with (fail)
        rw [HSL.out]
        clear HSL
        go_wp2_with (go_at_call 11; (with_reducible refine (KC.out _).mono ?_))
        (first | rintro e v1 rfl hb1 | rintro e v1 ⟨rfl, hb1⟩)
        replace hO := hO.keep hb1
        replace hS := hS.keep hb1
        clear hb1 KC s0 s1
        go_wp2_with (go_at_call 10; (with_reducible refine (KS.out _).mono ?_))
        (first | rintro e v2 rfl hb1 | rintro e v2 ⟨rfl, hb1⟩)
        have hbA := (Below.refl v2.heap.size v2).alloc (Nat.le_refl _) (.cells #[.int .i64 sR, .int .i64 sS] 34)
        have hG := Bx.new v2 34 [.int .i64 sR, .int .i64 sS]
        change Bx (v2.alloc (.cells #[.int .i64 sR, .int .i64 sS] 34)) _ _ _ at hG
        replace hO := (hO.keep hb1).keep hbA
        replace hS := (hS.keep hb1).keep hbA
        clear hb1 hbA KS
        go_upto_region 17 with (fail)
        generalize v2.alloc (.cells #[.int .i64 sR, .int .i64 sS] 34) = v3 at *
        generalize v2.heap.size = go at *
        have hw1 : IntKind.i64.wrap (idv + 1) = idv + 1 := by rw [IntKind.wrap_i64]; omega
        have hw2 : idv.tmod 3 = idv % 3 := Int.tmod_eq_emod_of_nonneg (by omega)
        refine wp_region_held_last' (S := fun w' => w'.cell? ⟨ga, 0, none⟩ = some (.int .i64 500000003) ∧ w'.cell? ⟨ga, 1, none⟩ = some (.slice b1 (subI (mskI n 0 k)).length d1) ∧ w'.cell? ⟨go, 0, none⟩ = some (.int .i64 sR) ∧ w'.cell? ⟨go, 1, none⟩ = some (.int .i64 sS)) 17 rfl (by kernel_rfl) (by kernel_rfl) (by kernel_rfl) ⟨(hO.keep (Below.refl _ _).drew).x.cell 0 rfl, (hO.keep (Below.refl _ _).drew).x.cell 1 rfl, hG.drew.cell 0 rfl, hG.drew.cell 1 rfl⟩ (fun hHeld => ?_)
        dsimp only [List.dropLast, List.replicate] at hHeld ⊢
        replace hO := hO.keep (Below.refl _ _).drew
        replace hS := hS.keep (Below.refl _ _).drew
        replace hG := hG.drew
        generalize v3.drew = v4 at *
        refine held_take (0) (v := ?_) rfl (by kernel_rfl) (by kernel_rfl) (by kernel_rfl) (fun _ _ _ h => h) (Or.inl ⟨by rfl, ?_⟩) (by assumption) ?_
        rotate_left
        · intro w hSw
          try dsimp only at hSw
          go_simp
          with_reducible rfl
        try simp only [Act.put, List.setIfInBounds_toArray, List.set_cons_zero, List.set_cons_succ]
        refine held_take (1) (v := ?_) rfl (by kernel_rfl) (by kernel_rfl) (by kernel_rfl) (fun _ _ _ h => h) (Or.inl ⟨by rfl, ?_⟩) (by assumption) ?_
        rotate_left
        · intro w hSw
          try dsimp only at hSw
          go_simp
          with_reducible rfl
        try simp only [Act.put, List.setIfInBounds_toArray, List.set_cons_zero, List.set_cons_succ]
        refine held_take (2) (v := ?_) rfl (by kernel_rfl) (by kernel_rfl) (by kernel_rfl) (fun _ _ _ h => h) (Or.inl ⟨by rfl, ?_⟩) (by assumption) ?_
        rotate_left
        · intro w hSw
          try dsimp only at hSw
          go_simp
          with_reducible rfl
        try simp only [Act.put, List.setIfInBounds_toArray, List.set_cons_zero, List.set_cons_succ]
        refine held_take (3) (v := ?_) rfl (by kernel_rfl) (by kernel_rfl) (by kernel_rfl) (fun _ _ _ h => h) (Or.inl ⟨by rfl, ?_⟩) (by assumption) ?_
        rotate_left
        · intro w hSw
          try dsimp only at hSw
          go_simp
          with_reducible rfl
        try simp only [Act.put, List.setIfInBounds_toArray, List.set_cons_zero, List.set_cons_succ]
        refine held_take (4) (v := ?_) rfl (by kernel_rfl) (by kernel_rfl) (by kernel_rfl) (fun _ _ _ h => h) (Or.inl ⟨by rfl, ?_⟩) (by assumption) ?_
        rotate_left
        · intro w hSw
          try dsimp only at hSw
          go_simp
          with_reducible rfl
        try simp only [Act.put, List.setIfInBounds_toArray, List.set_cons_zero, List.set_cons_succ]
        refine held_take (5) (v := ?_) rfl (by kernel_rfl) (by kernel_rfl) (by kernel_rfl) (fun _ _ _ h => h) (Or.inl ⟨by rfl, ?_⟩) (by assumption) ?_
        rotate_left
        · intro w hSw
          try dsimp only at hSw
          go_simp
          with_reducible rfl
        try simp only [Act.put, List.setIfInBounds_toArray, List.set_cons_zero, List.set_cons_succ]
        refine held_take (7) (v := ?_) rfl (by kernel_rfl) (by kernel_rfl) (by kernel_rfl) (fun _ _ _ h => h) (Or.inl ⟨by rfl, ?_⟩) (by assumption) ?_
        rotate_left
        · intro w hSw
          try dsimp only at hSw
          go_simp
          with_reducible rfl
        try simp only [Act.put, List.setIfInBounds_toArray, List.set_cons_zero, List.set_cons_succ]
        refine held_take (8) (v := ?_) rfl (by kernel_rfl) (by kernel_rfl) (by kernel_rfl) (fun _ _ _ h => h) (Or.inl ⟨by rfl, ?_⟩) (by assumption) ?_
        rotate_left
        · intro w hSw
          try dsimp only at hSw
          go_simp
          with_reducible rfl
        try simp only [Act.put, List.setIfInBounds_toArray, List.set_cons_zero, List.set_cons_succ]
        refine held_take (10) (v := ?_) rfl (by kernel_rfl) (by kernel_rfl) (by kernel_rfl) (fun _ _ _ h => h) (Or.inl ⟨by rfl, ?_⟩) (by assumption) ?_
        rotate_left
        · intro w hSw
          try dsimp only at hSw
          go_simp
          with_reducible rfl
        try simp only [Act.put, List.setIfInBounds_toArray, List.set_cons_zero, List.set_cons_succ]
        refine wpAnyH_ready (rs := [6, 15]) (by kernel_rfl) (by simp) ?_
        refine held_cons rfl (fun K hK => ?_) ?_
        · skip
          go_simp
          go_at_call 13
          (with_reducible refine (KP.out _).mono ?_)
          (first | rintro e wM rfl rfl | rintro e wM ⟨rfl, rfl⟩)
          go_wp2_with fail
          refine hK.out _ _ ⟨hO.x.cell 0 rfl, hO.x.cell 1 rfl, hG.cell 0 rfl, hG.cell 1 rfl⟩ (fun hHeld => ?_)
          clear hK K
          try simp only [Act.put, List.setIfInBounds_toArray, List.set_cons_zero, List.set_cons_succ]
          refine held_take (9) (v := ?_) rfl (by kernel_rfl) (by kernel_rfl) (by kernel_rfl) (fun _ _ _ h => h) (Or.inl ⟨by rfl, ?_⟩) (by assumption) ?_
          rotate_left
          · intro w hSw
            try dsimp only at hSw
            go_simp
            with_reducible rfl
          try simp only [Act.put, List.setIfInBounds_toArray, List.set_cons_zero, List.set_cons_succ]
          refine wpAnyH_ready (rs := [11, 15]) (by kernel_rfl) (by simp) ?_
          refine held_cons rfl (fun K hK => ?_) ?_
          · skip
            go_simp
            go_at_call 12
            (with_reducible refine (KD.out _ _ _ (HBS.out _ hO.b) hO.r).mono ?_)
            (first | rintro e wA ⟨aA, cA, rfl, -, rA, fA, hb5⟩ | rintro e wA aA cA rfl - rA fA hb5)
            have hA := hO.keep hb5
            have gA := hG.keep hb5
            have sA := hS.keep hb5
            have fB : ∀ j, rowOf aA = some j → gb < j := fun j hj => Nat.lt_of_lt_of_le hO.y.lt (fA j hj)
            clear hb5
            go_wp2_with fail
            refine hK.out _ _ ⟨hA.x.cell 0 rfl, hA.x.cell 1 rfl, gA.cell 0 rfl, gA.cell 1 rfl⟩ (fun hHeld => ?_)
            clear hK K
            try simp only [Act.put, List.setIfInBounds_toArray, List.set_cons_zero, List.set_cons_succ]
            refine held_take (12) (v := ?_) rfl (by kernel_rfl) (by kernel_rfl) (by kernel_rfl) (fun _ _ _ h => h) (Or.inl ⟨by rfl, ?_⟩) (by assumption) ?_
            rotate_left
            · intro w hSw
              try dsimp only at hSw
              go_simp
              with_reducible rfl
            try simp only [Act.put, List.setIfInBounds_toArray, List.set_cons_zero, List.set_cons_succ]
            refine held_take (13) (v := ?_) rfl (by kernel_rfl) (by kernel_rfl) (by kernel_rfl) (fun _ _ _ h => h) (Or.inl ⟨by rfl, ?_⟩) (by assumption) ?_
            rotate_left
            · intro w hSw
              try dsimp only at hSw
              go_simp
              with_reducible rfl
            try simp only [Act.put, List.setIfInBounds_toArray, List.set_cons_zero, List.set_cons_succ]
            refine held_take (14) (v := ?_) rfl (by kernel_rfl) (by kernel_rfl) (by kernel_rfl) (fun _ _ _ h => h) (Or.inl ⟨by rfl, ?_⟩) (by assumption) ?_
            rotate_left
            · intro w hSw
              try dsimp only at hSw
              go_simp
              with_reducible rfl
            try simp only [Act.put, List.setIfInBounds_toArray, List.set_cons_zero, List.set_cons_succ]
            refine wpAnyH_ready (rs := [15]) (by kernel_rfl) (by simp) ?_
            refine held_cons rfl (fun K hK => ?_) AllReadyH.nil
            go_simp
            have hbZ := (Below.refl wA.heap.size wA).alloc (Nat.le_refl _) (.cells #[.int .i64 0, .slice none 0 0] 30)
            have zZ := Bx.new wA 30 [.int .i64 0, .slice none 0 0]
            change Bx (wA.alloc (.cells #[.int .i64 0, .slice none 0 0] 30)) _ _ _ at zZ
            have hZ := hA.keep hbZ
            have gZ := gA.keep hbZ
            have sZ := sA.keep hbZ
            have rZ := rA.keep hbZ
            refine hK.out _ _ ⟨hZ.x.cell 0 rfl, hZ.x.cell 1 rfl, gZ.cell 0 rfl, gZ.cell 1 rfl⟩ (fun hHeld => ?_)
            clear hK K
            try simp only [Act.put, List.setIfInBounds_toArray, List.set_cons_zero, List.set_cons_succ]
            refine wpAnyH_ready (rs := [16]) (by kernel_rfl) (by simp) ?_
            refine held_cons rfl (fun K hK => ?_) AllReadyH.nil
            go_simp
            have hbQ := (Below.refl wA.heap.size wA).alloc (Nat.le_refl _) (.cells #[.int .i64 500000003, .slice aA (subI (mskI n 0 k + 2 ^ kk)).length cA] 30)
            have zQ := Bx.new wA 30 [.int .i64 500000003, .slice aA (subI (mskI n 0 k + 2 ^ kk)).length cA]
            change Bx (wA.alloc (.cells #[.int .i64 500000003, .slice aA (subI (mskI n 0 k + 2 ^ kk)).length cA] 30)) _ _ _ at zQ
            have hQ := hA.keep hbQ
            have gQ := gA.keep hbQ
            have sQ := sA.keep hbQ
            have rQ := rA.keep hbQ
            clear hbQ hZ gZ sZ rZ zZ hbZ
            generalize wA.alloc (.cells #[.int .i64 500000003, .slice aA (subI (mskI n 0 k + 2 ^ kk)).length cA] 30) = wQ at *
            refine hK.out _ _ ⟨hQ.x.cell 0 rfl, hQ.x.cell 1 rfl, gQ.cell 0 rfl, gQ.cell 1 rfl⟩ (fun hHeld => ?_)
            clear hK K
            try simp only [Act.put, List.setIfInBounds_toArray, List.set_cons_zero, List.set_cons_succ]
            refine wpAnyH_done (by kernel_rfl) ?_ _
            dsimp only [Behind]
            go_simp
            obtain ⟨x0, x1, y0, y1⟩ := hQ.cells
            obtain ⟨e0, e1, e2, e3⟩ := hQ.frees
            have q0 := zQ.cell 0 (v := .int .i64 500000003) rfl
            have q1 := zQ.cell 1 (v := .slice aA (subI (mskI n 0 k + 2 ^ kk)).length cA) rfl
            have hE : Eo W ((wQ.setCell ⟨ga, 0, none⟩ (.int .i64 500000003)).setCell ⟨ga, 1, none⟩ (.slice aA (subI (mskI n 0 k + 2 ^ kk)).length cA)) B ga gb (if 1 = 0 then mskI n 0 k else mskI n 0 (k + 1)) aA cA (if 1 = 2 then mskI n z (k + 1) else mskI n z k) b2 d2 := by
              rw [if_neg (by decide), if_neg (by decide), HMS.out]
              exact hQ.setx rQ fB
            have hlt := hO.lt
            have sE := (sQ.other (b := ga) (by omega) 0 (.int .i64 500000003)).other (b := ga) (by omega) 1 (.slice aA (subI (mskI n 0 k + 2 ^ kk)).length cA)
            clear hQ gQ sQ rQ zQ hA gA sA rA hO hG hS KP KD HMS
            go_wp2_with fail
            go_roundw
            case rel => exact ⟨1, aA, cA, b2, d2, by omega, by go_num, hE, sE⟩
            case measure => simp [intOf]
          · refine held_cons rfl (fun K hK => ?_) AllReadyH.nil
            go_simp
            have hbZ := (Below.refl v4.heap.size v4).alloc (Nat.le_refl _) (.cells #[.int .i64 0, .slice none 0 0] 30)
            have zZ := Bx.new v4 30 [.int .i64 0, .slice none 0 0]
            change Bx (v4.alloc (.cells #[.int .i64 0, .slice none 0 0] 30)) _ _ _ at zZ
            have hZ := hO.keep hbZ
            have gZ := hG.keep hbZ
            have sZ := hS.keep hbZ
            refine hK.out _ _ ⟨hZ.x.cell 0 rfl, hZ.x.cell 1 rfl, gZ.cell 0 rfl, gZ.cell 1 rfl⟩ (fun hHeld => ?_)
            clear hK K
            try simp only [Act.put, List.setIfInBounds_toArray, List.set_cons_zero, List.set_cons_succ]
            refine wpAnyH_ready (rs := [11]) (by kernel_rfl) (by simp) ?_
            refine held_cons rfl (fun K hK => ?_) AllReadyH.nil
            go_simp
            go_at_call 12
            (with_reducible refine (KD.out _ _ _ (HBS.out _ hZ.b) hZ.r).mono ?_)
            (first | rintro e wA ⟨aA, cA, rfl, -, rA, fA, hb5⟩ | rintro e wA aA cA rfl - rA fA hb5)
            have hA := hZ.keep hb5
            have gA := gZ.keep hb5
            have sA := sZ.keep hb5
            have fB : ∀ j, rowOf aA = some j → gb < j := fun j hj => Nat.lt_of_lt_of_le hZ.y.lt (fA j hj)
            have zA := zZ.keep hb5
            have bA := hbZ.trans (hb5.mono hbZ.size)
            have fZ : ∀ j, rowOf aA = some j → v4.heap.size < j := fun j hj => by have := fA j hj; simp at this; omega
            clear hb5
            go_wp2_with fail
            refine hK.out _ _ ⟨hA.x.cell 0 rfl, hA.x.cell 1 rfl, gA.cell 0 rfl, gA.cell 1 rfl⟩ (fun hHeld => ?_)
            clear hK K
            try simp only [Act.put, List.setIfInBounds_toArray, List.set_cons_zero, List.set_cons_succ]
            refine held_take (12) (v := ?_) rfl (by kernel_rfl) (by kernel_rfl) (by kernel_rfl) (fun _ _ _ h => h) (Or.inl ⟨by rfl, ?_⟩) (by assumption) ?_
            rotate_left
            · intro w hSw
              try dsimp only at hSw
              go_simp
              with_reducible rfl
            try simp only [Act.put, List.setIfInBounds_toArray, List.set_cons_zero, List.set_cons_succ]
            refine held_take (13) (v := ?_) rfl (by kernel_rfl) (by kernel_rfl) (by kernel_rfl) (fun _ _ _ h => h) (Or.inl ⟨by rfl, ?_⟩) (by assumption) ?_
            rotate_left
            · intro w hSw
              try dsimp only at hSw
              go_simp
              with_reducible rfl
            try simp only [Act.put, List.setIfInBounds_toArray, List.set_cons_zero, List.set_cons_succ]
            refine held_take (14) (v := ?_) rfl (by kernel_rfl) (by kernel_rfl) (by kernel_rfl) (fun _ _ _ h => h) (Or.inl ⟨by rfl, ?_⟩) (by assumption) ?_
            rotate_left
            · intro w hSw
              try dsimp only at hSw
              go_simp
              with_reducible rfl
            try simp only [Act.put, List.setIfInBounds_toArray, List.set_cons_zero, List.set_cons_succ]
            refine wpAnyH_ready (rs := [16]) (by kernel_rfl) (by simp) ?_
            refine held_cons rfl (fun K hK => ?_) AllReadyH.nil
            have z0 := zA.cell 0 (v := .int .i64 0) rfl
            have z1 := zA.cell 1 (v := .slice none 0 0) rfl
            have e0 := zA.free 0
            have e1 := zA.free 1
            have gz := zA.lt
            go_simp
            have bQ := (bA.setCell (p := ⟨v4.heap.size, 0, none⟩) (Nat.le_refl _) (.int .i64 500000003)).setCell (p := ⟨v4.heap.size, 1, none⟩) (Nat.le_refl _) (.slice aA (subI (mskI n 0 k + 2 ^ kk)).length cA)
            have zQ := (zA.set 0 (.int .i64 500000003)).set 1 (.slice aA (subI (mskI n 0 k + 2 ^ kk)).length cA)
            change Bx _ _ _ [.int .i64 500000003, .slice aA (subI (mskI n 0 k + 2 ^ kk)).length cA] at zQ
            have hQ := hO.keep bQ
            have gQ := hG.keep bQ
            have sQ := hS.keep bQ
            have rQ := (rA.grown (set_grown wA v4.heap.size 0 (.int .i64 500000003)) (fun g o e => by have := fZ g (by rw [e]; rfl); simp; omega)).grown (set_grown _ v4.heap.size 1 (.slice aA (subI (mskI n 0 k + 2 ^ kk)).length cA)) (fun g o e => by have := fZ g (by rw [e]; rfl); simp; omega)
            clear bQ z0 z1 e0 e1 zZ hZ gZ sZ
            generalize (wA.setCell ⟨v4.heap.size, 0, none⟩ (.int .i64 500000003)).setCell ⟨v4.heap.size, 1, none⟩ (.slice aA (subI (mskI n 0 k + 2 ^ kk)).length cA) = wQ at *
            refine hK.out _ _ ⟨hQ.x.cell 0 rfl, hQ.x.cell 1 rfl, gQ.cell 0 rfl, gQ.cell 1 rfl⟩ (fun hHeld => ?_)
            clear hK K
            try simp only [Act.put, List.setIfInBounds_toArray, List.set_cons_zero, List.set_cons_succ]
            refine wpAnyH_done (by kernel_rfl) ?_ _
            dsimp only [Behind]
            go_simp
            obtain ⟨x0, x1, y0, y1⟩ := hQ.cells
            obtain ⟨e0, e1, e2, e3⟩ := hQ.frees
            have q0 := zQ.cell 0 (v := .int .i64 500000003) rfl
            have q1 := zQ.cell 1 (v := .slice aA (subI (mskI n 0 k + 2 ^ kk)).length cA) rfl
            have hE : Eo W ((wQ.setCell ⟨ga, 0, none⟩ (.int .i64 500000003)).setCell ⟨ga, 1, none⟩ (.slice aA (subI (mskI n 0 k + 2 ^ kk)).length cA)) B ga gb (if 1 = 0 then mskI n 0 k else mskI n 0 (k + 1)) aA cA (if 1 = 2 then mskI n z (k + 1) else mskI n z k) b2 d2 := by
              rw [if_neg (by decide), if_neg (by decide), HMS.out]
              exact hQ.setx rQ fB
            have hlt := hO.lt
            have sE := (sQ.other (b := ga) (by omega) 0 (.int .i64 500000003)).other (b := ga) (by omega) 1 (.slice aA (subI (mskI n 0 k + 2 ^ kk)).length cA)
            clear hQ gQ sQ rQ zQ hA gA sA rA hO hG hS KP KD HMS
            go_wp2_with fail
            go_roundw
            case rel => exact ⟨1, aA, cA, b2, d2, by omega, by go_num, hE, sE⟩
            case measure => simp [intOf]
        · refine held_cons rfl (fun K hK => ?_) AllReadyH.nil
          go_simp
          have hbZ := (Below.refl v4.heap.size v4).alloc (Nat.le_refl _) (.cells #[.int .i64 0, .slice none 0 0] 30)
          have zZ := Bx.new v4 30 [.int .i64 0, .slice none 0 0]
          change Bx (v4.alloc (.cells #[.int .i64 0, .slice none 0 0] 30)) _ _ _ at zZ
          have hZ := hO.keep hbZ
          have gZ := hG.keep hbZ
          have sZ := hS.keep hbZ
          refine hK.out _ _ ⟨hZ.x.cell 0 rfl, hZ.x.cell 1 rfl, gZ.cell 0 rfl, gZ.cell 1 rfl⟩ (fun hHeld => ?_)
          clear hK K
          try simp only [Act.put, List.setIfInBounds_toArray, List.set_cons_zero, List.set_cons_succ]
          refine wpAnyH_ready (rs := [6]) (by kernel_rfl) (by simp) ?_
          refine held_cons rfl (fun K hK => ?_) AllReadyH.nil
          go_simp
          go_at_call 13
          (with_reducible refine (KP.out _).mono ?_)
          (first | rintro e wM rfl rfl | rintro e wM ⟨rfl, rfl⟩)
          go_wp2_with fail
          refine hK.out _ _ ⟨hZ.x.cell 0 rfl, hZ.x.cell 1 rfl, gZ.cell 0 rfl, gZ.cell 1 rfl⟩ (fun hHeld => ?_)
          clear hK K
          try simp only [Act.put, List.setIfInBounds_toArray, List.set_cons_zero, List.set_cons_succ]
          refine held_take (9) (v := ?_) rfl (by kernel_rfl) (by kernel_rfl) (by kernel_rfl) (fun _ _ _ h => h) (Or.inl ⟨by rfl, ?_⟩) (by assumption) ?_
          rotate_left
          · intro w hSw
            try dsimp only at hSw
            go_simp
            with_reducible rfl
          try simp only [Act.put, List.setIfInBounds_toArray, List.set_cons_zero, List.set_cons_succ]
          refine wpAnyH_ready (rs := [11]) (by kernel_rfl) (by simp) ?_
          refine held_cons rfl (fun K hK => ?_) AllReadyH.nil
          go_simp
          go_at_call 12
          (with_reducible refine (KD.out _ _ _ (HBS.out _ hZ.b) hZ.r).mono ?_)
          (first | rintro e wA ⟨aA, cA, rfl, -, rA, fA, hb5⟩ | rintro e wA aA cA rfl - rA fA hb5)
          have hA := hZ.keep hb5
          have gA := gZ.keep hb5
          have sA := sZ.keep hb5
          have fB : ∀ j, rowOf aA = some j → gb < j := fun j hj => Nat.lt_of_lt_of_le hZ.y.lt (fA j hj)
          have zA := zZ.keep hb5
          have bA := hbZ.trans (hb5.mono hbZ.size)
          have fZ : ∀ j, rowOf aA = some j → v4.heap.size < j := fun j hj => by have := fA j hj; simp at this; omega
          clear hb5
          go_wp2_with fail
          refine hK.out _ _ ⟨hA.x.cell 0 rfl, hA.x.cell 1 rfl, gA.cell 0 rfl, gA.cell 1 rfl⟩ (fun hHeld => ?_)
          clear hK K
          try simp only [Act.put, List.setIfInBounds_toArray, List.set_cons_zero, List.set_cons_succ]
          refine held_take (12) (v := ?_) rfl (by kernel_rfl) (by kernel_rfl) (by kernel_rfl) (fun _ _ _ h => h) (Or.inl ⟨by rfl, ?_⟩) (by assumption) ?_
          rotate_left
          · intro w hSw
            try dsimp only at hSw
            go_simp
            with_reducible rfl
          try simp only [Act.put, List.setIfInBounds_toArray, List.set_cons_zero, List.set_cons_succ]
          refine held_take (13) (v := ?_) rfl (by kernel_rfl) (by kernel_rfl) (by kernel_rfl) (fun _ _ _ h => h) (Or.inl ⟨by rfl, ?_⟩) (by assumption) ?_
          rotate_left
          · intro w hSw
            try dsimp only at hSw
            go_simp
            with_reducible rfl
          try simp only [Act.put, List.setIfInBounds_toArray, List.set_cons_zero, List.set_cons_succ]
          refine held_take (14) (v := ?_) rfl (by kernel_rfl) (by kernel_rfl) (by kernel_rfl) (fun _ _ _ h => h) (Or.inl ⟨by rfl, ?_⟩) (by assumption) ?_
          rotate_left
          · intro w hSw
            try dsimp only at hSw
            go_simp
            with_reducible rfl
          try simp only [Act.put, List.setIfInBounds_toArray, List.set_cons_zero, List.set_cons_succ]
          refine wpAnyH_ready (rs := [16]) (by kernel_rfl) (by simp) ?_
          refine held_cons rfl (fun K hK => ?_) AllReadyH.nil
          have z0 := zA.cell 0 (v := .int .i64 0) rfl
          have z1 := zA.cell 1 (v := .slice none 0 0) rfl
          have e0 := zA.free 0
          have e1 := zA.free 1
          have gz := zA.lt
          go_simp
          have bQ := (bA.setCell (p := ⟨v4.heap.size, 0, none⟩) (Nat.le_refl _) (.int .i64 500000003)).setCell (p := ⟨v4.heap.size, 1, none⟩) (Nat.le_refl _) (.slice aA (subI (mskI n 0 k + 2 ^ kk)).length cA)
          have zQ := (zA.set 0 (.int .i64 500000003)).set 1 (.slice aA (subI (mskI n 0 k + 2 ^ kk)).length cA)
          change Bx _ _ _ [.int .i64 500000003, .slice aA (subI (mskI n 0 k + 2 ^ kk)).length cA] at zQ
          have hQ := hO.keep bQ
          have gQ := hG.keep bQ
          have sQ := hS.keep bQ
          have rQ := (rA.grown (set_grown wA v4.heap.size 0 (.int .i64 500000003)) (fun g o e => by have := fZ g (by rw [e]; rfl); simp; omega)).grown (set_grown _ v4.heap.size 1 (.slice aA (subI (mskI n 0 k + 2 ^ kk)).length cA)) (fun g o e => by have := fZ g (by rw [e]; rfl); simp; omega)
          clear bQ z0 z1 e0 e1 zZ hZ gZ sZ
          generalize (wA.setCell ⟨v4.heap.size, 0, none⟩ (.int .i64 500000003)).setCell ⟨v4.heap.size, 1, none⟩ (.slice aA (subI (mskI n 0 k + 2 ^ kk)).length cA) = wQ at *
          refine hK.out _ _ ⟨hQ.x.cell 0 rfl, hQ.x.cell 1 rfl, gQ.cell 0 rfl, gQ.cell 1 rfl⟩ (fun hHeld => ?_)
          clear hK K
          try simp only [Act.put, List.setIfInBounds_toArray, List.set_cons_zero, List.set_cons_succ]
          refine wpAnyH_done (by kernel_rfl) ?_ _
          dsimp only [Behind]
          go_simp
          obtain ⟨x0, x1, y0, y1⟩ := hQ.cells
          obtain ⟨e0, e1, e2, e3⟩ := hQ.frees
          have q0 := zQ.cell 0 (v := .int .i64 500000003) rfl
          have q1 := zQ.cell 1 (v := .slice aA (subI (mskI n 0 k + 2 ^ kk)).length cA) rfl
          have hE : Eo W ((wQ.setCell ⟨ga, 0, none⟩ (.int .i64 500000003)).setCell ⟨ga, 1, none⟩ (.slice aA (subI (mskI n 0 k + 2 ^ kk)).length cA)) B ga gb (if 1 = 0 then mskI n 0 k else mskI n 0 (k + 1)) aA cA (if 1 = 2 then mskI n z (k + 1) else mskI n z k) b2 d2 := by
            rw [if_neg (by decide), if_neg (by decide), HMS.out]
            exact hQ.setx rQ fB
          have hlt := hO.lt
          have sE := (sQ.other (b := ga) (by omega) 0 (.int .i64 500000003)).other (b := ga) (by omega) 1 (.slice aA (subI (mskI n 0 k + 2 ^ kk)).length cA)
          clear hQ gQ sQ rQ zQ hA gA sA rA hO hG hS KP KD HMS
          go_wp2_with fail
          go_roundw
          case rel => exact ⟨1, aA, cA, b2, d2, by omega, by go_num, hE, sE⟩
          case measure => simp [intOf]
      · obtain rfl : t = 1 := by omega
        rw [if_neg (by decide), if_neg (by decide)] at hO
        clear hqt
        obtain ⟨kk, hkk⟩ : ∃ kk : Nat, kk = (k + z) % n := ⟨_, rfl⟩
        have hkk5 : kk < 5 := by rw [hkk]; exact Nat.lt_of_lt_of_le (Nat.mod_lt _ (by omega)) (by omega)
        have hmm := HMA.out z (by omega) k hkt
        rw [← hkk] at hmm
        have HMS : Hid (mskI n z (k + 1) = mskI n z k + 2 ^ kk) := Lib.hid (by rw [hkk]; rfl)
        have hslot : ((k : Int) + (z : Int)) % (n : Int) + 1 = ((kk + 1 : Nat) : Int) := by rw [hkk, Int.natCast_add, Int.natCast_emod, Int.natCast_add]; rfl
        have hm0 : 0 ≤ ((k : Int) + (z : Int)) % (n : Int) := Int.emod_nonneg _ (by omega)
        have hm1 : ((k : Int) + (z : Int)) % (n : Int) < 10 := by
          have := Int.emod_lt_of_pos ((k : Int) + (z : Int)) (show (0 : Int) < (n : Int) by omega)
          omega
        obtain ⟨idv, y, sR, sS, txt, hid, kC, kS, kP, kD⟩ := turn_contracts hmm.1 hkk5 hmm.2
        rw [← hid] at hslot
        have hi1 : 1 ≤ idv := by omega
        have hi5 : idv ≤ 5 := by omega
        have KC := Lib.hid kC
        have KS := Lib.hid kS
        have KP := Lib.hid kP
        have KD := Lib.hid kD
        have HSL := Lib.hid hslot
        clear kC kS kP kD hslot hid hmm hkk hkk5
        go_upto_region 16 with (fail)
        rw [HSL.out]
        clear HSL hm0 hm1
        go_wp2_with (go_at_call 11; (with_reducible refine (KC.out _).mono ?_))
        (first | rintro e v1 rfl hb1 | rintro e v1 ⟨rfl, hb1⟩)
        replace hO := hO.keep hb1
        replace hS := hS.keep hb1
        clear hb1 KC s0 s1
        go_wp2_with (go_at_call 10; (with_reducible refine (KS.out _).mono ?_))
        (first | rintro e v2 rfl hb1 | rintro e v2 ⟨rfl, hb1⟩)
        have hbA := (Below.refl v2.heap.size v2).alloc (Nat.le_refl _) (.cells #[.int .i64 sR, .int .i64 sS] 34)
        have hG := Bx.new v2 34 [.int .i64 sR, .int .i64 sS]
        change Bx (v2.alloc (.cells #[.int .i64 sR, .int .i64 sS] 34)) _ _ _ at hG
        replace hO := (hO.keep hb1).keep hbA
        replace hS := (hS.keep hb1).keep hbA
        clear hb1 hbA KS
        go_upto_region 17 with (fail)
        generalize v2.alloc (.cells #[.int .i64 sR, .int .i64 sS] 34) = v3 at *
        generalize v2.heap.size = go at *
        have hw1 : IntKind.i64.wrap (idv + 1) = idv + 1 := by rw [IntKind.wrap_i64]; omega
        have hw2 : idv.tmod 3 = idv % 3 := Int.tmod_eq_emod_of_nonneg (by omega)
        refine wp_region_held_last' (S := fun w' => w'.cell? ⟨gb, 0, none⟩ = some (.int .i64 500000003) ∧ w'.cell? ⟨gb, 1, none⟩ = some (.slice b2 (subI (mskI n z k)).length d2) ∧ w'.cell? ⟨go, 0, none⟩ = some (.int .i64 sR) ∧ w'.cell? ⟨go, 1, none⟩ = some (.int .i64 sS)) 17 rfl (by kernel_rfl) (by kernel_rfl) (by kernel_rfl) ⟨(hO.keep (Below.refl _ _).drew).y.cell 0 rfl, (hO.keep (Below.refl _ _).drew).y.cell 1 rfl, hG.drew.cell 0 rfl, hG.drew.cell 1 rfl⟩ (fun hHeld => ?_)
        dsimp only [List.dropLast, List.replicate] at hHeld ⊢
        replace hO := hO.keep (Below.refl _ _).drew
        replace hS := hS.keep (Below.refl _ _).drew
        replace hG := hG.drew
        generalize v3.drew = v4 at *
        refine held_take (0) (v := ?_) rfl (by kernel_rfl) (by kernel_rfl) (by kernel_rfl) (fun _ _ _ h => h) (Or.inl ⟨by rfl, ?_⟩) (by assumption) ?_
        rotate_left
        · intro w hSw
          try dsimp only at hSw
          go_simp
          with_reducible rfl
        try simp only [Act.put, List.setIfInBounds_toArray, List.set_cons_zero, List.set_cons_succ]
        refine held_take (1) (v := ?_) rfl (by kernel_rfl) (by kernel_rfl) (by kernel_rfl) (fun _ _ _ h => h) (Or.inl ⟨by rfl, ?_⟩) (by assumption) ?_
        rotate_left
        · intro w hSw
          try dsimp only at hSw
          go_simp
          with_reducible rfl
        try simp only [Act.put, List.setIfInBounds_toArray, List.set_cons_zero, List.set_cons_succ]
        refine held_take (2) (v := ?_) rfl (by kernel_rfl) (by kernel_rfl) (by kernel_rfl) (fun _ _ _ h => h) (Or.inl ⟨by rfl, ?_⟩) (by assumption) ?_
        rotate_left
        · intro w hSw
          try dsimp only at hSw
          go_simp
          with_reducible rfl
        try simp only [Act.put, List.setIfInBounds_toArray, List.set_cons_zero, List.set_cons_succ]
        refine held_take (3) (v := ?_) rfl (by kernel_rfl) (by kernel_rfl) (by kernel_rfl) (fun _ _ _ h => h) (Or.inl ⟨by rfl, ?_⟩) (by assumption) ?_
        rotate_left
        · intro w hSw
          try dsimp only at hSw
          go_simp
          with_reducible rfl
        try simp only [Act.put, List.setIfInBounds_toArray, List.set_cons_zero, List.set_cons_succ]
        refine held_take (4) (v := ?_) rfl (by kernel_rfl) (by kernel_rfl) (by kernel_rfl) (fun _ _ _ h => h) (Or.inl ⟨by rfl, ?_⟩) (by assumption) ?_
        rotate_left
        · intro w hSw
          try dsimp only at hSw
          go_simp
          with_reducible rfl
        try simp only [Act.put, List.setIfInBounds_toArray, List.set_cons_zero, List.set_cons_succ]
        refine held_take (5) (v := ?_) rfl (by kernel_rfl) (by kernel_rfl) (by kernel_rfl) (fun _ _ _ h => h) (Or.inl ⟨by rfl, ?_⟩) (by assumption) ?_
        rotate_left
        · intro w hSw
          try dsimp only at hSw
          go_simp
          with_reducible rfl
        try simp only [Act.put, List.setIfInBounds_toArray, List.set_cons_zero, List.set_cons_succ]
        refine held_take (7) (v := ?_) rfl (by kernel_rfl) (by kernel_rfl) (by kernel_rfl) (fun _ _ _ h => h) (Or.inl ⟨by rfl, ?_⟩) (by assumption) ?_
        rotate_left
        · intro w hSw
          try dsimp only at hSw
          go_simp
          with_reducible rfl
        try simp only [Act.put, List.setIfInBounds_toArray, List.set_cons_zero, List.set_cons_succ]
        refine held_take (8) (v := ?_) rfl (by kernel_rfl) (by kernel_rfl) (by kernel_rfl) (fun _ _ _ h => h) (Or.inl ⟨by rfl, ?_⟩) (by assumption) ?_
        rotate_left
        · intro w hSw
          try dsimp only at hSw
          go_simp
          with_reducible rfl
        try simp only [Act.put, List.setIfInBounds_toArray, List.set_cons_zero, List.set_cons_succ]
        refine held_take (10) (v := ?_) rfl (by kernel_rfl) (by kernel_rfl) (by kernel_rfl) (fun _ _ _ h => h) (Or.inl ⟨by rfl, ?_⟩) (by assumption) ?_
        rotate_left
        · intro w hSw
          try dsimp only at hSw
          go_simp
          with_reducible rfl
        try simp only [Act.put, List.setIfInBounds_toArray, List.set_cons_zero, List.set_cons_succ]
        refine wpAnyH_ready (rs := [6, 15]) (by kernel_rfl) (by simp) ?_
        refine held_cons rfl (fun K hK => ?_) ?_
        · skip
          go_simp
          go_at_call 13
          (with_reducible refine (KP.out _).mono ?_)
          (first | rintro e wM rfl rfl | rintro e wM ⟨rfl, rfl⟩)
          go_wp2_with fail
          refine hK.out _ _ ⟨hO.y.cell 0 rfl, hO.y.cell 1 rfl, hG.cell 0 rfl, hG.cell 1 rfl⟩ (fun hHeld => ?_)
          clear hK K
          try simp only [Act.put, List.setIfInBounds_toArray, List.set_cons_zero, List.set_cons_succ]
          refine held_take (9) (v := ?_) rfl (by kernel_rfl) (by kernel_rfl) (by kernel_rfl) (fun _ _ _ h => h) (Or.inl ⟨by rfl, ?_⟩) (by assumption) ?_
          rotate_left
          · intro w hSw
            try dsimp only at hSw
            go_simp
            with_reducible rfl
          try simp only [Act.put, List.setIfInBounds_toArray, List.set_cons_zero, List.set_cons_succ]
          refine wpAnyH_ready (rs := [11, 15]) (by kernel_rfl) (by simp) ?_
          refine held_cons rfl (fun K hK => ?_) ?_
          · skip
            go_simp
            go_at_call 12
            (with_reducible refine (KD.out _ _ _ (HBS.out _ hO.b) hO.s).mono ?_)
            (first | rintro e wA ⟨aA, cA, rfl, -, rA, fA, hb5⟩ | rintro e wA aA cA rfl - rA fA hb5)
            have hA := hO.keep hb5
            have gA := hG.keep hb5
            have sA := hS.keep hb5
            have fB : ∀ j, rowOf aA = some j → gb < j := fun j hj => Nat.lt_of_lt_of_le hO.y.lt (fA j hj)
            clear hb5
            go_wp2_with fail
            refine hK.out _ _ ⟨hA.y.cell 0 rfl, hA.y.cell 1 rfl, gA.cell 0 rfl, gA.cell 1 rfl⟩ (fun hHeld => ?_)
            clear hK K
            try simp only [Act.put, List.setIfInBounds_toArray, List.set_cons_zero, List.set_cons_succ]
            refine held_take (12) (v := ?_) rfl (by kernel_rfl) (by kernel_rfl) (by kernel_rfl) (fun _ _ _ h => h) (Or.inl ⟨by rfl, ?_⟩) (by assumption) ?_
            rotate_left
            · intro w hSw
              try dsimp only at hSw
              go_simp
              with_reducible rfl
            try simp only [Act.put, List.setIfInBounds_toArray, List.set_cons_zero, List.set_cons_succ]
            refine held_take (13) (v := ?_) rfl (by kernel_rfl) (by kernel_rfl) (by kernel_rfl) (fun _ _ _ h => h) (Or.inl ⟨by rfl, ?_⟩) (by assumption) ?_
            rotate_left
            · intro w hSw
              try dsimp only at hSw
              go_simp
              with_reducible rfl
            try simp only [Act.put, List.setIfInBounds_toArray, List.set_cons_zero, List.set_cons_succ]
            refine held_take (14) (v := ?_) rfl (by kernel_rfl) (by kernel_rfl) (by kernel_rfl) (fun _ _ _ h => h) (Or.inl ⟨by rfl, ?_⟩) (by assumption) ?_
            rotate_left
            · intro w hSw
              try dsimp only at hSw
              go_simp
              with_reducible rfl
            try simp only [Act.put, List.setIfInBounds_toArray, List.set_cons_zero, List.set_cons_succ]
            refine wpAnyH_ready (rs := [15]) (by kernel_rfl) (by simp) ?_
            refine held_cons rfl (fun K hK => ?_) AllReadyH.nil
            go_simp
            have hbZ := (Below.refl wA.heap.size wA).alloc (Nat.le_refl _) (.cells #[.int .i64 0, .slice none 0 0] 30)
            have zZ := Bx.new wA 30 [.int .i64 0, .slice none 0 0]
            change Bx (wA.alloc (.cells #[.int .i64 0, .slice none 0 0] 30)) _ _ _ at zZ
            have hZ := hA.keep hbZ
            have gZ := gA.keep hbZ
            have sZ := sA.keep hbZ
            have rZ := rA.keep hbZ
            refine hK.out _ _ ⟨hZ.y.cell 0 rfl, hZ.y.cell 1 rfl, gZ.cell 0 rfl, gZ.cell 1 rfl⟩ (fun hHeld => ?_)
            clear hK K
            try simp only [Act.put, List.setIfInBounds_toArray, List.set_cons_zero, List.set_cons_succ]
            refine wpAnyH_ready (rs := [16]) (by kernel_rfl) (by simp) ?_
            refine held_cons rfl (fun K hK => ?_) AllReadyH.nil
            go_simp
            have hbQ := (Below.refl wA.heap.size wA).alloc (Nat.le_refl _) (.cells #[.int .i64 500000003, .slice aA (subI (mskI n z k + 2 ^ kk)).length cA] 30)
            have zQ := Bx.new wA 30 [.int .i64 500000003, .slice aA (subI (mskI n z k + 2 ^ kk)).length cA]
            change Bx (wA.alloc (.cells #[.int .i64 500000003, .slice aA (subI (mskI n z k + 2 ^ kk)).length cA] 30)) _ _ _ at zQ
            have hQ := hA.keep hbQ
            have gQ := gA.keep hbQ
            have sQ := sA.keep hbQ
            have rQ := rA.keep hbQ
            clear hbQ hZ gZ sZ rZ zZ hbZ
            generalize wA.alloc (.cells #[.int .i64 500000003, .slice aA (subI (mskI n z k + 2 ^ kk)).length cA] 30) = wQ at *
            refine hK.out _ _ ⟨hQ.y.cell 0 rfl, hQ.y.cell 1 rfl, gQ.cell 0 rfl, gQ.cell 1 rfl⟩ (fun hHeld => ?_)
            clear hK K
            try simp only [Act.put, List.setIfInBounds_toArray, List.set_cons_zero, List.set_cons_succ]
            refine wpAnyH_done (by kernel_rfl) ?_ _
            dsimp only [Behind]
            go_simp
            obtain ⟨x0, x1, y0, y1⟩ := hQ.cells
            obtain ⟨e0, e1, e2, e3⟩ := hQ.frees
            have q0 := zQ.cell 0 (v := .int .i64 500000003) rfl
            have q1 := zQ.cell 1 (v := .slice aA (subI (mskI n z k + 2 ^ kk)).length cA) rfl
            have hE : Eo W ((wQ.setCell ⟨gb, 0, none⟩ (.int .i64 500000003)).setCell ⟨gb, 1, none⟩ (.slice aA (subI (mskI n z k + 2 ^ kk)).length cA)) B ga gb (if 2 = 0 then mskI n 0 k else mskI n 0 (k + 1)) b1 d1 (if 2 = 2 then mskI n z (k + 1) else mskI n z k) aA cA := by
              rw [if_neg (by decide), if_pos rfl, HMS.out]
              exact hQ.sety rQ fB
            have hlt := hO.lt
            have sE := (sQ.other (b := gb) (by omega) 0 (.int .i64 500000003)).other (b := gb) (by omega) 1 (.slice aA (subI (mskI n z k + 2 ^ kk)).length cA)
            clear hQ gQ sQ rQ zQ hA gA sA rA hO hG hS KP KD HMS
            go_wp2_with fail
            go_roundw
            case rel => exact ⟨2, b1, d1, aA, cA, by omega, by go_num, hE, sE⟩
            case measure => simp [intOf]
          · refine held_cons rfl (fun K hK => ?_) AllReadyH.nil
            go_simp
            have hbZ := (Below.refl v4.heap.size v4).alloc (Nat.le_refl _) (.cells #[.int .i64 0, .slice none 0 0] 30)
            have zZ := Bx.new v4 30 [.int .i64 0, .slice none 0 0]
            change Bx (v4.alloc (.cells #[.int .i64 0, .slice none 0 0] 30)) _ _ _ at zZ
            have hZ := hO.keep hbZ
            have gZ := hG.keep hbZ
            have sZ := hS.keep hbZ
            refine hK.out _ _ ⟨hZ.y.cell 0 rfl, hZ.y.cell 1 rfl, gZ.cell 0 rfl, gZ.cell 1 rfl⟩ (fun hHeld => ?_)
            clear hK K
            try simp only [Act.put, List.setIfInBounds_toArray, List.set_cons_zero, List.set_cons_succ]
            refine wpAnyH_ready (rs := [11]) (by kernel_rfl) (by simp) ?_
            refine held_cons rfl (fun K hK => ?_) AllReadyH.nil
            go_simp
            go_at_call 12
            (with_reducible refine (KD.out _ _ _ (HBS.out _ hZ.b) hZ.s).mono ?_)
            (first | rintro e wA ⟨aA, cA, rfl, -, rA, fA, hb5⟩ | rintro e wA aA cA rfl - rA fA hb5)
            have hA := hZ.keep hb5
            have gA := gZ.keep hb5
            have sA := sZ.keep hb5
            have fB : ∀ j, rowOf aA = some j → gb < j := fun j hj => Nat.lt_of_lt_of_le hZ.y.lt (fA j hj)
            have zA := zZ.keep hb5
            have bA := hbZ.trans (hb5.mono hbZ.size)
            have fZ : ∀ j, rowOf aA = some j → v4.heap.size < j := fun j hj => by have := fA j hj; simp at this; omega
            clear hb5
            go_wp2_with fail
            refine hK.out _ _ ⟨hA.y.cell 0 rfl, hA.y.cell 1 rfl, gA.cell 0 rfl, gA.cell 1 rfl⟩ (fun hHeld => ?_)
            clear hK K
            try simp only [Act.put, List.setIfInBounds_toArray, List.set_cons_zero, List.set_cons_succ]
            refine held_take (12) (v := ?_) rfl (by kernel_rfl) (by kernel_rfl) (by kernel_rfl) (fun _ _ _ h => h) (Or.inl ⟨by rfl, ?_⟩) (by assumption) ?_
            rotate_left
            · intro w hSw
              try dsimp only at hSw
              go_simp
              with_reducible rfl
            try simp only [Act.put, List.setIfInBounds_toArray, List.set_cons_zero, List.set_cons_succ]
            refine held_take (13) (v := ?_) rfl (by kernel_rfl) (by kernel_rfl) (by kernel_rfl) (fun _ _ _ h => h) (Or.inl ⟨by rfl, ?_⟩) (by assumption) ?_
            rotate_left
            · intro w hSw
              try dsimp only at hSw
              go_simp
              with_reducible rfl
            try simp only [Act.put, List.setIfInBounds_toArray, List.set_cons_zero, List.set_cons_succ]
            refine held_take (14) (v := ?_) rfl (by kernel_rfl) (by kernel_rfl) (by kernel_rfl) (fun _ _ _ h => h) (Or.inl ⟨by rfl, ?_⟩) (by assumption) ?_
            rotate_left
            · intro w hSw
              try dsimp only at hSw
              go_simp
              with_reducible rfl
            try simp only [Act.put, List.setIfInBounds_toArray, List.set_cons_zero, List.set_cons_succ]
            refine wpAnyH_ready (rs := [16]) (by kernel_rfl) (by simp) ?_
            refine held_cons rfl (fun K hK => ?_) AllReadyH.nil
            have z0 := zA.cell 0 (v := .int .i64 0) rfl
            have z1 := zA.cell 1 (v := .slice none 0 0) rfl
            have e0 := zA.free 0
            have e1 := zA.free 1
            have gz := zA.lt
            go_simp
            have bQ := (bA.setCell (p := ⟨v4.heap.size, 0, none⟩) (Nat.le_refl _) (.int .i64 500000003)).setCell (p := ⟨v4.heap.size, 1, none⟩) (Nat.le_refl _) (.slice aA (subI (mskI n z k + 2 ^ kk)).length cA)
            have zQ := (zA.set 0 (.int .i64 500000003)).set 1 (.slice aA (subI (mskI n z k + 2 ^ kk)).length cA)
            change Bx _ _ _ [.int .i64 500000003, .slice aA (subI (mskI n z k + 2 ^ kk)).length cA] at zQ
            have hQ := hO.keep bQ
            have gQ := hG.keep bQ
            have sQ := hS.keep bQ
            have rQ := (rA.grown (set_grown wA v4.heap.size 0 (.int .i64 500000003)) (fun g o e => by have := fZ g (by rw [e]; rfl); simp; omega)).grown (set_grown _ v4.heap.size 1 (.slice aA (subI (mskI n z k + 2 ^ kk)).length cA)) (fun g o e => by have := fZ g (by rw [e]; rfl); simp; omega)
            clear bQ z0 z1 e0 e1 zZ hZ gZ sZ
            generalize (wA.setCell ⟨v4.heap.size, 0, none⟩ (.int .i64 500000003)).setCell ⟨v4.heap.size, 1, none⟩ (.slice aA (subI (mskI n z k + 2 ^ kk)).length cA) = wQ at *
            refine hK.out _ _ ⟨hQ.y.cell 0 rfl, hQ.y.cell 1 rfl, gQ.cell 0 rfl, gQ.cell 1 rfl⟩ (fun hHeld => ?_)
            clear hK K
            try simp only [Act.put, List.setIfInBounds_toArray, List.set_cons_zero, List.set_cons_succ]
            refine wpAnyH_done (by kernel_rfl) ?_ _
            dsimp only [Behind]
            go_simp
            obtain ⟨x0, x1, y0, y1⟩ := hQ.cells
            obtain ⟨e0, e1, e2, e3⟩ := hQ.frees
            have q0 := zQ.cell 0 (v := .int .i64 500000003) rfl
            have q1 := zQ.cell 1 (v := .slice aA (subI (mskI n z k + 2 ^ kk)).length cA) rfl
            have hE : Eo W ((wQ.setCell ⟨gb, 0, none⟩ (.int .i64 500000003)).setCell ⟨gb, 1, none⟩ (.slice aA (subI (mskI n z k + 2 ^ kk)).length cA)) B ga gb (if 2 = 0 then mskI n 0 k else mskI n 0 (k + 1)) b1 d1 (if 2 = 2 then mskI n z (k + 1) else mskI n z k) aA cA := by
              rw [if_neg (by decide), if_pos rfl, HMS.out]
              exact hQ.sety rQ fB
            have hlt := hO.lt
            have sE := (sQ.other (b := gb) (by omega) 0 (.int .i64 500000003)).other (b := gb) (by omega) 1 (.slice aA (subI (mskI n z k + 2 ^ kk)).length cA)
            clear hQ gQ sQ rQ zQ hA gA sA rA hO hG hS KP KD HMS
            go_wp2_with fail
            go_roundw
            case rel => exact ⟨2, b1, d1, aA, cA, by omega, by go_num, hE, sE⟩
            case measure => simp [intOf]
        · refine held_cons rfl (fun K hK => ?_) AllReadyH.nil
          go_simp
          have hbZ := (Below.refl v4.heap.size v4).alloc (Nat.le_refl _) (.cells #[.int .i64 0, .slice none 0 0] 30)
          have zZ := Bx.new v4 30 [.int .i64 0, .slice none 0 0]
          change Bx (v4.alloc (.cells #[.int .i64 0, .slice none 0 0] 30)) _ _ _ at zZ
          have hZ := hO.keep hbZ
          have gZ := hG.keep hbZ
          have sZ := hS.keep hbZ
          refine hK.out _ _ ⟨hZ.y.cell 0 rfl, hZ.y.cell 1 rfl, gZ.cell 0 rfl, gZ.cell 1 rfl⟩ (fun hHeld => ?_)
          clear hK K
          try simp only [Act.put, List.setIfInBounds_toArray, List.set_cons_zero, List.set_cons_succ]
          refine wpAnyH_ready (rs := [6]) (by kernel_rfl) (by simp) ?_
          refine held_cons rfl (fun K hK => ?_) AllReadyH.nil
          go_simp
          go_at_call 13
          (with_reducible refine (KP.out _).mono ?_)
          (first | rintro e wM rfl rfl | rintro e wM ⟨rfl, rfl⟩)
          go_wp2_with fail
          refine hK.out _ _ ⟨hZ.y.cell 0 rfl, hZ.y.cell 1 rfl, gZ.cell 0 rfl, gZ.cell 1 rfl⟩ (fun hHeld => ?_)
          clear hK K
          try simp only [Act.put, List.setIfInBounds_toArray, List.set_cons_zero, List.set_cons_succ]
          refine held_take (9) (v := ?_) rfl (by kernel_rfl) (by kernel_rfl) (by kernel_rfl) (fun _ _ _ h => h) (Or.inl ⟨by rfl, ?_⟩) (by assumption) ?_
          rotate_left
          · intro w hSw
            try dsimp only at hSw
            go_simp
            with_reducible rfl
          try simp only [Act.put, List.setIfInBounds_toArray, List.set_cons_zero, List.set_cons_succ]
          refine wpAnyH_ready (rs := [11]) (by kernel_rfl) (by simp) ?_
          refine held_cons rfl (fun K hK => ?_) AllReadyH.nil
          go_simp
          go_at_call 12
          (with_reducible refine (KD.out _ _ _ (HBS.out _ hZ.b) hZ.s).mono ?_)
          (first | rintro e wA ⟨aA, cA, rfl, -, rA, fA, hb5⟩ | rintro e wA aA cA rfl - rA fA hb5)
          have hA := hZ.keep hb5
          have gA := gZ.keep hb5
          have sA := sZ.keep hb5
          have fB : ∀ j, rowOf aA = some j → gb < j := fun j hj => Nat.lt_of_lt_of_le hZ.y.lt (fA j hj)
          have zA := zZ.keep hb5
          have bA := hbZ.trans (hb5.mono hbZ.size)
          have fZ : ∀ j, rowOf aA = some j → v4.heap.size < j := fun j hj => by have := fA j hj; simp at this; omega
          clear hb5
          go_wp2_with fail
          refine hK.out _ _ ⟨hA.y.cell 0 rfl, hA.y.cell 1 rfl, gA.cell 0 rfl, gA.cell 1 rfl⟩ (fun hHeld => ?_)
          clear hK K
          try simp only [Act.put, List.setIfInBounds_toArray, List.set_cons_zero, List.set_cons_succ]
          refine held_take (12) (v := ?_) rfl (by kernel_rfl) (by kernel_rfl) (by kernel_rfl) (fun _ _ _ h => h) (Or.inl ⟨by rfl, ?_⟩) (by assumption) ?_
          rotate_left
          · intro w hSw
            try dsimp only at hSw
            go_simp
            with_reducible rfl
          try simp only [Act.put, List.setIfInBounds_toArray, List.set_cons_zero, List.set_cons_succ]
          refine held_take (13) (v := ?_) rfl (by kernel_rfl) (by kernel_rfl) (by kernel_rfl) (fun _ _ _ h => h) (Or.inl ⟨by rfl, ?_⟩) (by assumption) ?_
          rotate_left
          · intro w hSw
            try dsimp only at hSw
            go_simp
            with_reducible rfl
          try simp only [Act.put, List.setIfInBounds_toArray, List.set_cons_zero, List.set_cons_succ]
          refine held_take (14) (v := ?_) rfl (by kernel_rfl) (by kernel_rfl) (by kernel_rfl) (fun _ _ _ h => h) (Or.inl ⟨by rfl, ?_⟩) (by assumption) ?_
          rotate_left
          · intro w hSw
            try dsimp only at hSw
            go_simp
            with_reducible rfl
          try simp only [Act.put, List.setIfInBounds_toArray, List.set_cons_zero, List.set_cons_succ]
          refine wpAnyH_ready (rs := [16]) (by kernel_rfl) (by simp) ?_
          refine held_cons rfl (fun K hK => ?_) AllReadyH.nil
          have z0 := zA.cell 0 (v := .int .i64 0) rfl
          have z1 := zA.cell 1 (v := .slice none 0 0) rfl
          have e0 := zA.free 0
          have e1 := zA.free 1
          have gz := zA.lt
          go_simp
          have bQ := (bA.setCell (p := ⟨v4.heap.size, 0, none⟩) (Nat.le_refl _) (.int .i64 500000003)).setCell (p := ⟨v4.heap.size, 1, none⟩) (Nat.le_refl _) (.slice aA (subI (mskI n z k + 2 ^ kk)).length cA)
          have zQ := (zA.set 0 (.int .i64 500000003)).set 1 (.slice aA (subI (mskI n z k + 2 ^ kk)).length cA)
          change Bx _ _ _ [.int .i64 500000003, .slice aA (subI (mskI n z k + 2 ^ kk)).length cA] at zQ
          have hQ := hO.keep bQ
          have gQ := hG.keep bQ
          have sQ := hS.keep bQ
          have rQ := (rA.grown (set_grown wA v4.heap.size 0 (.int .i64 500000003)) (fun g o e => by have := fZ g (by rw [e]; rfl); simp; omega)).grown (set_grown _ v4.heap.size 1 (.slice aA (subI (mskI n z k + 2 ^ kk)).length cA)) (fun g o e => by have := fZ g (by rw [e]; rfl); simp; omega)
          clear bQ z0 z1 e0 e1 zZ hZ gZ sZ
          generalize (wA.setCell ⟨v4.heap.size, 0, none⟩ (.int .i64 500000003)).setCell ⟨v4.heap.size, 1, none⟩ (.slice aA (subI (mskI n z k + 2 ^ kk)).length cA) = wQ at *
          refine hK.out _ _ ⟨hQ.y.cell 0 rfl, hQ.y.cell 1 rfl, gQ.cell 0 rfl, gQ.cell 1 rfl⟩ (fun hHeld => ?_)
          clear hK K
          try simp only [Act.put, List.setIfInBounds_toArray, List.set_cons_zero, List.set_cons_succ]
          refine wpAnyH_done (by kernel_rfl) ?_ _
          dsimp only [Behind]
          go_simp
          obtain ⟨x0, x1, y0, y1⟩ := hQ.cells
          obtain ⟨e0, e1, e2, e3⟩ := hQ.frees
          have q0 := zQ.cell 0 (v := .int .i64 500000003) rfl
          have q1 := zQ.cell 1 (v := .slice aA (subI (mskI n z k + 2 ^ kk)).length cA) rfl
          have hE : Eo W ((wQ.setCell ⟨gb, 0, none⟩ (.int .i64 500000003)).setCell ⟨gb, 1, none⟩ (.slice aA (subI (mskI n z k + 2 ^ kk)).length cA)) B ga gb (if 2 = 0 then mskI n 0 k else mskI n 0 (k + 1)) b1 d1 (if 2 = 2 then mskI n z (k + 1) else mskI n z k) aA cA := by
            rw [if_neg (by decide), if_pos rfl, HMS.out]
            exact hQ.sety rQ fB
          have hlt := hO.lt
          have sE := (sQ.other (b := gb) (by omega) 0 (.int .i64 500000003)).other (b := gb) (by omega) 1 (.slice aA (subI (mskI n z k + 2 ^ kk)).length cA)
          clear hQ gQ sQ rQ zQ hA gA sA rA hO hG hS KP KD HMS
          go_wp2_with fail
          go_roundw
          case rel => exact ⟨2, b1, d1, aA, cA, by omega, by go_num, hE, sE⟩
          case measure => simp [intOf]
      · obtain rfl : t = 2 := by omega
        rw [if_neg (by decide), if_pos rfl] at hO
        clear hqt hS s0 s1
        go_wp2_with fail
        go_roundw
        case rel => exact ⟨k + 1, by omega, by go_num, _, _, _, _, hO⟩
        case measure => simp [intOf]; omega
end Go.Proofs.YtnahkfchcminpaaGreatDoor
