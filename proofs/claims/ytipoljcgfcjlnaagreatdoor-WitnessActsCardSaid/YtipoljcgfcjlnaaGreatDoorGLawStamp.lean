/- A stamp as a law's argument: what can be read of it. -/
import Derived.Test.YtipoljcgfcjlnaaGreatDoorLaw
import Derived.Test.YtipoljcgfcjlnaaGreatDoorGCustodyN
import Derived.Deep.Slices
import Derived.Lib.SmallJoins
import Derived.Test.YtipoljcgfcjlnaaGreatDoorGWitActsW
namespace Go.Proofs.YtipoljcgfcjlnaaGreatDoor
open Go.ChangeShapes Go.WideShapes Go.ChangeAt Go.RowKit Go.Deep
theorem stamp_fields : ∃ f0 f1 f2 f3 : Field, Tryz.prog.underlying 28 = some (.struct #[f0, f1, f2, f3]) ∧ (f0.type = 24 ∧ f0.offset = 0) ∧ (f1.type = 3 ∧ f1.offset = 4) ∧ (f2.type = 3 ∧ f2.offset = 5) ∧ (f3.type = 26 ∧ f3.offset = 6) :=
  ⟨_, _, _, _, Tryz.underlying28, ⟨rfl, rfl⟩, ⟨rfl, rfl⟩, ⟨rfl, rfl⟩, ⟨rfl, rfl⟩⟩
theorem head_fields : ∃ f0 f1 f2 f3 : Field, Tryz.prog.underlying 24 = some (.struct #[f0, f1, f2, f3]) ∧ (f0.type = 3 ∧ f0.offset = 0) ∧ (f1.type = 9 ∧ f1.offset = 1) ∧ (f2.type = 9 ∧ f2.offset = 2) ∧ (f3.type = 3 ∧ f3.offset = 3) :=
  ⟨_, _, _, _, Tryz.underlying24, ⟨rfl, rfl⟩, ⟨rfl, rfl⟩, ⟨rfl, rfl⟩, ⟨rfl, rfl⟩⟩
theorem sign_fields : ∃ f0 f1 : Field, Tryz.prog.underlying 26 = some (.struct #[f0, f1]) ∧ (f0.type = 3 ∧ f0.offset = 0) ∧ (f1.type = 3 ∧ f1.offset = 1) :=
  ⟨_, _, Tryz.underlying26, ⟨rfl, rfl⟩, ⟨rfl, rfl⟩⟩
theorem cells_in : Tryz.prog.cellsOf 3 = 1 := by kernel_rfl
theorem cells_st : Tryz.prog.cellsOf 9 = 1 := by kernel_rfl
theorem cells_hd : Tryz.prog.cellsOf 24 = 4 := by kernel_rfl
theorem cells_sg : Tryz.prog.cellsOf 26 = 2 := by kernel_rfl
theorem cells_stamp : Tryz.prog.cellsOf 28 = 8 := by kernel_rfl
set_option maxRecDepth 100000 in
theorem head_of {H : Type} {enc : TypeId × Value → H} {W : World} {base : Nat} {spare : Nat → Bool} {held : Bool} (n : Nat) (cs : List Value) (x : DataW H × List MemPlace)
    (h : DataW.trod enc Tryz.prog W base spare held n 24 cs = some x) : ∃ r : Head, cs = r.cells ∧ I64 r.count ∧ I64 r.time ∧ x.1 = .agg [.lit (.int .i64 r.count), .lit (.string r.last), .lit (.string r.root), .lit (.int .i64 r.time)] := by
  obtain ⟨f0, f1, f2, f3, hs, ⟨t0, o0⟩, ⟨t1, o1⟩, ⟨t2, o2⟩, ⟨t3, o3⟩⟩ := head_fields
  obtain ⟨xs, n', rfl, hx, hcl, hxl, hf⟩ := DataW.trod_struct hs h
  rw [cells_hd] at hcl
  match cs, hcl with
  | [c0, c1, c2, c3], _ =>
  match xs, hxl with
  | [y0, y1, y2, y3], _ =>
  have g0 := hf 0 f0 rfl
  have g1 := hf 1 f1 rfl
  have g2 := hf 2 f2 rfl
  have g3 := hf 3 f3 rfl
  rw [t0, o0, cells_in] at g0
  rw [t1, o1, cells_st] at g1
  rw [t2, o2, cells_st] at g2
  rw [t3, o3, cells_in] at g3
  simp only [List.drop_zero, List.drop_succ_cons, List.take_succ_cons, List.take_zero, List.getElem?_cons_zero, List.getElem?_cons_succ] at g0 g1 g2 g3
  obtain ⟨v0, e0, p0, w0⟩ := DataW.trod_int Tryz.underlying3 g0
  obtain ⟨v1, e1, p1, w1⟩ := DataW.trod_string Tryz.underlying9 g1
  obtain ⟨v2, e2, p2, w2⟩ := DataW.trod_string Tryz.underlying9 g2
  obtain ⟨v3, e3, p3, w3⟩ := DataW.trod_int Tryz.underlying3 g3
  simp only [List.cons.injEq, and_true] at e0 e1 e2 e3
  subst e0 e1 e2 e3
  refine ⟨⟨v0, v1.data.toList, v2.data.toList, v3⟩, by simp, I64.of_wf w0, I64.of_wf w3, ?_⟩
  rw [hx]
  simp [p0, p1, p2, p3]
set_option maxRecDepth 100000 in
theorem reads_stamp {W : World} {v : Value} {N : Nat} (h : Reads Tryz.prog W 28 v N) :
    ∃ x : Stm, v = x.val ∧ I64 x.head.count ∧ I64 x.head.time ∧ I64 x.seen ∧ x.head.last.length ≤ 281474976710656 ∧ x.head.root.length ≤ 281474976710656 := by
  obtain ⟨⟨base, hv⟩, H, enc, d, ps, hd, hw, hN⟩ := h
  obtain ⟨f0, f1, f2, f3, hs, ⟨t0, o0⟩, ⟨t1, o1⟩, ⟨t2, o2⟩, ⟨t3, o3⟩⟩ := stamp_fields
  obtain ⟨cs, rfl, hsz⟩ := okWide_struct hs hv
  obtain ⟨fuel, hf⟩ := hd
  obtain ⟨xs, n', -, hx, hcl, hxl, hf⟩ := DataW.trod_struct hs hf
  rw [cells_stamp] at hsz
  obtain ⟨c⟩ := cs
  match c, hsz with
  | [c0, c1, c2, c3, c4, c5, c6, c7], _ =>
  match xs, hxl with
  | [y0, y1, y2, y3], _ =>
  have g0 := hf 0 f0 rfl
  have g1 := hf 1 f1 rfl
  have g2 := hf 2 f2 rfl
  have g3 := hf 3 f3 rfl
  rw [t0, o0, cells_hd] at g0
  rw [t1, o1, cells_in] at g1
  rw [t2, o2, cells_in] at g2
  rw [t3, o3, cells_sg] at g3
  simp only [Value.cells, List.drop_zero, List.drop_succ_cons, List.take_succ_cons, List.take_zero, List.getElem?_cons_zero, List.getElem?_cons_succ] at g0 g1 g2 g3
  obtain ⟨r, e0, hc, ht, hd0⟩ := head_of _ _ _ g0
  obtain ⟨v1, e1, p1, w1⟩ := DataW.trod_int Tryz.underlying3 g1
  obtain ⟨v2, e2, p2, w2⟩ := DataW.trod_int Tryz.underlying3 g2
  obtain ⟨h0, h1, hs2, ⟨s0, q0⟩, ⟨s1, q1⟩⟩ := sign_fields
  obtain ⟨zs, m', -, hz, hcl2, hzl, hf2⟩ := DataW.trod_struct hs2 g3
  match zs, hzl with
  | [z0, z1], _ =>
  have k0 := hf2 0 h0 rfl
  have k1 := hf2 1 h1 rfl
  rw [s0, q0, cells_in] at k0
  rw [s1, q1, cells_in] at k1
  simp only [List.drop_zero, List.drop_succ_cons, List.take_succ_cons, List.take_zero, List.getElem?_cons_zero, List.getElem?_cons_succ] at k0 k1
  obtain ⟨v3, e3, p3, w3⟩ := DataW.trod_int Tryz.underlying3 k0
  obtain ⟨v4, e4, p4, w4⟩ := DataW.trod_int Tryz.underlying3 k1
  simp only [List.cons.injEq, and_true] at e0 e1 e2 e3 e4
  obtain ⟨a0, a1, a2, a3⟩ := e0
  subst a0 a1 a2 a3 e1 e2 e3 e4
  have hdd : d = .agg [y0.1, y1.1, y2.1, y3.1] := by
    have := congrArg Prod.fst hx
    simpa using this
  have hb : ∀ n, n = r.last.length ∨ n = r.root.length → n ≤ reachBytes := fun n hn => hw n (by
    rw [hdd, hd0]
    rcases hn with rfl | rfl <;> simp [DataW.weights, DataW.weightsEach, Tryz.underlying28, Tryz.underlying24])
  refine ⟨⟨r, v1, v2, v3, v4⟩, rfl, hc, ht, I64.of_wf w1, ?_, ?_⟩
  · have := hb _ (.inl rfl); simp [reachBytes] at this; dsimp only; omega
  · have := hb _ (.inr rfl); simp [reachBytes] at this; dsimp only; omega
end Go.Proofs.YtipoljcgfcjlnaaGreatDoor
/- The walk of the law WitnessActs, its arguments in the row's order. -/
namespace Go.Proofs.YtipoljcgfcjlnaaGreatDoor
open Go.RowKit
theorem wacts_walk2 (W : World) (hB : Bases W) (p : Option Addr) (l : List Int) (cap : Nat) (hR : Rd W p (ints l)) (hl : l.length ≤ 17592186043904) (pr : Int) (_h1 : I64 pr) (raw : Stm) (hrc : I64 raw.head.count) (hrt : I64 raw.head.time) (hrs : I64 raw.seen) (hr1 : raw.head.last.length ≤ 281474976710656) (hr2 : raw.head.root.length ≤ 281474976710656) (key : Int) (_h2 : I64 key) (nonce : Int) (_h3 : I64 nonce) (seen : Int) (hsn : I64 seen) :
    Calls Tryz.prog 3 #[.slice p l.length cap, .int .i64 pr, raw.val, .int .i64 key, .int .i64 nonce, .int .i64 seen] W fun e w' => e = .returned (.bool true) ∧ Below W.heap.size W w' :=
  wacts_walk W hB p l cap hR hl pr raw hrc hrt hrs hr1 hr2 key nonce seen hsn
end Go.Proofs.YtipoljcgfcjlnaaGreatDoor
