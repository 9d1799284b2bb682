/- Plays: play.Statement. -/
import Derived.Test.YtpofijdkckaphaaGreatDoorGPlyB
import Derived.Test.YtpofijdkckaphaaGreatDoorGCndG
import Derived.Test.YtpofijdkckaphaaGreatDoorGAppAt
namespace Go.Proofs.YtpofijdkckaphaaGreatDoor
open Go.RowKit
/-- what is shown to whom -/
structure Shw where
  field : List UInt8
  role : List UInt8
def shC (x : Shw) : List Value := [.string ⟨x.field.toArray⟩, .string ⟨x.role.toArray⟩]
theorem shC_len (x : Shw) : (shC x).length = 2 := rfl
theorem elAns : ElemOf Tryz.prog 37 83 (.agg #[.string ByteArray.empty, .string ByteArray.empty, .int .i64 0]) 3 40 := ⟨Tryz.underlying37, by kernel_rfl, rfl, by decide, by decide⟩
theorem elShw : ElemOf Tryz.prog 62 86 (.agg #[.string ByteArray.empty, .string ByteArray.empty]) 2 32 := ⟨Tryz.underlying62, by kernel_rfl, rfl, by decide, by decide⟩
theorem pl_strs (w : World) (l : List (List UInt8)) : Rd (w.alloc (.cells (strs l).toArray 9)) (some ⟨w.heap.size, 0, none⟩) (strs l) := Rd.mk fun j u hj => by
  rw [Nat.zero_add, World.cell?_alloc_at _ _ _ _ rfl]; simpa using hj
/-- a statement, and where its parts lie -/
structure Stm where
  r : List UInt8
  dp : Int
  dy : Int
  A : List Ans
  aa : Option Addr
  ac : Nat
  T : List Trm
  ta : Option Addr
  tc : Nat
  S : List Shw
  sa : Option Addr
  sc : Nat
def stC (x : Stm) : List Value := [.string ⟨x.r.toArray⟩, .int .i64 x.dp, .int .i64 x.dy, .slice x.aa x.A.length x.ac, .slice x.ta x.T.length x.tc, .slice x.sa x.S.length x.sc]
/-- a statement of a play, in the blocks lo .. hi - 1 -/
structure StOk (w : World) (lo hi : Nat) (x : Stm) : Prop where
  c : Cf w lo hi x.ta x.tc x.T
  a : Rd w x.aa (rowsC anC x.A)
  s : Rd w x.sa (rowsC shC x.S)
  ra : ∀ j, rowOf x.aa = some j → lo ≤ j ∧ j < hi
  rs : ∀ j, rowOf x.sa = some j → lo ≤ j ∧ j < hi
  ai : ∀ y ∈ x.A, y.In
  si : ∀ y ∈ x.S, y.field.length ≤ 1000 ∧ y.role.length ≤ 1000
  n : (0 ≤ x.dp ∧ x.dp ≤ 2) ∧ (700000 ≤ x.dy ∧ x.dy ≤ 700899) ∧ x.r.length ≤ 1000
  m : x.A.length ≤ 2 ∧ (1 ≤ x.T.length ∧ x.T.length ≤ 3) ∧ x.S.length ≤ 3
  k : x.A.length ≤ x.ac ∧ x.S.length ≤ x.sc
theorem StOk.kp {P : Nat → Prop} {w w' : World} {lo hi : Nat} {x : Stm} (h : StOk w lo hi x) (hk : Kp P w w') (hs : ∀ j, lo ≤ j → j < hi → ¬ P j) : StOk w' lo hi x :=
  ⟨h.c.kp hk hs, h.a.kp hk (fun j hj => hs j (h.ra j hj).1 (h.ra j hj).2), h.s.kp hk (fun j hj => hs j (h.rs j hj).1 (h.rs j hj).2), h.ra, h.rs, h.ai, h.si, h.n, h.m, h.k⟩
theorem StOk.keep {w w' : World} {lo hi : Nat} {x : Stm} (h : StOk w lo hi x) (hb : Below w.heap.size w w') : StOk w' lo hi x :=
  ⟨h.c.keep hb, h.a.keep hb, h.s.keep hb, h.ra, h.rs, h.ai, h.si, h.n, h.m, h.k⟩
/-- what Statement gives -/
def StRes (W w : World) (db : Nat) (p : Option Addr) (l : List Int) (cap : Nat) (e : Ending) (w' : World) : Prop :=
  ∃ x : Stm, e = .returned (.agg #[.string ⟨x.r.toArray⟩, .int .i64 x.dp, .int .i64 x.dy, .slice x.aa x.A.length x.ac, .slice x.ta x.T.length x.tc, .slice x.sa x.S.length x.sc]) ∧ StOk w' w.heap.size w'.heap.size x ∧ Dc W w' db p l cap ∧ KD db w w'
theorem Stm.ret {fn : Func} {t : Tmp} (h : fn.results = #[.cell t 64]) (tmps : Array Value) {w : World} {g : Nat} {v0 v1 v2 v3 v4 v5 : Value} (ht : tmps.getD t undef = .pointer (some ⟨g, 0, none⟩)) (hD : Bx w g 64 [v0, v1, v2, v3, v4, v5]) :
    (results fn tmps).run Tryz.prog w = .ok (.agg #[v0, v1, v2, v3, v4, v5]) w := by
  have c0 := hD.cell 0 (v := v0) rfl
  have c1 := hD.cell 1 (v := v1) rfl
  have c2 := hD.cell 2 (v := v2) rfl
  have c3 := hD.cell 3 (v := v3) rfl
  have c4 := hD.cell 4 (v := v4) rfl
  have c5 := hD.cell 5 (v := v5) rfl
  have ht' : tmps[t]?.getD undef = .pointer (some ⟨g, 0, none⟩) := by simpa using ht
  simp [results, h, ht', go_sem, c0, c1, c2, c3, c4, c5]
/-- Statement under way -/
structure Sw (W w0 w : World) (db : Nat) (p : Option Addr) (l : List Int) (cap g2 g3 : Nat) (r : List UInt8) (dp dy : Int) (aa : Option Addr) (na ac : Nat) (A : List Ans) (ta : Option Addr) (tc : Nat) (T : List Trm) (sa : Option Addr) (ns sc : Nat) (S : List Shw) : Prop where
  d : Dc W w db p l cap
  k : KD db w0 w
  lt : db < w0.heap.size
  lo : w0.heap.size ≤ g2
  ne : g2 < g3
  z : Bx w g2 64 [.string ⟨#[]⟩, .int .i64 0, .int .i64 0, .slice none 0 0, .slice none 0 0, .slice none 0 0]
  b : Bx w g3 64 [.string ⟨r.toArray⟩, .int .i64 dp, .int .i64 dy, .slice aa na ac, .slice ta T.length tc, .slice sa ns sc]
  c : Cf w (g2 + 1) g3 ta tc T
  oa : Ow w (g3 + 1) 3 aa na ac (rowsC anC A)
  os : Ow w (g3 + 1) 2 sa ns sc (rowsC shC S)
  dis : ∀ j, rowOf aa = some j → rowOf sa ≠ some j
  an : A.length = na
  sn : S.length = ns
  al : na ≤ 2
  sl : ns ≤ 3
  ai : ∀ y ∈ A, y.In
  si : ∀ y ∈ S, y.field.length ≤ 1000 ∧ y.role.length ≤ 1000
  n : (0 ≤ dp ∧ dp ≤ 2) ∧ (700000 ≤ dy ∧ dy ≤ 700899) ∧ r.length ≤ 1000
  tl : 1 ≤ T.length ∧ T.length ≤ 3
section
variable {W w0 w w' : World} {db : Nat} {p : Option Addr} {l : List Int} {cap g2 g3 : Nat} {r : List UInt8} {dp dy : Int} {aa : Option Addr} {na ac : Nat} {A : List Ans} {ta : Option Addr} {tc : Nat} {T : List Trm} {sa : Option Addr} {ns sc : Nat} {S : List Shw}
theorem Sw.next (h : Sw W w0 w db p l cap g2 g3 r dp dy aa na ac A ta tc T sa ns sc S) (hD : Dc W w' db p l cap) (hk : KD db w w') : Sw W w0 w' db p l cap g2 g3 r dp dy aa na ac A ta tc T sa ns sc S := by
  have hlt := h.lt
  have hlo := h.lo
  have hne := h.ne
  exact ⟨hD, h.k.tr hk, hlt, hlo, hne, h.z.kp hk (by omega), h.b.kp hk (by omega), h.c.kp hk (fun j h1 _ e => by omega), h.oa.kp hk (fun j hj e => by have := (h.oa.row j hj).1; omega), h.os.kp hk (fun j hj e => by have := (h.os.row j hj).1; omega), h.dis, h.an, h.sn, h.al, h.sl, h.ai, h.si, h.n, h.tl⟩
theorem Sw.keep (h : Sw W w0 w db p l cap g2 g3 r dp dy aa na ac A ta tc T sa ns sc S) (hb : Below w.heap.size w w') : Sw W w0 w' db p l cap g2 g3 r dp dy aa na ac A ta tc T sa ns sc S := h.next (h.d.keep hb) (KD.of_below hb)
theorem Sw.ca (h : Sw W w0 w db p l cap g2 g3 r dp dy aa na ac A ta tc T sa ns sc S) : w.cell? ⟨g3, 3, none⟩ = some (.slice aa na ac) := h.b.cell 3 rfl
theorem Sw.cs (h : Sw W w0 w db p l cap g2 g3 r dp dy aa na ac A ta tc T sa ns sc S) : w.cell? ⟨g3, 5, none⟩ = some (.slice sa ns sc) := h.b.cell 5 rfl
theorem Sw.oldA (h : Sw W w0 w db p l cap g2 g3 r dp dy aa na ac A ta tc T sa ns sc S) (hg : w.grownBy w' (rowOf aa)) : w'.cell? ⟨g3, 3, none⟩ = some (.slice aa na ac) ∧ w'.frozen? ⟨g3, 3, none⟩ = false := by
  have hb := h.b.grown hg (fun e => by have := (h.oa.row g3 e.symm).1; omega)
  exact ⟨hb.cell 3 rfl, hb.free 3⟩
theorem Sw.oldS (h : Sw W w0 w db p l cap g2 g3 r dp dy aa na ac A ta tc T sa ns sc S) (hg : w.grownBy w' (rowOf sa)) : w'.cell? ⟨g3, 5, none⟩ = some (.slice sa ns sc) ∧ w'.frozen? ⟨g3, 5, none⟩ = false := by
  have hb := h.b.grown hg (fun e => by have := (h.os.row g3 e.symm).1; omega)
  exact ⟨hb.cell 5 rfl, hb.free 5⟩
theorem Sw.addA (h : Sw W w0 w db p l cap g2 g3 r dp dy aa na ac A ta tc T sa ns sc S) {a' : Option Addr} {c' : Nat} {x : Ans} (hO : Ow w' (g3 + 1) 3 a' (na + 1) c' (rowsC anC A ++ anC x)) (hg : w.grownBy w' (rowOf aa)) (hat : rowOf a' = rowOf aa ∨ rowOf a' = some (w.heap.size + 1)) (hx : x.In) (hl : na + 1 ≤ 2) :
    Sw W w0 (w'.setCell ⟨g3, 3, none⟩ (.slice a' (na + 1) c')) db p l cap g2 g3 r dp dy a' (na + 1) c' (A ++ [x]) ta tc T sa ns sc S := by
  have hlt := h.lt
  have hlo := h.lo
  have hne := h.ne
  have hk0 := h.k.size
  have hr := h.oa.row
  have hk := Kp.of_grown hg (S := fun j => rowOf aa = some j) (fun j e => e)
  have h2 := setCell_kp w' g3 3 (.slice a' (na + 1) c') (S := fun j => j = g3) rfl
  have hB := (h.b.kp hk (fun e => by have := (hr _ e).1; omega)).set 3 (.slice a' (na + 1) c')
  refine ⟨(h.d.kp hk (fun j hj e => by have := (hr j e).1; omega)).kp h2 (fun j hj e => by omega), (h.k.trans hk (fun j hj e => by have := (hr j e).1; omega)).trans h2 (fun j hj e => by omega), hlt, hlo, hne, (h.z.kp hk (fun e => by have := (hr _ e).1; omega)).kp h2 (by omega), hB, (h.c.kp hk (fun j h1 h3 e => by have := (hr j e).1; omega)).kp h2 (fun j h1 h3 e => by omega), ?_, (h.os.kp hk (fun j hj e => h.dis j e hj)).kp h2 (fun j hj e => by have := (h.os.row j hj).1; omega), ?_, by rw [List.length_append, h.an]; rfl, h.sn, hl, h.sl, ?_, h.si, h.n, h.tl⟩
  · rw [rowsC_append, rowsC_single]
    exact hO.kp h2 (fun j hj e => by have := (hO.row j hj).1; omega)
  · intro j hj e
    rcases hat with e2 | e2
    · exact h.dis j (e2 ▸ hj) e
    · rw [e2] at hj; have := Option.some.inj hj; have := (h.os.row j e).2; omega
  · intro y hy
    rcases List.mem_append.1 hy with hy | hy
    · exact h.ai y hy
    · rw [List.mem_singleton.1 hy]; exact hx
theorem Sw.addS (h : Sw W w0 w db p l cap g2 g3 r dp dy aa na ac A ta tc T sa ns sc S) {a' : Option Addr} {c' : Nat} {x : Shw} (hO : Ow w' (g3 + 1) 2 a' (ns + 1) c' (rowsC shC S ++ shC x)) (hg : w.grownBy w' (rowOf sa)) (hat : rowOf a' = rowOf sa ∨ rowOf a' = some (w.heap.size + 1)) (hx : x.field.length ≤ 1000 ∧ x.role.length ≤ 1000) (hl : ns + 1 ≤ 3) :
    Sw W w0 (w'.setCell ⟨g3, 5, none⟩ (.slice a' (ns + 1) c')) db p l cap g2 g3 r dp dy aa na ac A ta tc T a' (ns + 1) c' (S ++ [x]) := by
  have hlt := h.lt
  have hlo := h.lo
  have hne := h.ne
  have hk0 := h.k.size
  have hr := h.os.row
  have hk := Kp.of_grown hg (S := fun j => rowOf sa = some j) (fun j e => e)
  have h2 := setCell_kp w' g3 5 (.slice a' (ns + 1) c') (S := fun j => j = g3) rfl
  have hB := (h.b.kp hk (fun e => by have := (hr _ e).1; omega)).set 5 (.slice a' (ns + 1) c')
  refine ⟨(h.d.kp hk (fun j hj e => by have := (hr j e).1; omega)).kp h2 (fun j hj e => by omega), (h.k.trans hk (fun j hj e => by have := (hr j e).1; omega)).trans h2 (fun j hj e => by omega), hlt, hlo, hne, (h.z.kp hk (fun e => by have := (hr _ e).1; omega)).kp h2 (by omega), hB, (h.c.kp hk (fun j h1 h3 e => by have := (hr j e).1; omega)).kp h2 (fun j h1 h3 e => by omega), (h.oa.kp hk (fun j hj e => h.dis j hj e)).kp h2 (fun j hj e => by have := (h.oa.row j hj).1; omega), ?_, ?_, h.an, by rw [List.length_append, h.sn]; rfl, h.al, hl, h.ai, ?_, h.n, h.tl⟩
  · rw [rowsC_append, rowsC_single]
    exact hO.kp h2 (fun j hj e => by have := (hO.row j hj).1; omega)
  · intro j hj e
    rcases hat with e2 | e2
    · exact h.dis j hj (e2 ▸ e)
    · rw [e2] at e; have := Option.some.inj e; have := (h.oa.row j hj).2; omega
  · intro y hy
    rcases List.mem_append.1 hy with hy | hy
    · exact h.si y hy
    · rw [List.mem_singleton.1 hy]; exact hx
theorem Sw.noR (h : Sw W w0 w db p l cap g2 g3 r dp dy aa na ac A ta tc T sa ns sc S) : Sw W w0 (w.setCell ⟨g3, 0, none⟩ (.string ⟨#[]⟩)) db p l cap g2 g3 [] dp dy aa na ac A ta tc T sa ns sc S := by
  have h2 := setCell_kp w g3 0 (.string ⟨#[]⟩) (S := fun j => j = g3) rfl
  have hlt := h.lt
  have hlo := h.lo
  have hne := h.ne
  have hk0 := h.k.size
  exact ⟨h.d.kp h2 (fun j hj e => by omega), h.k.trans h2 (fun j hj e => by omega), hlt, hlo, hne, h.z.kp h2 (by omega), h.b.set 0 _, h.c.kp h2 (fun j h1 h3 e => by omega), h.oa.kp h2 (fun j hj e => by have := (h.oa.row j hj).1; omega), h.os.kp h2 (fun j hj e => by have := (h.os.row j hj).1; omega), h.dis, h.an, h.sn, h.al, h.sl, h.ai, h.si, ⟨h.n.1, h.n.2.1, by simp⟩, h.tl⟩
theorem Sw.cells (h : Sw W w0 w db p l cap g2 g3 r dp dy aa na ac A ta tc T sa ns sc S) : (w.cell? ⟨g3, 0, none⟩ = some (.string ⟨r.toArray⟩) ∧ w.cell? ⟨g3, 1, none⟩ = some (.int .i64 dp) ∧ w.cell? ⟨g3, 2, none⟩ = some (.int .i64 dy) ∧ w.cell? ⟨g3, 3, none⟩ = some (.slice aa na ac) ∧ w.cell? ⟨g3, 4, none⟩ = some (.slice ta T.length tc) ∧ w.cell? ⟨g3, 5, none⟩ = some (.slice sa ns sc)) ∧
    (w.cell? ⟨g2, 0, none⟩ = some (.string ⟨#[]⟩) ∧ w.cell? ⟨g2, 1, none⟩ = some (.int .i64 0) ∧ w.cell? ⟨g2, 2, none⟩ = some (.int .i64 0) ∧ w.cell? ⟨g2, 3, none⟩ = some (.slice none 0 0) ∧ w.cell? ⟨g2, 4, none⟩ = some (.slice none 0 0) ∧ w.cell? ⟨g2, 5, none⟩ = some (.slice none 0 0)) ∧
    (w.frozen? ⟨g2, 0, none⟩ = false ∧ w.frozen? ⟨g2, 1, none⟩ = false ∧ w.frozen? ⟨g2, 2, none⟩ = false ∧ w.frozen? ⟨g2, 3, none⟩ = false ∧ w.frozen? ⟨g2, 4, none⟩ = false ∧ w.frozen? ⟨g2, 5, none⟩ = false) :=
  ⟨⟨h.b.cell 0 rfl, h.b.cell 1 rfl, h.b.cell 2 rfl, h.b.cell 3 rfl, h.b.cell 4 rfl, h.b.cell 5 rfl⟩, ⟨h.z.cell 0 rfl, h.z.cell 1 rfl, h.z.cell 2 rfl, h.z.cell 3 rfl, h.z.cell 4 rfl, h.z.cell 5 rfl⟩, ⟨h.z.free 0, h.z.free 1, h.z.free 2, h.z.free 3, h.z.free 4, h.z.free 5⟩⟩
theorem Sw.fin (h : Sw W w0 w db p l cap g2 g3 r dp dy aa na ac A ta tc T sa ns sc S) : Bx (w.setCells g2 0 [.string ⟨r.toArray⟩, .int .i64 dp, .int .i64 dy, .slice aa na ac, .slice ta T.length tc, .slice sa ns sc]) g2 64 [.string ⟨r.toArray⟩, .int .i64 dp, .int .i64 dy, .slice aa na ac, .slice ta T.length tc, .slice sa ns sc] ∧
    StRes W w0 db p l cap (.returned (.agg #[.string ⟨r.toArray⟩, .int .i64 dp, .int .i64 dy, .slice aa na ac, .slice ta T.length tc, .slice sa ns sc])) (w.setCells g2 0 [.string ⟨r.toArray⟩, .int .i64 dp, .int .i64 dy, .slice aa na ac, .slice ta T.length tc, .slice sa ns sc]) := by
  have hlt := h.lt
  have hlo := h.lo
  have hne := h.ne
  have hk0 := h.k.size
  have hbl := h.b.lt
  have hk := Kp.of_grown (grownBy_setCells w g2 0 [.string ⟨r.toArray⟩, .int .i64 dp, .int .i64 dy, .slice aa na ac, .slice ta T.length tc, .slice sa ns sc]) (S := fun j => j = g2) (fun j e => (Option.some.inj e).symm)
  have hB := h.z.setAll [.string ⟨r.toArray⟩, .int .i64 dp, .int .i64 dy, .slice aa na ac, .slice ta T.length tc, .slice sa ns sc] rfl
  have hc := h.c.kp hk (fun j h1 _ e => by omega)
  have ha := h.oa.kp hk (fun j hj e => by have := (h.oa.row j hj).1; omega)
  have hs := h.os.kp hk (fun j hj e => by have := (h.os.row j hj).1; omega)
  have hks := hk.size
  generalize w.setCells g2 0 [.string ⟨r.toArray⟩, .int .i64 dp, .int .i64 dy, .slice aa na ac, .slice ta T.length tc, .slice sa ns sc] = v at *
  obtain rfl := h.an
  obtain rfl := h.sn
  refine ⟨hB, ⟨r, dp, dy, A, aa, ac, T, ta, tc, S, sa, sc⟩, rfl, ⟨hc.wide (by omega) (by omega) (Nat.le_refl _), ha.rd, hs.rd, fun j hj => ?_, fun j hj => ?_, h.ai, h.si, h.n, ⟨h.al, h.tl, h.sl⟩, ⟨h.oa.2.1, h.os.2.1⟩⟩, h.d.kp hk (fun j hj e => by omega), h.k.trans hk (fun j hj e => by omega)⟩
  · have h1 : rowOf aa = some j := hj
    have := ha.row j h1; omega
  · have h1 : rowOf sa = some j := hj
    have := hs.row j h1; omega
end
theorem ans_in (f x : List UInt8) (hf : f.length ≤ 1000) (hx : x.length ≤ 1000) : Ans.In ⟨f, x, 0⟩ := ⟨by show f.length ≤ _; omega, by show x.length ≤ _; omega, ⟨by show (_ : Int) ≤ 0; decide, by show (0 : Int) ≤ _; decide⟩⟩
set_option maxRecDepth 100000 in
set_option maxHeartbeats 8000000 in
theorem pstat_walk (W : World) (db : Nat) (p : Option Addr) (l : List Int) (cap : Nat) (w : World) (h : Dc W w db p l cap) :
    Calls Tryz.prog 29 #[.pointer (some ⟨db, 0, none⟩)] w (StRes W w db p l cap) := by
  have hdl := h.lt
  generalize hPost : StRes W w db p l cap = POST at *
  have HPost := Lib.hid hPost
  clear hPost
  obtain ⟨w0, hw0⟩ : ∃ w0, w0 = w := ⟨_, rfl⟩
  rw [← hw0] at HPost
  have hk0 : KD db w0 w := by rw [hw0]; exact Kp.refl _ _
  have hlt0 : db < w0.heap.size := by rw [hw0]; exact hdl
  have hlo0 : w0.heap.size ≤ w.heap.size := by rw [hw0]; exact Nat.le_refl _
  clear hw0
  have hb0 := (Below.refl w.heap.size w).alloc (Nat.le_refl _) (.cells #[.string ⟨#[]⟩, .int .i64 0, .int .i64 0, .slice none 0 0, .slice none 0 0, .slice none 0 0] 64)
  have hz := Bx.new w 64 [.string ⟨#[]⟩, .int .i64 0, .int .i64 0, .slice none 0 0, .slice none 0 0, .slice none 0 0]
  change Bx (w.alloc (.cells #[.string ⟨#[]⟩, .int .i64 0, .int .i64 0, .slice none 0 0, .slice none 0 0, .slice none 0 0] 64)) _ _ _ at hz
  have hk1 := hk0.tr (KD.of_below hb0)
  have hD1 := h.keep hb0
  clear h hdl hk0 hb0
  go_enter Tryz.func29, Tryz.ntmps29
  go_upto_region 1 with (fail)
  generalize w.alloc (.cells #[.string ⟨#[]⟩, .int .i64 0, .int .i64 0, .slice none 0 0, .slice none 0 0, .slice none 0 0] 64) = w1 at *
  generalize w.heap.size = g2 at *
  have hbA := (Below.refl w1.heap.size w1).alloc (Nat.le_refl _) (.cells #[.string ⟨#[65, 110, 110]⟩, .string ⟨#[68, 114, 46, 32, 65, 110, 110]⟩, .string ⟨#[97, 110, 110]⟩, .string ⟨#[66, 111, 98]⟩, .string ⟨#[65, 110, 110, 105, 101]⟩, .string ⟨#[66, 32, 111, 32, 98]⟩] 9)
  have KW := Lib.hid (show Calls Tryz.prog 31 #[.pointer (some ⟨db, 0, none⟩), .slice (some ⟨w1.heap.size, 0, none⟩) 6 6] (w1.alloc (.cells #[.string ⟨#[65, 110, 110]⟩, .string ⟨#[68, 114, 46, 32, 65, 110, 110]⟩, .string ⟨#[97, 110, 110]⟩, .string ⟨#[66, 111, 98]⟩, .string ⟨#[65, 110, 110, 105, 101]⟩, .string ⟨#[66, 32, 111, 32, 98]⟩] 9)) _ from dtext (hD1.keep hbA) w1.heap.size [[65, 110, 110], [68, 114, 46, 32, 65, 110, 110], [97, 110, 110], [66, 111, 98], [65, 110, 110, 105, 101], [66, 32, 111, 32, 98]] 6 (pl_strs w1 [[65, 110, 110], [68, 114, 46, 32, 65, 110, 110], [97, 110, 110], [66, 111, 98], [65, 110, 110, 105, 101], [66, 32, 111, 32, 98]]) (by have := hD1.lt; omega) (by simp) (by simp))
  have hz2 := hz.keep hbA
  have hk2 := hk1.tr (KD.of_below hbA)
  have hgl := hz2.lt
  clear hz hk1 hD1 hbA
  go_upto_region 2 with (first
    | (go_at_call 31; (with_reducible refine KW.out.mono ?_); (first | rintro e w2 ⟨r, rfl, hrm, hD2, hq2⟩ | rintro e w2 r rfl hrm hD2 hq2); have KN1 := Lib.hid (dnext hD2 3 (by decide) (by decide)))
    | (go_at_call 17; (with_reducible refine KN1.out.mono ?_); (first | rintro e w3 ⟨dp, rfl, hdp, hD3, hq3⟩ | rintro e w3 dp rfl hdp hD3 hq3); have KN2 := Lib.hid (dnext hD3 900 (by decide) (by decide)))
    | (go_at_call 17; (with_reducible refine KN2.out.mono ?_); (first | rintro e w4 ⟨dz, rfl, hdz, hD4, hq4⟩ | rintro e w4 dz rfl hdz hD4 hq4); have KC := Lib.hid (pcond_walk W db p l cap w4 hD4); have edz : IntKind.i64.wrap (700000 + (dz : Int)) = 700000 + (dz : Int) := (by rw [IntKind.wrap_i64]; omega))
    | (go_at_call 55; (with_reducible refine KC.out.mono ?_); (first | rintro e w5 ⟨T, ta, tc, rfl, hTl, hD5, hC5, hq5⟩ | rintro e w5 T ta tc rfl hTl hD5 hC5 hq5)))
  have hSt : Sw W w0 (w5.alloc (.cells #[.string ⟨r.toArray⟩, .int .i64 (dp : Int), .int .i64 (700000 + (dz : Int)), .slice none 0 0, .slice ta T.length tc, .slice none 0 0] 64)) db p l cap g2 w5.heap.size r (dp : Int) (700000 + (dz : Int)) none 0 0 [] ta tc T none 0 0 [] := by
    have hbS := (Below.refl w5.heap.size w5).alloc (Nat.le_refl _) (.cells #[.string ⟨r.toArray⟩, .int .i64 (dp : Int), .int .i64 (700000 + (dz : Int)), .slice none 0 0, .slice ta T.length tc, .slice none 0 0] 64)
    have hBx := Bx.new w5 64 [.string ⟨r.toArray⟩, .int .i64 (dp : Int), .int .i64 (700000 + (dz : Int)), .slice none 0 0, .slice ta T.length tc, .slice none 0 0]
    have hz5 := (((hz2.kp hq2 (by omega)).kp hq3 (by omega)).kp hq4 (by omega)).kp hq5 (by omega)
    have hs2 := hq2.size
    have hs3 := hq3.size
    have hs4 := hq4.size
    have hs5 := hq5.size
    have hg5 := hz5.lt
    refine ⟨hD5.keep hbS, ((((hk2.tr hq2).tr hq3).tr hq4).tr hq5).tr (KD.of_below hbS), hlt0, hlo0, hg5, hz5.keep hbS, hBx, (hC5.keep hbS).wide (by omega) (Nat.le_refl _) (by have := hbS.size; omega), Ow.nil _ _ _, Ow.nil _ _ _, fun j hj => by simp [rowOf] at hj, rfl, rfl, by omega, by omega, fun y hy => by simp at hy, fun y hy => by simp at hy, ⟨by omega, by omega, ?_⟩, hTl⟩
    simp only [List.mem_cons, List.not_mem_nil, or_false] at hrm
    rcases hrm with rfl | rfl | rfl | rfl | rfl | rfl <;> simp
  clear hz2 hk2 hgl hrm hD2 hq2 KW KN1 hdp hD3 hq3 KN2 hdz hD4 hq4 KC edz hTl hD5 hC5 hq5 hlt0 hlo0
  generalize w5.alloc (.cells #[.string ⟨r.toArray⟩, .int .i64 (dp : Int), .int .i64 (700000 + (dz : Int)), .slice none 0 0, .slice ta T.length tc, .slice none 0 0] 64) = w6 at *
  generalize w5.heap.size = g3 at *
  generalize 700000 + (dz : Int) = dy at *
  generalize (dp : Int) = dpv at *
  obtain ⟨aa, na, ac, A, hna, hS⟩ : ∃ (aa : Option Addr) (na ac : Nat) (A : List Ans), na ≤ 0 ∧ Sw W w0 w6 db p l cap g2 g3 r dpv dy aa na ac A ta tc T none 0 0 [] := ⟨none, 0, 0, [], Nat.le_refl _, hSt⟩
  clear hSt
  have K3 := Lib.hid (dnext hS.d 3 (by decide) (by decide))
  go_upto_if 19 with (go_at_call 17; (with_reducible refine K3.out.mono ?_); (first | rintro e w7 ⟨z, rfl, hz3, hD7, hq7⟩ | rintro e w7 z rfl hz3 hD7 hq7))
  replace hS := hS.next hD7 hq7
  clear K3 hD7 hq7
  go_cut [] (fun wx => ∃ (aa : Option Addr) (na ac : Nat) (A : List Ans), na ≤ 1 ∧ Sw W w0 wx db p l cap g2 g3 r dpv dy aa na ac A ta tc T none 0 0 [])
  case first =>
    by_cases hz : 0 < z
    rotate_left
    · have d1 : decide ((z : Int) > 0) = false := decide_eq_false (by omega)
      have d2 : ¬ (0 < z) := hz
      have HS := Lib.hid hS
      clear hS
      go_wp2_with fail
      go_meet
      exact ⟨aa, na, ac, A, by omega, HS.out⟩
    have d1 : decide ((z : Int) > 0) = true := decide_eq_true (by omega)
    go_upto_region 3 with fail
    refine wp_region_held_last' (S := fun w' => w'.cell? ⟨g3, 3, none⟩ = some (.slice aa na ac)) 9 rfl (by kernel_rfl) (by kernel_rfl) (by kernel_rfl) hS.ca (fun hHeld => ?_)
    dsimp only [List.dropLast, List.replicate] at hHeld ⊢
    replace hS := hS.keep (Below.refl _ _).drew
    skip
    generalize w7.drew = v0 at *
    refine held_take (0) (v := ?_) rfl (by kernel_rfl) (by kernel_rfl) (by kernel_rfl) (fun _ _ _ h => h) (Or.inl ⟨by rfl, ?_⟩) (by assumption) ?_
    rotate_left
    · intro w hSw
      try dsimp only at hSw
      go_simp
      with_reducible rfl
    try simp only [Act.put, List.setIfInBounds_toArray, List.set_cons_zero, List.set_cons_succ]
    refine held_take (1) (v := ?_) rfl (by kernel_rfl) (by kernel_rfl) (by kernel_rfl) (fun _ _ _ h => h) (Or.inl ⟨by rfl, ?_⟩) (by assumption) ?_
    rotate_left
    · intro w hSw
      try dsimp only at hSw
      go_simp
      with_reducible rfl
    try simp only [Act.put, List.setIfInBounds_toArray, List.set_cons_zero, List.set_cons_succ]
    refine held_take (2) (v := ?_) rfl (by kernel_rfl) (by kernel_rfl) (by kernel_rfl) (fun _ _ _ h => h) (Or.inl ⟨by rfl, ?_⟩) (by assumption) ?_
    rotate_left
    · intro w hSw
      try dsimp only at hSw
      go_simp
      with_reducible rfl
    try simp only [Act.put, List.setIfInBounds_toArray, List.set_cons_zero, List.set_cons_succ]
    refine wpAnyH_ready (rs := [3]) (by kernel_rfl) (by simp) ?_
    refine held_cons rfl (fun K hK => ?_) AllReadyH.nil
    go_simp
    have hbQ := (Below.refl v0.heap.size v0).alloc (Nat.le_refl _) (.cells #[.string ⟨#[97]⟩, .string ⟨#[98]⟩, .string ⟨#[97]⟩] 9)
    have hNew := pl_strs v0 [[97], [98], [97]]
    change Rd (v0.alloc (.cells #[.string ⟨#[97]⟩, .string ⟨#[98]⟩, .string ⟨#[97]⟩] 9)) _ _ at hNew
    have hQ := hS.keep hbQ
    skip
    have hgn : v0.heap.size ≠ db := by have := hS.d.lt; omega
    clear hbQ hS
    generalize v0.alloc (.cells #[.string ⟨#[97]⟩, .string ⟨#[98]⟩, .string ⟨#[97]⟩] 9) = v1 at *
    generalize v0.heap.size = gn at *
    refine hK.out _ _ hQ.ca (fun hHeld => ?_)
    clear hK K
    try simp only [Act.put, List.setIfInBounds_toArray, List.set_cons_zero, List.set_cons_succ]
    refine wpAnyH_ready (rs := [4]) (by kernel_rfl) (by simp) ?_
    refine held_cons rfl (fun K hK => ?_) AllReadyH.nil
    go_simp
    have KW := Lib.hid (show Calls Tryz.prog 31 #[.pointer (some ⟨db, 0, none⟩), .slice (some ⟨gn, 0, none⟩) 3 3] v1 _ from dtext hQ.d gn [[97], [98], [97]] 3 hNew hgn (by simp) (by simp))
    go_at_call 31
    (with_reducible refine KW.out.mono ?_)
    (first | rintro e v2 ⟨x, rfl, hx, hD, hk⟩ | rintro e v2 x rfl hx hD hk)
    have hS2 := hQ.next hD hk
    skip
    have hxl : x.length ≤ 1000 := by
      simp only [List.mem_cons, List.not_mem_nil, or_false] at hx
      rcases hx with rfl | rfl | rfl <;> simp
    clear hQ hD hk KW hNew hx
    go_wp2_with fail
    refine hK.out _ _ hS2.ca (fun hHeld => ?_)
    clear hK K
    try simp only [Act.put, List.setIfInBounds_toArray, List.set_cons_zero, List.set_cons_succ]
    refine held_take (5) (v := ?_) rfl (by kernel_rfl) (by kernel_rfl) (by kernel_rfl) (fun _ _ _ h => h) (Or.inl ⟨by rfl, ?_⟩) (by assumption) ?_
    rotate_left
    · intro w hSw
      try dsimp only at hSw
      go_simp
      with_reducible rfl
    try simp only [Act.put, List.setIfInBounds_toArray, List.set_cons_zero, List.set_cons_succ]
    refine wpAnyH_ready (rs := [6]) (by kernel_rfl) (by simp) ?_
    refine held_cons rfl (fun K hK => ?_) AllReadyH.nil
    go_simp
    have hbL := (Below.refl v2.heap.size v2).alloc (Nat.le_refl _) (.cells #[.string ⟨#[107, 105, 110, 100]⟩, .string ⟨x.toArray⟩, .int .i64 0] 83)
    refine hK.out _ _ (hS2.keep hbL).ca (fun hHeld => ?_)
    clear hK K
    try simp only [Act.put, List.setIfInBounds_toArray, List.set_cons_zero, List.set_cons_succ]
    refine wpAnyH_ready (rs := [7]) (by kernel_rfl) (by simp) ?_
    refine held_cons rfl (fun K hK => ?_) AllReadyH.nil
    refine step_appn_at (w0 := v2) (B := g3 + 1) (base := g3 + 1) rfl _ _ _ rfl elAns rfl hS2.oa (Below.refl _ _) (Nat.le_refl _) hS2.b.lt (m := 1) (cs := [.string ⟨#[107, 105, 110, 100]⟩, .string ⟨x.toArray⟩, .int .i64 0]) rfl rfl (by intro u hu; simp at hu; rcases hu with rfl | rfl | rfl <;> rfl) (by omega) ?_
    intro a2 c2 wA hO8 hb8 hg8 hat8
    have q6 := (hS2.oldA hg8).1
    have f6 := (hS2.oldA hg8).2
    have hF := hS2.addA (x := ⟨[107, 105, 110, 100], x, 0⟩) hO8 hg8 hat8 (ans_in [107, 105, 110, 100] x (by simp) hxl) (by omega)
    skip
    skip
    clear hO8 hb8 hg8 hat8
    refine hK.out _ _ q6 (fun hHeld => ?_)
    clear hK K
    try simp only [Act.put, List.setIfInBounds_toArray, List.set_cons_zero, List.set_cons_succ]
    refine held_take (8) (v := ?_) rfl (by kernel_rfl) (by kernel_rfl) (by kernel_rfl) (fun _ _ _ h => h) (Or.inl ⟨by rfl, ?_⟩) (by assumption) ?_
    rotate_left
    · intro w hSw
      try dsimp only at hSw
      go_simp
      with_reducible rfl
    try simp only [Act.put, List.setIfInBounds_toArray, List.set_cons_zero, List.set_cons_succ]
    refine wpAnyH_done (by kernel_rfl) ?_ _
    dsimp only [Behind]
    have HF := Lib.hid hF
    clear hF hS2 hbL hHeld
    go_simp
    go_wp2_with fail
    go_meet
    exact ⟨a2, na + 1, c2, _, by omega, HF.out⟩
  clear hS hna aa na ac A
  obtain ⟨aa, na, ac, A, hna, hS⟩ := hcut
  have K3 := Lib.hid (done_walk hS.d 3 (by decide) (by decide))
  go_upto_if 30 with (go_at_call 32; (with_reducible refine K3.out.mono ?_); (first | rintro e w7 ⟨b, rfl, hD7, hq7⟩ | rintro e w7 b rfl hD7 hq7))
  replace hS := hS.next hD7 hq7
  clear K3 hD7 hq7
  go_cut [] (fun wx => ∃ (aa : Option Addr) (na ac : Nat) (A : List Ans), na ≤ 2 ∧ Sw W w0 wx db p l cap g2 g3 r dpv dy aa na ac A ta tc T none 0 0 [])
  case first =>
    cases b
    · have HS := Lib.hid hS
      clear hS
      go_wp2_with fail
      go_meet
      exact ⟨aa, na, ac, A, by omega, HS.out⟩
    go_upto_region 5 with fail
    refine wp_region_held_last' (S := fun w' => w'.cell? ⟨g3, 3, none⟩ = some (.slice aa na ac)) 9 rfl (by kernel_rfl) (by kernel_rfl) (by kernel_rfl) hS.ca (fun hHeld => ?_)
    dsimp only [List.dropLast, List.replicate] at hHeld ⊢
    replace hS := hS.keep (Below.refl _ _).drew
    skip
    generalize w7.drew = v0 at *
    refine held_take (0) (v := ?_) rfl (by kernel_rfl) (by kernel_rfl) (by kernel_rfl) (fun _ _ _ h => h) (Or.inl ⟨by rfl, ?_⟩) (by assumption) ?_
    rotate_left
    · intro w hSw
      try dsimp only at hSw
      go_simp
      with_reducible rfl
    try simp only [Act.put, List.setIfInBounds_toArray, List.set_cons_zero, List.set_cons_succ]
    refine held_take (1) (v := ?_) rfl (by kernel_rfl) (by kernel_rfl) (by kernel_rfl) (fun _ _ _ h => h) (Or.inl ⟨by rfl, ?_⟩) (by assumption) ?_
    rotate_left
    · intro w hSw
      try dsimp only at hSw
      go_simp
      with_reducible rfl
    try simp only [Act.put, List.setIfInBounds_toArray, List.set_cons_zero, List.set_cons_succ]
    refine held_take (2) (v := ?_) rfl (by kernel_rfl) (by kernel_rfl) (by kernel_rfl) (fun _ _ _ h => h) (Or.inl ⟨by rfl, ?_⟩) (by assumption) ?_
    rotate_left
    · intro w hSw
      try dsimp only at hSw
      go_simp
      with_reducible rfl
    try simp only [Act.put, List.setIfInBounds_toArray, List.set_cons_zero, List.set_cons_succ]
    refine wpAnyH_ready (rs := [3]) (by kernel_rfl) (by simp) ?_
    refine held_cons rfl (fun K hK => ?_) AllReadyH.nil
    go_simp
    have hbQ := (Below.refl v0.heap.size v0).alloc (Nat.le_refl _) (.cells #[.string ⟨#[120]⟩, .string ⟨#[115, 101, 101, 110]⟩, .string ⟨#[]⟩] 9)
    have hNew := pl_strs v0 [[120], [115, 101, 101, 110], []]
    change Rd (v0.alloc (.cells #[.string ⟨#[120]⟩, .string ⟨#[115, 101, 101, 110]⟩, .string ⟨#[]⟩] 9)) _ _ at hNew
    have hQ := hS.keep hbQ
    skip
    have hgn : v0.heap.size ≠ db := by have := hS.d.lt; omega
    clear hbQ hS
    generalize v0.alloc (.cells #[.string ⟨#[120]⟩, .string ⟨#[115, 101, 101, 110]⟩, .string ⟨#[]⟩] 9) = v1 at *
    generalize v0.heap.size = gn at *
    refine hK.out _ _ hQ.ca (fun hHeld => ?_)
    clear hK K
    try simp only [Act.put, List.setIfInBounds_toArray, List.set_cons_zero, List.set_cons_succ]
    refine wpAnyH_ready (rs := [4]) (by kernel_rfl) (by simp) ?_
    refine held_cons rfl (fun K hK => ?_) AllReadyH.nil
    go_simp
    have KW := Lib.hid (show Calls Tryz.prog 31 #[.pointer (some ⟨db, 0, none⟩), .slice (some ⟨gn, 0, none⟩) 3 3] v1 _ from dtext hQ.d gn [[120], [115, 101, 101, 110], []] 3 hNew hgn (by simp) (by simp))
    go_at_call 31
    (with_reducible refine KW.out.mono ?_)
    (first | rintro e v2 ⟨x, rfl, hx, hD, hk⟩ | rintro e v2 x rfl hx hD hk)
    have hS2 := hQ.next hD hk
    skip
    have hxl : x.length ≤ 1000 := by
      simp only [List.mem_cons, List.not_mem_nil, or_false] at hx
      rcases hx with rfl | rfl | rfl <;> simp
    clear hQ hD hk KW hNew hx
    go_wp2_with fail
    refine hK.out _ _ hS2.ca (fun hHeld => ?_)
    clear hK K
    try simp only [Act.put, List.setIfInBounds_toArray, List.set_cons_zero, List.set_cons_succ]
    refine held_take (5) (v := ?_) rfl (by kernel_rfl) (by kernel_rfl) (by kernel_rfl) (fun _ _ _ h => h) (Or.inl ⟨by rfl, ?_⟩) (by assumption) ?_
    rotate_left
    · intro w hSw
      try dsimp only at hSw
      go_simp
      with_reducible rfl
    try simp only [Act.put, List.setIfInBounds_toArray, List.set_cons_zero, List.set_cons_succ]
    refine wpAnyH_ready (rs := [6]) (by kernel_rfl) (by simp) ?_
    refine held_cons rfl (fun K hK => ?_) AllReadyH.nil
    go_simp
    have hbL := (Below.refl v2.heap.size v2).alloc (Nat.le_refl _) (.cells #[.string ⟨#[110, 111, 116, 101]⟩, .string ⟨x.toArray⟩, .int .i64 0] 83)
    refine hK.out _ _ (hS2.keep hbL).ca (fun hHeld => ?_)
    clear hK K
    try simp only [Act.put, List.setIfInBounds_toArray, List.set_cons_zero, List.set_cons_succ]
    refine wpAnyH_ready (rs := [7]) (by kernel_rfl) (by simp) ?_
    refine held_cons rfl (fun K hK => ?_) AllReadyH.nil
    refine step_appn_at (w0 := v2) (B := g3 + 1) (base := g3 + 1) rfl _ _ _ rfl elAns rfl hS2.oa (Below.refl _ _) (Nat.le_refl _) hS2.b.lt (m := 1) (cs := [.string ⟨#[110, 111, 116, 101]⟩, .string ⟨x.toArray⟩, .int .i64 0]) rfl rfl (by intro u hu; simp at hu; rcases hu with rfl | rfl | rfl <;> rfl) (by omega) ?_
    intro a2 c2 wA hO8 hb8 hg8 hat8
    have q6 := (hS2.oldA hg8).1
    have f6 := (hS2.oldA hg8).2
    have hF := hS2.addA (x := ⟨[110, 111, 116, 101], x, 0⟩) hO8 hg8 hat8 (ans_in [110, 111, 116, 101] x (by simp) hxl) (by omega)
    skip
    skip
    clear hO8 hb8 hg8 hat8
    refine hK.out _ _ q6 (fun hHeld => ?_)
    clear hK K
    try simp only [Act.put, List.setIfInBounds_toArray, List.set_cons_zero, List.set_cons_succ]
    refine held_take (8) (v := ?_) rfl (by kernel_rfl) (by kernel_rfl) (by kernel_rfl) (fun _ _ _ h => h) (Or.inl ⟨by rfl, ?_⟩) (by assumption) ?_
    rotate_left
    · intro w hSw
      try dsimp only at hSw
      go_simp
      with_reducible rfl
    try simp only [Act.put, List.setIfInBounds_toArray, List.set_cons_zero, List.set_cons_succ]
    refine wpAnyH_done (by kernel_rfl) ?_ _
    dsimp only [Behind]
    have HF := Lib.hid hF
    clear hF hS2 hbL hHeld
    go_simp
    go_wp2_with fail
    go_meet
    exact ⟨a2, na + 1, c2, _, by omega, HF.out⟩
  clear hS hna aa na ac A
  obtain ⟨aa, na, ac, A, hna, hS⟩ := hcut
  rename World => wx
  have hbK := (Below.refl wx.heap.size wx).alloc (Nat.le_refl _) (.cells #[.string ⟨#[107, 105, 110, 100]⟩, .string ⟨#[114, 101, 115, 112, 111, 110, 100, 101, 110, 116]⟩, .string ⟨#[110, 111, 116, 101]⟩] 9)
  have hW0 := Bx.new wx 9 (strs [[107, 105, 110, 100], [114, 101, 115, 112, 111, 110, 100, 101, 110, 116], [110, 111, 116, 101]])
  change Bx (wx.alloc (.cells #[.string ⟨#[107, 105, 110, 100]⟩, .string ⟨#[114, 101, 115, 112, 111, 110, 100, 101, 110, 116]⟩, .string ⟨#[110, 111, 116, 101]⟩] 9)) _ _ _ at hW0
  have hgk : db < wx.heap.size ∧ g3 < wx.heap.size := ⟨hS.d.lt, hS.b.lt⟩
  have hS0 := hS.keep hbK
  clear hS hbK
  go_upto_region 7 with fail
  generalize wx.alloc (.cells #[.string ⟨#[107, 105, 110, 100]⟩, .string ⟨#[114, 101, 115, 112, 111, 110, 100, 101, 110, 116]⟩, .string ⟨#[110, 111, 116, 101]⟩] 9) = wy at *
  generalize wx.heap.size = gk at *
  obtain ⟨hgk1, hgk2⟩ := hgk
  have hlt3 : db < gk := hgk1
  go_loopw [42] (fun i wr => ∃ (k : Nat) (sa : Option Addr) (ns sc : Nat) (S : List Shw), k ≤ 3 ∧ i = .int .i64 (k : Int) ∧ ns ≤ k ∧ Sw W w0 wr db p l cap g2 g3 r dpv dy aa na ac A ta tc T sa ns sc S ∧ Bx wr gk 9 (strs [[107, 105, 110, 100], [114, 101, 115, 112, 111, 110, 100, 101, 110, 116], [110, 111, 116, 101]]) ∧ rowOf sa ≠ some gk) (fun i _ => 3 - (intOf i).toNat)
  case atStart => exact ⟨0, none, 0, 0, [], by omega, rfl, Nat.le_refl _, hS0, hW0, by simp [rowOf]⟩
  case round =>
    clear hS0 hW0
    obtain ⟨k, sa, ns, sc, S, hk3, rfl, hnk, hS, hW, hgs⟩ := hrel
    by_cases hkt : k < 3
    · have hkl : (k : Int) < 3 := by omega
      have hRk : Rd wr (some ⟨gk, 0, none⟩) (strs [[107, 105, 110, 100], [114, 101, 115, 112, 111, 110, 100, 101, 110, 116], [110, 111, 116, 101]]) := Rd.mk fun j u hj => by rw [Nat.zero_add]; exact hW.cell j hj
      obtain ⟨gx, ox, f, hga, cf, hf⟩ := hRk.str (k := k) (by simpa using hkt)
      cases hga
      rw [Nat.zero_add] at cf
      have hfl : f.length ≤ 1000 := by
        have hm := mem_at hf
        simp only [List.mem_cons, List.not_mem_nil, or_false] at hm
        rcases hm with rfl | rfl | rfl <;> simp
      clear hf hRk
      have K3 := Lib.hid (done_walk hS.d 2 (by decide) (by decide))
      go_upto_if 47 with (go_at_call 32; (with_reducible refine K3.out.mono ?_); (first | rintro e w7 ⟨b, rfl, hD7, hq7⟩ | rintro e w7 b rfl hD7 hq7))
      replace hS := hS.next hD7 hq7
      replace hW := hW.kp hq7 (by omega)
      clear K3 hD7 hq7 cf
      cases b
      · have HS := Lib.hid hS
        have HW := Lib.hid hW
        clear hS hW
        go_wp2_with fail
        go_roundw
        case rel => exact ⟨k + 1, sa, ns, sc, S, by omega, by go_num, by omega, HS.out, HW.out, hgs⟩
        case measure => simp [intOf]; omega
      · go_upto_region 10 with fail
        refine wp_region_held_last' (S := fun w' => w'.cell? ⟨g3, 5, none⟩ = some (.slice sa ns sc)) 10 rfl (by kernel_rfl) (by kernel_rfl) (by kernel_rfl) hS.cs (fun hHeld => ?_)
        dsimp only [List.dropLast, List.replicate] at hHeld ⊢
        replace hS := hS.keep (Below.refl _ _).drew
        replace hW := hW.keep (Below.refl _ _).drew
        generalize w7.drew = v0 at *
        refine held_take (0) (v := ?_) rfl (by kernel_rfl) (by kernel_rfl) (by kernel_rfl) (fun _ _ _ h => h) (Or.inl ⟨by rfl, ?_⟩) (by assumption) ?_
        rotate_left
        · intro w hSw
          try dsimp only at hSw
          go_simp
          with_reducible rfl
        try simp only [Act.put, List.setIfInBounds_toArray, List.set_cons_zero, List.set_cons_succ]
        refine held_take (1) (v := ?_) rfl (by kernel_rfl) (by kernel_rfl) (by kernel_rfl) (fun _ _ _ h => h) (Or.inl ⟨by rfl, ?_⟩) (by assumption) ?_
        rotate_left
        · intro w hSw
          try dsimp only at hSw
          go_simp
          with_reducible rfl
        try simp only [Act.put, List.setIfInBounds_toArray, List.set_cons_zero, List.set_cons_succ]
        refine held_take (2) (v := ?_) rfl (by kernel_rfl) (by kernel_rfl) (by kernel_rfl) (fun _ _ _ h => h) (Or.inl ⟨by rfl, ?_⟩) (by assumption) ?_
        rotate_left
        · intro w hSw
          try dsimp only at hSw
          go_simp
          with_reducible rfl
        try simp only [Act.put, List.setIfInBounds_toArray, List.set_cons_zero, List.set_cons_succ]
        refine held_take (3) (v := ?_) rfl (by kernel_rfl) (by kernel_rfl) (by kernel_rfl) (fun _ _ _ h => h) (Or.inl ⟨by rfl, ?_⟩) (by assumption) ?_
        rotate_left
        · intro w hSw
          try dsimp only at hSw
          go_simp
          with_reducible rfl
        try simp only [Act.put, List.setIfInBounds_toArray, List.set_cons_zero, List.set_cons_succ]
        refine wpAnyH_ready (rs := [4]) (by kernel_rfl) (by simp) ?_
        refine held_cons rfl (fun K hK => ?_) AllReadyH.nil
        go_simp
        have hbQ := (Below.refl v0.heap.size v0).alloc (Nat.le_refl _) (.cells #[.string ⟨#[104, 114]⟩, .string ⟨#[108, 101, 103, 97, 108]⟩] 9)
        have hNew := pl_strs v0 [[104, 114], [108, 101, 103, 97, 108]]
        change Rd (v0.alloc (.cells #[.string ⟨#[104, 114]⟩, .string ⟨#[108, 101, 103, 97, 108]⟩] 9)) _ _ at hNew
        have hQ := hS.keep hbQ
        have hWQ := hW.keep hbQ
        have hgn : v0.heap.size ≠ db := by have := hS.d.lt; omega
        clear hbQ hS hW
        generalize v0.alloc (.cells #[.string ⟨#[104, 114]⟩, .string ⟨#[108, 101, 103, 97, 108]⟩] 9) = v1 at *
        generalize v0.heap.size = gn at *
        refine hK.out _ _ hQ.cs (fun hHeld => ?_)
        clear hK K
        try simp only [Act.put, List.setIfInBounds_toArray, List.set_cons_zero, List.set_cons_succ]
        refine wpAnyH_ready (rs := [5]) (by kernel_rfl) (by simp) ?_
        refine held_cons rfl (fun K hK => ?_) AllReadyH.nil
        go_simp
        have KW := Lib.hid (show Calls Tryz.prog 31 #[.pointer (some ⟨db, 0, none⟩), .slice (some ⟨gn, 0, none⟩) 2 2] v1 _ from dtext hQ.d gn [[104, 114], [108, 101, 103, 97, 108]] 2 hNew hgn (by simp) (by simp))
        go_at_call 31
        (with_reducible refine KW.out.mono ?_)
        (first | rintro e v2 ⟨x, rfl, hx, hD, hk⟩ | rintro e v2 x rfl hx hD hk)
        have hS2 := hQ.next hD hk
        have hW2 := hWQ.kp hk (by have := hlt3; omega)
        have hxl : x.length ≤ 1000 := by
          simp only [List.mem_cons, List.not_mem_nil, or_false] at hx
          rcases hx with rfl | rfl <;> simp
        clear hQ hD hk KW hNew hx hWQ
        go_wp2_with fail
        refine hK.out _ _ hS2.cs (fun hHeld => ?_)
        clear hK K
        try simp only [Act.put, List.setIfInBounds_toArray, List.set_cons_zero, List.set_cons_succ]
        refine held_take (6) (v := ?_) rfl (by kernel_rfl) (by kernel_rfl) (by kernel_rfl) (fun _ _ _ h => h) (Or.inl ⟨by rfl, ?_⟩) (by assumption) ?_
        rotate_left
        · intro w hSw
          try dsimp only at hSw
          go_simp
          with_reducible rfl
        try simp only [Act.put, List.setIfInBounds_toArray, List.set_cons_zero, List.set_cons_succ]
        refine wpAnyH_ready (rs := [7]) (by kernel_rfl) (by simp) ?_
        refine held_cons rfl (fun K hK => ?_) AllReadyH.nil
        go_simp
        have hbL := (Below.refl v2.heap.size v2).alloc (Nat.le_refl _) (.cells #[.string ⟨f.toArray⟩, .string ⟨x.toArray⟩] 86)
        refine hK.out _ _ (hS2.keep hbL).cs (fun hHeld => ?_)
        clear hK K
        try simp only [Act.put, List.setIfInBounds_toArray, List.set_cons_zero, List.set_cons_succ]
        refine wpAnyH_ready (rs := [8]) (by kernel_rfl) (by simp) ?_
        refine held_cons rfl (fun K hK => ?_) AllReadyH.nil
        refine step_appn_at (w0 := v2) (B := g3 + 1) (base := g3 + 1) rfl _ _ _ rfl elShw rfl hS2.os (Below.refl _ _) (Nat.le_refl _) hS2.b.lt (m := 1) (cs := [.string ⟨f.toArray⟩, .string ⟨x.toArray⟩]) rfl rfl (by intro u hu; simp at hu; rcases hu with rfl | rfl <;> rfl) (by omega) ?_
        intro a2 c2 wA hO8 hb8 hg8 hat8
        have q6 := (hS2.oldS hg8).1
        have f6 := (hS2.oldS hg8).2
        have hF := hS2.addS (x := ⟨f, x⟩) hO8 hg8 hat8 ⟨hfl, hxl⟩ (by omega)
        have hWA := hW2.grown hg8 (fun e => hgs e.symm)
        have hgs2 : rowOf a2 ≠ some gk := (fun e => by rcases hat8 with e2 | e2; exact hgs (e2.symm.trans e); rw [e2] at e; have := Option.some.inj e; have := hW2.lt; omega)
        clear hO8 hb8 hg8 hat8
        refine hK.out _ _ q6 (fun hHeld => ?_)
        clear hK K
        try simp only [Act.put, List.setIfInBounds_toArray, List.set_cons_zero, List.set_cons_succ]
        refine held_take (9) (v := ?_) rfl (by kernel_rfl) (by kernel_rfl) (by kernel_rfl) (fun _ _ _ h => h) (Or.inl ⟨by rfl, ?_⟩) (by assumption) ?_
        rotate_left
        · intro w hSw
          try dsimp only at hSw
          go_simp
          with_reducible rfl
        try simp only [Act.put, List.setIfInBounds_toArray, List.set_cons_zero, List.set_cons_succ]
        refine wpAnyH_done (by kernel_rfl) ?_ _
        dsimp only [Behind]
        have HF := Lib.hid hF
        have HWA := Lib.hid (hWA.kp (setCell_kp wA g3 5 (.slice a2 (ns + 1) c2) (S := fun j => j = g3) rfl) (by omega))
        clear hF hS2 hbL hHeld hW2 hWA
        go_simp
        go_wp2_with fail
        go_roundw
        case rel => exact ⟨k + 1, a2, ns + 1, c2, _, by omega, by go_num, by omega, HF.out, HWA.out, hgs2⟩
        case measure => simp [intOf]; omega
    · obtain rfl : k = 3 := by omega
      have K3 := Lib.hid (done_walk hS.d 15 (by decide) (by decide))
      clear hW hgs hnk hk3 hkt
      go_upto_if 60 with (go_at_call 32; (with_reducible refine K3.out.mono ?_); (first | rintro e w7 ⟨b, rfl, hD7, hq7⟩ | rintro e w7 b rfl hD7 hq7))
      replace hS := hS.next hD7 hq7
      clear K3 hD7 hq7
      cases b
      · obtain ⟨⟨b0, b1, b2, b3, b4, b5⟩, ⟨z0, z1, z2, z3, z4, z5⟩, ⟨f0, f1, f2, f3, f4, f5⟩⟩ := hS.cells
        have HS := Lib.hid hS
        clear hS
        go_wp2_with fail
        have hF := HS.out.fin
        exact bodyPost_ret (Stm.ret (t := 2) rfl _ rfl hF.1) rfl (show POST _ _ by rw [← HPost.out]; exact hF.2)
      · have r0 := hS.b.cell 0 rfl
        have e0 := hS.b.free 0
        go_upto_region 14 with fail
        replace hS := hS.noR
        clear r0 e0
        generalize w7.setCell ⟨g3, 0, none⟩ (.string ⟨#[]⟩) = w8 at *
        obtain ⟨⟨b0, b1, b2, b3, b4, b5⟩, ⟨z0, z1, z2, z3, z4, z5⟩, ⟨f0, f1, f2, f3, f4, f5⟩⟩ := hS.cells
        have HS := Lib.hid hS
        clear hS
        go_wp2_with fail
        have hF := HS.out.fin
        exact bodyPost_ret (Stm.ret (t := 2) rfl _ rfl hF.1) rfl (show POST _ _ by rw [← HPost.out]; exact hF.2)
end Go.Proofs.YtpofijdkckaphaaGreatDoor
