/- The kit's odd records: something is changed. -/
import Derived.Test.YtgjjpijcakafhaaGCustodyU
import Derived.Test.YtgjjpijcakafhaaRegion
namespace Go.Proofs.Ytgjjpijcakafhaa
open Go.RowKit
theorem Rk.set0 {w : World} {g : Nat} {r : Rec} (h : Rk w g r) (n : Int) : Rk (w.setCell ⟨g, 0, none⟩ (.int .i64 n)) g { r with num := n } := by
  have h' : w.heap[g]? = some (.cells #[.int .i64 r.num, .int .i64 r.time, .int .i64 r.kind, .string ⟨r.body.toArray⟩, .string ⟨r.before.toArray⟩] 24 (0, 0)) := h
  simp [Rk, World.setCell, Array.getElem?_modify, h']
theorem Rk.set1 {w : World} {g : Nat} {r : Rec} (h : Rk w g r) (n : Int) : Rk (w.setCell ⟨g, 1, none⟩ (.int .i64 n)) g { r with time := n } := by
  have h' : w.heap[g]? = some (.cells #[.int .i64 r.num, .int .i64 r.time, .int .i64 r.kind, .string ⟨r.body.toArray⟩, .string ⟨r.before.toArray⟩] 24 (0, 0)) := h
  simp [Rk, World.setCell, Array.getElem?_modify, h']
theorem Rk.set2 {w : World} {g : Nat} {r : Rec} (h : Rk w g r) (n : Int) : Rk (w.setCell ⟨g, 2, none⟩ (.int .i64 n)) g { r with kind := n } := by
  have h' : w.heap[g]? = some (.cells #[.int .i64 r.num, .int .i64 r.time, .int .i64 r.kind, .string ⟨r.body.toArray⟩, .string ⟨r.before.toArray⟩] 24 (0, 0)) := h
  simp [Rk, World.setCell, Array.getElem?_modify, h']
theorem Rk.set3 {w : World} {g : Nat} {r : Rec} (h : Rk w g r) (s : List UInt8) : Rk (w.setCell ⟨g, 3, none⟩ (.string ⟨s.toArray⟩)) g { r with body := s } := by
  have h' : w.heap[g]? = some (.cells #[.int .i64 r.num, .int .i64 r.time, .int .i64 r.kind, .string ⟨r.body.toArray⟩, .string ⟨r.before.toArray⟩] 24 (0, 0)) := h
  simp [Rk, World.setCell, Array.getElem?_modify, h']
def rec0 : Rec := ⟨0, 0, 0, [], []⟩
/-- the dice, the record's box, the result's box -/
structure Od (W w0 w : World) (db : Nat) (p : Option Addr) (l : List Int) (cap q gb gr : Nat) (r : Rec) : Prop where
  env : Env W w db p l cap q
  rk : Rk w gb r
  rz : Rk w gr rec0
  grow : w0.grownBy w (some db)
  hb : w0.heap.size ≤ gb
  hr : w0.heap.size ≤ gr
  hne : gb ≠ gr
theorem Od.keep {W w0 w w' : World} {db : Nat} {p : Option Addr} {l : List Int} {cap q gb gr : Nat} {r : Rec} (h : Od W w0 w db p l cap q gb gr r) (hb : Below w.heap.size w w') : Od W w0 w' db p l cap q gb gr r :=
  ⟨h.env.keep hb, h.rk.keep hb, h.rz.keep hb, grown_tr h.grow (below_grownBy hb _), h.hb, h.hr, h.hne⟩
theorem Od.next {W w0 w w' : World} {db : Nat} {p : Option Addr} {l : List Int} {cap q q' gb gr : Nat} {r : Rec} (h : Od W w0 w db p l cap q gb gr r) (hne : 0 < l.length → ∀ g off, p = some ⟨g, off, none⟩ → g ≠ db) (hdb : W.heap.size ≤ db) (hw : db < w0.heap.size)
    (hD : Dice w' db p l cap q') (hg : w.grownBy w' (some db)) : Od W w0 w' db p l cap q' gb gr r := by
  have h1 := h.hb
  have h2 := h.hr
  exact ⟨h.env.grown hne hdb hD hg, h.rk.grow hg (by simp; omega), h.rz.grow hg (by simp; omega), grown_tr h.grow hg, h1, h2, h.hne⟩
theorem Rk.other {w : World} {g : Nat} {r : Rec} (h : Rk w g r) {b : Nat} (hne : g ≠ b) (o : Nat) (v : Value) : Rk (w.setCell ⟨b, o, none⟩ v) g r :=
  (heap_setCell_other w ⟨b, o, none⟩ g v hne).trans h
theorem grown_setN {w0 w : World} {db : Nat} (h : w0.grownBy w (some db)) {g : Nat} (hg : w0.heap.size ≤ g) (o : Nat) (v : Value) : w0.grownBy (w.setCell ⟨g, o, none⟩ v) (some db) :=
  ⟨h.os, h.tape, h.output, by simpa using h.size, fun k hk hne => (heap_setCell_other w ⟨g, o, none⟩ k v (by simp; omega)).trans (h.block k hk hne)⟩
theorem Od.turn {W w0 w : World} {db : Nat} {p : Option Addr} {l : List Int} {cap q gb gr : Nat} {r r' : Rec} (h : Od W w0 w db p l cap q gb gr r) (hR : Rd W p (ints l)) (hdb : W.heap.size ≤ db) (hw : db < w0.heap.size) (o : Nat) (v : Value) (hk : Rk (w.setCell ⟨gb, o, none⟩ v) gb r') : Od W w0 (w.setCell ⟨gb, o, none⟩ v) db p l cap q gb gr r' := by
  have h1 := h.hb
  have h2 := h.hr
  exact ⟨h.env.set gb o v (by omega) (by omega) (rd_ne hR (by omega)), hk, h.rz.other (fun e => h.hne e.symm) o v, grown_setN h.grow h1 o v, h1, h2, h.hne⟩
theorem Od.fin {W w0 w : World} {db : Nat} {p : Option Addr} {l : List Int} {cap q gb gr : Nat} {r : Rec} (h : Od W w0 w db p l cap q gb gr r) (hR : Rd W p (ints l)) (hdb : W.heap.size ≤ db) (hw : db < w0.heap.size) (a b c d e : Value) :
    Env W (((((w.setCell ⟨gr, 0, none⟩ a).setCell ⟨gr, 1, none⟩ b).setCell ⟨gr, 2, none⟩ c).setCell ⟨gr, 3, none⟩ d).setCell ⟨gr, 4, none⟩ e) db p l cap q ∧ w0.grownBy (((((w.setCell ⟨gr, 0, none⟩ a).setCell ⟨gr, 1, none⟩ b).setCell ⟨gr, 2, none⟩ c).setCell ⟨gr, 3, none⟩ d).setCell ⟨gr, 4, none⟩ e) (some db) := by
  have h2 := h.hr
  have hp := rd_ne hR (show W.heap.size ≤ gr by omega)
  exact ⟨((((h.env.set gr 0 a (by omega) (by omega) hp).set gr 1 b (by omega) (by omega) hp).set gr 2 c (by omega) (by omega) hp).set gr 3 d (by omega) (by omega) hp).set gr 4 e (by omega) (by omega) hp,
    grown_setN (grown_setN (grown_setN (grown_setN (grown_setN h.grow h2 0 a) h2 1 b) h2 2 c) h2 3 d) h2 4 e⟩
/-- what the change keeps -/
structure Ok (r r' : Rec) : Prop where
  ins : r'.In
  body : r'.body.length ≤ r.body.length + 1
  before : r'.before.length ≤ r.before.length + 32
theorem Ok.same {r : Rec} (h : r.In) : Ok r r := ⟨h, by omega, by omega⟩
theorem Ok.num {r : Rec} (h : r.In) {n : Int} (h1 : -9223372036854775808 ≤ n) (h2 : n ≤ 9223372036854775807) : Ok r { r with num := n } := ⟨⟨⟨h1, h2⟩, h.time, h.kind⟩, by simp, by simp⟩
theorem Ok.time {r : Rec} (h : r.In) {n : Int} (h1 : -9223372036854775808 ≤ n) (h2 : n ≤ 9223372036854775807) : Ok r { r with time := n } := ⟨⟨h.num, ⟨h1, h2⟩, h.kind⟩, by simp, by simp⟩
theorem Ok.kind {r : Rec} (h : r.In) {n : Int} (h1 : -9223372036854775808 ≤ n) (h2 : n ≤ 9223372036854775807) : Ok r { r with kind := n } := ⟨⟨h.num, h.time, ⟨h1, h2⟩⟩, by simp, by simp⟩
theorem Rk.store {w : World} {g : Nat} {r : Rec} (h : Rk w g r) (r' : Rec) :
    Rk (((((w.setCell ⟨g, 0, none⟩ (.int .i64 r'.num)).setCell ⟨g, 1, none⟩ (.int .i64 r'.time)).setCell ⟨g, 2, none⟩ (.int .i64 r'.kind)).setCell ⟨g, 3, none⟩ (.string ⟨r'.body.toArray⟩)).setCell ⟨g, 4, none⟩ (.string ⟨r'.before.toArray⟩)) g r' :=
  ((((h.set0 r'.num).set1 r'.time).set2 r'.kind).set3 r'.body).set4 r'.before
theorem Rk.ret {fn : Func} {t : Tmp} (h : fn.results = #[.cell t 24]) (tmps : Array Value) {w : World} {g : Nat} {x : Rec} (ht : tmps.getD t undef = .pointer (some ⟨g, 0, none⟩)) (hD : Rk w g x) :
    (results fn tmps).run Try.prog w = .ok (.agg #[.int .i64 x.num, .int .i64 x.time, .int .i64 x.kind, .string ⟨x.body.toArray⟩, .string ⟨x.before.toArray⟩]) w := by
  have c0 := hD.c0
  have c1 := hD.c1
  have c2 := hD.c2
  have c3 := hD.c3
  have c4 := hD.c4
  have ht' : tmps[t]?.getD undef = .pointer (some ⟨g, 0, none⟩) := by simpa using ht
  simp [results, h, ht', go_sem, c0, c1, c2, c3, c4]
/-- what the call leaves -/
def OddPost (W w : World) (db : Nat) (p : Option Addr) (l : List Int) (cap : Nat) (r : Rec) (e : Ending) (w' : World) : Prop :=
  ∃ r' q', e = .returned (.agg #[.int .i64 r'.num, .int .i64 r'.time, .int .i64 r'.kind, .string ⟨r'.body.toArray⟩, .string ⟨r'.before.toArray⟩]) ∧ Ok r r' ∧ Env W w' db p l cap q' ∧ w.grownBy w' (some db)
theorem OddPost.intro {W w : World} {db : Nat} {p : Option Addr} {l : List Int} {cap : Nat} {r : Rec} {e : Ending} {w' : World} (r' : Rec) (q' : Nat) (he : e = .returned (.agg #[.int .i64 r'.num, .int .i64 r'.time, .int .i64 r'.kind, .string ⟨r'.body.toArray⟩, .string ⟨r'.before.toArray⟩])) (hk : Ok r r') (hE : Env W w' db p l cap q') (hg : w.grownBy w' (some db)) : OddPost W w db p l cap r e w' :=
  ⟨r', q', he, hk, hE, hg⟩
end Go.Proofs.Ytgjjpijcakafhaa
