/- law28: needs, a seat that needs so many reporters. -/
import Derived.Test.YtpofijdkckaphaaGreatGGreW
import Derived.Test.YtpofijdkckaphaaGreatGKp
namespace Go.Proofs.YtpofijdkckaphaaGreat
open Go.RowKit
theorem Seat.ret {fn : Func} {t : Tmp} (h : fn.results = #[.cell t 36]) (tmps : Array Value) {w : World} {g : Nat} {v0 v1 v2 v3 v4 v5 v6 : Value} (ht : tmps.getD t undef = .pointer (some ⟨g, 0, none⟩)) (hD : Bx w g 36 [v0, v1, v2, v3, v4, v5, v6]) :
    (results fn tmps).run Tryz.prog w = .ok (.agg #[v0, v1, v2, v3, v4, v5, v6]) w := by
  have c0 := hD.cell 0 (v := v0) rfl
  have c1 := hD.cell 1 (v := v1) rfl
  have c2 := hD.cell 2 (v := v2) rfl
  have c3 := hD.cell 3 (v := v3) rfl
  have c4 := hD.cell 4 (v := v4) rfl
  have c5 := hD.cell 5 (v := v5) rfl
  have c6 := hD.cell 6 (v := v6) rfl
  have ht' : tmps[t]?.getD undef = .pointer (some ⟨g, 0, none⟩) := by simpa using ht
  simp [results, h, ht', go_sem, c0, c1, c2, c3, c4, c5, c6]
def needT (n : Int) : Trm := ⟨3, n, 0, [], [], [], none, 0⟩
/-- a seat that needs n reporters, its term in block g -/
def seN (p : List UInt8) (number n : Int) (g : Nat) : Seat := ⟨⟨p, number, 0, 0, [], none, 0⟩, [needT n], some ⟨g, 0, none⟩, 1, false⟩
/-- what a seat hangs on -/
def SeOk (w : World) (x : Seat) : Prop := RdT w x.ca x.T ∧ Rd w x.mem.aa (rowsC anC x.mem.ans) ∧ x.mem.In ∧ x.T.length ≤ 1000
theorem SeOk.keep {w w' : World} {x : Seat} (h : SeOk w x) (hb : Below w.heap.size w w') : SeOk w' x := ⟨h.1.keep hb, h.2.1.keep hb, h.2.2.1, h.2.2.2⟩
theorem rdS_mk {w : World} {a : Option Addr} {l : List Seat} (hr : Rd w a (rowsC seC l)) (h : ∀ x ∈ l, SeOk w x) : RdS w a l := ⟨hr, fun x hx => (h x hx).1, fun x hx => (h x hx).2.1, fun x hx => (h x hx).2.2.1, fun x hx => (h x hx).2.2.2⟩
theorem rdS_new {w : World} {l : List Seat} (h : ∀ x ∈ l, SeOk w x) : RdS (w.alloc (.cells (rowsC seC l).toArray 36)) (some ⟨w.heap.size, 0, none⟩) l :=
  rdS_mk (Rd.mk fun j u hj => by rw [Nat.zero_add, World.cell?_alloc_at _ _ _ _ rfl]; simpa using hj) (fun x hx => (h x hx).keep ((Below.refl _ _).alloc (Nat.le_refl _) _))
def NeedRes (p : List UInt8) (number n : Int) (w : World) (e : Ending) (w' : World) : Prop :=
  ∃ g, e = .returned (.agg #[.string ⟨p.toArray⟩, .int .i64 number, .int .i64 0, .int .i64 0, .slice none 0 0, .slice (some ⟨g, 0, none⟩) 1 1, .bool false]) ∧ SeOk w' (seN p number n g) ∧ Below w.heap.size w w'
set_option maxRecDepth 100000 in
theorem need_walk (p : List UInt8) (number n : Int) (hp : p.length ≤ 1000) (hm : 0 ≤ number ∧ number ≤ 1000) (hn : 0 ≤ n ∧ n ≤ 1000) (w : World) :
    Calls Tryz.prog 12 #[.string ⟨p.toArray⟩, .int .i64 number, .int .i64 n] w (NeedRes p number n w) := by
  have b1 := (Below.refl w.heap.size w).alloc (Nat.le_refl _) (.cells #[.string ⟨p.toArray⟩, .int .i64 number, .int .i64 0, .int .i64 0, .slice none 0 0, .slice (some ⟨w.heap.size + 1, 0, none⟩) 1 1, .bool false] 36)
  have h1 := Bx.new w 36 [.string ⟨p.toArray⟩, .int .i64 number, .int .i64 0, .int .i64 0, .slice none 0 0, .slice (some ⟨w.heap.size + 1, 0, none⟩) 1 1, .bool false]
  change Bx (w.alloc (.cells #[.string ⟨p.toArray⟩, .int .i64 number, .int .i64 0, .int .i64 0, .slice none 0 0, .slice (some ⟨w.heap.size + 1, 0, none⟩) 1 1, .bool false] 36)) _ _ _ at h1
  have hs : (w.alloc (.cells #[.string ⟨p.toArray⟩, .int .i64 number, .int .i64 0, .int .i64 0, .slice none 0 0, .slice (some ⟨w.heap.size + 1, 0, none⟩) 1 1, .bool false] 36)).heap.size = w.heap.size + 1 := by simp
  have b2 := b1.alloc b1.size (.cells #[.int .i64 3, .int .i64 n, .int .i64 0, .string ⟨#[]⟩, .string ⟨#[]⟩, .slice none 0 0] 42)
  have h2 := h1.alloc (.cells #[.int .i64 3, .int .i64 n, .int .i64 0, .string ⟨#[]⟩, .string ⟨#[]⟩, .slice none 0 0] 42)
  have hR : Rd ((w.alloc (.cells #[.string ⟨p.toArray⟩, .int .i64 number, .int .i64 0, .int .i64 0, .slice none 0 0, .slice (some ⟨w.heap.size + 1, 0, none⟩) 1 1, .bool false] 36)).alloc (.cells #[.int .i64 3, .int .i64 n, .int .i64 0, .string ⟨#[]⟩, .string ⟨#[]⟩, .slice none 0 0] 42)) (some ⟨w.heap.size + 1, 0, none⟩) (rowsC trC [needT n]) := Rd.mk fun j u hj => by rw [Nat.zero_add, World.cell?_alloc_at _ _ _ _ hs.symm]; simpa [rowsC, trC, needT] using hj
  have HR := Lib.hid hR
  have H2 := Lib.hid h2
  have B2 := Lib.hid b2
  clear h1 b1 h2 b2 hR hs
  go_enter Tryz.func12, Tryz.ntmps12
  go_wp2_with fail
  refine bodyPost_ret (Seat.ret (t := 6) rfl _ rfl H2.out) rfl ⟨w.heap.size + 1, rfl, ⟨⟨HR.out, fun t ht => ?_, fun t ht => ?_⟩, Rd.nil _ _, ⟨?_, ⟨⟨?_, ?_⟩, ⟨?_, ?_⟩, ⟨?_, ?_⟩⟩, ?_, ?_, ?_⟩, ?_⟩, B2.out⟩
  · rw [List.mem_singleton.1 ht]; exact Rd.nil _ _
  · rw [List.mem_singleton.1 ht]
    exact term_in 3 n 0 [] [] [] none 0 (by omega) (by omega) (by omega) (by simp) (by simp) (by simp) (by simp) (by simp)
  all_goals first | (show (p.length : Nat) ≤ _; omega) | (show (_ : Int) ≤ number; omega) | (show number ≤ (_ : Int); omega) | (simp [seN]; done) | (intro a ha; simp [seN] at ha)
end Go.Proofs.YtpofijdkckaphaaGreat
