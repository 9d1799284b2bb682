/- law28: needs, a seat that needs so many reporters. -/
import Derived.Test.YtpofijdkckaphaaGreatDoorGGreW
import Derived.Test.YtpofijdkckaphaaGreatDoorGKp
namespace Go.Proofs.YtpofijdkckaphaaGreatDoor
open Go.RowKit
theorem Seat.ret {fn : Func} {t : Tmp} (h : fn.results = #[.cell t 44]) (tmps : Array Value) {w : World} {g : Nat} {v0 v1 v2 v3 v4 v5 v6 : Value} (ht : tmps.getD t undef = .pointer (some ⟨g, 0, none⟩)) (hD : Bx w g 44 [v0, v1, v2, v3, v4, v5, v6]) :
    (results fn tmps).run Tryz.prog w = .ok (.agg #[v0, v1, v2, v3, v4, v5, v6]) w := by
  have c0 := hD.cell 0 (v := v0) rfl
  have c1 := hD.cell 1 (v := v1) rfl
  have c2 := hD.cell 2 (v := v2) rfl
  have c3 := hD.cell 3 (v := v3) rfl
  have c4 := hD.cell 4 (v := v4) rfl
  have c5 := hD.cell 5 (v := v5) rfl
  have c6 := hD.cell 6 (v := v6) rfl
  have ht' : tmps[t]?.getD undef = .pointer (some ⟨g, 0, none⟩) := by simpa using ht
  simp [results, h, ht', go_sem, c0, c1, c2, c3, c4, c5, c6]
def needT (n : Int) : Trm := ⟨3, n, 0, [], [], [], none, 0⟩
/-- a seat that needs n reporters, its term in block g -/
def seN (p : List UInt8) (number n : Int) (g : Nat) : Seat := ⟨⟨p, number, 0, 0, [], none, 0⟩, [needT n], some ⟨g, 0, none⟩, 1, false⟩
/-- what a seat hangs on -/
def SeOk (w : World) (x : Seat) : Prop := RdT w x.ca x.T ∧ Rd w x.mem.aa (rowsC anC x.mem.ans) ∧ x.mem.In ∧ x.T.length ≤ 1000
theorem SeOk.keep {w w' : World} {x : Seat} (h : SeOk w x) (hb : Below w.heap.size w w') : SeOk w' x := ⟨h.1.keep hb, h.2.1.keep hb, h.2.2.1, h.2.2.2⟩
theorem rdS_mk {w : World} {a : Option Addr} {l : List Seat} (hr : Rd w a (rowsC seC l)) (h : ∀ x ∈ l, SeOk w x) : RdS w a l := ⟨hr, fun x hx => (h x hx).1, fun x hx => (h x hx).2.1, fun x hx => (h x hx).2.2.1, fun x hx => (h x hx).2.2.2⟩
theorem rdS_new {w : World} {l : List Seat} (h : ∀ x ∈ l, SeOk w x) : RdS (w.alloc (.cells (rowsC seC l).toArray 44)) (some ⟨w.heap.size, 0, none⟩) l :=
  rdS_mk (Rd.mk fun j u hj => by rw [Nat.zero_add, World.cell?_alloc_at _ _ _ _ rfl]; simpa using hj) (fun x hx => (h x hx).keep ((Below.refl _ _).alloc (Nat.le_refl _) _))
def NeedRes (p : List UInt8) (number n : Int) (w : World) (e : Ending) (w' : World) : Prop :=
  ∃ g, e = .returned (.agg #[.string ⟨p.toArray⟩, .int .i64 number, .int .i64 0, .int .i64 0, .slice none 0 0, .slice (some ⟨g, 0, none⟩) 1 1, .bool false]) ∧ SeOk w' (seN p number n g) ∧ Below w.heap.size w w'
set_option maxRecDepth 100000 in
theorem need_walk (p : List UInt8) (number n : Int) (hp : p.length ≤ 1000) (hm : 0 ≤ number ∧ number ≤ 1000) (hn : 0 ≤ n ∧ n ≤ 1000) (w : World) :
    Calls Tryz.prog 24 #[.string ⟨p.toArray⟩, .int .i64 number, .int .i64 n] w (NeedRes p number n w) := by
  have b1 := (Below.refl w.heap.size w).alloc (Nat.le_refl _) (.cells #[.string ⟨p.toArray⟩, .int .i64 number, .int .i64 0, .int .i64 0, .slice none 0 0, .slice (some ⟨w.heap.size + 1, 0, none⟩) 1 1, .bool false] 44)
  have h1 := Bx.new w 44 [.string ⟨p.toArray⟩, .int .i64 number, .int .i64 0, .int .i64 0, .slice none 0 0, .slice (some ⟨w.heap.size + 1, 0, none⟩) 1 1, .bool false]
  change Bx (w.alloc (.cells #[.string ⟨p.toArray⟩, .int .i64 number, .int .i64 0, .int .i64 0, .slice none 0 0, .slice (some ⟨w.heap.size + 1, 0, none⟩) 1 1, .bool false] 44)) _ _ _ at h1
  have hs : (w.alloc (.cells #[.string ⟨p.toArray⟩, .int .i64 number, .int .i64 0, .int .i64 0, .slice none 0 0, .slice (some ⟨w.heap.size + 1, 0, none⟩) 1 1, .bool false] 44)).heap.size = w.heap.size + 1 := by simp
  have b2 := b1.alloc b1.size (.cells #[.int .i64 3, .int .i64 n, .int .i64 0, .string ⟨#[]⟩, .string ⟨#[]⟩, .slice none 0 0] 50)
  have h2 := h1.alloc (.cells #[.int .i64 3, .int .i64 n, .int .i64 0, .string ⟨#[]⟩, .string ⟨#[]⟩, .slice none 0 0] 50)
  have hR : Rd ((w.alloc (.cells #[.string ⟨p.toArray⟩, .int .i64 number, .int .i64 0, .int .i64 0, .slice none 0 0, .slice (some ⟨w.heap.size + 1, 0, none⟩) 1 1, .bool false] 44)).alloc (.cells #[.int .i64 3, .int .i64 n, .int .i64 0, .string ⟨#[]⟩, .string ⟨#[]⟩, .slice none 0 0] 50)) (some ⟨w.heap.size + 1, 0, none⟩) (rowsC trC [needT n]) := Rd.mk fun j u hj => by rw [Nat.zero_add, World.cell?_alloc_at _ _ _ _ hs.symm]; simpa [rowsC, trC, needT] using hj
  have HR := Lib.hid hR
  have H2 := Lib.hid h2
  have B2 := Lib.hid b2
  clear h1 b1 h2 b2 hR hs
  go_enter Tryz.func24, Tryz.ntmps24
  go_wp2_with fail
  refine bodyPost_ret (Seat.ret (t := 6) rfl _ rfl H2.out) rfl ⟨w.heap.size + 1, rfl, ⟨⟨HR.out, fun t ht => ?_, fun t ht => ?_⟩, Rd.nil _ _, ⟨?_, ⟨⟨?_, ?_⟩, ⟨?_, ?_⟩, ⟨?_, ?_⟩⟩, ?_, ?_, ?_⟩, ?_⟩, B2.out⟩
  · rw [List.mem_singleton.1 ht]; exact Rd.nil _ _
  · rw [List.mem_singleton.1 ht]
    exact term_in 3 n 0 [] [] [] none 0 (by omega) (by omega) (by omega) (by simp) (by simp) (by simp) (by simp) (by simp)
  all_goals first | (show (p.length : Nat) ≤ _; omega) | (show (_ : Int) ≤ number; omega) | (show number ≤ (_ : Int); omega) | (simp [seN]; done) | (intro a ha; simp [seN] at ha)
end Go.Proofs.YtpofijdkckaphaaGreatDoor
/- law28: awake. -/
namespace Go.Proofs.YtpofijdkckaphaaGreatDoor
open Go.RowKit
theorem aw28r (g1 g2 g3 : Nat) : roundsP (opS [seN [112] 1 2 g1, seN [113] 2 3 g2, seN [114] 3 4 g3]) (holdS wiF [seN [112] 1 2 g1, seN [113] 2 3 g2, seN [114] 3 4 g3]) 3 = [[2], [1], [0]] := by kernel_rfl
theorem aw28s (g1 g2 : Nat) : setP (opS [seN [112] 1 2 g1, seN [113] 2 2 g2]) (holdS wiF [seN [112] 1 2 g1, seN [113] 2 2 g2]) 2 = [0, 1] := by kernel_rfl
theorem aw28o (g1 : Nat) : opensP (opS [seN [112] 1 1 g1]) (holdS wiF [seN [112] 1 1 g1]) 1 [0] = true := by kernel_rfl
theorem aw28c (g1 g2 g3 : Nat) : checkP (opS [seN [112] 1 2 g1, seN [113] 2 3 g2, seN [114] 3 4 g3]) (holdS wiF [seN [112] 1 2 g1, seN [113] 2 3 g2, seN [114] 3 4 g3]) 3 [] [[2], [1], [0]] = 0 := by kernel_rfl
theorem aw28n (g1 g2 : Nat) : needsP (holdS wiF [seN [112] 1 2 g1, seN [113] 2 2 g2]) 2 [0, 1] 0 = [1] := by kernel_rfl
theorem aw28d : roundP [[2], [1], [0]] 1 = 1 := by kernel_rfl
theorem rounds3 {R : List IL} (h : R.map IL.lst = [[2], [1], [0]]) : ∃ a1 c1 a2 c2 a3 c3, R = [⟨a1, c1, [2]⟩, ⟨a2, c2, [1]⟩, ⟨a3, c3, [0]⟩] := by
  match R, h with
  | [⟨a1, c1, l1⟩, ⟨a2, c2, l2⟩, ⟨a3, c3, l3⟩], h =>
    simp only [List.map_cons, List.map_nil, List.cons.injEq, and_true] at h
    obtain ⟨rfl, rfl, rfl⟩ := h
    exact ⟨a1, c1, a2, c2, a3, c3, rfl⟩
theorem new_ints_rd (w : World) (l : List Int) : Rd (w.alloc (.cells (ints l).toArray 3)) (some ⟨w.heap.size, 0, none⟩) (ints l) := Rd.mk fun j u hj => by
  rw [Nat.zero_add, World.cell?_alloc_at _ _ _ _ rfl]; simpa using hj
theorem set2 (w : World) (g4 g5 : Nat) (h1 : SeOk w (seN [112] 1 2 g4)) (h2 : SeOk w (seN [113] 2 2 g5)) : Calls Tryz.prog 11 #[.slice (some ⟨w.heap.size, 0, none⟩) 2 2] (w.alloc (.cells #[.string ⟨#[112]⟩, .int .i64 1, .int .i64 0, .int .i64 0, .slice none 0 0, .slice (some ⟨g4, 0, none⟩) 1 1, .bool false, .string ⟨#[113]⟩, .int .i64 2, .int .i64 0, .int .i64 0, .slice none 0 0, .slice (some ⟨g5, 0, none⟩) 1 1, .bool false] 44)) fun e w' => ∃ a1 c1, e = .returned (.tuple #[.slice a1 2 c1, .int .i64 0]) ∧ Below w.heap.size w w' := by
  have hS : RdS (w.alloc (.cells #[.string ⟨#[112]⟩, .int .i64 1, .int .i64 0, .int .i64 0, .slice none 0 0, .slice (some ⟨g4, 0, none⟩) 1 1, .bool false, .string ⟨#[113]⟩, .int .i64 2, .int .i64 0, .int .i64 0, .slice none 0 0, .slice (some ⟨g5, 0, none⟩) 1 1, .bool false] 44)) (some ⟨w.heap.size, 0, none⟩) [seN [112] 1 2 g4, seN [113] 2 2 g5] := rdS_new (w := w) (l := [seN [112] 1 2 g4, seN [113] 2 2 g5]) (fun x hx => by
    simp only [List.mem_cons, List.not_mem_nil, or_false] at hx
    rcases hx with rfl | rfl
    · exact h1
    · exact h2)
  have h := gset_walk [seN [112] 1 2 g4, seN [113] 2 2 g5] (some ⟨w.heap.size, 0, none⟩) 2 _ hS (by simp)
  rw [show ([seN [112] 1 2 g4, seN [113] 2 2 g5] : List Seat).length = 2 from rfl, aw28s] at h
  have hb := (Below.refl w.heap.size w).alloc (Nat.le_refl _) (.cells #[.string ⟨#[112]⟩, .int .i64 1, .int .i64 0, .int .i64 0, .slice none 0 0, .slice (some ⟨g4, 0, none⟩) 1 1, .bool false, .string ⟨#[113]⟩, .int .i64 2, .int .i64 0, .int .i64 0, .slice none 0 0, .slice (some ⟨g5, 0, none⟩) 1 1, .bool false] 44)
  exact h.mono fun e w' ⟨a1, c1, he, _, hb1⟩ => ⟨a1, c1, he, below_tr hb hb1⟩
theorem check3 (w : World) (g1 g2 g3 gL : Nat) (b1 : Option Addr) (d1 : Nat) (b2 : Option Addr) (d2 : Nat) (b3 : Option Addr) (d3 : Nat) (c2 : Nat) (a2 : Option Addr) (hS : RdS w (some ⟨gL, 0, none⟩) [seN [112] 1 2 g1, seN [113] 2 3 g2, seN [114] 3 4 g3]) (hR : RdL w a2 [⟨b1, d1, [2]⟩, ⟨b2, d2, [1]⟩, ⟨b3, d3, [0]⟩]) :
    Calls Tryz.prog 18 #[.slice (some ⟨gL, 0, none⟩) 3 3, .slice none 0 0, .slice a2 3 c2] w fun e w' => e = .returned (.int .i64 0) ∧ Below w.heap.size w w' := by
  have h := check_walk [seN [112] 1 2 g1, seN [113] 2 3 g2, seN [114] 3 4 g3] (some ⟨gL, 0, none⟩) 3 [] none 0 [⟨b1, d1, [2]⟩, ⟨b2, d2, [1]⟩, ⟨b3, d3, [0]⟩] a2 c2 w hS (Rd.nil _ _) hR (by simp) (by simp) (by simp) (fun x hx => by
    simp only [List.mem_cons, List.not_mem_nil, or_false] at hx
    rcases hx with rfl | rfl | rfl <;> simp)
  rw [show ([seN [112] 1 2 g1, seN [113] 2 3 g2, seN [114] 3 4 g3] : List Seat).length = 3 from rfl, show List.map IL.lst [⟨b1, d1, [2]⟩, ⟨b2, d2, [1]⟩, ⟨b3, d3, [0]⟩] = [[2], [1], [0]] from rfl, aw28c] at h
  exact h
theorem opens1 (w : World) (g6 : Nat) (h1 : SeOk w (seN [112] 1 1 g6)) : Calls Tryz.prog 12 #[.slice (some ⟨w.heap.size, 0, none⟩) 1 1, .slice (some ⟨w.heap.size + 1, 0, none⟩) 1 1] ((w.alloc (.cells #[.string ⟨#[112]⟩, .int .i64 1, .int .i64 0, .int .i64 0, .slice none 0 0, .slice (some ⟨g6, 0, none⟩) 1 1, .bool false] 44)).alloc (.cells #[.int .i64 0] 3)) fun e w' => e = .returned (.bool true) ∧ Below w.heap.size w w' := by
  have hS : RdS (w.alloc (.cells #[.string ⟨#[112]⟩, .int .i64 1, .int .i64 0, .int .i64 0, .slice none 0 0, .slice (some ⟨g6, 0, none⟩) 1 1, .bool false] 44)) (some ⟨w.heap.size, 0, none⟩) [seN [112] 1 1 g6] := rdS_new (w := w) (l := [seN [112] 1 1 g6]) (fun x hx => by
    rw [List.mem_singleton.1 hx]; exact h1)
  have hb := (Below.refl w.heap.size w).alloc (Nat.le_refl _) (.cells #[.string ⟨#[112]⟩, .int .i64 1, .int .i64 0, .int .i64 0, .slice none 0 0, .slice (some ⟨g6, 0, none⟩) 1 1, .bool false] 44)
  have hs : (w.alloc (.cells #[.string ⟨#[112]⟩, .int .i64 1, .int .i64 0, .int .i64 0, .slice none 0 0, .slice (some ⟨g6, 0, none⟩) 1 1, .bool false] 44)).heap.size = w.heap.size + 1 := by simp
  generalize w.alloc (.cells #[.string ⟨#[112]⟩, .int .i64 1, .int .i64 0, .int .i64 0, .slice none 0 0, .slice (some ⟨g6, 0, none⟩) 1 1, .bool false] 44) = v at *
  have hbv := (Below.refl v.heap.size v).alloc (Nat.le_refl _) (.cells #[.int .i64 0] 3)
  have hI := new_ints_rd v [0]
  change Rd (v.alloc (.cells #[.int .i64 0] 3)) _ _ at hI
  rw [hs] at hI
  have h := opens_walk [seN [112] 1 1 g6] (some ⟨w.heap.size, 0, none⟩) 1 [0] _ 1 _ (hS.keep hbv) hI (by simp) (by simp)
  rw [show ([seN [112] 1 1 g6] : List Seat).length = 1 from rfl, aw28o] at h
  exact h.mono fun e w' ⟨he, hb1⟩ => ⟨he, below_tr (below_tr hb hbv) hb1⟩
theorem needs2 (w : World) (g4 g5 : Nat) (h1 : SeOk w (seN [112] 1 2 g4)) (h2 : SeOk w (seN [113] 2 2 g5)) : Calls Tryz.prog 28 #[.slice (some ⟨w.heap.size, 0, none⟩) 2 2, .slice (some ⟨w.heap.size + 1, 0, none⟩) 2 2, .int .i64 0] ((w.alloc (.cells #[.string ⟨#[112]⟩, .int .i64 1, .int .i64 0, .int .i64 0, .slice none 0 0, .slice (some ⟨g4, 0, none⟩) 1 1, .bool false, .string ⟨#[113]⟩, .int .i64 2, .int .i64 0, .int .i64 0, .slice none 0 0, .slice (some ⟨g5, 0, none⟩) 1 1, .bool false] 44)).alloc (.cells #[.int .i64 0, .int .i64 1] 3)) fun e w' => ∃ a1 c1, e = .returned (.slice a1 1 c1) ∧ Below w.heap.size w w' := by
  have hS : RdS (w.alloc (.cells #[.string ⟨#[112]⟩, .int .i64 1, .int .i64 0, .int .i64 0, .slice none 0 0, .slice (some ⟨g4, 0, none⟩) 1 1, .bool false, .string ⟨#[113]⟩, .int .i64 2, .int .i64 0, .int .i64 0, .slice none 0 0, .slice (some ⟨g5, 0, none⟩) 1 1, .bool false] 44)) (some ⟨w.heap.size, 0, none⟩) [seN [112] 1 2 g4, seN [113] 2 2 g5] := rdS_new (w := w) (l := [seN [112] 1 2 g4, seN [113] 2 2 g5]) (fun x hx => by
    simp only [List.mem_cons, List.not_mem_nil, or_false] at hx
    rcases hx with rfl | rfl
    · exact h1
    · exact h2)
  have hb := (Below.refl w.heap.size w).alloc (Nat.le_refl _) (.cells #[.string ⟨#[112]⟩, .int .i64 1, .int .i64 0, .int .i64 0, .slice none 0 0, .slice (some ⟨g4, 0, none⟩) 1 1, .bool false, .string ⟨#[113]⟩, .int .i64 2, .int .i64 0, .int .i64 0, .slice none 0 0, .slice (some ⟨g5, 0, none⟩) 1 1, .bool false] 44)
  have hs : (w.alloc (.cells #[.string ⟨#[112]⟩, .int .i64 1, .int .i64 0, .int .i64 0, .slice none 0 0, .slice (some ⟨g4, 0, none⟩) 1 1, .bool false, .string ⟨#[113]⟩, .int .i64 2, .int .i64 0, .int .i64 0, .slice none 0 0, .slice (some ⟨g5, 0, none⟩) 1 1, .bool false] 44)).heap.size = w.heap.size + 1 := by simp
  generalize w.alloc (.cells #[.string ⟨#[112]⟩, .int .i64 1, .int .i64 0, .int .i64 0, .slice none 0 0, .slice (some ⟨g4, 0, none⟩) 1 1, .bool false, .string ⟨#[113]⟩, .int .i64 2, .int .i64 0, .int .i64 0, .slice none 0 0, .slice (some ⟨g5, 0, none⟩) 1 1, .bool false] 44) = v at *
  have hbv := (Below.refl v.heap.size v).alloc (Nat.le_refl _) (.cells #[.int .i64 0, .int .i64 1] 3)
  have hI := new_ints_rd v [0, 1]
  change Rd (v.alloc (.cells #[.int .i64 0, .int .i64 1] 3)) _ _ at hI
  rw [hs] at hI
  have h := needs_walk [seN [112] 1 2 g4, seN [113] 2 2 g5] (some ⟨w.heap.size, 0, none⟩) 2 [0, 1] _ 2 0 _ (hS.keep hbv) hI (by simp) (by simp)
  rw [show ([seN [112] 1 2 g4, seN [113] 2 2 g5] : List Seat).length = 2 from rfl, aw28n] at h
  exact h.mono fun e w' ⟨a1, c1, he, _, hb1⟩ => ⟨a1, c1, he, below_tr (below_tr hb hbv) hb1⟩
set_option maxRecDepth 100000 in
set_option maxHeartbeats 4000000 in
theorem awake28 (w : World) : Calls Tryz.prog 8 #[] w fun e w' => e = .returned (.bool true) ∧ Below w.heap.size w w' := by
  have K1 := Lib.hid (need_walk [112] 1 2 (by decide) (by decide) (by decide))
  have K2 := Lib.hid (need_walk [113] 2 3 (by decide) (by decide) (by decide))
  have K3 := Lib.hid (need_walk [114] 3 4 (by decide) (by decide) (by decide))
  have K4 := Lib.hid (need_walk [113] 2 2 (by decide) (by decide) (by decide))
  have K5 := Lib.hid (need_walk [112] 1 1 (by decide) (by decide) (by decide))
  go_enter Tryz.func8, Tryz.ntmps8
  go_upto_region 2 with (first
    | (go_at_call 24; (with_reducible refine (K1.out _).mono ?_); (first | rintro e w1 ⟨g1, rfl, hs1, hb1⟩ | rintro e w1 g1 rfl hs1 hb1))
    | (go_at_call 24; (with_reducible refine (K2.out _).mono ?_); (first | rintro e w2 ⟨g2, rfl, hs2, hb2⟩ | rintro e w2 g2 rfl hs2 hb2))
    | (go_at_call 24; (with_reducible refine (K3.out _).mono ?_); (first | rintro e w3 ⟨g3, rfl, hs3, hb3⟩ | rintro e w3 g3 rfl hs3 hb3)))
  have hb := below_tr (below_tr hb1 hb2) hb3
  have hS3 : RdS (w3.alloc (.cells #[.string ⟨#[112]⟩, .int .i64 1, .int .i64 0, .int .i64 0, .slice none 0 0, .slice (some ⟨g1, 0, none⟩) 1 1, .bool false, .string ⟨#[113]⟩, .int .i64 2, .int .i64 0, .int .i64 0, .slice none 0 0, .slice (some ⟨g2, 0, none⟩) 1 1, .bool false, .string ⟨#[114]⟩, .int .i64 3, .int .i64 0, .int .i64 0, .slice none 0 0, .slice (some ⟨g3, 0, none⟩) 1 1, .bool false] 44)) (some ⟨w3.heap.size, 0, none⟩) [seN [112] 1 2 g1, seN [113] 2 3 g2, seN [114] 3 4 g3] := rdS_new (w := w3) (l := [seN [112] 1 2 g1, seN [113] 2 3 g2, seN [114] 3 4 g3]) (fun x hx => by
    simp only [List.mem_cons, List.not_mem_nil, or_false] at hx
    rcases hx with rfl | rfl | rfl
    · exact (hs1.keep hb2).keep hb3
    · exact hs2.keep hb3
    · exact hs3)
  replace hb := hb.alloc hb.size (.cells #[.string ⟨#[112]⟩, .int .i64 1, .int .i64 0, .int .i64 0, .slice none 0 0, .slice (some ⟨g1, 0, none⟩) 1 1, .bool false, .string ⟨#[113]⟩, .int .i64 2, .int .i64 0, .int .i64 0, .slice none 0 0, .slice (some ⟨g2, 0, none⟩) 1 1, .bool false, .string ⟨#[114]⟩, .int .i64 3, .int .i64 0, .int .i64 0, .slice none 0 0, .slice (some ⟨g3, 0, none⟩) 1 1, .bool false] 44)
  clear hb1 hb2 hb3 hs1 hs2 hs3
  generalize w3.alloc (.cells #[.string ⟨#[112]⟩, .int .i64 1, .int .i64 0, .int .i64 0, .slice none 0 0, .slice (some ⟨g1, 0, none⟩) 1 1, .bool false, .string ⟨#[113]⟩, .int .i64 2, .int .i64 0, .int .i64 0, .slice none 0 0, .slice (some ⟨g2, 0, none⟩) 1 1, .bool false, .string ⟨#[114]⟩, .int .i64 3, .int .i64 0, .int .i64 0, .slice none 0 0, .slice (some ⟨g3, 0, none⟩) 1 1, .bool false] 44) = w4 at *
  generalize w3.heap.size = gL at *
  have KR := grounds_walk [seN [112] 1 2 g1, seN [113] 2 3 g2, seN [114] 3 4 g3] (some ⟨gL, 0, none⟩) 3 w4 hS3 (by simp)
  rw [show ([seN [112] 1 2 g1, seN [113] 2 3 g2, seN [114] 3 4 g3] : List Seat).length = 3 from rfl, aw28r] at KR
  have KRH := Lib.hid KR
  clear KR
  go_upto_region 3 with (go_at_call 26; (with_reducible refine KRH.out.mono ?_); (first | rintro e w5 ⟨a2, c2, R, rfl, hR5, hRe, hb5⟩ | rintro e w5 a2 c2 R rfl hR5 hRe hb5))
  obtain ⟨b1, d1, b2, d2, b3, d3, rfl⟩ := rounds3 hRe
  replace hb := below_tr hb hb5
  have hS5 := hS3.keep hb5
  clear hRe hb5 hS3 KRH
  go_upto_region 4 with (first
    | (go_at_call 24; (with_reducible refine (K1.out _).mono ?_); (first | rintro e w6 ⟨g4, rfl, hs4, hb6⟩ | rintro e w6 g4 rfl hs4 hb6))
    | (go_at_call 24; (with_reducible refine (K4.out _).mono ?_); (first | rintro e w7 ⟨g5, rfl, hs5, hb7⟩ | rintro e w7 g5 rfl hs5 hb7); have KSH := Lib.hid (set2 w7 g4 g5 (hs4.keep hb7) hs5))
    | (go_at_call 11; (with_reducible refine KSH.out.mono ?_); (first | rintro e w8 ⟨a8, c8, rfl, hb8⟩ | rintro e w8 a8 c8 rfl hb8)))
  have hbx := below_tr (below_tr hb6 hb7) hb8
  have hS8 := hS5.keep hbx
  have hR8 := hR5.keep hbx
  replace hb := below_tr hb hbx
  clear hbx hb6 hb7 hb8 hs4 hs5 hS5 hR5 KSH
  obtain ⟨gr, orr, x, rfl, cx, hx, hxr⟩ := hR8.at (k := 0) (by simp)
  obtain rfl : (⟨b1, d1, [2]⟩ : IL) = x := Option.some.inj hx.out
  obtain ⟨gy, oy, y, hby, cy, hy⟩ := hxr.int (k := 0) (by simp)
  obtain rfl : (2 : Int) = y := Option.some.inj hy.out
  have hby' : b1 = some ⟨gy, oy, none⟩ := hby
  subst hby'
  rw [Nat.add_zero] at cx cy
  change w8.cell? _ = some (.slice _ 1 d1) at cx
  clear hx hxr hy hby
  have KRo := round_walk [seN [112] 1 2 g1, seN [113] 2 3 g2, seN [114] 3 4 g3] (some ⟨gL, 0, none⟩) 3 1 w8 hS8 (by simp)
  rw [show ([seN [112] 1 2 g1, seN [113] 2 3 g2, seN [114] 3 4 g3] : List Seat).length = 3 from rfl, aw28r, aw28d] at KRo
  have KRoH := Lib.hid KRo
  have KCH := Lib.hid (fun V (hV : Below w8.heap.size w8 V) => check3 V g1 g2 g3 gL _ _ _ _ _ _ c2 _ (hS8.keep hV) (hR8.keep hV))
  have KOH := Lib.hid opens1
  have KNH := Lib.hid needs2
  clear KRo hS8 hR8
  have HB := Lib.hid hb
  clear hb
  go_wp2_with (first
    | (go_at_call 27; (with_reducible refine KRoH.out.mono ?_); (first | rintro e u1 ⟨rfl, hc1⟩ | rintro e u1 rfl hc1))
    | (go_at_call 24; (with_reducible refine (K5.out _).mono ?_); (first | rintro e u2 ⟨g6, rfl, hs6, hc2⟩ | rintro e u2 g6 rfl hs6 hc2))
    | (go_at_call 12; (with_reducible refine (KOH.out _ _ hs6).mono ?_); (first | rintro e u3 ⟨rfl, hc3⟩ | rintro e u3 rfl hc3); have hc4 := below_tr (below_tr hc1 hc2) hc3)
    | (go_at_call 18; (with_reducible refine (KCH.out _ hc4).mono ?_); (first | rintro e u4 ⟨rfl, hc5⟩ | rintro e u4 rfl hc5))
    | (go_at_call 24; (with_reducible refine (K1.out _).mono ?_); (first | rintro e u5 ⟨g7, rfl, hs7, hc6⟩ | rintro e u5 g7 rfl hs7 hc6))
    | (go_at_call 24; (with_reducible refine (K4.out _).mono ?_); (first | rintro e u6 ⟨g8, rfl, hs8, hc7⟩ | rintro e u6 g8 rfl hs8 hc7))
    | (go_at_call 28; (with_reducible refine (KNH.out _ _ _ (hs7.keep hc7) hs8).mono ?_); (first | rintro e u7 ⟨a9, c9, rfl, hc8⟩ | rintro e u7 a9 c9 rfl hc8)))
  go_ret
  exact ⟨rfl, below_tr HB.out (below_tr hc4 (below_tr hc5 (below_tr hc6 (below_tr hc7 hc8))))⟩
end Go.Proofs.YtpofijdkckaphaaGreatDoor
