/- Arguments that are slices of seats, and lists of lists of numbers: what can be read of them. -/
import Derived.Test.YtpofijdkckaphaaGreatDoorGLawMem
import Derived.Test.YtpofijdkckaphaaGreatDoorGCndG
import Derived.Test.YtpofijdkckaphaaGreatDoorGIn
import Derived.Test.YtpofijdkckaphaaGreatDoorGGreRE
namespace Go.Proofs.YtpofijdkckaphaaGreatDoor
open Go.ChangeShapes Go.WideShapes Go.ChangeAt Go.RowKit Go.Deep
theorem cells_bool : Tryz.prog.cellsOf 4 = 1 := by kernel_rfl
theorem cells_intsl : Tryz.prog.cellsOf 22 = 1 := by kernel_rfl
theorem cells_tr : Tryz.prog.cellsOf 50 = 6 := by kernel_rfl
theorem cells_trs : Tryz.prog.cellsOf 40 = 1 := by kernel_rfl
theorem cells_cnd : Tryz.prog.cellsOf 42 = 1 := by kernel_rfl
theorem cells_se : Tryz.prog.cellsOf 44 = 7 := by kernel_rfl
theorem bytes_int : 1 ≤ Tryz.prog.bytesOf 3 := by decide +kernel
theorem bytes_intsl : 1 ≤ Tryz.prog.bytesOf 22 := by decide +kernel
theorem bytes_tr : 1 ≤ Tryz.prog.bytesOf 50 := by decide +kernel
theorem bytes_se : 1 ≤ Tryz.prog.bytesOf 44 := by decide +kernel
theorem tr_fields : ∃ f0 f1 f2 f3 f4 f5 : Field, Tryz.prog.underlying 50 = some (.struct #[f0, f1, f2, f3, f4, f5]) ∧ (f0.type = 3 ∧ f0.offset = 0) ∧ (f1.type = 3 ∧ f1.offset = 1) ∧ (f2.type = 3 ∧ f2.offset = 2) ∧ (f3.type = 9 ∧ f3.offset = 3) ∧ (f4.type = 9 ∧ f4.offset = 4) ∧ (f5.type = 22 ∧ f5.offset = 5) :=
  ⟨_, _, _, _, _, _, Tryz.underlying50, ⟨rfl, rfl⟩, ⟨rfl, rfl⟩, ⟨rfl, rfl⟩, ⟨rfl, rfl⟩, ⟨rfl, rfl⟩, ⟨rfl, rfl⟩⟩
theorem cnd_fields : ∃ f0 : Field, Tryz.prog.underlying 42 = some (.struct #[f0]) ∧ (f0.type = 40 ∧ f0.offset = 0) :=
  ⟨_, Tryz.underlying42, ⟨rfl, rfl⟩⟩
theorem se_fields : ∃ f0 f1 f2 : Field, Tryz.prog.underlying 44 = some (.struct #[f0, f1, f2]) ∧ (f0.type = 39 ∧ f0.offset = 0) ∧ (f1.type = 42 ∧ f1.offset = 5) ∧ (f2.type = 4 ∧ f2.offset = 6) :=
  ⟨_, _, _, Tryz.underlying44, ⟨rfl, rfl⟩, ⟨rfl, rfl⟩, ⟨rfl, rfl⟩⟩
theorem int_of {H : Type} {enc : TypeId × Value → H} {W : World} {spare : Nat → Bool} {held : Bool} (n : Nat) (cs : List Value) (y : DataW H × List MemPlace)
    (h : DataW.trod enc Tryz.prog W 0 spare held n 3 cs = some y) : ∃ x : Int, cs = icC x ∧ I64 x := by
  obtain ⟨v, e, -, w⟩ := DataW.trod_int Tryz.underlying3 h
  exact ⟨v, e, I64.of_wf w⟩
theorem intsl_of {H : Type} {enc : TypeId × Value → H} {W : World} {spare : Nat → Bool} {held : Bool} (n : Nat) (cs : List Value) (y : DataW H × List MemPlace)
    (h : DataW.trod enc Tryz.prog W 0 spare held n 22 cs = some y) (hw : ∀ q ∈ y.1.weights Tryz.prog 22, q ≤ reachBytes) : ∃ a l cap, cs = [.slice a l.length cap] ∧ Rd W a (ints l) ∧ (∀ x ∈ l, I64 x) ∧ l.length ≤ cap ∧ l.length ≤ 281474976710656 := by
  obtain ⟨a, l, cap, e, r, i, c, b⟩ := trod_rowsW icC_len (by decide) Tryz.underlying22 cells_int bytes_int I64 (fun n cs y h _ => int_of n cs y h) h hw
  rw [ints_rows] at r
  exact ⟨a, l, cap, e, r, i, c, b⟩
set_option maxRecDepth 100000 in
theorem tr_of {H : Type} {enc : TypeId × Value → H} {W : World} {spare : Nat → Bool} {held : Bool} (n : Nat) (cs : List Value) (y : DataW H × List MemPlace)
    (h : DataW.trod enc Tryz.prog W 0 spare held n 50 cs = some y) (hw : ∀ q ∈ y.1.weights Tryz.prog 50, q ≤ reachBytes) : ∃ t : Trm, cs = trC t ∧ t.In ∧ Rd W t.aa (ints t.args) := by
  obtain ⟨f0, f1, f2, f3, f4, f5, hs, ⟨t0, o0⟩, ⟨t1, o1⟩, ⟨t2, o2⟩, ⟨t3, o3⟩, ⟨t4, o4⟩, ⟨t5, o5⟩⟩ := tr_fields
  obtain ⟨xs, n', rfl, hx, hcl, hxl, hf⟩ := DataW.trod_struct hs h
  rw [cells_tr] at hcl
  match cs, hcl with
  | [c0, c1, c2, c3, c4, c5], _ =>
  match xs, hxl with
  | [y0, y1, y2, y3, y4, y5], _ =>
  have g0 := hf 0 f0 rfl
  have g1 := hf 1 f1 rfl
  have g2 := hf 2 f2 rfl
  have g3 := hf 3 f3 rfl
  have g4 := hf 4 f4 rfl
  have g5 := hf 5 f5 rfl
  rw [t0, o0, cells_int] at g0
  rw [t1, o1, cells_int] at g1
  rw [t2, o2, cells_int] at g2
  rw [t3, o3, cells_str] at g3
  rw [t4, o4, cells_str] at g4
  rw [t5, o5, cells_intsl] at g5
  simp only [List.drop_zero, List.drop_succ_cons, List.take_succ_cons, List.take_zero, List.getElem?_cons_zero, List.getElem?_cons_succ] at g0 g1 g2 g3 g4 g5
  obtain ⟨v0, e0, z0, w0⟩ := DataW.trod_int Tryz.underlying3 g0
  obtain ⟨v1, e1, z1, w1⟩ := DataW.trod_int Tryz.underlying3 g1
  obtain ⟨v2, e2, z2, w2⟩ := DataW.trod_int Tryz.underlying3 g2
  obtain ⟨v3, e3, z3, -⟩ := DataW.trod_string Tryz.underlying9 g3
  obtain ⟨v4, e4, z4, -⟩ := DataW.trod_string Tryz.underlying9 g4
  subst hx
  obtain ⟨a, l, cap, e5, r5, i5, l5, b5⟩ := intsl_of _ _ _ g5 (fun q hq => hw q (by
    simp only [DataW.weights, hs, List.map_cons, List.map_nil, DataW.weightsEach, List.mem_append]
    rw [t5]
    exact .inr (.inr (.inr (.inr (.inr (.inl hq)))))))
  simp only [List.cons.injEq, and_true] at e0 e1 e2 e3 e4 e5
  subst e0 e1 e2 e3 e4 e5 z0 z1 z2 z3 z4
  have h3 := hw v3.data.toList.length (by simp [DataW.weights, DataW.weightsEach, hs])
  have h4 := hw v4.data.toList.length (by simp [DataW.weights, DataW.weightsEach, hs])
  exact ⟨⟨v0, v1, v2, v3.data.toList, v4.data.toList, l, a, cap⟩, by simp [trC], ⟨⟨I64.of_wf w0, I64.of_wf w1, I64.of_wf w2⟩, h3, h4, i5, l5, b5⟩, r5⟩
set_option maxRecDepth 100000 in
theorem cnd_of {H : Type} {enc : TypeId × Value → H} {W : World} {spare : Nat → Bool} {held : Bool} (n : Nat) (cs : List Value) (y : DataW H × List MemPlace)
    (h : DataW.trod enc Tryz.prog W 0 spare held n 42 cs = some y) (hw : ∀ q ∈ y.1.weights Tryz.prog 42, q ≤ reachBytes) : ∃ a T cap, cs = [.slice a T.length cap] ∧ RdT W a T := by
  obtain ⟨f0, hs, ⟨t0, o0⟩⟩ := cnd_fields
  obtain ⟨xs, n', rfl, hx, hcl, hxl, hf⟩ := DataW.trod_struct hs h
  rw [cells_cnd] at hcl
  match cs, hcl with
  | [c0], _ =>
  match xs, hxl with
  | [y0], _ =>
  have g0 := hf 0 f0 rfl
  rw [t0, o0, cells_trs] at g0
  simp only [List.drop_zero, List.take_succ_cons, List.take_zero, List.getElem?_cons_zero] at g0
  subst hx
  obtain ⟨a, T, cap, e, r, i, -, -⟩ := trod_rowsW trC_len (by decide) Tryz.underlying40 cells_tr bytes_tr (fun t => t.In ∧ Rd W t.aa (ints t.args)) (fun n cs y h hq => tr_of n cs y h hq) g0 (fun q hq => hw q (by
    simp only [DataW.weights, hs, List.map_cons, List.map_nil, DataW.weightsEach, List.mem_append]
    rw [t0]
    exact .inl hq))
  exact ⟨a, T, cap, e, r, fun t ht => (i t ht).2, fun t ht => (i t ht).1⟩
/-- what can be read of a seat -/
def SeIn (W : World) (x : Seat) : Prop := x.mem.In ∧ Rd W x.mem.aa (rowsC anC x.mem.ans) ∧ RdT W x.ca x.T
set_option maxRecDepth 100000 in
theorem se_of {H : Type} {enc : TypeId × Value → H} {W : World} {spare : Nat → Bool} {held : Bool} (n : Nat) (cs : List Value) (y : DataW H × List MemPlace)
    (h : DataW.trod enc Tryz.prog W 0 spare held n 44 cs = some y) (hw : ∀ q ∈ y.1.weights Tryz.prog 44, q ≤ reachBytes) : ∃ x : Seat, cs = seC x ∧ SeIn W x := by
  obtain ⟨f0, f1, f2, hs, ⟨t0, o0⟩, ⟨t1, o1⟩, ⟨t2, o2⟩⟩ := se_fields
  obtain ⟨xs, n', rfl, hx, hcl, hxl, hf⟩ := DataW.trod_struct hs h
  rw [cells_se] at hcl
  match cs, hcl with
  | [c0, c1, c2, c3, c4, c5, c6], _ =>
  match xs, hxl with
  | [y0, y1, y2], _ =>
  have g0 := hf 0 f0 rfl
  have g1 := hf 1 f1 rfl
  have g2 := hf 2 f2 rfl
  rw [t0, o0, cells_mm] at g0
  rw [t1, o1, cells_cnd] at g1
  rw [t2, o2, cells_bool] at g2
  simp only [List.drop_zero, List.drop_succ_cons, List.take_succ_cons, List.take_zero, List.getElem?_cons_zero, List.getElem?_cons_succ] at g0 g1 g2
  subst hx
  obtain ⟨m, e0, i0, r0⟩ := mm_of _ _ _ g0 (fun q hq => hw q (by
    simp only [DataW.weights, hs, List.map_cons, List.map_nil, DataW.weightsEach, List.mem_append]
    rw [t0]
    exact .inl hq))
  obtain ⟨ta, T, tc, e1, r1⟩ := cnd_of _ _ _ g1 (fun q hq => hw q (by
    simp only [DataW.weights, hs, List.map_cons, List.map_nil, DataW.weightsEach, List.mem_append]
    rw [t1]
    exact .inr (.inl hq)))
  obtain ⟨b, e2, -⟩ := DataW.trod_bool Tryz.underlying4 g2
  simp only [mmC, List.cons.injEq, and_true] at e0 e1 e2
  obtain ⟨rfl, rfl, rfl, rfl, rfl⟩ := e0
  subst e1 e2
  exact ⟨⟨m, T, ta, tc, b⟩, rfl, i0, r0, r1⟩
set_option maxRecDepth 100000 in
theorem reads_seats {W : World} {v : Value} {N : Nat} (h : Reads Tryz.prog W 27 v N) :
    ∃ a l cap, v = .slice a l.length cap ∧ Rd W a (rowsC seC l) ∧ (∀ x ∈ l, SeIn W x) ∧ l.length ≤ 281474976710656 := by
  obtain ⟨⟨base, hv⟩, H, enc, d, ps, hd, hw, hN⟩ := h
  obtain ⟨a0, len, cap, rfl⟩ := okWide_slice Tryz.underlying27 hv
  obtain ⟨fuel, hf⟩ := hd
  obtain ⟨a, l, cap', e, r, i, -, b⟩ := trod_rowsW seC_len (by decide) Tryz.underlying27 cells_se bytes_se (SeIn W) (fun n cs y h hq => se_of n cs y h hq) hf hw
  simp only [Value.cells, List.cons.injEq, and_true] at e
  exact ⟨a, l, cap', e, r, i, b⟩
def ilC (x : IL) : List Value := [ilV x]
theorem ilC_len (x : IL) : (ilC x).length = 1 := rfl
theorem il_rows (R : List IL) : rowsC ilC R = R.map ilV := by
  induction R with
  | nil => rfl
  | cons x R ih => rw [rowsC_cons, ih]; rfl
set_option maxRecDepth 100000 in
theorem reads_lists {W : World} {v : Value} {N : Nat} (h : Reads Tryz.prog W 36 v N) :
    ∃ a R cap, v = .slice a (R : List IL).length cap ∧ RdL W a R ∧ R.length ≤ 281474976710656 ∧ ∀ x ∈ R, x.lst.length ≤ 281474976710656 := by
  obtain ⟨⟨base, hv⟩, H, enc, d, ps, hd, hw, hN⟩ := h
  obtain ⟨a0, len, cap, rfl⟩ := okWide_slice Tryz.underlying36 hv
  obtain ⟨fuel, hf⟩ := hd
  obtain ⟨a, R, cap', e, r, i, -, b⟩ := trod_rowsW ilC_len (by decide) Tryz.underlying36 cells_intsl bytes_intsl (fun x : IL => Rd W x.ad (ints x.lst) ∧ x.lst.length ≤ 281474976710656) (fun n cs y h hq => by
    obtain ⟨a, l, cap, e, r, -, -, b⟩ := intsl_of n cs y h hq
    exact ⟨⟨a, cap, l⟩, e, r, b⟩) hf hw
  simp only [Value.cells, List.cons.injEq, and_true] at e
  rw [il_rows] at r
  exact ⟨a, R, cap', e, ⟨r, fun x hx => (i x hx).1⟩, b, fun x hx => (i x hx).2⟩
end Go.Proofs.YtpofijdkckaphaaGreatDoor
/- The law GreatestRaw walked. -/
namespace Go.Proofs.YtpofijdkckaphaaGreatDoor
open Go.RowKit
theorem seat_cells {w : World} {a : Option Addr} {l : List Seat} (h : Rd w a (rowsC seC l)) {k : Nat} (hk : k < l.length) :
    ∃ g off x, a = some ⟨g, off, none⟩ ∧ Hid (l[k]? = some x) ∧ w.cell? ⟨g, off + k * 7 + 4, none⟩ = some (.slice x.mem.aa x.mem.ans.length x.mem.ac) ∧ w.cell? ⟨g, off + k * 7 + 5, none⟩ = some (.slice x.ca x.T.length x.cc) := by
  obtain ⟨g, off, x, ha, hx, hc⟩ := h.rows (f := seC) (k := 7) seC_len (by decide) hk
  exact ⟨g, off, x, ha, hx, hc 4 _ rfl, hc 5 _ rfl⟩
set_option maxRecDepth 100000 in
set_option maxHeartbeats 8000000 in
theorem raw28_walk (W : World) (hSpc : Spc W) (a : Option Addr) (l : List Seat) (c : Nat) (hr : Rd W a (rowsC seC l)) (hin : ∀ x ∈ l, SeIn W x) (hl : l.length ≤ 281474976710656) (sa : Option Addr) (A : List Int) (sc : Nat) (hA : Rd W sa (ints A)) (hAl : A.length ≤ 17592186043904) (ra : Option Addr) (R : List IL) (rc : Nat) (hR : RdL W ra R) (hRl : R.length ≤ 281474976710656) (hRx : ∀ x ∈ R, x.lst.length ≤ 281474976710656) :
    Calls Tryz.prog 5 #[.slice a l.length c, .slice sa A.length sc, .slice ra R.length rc] W fun e w' => e = .returned (.bool true) ∧ Below W.heap.size W w' := by
  have KA := Lib.hid awake28
  have AW : ∀ (P : Prop), P → P := fun _ h => h
  by_cases h8 : l.length > 8
  · have d1 : decide ((l.length : Int) > 8) = true := decide_eq_true (by omega)
    have d2 : 8 < l.length := h8
    clear hr hin hA hR hSpc hRx
    go_enter Tryz.func5, Tryz.ntmps5
    go_wp2_with (go_at_call 8; (with_reducible refine (KA.out _).mono ?_); (first | rintro e w9 rfl hb9 | rintro e w9 ⟨rfl, hb9⟩))
    go_ret
    exact ⟨rfl, hb9⟩
  have d8 : decide ((l.length : Int) > 8) = false := decide_eq_false (by omega)
  have d8' : ¬ (8 < l.length) := h8
  by_cases h40 : A.length > 40
  · have d1 : decide ((A.length : Int) > 40) = true := decide_eq_true (by omega)
    have d2 : 40 < A.length := h40
    clear hr hin hA hR hSpc hRx
    go_enter Tryz.func5, Tryz.ntmps5
    go_wp2_with (go_at_call 8; (with_reducible refine (KA.out _).mono ?_); (first | rintro e w9 rfl hb9 | rintro e w9 ⟨rfl, hb9⟩))
    go_ret
    exact ⟨rfl, hb9⟩
  have d40 : decide ((A.length : Int) > 40) = false := decide_eq_false (by omega)
  have d40' : ¬ (40 < A.length) := h40
  by_cases h10 : R.length > 10
  · have d1 : decide ((R.length : Int) > 10) = true := decide_eq_true (by omega)
    have d2 : 10 < R.length := h10
    clear hr hin hA hR hSpc hRx
    go_enter Tryz.func5, Tryz.ntmps5
    go_wp2_with (go_at_call 8; (with_reducible refine (KA.out _).mono ?_); (first | rintro e w9 rfl hb9 | rintro e w9 ⟨rfl, hb9⟩))
    go_ret
    exact ⟨rfl, hb9⟩
  have d10 : decide ((R.length : Int) > 10) = false := decide_eq_false (by omega)
  have d10' : ¬ (10 < R.length) := h10
  have HIN := Lib.hid hin
  have HR := Lib.hid hR
  have HRX := Lib.hid hRx
  have HA := Lib.hid hA
  have HSpc := Lib.hid hSpc
  have Hr := Lib.hid hr
  obtain ⟨W0, hW0⟩ : ∃ W0, W0 = W := ⟨_, rfl⟩
  have HW0 := Lib.hid hW0
  clear hr hin hA hR hSpc hRx AW h8 h40 h10 hW0
  go_enter Tryz.func5, Tryz.ntmps5
  go_upto_region 4 with fail
  go_loopw [7] (fun i wr => ∃ k : Nat, wr = W ∧ k ≤ l.length ∧ i = .int .i64 (k : Int) ∧ Hid (∀ x ∈ l.take k, x.T.length ≤ 30)) (fun i _ => l.length - (intOf i).toNat)
  case atStart => exact ⟨0, rfl, Nat.zero_le _, rfl, Lib.hid (by simp)⟩
  case round =>
    obtain ⟨k, rfl, hk, rfl, hT⟩ := hrel
    by_cases hkt : k < l.length
    · have hkl : (k : Int) < (l.length : Int) := by omega
      have hwk : IntKind.i64.wrap ((k : Int) + 1) = (k : Int) + 1 := by rw [IntKind.wrap_i64] <;> omega
      obtain ⟨g, off, x, rfl, hx, x4, x5⟩ := seat_cells Hr.out hkt
      have hxi := HIN.out x (mem_at hx)
      by_cases h30 : 30 < x.T.length
      · have d1 : decide ((x.T.length : Int) > 30) = true := decide_eq_true (by omega)
        clear hx hxi hT
        go_wp2_with (go_at_call 8; (with_reducible refine (KA.out _).mono ?_); (first | rintro e w9 rfl hb9 | rintro e w9 ⟨rfl, hb9⟩))
        go_ret
        exact ⟨rfl, hb9⟩
      have d30 : decide ((x.T.length : Int) > 30) = false := decide_eq_false (by omega)
      by_cases h40a : 40 < x.mem.ans.length
      · have d1 : decide ((x.mem.ans.length : Int) > 40) = true := decide_eq_true (by omega)
        clear hx hxi hT
        go_wp2_with (go_at_call 8; (with_reducible refine (KA.out _).mono ?_); (first | rintro e w9 rfl hb9 | rintro e w9 ⟨rfl, hb9⟩))
        go_ret
        exact ⟨rfl, hb9⟩
      have d40a : decide ((x.mem.ans.length : Int) > 40) = false := decide_eq_false (by omega)
      have HT2 : Hid (∀ y ∈ l.take (k + 1), y.T.length ≤ 30) := Lib.hid (fun y hy => by
        rw [take_at hx] at hy
        rcases List.mem_append.1 hy with hy | hy
        · exact hT.out y hy
        · rw [List.mem_singleton.1 hy]; omega)
      have HXT := Lib.hid hxi.2.2
      clear hx hxi hT
      go_upto_region 9 with fail
      rename World => wo
      go_loopw [8] (fun i wr => ∃ m : Nat, wr = wo ∧ m ≤ x.T.length ∧ i = .int .i64 (m : Int)) (fun i _ => x.T.length - (intOf i).toNat)
      case atStart => exact ⟨0, rfl, Nat.zero_le _, rfl⟩
      case round =>
        obtain ⟨m, rfl, hm, rfl⟩ := hrel
        by_cases hmt : m < x.T.length
        · have hml : (m : Int) < (x.T.length : Int) := by omega
          have hwm : IntKind.i64.wrap ((m : Int) + 1) = (m : Int) + 1 := by rw [IntKind.wrap_i64] <;> omega
          obtain ⟨gt, ot, t, hta, -, ⟨-, -, -, -, -, t5⟩, -, hti⟩ := HXT.out.trm hmt
          rw [hta] at x5
          by_cases h30t : 30 < t.args.length
          · have d1 : decide ((t.args.length : Int) > 30) = true := decide_eq_true (by omega)
            clear hti
            go_wp2_with (go_at_call 8; (with_reducible refine (KA.out _).mono ?_); (first | rintro e w9 rfl hb9 | rintro e w9 ⟨rfl, hb9⟩))
            go_ret
            exact ⟨rfl, hb9⟩
          · have d1 : decide ((t.args.length : Int) > 30) = false := decide_eq_false (by omega)
            clear hti
            go_wp2_with fail
            go_roundw
            case rel => exact ⟨m + 1, trivial, by omega, by go_num⟩
            case measure => simp [intOf]; omega
        · have hml : ¬ (m : Int) < (x.T.length : Int) := by omega
          obtain rfl : m = x.T.length := by omega
          go_wp2_with fail
          go_roundw
          case rel => exact ⟨k + 1, trivial, by omega, by go_num, HT2⟩
          case measure => simp [intOf]; omega
    · have hkl : ¬ (k : Int) < (l.length : Int) := by omega
      obtain rfl : k = l.length := by omega
      rw [List.take_length] at hT
      go_upto_region 14 with fail
      rename World => wo
      go_loopw [9] (fun i wr => ∃ m : Nat, wr = wo ∧ m ≤ R.length ∧ i = .int .i64 (m : Int) ∧ Hid (∀ x ∈ R.take m, x.lst.length ≤ 40)) (fun i _ => R.length - (intOf i).toNat)
      case atStart => exact ⟨0, rfl, Nat.zero_le _, rfl, Lib.hid (by simp)⟩
      case round =>
        obtain ⟨m, rfl, hm, rfl, hQ⟩ := hrel
        by_cases hmt : m < R.length
        · have hml : (m : Int) < (R.length : Int) := by omega
          have hwm : IntKind.i64.wrap ((m : Int) + 1) = (m : Int) + 1 := by rw [IntKind.wrap_i64] <;> omega
          obtain ⟨gr, orr, x, rfl, cx, hx, -⟩ := HR.out.at hmt
          have hxl := HRX.out x (mem_at hx)
          by_cases h40x : 40 < x.lst.length
          · have d1 : decide ((x.lst.length : Int) > 40) = true := decide_eq_true (by omega)
            clear hx hQ
            go_wp2_with (go_at_call 8; (with_reducible refine (KA.out _).mono ?_); (first | rintro e w9 rfl hb9 | rintro e w9 ⟨rfl, hb9⟩))
            go_ret
            exact ⟨rfl, hb9⟩
          · have d1 : decide ((x.lst.length : Int) > 40) = false := decide_eq_false (by omega)
            have HQ2 : Hid (∀ y ∈ R.take (m + 1), y.lst.length ≤ 40) := Lib.hid (fun y hy => by
              rw [take_at hx] at hy
              rcases List.mem_append.1 hy with hy | hy
              · exact hQ.out y hy
              · rw [List.mem_singleton.1 hy]; omega)
            clear hx hQ
            go_wp2_with fail
            go_roundw
            case rel => exact ⟨m + 1, trivial, by omega, by go_num, HQ2⟩
            case measure => simp [intOf]; omega
        · have hml : ¬ (m : Int) < (R.length : Int) := by omega
          obtain rfl : m = R.length := by omega
          rw [List.take_length] at hQ
          have hRS : RdS wr a l := ⟨Hr.out, fun x hx => (HIN.out x hx).2.2, fun x hx => (HIN.out x hx).2.1, fun x hx => (HIN.out x hx).1, fun x hx => by have := hT.out x hx; omega⟩
          have ewa : IntKind.i64.wrap ((A.length : Int) - 1) = (A.length : Int) - 1 := by rw [IntKind.wrap_i64] <;> omega
          have KG := Lib.hid (fun V (hV : Below wr.heap.size wr V) => agree28_walk l a c A sa sc R ra rc ((A.length : Int) - 1) V (hRS.keep hV) (HA.out.keep hV) (HR.out.keep hV) (by omega) (by omega) (by omega) (fun x hx => by have := hQ.out x hx; omega) (HSpc.out.keep hV))
          clear hRS hT hQ
          go_wp2_with (first
            | (go_at_call 8; (with_reducible refine (KA.out _).mono ?_); (first | rintro e w9 rfl hb9 | rintro e w9 ⟨rfl, hb9⟩))
            | (go_at_call 20; (with_reducible refine (KG.out _ hb9).mono ?_); (first | rintro e w10 rfl hb10 | rintro e w10 ⟨rfl, hb10⟩)))
          go_ret
          exact ⟨rfl, below_tr hb9 hb10⟩
end Go.Proofs.YtpofijdkckaphaaGreatDoor
