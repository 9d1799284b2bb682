/- law28: the reference's parts. -/
import Derived.Test.YtpofijdkckaphaaGreatDoorGGreRA
namespace Go.Proofs.YtpofijdkckaphaaGreatDoor
open Go.RowKit
theorem mk_ow {P : Program} (w : World) {t e : TypeId} {z : Value} {bytes : Nat} (hE : ElemOf P t e z 1 bytes) (hz : z.cells = #[z]) (n : Nat) (hn : bytes * n ≤ 140737488355328) :
    ∃ w', (Instr.makeSlice t (.int .i64 (n : Int)) (.int .i64 (n : Int))).run P w = .ok (.slice (some ⟨w.heap.size, 0, none⟩) n n) w' ∧ Ow w' w.heap.size 1 (some ⟨w.heap.size, 0, none⟩) n n (List.replicate n z) ∧ Below w.heap.size w w' := by
  obtain ⟨i, hi, hzz, hsize, hby⟩ := info_parts hE.i
  have hn1 : n ≤ bytes * n := Nat.le_mul_of_pos_left n hE.b
  obtain ⟨w', h1, h2, h3⟩ := run_make_full (P := P) w w.heap.size t e i z 1 hE.u hi hzz hsize .i64 .i64 n (by rw [hby]; omega) (by simp only [maxLen]; omega) (Nat.le_refl _)
  obtain ⟨a, cap, he, ho⟩ := Ow.of_row h2
  simp only [Value.slice.injEq, true_and] at he
  obtain ⟨rfl, rfl⟩ := he
  rw [Nat.mul_one, hz, toList_madeCells_one] at ho
  exact ⟨w', h1, ho, ⟨h3.os, h3.tape, h3.output, h3.size, fun k hk => h3.block k hk (by simp)⟩⟩
/-- how often each number is there -/
def cntL (n : Nat) (L : List Int) : List Int := (List.range n).map fun (i : Nat) => ((L.count (i : Int) : Nat) : Int)
theorem cntL_len (n : Nat) (L : List Int) : (cntL n L).length = n := by simp [cntL]
theorem cntL_nil (n : Nat) : ints (cntL n []) = List.replicate n (Value.int .i64 0) := by
  unfold cntL ints
  apply List.ext_getElem
  · simp
  · intro i h1 h2
    simp
theorem cntL_at {n : Nat} {L : List Int} {q : Nat} (hq : q < n) : (cntL n L)[q]? = some ((L.count (q : Int) : Nat) : Int) := by
  simp [cntL, hq]
theorem cntL_step {n : Nat} {L : List Int} {q : Nat} (hq : q < n) : ints (cntL n (L ++ [(q : Int)])) = (ints (cntL n L)).set q (.int .i64 ((L.count (q : Int) : Nat) + 1 : Int)) := by
  unfold ints
  rw [← List.map_set]
  congr 1
  apply List.ext_getElem?
  intro i
  by_cases hi : i < n
  · rw [cntL_at hi]
    by_cases he : i = q
    · subst he
      rw [List.getElem?_set_self (by rw [cntL_len]; exact hi), List.count_append]
      simp
    · rw [List.getElem?_set_ne (fun e => he e.symm), cntL_at hi, List.count_append]
      have : ([(q : Int)] : List Int).count (i : Int) = 0 := List.count_eq_zero.2 (by simp; omega)
      rw [this, Nat.add_zero]
  · rw [List.getElem?_eq_none (by rw [cntL_len]; omega), List.getElem?_eq_none (by rw [List.length_set, cntL_len]; omega)]
theorem parts_eq (n : Nat) (A : List Int) (R : List IL) : partsP n A (R.map IL.lst) = (riseP n A && ((R.map IL.lst).all (rdP n) && (upI n).all fun i => decide ((A ++ (R.map IL.lst).flatten).count i = 1))) := rfl
/-- the counts, in a slice of the call's own -/
structure Cn1 (w0 w : World) (n g : Nat) (L : List Int) : Prop where
  o : Ow w w0.heap.size 1 (some ⟨g, 0, none⟩) n n (ints (cntL n L))
  b : Below w0.heap.size w0 w
theorem Cn1.keep {w0 w w' : World} {n g : Nat} {L : List Int} (h : Cn1 w0 w n g L) (hb : Below w.heap.size w w') : Cn1 w0 w' n g L := ⟨h.o.keep hb, below_tr h.b hb⟩
theorem Cn1.cell {w0 w : World} {n g : Nat} {L : List Int} (h : Cn1 w0 w n g L) {q : Nat} (hq : q < n) : w.cell? ⟨g, q, none⟩ = some (.int .i64 ((L.count (q : Int) : Nat) : Int)) ∧ w.frozen? ⟨g, q, none⟩ = false := by
  obtain ⟨h1, h2⟩ := h.o.both
  have hx : (ints (cntL n L))[q]? = some (.int .i64 ((L.count (q : Int) : Nat) : Int)) := by
    rw [ints, List.getElem?_map, cntL_at hq]; rfl
  have a1 := h1 q _ hx
  have a2 := (h2 q (by omega)).2
  rw [Nat.zero_add] at a1 a2
  exact ⟨a1, a2⟩
theorem Cn1.add {w0 w : World} {n g : Nat} {L : List Int} (h : Cn1 w0 w n g L) {q : Nat} (hq : q < n) : Cn1 w0 (w.setCell ⟨g, q, none⟩ (.int .i64 ((L.count (q : Int) : Nat) + 1 : Int))) n g (L ++ [(q : Int)]) := by
  obtain ⟨h1, _⟩ := h.o.stored q (.int .i64 ((L.count (q : Int) : Nat) + 1 : Int))
  rw [Nat.zero_add] at h1
  refine ⟨by rw [cntL_step hq]; exact h1, h.b.setCell (p := ⟨g, q, none⟩) (h.o.row g rfl).1 _⟩
set_option maxRecDepth 100000 in
set_option maxHeartbeats 8000000 in
theorem rparts_walk (n : Nat) (A : List Int) (sa : Option Addr) (sc : Nat) (R : List IL) (ra : Option Addr) (rc : Nat) (w : World) (hA : Rd w sa (ints A)) (hR : RdL w ra R) (hl : n ≤ 32) (hAl : A.length ≤ 1000) (hRl : R.length ≤ 100) (hRx : ∀ x ∈ R, x.lst.length ≤ 1000) :
    Calls Tryz.prog 67 #[.int .i64 (n : Int), .slice sa A.length sc, .slice ra R.length rc] w fun e w' => e = .returned (.bool (partsP n A (R.map IL.lst))) ∧ Below w.heap.size w w' := by
  have KR := Lib.hid (rasc_walk n sa A sc w hA (by omega))
  rw [parts_eq]
  cases hr : riseP n A with
  | false =>
    rw [hr] at KR
    clear hR hA
    go_enter Tryz.func67, Tryz.ntmps67
    go_wp2_with (go_at_call 66; (with_reducible refine KR.out.mono ?_); (first | rintro e w1 ⟨rfl, hb1⟩ | rintro e w1 rfl hb1))
    go_ret
    exact ⟨rfl, hb1⟩
  | true =>
    rw [hr] at KR
    have KRI := Lib.hid (fun (B : List Int) (b : Option Addr) (bc : Nat) (V : World) (hB : Rd V b (ints B)) (hBl : B.length ≤ 1000) => rasc_walk n b B bc V hB (by omega))
    have HA := Lib.hid hA
    have HR := Lib.hid hR
    have HRX := Lib.hid hRx
    have HIN := Lib.hid (rise_mem hr)
    have hAn : A.length ≤ 32 := Nat.le_trans (rise_len hr) hl
    have hpost : Hid (∀ b, ((R.map IL.lst).all (rdP n) && (upI n).all fun i => decide ((A ++ (R.map IL.lst).flatten).count i = 1)) = b → (true && ((R.map IL.lst).all (rdP n) && (upI n).all fun i => decide ((A ++ (R.map IL.lst).flatten).count i = 1))) = b) := Lib.hid (fun b h => by rw [Bool.true_and]; exact h)
    generalize (true && ((R.map IL.lst).all (rdP n) && (upI n).all fun i => decide ((A ++ (R.map IL.lst).flatten).count i = 1))) = RES at *
    clear hA hr hR hRx
    go_enter Tryz.func67, Tryz.ntmps67
    go_upto_region 3 with (go_at_call 66; (with_reducible refine KR.out.mono ?_); (first | rintro e w1 ⟨rfl, hb1⟩ | rintro e w1 rfl hb1))
    obtain ⟨wm, hmk, hown0, hbel0⟩ := mk_ow (P := Tryz.prog) w1 el_int rfl n (by omega)
    go_upto_region 5 with fail
    have hC0 : Cn1 w wm n w1.heap.size [] := ⟨(by rw [cntL_nil]; exact hown0.lower hb1.size), below_tr hb1 hbel0⟩
    have HG := Lib.hid (show w.heap.size ≤ w1.heap.size from hb1.size)
    clear hmk hown0 hbel0 hb1 KR
    generalize w1.heap.size = g at *
    go_loopw [8] (fun i wr => ∃ k : Nat, k ≤ A.length ∧ i = .int .i64 (k : Int) ∧ Cn1 w wr n g (A.take k)) (fun i _ => A.length - (intOf i).toNat)
    case atStart => exact ⟨0, Nat.zero_le _, rfl, hC0⟩
    case round =>
      clear hC0
      obtain ⟨k, hk, rfl, hC⟩ := hrel
      by_cases hkt : k < A.length
      · have hkl : (k : Int) < (A.length : Int) := by omega
        have hwk : IntKind.i64.wrap ((k : Int) + 1) = (k : Int) + 1 := by rw [IntKind.wrap_i64] <;> omega
        obtain ⟨ga, oa, x, rfl, ca, hx⟩ := (HA.out.keep hC.b).int (k := k) hkt
        have hu := mem_upI.1 (HIN.out x (mem_at hx))
        obtain ⟨q, rfl⟩ : ∃ q : Nat, x = (q : Int) := ⟨x.toNat, by omega⟩
        have hqn : q < n := by omega
        have hqi : (q : Int) < (n : Int) := by omega
        obtain ⟨cq, fq⟩ := hC.cell hqn
        have hcl : (A.take k).count (q : Int) ≤ 32 := Nat.le_trans List.count_le_length (by rw [List.length_take]; omega)
        have hC2 := hC.add hqn
        rw [← take_at hx] at hC2
        have HC2 := Lib.hid hC2
        clear hC hC2 hx hu
        generalize (A.take k).count (q : Int) = cc at *
        have hwc : IntKind.i64.wrap ((cc : Int) + 1) = (cc : Int) + 1 := by rw [IntKind.wrap_i64] <;> omega
        go_wp2
        go_roundw
        case rel => exact ⟨k + 1, by omega, by go_num, HC2.out⟩
        case measure => simp [intOf]; omega
      · have hkl : ¬ (k : Int) < (A.length : Int) := by omega
        obtain rfl : k = A.length := by omega
        rw [List.take_length] at hC
        go_upto_region 9 with fail
        go_loopw [9] (fun i wr => ∃ k : Nat, k ≤ R.length ∧ i = .int .i64 (k : Int) ∧ Hid (((R.take k).map IL.lst).all (rdP n) = true) ∧ Cn1 w wr n g (A ++ ((R.take k).map IL.lst).flatten)) (fun i _ => R.length - (intOf i).toNat)
        case atStart => exact ⟨0, Nat.zero_le _, rfl, Lib.hid rfl, by simpa using hC⟩
        case round =>
          clear hC
          obtain ⟨k, hk, rfl, hall, hC⟩ := hrel
          by_cases hkt : k < R.length
          · have hkl : (k : Int) < (R.length : Int) := by omega
            have hwk : IntKind.i64.wrap ((k : Int) + 1) = (k : Int) + 1 := by rw [IntKind.wrap_i64] <;> omega
            obtain ⟨gr, orr, x, rfl, cx, hx, hxr⟩ := (HR.out.keep hC.b).at hkt
            have hxl := HRX.out x (mem_at hx)
            have KX := Lib.hid (KRI.out x.lst x.ad x.cap wr hxr hxl)
            by_cases hx0 : x.lst = []
            · have d1 : ((x.lst.length : Int) == 0) = true := by rw [hx0]; rfl
              have HF := Lib.hid (hpost.out false (by rw [all_take_no hx.out (show rdP n x.lst = false by rw [hx0]; rfl)]; rfl))
              have HB := Lib.hid hC.b
              clear hx hx0 hxr hC hall
              go_wp2
              go_ret
              exact ⟨by rw [HF.out]; rfl, HB.out⟩
            have hpos : 0 < x.lst.length := List.length_pos_iff.2 hx0
            have d1 : ((x.lst.length : Int) == 0) = false := by rw [beq_eq_false_iff_ne]; omega
            cases hrx : riseP n x.lst with
            | false =>
              rw [hrx] at KX
              have HF := Lib.hid (hpost.out false (by rw [all_take_no hx.out (show rdP n x.lst = false by unfold rdP; rw [hrx, Bool.and_false])]; rfl))
              have HB := Lib.hid hC.b
              clear hx hx0 hxr hC hall hrx
              go_wp2_with (go_at_call 66; (with_reducible refine KX.out.mono ?_); (first | rintro e w5 ⟨rfl, hb5⟩ | rintro e w5 rfl hb5))
              go_ret
              exact ⟨by rw [HF.out]; rfl, below_tr HB.out hb5⟩
            | true =>
              rw [hrx] at KX
              have hxn : x.lst.length ≤ 32 := Nat.le_trans (rise_len hrx) hl
              have HXI := Lib.hid (rise_mem hrx)
              have HA2 := Lib.hid (all_take_step hx.out hall.out (show rdP n x.lst = true by
                unfold rdP
                rw [hrx, Bool.and_true, List.isEmpty_eq_false_iff.2 hx0]; rfl))
              have HF2 : Hid (A ++ ((R.take (k + 1)).map IL.lst).flatten = (A ++ ((R.take k).map IL.lst).flatten) ++ x.lst) := Lib.hid (by rw [flat_take hx.out, List.append_assoc])
              have hLb : (A ++ ((R.take k).map IL.lst).flatten).length ≤ 32 + 1000 * 100 := by
                have : ∀ (Q : List IL), (∀ y ∈ Q, y.lst.length ≤ 1000) → ((Q.map IL.lst).flatten).length ≤ 1000 * Q.length := by
                  intro Q
                  induction Q with
                  | nil => intro _; simp
                  | cons y Q ih =>
                    intro h
                    have := ih (fun z hz => h z (List.mem_cons_of_mem _ hz))
                    have := h y List.mem_cons_self
                    simp only [List.map_cons, List.flatten_cons, List.length_append, List.length_cons]
                    omega
                have := this (R.take k) (fun y hy => HRX.out y (List.mem_of_mem_take hy))
                rw [List.length_append]
                rw [List.length_take] at this
                omega
              have HX := Lib.hid hx.out
              have HC := Lib.hid hC
              clear hx hx0 hxr hall hrx hC
              generalize A ++ ((R.take k).map IL.lst).flatten = L0 at *
              rename World => wo
              go_upto_region 14 with (go_at_call 66; (with_reducible refine KX.out.mono ?_); (first | rintro e w5 ⟨rfl, hb5⟩ | rintro e w5 rfl hb5))
              have hC5 := HC.out.keep hb5
              clear hb5 HC KX cx
              go_loopw [10] (fun i wr => ∃ m : Nat, m ≤ x.lst.length ∧ i = .int .i64 (m : Int) ∧ Cn1 w wr n g (L0 ++ x.lst.take m)) (fun i _ => x.lst.length - (intOf i).toNat)
              case atStart => exact ⟨0, Nat.zero_le _, rfl, by simpa using hC5⟩
              case round =>
                clear hC5
                obtain ⟨m, hm, rfl, hC⟩ := hrel
                obtain ⟨gr2, orr2, x2, hga2, cx, hx2, hxr⟩ := (HR.out.keep hC.b).at hkt
                obtain rfl : x = x2 := Option.some.inj (HX.out.symm.trans hx2.out)
                cases hga2
                by_cases hmt : m < x.lst.length
                · have hml : (m : Int) < (x.lst.length : Int) := by omega
                  have hwm : IntKind.i64.wrap ((m : Int) + 1) = (m : Int) + 1 := by rw [IntKind.wrap_i64] <;> omega
                  obtain ⟨ga, oa, y, hgx, ca, hy⟩ := hxr.int (k := m) hmt
                  have hu := mem_upI.1 (HXI.out y (mem_at hy))
                  obtain ⟨q, rfl⟩ : ∃ q : Nat, y = (q : Int) := ⟨y.toNat, by omega⟩
                  have hqn : q < n := by omega
                  have hqi : (q : Int) < (n : Int) := by omega
                  obtain ⟨cq, fq⟩ := hC.cell hqn
                  have hcl : (L0 ++ x.lst.take m).count (q : Int) ≤ 200000 := Nat.le_trans List.count_le_length (by rw [List.length_append, List.length_take]; omega)
                  have hC2 := hC.add hqn
                  rw [List.append_assoc, ← take_at hy] at hC2
                  have HC2 := Lib.hid hC2
                  clear hC hC2 hy hu hx2 hxr
                  generalize (L0 ++ x.lst.take m).count (q : Int) = cc at *
                  have hwc : IntKind.i64.wrap ((cc : Int) + 1) = (cc : Int) + 1 := by rw [IntKind.wrap_i64] <;> omega
                  rw [hgx] at cx
                  go_wp2
                  go_roundw
                  case rel => exact ⟨m + 1, by omega, by go_num, HC2.out⟩
                  case measure => simp [intOf]; omega
                · have hml : ¬ (m : Int) < (x.lst.length : Int) := by omega
                  obtain rfl : m = x.lst.length := by omega
                  rw [List.take_length, ← HF2.out] at hC
                  have HC2 := Lib.hid hC
                  clear hC hx2 hxr
                  go_wp2
                  go_roundw
                  case rel => exact ⟨k + 1, by omega, by go_num, HA2, HC2.out⟩
                  case measure => simp [intOf]; omega
          · have hkl : ¬ (k : Int) < (R.length : Int) := by omega
            obtain rfl : k = R.length := by omega
            rw [List.take_length] at hC hall
            have HALL := Lib.hid hall.out
            clear hall
            go_upto_region 18 with fail
            generalize hLL : A ++ (R.map IL.lst).flatten = LL at *
            have HC := Lib.hid hC
            clear hC
            rename World => wq
            go_loopw [11] (fun i wr => ∃ k : Nat, wr = wq ∧ k ≤ n ∧ i = .int .i64 (k : Int) ∧ Hid (((upI k).all fun i => decide (LL.count i = 1)) = true)) (fun i _ => n - (intOf i).toNat)
            case atStart => exact ⟨0, rfl, Nat.zero_le _, rfl, Lib.hid rfl⟩
            case round =>
              obtain ⟨k, rfl, hk, rfl, hok⟩ := hrel
              by_cases hkt : k < n
              · have hkl : (k : Int) < (n : Int) := by omega
                have hwk : IntKind.i64.wrap ((k : Int) + 1) = (k : Int) + 1 := by rw [IntKind.wrap_i64] <;> omega
                obtain ⟨cq, fq⟩ := HC.out.cell hkt
                by_cases hone : LL.count (k : Int) = 1
                · have d1 : (((LL.count (k : Int) : Nat) : Int) != 1) = false := by rw [bne_eq_false_iff_eq]; omega
                  have HT := Lib.hid (all_up_step hok.out (show decide (LL.count (k : Int) = 1) = true from decide_eq_true hone))
                  clear hok hone
                  generalize LL.count (k : Int) = cc at *
                  go_wp2
                  go_roundw
                  case rel => exact ⟨k + 1, trivial, by omega, by go_num, HT⟩
                  case measure => simp [intOf]; omega
                · have d1 : (((LL.count (k : Int) : Nat) : Int) != 1) = true := by rw [bne_iff_ne]; omega
                  have HF := Lib.hid (hpost.out false (by rw [all_up_no hkt (show decide (LL.count (k : Int) = 1) = false from decide_eq_false hone), Bool.and_false]))
                  clear hok hone
                  generalize LL.count (k : Int) = cc at *
                  go_wp2
                  go_ret
                  exact ⟨by rw [HF.out]; rfl, HC.out.b⟩
              · have hkl : ¬ (k : Int) < (n : Int) := by omega
                obtain rfl : k = n := by omega
                have HF := Lib.hid (hpost.out true (by rw [HALL.out, hok.out]; rfl))
                clear hok
                go_wp2
                go_ret
                exact ⟨by rw [HF.out]; rfl, HC.out.b⟩
end Go.Proofs.YtpofijdkckaphaaGreatDoor
