/- law28: the reference's Rounds, Set, Round. -/
import Derived.Test.YtpofijdkckaphaaGreatDoorGGreRA
import Derived.Test.YtpofijdkckaphaaGreatDoorGCndP
namespace Go.Proofs.YtpofijdkckaphaaGreatDoor
open Go.RowKit
theorem run_end (op : Int → Bool) (H : List Int → Int → Bool) : ∀ (f : Nat) (A : List Int) (r : List (List Int)), ∃ e, (runP op H f A r).2 = r ++ e ∧ (runP op H f A r).1 = endP A e := by
  intro f
  induction f with
  | zero => intro A r; exact ⟨[], by simp [runP], rfl⟩
  | succ f ih =>
    intro A r
    rw [runP]
    split
    · exact ⟨[], by simp, rfl⟩
    · obtain ⟨e, h1, h2⟩ := ih (lessP A (goesP op H A)) (r ++ [goesP op H A])
      exact ⟨goesP op H A :: e, by rw [h1, List.append_assoc]; rfl, h2⟩
theorem set_end (op : Int → Bool) (H : List Int → Int → Bool) (n : Nat) : endP (upI n) (roundsP op H n) = setP op H n := by
  obtain ⟨e, h1, h2⟩ := run_end op H (n + 1) (upI n) []
  unfold roundsP setP
  rw [h2, h1]; rfl
theorem stay_take {op : Int → Bool} {H : List Int → Int → Bool} {A : List Int} {j : Nat} {x : Int} (hx : Hid (A[j]? = some x)) : ((A.take (j + 1)).filter fun i => op i || H A i) = ((A.take j).filter fun i => op i || H A i) ++ (if (op x || H A x) = true then [x] else []) ∧ ((A.take (j + 1)).filter fun i => !(op i || H A i)) = ((A.take j).filter fun i => !(op i || H A i)) ++ (if (op x || H A x) = true then [] else [x]) := by
  have h1 : ([x].filter fun i => op i || H A i) = if (op x || H A x) = true then [x] else [] := by
    rw [List.filter_cons]
    cases (op x || H A x) <;> rfl
  have h2 : ([x].filter fun i => !(op i || H A i)) = if (op x || H A x) = true then [] else [x] := by
    rw [List.filter_cons]
    cases (op x || H A x) <;> rfl
  rw [take_at hx, List.filter_append, List.filter_append, h1, h2]
  exact ⟨rfl, rfl⟩
/-- those that stay and those that leave, so far -/
structure Sl (w0 w : World) (A1 A2 : List Int) (n1 n2 : Nat) (b1 : Option Addr) (d1 : Nat) (b2 : Option Addr) (d2 : Nat) : Prop where
  s : Ow w w0.heap.size 1 b1 n1 d1 (ints A1)
  t : Ow w w0.heap.size 1 b2 n2 d2 (ints A2)
  ns : A1.length = n1
  nt : A2.length = n2
  ap : Apart2 b1 b2
  b : Below w0.heap.size w0 w
theorem Sl.keep {w0 w w' : World} {A1 A2 : List Int} {n1 n2 : Nat} {b1 : Option Addr} {d1 : Nat} {b2 : Option Addr} {d2 : Nat} (h : Sl w0 w A1 A2 n1 n2 b1 d1 b2 d2) (hb : Below w.heap.size w w') : Sl w0 w' A1 A2 n1 n2 b1 d1 b2 d2 :=
  ⟨h.s.keep hb, h.t.keep hb, h.ns, h.nt, h.ap, below_tr h.b hb⟩
theorem Sl.addS {w0 w w' : World} {A1 A2 : List Int} {n1 n2 : Nat} {b1 : Option Addr} {d1 : Nat} {b2 : Option Addr} {d2 : Nat} (h : Sl w0 w A1 A2 n1 n2 b1 d1 b2 d2) {b3 : Option Addr} {d3 : Nat} {x : Int} (hO : Ow w' w0.heap.size 1 b3 (n1 + 1) d3 (ints A1 ++ [.int .i64 x])) (hb : Below w0.heap.size w0 w') (hg : w.grownBy w' (rowOf b1)) (hat : rowOf b3 = rowOf b1 ∨ rowOf b3 = some (w.heap.size + 1)) : Sl w0 w' (A1 ++ [x]) A2 (n1 + 1) n2 b3 d3 b2 d2 :=
  ⟨by rw [← ints_snoc]; exact hO, h.t.kept hg h.ap.keep, by rw [List.length_append, h.ns]; rfl, h.nt, h.ap.next (fun g hg => (h.t.row g hg).2) hat, hb⟩
theorem Sl.addT {w0 w w' : World} {A1 A2 : List Int} {n1 n2 : Nat} {b1 : Option Addr} {d1 : Nat} {b2 : Option Addr} {d2 : Nat} (h : Sl w0 w A1 A2 n1 n2 b1 d1 b2 d2) {b3 : Option Addr} {d3 : Nat} {x : Int} (hO : Ow w' w0.heap.size 1 b3 (n2 + 1) d3 (ints A2 ++ [.int .i64 x])) (hb : Below w0.heap.size w0 w') (hg : w.grownBy w' (rowOf b2)) (hat : rowOf b3 = rowOf b2 ∨ rowOf b3 = some (w.heap.size + 1)) : Sl w0 w' A1 (A2 ++ [x]) n1 (n2 + 1) b1 d1 b3 d3 :=
  ⟨h.s.kept hg h.ap.symm.keep, by rw [← ints_snoc]; exact hO, h.ns, by rw [List.length_append, h.nt]; rfl, (h.ap.symm.next (fun g hg => (h.s.row g hg).2) hat).symm, hb⟩
set_option maxRecDepth 100000 in
set_option maxHeartbeats 8000000 in
theorem rrounds_walk2 (l : List Seat) (a : Option Addr) (c : Nat) (w : World) (hS : RdS w a l) (hl : l.length ≤ 32) (hSpc : Spc w) :
    Calls Tryz.prog 22 #[.slice a l.length c] w fun e w' => ∃ a2 c2 R, e = .returned (.tuple #[.slice a2 R.length c2, .int .i64 0]) ∧ RdL w' a2 R ∧ R.map IL.lst = roundsP (opS l) (holdS wiF l) l.length ∧ Below w.heap.size w w' ∧ (∀ j, rowOf a2 = some j → w.heap.size ≤ j) ∧ (∀ x ∈ R, x.lst.length ≤ x.cap ∧ ∀ j, rowOf x.ad = some j → w.heap.size ≤ j) := by
  have hl2 : decide ((l.length : Int) > 32) = false := decide_eq_false (by omega)
  have hl3 : ¬ (32 < l.length) := by omega
  have KA := Lib.hid (fun V => (show Calls Tryz.prog 47 #[.int .i64 (l.length : Int)] V fun e w' => ∃ a1 c1, e = .returned (.slice a1 (upI l.length).length c1) ∧ Ow w' V.heap.size 1 a1 l.length c1 (ints (upI l.length)) ∧ Below V.heap.size V w' by
    have := rall_walk l.length V (by omega)
    rw [upI_len]
    exact this))
  have hl0 : Rl l (upI l.length) 0 (l.length + 1) [] := ⟨by rw [upI_len]; omega, rfl, fun _ h => h, by rw [upI_len]; exact Nat.le_refl _, by rw [upI_len]; exact Nat.le_refl _⟩
  have hp0 := upI_pair l.length
  generalize upI l.length = A0 at KA hl0 hp0
  have HS := Lib.hid hS
  have HSpc := Lib.hid hSpc
  have HLL := Lib.hid hl
  clear hS hSpc hl
  go_enter Tryz.func22, Tryz.ntmps22
  go_upto_region 5 with (go_at_call 47; (with_reducible refine (KA.out _).mono ?_); (first | rintro e w1 ⟨a1, c1, rfl, hO1, hb1⟩ | rintro e w1 a1 c1 rfl hO1 hb1))
  have hm0 : Rm w w1 a1 A0 none 0 0 [] := ⟨hO1.rd, fun j hj => ⟨(hO1.row j hj).2, by simp [rowOf]⟩, Ow.nil _ _ _, fun x hx => by simp at hx, fun x hx => by simp at hx, hb1, rfl⟩
  clear hO1 hb1 KA
  go_loopw [4, 5] (fun lv rv wr => ∃ (A : List Int) (a1 : Option Addr) (c1 : Nat) (R : List IL) (n : Nat) (a2 : Option Addr) (c2 q : Nat), lv = .slice a1 A.length c1 ∧ rv = .slice a2 n c2 ∧ Hid (A.Pairwise (· < ·)) ∧ Hid (Rl l A n q R) ∧ Hid (∀ x ∈ R, x.lst.length ≤ x.cap ∧ ∀ j, rowOf x.ad = some j → w.heap.size ≤ j) ∧ Rm w wr a1 A a2 c2 n R) (fun lv _ _ => lenS lv)
  case atStart => exact ⟨A0, a1, c1, [], 0, none, 0, _, rfl, rfl, Lib.hid hp0, Lib.hid hl0, Lib.hid (fun x hx => by simp at hx), hm0⟩
  case round =>
    clear hl0 hm0 hp0
    obtain ⟨A, a1, c1, R, n, a2, c2, q, rfl, rfl, hP, hRl, hLow, hm⟩ := hrel
    have hAl : A.length ≤ 32 := by have := hRl.out.al; have := HLL.out; omega
    have hn32 : n ≤ 32 := by have := hRl.out.m; have := HLL.out; omega
    have HM := Lib.hid hm
    clear hm
    rename World => wo
    go_upto_region 7 with fail
    go_loopw [6, 7, 8] (fun sv tv iv wr => ∃ (j n1 n2 : Nat) (b1 : Option Addr) (d1 : Nat) (b2 : Option Addr) (d2 : Nat) (A1 A2 : List Int), j ≤ A.length ∧ iv = .int .i64 (j : Int) ∧ sv = .slice b1 n1 d1 ∧ tv = .slice b2 n2 d2 ∧ n1 ≤ j ∧ n2 ≤ j ∧ Hid (A1 = (A.take j).filter fun i => opS l i || holdS wiF l A i) ∧ Hid (A2 = (A.take j).filter fun i => !(opS l i || holdS wiF l A i)) ∧ Sl wo wr A1 A2 n1 n2 b1 d1 b2 d2) (fun _ _ iv _ => A.length - (intOf iv).toNat)
    case atStart => exact ⟨0, 0, 0, none, 0, none, 0, [], [], Nat.zero_le _, rfl, rfl, rfl, Nat.le_refl _, Nat.le_refl _, Lib.hid (by simp), Lib.hid (by simp), ⟨Ow.nil _ _ _, Ow.nil _ _ _, rfl, rfl, fun g h => by simp [rowOf] at h, Below.refl _ _⟩⟩
    case round =>
      obtain ⟨j, n1, n2, b1, d1, b2, d2, A1, A2, hj, rfl, rfl, rfl, h1j, h2j, hA1, hA2, hs⟩ := hrel
      by_cases hjt : j < A.length
      · have hjl : (j : Int) < (A.length : Int) := by omega
        have hwj : IntKind.i64.wrap ((j : Int) + 1) = (j : Int) + 1 := by rw [IntKind.wrap_i64] <;> omega
        obtain ⟨ga, oa, i, hga, ca, hi⟩ := (HM.out.a.keep hs.b).int (k := j) hjt
        have hiu := mem_upI.1 (hRl.out.i i (mem_at hi))
        obtain ⟨z, rfl⟩ : ∃ z : Nat, i = (z : Int) := ⟨i.toNat, by omega⟩
        have hzl : z < l.length := by omega
        have hzi : (z : Int) < (l.length : Int) := by omega
        have hbw := below_tr HM.out.b hs.b
        obtain ⟨gl, ol, x, hgl, hx, -, -, -, -, -, -, d6⟩ := (HS.out.keep hbw).seat hzl
        have hop := opS_at hx.out
        have KH := Lib.hid (rholds_walk l a c A a1 c1 z wr (HS.out.keep hbw) (HM.out.a.keep hs.b) hRl.out.i hP.out hzl (by omega) (HSpc.out.keep hbw))
        obtain ⟨ht1, ht2⟩ := stay_take (op := opS l) (H := holdS wiF l) hi
        rw [hop, ← hA1.out] at ht1
        rw [hop, ← hA2.out] at ht2
        have HT1 := Lib.hid ht1
        have HT2 := Lib.hid ht2
        clear hi hx hop ht1 ht2 hiu hA1 hA2 hbw
        generalize holdS wiF l A (z : Int) = hh at *
        generalize x.opn = oo at *
        subst hga hgl
        cases oo
        · cases hh
          · have HB1 : Hid (A1 = (A.take (j + 1)).filter fun i => opS l i || holdS wiF l A i) := Lib.hid (by rw [HT1.out]; simp)
            have HB2 : Hid (A2 ++ [(z : Int)] = (A.take (j + 1)).filter fun i => !(opS l i || holdS wiF l A i)) := Lib.hid (by rw [HT2.out]; simp)
            clear HT1 HT2
            go_upto_if 37 with (go_at_call 49; (with_reducible refine KH.out.mono ?_); (first | rintro e w9 ⟨rfl, hb9⟩ | rintro e w9 rfl hb9))
            have hs9 := hs.keep hb9
            have ca9 := cell_alloc hb9 ca
            clear hs hb9 ca d6
            have hz9 := hs9.b.size
            go_wp2_with (at_builtin; refine wpList_app1_at (w0 := wo) (B := wo.heap.size) (base := wo.heap.size) rfl _ _ _ rfl el_int rfl hs9.t hs9.b (Nat.le_refl _) hz9 rfl (by rfl) (one1 rfl) (by omega) ?_; intro b3 d3 wA hO8 hb8 hg8 hat8; have hs8 := hs9.addT hO8 hb8 hg8 hat8; clear hO8 hb8 hg8 hat8)
            clear hs9
            have HS8 := Lib.hid hs8
            clear hs8
            go_roundw
            case rel => exact ⟨j + 1, n1, n2 + 1, b1, d1, b3, d3, A1, A2 ++ [(z : Int)], by omega, by go_num, rfl, rfl, by omega, by omega, HB1, HB2, HS8.out⟩
            case measure => simp [intOf]; omega
          · have HB1 : Hid (A1 ++ [(z : Int)] = (A.take (j + 1)).filter fun i => opS l i || holdS wiF l A i) := Lib.hid (by rw [HT1.out]; simp)
            have HB2 : Hid (A2 = (A.take (j + 1)).filter fun i => !(opS l i || holdS wiF l A i)) := Lib.hid (by rw [HT2.out]; simp)
            clear HT1 HT2
            go_upto_if 37 with (go_at_call 49; (with_reducible refine KH.out.mono ?_); (first | rintro e w9 ⟨rfl, hb9⟩ | rintro e w9 rfl hb9))
            have hs9 := hs.keep hb9
            have ca9 := cell_alloc hb9 ca
            clear hs hb9 ca d6
            have hz9 := hs9.b.size
            go_wp2_with (at_builtin; refine wpList_app1_at (w0 := wo) (B := wo.heap.size) (base := wo.heap.size) rfl _ _ _ rfl el_int rfl hs9.s hs9.b (Nat.le_refl _) hz9 rfl (by rfl) (one1 rfl) (by omega) ?_; intro b3 d3 wA hO8 hb8 hg8 hat8; have hs8 := hs9.addS hO8 hb8 hg8 hat8; clear hO8 hb8 hg8 hat8)
            clear hs9
            have HS8 := Lib.hid hs8
            clear hs8
            go_roundw
            case rel => exact ⟨j + 1, n1 + 1, n2, b3, d3, b2, d2, A1 ++ [(z : Int)], A2, by omega, by go_num, rfl, rfl, by omega, by omega, HB1, HB2, HS8.out⟩
            case measure => simp [intOf]; omega
        · have HB1 : Hid (A1 ++ [(z : Int)] = (A.take (j + 1)).filter fun i => opS l i || holdS wiF l A i) := Lib.hid (by rw [HT1.out]; simp)
          have HB2 : Hid (A2 = (A.take (j + 1)).filter fun i => !(opS l i || holdS wiF l A i)) := Lib.hid (by rw [HT2.out]; simp)
          clear HT1 HT2
          have hs9 := hs
          clear hs
          have hz9 := hs9.b.size
          go_wp2_with (at_builtin; refine wpList_app1_at (w0 := wo) (B := wo.heap.size) (base := wo.heap.size) rfl _ _ _ rfl el_int rfl hs9.s hs9.b (Nat.le_refl _) hz9 rfl (by rfl) (one1 rfl) (by omega) ?_; intro b3 d3 wA hO8 hb8 hg8 hat8; have hs8 := hs9.addS hO8 hb8 hg8 hat8; clear hO8 hb8 hg8 hat8)
          clear hs9
          have HS8 := Lib.hid hs8
          clear hs8
          go_roundw
          case rel => exact ⟨j + 1, n1 + 1, n2, b3, d3, b2, d2, A1 ++ [(z : Int)], A2, by omega, by go_num, rfl, rfl, by omega, by omega, HB1, HB2, HS8.out⟩
          case measure => simp [intOf]; omega
      · have hjl : ¬ (j : Int) < (A.length : Int) := by omega
        obtain rfl : j = A.length := by omega
        have e1 : A1 = lessP A (goesP (opS l) (holdS wiF l) A) := by rw [goes_less]; have := hA1.out; rwa [List.take_length] at this
        have e2 : A2 = goesP (opS l) (holdS wiF l) A := by have := hA2.out; rwa [List.take_length] at this
        obtain rfl := hs.ns
        obtain rfl := hs.nt
        have hrow : ∀ j, rowOf a2 = some j → j < wo.heap.size := fun j hj => (HM.out.o.row j hj).2
        by_cases hg : A2.length = 0
        · have hg0 : goesP (opS l) (holdS wiF l) A = [] := by rw [← e2]; exact List.length_eq_zero_iff.1 hg
          have hge : ((A2.length : Int) == 0) = true := by rw [beq_iff_eq]; omega
          have HF := Lib.hid (hRl.out.fin hg0).2
          have hmw := HM.out.keep hs.b
          have HMw := Lib.hid hmw
          obtain rfl := hmw.nn
          clear hs hA1 hA2 e1 e2 hg hg0 hmw hrow
          go_wp2
          go_ret2
          exact ⟨a2, c2, R, rfl, ⟨HMw.out.o.rd, HMw.out.r⟩, HF.out.symm, HMw.out.b, fun j hj => (HMw.out.o.row j hj).1, hLow.out⟩
        · have hgp : A2 ≠ [] := fun e => hg (by rw [e]; rfl)
          have hge : ((A2.length : Int) == 0) = false := by rw [beq_eq_false_iff_ne]; omega
          have hmw := HM.out.keep hs.b
          have hmS : Rm w wr b1 A1 a2 c2 n R := ⟨hs.s.rd, fun j hj => ⟨(hs.s.row j hj).2, fun e => by have := (hs.s.row j hj).1; have := hrow j e; omega⟩, hmw.o, hmw.r, hmw.rn, hmw.b, hmw.nn⟩
          have hft : ∀ j, rowOf b2 = some j → j < wr.heap.size ∧ rowOf a2 ≠ some j := fun j hj => ⟨(hs.t.row j hj).2, fun e => by have := (hs.t.row j hj).1; have := hrow j e; omega⟩
          have hRt := hs.t.rd
          obtain ⟨q2, hRl2, hlt⟩ := hRl.out.go (by rw [← e2]; exact hgp) b2 d2
          rw [← e2] at hRl2
          have hlt2 : A1.length < A.length := by rw [e1]; exact hlt
          have hRl3 : Rl l A1 (n + 1) q2 (R ++ [⟨b2, d2, A2⟩]) := by rw [e1, ← e2]; exact hRl2
          have hP2 : A1.Pairwise (· < ·) := by rw [e1]; exact hP.out.sublist less_sub
          have HRl3 := Lib.hid hRl3
          have hLow2 : ∀ x ∈ R ++ [(⟨b2, d2, A2⟩ : IL)], x.lst.length ≤ x.cap ∧ ∀ j, rowOf x.ad = some j → w.heap.size ≤ j := fun x hx => by
            rcases List.mem_append.1 hx with hx | hx
            · exact hLow.out x hx
            · rw [List.mem_singleton.1 hx]
              have hcp := hs.t.2.1
              have hnt := hs.nt
              refine ⟨by show A2.length ≤ d2; omega, fun j hj => ?_⟩
              have := (hs.t.row j hj).1
              have := HM.out.b.size
              omega
          have HLow2 := Lib.hid hLow2
          clear hLow2
          have HP2 := Lib.hid hP2
          have hz := hmS.b.size
          clear hs hA1 hA2 e1 e2 hg hgp hmw hRl hRl2 hRl3 hP2 hP hrow hlt
          go_wp2_with (at_builtin; refine wpList_app1_at (w0 := w) (B := w.heap.size) (base := w.heap.size) rfl _ _ _ rfl elIL rfl hmS.o hmS.b (Nat.le_refl _) hz (cs := [.slice b2 A2.length d2]) rfl rfl (by intro u hu; simp at hu; subst hu; rfl) (by omega) ?_; intro a5 c5 w8 hO5 hb5 hg5 hat5; have hm8 := hmS.app (G := A2) (c3 := d2) hRt hft hg5 hO5 hb5 hat5; clear hO5 hb5 hg5 hat5 hRt hft hmS)
          have HM8 := Lib.hid hm8.1
          clear hm8
          go_roundw
          case rel => exact ⟨A1, b1, d1, _, n + 1, a5, c5, q2, rfl, rfl, HP2, HRl3, HLow2, HM8.out⟩
          case measure => exact hlt2
theorem rrounds_walk (l : List Seat) (a : Option Addr) (c : Nat) (w : World) (hS : RdS w a l) (hl : l.length ≤ 32) (hSpc : Spc w) :
    Calls Tryz.prog 22 #[.slice a l.length c] w fun e w' => ∃ a2 c2 R, e = .returned (.tuple #[.slice a2 R.length c2, .int .i64 0]) ∧ RdL w' a2 R ∧ R.map IL.lst = roundsP (opS l) (holdS wiF l) l.length ∧ Below w.heap.size w w' :=
  (rrounds_walk2 l a c w hS hl hSpc).mono fun _ _ ⟨a2, c2, R, h1, h2, h3, h4, _, _⟩ => ⟨a2, c2, R, h1, h2, h3, h4⟩
set_option maxRecDepth 100000 in
set_option maxHeartbeats 4000000 in
theorem rset_walk (l : List Seat) (a : Option Addr) (c : Nat) (w : World) (hS : RdS w a l) (hl : l.length ≤ 32) (hSpc : Spc w) :
    Calls Tryz.prog 21 #[.slice a l.length c] w fun e w' => ∃ a1 c1, e = .returned (.tuple #[.slice a1 (setP (opS l) (holdS wiF l) l.length).length c1, .int .i64 0]) ∧ Ow w' w.heap.size 1 a1 (setP (opS l) (holdS wiF l) l.length).length c1 (ints (setP (opS l) (holdS wiF l) l.length)) ∧ Below w.heap.size w w' := by
  have KR := Lib.hid (rrounds_walk l a c w hS hl hSpc)
  have HE := Lib.hid (set_end (opS l) (holdS wiF l) l.length)
  have HQ := Lib.hid (rounds_bound (opS l) (holdS wiF l) l.length)
  have KA := Lib.hid (fun V => (show Calls Tryz.prog 47 #[.int .i64 (l.length : Int)] V fun e w' => ∃ a1 c1, e = .returned (.slice a1 (upI l.length).length c1) ∧ Ow w' V.heap.size 1 a1 (upI l.length).length c1 (ints (upI l.length)) ∧ Below V.heap.size V w' by
    have := rall_walk l.length V (by omega)
    rw [upI_len]
    exact this))
  have hA0 : (upI l.length).length ≤ 32 := by rw [upI_len]; exact hl
  generalize upI l.length = A0 at KA HE hA0
  generalize setP (opS l) (holdS wiF l) l.length = S1 at *
  generalize roundsP (opS l) (holdS wiF l) l.length = Q at *
  have HLL := Lib.hid hl
  clear hS hSpc hl
  go_enter Tryz.func21, Tryz.ntmps21
  go_upto_region 6 with (first
    | (go_at_call 22; (with_reducible refine KR.out.mono ?_); (first | rintro e w1 ⟨a2, c2, R, rfl, hR2, hRQ, hb1⟩ | rintro e w1 a2 c2 R rfl hR2 hRQ hb1))
    | (go_at_call 47; (with_reducible refine (KA.out _).mono ?_); (first | rintro e w2 ⟨a3, c3, rfl, hO3, hb2⟩ | rintro e w2 a3 c3 rfl hO3 hb2)))
  obtain ⟨hRl, hRx⟩ := rd_bound hRQ HQ.out
  have hR3 := hR2.keep hb2
  have HRX := Lib.hid hRx
  have hE2 : endP A0 (R.map IL.lst) = S1 := by rw [hRQ]; exact HE.out
  have HE2 := Lib.hid hE2
  have hRl32 : R.length ≤ 32 := by have := HLL.out; omega
  have hO4 := hO3.lower hb1.size
  have hb3 := below_tr hb1 hb2
  have HR3 := Lib.hid hR3
  clear hR2 hRQ hb2 hR3 hRx hE2 hRl hO3 hb1 KR KA
  rename World => wm
  go_loopw [6, 7] (fun lv iv wr => ∃ (k : Nat) (A : List Int) (a1 : Option Addr) (c1 : Nat), k ≤ R.length ∧ iv = .int .i64 (k : Int) ∧ lv = .slice a1 A.length c1 ∧ A.length ≤ 32 ∧ Hid (A = endP A0 ((R.take k).map IL.lst)) ∧ Ow wr w.heap.size 1 a1 A.length c1 (ints A) ∧ Below w.heap.size w wr ∧ Below wm.heap.size wm wr) (fun _ iv _ => R.length - (intOf iv).toNat)
  case atStart => exact ⟨0, A0, a3, c3, Nat.zero_le _, rfl, rfl, hA0, Lib.hid rfl, hO4, hb3, Below.refl _ _⟩
  case round =>
    clear hO4 hb3 hA0
    obtain ⟨k, A, a1, c1, hk, rfl, rfl, hA32, hA, hO, hb, hbm⟩ := hrel
    by_cases hkt : k < R.length
    · have hkl : (k : Int) < (R.length : Int) := by omega
      have hwk : IntKind.i64.wrap ((k : Int) + 1) = (k : Int) + 1 := by rw [IntKind.wrap_i64] <;> omega
      obtain ⟨gr, orr, x, rfl, cx, hx, hxr⟩ := (HR3.out.keep hbm).at hkt
      have hxl := HRX.out x (mem_at hx)
      have KW := Lib.hid (rwithout_walk A x.lst a1 x.ad c1 x.cap wr hO.rd hxr (by omega) (by have := HLL.out; omega))
      have hA2 : lessP A x.lst = endP A0 ((R.take (k + 1)).map IL.lst) := by
        rw [take_at hx, List.map_append, List.map_singleton, end_snoc, ← hA.out]
      have HA2 := Lib.hid hA2
      have hle : (lessP A x.lst).length ≤ A.length := less_sub.length_le
      have hl32 : (lessP A x.lst).length ≤ 32 := by omega
      have Hb := Lib.hid hb
      have Hbm := Lib.hid hbm
      clear hx hxr hO hb hbm hA2 hA hle
      go_wp2_with (go_at_call 48; (with_reducible refine KW.out.mono ?_); (first | rintro e w5 ⟨a5, c5, rfl, hO5, hb5⟩ | rintro e w5 a5 c5 rfl hO5 hb5))
      go_roundw
      case rel => exact ⟨k + 1, lessP A x.lst, a5, c5, by omega, by go_num, rfl, hl32, HA2, hO5.lower Hb.out.size, below_tr Hb.out hb5, below_tr Hbm.out hb5⟩
      case measure => simp [intOf]; omega
    · have hkl : ¬ (k : Int) < (R.length : Int) := by omega
      obtain rfl : k = R.length := by omega
      have hAe : A = S1 := by have := hA.out; rw [List.take_length] at this; rw [this, HE2.out]
      subst hAe
      have HO := Lib.hid hO
      have Hb := Lib.hid hb
      clear hO hb hbm hA
      go_wp2
      go_ret2
      exact ⟨a1, c1, rfl, HO.out, Hb.out⟩
set_option maxRecDepth 100000 in
set_option maxHeartbeats 2000000 in
theorem rround_walk (l : List Seat) (a : Option Addr) (c : Nat) (s : Int) (w : World) (hS : RdS w a l) (hl : l.length ≤ 32) (hSpc : Spc w) :
    Calls Tryz.prog 45 #[.slice a l.length c, .int .i64 s] w fun e w' => e = .returned (.int .i64 (roundP (roundsP (opS l) (holdS wiF l) l.length) s)) ∧ Below w.heap.size w w' := by
  have KR := Lib.hid (rrounds_walk l a c w hS hl hSpc)
  have HQ := Lib.hid (rounds_bound (opS l) (holdS wiF l) l.length)
  generalize roundsP (opS l) (holdS wiF l) l.length = Q at *
  clear hS hSpc
  go_enter Tryz.func45, Tryz.ntmps45
  go_upto_region 3 with (go_at_call 22; (with_reducible refine KR.out.mono ?_); (first | rintro e w1 ⟨a2, c2, R, rfl, hR2, hRQ, hb1⟩ | rintro e w1 a2 c2 R rfl hR2 hRQ hb1))
  obtain ⟨hRl, hRx⟩ := rd_bound hRQ HQ.out
  have HRQ := Lib.hid hRQ
  have HRX := Lib.hid hRx
  have HB1 := Lib.hid hb1
  clear hRQ hRx hb1 KR
  go_loopw [7] (fun i wr => ∃ k : Nat, wr = w1 ∧ k ≤ R.length ∧ i = .int .i64 (k : Int) ∧ Hid (∀ y ∈ R.take k, s ∉ y.lst)) (fun i _ => R.length - (intOf i).toNat)
  case atStart => exact ⟨0, rfl, Nat.zero_le _, rfl, Lib.hid (by simp)⟩
  case round =>
    obtain ⟨k, rfl, hk, rfl, hA⟩ := hrel
    by_cases hkt : k < R.length
    · obtain ⟨gr, orr, x, rfl, cx, hx, hxr⟩ := hR2.at hkt
      have hkl : (k : Int) < (R.length : Int) := by omega
      have hwk : IntKind.i64.wrap ((k : Int) + 1) = (k : Int) + 1 := by rw [IntKind.wrap_i64] <;> omega
      have K1 := Lib.hid (rhas_walk x.ad x.lst x.cap s wr hxr (by have := HRX.out x (mem_at hx); omega))
      have HT : Hid (s ∉ x.lst → ∀ y ∈ R.take (k + 1), s ∉ y.lst) := Lib.hid (fun h y hy => by
        rw [take_at hx] at hy
        rcases List.mem_append.1 hy with hy | hy
        · exact hA.out y hy
        · rw [List.mem_singleton.1 hy]; exact h)
      have HF : Hid (s ∈ x.lst → roundP Q s = (k : Int)) := Lib.hid (fun h => by rw [← HRQ.out]; exact round_at hx.out h hA.out)
      clear hA hx hR2 hxr
      by_cases hz : s ∈ x.lst
      · rw [decide_eq_true hz] at K1
        have HF2 := Lib.hid (HF.out hz)
        clear hz HT HF
        go_wp2_with (go_at_call 14; (with_reducible refine K1.out.mono ?_); (first | rintro e w9 ⟨rfl, rfl⟩ | rintro e w9 rfl rfl))
        go_ret
        exact ⟨by rw [HF2.out]; rfl, HB1.out⟩
      · rw [decide_eq_false hz] at K1
        have HT2 := Lib.hid (HT.out hz)
        clear hz HT HF
        go_wp2_with (go_at_call 14; (with_reducible refine K1.out.mono ?_); (first | rintro e w9 ⟨rfl, rfl⟩ | rintro e w9 rfl rfl))
        go_roundw
        case rel => exact ⟨k + 1, trivial, by omega, by go_num, HT2⟩
        case measure => simp [intOf]; omega
    · have hkl : ¬ (k : Int) < (R.length : Int) := by omega
      obtain rfl : k = R.length := by omega
      have hm := Lib.hid (show roundP Q s = -1 by rw [← HRQ.out]; exact round_no (by have := hA.out; rwa [List.take_length] at this))
      clear hA
      go_wp2
      go_ret
      exact ⟨by rw [hm.out]; rfl, HB1.out⟩
end Go.Proofs.YtpofijdkckaphaaGreatDoor
