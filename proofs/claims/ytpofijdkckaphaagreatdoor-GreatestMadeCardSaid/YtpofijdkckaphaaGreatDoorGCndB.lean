/- Conditions: terms that stand in order: the program's grow, root and Right. -/
import Derived.Test.YtpofijdkckaphaaGreatDoorGCndA
import Derived.Test.YtpofijdkckaphaaGreatDoorGAppAt
import Derived.Test.YtpofijdkckaphaaGreatDoorRegionL
import Derived.Lib.QuietBelow
namespace Go.Proofs.YtpofijdkckaphaaGreatDoor
open Go.RowKit
theorem growA_len {T : List Trm} {G : Nat → Option Nat} (hG : ∀ n m, G n = some m → n < m ∧ m ≤ T.length) : ∀ (l : List Int) (nx m : Nat), nx ≤ T.length → growA G l nx = some m → nx + l.length ≤ m ∧ m ≤ T.length
  | [], nx, m, hn, h => by
    simp only [growA, Option.some.injEq] at h
    subst h
    exact ⟨Nat.le_refl _, hn⟩
  | k :: r, nx, m, hn, h => by
    simp only [growA] at h
    split at h
    · split at h
      · next n2 hg =>
        have g1 := hG _ _ hg
        have i1 := growA_len hG r n2 m g1.2 h
        simp only [List.length_cons]
        omega
      · cases h
    · cases h
/-- what grow returns -/
def GrowRes (w : World) (r : Option Nat) (e : Ending) (w' : World) : Prop :=
  (match r with
    | none => e = .returned (.tuple #[.pointer none, .int .i64 0, .bool false])
    | some m => ∃ g, e = .returned (.tuple #[.pointer (some ⟨g, 0, none⟩), .int .i64 (m : Int), .bool true])) ∧ Below w.heap.size w w'
theorem GrowRes.no {w w' : World} {r : Option Nat} (hr : r = none) (h : Below w.heap.size w w') : GrowRes w r (.returned (.tuple #[.pointer none, .int .i64 0, .bool false])) w' := by
  subst hr; exact ⟨rfl, h⟩
theorem GrowRes.yes {w w' : World} {r : Option Nat} {g m : Nat} (hr : r = some m) (h : Below w.heap.size w w') : GrowRes w r (.returned (.tuple #[.pointer (some ⟨g, 0, none⟩), .int .i64 (m : Int), .bool true])) w' := by
  subst hr; exact ⟨⟨g, rfl⟩, h⟩
theorem growT_none {T : List Trm} {d n : Nat} (h : T[n]? = none) : growT T d n = none := by
  cases d with
  | zero => rfl
  | succ d => simp [growT, h]
theorem growT_some {T : List Trm} {d n : Nat} {t : Trm} (h : T[n]? = some t) : growT T (d + 1) n = if okT t = true then growA (growT T d) t.args (n + 1) else none := by simp [growT, h]
theorem elTree : ElemOf Tryz.prog 158 138 (.pointer none) 1 8 := ⟨Tryz.underlying158, by kernel_rfl, rfl, by decide, by decide⟩
theorem grownBy_setCell (w : World) (b i : Nat) (v : Value) : w.grownBy (w.setCell ⟨b, i, none⟩ v) (some b) :=
  ⟨rfl, rfl, rfl, by simp, fun k _ hk => heap_setCell_other w ⟨b, i, none⟩ k v (fun e => hk (by simp [e]))⟩
/-- a node as it grows -/
structure Node (W w : World) (a : Option Addr) (T : List Trm) (t : Trm) (g : Nat) (pa : Option Addr) (j pc : Nat) (xs : List Value) : Prop where
  n : Bx w g 160 [.int .i64 t.kind, .int .i64 t.number, .int .i64 t.years, .string ⟨t.field.toArray⟩, .string ⟨t.text.toArray⟩, .slice t.aa t.args.length t.ac, .slice pa j pc]
  o : Ow w (g + 1) 1 pa j pc xs
  tt : RdT w a T
  r : Rd w t.aa (ints t.args)
  b : Below W.heap.size W w
  lo : W.heap.size ≤ g
theorem Node.keep {W w w' : World} {a : Option Addr} {T : List Trm} {t : Trm} {g : Nat} {pa : Option Addr} {j pc : Nat} {xs : List Value} (h : Node W w a T t g pa j pc xs) (hb : Below w.heap.size w w') : Node W w' a T t g pa j pc xs :=
  ⟨h.n.keep hb, h.o.keep hb, h.tt.keep hb, h.r.keep hb, h.b.trans (hb.mono h.b.size), h.lo⟩
theorem Node.old {W w wA : World} {a : Option Addr} {T : List Trm} {t : Trm} {g : Nat} {pa : Option Addr} {j pc : Nat} {xs : List Value} (h : Node W w a T t g pa j pc xs) (hg : w.grownBy wA (rowOf pa)) :
    wA.cell? ⟨g, 6, none⟩ = some (.slice pa j pc) ∧ wA.frozen? ⟨g, 6, none⟩ = false := by
  have n8 := h.n.grown hg (fun e => by have := (h.o.row g e.symm).1; omega)
  exact ⟨n8.cell 6 rfl, n8.free 6⟩
theorem Node.app {W w wA : World} {a : Option Addr} {T : List Trm} {t : Trm} {g : Nat} {pa : Option Addr} {j pc : Nat} {xs : List Value} {a2 : Option Addr} {c2 : Nat} {v : Value} (h : Node W w a T t g pa j pc xs) (h0 : RdT W a T) (hA : Rd W t.aa (ints t.args))
    (hO : Ow wA (g + 1) 1 a2 (j + 1) c2 (xs ++ [v])) (hb : Below W.heap.size W wA) (hg : w.grownBy wA (rowOf pa)) : Node W (wA.setCell ⟨g, 6, none⟩ (.slice a2 (j + 1) c2)) a T t g a2 (j + 1) c2 (xs ++ [v]) := by
  have n8 := h.n.grown hg (fun e => by have := (h.o.row g e.symm).1; omega)
  have b9 := hb.setCell (p := ⟨g, 6, none⟩) h.lo (.slice a2 (j + 1) c2)
  refine ⟨n8.set 6 _, hO.kept (grownBy_setCell wA g 6 _) ?_, h0.keep b9, hA.keep b9, b9, h.lo⟩
  cases hr : rowOf a2 with
  | none => exact .inl rfl
  | some x => exact .inr (fun e => by have := (hO.row x hr).1; have := Option.some.inj e; omega)
set_option maxRecDepth 100000 in
set_option maxHeartbeats 4000000 in
theorem grow_walk (T : List Trm) (hT : T.length ≤ 1000) (a : Option Addr) (c : Nat) : ∀ (d : Nat) (n : Nat) (w : World), d ≤ 6 → n ≤ T.length → RdT w a T →
    Calls Tryz.prog 127 #[.slice a T.length c, .int .i64 (n : Int), .int .i64 (d : Int)] w (GrowRes w (growT T d n)) := by
  intro d
  induction d with
  | zero =>
    intro n w _ hn hR
    have HN : Hid (growT T 0 n = none) := Lib.hid rfl
    generalize growT T 0 n = R at *
    go_enter Tryz.func127, Tryz.ntmps127
    by_cases hnl : n < T.length
    · have d1 : decide ((n : Int) ≥ (T.length : Int)) = false := decide_eq_false (by omega)
      have d2 : decide (T.length ≤ n) = false := decide_eq_false (by omega)
      go_upto_region 1 with (fail)
      refine wp_region_quiet_below (by kernel_rfl) (by kernel_rfl) ?_
      repeat (go_big_quiet_step (fail))
      refine wpQuiet_nil ?_
      rintro w7 ⟨p2, hw7⟩
      have hb := Lib.hid (show Below w.heap.size w w7 by first | (rw [hw7]; exact below_regrown w p2.d p2.os) | (rw [← hw7]; exact below_regrown w p2.d p2.os))
      clear hw7
      go_wp2
      go_ret3
      exact GrowRes.no HN.out hb.out
    · have d1 : decide ((n : Int) ≥ (T.length : Int)) = true := decide_eq_true (by omega)
      have d2 : decide (T.length ≤ n) = true := decide_eq_true (by omega)
      go_upto_region 1 with (fail)
      refine wp_region_quiet_below (by kernel_rfl) (by kernel_rfl) ?_
      repeat (go_big_quiet_step (fail))
      refine wpQuiet_nil ?_
      rintro w7 ⟨p2, hw7⟩
      have hb := Lib.hid (show Below w.heap.size w w7 by first | (rw [hw7]; exact below_regrown w p2.d p2.os) | (rw [← hw7]; exact below_regrown w p2.d p2.os))
      clear hw7
      go_wp2
      go_ret3
      exact GrowRes.no HN.out hb.out
  | succ d ih =>
    intro n w hd6 hn hR
    by_cases hnl : n < T.length
    rotate_left
    · have HN : Hid (growT T (d + 1) n = none) := Lib.hid (growT_none (List.getElem?_eq_none (by omega)))
      generalize growT T (d + 1) n = R at *
      go_enter Tryz.func127, Tryz.ntmps127
      have d1 : decide ((n : Int) ≥ (T.length : Int)) = true := decide_eq_true (by omega)
      have d2 : decide (T.length ≤ n) = true := decide_eq_true (by omega)
      go_upto_region 1 with (fail)
      refine wp_region_quiet_below (by kernel_rfl) (by kernel_rfl) ?_
      repeat (go_big_quiet_step (first | (go_at_call 137; with_reducible exact Calls.regrown_of (KB.out _)) | (go_at_call 138; with_reducible exact Calls.regrown_of (Calls.calm (KS.out _)))))
      refine wpQuiet_nil ?_
      rintro w7 ⟨p2, hw7⟩
      have hb := Lib.hid (show Below w.heap.size w w7 by first | (rw [hw7]; exact below_regrown w p2.d p2.os) | (rw [← hw7]; exact below_regrown w p2.d p2.os))
      clear hw7
      go_wp2
      go_ret3
      exact GrowRes.no HN.out hb.out
    obtain ⟨g, off, t, rfl, ht, ⟨c0, c1, c2, c3, c4, c5⟩, hA, hIn⟩ := hR.trm (k := n) hnl
    have HG := Lib.hid (growT_some (d := d) ht.out)
    have HS := Lib.hid (fun i m (h : growT T d i = some m) => (growT_seg T d i m h))
    have HR := Lib.hid hR
    have HT := Lib.hid ht.out
    have HA := Lib.hid hA
    have HIn := Lib.hid hIn
    have IH := Lib.hid ih
    have hal : t.args.length ≤ 9223372036854775807 := Nat.le_trans hIn.2.2.2.2.2 (by decide)
    have hw1 : IntKind.i64.wrap (((d + 1 : Nat) : Int) - 1) = (d : Int) := by rw [IntKind.wrap_i64]; omega
    have hw2 : IntKind.i64.wrap ((n : Int) + 1) = ((n + 1 : Nat) : Int) := by rw [IntKind.wrap_i64]; omega
    have d1 : decide ((n : Int) ≥ (T.length : Int)) = false := decide_eq_false (by omega)
    have d2 : decide (T.length ≤ n) = false := decide_eq_false (by omega)
    have hdd : ∃ D : Int, D = ((d + 1 : Nat) : Int) := ⟨_, rfl⟩
    obtain ⟨D, hD⟩ := hdd
    rw [← hD] at hw1 ⊢
    have d3 : decide (D < 1) = false := decide_eq_false (by omega)
    have KB := Lib.hid (fun V => bare_walk t V (by have := hIn.2.1; omega) (by have := hIn.2.2.1; omega))
    have KS := Lib.hid (fun V => several_walk t.kind V)
    have he : okT t = (bareF t && (sevB t.kind == decide (0 < t.args.length)) && decide (t.args.length ≠ 1)) := rfl
    have HE := Lib.hid he
    generalize okT t = ok at *
    generalize bareF t = b1 at *
    generalize sevB t.kind = b2 at *
    generalize growT T (d + 1) n = R at *
    clear ih hR ht hA hIn he hD
    have u0 := fun d os => cell_regrown c0 d os
    have u1 := fun d os => cell_regrown c1 d os
    have u2 := fun d os => cell_regrown c2 d os
    have u3 := fun d os => cell_regrown c3 d os
    have u4 := fun d os => cell_regrown c4 d os
    have u5 := fun d os => cell_regrown c5 d os
    go_enter Tryz.func127, Tryz.ntmps127
    go_upto_region 1 with (fail)
    cases b1 with
    | false =>
      have HN : Hid (R = none) := Lib.hid (by rw [HG.out, HE.out]; simp)
      clear HG HE
      refine wp_region_quiet_below (by kernel_rfl) (by kernel_rfl) ?_
      repeat (go_big_quiet_step (first | (go_at_call 137; with_reducible exact Calls.regrown_of (KB.out _)) | (go_at_call 138; with_reducible exact Calls.regrown_of (Calls.calm (KS.out _)))))
      refine wpQuiet_nil ?_
      rintro w7 ⟨p2, hw7⟩
      have hb := Lib.hid (show Below w.heap.size w w7 by first | (rw [hw7]; exact below_regrown w p2.d p2.os) | (rw [← hw7]; exact below_regrown w p2.d p2.os))
      clear hw7
      go_wp2
      go_ret3
      exact GrowRes.no HN.out hb.out
    | true =>
    by_cases hba : b2 = decide (0 < t.args.length)
    rotate_left
    · have HN : Hid (R = none) := Lib.hid (by rw [HG.out, HE.out, beq_eq_false_iff_ne.2 hba]; simp)
      clear HG HE
      by_cases hl0 : 0 < t.args.length
      · have d4 : decide ((t.args.length : Int) > 0) = true := decide_eq_true (by omega)
        have d5 : decide (0 < t.args.length) = true := decide_eq_true hl0
        obtain rfl : b2 = false := by rw [d5] at hba; simpa using hba
        clear hba
        refine wp_region_quiet_below (by kernel_rfl) (by kernel_rfl) ?_
        repeat (go_big_quiet_step (first | (go_at_call 137; with_reducible exact Calls.regrown_of (KB.out _)) | (go_at_call 138; with_reducible exact Calls.regrown_of (Calls.calm (KS.out _)))))
        refine wpQuiet_nil ?_
        rintro w7 ⟨p2, hw7⟩
        have hb := Lib.hid (show Below w.heap.size w w7 by first | (rw [hw7]; exact below_regrown w p2.d p2.os) | (rw [← hw7]; exact below_regrown w p2.d p2.os))
        clear hw7
        go_wp2
        go_ret3
        exact GrowRes.no HN.out hb.out
      · have d4 : decide ((t.args.length : Int) > 0) = false := decide_eq_false (by omega)
        have d5 : decide (0 < t.args.length) = false := decide_eq_false hl0
        obtain rfl : b2 = true := by rw [d5] at hba; simpa using hba
        clear hba
        refine wp_region_quiet_below (by kernel_rfl) (by kernel_rfl) ?_
        repeat (go_big_quiet_step (first | (go_at_call 137; with_reducible exact Calls.regrown_of (KB.out _)) | (go_at_call 138; with_reducible exact Calls.regrown_of (Calls.calm (KS.out _)))))
        refine wpQuiet_nil ?_
        rintro w7 ⟨p2, hw7⟩
        have hb := Lib.hid (show Below w.heap.size w w7 by first | (rw [hw7]; exact below_regrown w p2.d p2.os) | (rw [← hw7]; exact below_regrown w p2.d p2.os))
        clear hw7
        go_wp2
        go_ret3
        exact GrowRes.no HN.out hb.out
    by_cases hl1 : t.args.length = 1
    · have HN : Hid (R = none) := Lib.hid (by rw [HG.out, HE.out, decide_eq_false (show ¬ t.args.length ≠ 1 from fun h => h hl1)]; simp)
      clear HG HE
      have d4 : decide ((t.args.length : Int) > 0) = true := decide_eq_true (by omega)
      have d5 : decide (0 < t.args.length) = true := decide_eq_true (by omega)
      have d6 : ((t.args.length : Int) == 1) = true := by rw [beq_iff_eq]; omega
      rw [d5] at hba
      have HL1 := Lib.hid hl1
      clear hl1
      subst hba
      refine wp_region_quiet_below (by kernel_rfl) (by kernel_rfl) ?_
      repeat (go_big_quiet_step (first | (go_at_call 137; with_reducible exact Calls.regrown_of (KB.out _)) | (go_at_call 138; with_reducible exact Calls.regrown_of (Calls.calm (KS.out _)))))
      refine wpQuiet_nil ?_
      rintro w7 ⟨p2, hw7⟩
      have hb := Lib.hid (show Below w.heap.size w w7 by first | (rw [hw7]; exact below_regrown w p2.d p2.os) | (rw [← hw7]; exact below_regrown w p2.d p2.os))
      clear hw7
      go_wp2
      go_ret3
      exact GrowRes.no HN.out hb.out
    have hd6 : ((t.args.length : Int) == 1) = false := by rw [beq_eq_false_iff_ne]; omega
    have hd7 : (t.args.length == 1) = false := by rw [beq_eq_false_iff_ne]; exact hl1
    have hR : R = growA (growT T d) t.args (n + 1) := by rw [HG.out, HE.out, hba, decide_eq_true (show t.args.length ≠ 1 from hl1)]; simp
    have HRR := Lib.hid hR
    clear HG HE hR
    go_cut [56] (fun v wx => v = .bool false ∧ Below w.heap.size w wx)
    case first =>
      by_cases hl0 : 0 < t.args.length
      · have d4 : decide ((t.args.length : Int) > 0) = true := decide_eq_true (by omega)
        have d5 : decide (0 < t.args.length) = true := decide_eq_true hl0
        obtain rfl : b2 = true := by rw [hba, d5]
        clear hba
        refine wp_region_quiet_below (by kernel_rfl) (by kernel_rfl) ?_
        repeat (go_big_quiet_step (first | (go_at_call 137; with_reducible exact Calls.regrown_of (KB.out _)) | (go_at_call 138; with_reducible exact Calls.regrown_of (Calls.calm (KS.out _)))))
        refine wpQuiet_nil ?_
        rintro w7 ⟨p2, hw7⟩
        have hb := Lib.hid (show Below w.heap.size w w7 by first | (rw [hw7]; exact below_regrown w p2.d p2.os) | (rw [← hw7]; exact below_regrown w p2.d p2.os))
        clear hw7
        go_wp2_with fail
        go_meet
        exact ⟨rfl, hb.out⟩
      · have d4 : decide ((t.args.length : Int) > 0) = false := decide_eq_false (by omega)
        have d5 : decide (0 < t.args.length) = false := decide_eq_false hl0
        obtain rfl : b2 = false := by rw [hba, d5]
        clear hba
        refine wp_region_quiet_below (by kernel_rfl) (by kernel_rfl) ?_
        repeat (go_big_quiet_step (first | (go_at_call 137; with_reducible exact Calls.regrown_of (KB.out _)) | (go_at_call 138; with_reducible exact Calls.regrown_of (Calls.calm (KS.out _)))))
        refine wpQuiet_nil ?_
        rintro w7 ⟨p2, hw7⟩
        have hb := Lib.hid (show Below w.heap.size w w7 by first | (rw [hw7]; exact below_regrown w p2.d p2.os) | (rw [← hw7]; exact below_regrown w p2.d p2.os))
        clear hw7
        go_wp2_with fail
        go_meet
        exact ⟨rfl, hb.out⟩
    case rest =>
      rename_i wc
      obtain ⟨rfl, hcut⟩ := hcut
      have hRc := HR.out.keep hcut
      have hAc := HA.out.keep hcut
      clear u0 u1 u2 u3 u4 u5 c0 c1 c2 c3 c4 c5 KB KS hba hl1 hd6 hd7 d1 d2
      obtain ⟨g', off', tq, e', ht', ⟨c0, c1, c2, c3, c4, c5⟩, -, -⟩ := hRc.trm (k := n) hnl
      cases e'
      obtain rfl := Option.some.inj (ht'.out.symm.trans HT.out)
      clear ht'
      have hbA := (Below.refl wc.heap.size wc).alloc (Nat.le_refl _) (.cells #[.int .i64 tq.kind, .int .i64 tq.number, .int .i64 tq.years, .string ⟨tq.field.toArray⟩, .string ⟨tq.text.toArray⟩, .slice tq.aa tq.args.length tq.ac, .slice none 0 0] 160)
      have hN := Bx.new wc 160 [.int .i64 tq.kind, .int .i64 tq.number, .int .i64 tq.years, .string ⟨tq.field.toArray⟩, .string ⟨tq.text.toArray⟩, .slice tq.aa tq.args.length tq.ac, .slice none 0 0]
      change Bx (wc.alloc (.cells #[.int .i64 tq.kind, .int .i64 tq.number, .int .i64 tq.years, .string ⟨tq.field.toArray⟩, .string ⟨tq.text.toArray⟩, .slice tq.aa tq.args.length tq.ac, .slice none 0 0] 160)) _ _ _ at hN
      have hNode : Node w (wc.alloc (.cells #[.int .i64 tq.kind, .int .i64 tq.number, .int .i64 tq.years, .string ⟨tq.field.toArray⟩, .string ⟨tq.text.toArray⟩, .slice tq.aa tq.args.length tq.ac, .slice none 0 0] 160)) (some ⟨g, off, none⟩) T tq wc.heap.size none 0 0 [] := ⟨hN, Ow.nil _ _ _, hRc.keep hbA, hAc.keep hbA, hcut.trans (hbA.mono hcut.size), hcut.size⟩
      clear hN hRc hAc hbA hcut
      go_upto_region 4 with (fail)
      generalize wc.alloc (.cells #[.int .i64 tq.kind, .int .i64 tq.number, .int .i64 tq.years, .string ⟨tq.field.toArray⟩, .string ⟨tq.text.toArray⟩, .slice tq.aa tq.args.length tq.ac, .slice none 0 0] 160) = w1 at *
      generalize wc.heap.size = gn at *
      clear c0 c1 c2 c3 c4 c5
      obtain ⟨g', off', t2, e', ht', ⟨c0, c1, c2, c3, c4, c5⟩, -, -⟩ := hNode.tt.trm (k := n) hnl
      cases e'
      obtain rfl := Option.some.inj (ht'.out.symm.trans HT.out)
      clear ht'
      go_wp2_with fail
      clear c0 c1 c2 c3 c4 c5
      go_loopw [71, 10] (fun jv nx wr => ∃ (j m : Nat) (pa : Option Addr) (pc : Nat) (xs : List Value), j ≤ t2.args.length ∧ jv = .int .i64 (j : Int) ∧ nx = .int .i64 (m : Int) ∧ Hid (growA (growT T d) (t2.args.take j) (n + 1) = some m) ∧ Hid (n + 1 + j ≤ m ∧ m ≤ T.length) ∧ Node w wr (some ⟨g, off, none⟩) T t2 gn pa j pc xs) (fun jv _ _ => t2.args.length - (intOf jv).toNat)
      case atStart => exact ⟨0, n + 1, none, 0, [], Nat.zero_le _, rfl, by go_num, Lib.hid rfl, Lib.hid ⟨by omega, by omega⟩, hNode⟩
      case round =>
        clear hNode
        obtain ⟨j, m, pa, pc, xs, hj, rfl, rfl, hG, hjm, hNode⟩ := hrel
        by_cases hjt : j < t2.args.length
        rotate_left
        · have hjl : ¬ (j : Int) < (t2.args.length : Int) := by omega
          obtain rfl : j = t2.args.length := by omega
          have HN : Hid (R = some m) := Lib.hid (by rw [HRR.out]; have := hG.out; rwa [List.take_length] at this)
          have HB := Lib.hid hNode.b
          clear hG hNode hjm
          go_wp2
          go_ret3
          exact GrowRes.yes HN.out HB.out
        have hjl : (j : Int) < (t2.args.length : Int) := by omega
        obtain ⟨ga, oa, k, hka, kc, hk⟩ := hNode.r.int (k := j) hjt
        have hsl := hka
        by_cases hkm : k = (m : Int)
        rotate_left
        · have HN : Hid (R = none) := Lib.hid (by
            rw [HRR.out]
            have h1 := growA_bad (t2.args.drop (j + 1)) hG.out hkm
            rwa [← drop_at hk, List.take_append_drop] at h1)
          have HB := Lib.hid hNode.b
          have hkn : (k == (m : Int)) = false := by rw [beq_eq_false_iff_ne]; exact hkm
          clear hG hNode hjm hk hkm
          rw [hka]
          go_wp2
          go_ret3
          exact GrowRes.no HN.out HB.out
        subst hkm
        have hml := hjm.out.2
        have K1 := Lib.hid (IH.out m wr (by omega) hml hNode.tt)
        cases hgm : growT T d m with
        | none =>
          have HN : Hid (R = none) := Lib.hid (by
            rw [HRR.out]
            have h1 := growA_fail (t2.args.drop (j + 1)) hG.out hgm
            rwa [← drop_at hk, List.take_append_drop] at h1)
          rw [hgm] at K1
          have HNo := Lib.hid hNode
          clear hG hNode hjm hk hgm
          rw [hka]
          go_wp2_with (go_at_call 127; (with_reducible refine K1.out.mono ?_); rintro e w5 ⟨rfl, hb5⟩)
          go_ret3
          exact GrowRes.no HN.out (HNo.out.keep hb5).b
        | some m2 =>
          have HG2 : Hid (growA (growT T d) (t2.args.take (j + 1)) (n + 1) = some m2) := Lib.hid (by rw [take_at hk]; exact growA_next hG.out hgm)
          have hgb := growA_len (T := T) (fun i m h => ⟨(HS.out i m h).1, (HS.out i m h).2.1⟩) (t2.args.take (j + 1)) (n + 1) m2 (by omega) HG2.out
          rw [List.length_take] at hgb
          have HM : Hid (n + 1 + (j + 1) ≤ m2 ∧ m2 ≤ T.length) := Lib.hid ⟨by omega, hgb.2⟩
          rw [hgm] at K1
          clear hG hjm hk hgm hgb
          rw [hka]
          have hxl : xs.length = j * 1 := hNode.o.1
          have hlo := hNode.lo
          go_upto_region 12 with (go_at_call 127; (with_reducible refine K1.out.mono ?_); rintro e w5 ⟨⟨gx, rfl⟩, hb5⟩)
          have hN5 := hNode.keep hb5
          have hsz : gn + 1 ≤ w5.heap.size := hN5.n.lt
          have y6 := hN5.n.cell 6 rfl
          clear hNode hb5 K1
          go_wp2_with (at_builtin; refine wpList_app1 (w0 := w) (B := w.heap.size) (base := gn + 1) rfl _ _ _ rfl elTree rfl hN5.o hN5.b (Nat.le_succ_of_le hlo) hsz (cs := [.pointer (some ⟨gx, 0, none⟩)]) rfl rfl (one1 rfl) (by have := HM.out; omega) ?_; intro a2 c2 wA hO8 hb8 hg8; have q6 := (hN5.old hg8).1; have f6 := (hN5.old hg8).2; have HN9 := Lib.hid (hN5.app HR.out HA.out hO8 hb8 hg8); clear hN5 hO8 hb8 hg8 y6)
          go_roundw
          case rel => exact ⟨j + 1, m2, a2, c2, _, by omega, by go_num, rfl, HG2, HM, HN9.out⟩
          case measure => simp [intOf]; omega
set_option maxRecDepth 100000 in
theorem root_walk (T : List Trm) (a : Option Addr) (c : Nat) (w : World) (hR : RdT w a T) (hT : T.length ≤ 9223372036854775807) :
    Calls Tryz.prog 116 #[.agg #[.slice a T.length c]] w fun e w' => ∃ v, e = .returned (.tuple #[v, .bool (rightC T)]) ∧ Below w.heap.size w w' := by
  have HR := Lib.hid hR
  have he : rightC T = (decide (T.length ≤ 24) && (growT T 6 0 == some T.length)) := rfl
  generalize rightC T = R at *
  have hb0 := (Below.refl w.heap.size w).alloc (Nat.le_refl _) (.cells #[.slice a T.length c] 42)
  have h1 := Bx.new w 42 [.slice a T.length c]
  change Bx (w.alloc (.cells #[.slice a T.length c] 42)) _ _ _ at h1
  obtain ⟨g1, hg1⟩ : ∃ g, g = w.heap.size := ⟨_, rfl⟩
  have hbw : w.heap.size = g1 := hg1.symm
  rw [← hg1] at h1
  have HB := Lib.hid hb0
  have hRw := hR.keep hb0
  clear hg1 hR hb0
  go_enter Tryz.func116, Tryz.ntmps116
  go_upto_region 1 with (fail)
  generalize w.alloc (.cells #[.slice a T.length c] 42) = w1 at *
  have c0 := h1.cell 0 rfl
  clear hbw
  by_cases h24 : T.length ≤ 24
  rotate_left
  · have d1 : decide ((T.length : Int) > 24) = true := decide_eq_true (by omega)
    have d2 : decide (24 < T.length) = true := decide_eq_true (by omega)
    have hR : R = false := by rw [he, decide_eq_false h24]; rfl
    clear he
    go_wp2
    go_ret2
    exact ⟨.pointer none, by rw [hR]; rfl, HB.out⟩
  have d1 : decide ((T.length : Int) > 24) = false := decide_eq_false (by omega)
  have d2 : decide (24 < T.length) = false := decide_eq_false (by omega)
  have KG : Hid (Calls Tryz.prog 127 #[.slice a T.length c, .int .i64 0, .int .i64 6] w1 (GrowRes w1 (growT T 6 0))) := Lib.hid (grow_walk T (by omega) a c 6 0 w1 (Nat.le_refl _) (Nat.zero_le _) hRw)
  have hS := fun m => growT_seg T 6 0 m
  generalize growT T 6 0 = G at *
  have HE := Lib.hid he
  clear he hRw
  cases G with
  | none =>
    have hR : R = false := by rw [HE.out]; simp
    have HRR := Lib.hid hR
    clear hR HE hS
    go_upto_region 4 with (go_at_call 127; (with_reducible refine KG.out.mono ?_); rintro e w5 ⟨rfl, hb5⟩)
    have c5 := (h1.keep hb5).cell 0 rfl
    have HB5 := Lib.hid (below_tr HB.out hb5)
    clear c0 h1 hb5
    refine wp_region_quiet_below (by kernel_rfl) (by kernel_rfl) ?_
    repeat (go_big_quiet_step (fail))
    refine wpQuiet_nil ?_
    rintro w7 ⟨p2, hw7⟩
    have hb := Lib.hid (below_tr HB5.out (show Below w5.heap.size w5 w7 by first | (rw [hw7]; exact below_regrown w5 p2.d p2.os) | (rw [← hw7]; exact below_regrown w5 p2.d p2.os)))
    clear hw7
    go_wp2
    go_ret2
    exact ⟨.pointer none, by rw [HRR.out]; rfl, hb.out⟩
  | some m =>
    have hm := (hS m rfl).2.1
    have hR : R = decide (m = T.length) := by rw [HE.out, decide_eq_true h24, Bool.true_and, Bool.eq_iff_iff]; simp
    have HRR := Lib.hid hR
    clear hR HE hS
    go_upto_region 4 with (go_at_call 127; (with_reducible refine KG.out.mono ?_); rintro e w5 ⟨⟨gx, rfl⟩, hb5⟩)
    have c5 := (h1.keep hb5).cell 0 rfl
    have u5 := fun d os => cell_regrown c5 d os
    have HB5 := Lib.hid (below_tr HB.out hb5)
    have d3 : ((m : Int) == (T.length : Int)) = decide (m = T.length) := by rw [Bool.eq_iff_iff]; simp; omega
    have d4 : (m == T.length) = decide (m = T.length) := by rw [Bool.eq_iff_iff]; simp
    clear c0 h1 hb5
    refine wp_region_quiet_below (by kernel_rfl) (by kernel_rfl) ?_
    repeat (go_big_quiet_step (fail))
    refine wpQuiet_nil ?_
    rintro w7 ⟨p2, hw7⟩
    have hb := Lib.hid (below_tr HB5.out (show Below w5.heap.size w5 w7 by first | (rw [hw7]; exact below_regrown w5 p2.d p2.os) | (rw [← hw7]; exact below_regrown w5 p2.d p2.os)))
    clear hw7
    go_wp2
    go_ret2
    refine ⟨.pointer (some ⟨gx, 0, none⟩), ?_, hb.out⟩
    rw [HRR.out]
    rfl
set_option maxRecDepth 100000 in
theorem right_walk (T : List Trm) (a : Option Addr) (c : Nat) (w : World) (hR : RdT w a T) (hT : T.length ≤ 9223372036854775807) :
    Calls Tryz.prog 96 #[.agg #[.slice a T.length c]] w fun e w' => e = .returned (.bool (rightC T)) ∧ Below w.heap.size w w' := by
  have hb0 := (Below.refl w.heap.size w).alloc (Nat.le_refl _) (.cells #[.slice a T.length c] 42)
  have h1 := Bx.new w 42 [.slice a T.length c]
  change Bx (w.alloc (.cells #[.slice a T.length c] 42)) _ _ _ at h1
  obtain ⟨g1, hg1⟩ : ∃ g, g = w.heap.size := ⟨_, rfl⟩
  have hbw : w.heap.size = g1 := hg1.symm
  rw [← hg1] at h1
  have HB := Lib.hid hb0
  have hRw := hR.keep hb0
  clear hg1 hR hb0
  go_enter Tryz.func96, Tryz.ntmps96
  go_upto_region 1 with (fail)
  generalize w.alloc (.cells #[.slice a T.length c] 42) = w1 at *
  have c0 := h1.cell 0 rfl
  have KR := Lib.hid (root_walk T a c w1 hRw hT)
  clear hbw hRw
  go_wp2_with (go_at_call 116; (with_reducible refine KR.out.mono ?_); (first | rintro e w5 ⟨v, rfl, hb5⟩ | rintro e w5 v rfl hb5))
  go_ret
  exact ⟨rfl, below_tr HB.out hb5⟩
set_option maxRecDepth 100000 in
theorem cvalid_walk (T : List Trm) (a : Option Addr) (c : Nat) (w : World) (hR : RdT w a T) (hT : T.length ≤ 9223372036854775807) :
    Calls Tryz.prog 79 #[.agg #[.slice a T.length c]] w fun e w' => e = .returned (.bool (rightC T)) ∧ Below w.heap.size w w' := by
  have hb0 := (Below.refl w.heap.size w).alloc (Nat.le_refl _) (.cells #[.slice a T.length c] 42)
  have h1 := Bx.new w 42 [.slice a T.length c]
  change Bx (w.alloc (.cells #[.slice a T.length c] 42)) _ _ _ at h1
  obtain ⟨g1, hg1⟩ : ∃ g, g = w.heap.size := ⟨_, rfl⟩
  have hbw : w.heap.size = g1 := hg1.symm
  rw [← hg1] at h1
  have HB := Lib.hid hb0
  have hRw := hR.keep hb0
  clear hg1 hR hb0
  go_enter Tryz.func79, Tryz.ntmps79
  go_upto_region 1 with (fail)
  generalize w.alloc (.cells #[.slice a T.length c] 42) = w1 at *
  have c0 := h1.cell 0 rfl
  have KR := Lib.hid (right_walk T a c w1 hRw hT)
  clear hbw hRw
  go_wp2_with (go_at_call 96; (with_reducible refine KR.out.mono ?_); (first | rintro e w5 rfl hb5 | rintro e w5 ⟨rfl, hb5⟩))
  go_ret
  exact ⟨rfl, below_tr HB.out hb5⟩
end Go.Proofs.YtpofijdkckaphaaGreatDoor
