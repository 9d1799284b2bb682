/- law28: the law's own holds; merge of nothing; what GreatestChecks keeps. -/
import Derived.Test.YtpofijdkckaphaaGreatDoorGGreHas
import Derived.Test.YtpofijdkckaphaaGreatDoorGGreX
namespace Go.Proofs.YtpofijdkckaphaaGreatDoor
open Go.RowKit
set_option maxRecDepth 100000 in
set_option maxHeartbeats 8000000 in
theorem lholds_walk (l : List Seat) (a : Option Addr) (c : Nat) (A : List Int) (sa : Option Addr) (sc : Nat) (s : Nat) (w : World) (hS : RdS w a l) (hA : Rd w sa (ints A)) (hin : ∀ i ∈ A, i ∈ upI l.length) (hasc : A.Pairwise (· < ·)) (hs : (s : Int) ∈ A) (hAl : A.length ≤ 1000) (hSpc : Spc w) :
    Calls Tryz.prog 16 #[.slice a l.length c, .slice sa A.length sc, .int .i64 (s : Int)] w fun e w' => e = .returned (.bool (holdS wiF l A (s : Int))) ∧ Below w.heap.size w w' := by
  have hsl : s < l.length := by have := mem_upI.1 (hin _ hs); omega
  obtain ⟨g0, off0, xs, rfl, hxs, -⟩ := hS.seat hsl
  have hho := hold_at hxs.out A
  rw [hho]
  have HXS := Lib.hid (mem_at hxs)
  have HS := Lib.hid hS
  have HA := Lib.hid hA
  have HD := Lib.hid hin
  have HAsc := Lib.hid hasc
  have HSpc := Lib.hid hSpc
  have HSM := Lib.hid hs
  clear hS hA hin hasc hSpc hs hho
  go_enter Tryz.func16, Tryz.ntmps16
  go_wp2_with fail
  go_loopw [7, 8, 9] (fun v mv i wr => ∃ (k : Nat) (am : Option Addr) (cm : Nat) (me : Int), k ≤ A.length ∧ i = .int .i64 (k : Int) ∧ mv = .int .i64 me ∧ v = .slice am k cm ∧ Hid (((s : Int) ∈ A.take k ∧ me = idxS A (s : Int)) ∨ ((s : Int) ∉ A.take k ∧ me = -1)) ∧ Ow wr w.heap.size 5 am k cm (rowsC mmC ((A.take k).map (memS l))) ∧ Below w.heap.size w wr) (fun _ _ i _ => A.length - (intOf i).toNat)
  case atStart => exact ⟨0, none, 0, -1, by omega, rfl, rfl, rfl, Lib.hid (.inr ⟨by simp, rfl⟩), Ow.nil _ _ _, Below.refl _ _⟩
  case round =>
    obtain ⟨k, am, cm, me, hk, rfl, rfl, rfl, hme, hO, hB⟩ := hrel
    by_cases hkt : k < A.length
    · have hkl : (k : Int) < (A.length : Int) := by omega
      have hwk : IntKind.i64.wrap ((k : Int) + 1) = (k : Int) + 1 := by rw [IntKind.wrap_i64] <;> omega
      obtain ⟨ga, offa, i, rfl, ca, hi⟩ := (HA.out.keep hB).int (k := k) hkt
      have hiu := mem_upI.1 (HD.out i (mem_at hi))
      obtain ⟨n, rfl⟩ : ∃ n : Nat, i = (n : Int) := ⟨i.toNat, by omega⟩
      have hn : n < l.length := by omega
      have hnl : (n : Int) < (l.length : Int) := by omega
      obtain ⟨gl, ol, x, hgl, hx, d0, d1, d2, d3, d4, -, -⟩ := (HS.out.keep hB).seat hn
      cases hgl
      have HR3 : Hid (rowsC mmC ((A.take (k + 1)).map (memS l)) = rowsC mmC ((A.take k).map (memS l)) ++ [.string ⟨x.mem.person.toArray⟩, .int .i64 x.mem.number, .int .i64 x.mem.dept, .int .i64 x.mem.day, .slice x.mem.aa x.mem.ans.length x.mem.ac]) := Lib.hid (by
        rw [take_at hi, List.map_append, rowsC_append, List.map_singleton, rowsC_single, memS_at hx.out]; rfl)
      have hsz := hB.size
      by_cases hns : n = s
      · subst hns
        have heq : ((n : Int) == (n : Int)) = true := beq_self_eq_true _
        have HME : Hid (((n : Int) ∈ A.take (k + 1) ∧ (k : Int) = idxS A (n : Int)) ∨ ((n : Int) ∉ A.take (k + 1) ∧ (k : Int) = -1)) := Lib.hid (.inl ⟨by rw [take_at hi]; exact List.mem_append_right _ List.mem_cons_self, (idx_at HAsc.out hi.out).symm⟩)
        clear hi hx hiu hme
        go_wp2_with (at_builtin; refine wpList_app1 (w0 := w) (B := w.heap.size) (base := w.heap.size) rfl _ _ _ rfl elMm rfl hO hB (Nat.le_refl _) hsz (cs := [.string ⟨x.mem.person.toArray⟩, .int .i64 x.mem.number, .int .i64 x.mem.dept, .int .i64 x.mem.day, .slice x.mem.aa x.mem.ans.length x.mem.ac]) rfl rfl (by intro u hu; simp at hu; rcases hu with rfl | rfl | rfl | rfl | rfl <;> rfl) (by omega) ?_; intro a5 c5 w8 hO5 hb5 hg5; clear hg5)
        rw [← HR3.out] at hO5
        clear ca d0 d1 d2 d3 d4 hO hB
        have HO5 := Lib.hid hO5
        have HB5 := Lib.hid hb5
        clear hO5 hb5
        go_roundw
        case rel => exact ⟨k + 1, a5, c5, (k : Int), by omega, by go_num, rfl, rfl, HME, HO5.out, HB5.out⟩
        case measure => simp [intOf]; omega
      · have heq : ((n : Int) == (s : Int)) = false := by rw [beq_eq_false_iff_ne]; omega
        have hmm : (s : Int) ∈ A.take (k + 1) ↔ (s : Int) ∈ A.take k := by
          rw [take_at hi, List.mem_append, List.mem_singleton]
          constructor
          · rintro (h | h)
            · exact h
            · exact absurd h (by omega)
          · exact .inl
        have HME : Hid (((s : Int) ∈ A.take (k + 1) ∧ me = idxS A (s : Int)) ∨ ((s : Int) ∉ A.take (k + 1) ∧ me = -1)) := Lib.hid (by rw [hmm]; exact hme.out)
        clear hi hx hiu hme hmm
        go_wp2_with (at_builtin; refine wpList_app1 (w0 := w) (B := w.heap.size) (base := w.heap.size) rfl _ _ _ rfl elMm rfl hO hB (Nat.le_refl _) hsz (cs := [.string ⟨x.mem.person.toArray⟩, .int .i64 x.mem.number, .int .i64 x.mem.dept, .int .i64 x.mem.day, .slice x.mem.aa x.mem.ans.length x.mem.ac]) rfl rfl (by intro u hu; simp at hu; rcases hu with rfl | rfl | rfl | rfl | rfl <;> rfl) (by omega) ?_; intro a5 c5 w8 hO5 hb5 hg5; clear hg5)
        rw [← HR3.out] at hO5
        clear ca d0 d1 d2 d3 d4 hO hB
        have HO5 := Lib.hid hO5
        have HB5 := Lib.hid hb5
        clear hO5 hb5
        go_roundw
        case rel => exact ⟨k + 1, a5, c5, me, by omega, by go_num, rfl, rfl, HME, HO5.out, HB5.out⟩
        case measure => simp [intOf]; omega
    · have hkl : ¬ (k : Int) < (A.length : Int) := by omega
      obtain rfl : k = A.length := by omega
      have hme2 : me = idxS A (s : Int) := by
        have := hme.out
        rw [List.take_length] at this
        rcases this with h | h
        · exact h.2
        · exact absurd HSM.out h.1
      have HME2 := Lib.hid hme2
      rw [List.take_length] at hO
      have hge : decide (me ≥ 0) = true := by
        have := idx_pos (A := A) (s := (s : Int))
        rw [decide_eq_true HSM.out, ← hme2] at this
        exact this
      have hRM := rdM_set HS.out HD.out hO hB
      obtain ⟨gl, ol, x, hgl, hx, -, -, -, -, -, d5, -⟩ := (HS.out.keep hB).seat hsl
      cases hgl
      obtain rfl : xs = x := Option.some.inj (hxs.out.symm.trans hx.out)
      have hml : (A.map (memS l)).length = A.length := List.length_map _
      have hsi : (s : Int) < (l.length : Int) := by omega
      have KH := rcholds_walk xs.T xs.ca xs.cc (A.map (memS l)) am cm me wr ((HS.out.keep hB).cnd xs HXS.out) hRM (HS.out.tl xs HXS.out) (by omega) (HSpc.out.keep hB)
      rw [hml] at KH
      have KHH := Lib.hid KH
      have HB := Lib.hid hB
      clear KH hRM hO hB hx hme hme2
      have hge2 : 0 ≤ me := of_decide_eq_true hge
      go_wp2_with (go_at_call 37; (with_reducible refine KHH.out.mono ?_); (first | rintro e w9 ⟨rfl, hb9⟩ | rintro e w9 rfl hb9))
      go_ret
      exact ⟨by rw [← HME2.out]; rfl, below_tr HB.out hb9⟩
set_option maxRecDepth 100000 in
theorem merge_nil (w : World) : Calls Tryz.prog 15 #[.slice none 0 0, .slice none 0 0] w fun e w' => e = .returned (.slice none 0 0) ∧ w = w' := by
  have KH := Lib.hid (fun (x : Int) (V : World) => show Calls Tryz.prog 14 #[.slice none 0 0, .int .i64 x] V fun e w' => e = .returned (.bool false) ∧ V = w' from rhas_walk none [] 0 x V (Rd.nil _ _) (by simp))
  go_enter Tryz.func15, Tryz.ntmps15
  go_wp2_with fail
  go_loopw [5, 6] (fun sv i wr => ∃ k : Nat, wr = w ∧ k ≤ 40 ∧ i = .int .i64 (k : Int) ∧ sv = .slice none 0 0) (fun _ i _ => 40 - (intOf i).toNat)
  case atStart => exact ⟨0, rfl, by omega, rfl, rfl⟩
  case round =>
    obtain ⟨k, rfl, hk, rfl, rfl⟩ := hrel
    by_cases hkt : k < 40
    · have hkl : (k : Int) < 40 := by omega
      have hwk : IntKind.i64.wrap ((k : Int) + 1) = (k : Int) + 1 := by rw [IntKind.wrap_i64] <;> omega
      go_wp2_with (go_at_call 14; (with_reducible refine (KH.out _ _).mono ?_); (first | rintro e w9 ⟨rfl, rfl⟩ | rintro e w9 rfl rfl))
      go_roundw
      case rel => exact ⟨k + 1, trivial, by omega, by go_num, rfl⟩
      case measure => simp [intOf]; omega
    · have hkl : ¬ (k : Int) < 40 := by omega
      go_wp2
      go_ret
      exact ⟨rfl, rfl⟩
/-- what is left and the rounds so far: where they lie -/
structure Ck (B : Nat) (w : World) (a1 : Option Addr) (A : List Int) (a2 : Option Addr) (c2 n : Nat) (R : List IL) : Prop where
  a : Rd w a1 (ints A)
  an : ∀ j, rowOf a1 = some j → B ≤ j ∧ j < w.heap.size ∧ rowOf a2 ≠ some j
  o : Ow w B 1 a2 n c2 (R.map ilV)
  r : ∀ x ∈ R, Rd w x.ad (ints x.lst)
  rn : ∀ x ∈ R, ∀ j, rowOf x.ad = some j → B ≤ j ∧ j < w.heap.size ∧ rowOf a2 ≠ some j
  nn : R.length = n
section
variable {B : Nat} {w w' : World} {a1 : Option Addr} {A : List Int} {a2 : Option Addr} {c2 n : Nat} {R : List IL}
theorem Ck.kp {S : Nat → Prop} (h : Ck B w a1 A a2 c2 n R) (hk : Kp S w w') (hs : ∀ j, B ≤ j → j < w.heap.size → ¬ S j) : Ck B w' a1 A a2 c2 n R :=
  ⟨h.a.kp hk (fun j hj => hs j (h.an j hj).1 (h.an j hj).2.1), fun j hj => ⟨(h.an j hj).1, Nat.lt_of_lt_of_le (h.an j hj).2.1 hk.size, (h.an j hj).2.2⟩, h.o.kp hk (fun j hj => hs j (h.o.row j hj).1 (h.o.row j hj).2), fun x hx => (h.r x hx).kp hk (fun j hj => hs j (h.rn x hx j hj).1 (h.rn x hx j hj).2.1), fun x hx j hj => ⟨(h.rn x hx j hj).1, Nat.lt_of_lt_of_le (h.rn x hx j hj).2.1 hk.size, (h.rn x hx j hj).2.2⟩, h.nn⟩
theorem Ck.keep (h : Ck B w a1 A a2 c2 n R) (hb : Below w.heap.size w w') : Ck B w' a1 A a2 c2 n R := h.kp (Kp.of_below hb (fun _ => False)) (fun _ _ _ e => e)
theorem Ck.app (h : Ck B w a1 A a2 c2 n R) {a3 : Option Addr} {c3 : Nat} {G : List Int} {a5 : Option Addr} {c5 : Nat} (hR3 : Rd w a3 (ints G)) (hf : ∀ j, rowOf a3 = some j → B ≤ j ∧ j < w.heap.size ∧ rowOf a2 ≠ some j)
    (hg : w.grownBy w' (rowOf a2)) (hO : Ow w' B 1 a5 (n + 1) c5 (R.map ilV ++ [.slice a3 G.length c3])) (hat : rowOf a5 = rowOf a2 ∨ rowOf a5 = some (w.heap.size + 1)) : Ck B w' a1 A a5 c5 (n + 1) (R ++ [⟨a3, c3, G⟩]) := by
  have key : ∀ {b : Option Addr}, (∀ j, rowOf b = some j → B ≤ j ∧ j < w.heap.size ∧ rowOf a2 ≠ some j) → ∀ j, rowOf b = some j → B ≤ j ∧ j < w'.heap.size ∧ rowOf a5 ≠ some j := fun hb j hj => by
    obtain ⟨h0, h1, h2⟩ := hb j hj
    refine ⟨h0, Nat.lt_of_lt_of_le h1 hg.size, fun e => ?_⟩
    rcases hat with e2 | e2
    · exact h2 (e2 ▸ e)
    · rw [e2] at e; have := Option.some.inj e; omega
  have hr3 := rd_far hR3 hg (fun j hj => (hf j hj).2.2)
  refine ⟨rd_far h.a hg (fun j hj => (h.an j hj).2.2), key h.an, by rw [List.map_append]; exact hO, fun x hx => ?_, fun x hx => ?_, by rw [List.length_append, h.nn]; rfl⟩
  · rcases List.mem_append.1 hx with hx | hx
    · exact rd_far (h.r x hx) hg (fun j hj => (h.rn x hx j hj).2.2)
    · rw [List.mem_singleton] at hx
      subst hx
      exact hr3
  · rcases List.mem_append.1 hx with hx | hx
    · exact key (h.rn x hx)
    · rw [List.mem_singleton] at hx
      subst hx
      exact key hf
theorem Ck.turn (h : Ck B w a1 A a2 c2 n R) {a4 : Option Addr} {A' : List Int} (hR : Rd w' a4 (ints A')) (hb : Below w.heap.size w w') (hB : B ≤ w.heap.size) (hf : ∀ j, rowOf a4 = some j → w.heap.size ≤ j ∧ j < w'.heap.size) : Ck B w' a4 A' a2 c2 n R :=
  ⟨hR, fun j hj => ⟨by have := (hf j hj).1; omega, (hf j hj).2, fun e => by have := (h.o.row j e).2; have := (hf j hj).1; omega⟩, (h.keep hb).o, (h.keep hb).r, (h.keep hb).rn, h.nn⟩
end
/-- the seats and the second dice -/
structure Cs (W w : World) (db : Nat) (p : Option Addr) (l : List Int) (cap B : Nat) (a : Option Addr) (L : List Seat) : Prop where
  d : Dc W w db p l cap
  s : RdS w a L
  lt : db < B
  le : B ≤ w.heap.size
  ra : ∀ j, rowOf a = some j → j ≠ db ∧ j < B
  rs : ∀ x ∈ L, ∀ j, SeRow x j → j ≠ db ∧ j < B
section
variable {W w w' : World} {db : Nat} {p : Option Addr} {l : List Int} {cap B : Nat} {a : Option Addr} {L : List Seat}
theorem RdS.kp {S : Nat → Prop} (h : RdS w a L) (hk : Kp S w w') (h1 : ∀ j, rowOf a = some j → ¬ S j) (h2 : ∀ x ∈ L, ∀ j, SeRow x j → ¬ S j) : RdS w' a L :=
  ⟨h.rows.kp hk h1, fun x hx => (h.cnd x hx).kp hk (fun j hj => h2 x hx j (.inl hj)) (fun t ht j hj => h2 x hx j (.inr (.inl ⟨t, ht, hj⟩))), fun x hx => (h.ans x hx).kp hk (fun j hj => h2 x hx j (.inr (.inr hj))), h.ok, h.tl⟩
theorem Cs.kp {S : Nat → Prop} (h : Cs W w db p l cap B a L) (hD : Dc W w' db p l cap) (hk : Kp S w w') (hs : ∀ j, S j → j = db ∨ B ≤ j) : Cs W w' db p l cap B a L :=
  ⟨hD, h.s.kp hk (fun j hj e => by have := h.ra j hj; have := hs j e; omega) (fun x hx j hj e => by have := h.rs x hx j hj; have := hs j e; omega), h.lt, Nat.le_trans h.le hk.size, h.ra, h.rs⟩
theorem Cs.keep (h : Cs W w db p l cap B a L) (hb : Below w.heap.size w w') : Cs W w' db p l cap B a L := h.kp (h.d.keep hb) (Kp.of_below hb (fun _ => False)) (fun _ e => e.elim)
theorem Cs.next (h : Cs W w db p l cap B a L) (hD : Dc W w' db p l cap) (hk : KD db w w') : Cs W w' db p l cap B a L := h.kp hD hk (fun _ e => .inl e)
theorem Cs.grown (h : Cs W w db p l cap B a L) {b : Option Addr} (hg : w.grownBy w' (rowOf b)) (hb : ∀ j, rowOf b = some j → B ≤ j) : Cs W w' db p l cap B a L := by
  have hk := Kp.of_grown hg (S := fun j => rowOf b = some j) (fun j e => e)
  have hlt := h.lt
  exact h.kp (h.d.kp hk (fun j hj e => by have := hb j e; omega)) hk (fun j e => .inr (hb j e))
end
theorem rd_cut {w : World} {g off : Nat} {X : List Int} (h : Rd w (some ⟨g, off, none⟩) (ints X)) (k m : Nat) : Rd w (some ⟨g, off + k, none⟩) (ints ((X.drop k).take m)) := Rd.mk fun j u hj => by
  have hjl := (List.getElem?_eq_some_iff.1 hj).1
  rw [ints_length, List.length_take, List.length_drop] at hjl
  have hx : (ints X)[k + j]? = some u := by
    rw [← hj]
    simp only [ints, List.getElem?_map, List.getElem?_take, List.getElem?_drop]
    rw [if_pos (by omega)]
  obtain ⟨g', off', he, hc⟩ := h (k + j) u hx
  simp only [Option.some.injEq, Addr.mk.injEq, and_true] at he
  obtain ⟨rfl, rfl⟩ := he
  rw [Nat.add_assoc]
  exact hc
theorem cut_sub (X : List Int) (k m : Nat) : ((X.drop k).take m).Sublist X := (List.take_sublist _ _).trans (List.drop_sublist _ _)
end Go.Proofs.YtpofijdkckaphaaGreatDoor
/- law28: merge, put, made: some list, some number. -/
namespace Go.Proofs.YtpofijdkckaphaaGreatDoor
open Go.RowKit
set_option maxRecDepth 100000 in
set_option maxHeartbeats 2000000 in
theorem merge_any (A C : List Int) (sa sb : Option Addr) (ac bc : Nat) (w : World) (hA : Rd w sa (ints A)) (hC : Rd w sb (ints C)) (hAl : A.length ≤ 1000) (hCl : C.length ≤ 1000) :
    Calls Tryz.prog 15 #[.slice sa A.length ac, .slice sb C.length bc] w fun e w' => ∃ D a' c', e = .returned (.slice a' (D : List Int).length c') ∧ D.length ≤ 40 ∧ Ow w' w.heap.size 1 a' D.length c' (ints D) ∧ Below w.heap.size w w' := by
  go_enter Tryz.func15, Tryz.ntmps15
  go_wp2_with fail
  go_loopw [5, 6] (fun sv iv wr => ∃ (k n : Nat) (ay : Option Addr) (cy : Nat) (D : List Int), k ≤ 40 ∧ iv = .int .i64 (k : Int) ∧ sv = .slice ay n cy ∧ n ≤ k ∧ Hid (D.length = n) ∧ Ow wr w.heap.size 1 ay n cy (ints D) ∧ Below w.heap.size w wr) (fun _ iv _ => 40 - (intOf iv).toNat)
  case atStart => exact ⟨0, 0, none, 0, [], by omega, rfl, rfl, Nat.le_refl _, Lib.hid rfl, Ow.nil _ _ _, Below.refl _ _⟩
  case round =>
    obtain ⟨k, n, ay, cy, D, hk, rfl, rfl, hn, hDn, hO, hb⟩ := hrel
    by_cases hkt : k < 40
    · have hkl : (k : Int) < 40 := by omega
      have hwk : IntKind.i64.wrap ((k : Int) + 1) = (k : Int) + 1 := by rw [IntKind.wrap_i64] <;> omega
      have KH1 := Lib.hid (rhas_walk sa A ac (k : Int) wr (hA.keep hb) (by omega))
      have KH2 := Lib.hid (rhas_walk sb C bc (k : Int) wr (hC.keep hb) (by omega))
      have HN2 : Hid ((D ++ [(k : Int)]).length = n + 1) := Lib.hid (by rw [List.length_append, hDn.out]; rfl)
      have hsz := hb.size
      generalize decide ((k : Int) ∈ A) = b1 at *
      generalize decide ((k : Int) ∈ C) = b2 at *
      cases b1 with
      | true =>
        go_wp2_with (first
          | (go_at_call 14; (with_reducible refine KH1.out.mono ?_); (first | rintro e w9 ⟨rfl, rfl⟩ | rintro e w9 rfl rfl))
          | (at_builtin; refine wpList_app1 (w0 := w) (B := w.heap.size) (base := w.heap.size) rfl _ _ _ rfl el_int rfl hO hb (Nat.le_refl _) hsz rfl (by rfl) (one1 rfl) (by omega) ?_; intro a3 c3 wA hO9 hb9 hg9; clear hg9))
        rw [ints_snoc] at hO9
        clear hO hb
        have HO9 := Lib.hid hO9
        have Hb9 := Lib.hid hb9
        clear hO9 hb9
        go_roundw
        case rel => exact ⟨k + 1, n + 1, a3, c3, D ++ [(k : Int)], by omega, by go_num, rfl, by omega, HN2, HO9.out, Hb9.out⟩
        case measure => simp [intOf]; omega
      | false =>
        cases b2 with
        | true =>
          go_wp2_with (first
            | (go_at_call 14; (with_reducible refine KH1.out.mono ?_); (first | rintro e w9 ⟨rfl, rfl⟩ | rintro e w9 rfl rfl))
            | (go_at_call 14; (with_reducible refine KH2.out.mono ?_); (first | rintro e w9 ⟨rfl, rfl⟩ | rintro e w9 rfl rfl))
            | (at_builtin; refine wpList_app1 (w0 := w) (B := w.heap.size) (base := w.heap.size) rfl _ _ _ rfl el_int rfl hO hb (Nat.le_refl _) hsz rfl (by rfl) (one1 rfl) (by omega) ?_; intro a3 c3 wA hO9 hb9 hg9; clear hg9))
          rw [ints_snoc] at hO9
          clear hO hb
          have HO9 := Lib.hid hO9
          have Hb9 := Lib.hid hb9
          clear hO9 hb9
          go_roundw
          case rel => exact ⟨k + 1, n + 1, a3, c3, D ++ [(k : Int)], by omega, by go_num, rfl, by omega, HN2, HO9.out, Hb9.out⟩
          case measure => simp [intOf]; omega
        | false =>
          have HO9 := Lib.hid hO
          have Hb9 := Lib.hid hb
          clear hO hb
          go_wp2_with (first
            | (go_at_call 14; (with_reducible refine KH1.out.mono ?_); (first | rintro e w9 ⟨rfl, rfl⟩ | rintro e w9 rfl rfl))
            | (go_at_call 14; (with_reducible refine KH2.out.mono ?_); (first | rintro e w9 ⟨rfl, rfl⟩ | rintro e w9 rfl rfl)))
          go_roundw
          case rel => exact ⟨k + 1, n, ay, cy, D, by omega, by go_num, rfl, by omega, hDn, HO9.out, Hb9.out⟩
          case measure => simp [intOf]; omega
    · have hkl : ¬ (k : Int) < 40 := by omega
      obtain rfl := hDn.out
      have HO9 := Lib.hid hO
      have Hb9 := Lib.hid hb
      clear hO hb
      go_wp2
      go_ret
      exact ⟨D, ay, cy, rfl, by omega, HO9.out, Hb9.out⟩
set_option maxRecDepth 100000 in
theorem put_any (A : List Int) (sa : Option Addr) (ac : Nat) (x : Int) (w : World) (hA : Rd w sa (ints A)) (hAl : A.length ≤ 1000) :
    Calls Tryz.prog 23 #[.slice sa A.length ac, .int .i64 x] w fun e w' => ∃ D a' c', e = .returned (.slice a' (D : List Int).length c') ∧ D.length ≤ 40 ∧ Ow w' w.heap.size 1 a' D.length c' (ints D) ∧ Below w.heap.size w w' := by
  have hbN := (Below.refl w.heap.size w).alloc (Nat.le_refl _) (.cells #[.int .i64 x] 3)
  have KM := Lib.hid (show Calls Tryz.prog 15 #[.slice sa A.length ac, .slice (some ⟨w.heap.size, 0, none⟩) 1 1] (w.alloc (.cells #[.int .i64 x] 3)) _ from merge_any A [x] sa (some ⟨w.heap.size, 0, none⟩) ac 1 _ (hA.keep hbN) (new_int1 w x) hAl (by simp))
  have HB := Lib.hid hbN
  clear hA hbN
  go_enter Tryz.func23, Tryz.ntmps23
  go_wp2_with (go_at_call 15; (with_reducible refine KM.out.mono ?_); (first | rintro e w1 ⟨D, a3, c3, rfl, hD, hO, hb⟩ | rintro e w1 D a3 c3 rfl hD hO hb))
  go_ret
  exact ⟨D, a3, c3, rfl, hD, hO.lower HB.out.size, below_tr HB.out hb⟩
set_option maxRecDepth 100000 in
theorem made28_walk (n : Int) (w : World) : Calls Tryz.prog 25 #[.int .i64 n, .int .i64 9] w fun e w' => e = .returned (.int .i64 (n % 9)) ∧ Below w.heap.size w w' := by
  have KM := Lib.hid (fun V => dmod_walk n 9 V (by decide) (by decide))
  go_enter Tryz.func25, Tryz.ntmps25
  go_wp2_with (go_at_call 38; (with_reducible refine (KM.out _).mono ?_); (first | rintro e w1 ⟨rfl, rfl⟩ | rintro e w1 rfl rfl))
  go_ret
  exact ⟨rfl, Below.refl _ _⟩
end Go.Proofs.YtpofijdkckaphaaGreatDoor
