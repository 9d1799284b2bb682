/- The law GreatestOpened walked. -/
import Derived.Test.YtpofijdkckaphaaGreatGGreHas
import Derived.Test.YtpofijdkckaphaaGreatGGreX
import Derived.Test.YtpofijdkckaphaaGreatLSame
namespace Go.Proofs.YtpofijdkckaphaaGreat
open Go.RowKit
theorem se_one (L : List Seat) : ∀ u ∈ rowsC seC L, u.oneCell' = true := rowsC_one (fun x u hu => by
  simp only [seC, List.mem_cons, List.not_mem_nil, or_false] at hu
  rcases hu with rfl | rfl | rfl | rfl | rfl | rfl | rfl <;> rfl) L
/-- some seats opened, in a slice of the call's own -/
structure Oo (w0 w : World) (S : List Int) (L O : List Seat) (k : Nat) (a7 : Option Addr) (c : Nat) : Prop where
  p : Opd S L O k
  o : Ow w w0.heap.size 7 a7 L.length c (rowsC seC O)
  b : Below w0.heap.size w0 w
theorem Oo.free {w0 w : World} {S : List Int} {L O : List Seat} {k g off c : Nat} (h : Oo w0 w S L O k (some ⟨g, off, none⟩) c) {i j : Nat} (hi : i < L.length) (hj : j < 7) : w.frozen? ⟨g, off + i * 7 + j, none⟩ = false := by
  have hb := (h.o.both).2 (i * 7 + j) (by have := h.o.2.1; omega)
  rw [Nat.add_assoc]
  exact hb.2
theorem Oo.rd {w0 w : World} {S : List Int} {L O : List Seat} {k c : Nat} {a7 : Option Addr} (h : Oo w0 w S L O k a7 c) {a : Option Addr} (hL : RdS w0 a L) : RdS w a7 O := by
  have key : ∀ y ∈ O, ∃ x ∈ L, y.mem = x.mem ∧ y.T = x.T ∧ y.ca = x.ca := fun y hy => by
    obtain ⟨j, hj, rfl⟩ := List.getElem_of_mem hy
    have hl : j < L.length := by rw [← h.p.len]; exact hj
    have := h.p.each j L[j] (List.getElem?_eq_getElem hl)
    rw [List.getElem?_eq_getElem hj] at this
    exact ⟨L[j], List.getElem_mem hl, by rw [Option.some.inj this], by rw [Option.some.inj this], by rw [Option.some.inj this]⟩
  have hK := hL.keep h.b
  refine ⟨h.o.rd, fun y hy => ?_, fun y hy => ?_, fun y hy => ?_, fun y hy => ?_⟩
  · obtain ⟨x, hx, -, h2, h3⟩ := key y hy
    rw [h2, h3]; exact hK.cnd x hx
  · obtain ⟨x, hx, h1, -, -⟩ := key y hy
    rw [h1]; exact hK.ans x hx
  · obtain ⟨x, hx, h1, -, -⟩ := key y hy
    rw [h1]; exact hK.ok x hx
  · obtain ⟨x, hx, -, h2, -⟩ := key y hy
    rw [h2]; exact hK.tl x hx
theorem Oo.set {w0 w : World} {S : List Int} {L O : List Seat} {k g off c : Nat} (h : Oo w0 w S L O k (some ⟨g, off, none⟩) c) (hk : (k : Int) ∈ S) {x : Seat} (hx : L[k]? = some x) : ∃ O', Oo w0 (w.setCell ⟨g, off + k * 7 + 6, none⟩ (.bool true)) S L O' (k + 1) (some ⟨g, off, none⟩) c := by
  obtain ⟨h1, h2⟩ := h.o.stored (k * 7 + 6) (.bool true)
  rw [← Nat.add_assoc] at h1 h2
  refine ⟨O.set k { x with opn := true }, h.p.set hk hx, ?_, h.b.setCell (p := ⟨g, off + k * 7 + 6, none⟩) (h.o.row g rfl).1 _⟩
  rw [rows_set (f := seC) (size := 7) seC_len (j := 6) (v := .bool true) (by decide) rfl O k (h.p.each k x hx)]
  exact h1
/-- some seats made free, in a slice of the call's own -/
structure Ff (w0 w : World) (L F : List Seat) (k : Nat) (a7 : Option Addr) (c : Nat) : Prop where
  p : Fre L F k
  o : Ow w w0.heap.size 7 a7 L.length c (rowsC seC F)
  b : Below w0.heap.size w0 w
  ok : ∀ y ∈ F, SeOk w y
  row : ∀ y ∈ F, ∀ j, SeRow y j → j < w.heap.size ∧ rowOf a7 ≠ some j
theorem Ff.free {w0 w : World} {L F : List Seat} {k g off c : Nat} (h : Ff w0 w L F k (some ⟨g, off, none⟩) c) {i j : Nat} (hi : i < L.length) (hj : j < 7) : w.frozen? ⟨g, off + i * 7 + j, none⟩ = false := by
  have hb := (h.o.both).2 (i * 7 + j) (by have := h.o.2.1; omega)
  rw [Nat.add_assoc]
  exact hb.2
theorem Ff.keep {w0 w w' : World} {L F : List Seat} {k c : Nat} {a7 : Option Addr} (h : Ff w0 w L F k a7 c) (hb : Below w.heap.size w w') : Ff w0 w' L F k a7 c :=
  ⟨h.p, h.o.keep hb, below_tr h.b hb, fun y hy => (h.ok y hy).keep hb, fun y hy j hj => ⟨Nat.lt_of_lt_of_le (h.row y hy j hj).1 hb.size, (h.row y hy j hj).2⟩⟩
theorem Ff.set {w0 w : World} {L F : List Seat} {k g off c : Nat} (h : Ff w0 w L F k (some ⟨g, off, none⟩) c) {z : Seat} (hz : F[k]? = some z) : ∃ F', Ff w0 ((w.alloc (.cells #[.int .i64 8, .int .i64 0, .int .i64 0, .string ⟨#[]⟩, .string ⟨#[]⟩, .slice none 0 0] 42)).setCell ⟨g, off + k * 7 + 5, none⟩ (.slice (some ⟨w.heap.size, 0, none⟩) 1 1)) L F' (k + 1) (some ⟨g, off, none⟩) c := by
  have hbA := (Below.refl w.heap.size w).alloc (Nat.le_refl _) (.cells #[.int .i64 8, .int .i64 0, .int .i64 0, .string ⟨#[]⟩, .string ⟨#[]⟩, .slice none 0 0] 42)
  have hR : Rd (w.alloc (.cells #[.int .i64 8, .int .i64 0, .int .i64 0, .string ⟨#[]⟩, .string ⟨#[]⟩, .slice none 0 0] 42)) (some ⟨w.heap.size, 0, none⟩) (rowsC trC [alwT]) := Rd.mk fun j u hj => by rw [Nat.zero_add, World.cell?_alloc_at _ _ _ _ rfl]; simpa [rowsC, trC, alwT] using hj
  have hA := h.keep hbA
  have hg := (h.o.row g rfl)
  have hsz : (w.alloc (.cells #[.int .i64 8, .int .i64 0, .int .i64 0, .string ⟨#[]⟩, .string ⟨#[]⟩, .slice none 0 0] 42)).heap.size = w.heap.size + 1 := by simp
  generalize w.alloc (.cells #[.int .i64 8, .int .i64 0, .int .i64 0, .string ⟨#[]⟩, .string ⟨#[]⟩, .slice none 0 0] 42) = v at *
  obtain ⟨h1, h2⟩ := hA.o.stored (k * 7 + 5) (.slice (some ⟨w.heap.size, 0, none⟩) 1 1)
  rw [← Nat.add_assoc] at h1 h2
  have hk := Kp.of_grown h2 (S := fun j => j = g) (fun j e => (Option.some.inj e).symm)
  have hzm : z ∈ F := List.mem_of_getElem? hz
  refine ⟨F.set k { z with T := [alwT], ca := some ⟨w.heap.size, 0, none⟩, cc := 1 }, h.p.set hz _, ?_, hA.b.setCell (p := ⟨g, off + k * 7 + 5, none⟩) hg.1 _, fun y hy => ?_, fun y hy j hj => ?_⟩
  · rw [rows_set (f := seC) (size := 7) seC_len (j := 5) (v := .slice (some ⟨w.heap.size, 0, none⟩) 1 1) (by decide) rfl F k hz]
    exact h1
  · rcases List.mem_or_eq_of_mem_set hy with hy | hy
    · exact (hA.ok y hy).kp hk (fun j hj e => (hA.row y hy j hj).2 (by rw [e]; rfl))
    · subst hy
      refine ⟨⟨hR.kp hk (fun j hj e => ?_), fun t ht => ?_, fun t ht => ?_⟩, (hA.ok z hzm).2.1.kp hk (fun j hj e => (hA.row z hzm j (.inr (.inr hj))).2 (by rw [e]; rfl)), (hA.ok z hzm).2.2.1, ?_⟩
      · have := Option.some.inj hj; simp at this; omega
      · rw [List.mem_singleton.1 ht]; exact Rd.nil _ _
      · rw [List.mem_singleton.1 ht]
        exact term_in 8 0 0 [] [] [] none 0 (by omega) (by omega) (by omega) (by simp) (by simp) (by simp) (by simp) (by simp)
      · show ([alwT] : List Trm).length ≤ 1000
        simp
  · rw [World.size_setCell]
    rcases List.mem_or_eq_of_mem_set hy with hy | hy
    · exact hA.row y hy j hj
    · subst hy
      rcases hj with hj | ⟨t, ht, hj⟩ | hj
      · have hjw : w.heap.size = j := Option.some.inj hj
        exact ⟨by omega, fun e => by have : g = j := Option.some.inj e; omega⟩
      · rw [List.mem_singleton.1 ht] at hj; simp [rowOf, alwT] at hj
      · exact hA.row z hzm j (.inr (.inr hj))
theorem Ff.rd {w0 w : World} {L F : List Seat} {k c : Nat} {a7 : Option Addr} (h : Ff w0 w L F k a7 c) : RdS w a7 F := rdS_mk h.o.rd h.ok
theorem se_len (L : List Seat) : (rowsC seC L).length = L.length * 7 := rowsC_length seC_len L
set_option maxRecDepth 100000 in
set_option maxHeartbeats 8000000 in
theorem opened_walk (W : World) (p : Option Addr) (l : List Int) (cap : Nat) (hR : Rd W p (ints l)) (hl : l.length ≤ 17592186043904) :
    Calls Tryz.prog 4 #[.slice p l.length cap] W fun e w' => e = .returned (.bool true) ∧ Below W.heap.size W w' := by
  have KA := Lib.hid awake28
  have hl48 : l.length ≤ 281474976710656 := by omega
  have HR := Lib.hid hR
  clear hR
  go_enter Tryz.func4, Tryz.ntmps4
  go_wp2_with (go_at_call 5; (with_reducible refine (light_walk _ _ _ _ hl48).mono ?_))
  rintro e w1 ⟨rfl, rfl⟩
  by_cases hq : 500 < l.length
  · have h1 : decide (l.length ≤ 500) = false := by simp; omega
    clear hq
    go_wp2_with (go_at_call 6; (with_reducible refine (KA.out _).mono ?_))
    (first | rintro e w1 rfl hb1 | rintro e w1 ⟨rfl, hb1⟩)
    go_wp2
    go_ret
    exact ⟨rfl, hb1⟩
  have hd5 : decide (l.length ≤ 500) = true := by simp; omega
  clear hq
  go_upto_region 4 with (go_at_call 7; (with_reducible refine (roll_walk _ _ _ _).mono ?_); (first | rintro e w1 rfl hD hb1 | rintro e w1 ⟨rfl, hD, hb1⟩))
  have hDc := Dc.first hD HR.out hb1 hl48
  clear hD hb1 hd5
  have KS := Lib.hid (show Calls Tryz.prog 8 #[.pointer (some ⟨W.heap.size, 0, none⟩), .int .i64 8] w1 _ from pseats_walk W W.heap.size p l cap 8 (by decide) w1 hDc)
  clear hDc
  go_upto_region 5 with (go_at_call 8; (with_reducible refine KS.out.mono ?_); (first | rintro e w2 ⟨L, a, c, m, rfl, hL8, hm, hS⟩ | rintro e w2 L a c m rfl hL8 hm hS))
  have hRS := hS.rdS
  have HBW := Lib.hid hS.d.below
  have HROW := Lib.hid (fun x (hx : x ∈ L) j hj => (hS.row x hx j hj).2.1)
  have HOK := Lib.hid hS.ok
  clear hS KS hm HR
  have KS1 := Lib.hid (gset_walk L a c w2 hRS (by omega))
  have HAG := Lib.hid (fun O (hO : Opd (setP (opS L) (holdS wiF L) L.length) L O L.length) => hO.again wiF)
  have HIN := Lib.hid (fun i (h1 : i ∈ upI L.length) (h2 : opS L i = true) => set_opened (op := opS L) (H := holdS wiF L) h1 h2)
  have hs8 := setP_len (opS L) (holdS wiF L) L.length
  generalize setP (opS L) (holdS wiF L) L.length = S1 at *
  have HRS := Lib.hid hRS
  clear hRS
  go_upto_region 6 with (go_at_call 9; (with_reducible refine KS1.out.mono ?_); (first | rintro e w3 ⟨a5, c5, rfl, hR5, hb3⟩ | rintro e w3 a5 c5 rfl hR5 hb3))
  have hRS3 := HRS.out.keep hb3
  have HB3 := Lib.hid (HBW.out.trans (hb3.mono HBW.out.size))
  have HROW3 := Lib.hid (fun x (hx : x ∈ L) j hj => Nat.lt_of_lt_of_le (HROW.out x hx j hj) hb3.size)
  have HOK3 := Lib.hid (fun x (hx : x ∈ L) => (HOK.out x hx).keep hb3)
  have HR5 := Lib.hid hR5
  clear hb3 KS1 HBW HROW HOK HRS hR5
  go_upto_region 8 with (at_builtin; refine wpList_apps (w0 := w3) (B := w3.heap.size) (base := w3.heap.size) rfl _ _ _ _ rfl elSeat rfl (Ow.nil _ _ _) (Below.refl _ _) (Nat.le_refl _) (Nat.le_refl _) rfl (Src.slice elSeat.u (se_len L) hRS3.rows (se_one L)) (by omega) ?_; intro a7 c7 w4 hO4 hb4 hg4; clear hg4; rw [Nat.zero_add] at hO4 ⊢; rw [List.nil_append] at hO4)
  have hOo : Oo w3 w4 S1 L L 0 a7 c7 := ⟨Opd.first S1 L, hO4, hb4⟩
  have HRS3 := Lib.hid hRS3
  clear hO4 hb4 hRS3
  go_loopw [8] (fun iv wr => ∃ (k : Nat) (O : List Seat), k ≤ L.length ∧ iv = .int .i64 (k : Int) ∧ Oo w3 wr S1 L O k a7 c7) (fun iv _ => L.length - (intOf iv).toNat)
  case atStart => exact ⟨0, L, Nat.zero_le _, rfl, hOo⟩
  case round =>
    clear hOo
    obtain ⟨k, O, hk, rfl, hO⟩ := hrel
    by_cases hkt : k < L.length
    · have hkl : (k : Int) < (L.length : Int) := by omega
      have hwk : IntKind.i64.wrap ((k : Int) + 1) = (k : Int) + 1 := by rw [IntKind.wrap_i64] <;> omega
      have HO := Lib.hid hO
      obtain ⟨g7, o7, y, rfl, -, -, -, -, -, -, -, y6⟩ := (hO.rd HRS3.out).seat (k := k) (by rw [hO.p.len]; exact hkt)
      have f6 := hO.free hkt (j := 6) (by decide)
      obtain ⟨gl, ol, x, rfl, hx, -, -, -, -, -, -, x6⟩ := (HRS3.out.keep hO.b).seat hkt
      have hop := opS_at hx.out
      have KH := Lib.hid (rhas_walk a5 S1 c5 (k : Int) wr (HR5.out.keep hO.b) (by omega))
      by_cases him : (k : Int) ∈ S1
      · rw [decide_eq_true him] at KH
        obtain ⟨O', hO'⟩ := hO.set him hx.out
        have HO' := Lib.hid hO'
        clear hO hO' him hx hop
        generalize x.opn = oo at *
        cases oo
        · go_wp2_with (go_at_call 10; (with_reducible refine KH.out.mono ?_); (first | rintro e w9 ⟨rfl, rfl⟩ | rintro e w9 rfl rfl))
          go_roundw
          case rel => exact ⟨k + 1, O', by omega, by go_num, HO'.out⟩
          case measure => simp [intOf]; omega
        · go_wp2_with (go_at_call 10; (with_reducible refine KH.out.mono ?_); (first | rintro e w9 ⟨rfl, rfl⟩ | rintro e w9 rfl rfl))
          go_roundw
          case rel => exact ⟨k + 1, O', by omega, by go_num, HO'.out⟩
          case measure => simp [intOf]; omega
      · rw [decide_eq_false him] at KH
        have hof : x.opn = false := by
          cases hz : x.opn with
          | false => rfl
          | true => exact absurd (HIN.out (k : Int) (mem_upI.2 ⟨by omega, by omega⟩) (by rw [hop, hz])) him
        have HO' : Hid (Oo w3 wr S1 L O (k + 1) (some ⟨g7, o7, none⟩) c7) := Lib.hid ⟨hO.p.skip him, hO.o, hO.b⟩
        rw [hof] at x6
        clear hO him hx hop hof
        go_wp2_with (go_at_call 10; (with_reducible refine KH.out.mono ?_); (first | rintro e w9 ⟨rfl, rfl⟩ | rintro e w9 rfl rfl))
        go_roundw
        case rel => exact ⟨k + 1, O, by omega, by go_num, HO'.out⟩
        case measure => simp [intOf]; omega
    · have hkl : ¬ (k : Int) < (L.length : Int) := by omega
      obtain rfl : k = L.length := by omega
      have KS2 := gset_walk O a7 c7 wr (hO.rd HRS3.out) (by rw [hO.p.len]; omega)
      rw [hO.p.len, HAG.out O hO.p] at KS2
      have KS2H := Lib.hid KS2
      have HBo := Lib.hid hO.b
      clear hO KS2
      go_upto_region 15 with (go_at_call 9; (with_reducible refine KS2H.out.mono ?_); (first | rintro e w6 ⟨a6, c6, rfl, hR6, hb6⟩ | rintro e w6 a6 c6 rfl hR6 hb6))
      have hb36 := below_tr HBo.out hb6
      have HR5' := Lib.hid (HR5.out.keep hb36)
      have HR6 := Lib.hid hR6
      have HB6 := Lib.hid (HB3.out.trans (hb36.mono HB3.out.size))
      have hRS6 := HRS3.out.keep hb36
      have HROW6 := Lib.hid (fun x (hx : x ∈ L) j hj => Nat.lt_of_lt_of_le (HROW3.out x hx j hj) hb36.size)
      have HOK6 := Lib.hid (fun x (hx : x ∈ L) => (HOK3.out x hx).keep hb36)
      clear hR6 hb6 hb36 KS2H HBo HR5 HB3 HRS3 HROW3 HOK3
      go_upto_region 17 with (at_builtin; refine wpList_apps (w0 := w6) (B := w6.heap.size) (base := w6.heap.size) rfl _ _ _ _ rfl elSeat rfl (Ow.nil _ _ _) (Below.refl _ _) (Nat.le_refl _) (Nat.le_refl _) rfl (Src.slice elSeat.u (se_len L) hRS6.rows (se_one L)) (by omega) ?_; intro a8 c8 w7 hO7 hb7 hg7; clear hg7; rw [Nat.zero_add] at hO7 ⊢; rw [List.nil_append] at hO7)
      have hFf : Ff w6 w7 L L 0 a8 c8 := ⟨Fre.first L, hO7, hb7, fun x hx => (HOK6.out x hx).keep hb7, fun x hx j hj => ⟨Nat.lt_of_lt_of_le (HROW6.out x hx j hj) hb7.size, fun e => by have := HROW6.out x hx j hj; have := (hO7.row j e).1; omega⟩⟩
      clear hO7 hb7 hRS6 HROW6 HOK6
      go_loopw [12] (fun iv wr => ∃ (k : Nat) (F : List Seat), k ≤ L.length ∧ iv = .int .i64 (k : Int) ∧ Ff w6 wr L F k a8 c8) (fun iv _ => L.length - (intOf iv).toNat)
      case atStart => exact ⟨0, L, Nat.zero_le _, rfl, hFf⟩
      case round =>
        clear hFf
        obtain ⟨k, F, hk, rfl, hF⟩ := hrel
        by_cases hkt : k < L.length
        · have hkl : (k : Int) < (L.length : Int) := by omega
          have hwk : IntKind.i64.wrap ((k : Int) + 1) = (k : Int) + 1 := by rw [IntKind.wrap_i64] <;> omega
          have hbA := (Below.refl wr.heap.size wr).alloc (Nat.le_refl _) (.cells #[.int .i64 8, .int .i64 0, .int .i64 0, .string ⟨#[]⟩, .string ⟨#[]⟩, .slice none 0 0] 42)
          have hFA := hF.keep hbA
          obtain ⟨g8, o8, z, rfl, hz, -, -, -, -, -, z5, -⟩ := hFA.rd.seat (k := k) (by rw [hF.p.len]; exact hkt)
          have f5 := hFA.free hkt (j := 5) (by decide)
          obtain ⟨F', hF'⟩ := hF.set hz.out
          have HF' := Lib.hid hF'
          clear hF hF' hFA hbA hz
          go_wp2
          go_roundw
          case rel => exact ⟨k + 1, F', by omega, by go_num, HF'.out⟩
          case measure => simp [intOf]; omega
        · have hkl : ¬ (k : Int) < (L.length : Int) := by omega
          obtain rfl : k = L.length := by omega
          have hK3 := gset_walk F a8 c8 wr hF.rd (by rw [hF.p.len]; omega)
          rw [Fre.all wiF hF.p, upI_len, hF.p.len] at hK3
          have KS3 := Lib.hid hK3
          have KSm := Lib.hid (fun V (hV : Below w6.heap.size w6 V) => lsame_eq a5 S1 c5 a6 c6 V (HR5'.out.keep hV) (HR6.out.keep hV) (by omega))
          have hb6r := hF.b
          have hle : ((L.length : Int) == (L.length : Int)) = true := beq_self_eq_true _
          clear hF hK3
          go_wp2_with (first
            | (go_at_call 9; (with_reducible refine KS3.out.mono ?_); (first | rintro e u1 ⟨a9, c9, rfl, -, hc1⟩ | rintro e u1 a9 c9 rfl - hc1))
            | (go_at_call 6; (with_reducible refine (KA.out _).mono ?_); (first | rintro e u2 ⟨rfl, hc2⟩ | rintro e u2 rfl hc2); have hc3 := below_tr (below_tr hb6r hc1) hc2)
            | (go_at_call 11; (with_reducible refine (KSm.out _ hc3).mono ?_); (first | rintro e u3 ⟨rfl, hc4⟩ | rintro e u3 rfl hc4)))
          go_ret
          exact ⟨rfl, HB6.out.trans ((below_tr hc3 hc4).mono HB6.out.size)⟩
end Go.Proofs.YtpofijdkckaphaaGreat
