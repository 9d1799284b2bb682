/- The journal: the reference's Read, Start, Arm. -/
import Derived.Test.YthelmlmheioljaaJournalS
namespace Go.Proofs.Ythelmlmheioljaa
open Go.RowKit
set_option maxRecDepth 100000 in
theorem rjread_walk (d : List UInt8) (f : Int) (b : Bool) (w : World) (hd : d.length ≤ 281474976710656) :
    Calls Try.prog 24 #[.agg #[.string ⟨d.toArray⟩, .int .i64 f, .bool b]] w fun e w' => ∃ a cap, e = .returned (.tuple #[.slice a (readF d f).length cap, .int .i64 (endF (readF d f) : Int), .int .i64 (checkF d f)]) ∧ Rd w' a (strs (readF d f)) ∧ Below w.heap.size w w' := by
  have hb0 := (Below.refl w.heap.size w).alloc (Nat.le_refl _) (.cells #[.string ⟨d.toArray⟩, .int .i64 f, .bool b] 23)
  have hD := Dk.new w d f b
  go_enter Try.func24, Try.ntmps24
  go_wp2_with (go_at_call 29; (with_reducible refine (rjcheck_walk d f b _ hd).mono ?_))
  rintro e w1 ⟨rfl, hb1⟩
  replace hD := hD.keep hb1
  replace hb0 := hb0.trans (hb1.mono (by simp))
  have c0 := hD.c0
  clear hb1 hD
  rcases checkF_cases d f with ⟨hc, hl, h1, h2⟩ | hc
  · have HR := Lib.hid (readF_ok hc)
    have HC := Lib.hid hc
    rw [hc]
    clear hc
    go_wp2_with (go_at_call 34; (with_reducible refine (rgood_walk d _ hl).mono ?_))
    rintro e w2 ⟨a, cap, rfl, hR, hb2⟩
    generalize hg : goods d = gs at *
    generalize hen : endF gs = en at *
    generalize hln : gs.length = ln at *
    have HG := Lib.hid hg
    have HE := Lib.hid hen
    have HL := Lib.hid hln
    clear hg hen hln
    go_wp2
    go_ret3
    exact ⟨a, cap, by rw [HC.out, HR.out, HL.out, HE.out]; rfl, by rw [HR.out]; exact hR, hb0.trans (hb2.mono hb0.size)⟩
  · have HR := Lib.hid (readF_no hc)
    have HC := Lib.hid hc
    rw [hc]
    clear hc
    go_wp2
    go_ret3
    exact ⟨none, 0, by rw [HC.out, HR.out]; rfl, by rw [HR.out]; exact Rd.nil _ _, hb0⟩
set_option maxRecDepth 100000 in
theorem rjstart_walk (d : List UInt8) (f : Int) (b : Bool) (w : World) (hd : d.length ≤ 281474976710656) :
    Calls Try.prog 25 #[.agg #[.string ⟨d.toArray⟩, .int .i64 f, .bool b]] w fun e w' => e = .returned (.tuple #[.agg #[.string ⟨(startF d f).toArray⟩, .int .i64 0, .bool false], .int .i64 (checkF d f)]) ∧ Below w.heap.size w w' := by
  have hb0 := ((Below.refl w.heap.size w).alloc (Nat.le_refl _) (.cells #[.string ⟨d.toArray⟩, .int .i64 f, .bool b] 23)).alloc (by simp) (.cells #[.string ⟨#[]⟩, .int .i64 0, .bool false] 23)
  have hD := (Dk.new w d f b).alloc (.cells #[.string ⟨#[]⟩, .int .i64 0, .bool false] 23)
  have hE := Dk.new (w.alloc (.cells #[.string ⟨d.toArray⟩, .int .i64 f, .bool b] 23)) [] 0 false
  rw [World.size_alloc] at hE
  go_enter Try.func25, Try.ntmps25
  go_wp2_with (go_at_call 29; (with_reducible refine (rjcheck_walk d f b _ hd).mono ?_))
  rintro e w1 ⟨rfl, hb1⟩
  replace hD := hD.keep hb1
  replace hE := hE.keep hb1
  replace hb0 := hb0.trans (hb1.mono (by simp; omega))
  clear hb1
  rcases checkF_cases d f with ⟨hc, hl, -, -⟩ | hc
  · have hle := goods_end d
    have hS : startF d f = d.take (endF (goods d)) := by rw [startF, if_pos hc]
    have HS := Lib.hid hS
    have HC := Lib.hid hc
    have c0 := hD.c0
    rw [hc]
    clear hc hS
    go_wp2_with (go_at_call 34; (with_reducible refine (rgood_walk d _ hl).mono ?_))
    rintro e w2 ⟨a, cap, rfl, -, hb2⟩
    generalize endF (goods d) = n at *
    generalize (goods d).length = m at *
    replace hD := hD.keep hb2
    replace hE := hE.keep hb2
    replace hb0 := hb0.trans (hb2.mono (by have := hb0.size; omega))
    clear hb2 c0
    have c0 := hD.c0
    have c1 := hD.c1
    have c2 := hD.c2
    have e0 := hE.c0
    have e1 := hE.c1
    have e2 := hE.c2
    have f0 := hE.free 0
    have f1 := hE.free 1
    have f2 := hE.free 2
    have hni : (n : Int) ≤ (d.length : Int) := by omega
    go_wp2
    exact bodyPost_ret (Dk.ret (t := 2) (u := 3) rfl _ rfl (hE.store (d.take n) 0 false)) rfl ⟨by rw [HC.out, HS.out]; rfl, below3 hb0 (by omega) _ _ _⟩
  · have hS : startF d f = [] := by rw [startF, if_neg (by omega)]
    have HS := Lib.hid hS
    have HC := Lib.hid hc
    rw [hc]
    clear hc hS
    have c0 := hD.c0
    have c1 := hD.c1
    have c2 := hD.c2
    have e0 := hE.c0
    have e1 := hE.c1
    have e2 := hE.c2
    have f0 := hE.free 0
    have f1 := hE.free 1
    have f2 := hE.free 2
    go_wp2
    exact bodyPost_ret (Dk.ret (t := 2) (u := 3) rfl _ rfl (hE.store [] 0 false)) rfl ⟨by rw [HC.out, HS.out]; rfl, below3 hb0 (by omega) _ _ _⟩
set_option maxRecDepth 100000 in
theorem rjarm_walk (d : List UInt8) (f : Int) (b : Bool) (n : Int) (w : World) (hd : d.length ≤ 281474976710656) :
    Calls Try.prog 26 #[.agg #[.string ⟨d.toArray⟩, .int .i64 f, .bool b], .int .i64 n] w fun e w' => e = .returned (dres (armF d f b n)) ∧ Below w.heap.size w w' := by
  have hb0 := ((Below.refl w.heap.size w).alloc (Nat.le_refl _) (.cells #[.string ⟨d.toArray⟩, .int .i64 f, .bool b] 23)).alloc (by simp) (.cells #[.string ⟨#[]⟩, .int .i64 0, .bool false] 23)
  have hD := (Dk.new w d f b).alloc (.cells #[.string ⟨#[]⟩, .int .i64 0, .bool false] 23)
  have hE := Dk.new (w.alloc (.cells #[.string ⟨d.toArray⟩, .int .i64 f, .bool b] 23)) [] 0 false
  rw [World.size_alloc] at hE
  go_enter Try.func26, Try.ntmps26
  go_wp2_with (go_at_call 29; (with_reducible refine (rjcheck_walk d f b _ hd).mono ?_))
  rintro e w1 ⟨rfl, hb1⟩
  replace hD := hD.keep hb1
  replace hE := hE.keep hb1
  replace hb0 := hb0.trans (hb1.mono (by simp; omega))
  clear hb1
  have c0 := hD.c0
  have c1 := hD.c1
  have c2 := hD.c2
  have e0 := hE.c0
  have e1 := hE.c1
  have e2 := hE.c2
  have f0 := hE.free 0
  have f1 := hE.free 1
  have f2 := hE.free 2
  have g1 := hD.free 1
  rcases checkF_cases d f with ⟨hc, -, -, -⟩ | hc
  · cases b with
    | true =>
      have HA := Lib.hid (show armF d f true n = ([], 0, false, 54) by rw [armF, if_pos hc, if_pos rfl])
      rw [hc]
      clear hc
      go_wp2
      exact bodyPost_ret (Dk.ret (t := 4) (u := 5) rfl _ rfl (hE.store [] 0 false)) rfl ⟨by rw [HA.out]; rfl, below3 hb0 (by omega) _ _ _⟩
    | false =>
      by_cases h0 : n < 0
      · have HA := Lib.hid (show armF d f false n = ([], 0, false, 2) by rw [armF, if_pos hc, if_neg (by simp), if_neg (by omega)])
        have d1 : decide (n < 0) = true := decide_eq_true h0
        rw [hc]
        clear hc
        go_wp2
        exact bodyPost_ret (Dk.ret (t := 4) (u := 5) rfl _ rfl (hE.store [] 0 false)) rfl ⟨by rw [HA.out]; rfl, below3 hb0 (by omega) _ _ _⟩
      · have d1 : decide (n < 0) = false := decide_eq_false h0
        by_cases h1 : n > 65536
        · have HA := Lib.hid (show armF d f false n = ([], 0, false, 2) by rw [armF, if_pos hc, if_neg (by simp), if_neg (by omega)])
          have d2 : decide (n > 65536) = true := decide_eq_true h1
          rw [hc]
          clear hc
          go_wp2
          exact bodyPost_ret (Dk.ret (t := 4) (u := 5) rfl _ rfl (hE.store [] 0 false)) rfl ⟨by rw [HA.out]; rfl, below3 hb0 (by omega) _ _ _⟩
        · have HA := Lib.hid (show armF d f false n = (d, n, false, 0) by rw [armF, if_pos hc, if_neg (by simp), if_pos (by omega)])
          have d2 : decide (n > 65536) = false := decide_eq_false h1
          rw [hc]
          clear hc
          have hD2 := hD.set1 n
          have hE2 := hE.other (g' := w.heap.size) (by omega) 1 (.int .i64 n)
          have c0' := hD2.c0
          have c1' := hD2.c1
          have c2' := hD2.c2
          have e0' := hE2.c0
          have e1' := hE2.c1
          have e2' := hE2.c2
          have f0' := hE2.free 0
          have f1' := hE2.free 1
          have f2' := hE2.free 2
          go_wp2
          exact bodyPost_ret (Dk.ret (t := 4) (u := 5) rfl _ rfl (hE2.store d n false)) rfl ⟨by rw [HA.out]; rfl, below3 (hb0.setCell (p := ⟨w.heap.size, 1, none⟩) (Nat.le_refl _) _) (by omega) _ _ _⟩
  · have HA := Lib.hid (show armF d f b n = ([], 0, false, 53) by rw [armF, if_neg (by omega)])
    rw [hc]
    clear hc
    go_wp2
    exact bodyPost_ret (Dk.ret (t := 4) (u := 5) rfl _ rfl (hE.store [] 0 false)) rfl ⟨by rw [HA.out]; rfl, below3 hb0 (by omega) _ _ _⟩
end Go.Proofs.Ythelmlmheioljaa
