/- The kit's odd records: something is changed. -/
import Derived.Test.YtgjjpijcakafhaaGCustodyV
import Derived.Test.YtgjjpijcakafhaaGCustodyV0
import Derived.Test.YtgjjpijcakafhaaGCustodyV1
import Derived.Test.YtgjjpijcakafhaaGCustodyV2
import Derived.Test.YtgjjpijcakafhaaGCustodyS
import Derived.Test.YtgjjpijcakafhaaGCustodyJ
namespace Go.Proofs.Ytgjjpijcakafhaa
open Go.RowKit
set_option maxRecDepth 100000 in
set_option maxHeartbeats 4000000 in
theorem odd_walk3 (W : World) (db : Nat) (p : Option Addr) (l : List Int) (cap q : Nat) (r : Rec) (w : World) (hE : Env W w db p l cap q) (hR : Rd W p (ints l)) (hdb : W.heap.size ≤ db) (hlen : l.length ≤ 281474976710656) (hI : r.In) (hbl : r.body.length ≤ 1000000) (hx : 3 ≤ dnum l q 6) :
    Calls Try.prog 17 #[.pointer (some ⟨db, 0, none⟩), .agg #[.int .i64 r.num, .int .i64 r.time, .int .i64 r.kind, .string ⟨r.body.toArray⟩, .string ⟨r.before.toArray⟩]] w (OddPost W w db p l cap r) := by
  have hne := rd_ne hR hdb
  have HNE := Lib.hid hne
  have HRW := Lib.hid hR
  have HI := Lib.hid hI
  have hwl := hE.dice.lt
  have hO : Od W w ((w.alloc (.cells #[.int .i64 r.num, .int .i64 r.time, .int .i64 r.kind, .string ⟨r.body.toArray⟩, .string ⟨r.before.toArray⟩] 24)).alloc (.cells #[.int .i64 0, .int .i64 0, .int .i64 0, .string ⟨#[]⟩, .string ⟨#[]⟩] 24)) db p l cap q w.heap.size (w.heap.size + 1) r := by
    have h1 := (Below.refl w.heap.size w).alloc (Nat.le_refl _) (.cells #[.int .i64 r.num, .int .i64 r.time, .int .i64 r.kind, .string ⟨r.body.toArray⟩, .string ⟨r.before.toArray⟩] 24)
    have h2 := h1.alloc (by simp) (.cells #[.int .i64 0, .int .i64 0, .int .i64 0, .string ⟨#[]⟩, .string ⟨#[]⟩] 24)
    refine ⟨hE.keep h2, Rk.keep (Rk.new w r) ((Below.refl _ _).alloc (Nat.le_refl _) _), ?_, below_grownBy h2 _, Nat.le_refl _, by omega, by omega⟩
    have h3 := heap_alloc_new (w.alloc (.cells #[.int .i64 r.num, .int .i64 r.time, .int .i64 r.kind, .string ⟨r.body.toArray⟩, .string ⟨r.before.toArray⟩] 24)) (.cells #[.int .i64 0, .int .i64 0, .int .i64 0, .string ⟨#[]⟩, .string ⟨#[]⟩] 24)
    rw [World.size_alloc] at h3
    exact h3
  clear hne hR hI hE
  go_enter Try.func17, Try.ntmps17
  go_wp2_with (go_at_call 13; (with_reducible refine (next_walk db p l cap q 6 _ hO.env.dice hO.env.rd HNE.out hlen (by omega) (by omega)).mono ?_))
  rintro e w1 ⟨rfl, hD1, hg1⟩
  replace hO := hO.next HNE.out hdb hwl hD1 hg1
  have a1 := dnum_lo l q (n := 6) (by omega)
  have a2 := dnum_hi l q (n := 6) (by omega)
  have HX := Lib.hid hx
  clear hx
  have hx := HX.out
  clear HX
  generalize dnum l q 6 = x6 at *
  generalize dnxt l q = q1 at *
  clear hD1 hg1
  obtain ⟨gb, hgb⟩ : ∃ gb, gb = w.heap.size := ⟨_, rfl⟩
  rw [← hgb] at hO ⊢
  obtain ⟨gr, hgr⟩ : ∃ gr, gr = gb + 1 := ⟨_, rfl⟩
  rw [← hgr] at hO ⊢
  clear hgb hgr
  have c0 := hO.rk.c0
  have c1 := hO.rk.c1
  have c2 := hO.rk.c2
  have c3 := hO.rk.c3
  have c4 := hO.rk.c4
  have f0 := hO.rk.free 0
  have f1 := hO.rk.free 1
  have f2 := hO.rk.free 2
  have f3 := hO.rk.free 3
  have f4 := hO.rk.free 4
  have z0 := hO.rz.c0
  have z1 := hO.rz.c1
  have z2 := hO.rz.c2
  have z3 := hO.rz.c3
  have z4 := hO.rz.c4
  have y0 := hO.rz.free 0
  have y1 := hO.rz.free 1
  have y2 := hO.rz.free 2
  have y3 := hO.rz.free 3
  have y4 := hO.rz.free 4
  have hne1 : gb ≠ gr := hO.hne
  have hne2 : gr ≠ gb := fun e => hne1 e.symm
  rcases (show x6 = 3 ∨ x6 = 4 ∨ x6 = 5 by omega) with rfl | rfl | rfl
  · have hlim : ¬ (9223372036854775807 < r.body.length + 1) := by omega
    have hO2 := hO.turn HRW.out hdb hwl 3 (.string ⟨(r.body ++ [120]).toArray⟩) (hO.rk.set3 (r.body ++ [120]))
    go_wp2_with fail
    refine bodyPost_ret (Rk.ret (t := 4) rfl _ rfl (hO2.rz.store { r with body := r.body ++ [120] })) rfl (OddPost.intro { r with body := r.body ++ [120] } q1 rfl ⟨⟨HI.out.num, HI.out.time, HI.out.kind⟩, by simp, by simp⟩ ?_ ?_)
    · exact (hO2.fin HRW.out hdb hwl _ _ _ _ _).1
    · exact (hO2.fin HRW.out hdb hwl _ _ _ _ _).2
  · clear c0 c1 c2 c3 c4 f0 f1 f2 f3 f4 z0 z1 z2 z3 z4 y0 y1 y2 y3 y4
    go_wp2_with (go_at_call 26; (with_reducible refine (rsum_walk [120] _ (by decide)).mono ?_))
    rintro e w2 ⟨rfl, hb2⟩
    replace hO := hO.keep hb2
    have sl := sha_length [120]
    obtain ⟨hx, hhx⟩ : ∃ hx, hx = sha [120] := ⟨_, rfl⟩
    rw [← hhx] at sl ⊢
    clear hb2 hhx
    go_wp2_with fail
    refine new_strs (fun V => Calls _ _ _ V _) [[], [120], hx] ?_
    intro w3 hb3 hRp
    have hsz := hO.env.dice.lt
    refine (dword_walk db p l cap q1 w2.heap.size [[], [120], hx] _ w3 (hO.keep hb3).env.dice (hO.keep hb3).env.rd HNE.out hlen hRp (by omega) (by simp) (by simp)).mono ?_
    rintro e w4 ⟨rfl, hD4, hg4⟩
    replace hO := (hO.keep hb3).next HNE.out hdb hwl hD4 hg4
    have wl := wordF_mem l q1 [[], [120], hx] (by simp)
    have wl1 : (wordF l q1 [[], [120], hx]).length ≤ 32 := by
      simp at wl; rcases wl with h | h | h <;> rw [h]
      · decide
      · decide
      · omega
    generalize wordF l q1 [[], [120], hx] = s1 at *
    generalize dnxt l q1 = q2 at *
    generalize w2.heap.size = g2 at *
    clear hD4 hg4 hb3 hRp wl sl
    have c0 := hO.rk.c0
    have c1 := hO.rk.c1
    have c2 := hO.rk.c2
    have c3 := hO.rk.c3
    have c4 := hO.rk.c4
    have f4 := hO.rk.free 4
    have z0 := hO.rz.c0
    have z1 := hO.rz.c1
    have z2 := hO.rz.c2
    have z3 := hO.rz.c3
    have z4 := hO.rz.c4
    have y0 := hO.rz.free 0
    have y1 := hO.rz.free 1
    have y2 := hO.rz.free 2
    have y3 := hO.rz.free 3
    have y4 := hO.rz.free 4
    have hO2 := hO.turn HRW.out hdb hwl 4 (.string ⟨s1.toArray⟩) (hO.rk.set4 s1)
    go_wp2_with fail
    refine bodyPost_ret (Rk.ret (t := 4) rfl _ rfl (hO2.rz.store { r with before := s1 })) rfl (OddPost.intro { r with before := s1 } q2 rfl ⟨⟨HI.out.num, HI.out.time, HI.out.kind⟩, by simp, by simp; omega⟩ ?_ ?_)
    · exact (hO2.fin HRW.out hdb hwl _ _ _ _ _).1
    · exact (hO2.fin HRW.out hdb hwl _ _ _ _ _).2
  · go_wp2_with fail
    refine bodyPost_ret (Rk.ret (t := 4) rfl _ rfl (hO.rz.store r)) rfl (OddPost.intro r q1 rfl (Ok.same HI.out) ?_ ?_)
    · exact (hO.fin HRW.out hdb hwl _ _ _ _ _).1
    · exact (hO.fin HRW.out hdb hwl _ _ _ _ _).2
end Go.Proofs.Ytgjjpijcakafhaa
/- The kit's odd records: something is changed. -/
namespace Go.Proofs.Ytgjjpijcakafhaa
open Go.RowKit
theorem odd_walk (W : World) (db : Nat) (p : Option Addr) (l : List Int) (cap q : Nat) (r : Rec) (w : World) (hE : Env W w db p l cap q) (hR : Rd W p (ints l)) (hdb : W.heap.size ≤ db) (hlen : l.length ≤ 281474976710656) (hI : r.In) (hn : -4611686018427387904 ≤ r.num ∧ r.num ≤ 4611686018427387904) (ht : -4611686018427387904 ≤ r.time ∧ r.time ≤ 4611686018427387904) (hk : 0 ≤ r.kind ∧ r.kind ≤ 100) (hbl : r.body.length ≤ 1000000) :
    Calls Try.prog 17 #[.pointer (some ⟨db, 0, none⟩), .agg #[.int .i64 r.num, .int .i64 r.time, .int .i64 r.kind, .string ⟨r.body.toArray⟩, .string ⟨r.before.toArray⟩]] w (OddPost W w db p l cap r) := by
  have a1 := dnum_lo l q (n := 6) (by omega)
  have a2 := dnum_hi l q (n := 6) (by omega)
  rcases (show dnum l q 6 = 0 ∨ dnum l q 6 = 1 ∨ dnum l q 6 = 2 ∨ 3 ≤ dnum l q 6 by omega) with h | h | h | h
  · exact odd_walk0 W db p l cap q r w hE hR hdb hlen hI hn ht hk h
  · exact odd_walk1 W db p l cap q r w hE hR hdb hlen hI hn ht hk h
  · exact odd_walk2 W db p l cap q r w hE hR hdb hlen hI hn ht hk h
  · exact odd_walk3 W db p l cap q r w hE hR hdb hlen hI hbl h
end Go.Proofs.Ytgjjpijcakafhaa
/- Chains in which a record was changed: the law's beginning. -/
namespace Go.Proofs.Ytgjjpijcakafhaa
open Go.RowKit
theorem recs_set {l : List Rec} {k : Nat} (hk : k < l.length) (r : Rec) :
    recs (l.set k r) = (((((recs l).set (k * 5) (.int .i64 r.num)).set (k * 5 + 1) (.int .i64 r.time)).set (k * 5 + 2) (.int .i64 r.kind)).set (k * 5 + 3) (.string ⟨r.body.toArray⟩)).set (k * 5 + 4) (.string ⟨r.before.toArray⟩) := by
  induction l generalizing k with
  | nil => simp at hk
  | cons x l ih =>
    cases k with
    | zero => simp [recs, recC]
    | succ k =>
      have h := ih (k := k) (by simpa using hk)
      have e : ∀ f, (k + 1) * 5 + f = (k * 5 + f) + 1 + 1 + 1 + 1 + 1 := fun f => by omega
      show recC x ++ recs (l.set k r) = _
      rw [h, show (k + 1) * 5 = (k * 5 + 0) + 1 + 1 + 1 + 1 + 1 by omega, show k * 5 + 0 + 1 + 1 + 1 + 1 + 1 + 1 = (k * 5 + 1) + 1 + 1 + 1 + 1 + 1 by omega, show k * 5 + 0 + 1 + 1 + 1 + 1 + 1 + 2 = (k * 5 + 2) + 1 + 1 + 1 + 1 + 1 by omega, show k * 5 + 0 + 1 + 1 + 1 + 1 + 1 + 3 = (k * 5 + 3) + 1 + 1 + 1 + 1 + 1 by omega, show k * 5 + 0 + 1 + 1 + 1 + 1 + 1 + 4 = (k * 5 + 4) + 1 + 1 + 1 + 1 + 1 by omega]
      simp [recs, recC]
/-- a chain that is read: numbers of 64 bits, texts that are not long -/
structure Fine (w : World) (a : Option Addr) (X : List Rec) (c : Nat) : Prop where
  rd : Rd w a (recs X)
  len : X.length ≤ 1048576
  cap : X.length ≤ c
  ins : ∀ r ∈ X, r.In
  short : ∀ r ∈ X, r.body.length + r.before.length ≤ 2000000
theorem Fine.keep {w w' : World} {a : Option Addr} {X : List Rec} {c : Nat} (h : Fine w a X c) (hb : Below w.heap.size w w') : Fine w' a X c := ⟨h.rd.keep hb, h.len, h.cap, h.ins, h.short⟩
theorem Fine.grown {w w' : World} {a : Option Addr} {X : List Rec} {c : Nat} {row : Option Nat} (h : Fine w a X c) (hg : w.grownBy w' row) (hne : 0 < X.length → ∀ g, rowOf a = some g → some g ≠ row) : Fine w' a X c := by
  refine ⟨?_, h.len, h.cap, h.ins, h.short⟩
  by_cases h0 : 0 < X.length
  · exact h.rd.grown hg (fun g off e => hne h0 g (by rw [e]; rfl))
  · have : X = [] := List.eq_nil_of_length_eq_zero (by omega)
    subst this
    exact Rd.nil _ _
theorem Fine.old {w : World} {a : Option Addr} {X : List Rec} {c : Nat} (h : Fine w a X c) : 0 < X.length → ∀ g, rowOf a = some g → g < w.heap.size := fun h0 g hg => by
  obtain ⟨g', off, ha, hc⟩ := h.rd.at (by rw [recs_length]; omega)
  subst ha
  simp [rowOf] at hg
  subst hg
  have hr := recs_get (l := X) (k := 0) (List.getElem?_eq_getElem h0) (f := 0) (by omega)
  have := hc 0 _ hr
  have := World.block_lt_of_cell? w _ this
  simpa using this
theorem fine_chain {w : World} {a : Option Addr} {L : List Rec} {c m : Nat} {t : Int} (hK : Kit L m t) (hR : Rd w a (recs L)) (hc : L.length ≤ c) : Fine w a L c := by
  have h1 := hK.right.len (Nat.le_refl _)
  refine ⟨hR, by omega, hc, hK.ins, fun r hr => ?_⟩
  obtain ⟨i, hi, rfl⟩ := List.getElem_of_mem hr
  have := follows_short (hK.right i L[i] hi (List.getElem?_eq_getElem hi))
  omega
end Go.Proofs.Ytgjjpijcakafhaa
