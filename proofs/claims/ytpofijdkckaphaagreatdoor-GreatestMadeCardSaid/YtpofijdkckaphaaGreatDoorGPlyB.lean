/- Plays: play.Condition. -/
import Derived.Test.YtpofijdkckaphaaGreatDoorGPlyA
namespace Go.Proofs.YtpofijdkckaphaaGreatDoor
open Go.RowKit
/-- a condition whose rows lie in the blocks lo .. hi - 1 -/
structure Cf (w : World) (lo hi : Nat) (ta : Option Addr) (tc : Nat) (T : List Trm) : Prop where
  r : RdT w ta T
  a : ∀ j, rowOf ta = some j → lo ≤ j ∧ j < hi
  t : ∀ t ∈ T, ∀ j, rowOf t.aa = some j → lo ≤ j ∧ j < hi
  c : T.length ≤ tc
  h : hi ≤ w.heap.size
theorem Cf.kp {S : Nat → Prop} {w w' : World} {lo hi : Nat} {ta : Option Addr} {tc : Nat} {T : List Trm} (h : Cf w lo hi ta tc T) (hk : Kp S w w') (hs : ∀ j, lo ≤ j → j < hi → ¬ S j) : Cf w' lo hi ta tc T :=
  ⟨h.r.kp hk (fun j hj => hs j (h.a j hj).1 (h.a j hj).2) (fun t ht j hj => hs j (h.t t ht j hj).1 (h.t t ht j hj).2), h.a, h.t, h.c, Nat.le_trans h.h hk.size⟩
theorem Cf.keep {w w' : World} {lo hi : Nat} {ta : Option Addr} {tc : Nat} {T : List Trm} (h : Cf w lo hi ta tc T) (hb : Below w.heap.size w w') : Cf w' lo hi ta tc T := ⟨h.r.keep hb, h.a, h.t, h.c, Nat.le_trans h.h hb.size⟩
theorem Cf.wide {w : World} {lo hi lo' hi' : Nat} {ta : Option Addr} {tc : Nat} {T : List Trm} (h : Cf w lo hi ta tc T) (h1 : lo' ≤ lo) (h2 : hi ≤ hi') (h3 : hi' ≤ w.heap.size) : Cf w lo' hi' ta tc T :=
  ⟨h.r, fun j hj => ⟨Nat.le_trans h1 (h.a j hj).1, Nat.lt_of_lt_of_le (h.a j hj).2 h2⟩, fun t ht j hj => ⟨Nat.le_trans h1 (h.t t ht j hj).1, Nat.lt_of_lt_of_le (h.t t ht j hj).2 h2⟩, h.c, h3⟩
/-- what Condition gives -/
def CndRes (W w : World) (db : Nat) (p : Option Addr) (l : List Int) (cap : Nat) (e : Ending) (w' : World) : Prop :=
  ∃ (T : List Trm) (ta : Option Addr) (tc : Nat), e = .returned (.agg #[.slice ta T.length tc]) ∧ (1 ≤ T.length ∧ T.length ≤ 3) ∧ Dc W w' db p l cap ∧ Cf w' w.heap.size w'.heap.size ta tc T ∧ KD db w w'
/-- Condition under way -/
structure Cw (W w0 w : World) (db : Nat) (p : Option Addr) (l : List Int) (cap g g2 : Nat) : Prop where
  d : Dc W w db p l cap
  k : KD db w0 w
  c : Bx w g 25 [.pointer (some ⟨db, 0, none⟩)]
  b : Bx w g2 42 [.slice none 0 0]
  lt : db < w0.heap.size
  lo : w0.heap.size ≤ g
  lo2 : w0.heap.size ≤ g2
  ne : g ≠ g2
section
variable {W w0 w w' : World} {db : Nat} {p : Option Addr} {l : List Int} {cap g g2 : Nat}
theorem Cw.next (h : Cw W w0 w db p l cap g g2) (hD : Dc W w' db p l cap) (hk : KD db w w') : Cw W w0 w' db p l cap g g2 :=
  ⟨hD, h.k.tr hk, h.c.kp hk (by have := h.lt; have := h.lo; omega), h.b.kp hk (by have := h.lt; have := h.lo2; omega), h.lt, h.lo, h.lo2, h.ne⟩
theorem Cw.keep (h : Cw W w0 w db p l cap g g2) (hb : Below w.heap.size w w') : Cw W w0 w' db p l cap g g2 := h.next (h.d.keep hb) (KD.of_below hb)
theorem Cw.term (h : Cw W w0 w db p l cap g g2) : Calls Tryz.prog 69 #[.pointer (some ⟨g, 0, none⟩)] w (TrmRes W w db p l cap) :=
  pterm_walk W db p l cap g w h.d h.c (by have := h.lt; have := h.lo; omega)
theorem Cw.fin (h : Cw W w0 w db p l cap g g2) (T : List Trm) (h1 : 1 ≤ T.length) (h3 : T.length ≤ 3) (ha : ∀ t ∈ T, Rd w t.aa (ints t.args)) (hi : ∀ t ∈ T, t.In) (hf : ∀ t ∈ T, ∀ j, rowOf t.aa = some j → w0.heap.size ≤ j ∧ j < w.heap.size ∧ j ≠ g2) :
    Bx ((w.alloc (.cells (rowsC trC T).toArray 50)).setCell ⟨g2, 0, none⟩ (.slice (some ⟨w.heap.size, 0, none⟩) T.length T.length)) g2 42 [.slice (some ⟨w.heap.size, 0, none⟩) T.length T.length] ∧
    CndRes W w0 db p l cap (.returned (.agg #[.slice (some ⟨w.heap.size, 0, none⟩) T.length T.length])) ((w.alloc (.cells (rowsC trC T).toArray 50)).setCell ⟨g2, 0, none⟩ (.slice (some ⟨w.heap.size, 0, none⟩) T.length T.length)) := by
  have hb := (Below.refl w.heap.size w).alloc (Nat.le_refl _) (.cells (rowsC trC T).toArray 50)
  have hR : Rd (w.alloc (.cells (rowsC trC T).toArray 50)) (some ⟨w.heap.size, 0, none⟩) (rowsC trC T) := Rd.mk fun j u hj => by rw [Nat.zero_add, World.cell?_alloc_at _ _ _ _ rfl]; simpa using hj
  have hv := h.keep hb
  have hlt := h.lt
  have hlo2 := h.lo2
  have hk0 := h.k.size
  have hg2 := h.b.lt
  have ha' : ∀ t ∈ T, Rd (w.alloc (.cells (rowsC trC T).toArray 50)) t.aa (ints t.args) := fun t ht => (ha t ht).keep hb
  have hsz := hb.size
  have hz : (w.alloc (.cells (rowsC trC T).toArray 50)).heap.size = w.heap.size + 1 := by simp
  generalize w.alloc (.cells (rowsC trC T).toArray 50) = v at *
  have hs := hv.b.set 0 (.slice (some ⟨w.heap.size, 0, none⟩) T.length T.length)
  have hk := setCell_kp v g2 0 (.slice (some ⟨w.heap.size, 0, none⟩) T.length T.length) (S := fun j => j = g2) rfl
  have hks := hk.size
  refine ⟨hs, T, _, _, rfl, ⟨h1, h3⟩, hv.d.kp hk (fun j hj e => by omega), ⟨⟨hR.kp hk (fun j hj e => ?_), fun t ht => (ha' t ht).kp hk (fun j hj e => (hf t ht j hj).2.2 e), hi⟩, fun j hj => ?_, fun t ht j hj => ?_, Nat.le_refl _, Nat.le_refl _⟩, hv.k.set hlo2 _ _⟩
  · have := Option.some.inj hj; simp at this; omega
  · have := Option.some.inj hj; simp at this; omega
  · have := hf t ht j hj; omega
end
theorem pl_ints (w : World) (l : List Int) : Rd (w.alloc (.cells (ints l).toArray 3)) (some ⟨w.heap.size, 0, none⟩) (ints l) := Rd.mk fun j u hj => by
  rw [Nat.zero_add, World.cell?_alloc_at _ _ _ _ rfl]; simpa using hj
theorem pt_in {k n y : Int} {f x : List UInt8} (h : (0 ≤ k ∧ k ≤ 1000) ∧ (0 ≤ n ∧ n ≤ 1000) ∧ (0 ≤ y ∧ y ≤ 1000) ∧ f.length ≤ 1000 ∧ x.length ≤ 1000) : Trm.In ⟨k, n, y, f, x, [], none, 0⟩ :=
  term_in k n y f x [] none 0 h.1 h.2.1 h.2.2.1 h.2.2.2.1 h.2.2.2.2 (by simp) (by simp) (by simp)
set_option maxRecDepth 100000 in
set_option maxHeartbeats 4000000 in
theorem pcond_walk (W : World) (db : Nat) (p : Option Addr) (l : List Int) (cap : Nat) (w : World) (h : Dc W w db p l cap) :
    Calls Tryz.prog 55 #[.pointer (some ⟨db, 0, none⟩)] w (CndRes W w db p l cap) := by
  have hdl := h.lt
  obtain ⟨v, hv⟩ : ∃ v, v = w.alloc (.cells #[.pointer (some ⟨db, 0, none⟩)] 25) := ⟨_, rfl⟩
  have hb0 := (Below.refl w.heap.size w).alloc (Nat.le_refl _) (.cells #[.pointer (some ⟨db, 0, none⟩)] 25)
  have h1 := Bx.new w 25 [.pointer (some ⟨db, 0, none⟩)]
  change Bx (w.alloc (.cells #[.pointer (some ⟨db, 0, none⟩)] 25)) _ _ _ at h1
  rw [← hv] at hb0 h1
  have hb1 := (Below.refl v.heap.size v).alloc (Nat.le_refl _) (.cells #[.slice none 0 0] 42)
  have h2 := Bx.new v 42 [.slice none 0 0]
  change Bx (v.alloc (.cells #[.slice none 0 0] 42)) _ _ _ at h2
  have hs1 : v.heap.size = w.heap.size + 1 := by rw [hv]; exact Array.size_push _
  have hC : Cw W w (v.alloc (.cells #[.slice none 0 0] 42)) db p l cap w.heap.size v.heap.size := ⟨(h.keep hb0).keep hb1, (KD.of_below hb0).tr (KD.of_below hb1), h1.keep hb1, h2, hdl, Nat.le_refl _, by omega, by omega⟩
  rw [hs1] at hC
  subst hv
  have HW : Hid (∀ e w', CndRes W w db p l cap e w' → CndRes W w db p l cap e w') := Lib.hid (fun _ _ h => h)
  generalize hPost : CndRes W w db p l cap = POST at *
  have HPost := Lib.hid hPost
  clear h h1 h2 hb0 hb1 hs1 hdl HW hPost
  go_enter Tryz.func55, Tryz.ntmps55
  go_upto_region 2 with (fail)
  generalize (w.alloc (.cells #[.pointer (some ⟨db, 0, none⟩)] 25)).alloc (.cells #[.slice none 0 0] 42) = w1 at *
  generalize hg2 : w.heap.size + 1 = g2 at *
  generalize hg1 : w.heap.size = g1 at *
  have HG1 := Lib.hid hg1
  clear hg1 hg2
  have c1 := hC.c.cell 0 rfl
  have K1 := Lib.hid (done_walk hC.d 4 (by decide) (by decide))
  go_upto_region 3 with (go_at_call 32; (with_reducible refine K1.out.mono ?_); (first | rintro e w2 ⟨b, rfl, hD, hk⟩ | rintro e w2 b rfl hD hk))
  · replace hC := hC.next hD hk
    clear hD hk K1 c1
    have c1 := hC.c.cell 0 rfl
    have hbA := (Below.refl w2.heap.size w2).alloc (Nat.le_refl _) (.cells #[.int .i64 1, .int .i64 2] 3)
    have KO := Lib.hid (show Calls Tryz.prog 70 #[.pointer (some ⟨db, 0, none⟩), .slice (some ⟨w2.heap.size, 0, none⟩) 2 2] (w2.alloc (.cells #[.int .i64 1, .int .i64 2] 3)) _ from dpick (hC.keep hbA).d w2.heap.size [1, 2] 2 (pl_ints w2 [1, 2]) (by have := hC.d.lt; omega) (by simp) (by simp))
    have hCA := hC.keep hbA
    have HCA := Lib.hid hCA
    clear hC hbA hCA
    go_wp2_with (first
      | (go_at_call 70; (with_reducible refine KO.out.mono ?_); (first | rintro e w3 ⟨z, rfl, hz, hD3, hk3⟩ | rintro e w3 z rfl hz hD3 hk3); have hC3 := HCA.out.next hD3 hk3; have hbB := (Below.refl w3.heap.size w3).alloc (Nat.le_refl _) (.cells #[.int .i64 1, .int .i64 2] 3); have hA4 := pl_ints w3 [1, 2]; have hC4 := hC3.keep hbB; have KT := Lib.hid hC4.term)
      | ((with_reducible refine KT.out.mono ?_); (first | rintro e w5 ⟨k5, n5, y5, f5, x5, rfl, hbd5, hD5, hk5⟩ | rintro e w5 k5 n5 y5 f5 x5 rfl hbd5 hD5 hk5); have hC5 := hC4.next hD5 hk5; have KU := Lib.hid hC5.term)
      | ((with_reducible refine KU.out.mono ?_); (first | rintro e w6 ⟨k6, n6, y6, f6, x6, rfl, hbd6, hD6, hk6⟩ | rintro e w6 k6 n6 y6 f6 x6 rfl hbd6 hD6 hk6); have hC6 := hC5.next hD6 hk6; have c2 := (hC6.b.alloc (.cells #[.int .i64 z, .int .i64 0, .int .i64 0, .string ⟨#[]⟩, .string ⟨#[]⟩, .slice (some ⟨w3.heap.size, 0, none⟩) 2 2, .int .i64 k5, .int .i64 n5, .int .i64 y5, .string ⟨f5.toArray⟩, .string ⟨x5.toArray⟩, .slice none 0 0, .int .i64 k6, .int .i64 n6, .int .i64 y6, .string ⟨f6.toArray⟩, .string ⟨x6.toArray⟩, .slice none 0 0] 50)).cell 0 rfl; have f2 := (hC6.b.alloc (.cells #[.int .i64 z, .int .i64 0, .int .i64 0, .string ⟨#[]⟩, .string ⟨#[]⟩, .slice (some ⟨w3.heap.size, 0, none⟩) 2 2, .int .i64 k5, .int .i64 n5, .int .i64 y5, .string ⟨f5.toArray⟩, .string ⟨x5.toArray⟩, .slice none 0 0, .int .i64 k6, .int .i64 n6, .int .i64 y6, .string ⟨f6.toArray⟩, .string ⟨x6.toArray⟩, .slice none 0 0] 50)).free 0))
    have hdb3 := hC3.d.lt
    have hg23 := hC3.b.lt
    have hlo3 := hC3.k.size
    have hA6 := (hA4.kp hk5 (fun j hj e => by have := Option.some.inj hj; simp at this; omega)).kp hk6 (fun j hj e => by have := Option.some.inj hj; simp at this; omega)
    have hs6 : w3.heap.size < w6.heap.size := by have := hk5.size; have := hk6.size; have hz2 : (w3.alloc (.cells #[.int .i64 1, .int .i64 2] 3)).heap.size = w3.heap.size + 1 := (by simp); omega
    have hz0 : 0 ≤ z ∧ z ≤ 1000 := by
      simp only [List.mem_cons, List.not_mem_nil, or_false] at hz
      omega
    have hF := hC6.fin [⟨z, 0, 0, [], [], [1, 2], some ⟨w3.heap.size, 0, none⟩, 2⟩, ⟨k5, n5, y5, f5, x5, [], none, 0⟩, ⟨k6, n6, y6, f6, x6, [], none, 0⟩] (by simp) (by simp) (fun t ht => by
      simp only [List.mem_cons, List.not_mem_nil, or_false] at ht
      rcases ht with rfl | rfl | rfl
      · exact hA6
      · exact Rd.nil _ _
      · exact Rd.nil _ _) (fun t ht => by
      simp only [List.mem_cons, List.not_mem_nil, or_false] at ht
      rcases ht with rfl | rfl | rfl
      · exact term_in z 0 0 [] [] [1, 2] _ 2 hz0 (by omega) (by omega) (by simp) (by simp) (by intro a ha; simp at ha; rcases ha with rfl | rfl <;> exact ⟨by decide, by decide⟩) (by simp) (by simp)
      · exact pt_in hbd5
      · exact pt_in hbd6) (fun t ht j hj => by
      simp only [List.mem_cons, List.not_mem_nil, or_false] at ht
      rcases ht with rfl | rfl | rfl
      · have := Option.some.inj hj; simp at this; omega
      · simp [rowOf] at hj
      · simp [rowOf] at hj)
    exact bodyPost_ret (Cond.ret (t := 2) rfl _ rfl hF.1) rfl (show POST _ _ by rw [← HPost.out]; exact hF.2)
  · replace hC := hC.next hD hk
    clear hD hk K1 c1
    have K2 := Lib.hid hC.term
    have HC := Lib.hid hC
    clear hC
    go_wp2_with ((with_reducible refine K2.out.mono ?_); (first | rintro e w3 ⟨k3, n3, y3, f3, x3, rfl, hbd, hD3, hk3⟩ | rintro e w3 k3 n3 y3 f3 x3 rfl hbd hD3 hk3); have hC3 := HC.out.next hD3 hk3; have c2 := (hC3.b.alloc (.cells #[.int .i64 k3, .int .i64 n3, .int .i64 y3, .string ⟨f3.toArray⟩, .string ⟨x3.toArray⟩, .slice none 0 0] 50)).cell 0 rfl; have f2 := (hC3.b.alloc (.cells #[.int .i64 k3, .int .i64 n3, .int .i64 y3, .string ⟨f3.toArray⟩, .string ⟨x3.toArray⟩, .slice none 0 0] 50)).free 0)
    have hF := hC3.fin [⟨k3, n3, y3, f3, x3, [], none, 0⟩] (by simp) (by simp) (fun t ht => by rw [List.mem_singleton.1 ht]; exact Rd.nil _ _) (fun t ht => by rw [List.mem_singleton.1 ht]; exact pt_in hbd) (fun t ht j hj => by rw [List.mem_singleton.1 ht] at hj; simp [rowOf] at hj)
    exact bodyPost_ret (Cond.ret (t := 2) rfl _ rfl hF.1) rfl (show POST _ _ by rw [← HPost.out]; exact hF.2)
end Go.Proofs.YtpofijdkckaphaaGreatDoor
