/- Conditions: whether parts are the same, and which condition is weaker: the program's. -/
import Derived.Test.YtejdaeonknpgeaaDoorGCndJP
import Derived.Test.YtejdaeonknpgeaaDoorGCndL
import Derived.Test.YtejdaeonknpgeaaDoorGCndF
import Derived.Test.YtejdaeonknpgeaaDoorGCndGO
namespace Go.Proofs.YtejdaeonknpgeaaDoor
open Go.RowKit
/-- two boxes of conditions, and their terms -/
structure Sd (w : World) (g4 g5 : Nat) (ta : Option Addr) (A : List Trm) (tc : Nat) (tb : Option Addr) (B : List Trm) (td : Nat) : Prop where
  c : Bx w g4 29 [.slice ta A.length tc]
  d : Bx w g5 29 [.slice tb B.length td]
  ra : RdT w ta A
  rb : RdT w tb B
theorem Sd.keep {w w' : World} {g4 g5 : Nat} {ta : Option Addr} {A : List Trm} {tc : Nat} {tb : Option Addr} {B : List Trm} {td : Nat} (h : Sd w g4 g5 ta A tc tb B td) (hb : Below w.heap.size w w') : Sd w' g4 g5 ta A tc tb B td :=
  ⟨h.c.keep hb, h.d.keep hb, h.ra.keep hb, h.rb.keep hb⟩
theorem Sd.held {w' : World} {g4 g5 g1 o1 g2 o2 : Nat} {A : List Trm} {tc : Nat} {B : List Trm} {td : Nat} (h : Sd w' g4 g5 (some ⟨g1, o1, none⟩) A tc (some ⟨g2, o2, none⟩) B td) {i k : Nat} {x y : Trm} (hx : Hid (A[i]? = some x)) (hy : Hid (B[k]? = some y)) :
    w'.cell? ⟨g4, 0, none⟩ = some (.slice (some ⟨g1, o1, none⟩) A.length tc) ∧ w'.cell? ⟨g5, 0, none⟩ = some (.slice (some ⟨g2, o2, none⟩) B.length td) ∧ w'.cell? ⟨g1, o1 + i * 6, none⟩ = some (.int .i64 x.kind) ∧ w'.cell? ⟨g1, o1 + i * 6 + 1, none⟩ = some (.int .i64 x.number) ∧ w'.cell? ⟨g1, o1 + i * 6 + 2, none⟩ = some (.int .i64 x.years) ∧ w'.cell? ⟨g1, o1 + i * 6 + 3, none⟩ = some (.string ⟨x.field.toArray⟩) ∧ w'.cell? ⟨g1, o1 + i * 6 + 4, none⟩ = some (.string ⟨x.text.toArray⟩) ∧ w'.cell? ⟨g1, o1 + i * 6 + 5, none⟩ = some (.slice x.aa x.args.length x.ac) ∧ w'.cell? ⟨g2, o2 + k * 6, none⟩ = some (.int .i64 y.kind) ∧ w'.cell? ⟨g2, o2 + k * 6 + 1, none⟩ = some (.int .i64 y.number) ∧ w'.cell? ⟨g2, o2 + k * 6 + 2, none⟩ = some (.int .i64 y.years) ∧ w'.cell? ⟨g2, o2 + k * 6 + 3, none⟩ = some (.string ⟨y.field.toArray⟩) ∧ w'.cell? ⟨g2, o2 + k * 6 + 4, none⟩ = some (.string ⟨y.text.toArray⟩) ∧ w'.cell? ⟨g2, o2 + k * 6 + 5, none⟩ = some (.slice y.aa y.args.length y.ac) := by
  obtain ⟨_, _, x', e1, hx', ⟨c0, c1, c2, c3, c4, c5⟩, -, -⟩ := h.ra.trm (k := i) (List.getElem?_eq_some_iff.1 hx.out).1
  obtain ⟨_, _, y', e2, hy', ⟨d0, d1, d2, d3, d4, d5⟩, -, -⟩ := h.rb.trm (k := k) (List.getElem?_eq_some_iff.1 hy.out).1
  cases e1; cases e2
  obtain rfl := Option.some.inj (hx'.out.symm.trans hx.out)
  obtain rfl := Option.some.inj (hy'.out.symm.trans hy.out)
  exact ⟨h.c.cell 0 rfl, h.d.cell 0 rfl, c0, c1, c2, c3, c4, c5, d0, d1, d2, d3, d4, d5⟩
/-- with copies of two terms -/
structure Sf (W w : World) (g4 g5 : Nat) (ta : Option Addr) (A : List Trm) (tc : Nat) (tb : Option Addr) (B : List Trm) (td : Nat) (g9 g10 : Nat) (x y : Trm) : Prop where
  s : Sd w g4 g5 ta A tc tb B td
  x : Bx w g9 47 (trC x)
  y : Bx w g10 47 (trC y)
  b : Below W.heap.size W w
theorem Sf.keep {W w w' : World} {g4 g5 : Nat} {ta : Option Addr} {A : List Trm} {tc : Nat} {tb : Option Addr} {B : List Trm} {td g9 g10 : Nat} {x y : Trm} (h : Sf W w g4 g5 ta A tc tb B td g9 g10 x y) (hb : Below w.heap.size w w') : Sf W w' g4 g5 ta A tc tb B td g9 g10 x y :=
  ⟨h.s.keep hb, h.x.keep hb, h.y.keep hb, below_tr h.b hb⟩
set_option maxHeartbeats 1000000 in
theorem z_two (w : World) : Bx ((w.alloc (.cells #[.int .i64 0, .int .i64 0, .int .i64 0, .string ⟨#[]⟩, .string ⟨#[]⟩, .slice none 0 0] 47)).alloc (.cells #[.int .i64 0, .int .i64 0, .int .i64 0, .string ⟨#[]⟩, .string ⟨#[]⟩, .slice none 0 0] 47)) w.heap.size 47 [.int .i64 0, .int .i64 0, .int .i64 0, .string ⟨#[]⟩, .string ⟨#[]⟩, .slice none 0 0] ∧ Bx ((w.alloc (.cells #[.int .i64 0, .int .i64 0, .int .i64 0, .string ⟨#[]⟩, .string ⟨#[]⟩, .slice none 0 0] 47)).alloc (.cells #[.int .i64 0, .int .i64 0, .int .i64 0, .string ⟨#[]⟩, .string ⟨#[]⟩, .slice none 0 0] 47)) (w.heap.size + 1) 47 [.int .i64 0, .int .i64 0, .int .i64 0, .string ⟨#[]⟩, .string ⟨#[]⟩, .slice none 0 0] ∧ Below w.heap.size w ((w.alloc (.cells #[.int .i64 0, .int .i64 0, .int .i64 0, .string ⟨#[]⟩, .string ⟨#[]⟩, .slice none 0 0] 47)).alloc (.cells #[.int .i64 0, .int .i64 0, .int .i64 0, .string ⟨#[]⟩, .string ⟨#[]⟩, .slice none 0 0] 47)) := by
  have h1 := (Bx.new w 47 [.int .i64 0, .int .i64 0, .int .i64 0, .string ⟨#[]⟩, .string ⟨#[]⟩, .slice none 0 0]).alloc (.cells #[.int .i64 0, .int .i64 0, .int .i64 0, .string ⟨#[]⟩, .string ⟨#[]⟩, .slice none 0 0] 47)
  have h2 := Bx.new (w.alloc (.cells #[.int .i64 0, .int .i64 0, .int .i64 0, .string ⟨#[]⟩, .string ⟨#[]⟩, .slice none 0 0] 47)) 47 [.int .i64 0, .int .i64 0, .int .i64 0, .string ⟨#[]⟩, .string ⟨#[]⟩, .slice none 0 0]
  have hz : (w.alloc (.cells #[.int .i64 0, .int .i64 0, .int .i64 0, .string ⟨#[]⟩, .string ⟨#[]⟩, .slice none 0 0] 47)).heap.size = w.heap.size + 1 := by simp
  rw [hz] at h2
  have b1 := (Below.refl w.heap.size w).alloc (Nat.le_refl _) (.cells #[.int .i64 0, .int .i64 0, .int .i64 0, .string ⟨#[]⟩, .string ⟨#[]⟩, .slice none 0 0] 47)
  exact ⟨h1, h2, b1.alloc b1.size (.cells #[.int .i64 0, .int .i64 0, .int .i64 0, .string ⟨#[]⟩, .string ⟨#[]⟩, .slice none 0 0] 47)⟩
theorem Rd.intAt {w : World} {g off : Nat} {l : List Int} {j : Nat} {a : Int} (h : Rd w (some ⟨g, off, none⟩) (ints l)) (ha : Hid (l[j]? = some a)) : w.cell? ⟨g, off + j, none⟩ = some (.int .i64 a) := by
  obtain ⟨g', o', e, hc⟩ := h j (.int .i64 a) (by simp [ints, ha.out])
  cases e
  exact hc
theorem Sf.at' {W w' : World} {g4 g5 : Nat} {ta : Option Addr} {A : List Trm} {tc : Nat} {tb : Option Addr} {B : List Trm} {td g9 g10 : Nat} {x y : Trm} (h : Sf W w' g4 g5 ta A tc tb B td g9 g10 x y) (hx : x ∈ A) (hy : y ∈ B) {ga oa gb ob j : Nat} {a b : Int} (hka : x.aa = some ⟨ga, oa, none⟩) (hkb : y.aa = some ⟨gb, ob, none⟩) (ha : Hid (x.args[j]? = some a)) (hb : Hid (y.args[j]? = some b)) :
    w'.cell? ⟨g4, 0, none⟩ = some (.slice ta A.length tc) ∧ w'.cell? ⟨g5, 0, none⟩ = some (.slice tb B.length td) ∧ w'.cell? ⟨g9, 5, none⟩ = some (.slice (some ⟨ga, oa, none⟩) x.args.length x.ac) ∧ w'.cell? ⟨g10, 5, none⟩ = some (.slice (some ⟨gb, ob, none⟩) y.args.length y.ac) ∧ w'.cell? ⟨ga, oa + j, none⟩ = some (.int .i64 a) ∧ w'.cell? ⟨gb, ob + j, none⟩ = some (.int .i64 b) := by
  have h1 := h.s.ra.args x hx
  have h2 := h.s.rb.args y hy
  have h3 := h.x.cell 5 rfl
  have h4 := h.y.cell 5 rfl
  rw [hka] at h1 h3
  rw [hkb] at h2 h4
  exact ⟨h.s.c.cell 0 rfl, h.s.d.cell 0 rfl, h3, h4, h1.intAt ha, h2.intAt hb⟩
/-- two copies made in either order -/
theorem Sf.made {W w w2 : World} {g4 g5 n : Nat} {ta : Option Addr} {A : List Trm} {tc : Nat} {tb : Option Addr} {B : List Trm} {td : Nat} {x y : Trm} {cs : List Value} (h : Sd w g4 g5 ta A tc tb B td) (hb : Below W.heap.size W w) (hn : w.heap.size = n) (hcs : cs.length = 6)
    (h1 : Bx w2 n 47 cs) (h2 : Bx w2 (n + 1) 47 cs) (b2 : Below w.heap.size w w2) :
    (Sf W ((w2.setCells n 0 (trC x)).setCells (n + 1) 0 (trC y)) g4 g5 ta A tc tb B td n (n + 1) x y) ∧
    (Sf W ((w2.setCells (n + 1) 0 (trC x)).setCells n 0 (trC y)) g4 g5 ta A tc tb B td (n + 1) n x y) := by
  have hx : (trC x).length = cs.length := by rw [hcs]; rfl
  have hy : (trC y).length = cs.length := by rw [hcs]; rfl
  have n1 : n ≠ n + 1 := by omega
  have n2 : n + 1 ≠ n := by omega
  have b3 := below_setCells b2 (g := n) (by omega) b2.size 0 (trC x)
  have b4 := below_setCells b3 (g := n + 1) (by omega) b3.size 0 (trC y)
  have b5 := below_setCells b2 (g := n + 1) (by omega) b2.size 0 (trC x)
  have b6 := below_setCells b5 (g := n) (by omega) b5.size 0 (trC y)
  have q1 := (h1.setAll (trC x) hx).otherAll n1 0 (trC y)
  have q2 := (h2.otherAll n2 0 (trC x)).setAll (trC y) hy
  have q3 := (h2.setAll (trC x) hx).otherAll n2 0 (trC y)
  have q4 := (h1.otherAll n1 0 (trC x)).setAll (trC y) hy
  exact ⟨⟨h.keep b4, q1, q2, below_tr hb b4⟩, ⟨h.keep b6, q3, q4, below_tr hb b6⟩⟩
theorem tr_one (t : Trm) : ∀ v ∈ trC t, v.oneCell' = true := by intro v hv; simp [trC] at hv; rcases hv with rfl | rfl | rfl | rfl | rfl | rfl <;> rfl
theorem tr_six : (Tryd.prog.info? 47).map (·.size) = some 6 := by kernel_rfl
theorem z_there {w2 : World} {n : Nat} {cs : List Value} (hcs : cs.length = 6) (h1 : Bx w2 n 47 cs) (h2 : Bx w2 (n + 1) 47 cs) : w2.there n 0 6 ∧ w2.there (n + 1) 0 6 ∧ ∀ x, (w2.setCells n 0 (trC x)).there (n + 1) 0 6 ∧ (w2.setCells (n + 1) 0 (trC x)).there n 0 6 :=
  ⟨h1.there hcs, h2.there hcs, fun _ => ⟨(h2.otherAll (by omega) _ _).there hcs, (h1.otherAll (by omega) _ _).there hcs⟩⟩
set_option maxRecDepth 100000 in
set_option maxHeartbeats 2000000 in
theorem same_walk (A B : List Trm) (ta tb : Option Addr) (tc td : Nat) (hA : Seg A 0 A.length) (hB : Seg B 0 B.length) (hA24 : A.length ≤ 24) (hSA : ∀ (j : Nat) (t : Trm), A[j]? = some t → t.args.length ≤ A.length) : ∀ (f i k : Nat) (w : World), i < A.length → k < B.length → A.length - i ≤ f → RdT w ta A → RdT w tb B →
    Calls Tryd.prog 19 #[.agg #[.slice ta A.length tc], .agg #[.slice tb B.length td], .int .i64 (i : Int), .int .i64 (k : Int)] w fun e w' => e = .returned (.bool (sameT A B f i k)) ∧ Below w.heap.size w w' := by
  intro f
  induction f with
  | zero => intro i k w hn hk hf; omega
  | succ f ih =>
    intro i k w hn hkb hf hRA hRB
    obtain ⟨g1, o1, x, rfl, hx, -, -, -⟩ := hRA.trm (k := i) hn
    obtain ⟨g2, o2, y, rfl, hy, -, -, -⟩ := hRB.trm (k := k) hkb
    obtain ⟨x', hx', -, hargx⟩ := hA i (Nat.zero_le _) hn
    rw [hx.out] at hx'
    obtain rfl := Option.some.inj hx'
    obtain ⟨y', hy', -, hargy⟩ := hB k (Nat.zero_le _) hkb
    rw [hy.out] at hy'
    obtain rfl := Option.some.inj hy'
    have he : sameT A B (f + 1) i k = (headEq x y && zipAll (fun a b => sameT A B f a.toNat b.toNat) x.args y.args) := by simp only [sameT, hx.out, hy.out]
    have IH : Hid (∀ V, RdT V (some ⟨g1, o1, none⟩) A → RdT V (some ⟨g2, o2, none⟩) B → ∀ a ∈ x.args, ∀ b ∈ y.args, Calls Tryd.prog 19 #[.agg #[.slice (some ⟨g1, o1, none⟩) A.length tc], .agg #[.slice (some ⟨g2, o2, none⟩) B.length td], .int .i64 a, .int .i64 b] V fun e w1 => e = .returned (.bool (sameT A B f a.toNat b.toNat)) ∧ Below V.heap.size V w1) := Lib.hid (fun V hV hV2 a ha b hb => by
      have h1 := hargx a ha
      have h2 := hargy b hb
      have h3 := ih a.toNat b.toNat V (by omega) (by omega) (by omega) hV hV2
      rwa [show ((a.toNat : Nat) : Int) = a by omega, show ((b.toNat : Nat) : Int) = b by omega] at h3)
    generalize sameT A B (f + 1) i k = R at *
    generalize sameT A B f = P at *
    have hlen : x.args.length ≤ 24 := Nat.le_trans (hSA _ _ hx.out) hA24
    have hnI : (i : Int) < (A.length : Int) := by omega
    have hkI : (k : Int) < (B.length : Int) := by omega
    have b1 := (Below.refl w.heap.size w).alloc (Nat.le_refl _) (.cells #[.slice (some ⟨g1, o1, none⟩) A.length tc] 29)
    have b2 := b1.alloc b1.size (.cells #[.slice (some ⟨g2, o2, none⟩) B.length td] 29)
    have h4 := (Bx.new w 29 [.slice (some ⟨g1, o1, none⟩) A.length tc]).alloc (.cells #[.slice (some ⟨g2, o2, none⟩) B.length td] 29)
    change Bx ((w.alloc (.cells #[.slice (some ⟨g1, o1, none⟩) A.length tc] 29)).alloc (.cells #[.slice (some ⟨g2, o2, none⟩) B.length td] 29)) _ _ _ at h4
    have h5 := Bx.new (w.alloc (.cells #[.slice (some ⟨g1, o1, none⟩) A.length tc] 29)) 29 [.slice (some ⟨g2, o2, none⟩) B.length td]
    change Bx ((w.alloc (.cells #[.slice (some ⟨g1, o1, none⟩) A.length tc] 29)).alloc (.cells #[.slice (some ⟨g2, o2, none⟩) B.length td] 29)) _ _ _ at h5
    have hz : (w.alloc (.cells #[.slice (some ⟨g1, o1, none⟩) A.length tc] 29)).heap.size = w.heap.size + 1 := by simp
    rw [hz] at h5
    have hSd : Sd _ w.heap.size (w.heap.size + 1) (some ⟨g1, o1, none⟩) A tc (some ⟨g2, o2, none⟩) B td := ⟨h4, h5, hRA.keep b2, hRB.keep b2⟩
    have HE := Lib.hid he
    have HSA := Lib.hid (hSA)
    clear hz h4 h5 b1 he ih hargx hargy hRA hRB hSA hA hB
    go_enter Tryd.func19, Tryd.ntmps19
    go_upto_region 1 with (fail)
    generalize (w.alloc (.cells #[.slice (some ⟨g1, o1, none⟩) A.length tc] 29)).alloc (.cells #[.slice (some ⟨g2, o2, none⟩) B.length td] 29) = w1 at *
    have HBD : Below w.heap.size w w1.drew := b2.drew
    have HBW := Lib.hid b2
    clear b2 HBW
    generalize hg5 : w.heap.size + 1 = g5 at *
    generalize hg4 : w.heap.size = g4 at *
    have HG := Lib.hid hg4
    clear hg5 hg4
    go_cut [9, 10] (fun v9 v10 wx => ∃ g9 g10 : Nat, v9 = .pointer (some ⟨g9, 0, none⟩) ∧ v10 = .pointer (some ⟨g10, 0, none⟩) ∧ Sf w wx g4 g5 (some ⟨g1, o1, none⟩) A tc (some ⟨g2, o2, none⟩) B td g9 g10 x y)
    case first =>
      refine wp_region_held_drew (S := fun w' => w'.cell? ⟨g4, 0, none⟩ = some (.slice (some ⟨g1, o1, none⟩) A.length tc) ∧ w'.cell? ⟨g5, 0, none⟩ = some (.slice (some ⟨g2, o2, none⟩) B.length td) ∧ w'.cell? ⟨g1, o1 + i * 6, none⟩ = some (.int .i64 x.kind) ∧ w'.cell? ⟨g1, o1 + i * 6 + 1, none⟩ = some (.int .i64 x.number) ∧ w'.cell? ⟨g1, o1 + i * 6 + 2, none⟩ = some (.int .i64 x.years) ∧ w'.cell? ⟨g1, o1 + i * 6 + 3, none⟩ = some (.string ⟨x.field.toArray⟩) ∧ w'.cell? ⟨g1, o1 + i * 6 + 4, none⟩ = some (.string ⟨x.text.toArray⟩) ∧ w'.cell? ⟨g1, o1 + i * 6 + 5, none⟩ = some (.slice x.aa x.args.length x.ac) ∧ w'.cell? ⟨g2, o2 + k * 6, none⟩ = some (.int .i64 y.kind) ∧ w'.cell? ⟨g2, o2 + k * 6 + 1, none⟩ = some (.int .i64 y.number) ∧ w'.cell? ⟨g2, o2 + k * 6 + 2, none⟩ = some (.int .i64 y.years) ∧ w'.cell? ⟨g2, o2 + k * 6 + 3, none⟩ = some (.string ⟨y.field.toArray⟩) ∧ w'.cell? ⟨g2, o2 + k * 6 + 4, none⟩ = some (.string ⟨y.text.toArray⟩) ∧ w'.cell? ⟨g2, o2 + k * 6 + 5, none⟩ = some (.slice y.aa y.args.length y.ac)) (by kernel_rfl) ((hSd.keep (Below.refl _ _).drew).held hx hy) (fun hHeld => ?_)
      simp only [List.size_toArray, List.length_cons, List.length_nil]
      replace hSd := hSd.keep (Below.refl _ _).drew
      generalize w1.drew = d at *
      obtain ⟨zx, zy, zb⟩ := z_two d
      have hZ := z_there (by rfl) zx zy
      have hSf := Sf.made (W := w) (x := x) (y := y) hSd (by rw [HG.out]; exact HBD) rfl (by rfl) zx zy zb
      have hH1 := Lib.hid ((hSd.keep ((Below.refl _ _).alloc (Nat.le_refl _) (.cells #[.int .i64 0, .int .i64 0, .int .i64 0, .string ⟨#[]⟩, .string ⟨#[]⟩, .slice none 0 0] 47))).held hx hy)
      have hH2 := Lib.hid ((hSd.keep zb).held hx hy)
      have hH3 := Lib.hid ((hSd.keep (below_setCells zb (g := d.heap.size) (Nat.le_refl _) zb.size 0 (trC x))).held hx hy)
      have hH4 := Lib.hid ((hSd.keep (below_setCells zb (g := d.heap.size + 1) (by omega) zb.size 0 (trC x))).held hx hy)
      have hH5 := Lib.hid (hSf.1.s.held hx hy)
      have hH6 := Lib.hid (hSf.2.s.held hx hy)
      replace hZ := Lib.hid hZ
      replace hSf := Lib.hid hSf
      clear zx zy zb
      replace hHeld := id hHeld
      refine held_take (0) (v := ?_) rfl (by kernel_rfl) (by kernel_rfl) (by kernel_rfl) (fun _ _ _ h => h) (Or.inl ⟨by rfl, ?_⟩) (by assumption) ?_
      rotate_left
      · intro w hSw
        try dsimp only at hSw
        go_simp
        with_reducible rfl
      try simp only [Act.put, List.setIfInBounds_toArray, List.set_cons_zero, List.set_cons_succ]
      refine held_take (1) (v := ?_) rfl (by kernel_rfl) (by kernel_rfl) (by kernel_rfl) (fun _ _ _ h => h) (Or.inl ⟨by rfl, ?_⟩) (by assumption) ?_
      rotate_left
      · intro w hSw
        try dsimp only at hSw
        go_simp
        with_reducible rfl
      try simp only [Act.put, List.setIfInBounds_toArray, List.set_cons_zero, List.set_cons_succ]
      refine held_take (2) (v := ?_) rfl (by kernel_rfl) (by kernel_rfl) (by kernel_rfl) (fun _ _ _ h => h) (Or.inl ⟨by rfl, ?_⟩) (by assumption) ?_
      rotate_left
      · intro w hSw
        try dsimp only at hSw
        go_simp
        with_reducible rfl
      try simp only [Act.put, List.setIfInBounds_toArray, List.set_cons_zero, List.set_cons_succ]
      refine held_take (3) (v := ?_) rfl (by kernel_rfl) (by kernel_rfl) (by kernel_rfl) (fun _ _ _ h => h) (Or.inl ⟨by rfl, ?_⟩) (by assumption) ?_
      rotate_left
      · intro w hSw
        try dsimp only at hSw
        go_simp
        with_reducible rfl
      try simp only [Act.put, List.setIfInBounds_toArray, List.set_cons_zero, List.set_cons_succ]
      refine held_take (4) (v := ?_) rfl (by kernel_rfl) (by kernel_rfl) (by kernel_rfl) (fun _ _ _ h => h) (Or.inl ⟨by rfl, ?_⟩) (by assumption) ?_
      rotate_left
      · intro w hSw
        try dsimp only at hSw
        go_simp
        with_reducible rfl
      try simp only [Act.put, List.setIfInBounds_toArray, List.set_cons_zero, List.set_cons_succ]
      refine held_take (5) (v := ?_) rfl (by kernel_rfl) (by kernel_rfl) (by kernel_rfl) (fun _ _ _ h => h) (Or.inl ⟨by rfl, ?_⟩) (by assumption) ?_
      rotate_left
      · intro w hSw
        try dsimp only at hSw
        go_simp
        with_reducible rfl
      try simp only [Act.put, List.setIfInBounds_toArray, List.set_cons_zero, List.set_cons_succ]
      refine held_take (6) (v := ?_) rfl (by kernel_rfl) (by kernel_rfl) (by kernel_rfl) (fun _ _ _ h => h) (Or.inl ⟨by rfl, ?_⟩) (by assumption) ?_
      rotate_left
      · intro w hSw
        try dsimp only at hSw
        go_simp
        with_reducible rfl
      try simp only [Act.put, List.setIfInBounds_toArray, List.set_cons_zero, List.set_cons_succ]
      refine held_take (7) (v := ?_) rfl (by kernel_rfl) (by kernel_rfl) (by kernel_rfl) (fun _ _ _ h => h) (Or.inl ⟨by rfl, ?_⟩) (by assumption) ?_
      rotate_left
      · intro w hSw
        try dsimp only at hSw
        go_simp
        with_reducible rfl
      try simp only [Act.put, List.setIfInBounds_toArray, List.set_cons_zero, List.set_cons_succ]
      refine held_take (8) (v := ?_) rfl (by kernel_rfl) (by kernel_rfl) (by kernel_rfl) (fun _ _ _ h => h) (Or.inl ⟨by rfl, ?_⟩) (by assumption) ?_
      rotate_left
      · intro w hSw
        try dsimp only at hSw
        go_simp
        with_reducible rfl
      try simp only [Act.put, List.setIfInBounds_toArray, List.set_cons_zero, List.set_cons_succ]
      refine held_take (9) (v := ?_) rfl (by kernel_rfl) (by kernel_rfl) (by kernel_rfl) (fun _ _ _ h => h) (Or.inl ⟨by rfl, ?_⟩) (by assumption) ?_
      rotate_left
      · intro w hSw
        try dsimp only at hSw
        go_simp
        with_reducible rfl
      try simp only [Act.put, List.setIfInBounds_toArray, List.set_cons_zero, List.set_cons_succ]
      refine wpAnyH_ready (rs := [10, 11]) (by kernel_rfl) (by simp) ?_
      refine held_cons rfl (fun K hK => ?_) ?_
      · skip
        go_simp
        refine hK.out _ _ hH1.out (fun hHeld => ?_)
        clear hK K
        try simp only [Act.put, List.setIfInBounds_toArray, List.set_cons_zero, List.set_cons_succ]
        refine wpAnyH_ready (rs := [11]) (by kernel_rfl) (by simp) ?_
        refine held_cons rfl (fun K hK => ?_) AllReadyH.nil
        go_simp
        refine hK.out _ _ hH2.out (fun hHeld => ?_)
        clear hK K
        try simp only [Act.put, List.setIfInBounds_toArray, List.set_cons_zero, List.set_cons_succ]
        refine wpAnyH_ready (rs := [12]) (by kernel_rfl) (by simp) ?_
        refine held_cons rfl (fun K hK => ?_) AllReadyH.nil
        refine step_store_row rfl 47 (.tmp 9) (.tmp 16) rfl d.heap.size 0 6 (trC x) rfl rfl rfl hZ.out.1 tr_six (tr_one x) ?_
        refine hK.out _ _ hH3.out (fun hHeld => ?_)
        clear hK K
        try simp only [Act.put]
        refine wpAnyH_ready (rs := [13]) (by kernel_rfl) (by simp) ?_
        refine held_cons rfl (fun K hK => ?_) AllReadyH.nil
        have hz3 := (hZ.out.2.2 x).1
        have hf3 := hSf.out.1
        clear hZ hSf hH1 hH2 hH3 hH4 hH5 hH6 hHeld
        generalize ((d.alloc (.cells #[.int .i64 0, .int .i64 0, .int .i64 0, .string ⟨#[]⟩, .string ⟨#[]⟩, .slice none 0 0] 47)).alloc (.cells #[.int .i64 0, .int .i64 0, .int .i64 0, .string ⟨#[]⟩, .string ⟨#[]⟩, .slice none 0 0] 47)).setCells d.heap.size 0 (trC x) = w3 at *
        refine step_store_row rfl 47 (.tmp 10) (.tmp 21) rfl (d.heap.size + 1) 0 6 (trC y) rfl rfl rfl hz3 tr_six (tr_one y) ?_
        refine hK.out _ _ (hf3.s.held hx hy) (fun hHeld => ?_)
        clear hK K
        try simp only [Act.put]
        refine wpAnyH_done (by kernel_rfl) ?_ _
        generalize w3.setCells (d.heap.size + 1) 0 (trC y) = w4 at *
        clear hz3 hHeld
        go_simp
        go_wp2_with fail
        go_meet
        exact ⟨_, _, rfl, rfl, hf3⟩
      · refine held_cons rfl (fun K hK => ?_) AllReadyH.nil
        go_simp
        refine hK.out _ _ hH1.out (fun hHeld => ?_)
        clear hK K
        try simp only [Act.put, List.setIfInBounds_toArray, List.set_cons_zero, List.set_cons_succ]
        refine wpAnyH_ready (rs := [10]) (by kernel_rfl) (by simp) ?_
        refine held_cons rfl (fun K hK => ?_) AllReadyH.nil
        go_simp
        refine hK.out _ _ hH2.out (fun hHeld => ?_)
        clear hK K
        try simp only [Act.put, List.setIfInBounds_toArray, List.set_cons_zero, List.set_cons_succ]
        refine wpAnyH_ready (rs := [12]) (by kernel_rfl) (by simp) ?_
        refine held_cons rfl (fun K hK => ?_) AllReadyH.nil
        refine step_store_row rfl 47 (.tmp 9) (.tmp 16) rfl (d.heap.size + 1) 0 6 (trC x) rfl rfl rfl hZ.out.2.1 tr_six (tr_one x) ?_
        refine hK.out _ _ hH4.out (fun hHeld => ?_)
        clear hK K
        try simp only [Act.put]
        refine wpAnyH_ready (rs := [13]) (by kernel_rfl) (by simp) ?_
        refine held_cons rfl (fun K hK => ?_) AllReadyH.nil
        have hz3 := (hZ.out.2.2 x).2
        have hf3 := hSf.out.2
        clear hZ hSf hH1 hH2 hH3 hH4 hH5 hH6 hHeld
        generalize ((d.alloc (.cells #[.int .i64 0, .int .i64 0, .int .i64 0, .string ⟨#[]⟩, .string ⟨#[]⟩, .slice none 0 0] 47)).alloc (.cells #[.int .i64 0, .int .i64 0, .int .i64 0, .string ⟨#[]⟩, .string ⟨#[]⟩, .slice none 0 0] 47)).setCells (d.heap.size + 1) 0 (trC x) = w3 at *
        refine step_store_row rfl 47 (.tmp 10) (.tmp 21) rfl d.heap.size 0 6 (trC y) rfl rfl rfl hz3 tr_six (tr_one y) ?_
        refine hK.out _ _ (hf3.s.held hx hy) (fun hHeld => ?_)
        clear hK K
        try simp only [Act.put]
        refine wpAnyH_done (by kernel_rfl) ?_ _
        generalize w3.setCells d.heap.size 0 (trC y) = w4 at *
        clear hz3 hHeld
        go_simp
        go_wp2_with fail
        go_meet
        exact ⟨_, _, rfl, rfl, hf3⟩
    case rest =>
      obtain ⟨g9, g10, rfl, rfl, hS⟩ := hcut
      clear hSd HBD
      have x0 := hS.x.cell 0 rfl
      have x1 := hS.x.cell 1 rfl
      have x2 := hS.x.cell 2 rfl
      have x3 := hS.x.cell 3 rfl
      have x4 := hS.x.cell 4 rfl
      have x5 := hS.x.cell 5 rfl
      have y0 := hS.y.cell 0 rfl
      have y1 := hS.y.cell 1 rfl
      have y2 := hS.y.cell 2 rfl
      have y3 := hS.y.cell 3 rfl
      have y4 := hS.y.cell 4 rfl
      have y5 := hS.y.cell 5 rfl
      have HS := Lib.hid hS
      have HB := Lib.hid hS.b
      clear hS
      by_cases k0 : x.kind = y.kind
      rotate_left
      · have e1 : (x.kind == y.kind) = false := by rw [beq_eq_false_iff_ne]; exact k0
        have e2 : (x.kind != y.kind) = true := by rw [bne_iff_ne]; exact k0
        have e3 : decide (x.kind = y.kind) = false := decide_eq_false k0
        have HR : Hid (R = false) := Lib.hid (by rw [HE.out, show headEq x y = false by simp [headEq, k0]]; rfl)
        clear k0
        go_wp2
        go_ret
        exact ⟨ret_bool HR.out.symm, HB.out⟩
      have a0 : (x.kind == y.kind) = true := by rw [beq_iff_eq]; exact k0
      have b0 : (x.kind != y.kind) = false := by rw [bne_eq_false_iff_eq]; exact k0
      have c0 : decide (x.kind = y.kind) = true := decide_eq_true k0
      replace k0 := Lib.hid k0
      by_cases k1 : x.number = y.number
      rotate_left
      · have e1 : (x.number == y.number) = false := by rw [beq_eq_false_iff_ne]; exact k1
        have e2 : (x.number != y.number) = true := by rw [bne_iff_ne]; exact k1
        have e3 : decide (x.number = y.number) = false := decide_eq_false k1
        have HR : Hid (R = false) := Lib.hid (by rw [HE.out, show headEq x y = false by simp [headEq, k1]]; rfl)
        clear k1
        go_wp2
        go_ret
        exact ⟨ret_bool HR.out.symm, HB.out⟩
      have a1 : (x.number == y.number) = true := by rw [beq_iff_eq]; exact k1
      have b1 : (x.number != y.number) = false := by rw [bne_eq_false_iff_eq]; exact k1
      have c1 : decide (x.number = y.number) = true := decide_eq_true k1
      replace k1 := Lib.hid k1
      by_cases k2 : x.years = y.years
      rotate_left
      · have e1 : (x.years == y.years) = false := by rw [beq_eq_false_iff_ne]; exact k2
        have e2 : (x.years != y.years) = true := by rw [bne_iff_ne]; exact k2
        have e3 : decide (x.years = y.years) = false := decide_eq_false k2
        have HR : Hid (R = false) := Lib.hid (by rw [HE.out, show headEq x y = false by simp [headEq, k2]]; rfl)
        clear k2
        go_wp2
        go_ret
        exact ⟨ret_bool HR.out.symm, HB.out⟩
      have a2 : (x.years == y.years) = true := by rw [beq_iff_eq]; exact k2
      have b2 : (x.years != y.years) = false := by rw [bne_eq_false_iff_eq]; exact k2
      have c2 : decide (x.years = y.years) = true := decide_eq_true k2
      replace k2 := Lib.hid k2
      by_cases k3 : x.field = y.field
      rotate_left
      · have e1 : (x.field == y.field) = false := by rw [beq_eq_false_iff_ne]; exact k3
        have e2 : (x.field != y.field) = true := by rw [bne_iff_ne]; exact k3
        have e3 : decide (x.field = y.field) = false := decide_eq_false k3
        have HR : Hid (R = false) := Lib.hid (by rw [HE.out, show headEq x y = false by simp [headEq, k3]]; rfl)
        clear k3
        go_wp2
        go_ret
        exact ⟨ret_bool HR.out.symm, HB.out⟩
      have a3 : (x.field == y.field) = true := by rw [beq_iff_eq]; exact k3
      have b3 : (x.field != y.field) = false := by rw [bne_eq_false_iff_eq]; exact k3
      have c3 : decide (x.field = y.field) = true := decide_eq_true k3
      replace k3 := Lib.hid k3
      by_cases k4 : x.text = y.text
      rotate_left
      · have e1 : (x.text == y.text) = false := by rw [beq_eq_false_iff_ne]; exact k4
        have e2 : (x.text != y.text) = true := by rw [bne_iff_ne]; exact k4
        have e3 : decide (x.text = y.text) = false := decide_eq_false k4
        have HR : Hid (R = false) := Lib.hid (by rw [HE.out, show headEq x y = false by simp [headEq, k4]]; rfl)
        clear k4
        go_wp2
        go_ret
        exact ⟨ret_bool HR.out.symm, HB.out⟩
      have a4 : (x.text == y.text) = true := by rw [beq_iff_eq]; exact k4
      have b4 : (x.text != y.text) = false := by rw [bne_eq_false_iff_eq]; exact k4
      have c4 : decide (x.text = y.text) = true := decide_eq_true k4
      replace k4 := Lib.hid k4
      by_cases k5 : x.args.length = y.args.length
      rotate_left
      · have i1 : ¬ (x.args.length : Int) = (y.args.length : Int) := by omega
        have e1 : ((x.args.length : Int) == (y.args.length : Int)) = false := by rw [beq_eq_false_iff_ne]; exact i1
        have e2 : ((x.args.length : Int) != (y.args.length : Int)) = true := by rw [bne_iff_ne]; exact i1
        have e3 : decide ((x.args.length : Int) = (y.args.length : Int)) = false := decide_eq_false i1
        have e4 : decide (x.args.length = y.args.length) = false := decide_eq_false k5
        have e5 : (x.args.length == y.args.length) = false := by rw [beq_eq_false_iff_ne]; exact k5
        have HR : Hid (R = false) := Lib.hid (by rw [HE.out, show headEq x y = false by simp [headEq, k5]]; rfl)
        clear k5
        go_wp2
        go_ret
        exact ⟨ret_bool HR.out.symm, HB.out⟩
      have hh : headEq x y = true := by
        unfold headEq
        rw [k0.out, k1.out, k2.out, k3.out, k4.out, k5]
        simp
      have i1 : (x.args.length : Int) = (y.args.length : Int) := by omega
      have HR : Hid (R = zipAll (fun a b => P a.toNat b.toNat) x.args y.args) := Lib.hid (by rw [HE.out, hh]; rfl)
      have HK := Lib.hid k5
      have e1 : ((x.args.length : Int) == (y.args.length : Int)) = true := by rw [beq_iff_eq]; exact i1
      have e2 : ((x.args.length : Int) != (y.args.length : Int)) = false := by rw [bne_eq_false_iff_eq]; exact i1
      have e3 : decide ((x.args.length : Int) = (y.args.length : Int)) = true := decide_eq_true i1
      have e4 : decide (x.args.length = y.args.length) = true := decide_eq_true k5
      have e5 : (x.args.length == y.args.length) = true := by rw [beq_iff_eq]; exact k5
      clear i1 k5 hh HE
      go_upto_region 4 with (fail)
      clear a0 a1 a2 a3 a4 b0 b1 b2 b3 b4 c0 c1 c2 c3 c4 e1 e2 e3 e4 e5 x0 x1 x2 x3 x4 y0 y1 y2 y3 y4 y5
      go_upto_region 5 with (fail)
      clear x5
      have hS := HS.out
      clear HS HB
      go_loopw [67] (fun iv wr => ∃ j : Nat, j ≤ x.args.length ∧ iv = .int .i64 (j : Int) ∧ Hid (zipAll (fun a b => P a.toNat b.toNat) x.args y.args = zipAll (fun a b => P a.toNat b.toNat) (x.args.drop j) (y.args.drop j)) ∧ Sf w wr g4 g5 (some ⟨g1, o1, none⟩) A tc (some ⟨g2, o2, none⟩) B td g9 g10 x y) (fun iv _ => x.args.length - (intOf iv).toNat)
      case atStart => exact ⟨0, Nat.zero_le _, rfl, Lib.hid rfl, hS⟩
      case round =>
        clear hS
        obtain ⟨j, hj, rfl, HZ, hS⟩ := hrel
        by_cases hjt : j < x.args.length
        rotate_left
        · have hjl : ¬ (j : Int) < (x.args.length : Int) := by omega
          have HR2 : Hid (R = true) := Lib.hid (by rw [HR.out, HZ.out, List.drop_eq_nil_of_le (by omega)]; rfl)
          have HB := Lib.hid hS.b
          clear hS HZ HR
          go_wp2
          go_ret
          exact ⟨ret_bool HR2.out.symm, HB.out⟩
        have hjl : (j : Int) < (x.args.length : Int) := by omega
        have hjy : (j : Int) < (y.args.length : Int) := by have := HK.out; omega
        have hwj : IntKind.i64.wrap ((j : Int) + 1) = (j : Int) + 1 := by rw [IntKind.wrap_i64]; omega
        obtain ⟨ga, oa, a, hka, -, ha⟩ := (hS.s.ra.args x (mem_at hx)).int (k := j) hjt
        obtain ⟨gb, ob, b, hkb', -, hb⟩ := (hS.s.rb.args y (mem_at hy)).int (k := j) (by have := HK.out; omega)
        have HD : Hid (zipAll (fun a b => P a.toNat b.toNat) (x.args.drop j) (y.args.drop j) = (P a.toNat b.toNat && zipAll (fun a b => P a.toNat b.toNat) (x.args.drop (j + 1)) (y.args.drop (j + 1)))) := Lib.hid (by rw [drop_at ha, drop_at hb]; rfl)
        have hHH := fun V (hV : Sf w V g4 g5 (some ⟨g1, o1, none⟩) A tc (some ⟨g2, o2, none⟩) B td g9 g10 x y) => Sf.at' hV (mem_at hx) (mem_at hy) hka hkb' ha hb
        have IH2 : Hid (∀ V, Sf w V g4 g5 (some ⟨g1, o1, none⟩) A tc (some ⟨g2, o2, none⟩) B td g9 g10 x y → Calls Tryd.prog 19 #[.agg #[.slice (some ⟨g1, o1, none⟩) A.length tc], .agg #[.slice (some ⟨g2, o2, none⟩) B.length td], .int .i64 a, .int .i64 b] V fun e w1 => e = .returned (.bool (P a.toNat b.toNat)) ∧ Below V.heap.size V w1) := Lib.hid (fun V hV => IH.out V hV.s.ra hV.s.rb a (mem_at ha) b (mem_at hb))
        have HHH := Lib.hid hHH
        obtain ⟨q, hq⟩ : ∃ q, q = P a.toNat b.toNat := ⟨_, rfl⟩
        rw [← hq] at IH2 HD
        clear hHH hka hkb' ha hb hq
        go_upto_region 7 with (fail)
        refine wp_region_held_drew (S := fun w' => w'.cell? ⟨g4, 0, none⟩ = some (.slice (some ⟨g1, o1, none⟩) A.length tc) ∧ w'.cell? ⟨g5, 0, none⟩ = some (.slice (some ⟨g2, o2, none⟩) B.length td) ∧ w'.cell? ⟨g9, 5, none⟩ = some (.slice (some ⟨ga, oa, none⟩) x.args.length x.ac) ∧ w'.cell? ⟨g10, 5, none⟩ = some (.slice (some ⟨gb, ob, none⟩) y.args.length y.ac) ∧ w'.cell? ⟨ga, oa + j, none⟩ = some (.int .i64 a) ∧ w'.cell? ⟨gb, ob + j, none⟩ = some (.int .i64 b)) (by kernel_rfl) (HHH.out _ (hS.keep (Below.refl _ _).drew)) (fun hHeld => ?_)
        simp only [List.size_toArray, List.length_cons, List.length_nil]
        replace hS := hS.keep (Below.refl _ _).drew
        generalize wr.drew = v1 at *
        refine held_take (0) (v := ?_) rfl (by kernel_rfl) (by kernel_rfl) (by kernel_rfl) (fun _ _ _ h => h) (Or.inl ⟨by rfl, ?_⟩) (by assumption) ?_
        rotate_left
        · intro w hSw
          try dsimp only at hSw
          go_simp
          with_reducible rfl
        try simp only [Act.put, List.setIfInBounds_toArray, List.set_cons_zero, List.set_cons_succ]
        refine held_take (1) (v := ?_) rfl (by kernel_rfl) (by kernel_rfl) (by kernel_rfl) (fun _ _ _ h => h) (Or.inl ⟨by rfl, ?_⟩) (by assumption) ?_
        rotate_left
        · intro w hSw
          try dsimp only at hSw
          go_simp
          with_reducible rfl
        try simp only [Act.put, List.setIfInBounds_toArray, List.set_cons_zero, List.set_cons_succ]
        refine held_take (2) (v := ?_) rfl (by kernel_rfl) (by kernel_rfl) (by kernel_rfl) (fun _ _ _ h => h) (Or.inl ⟨by rfl, ?_⟩) (by assumption) ?_
        rotate_left
        · intro w hSw
          try dsimp only at hSw
          go_simp
          with_reducible rfl
        try simp only [Act.put, List.setIfInBounds_toArray, List.set_cons_zero, List.set_cons_succ]
        refine held_take (3) (v := ?_) rfl (by kernel_rfl) (by kernel_rfl) (by kernel_rfl) (fun _ _ _ h => h) (Or.inl ⟨by rfl, ?_⟩) (by assumption) ?_
        rotate_left
        · intro w hSw
          try dsimp only at hSw
          go_simp
          with_reducible rfl
        try simp only [Act.put, List.setIfInBounds_toArray, List.set_cons_zero, List.set_cons_succ]
        refine held_take (4) (v := ?_) rfl (by kernel_rfl) (by kernel_rfl) (by kernel_rfl) (fun _ _ _ h => h) (Or.inl ⟨by rfl, ?_⟩) (by assumption) ?_
        rotate_left
        · intro w hSw
          try dsimp only at hSw
          go_simp
          with_reducible rfl
        try simp only [Act.put, List.setIfInBounds_toArray, List.set_cons_zero, List.set_cons_succ]
        refine held_take (5) (v := ?_) rfl (by kernel_rfl) (by kernel_rfl) (by kernel_rfl) (fun _ _ _ h => h) (Or.inl ⟨by rfl, ?_⟩) (by assumption) ?_
        rotate_left
        · intro w hSw
          try dsimp only at hSw
          go_simp
          with_reducible rfl
        try simp only [Act.put, List.setIfInBounds_toArray, List.set_cons_zero, List.set_cons_succ]
        refine held_take (6) (v := ?_) rfl (by kernel_rfl) (by kernel_rfl) (by kernel_rfl) (fun _ _ _ h => h) (Or.inl ⟨by rfl, ?_⟩) (by assumption) ?_
        rotate_left
        · intro w hSw
          try dsimp only at hSw
          go_simp
          with_reducible rfl
        try simp only [Act.put, List.setIfInBounds_toArray, List.set_cons_zero, List.set_cons_succ]
        refine held_take (7) (v := ?_) rfl (by kernel_rfl) (by kernel_rfl) (by kernel_rfl) (fun _ _ _ h => h) (Or.inl ⟨by rfl, ?_⟩) (by assumption) ?_
        rotate_left
        · intro w hSw
          try dsimp only at hSw
          go_simp
          with_reducible rfl
        try simp only [Act.put, List.setIfInBounds_toArray, List.set_cons_zero, List.set_cons_succ]
        refine held_take (8) (v := ?_) rfl (by kernel_rfl) (by kernel_rfl) (by kernel_rfl) (fun _ _ _ h => h) (Or.inl ⟨by rfl, ?_⟩) (by assumption) ?_
        rotate_left
        · intro w hSw
          try dsimp only at hSw
          go_simp
          with_reducible rfl
        try simp only [Act.put, List.setIfInBounds_toArray, List.set_cons_zero, List.set_cons_succ]
        refine held_take (9) (v := ?_) rfl (by kernel_rfl) (by kernel_rfl) (by kernel_rfl) (fun _ _ _ h => h) (Or.inl ⟨by rfl, ?_⟩) (by assumption) ?_
        rotate_left
        · intro w hSw
          try dsimp only at hSw
          go_simp
          with_reducible rfl
        try simp only [Act.put, List.setIfInBounds_toArray, List.set_cons_zero, List.set_cons_succ]
        refine held_take (10) (v := ?_) rfl (by kernel_rfl) (by kernel_rfl) (by kernel_rfl) (fun _ _ _ h => h) (Or.inl ⟨by rfl, ?_⟩) (by assumption) ?_
        rotate_left
        · intro w hSw
          try dsimp only at hSw
          go_simp
          with_reducible rfl
        try simp only [Act.put, List.setIfInBounds_toArray, List.set_cons_zero, List.set_cons_succ]
        refine held_take (11) (v := ?_) rfl (by kernel_rfl) (by kernel_rfl) (by kernel_rfl) (fun _ _ _ h => h) (Or.inl ⟨by rfl, ?_⟩) (by assumption) ?_
        rotate_left
        · intro w hSw
          try dsimp only at hSw
          go_simp
          with_reducible rfl
        try simp only [Act.put, List.setIfInBounds_toArray, List.set_cons_zero, List.set_cons_succ]
        refine wpAnyH_ready (rs := [12]) (by kernel_rfl) (by simp) ?_
        refine held_cons rfl (fun K hK => ?_) AllReadyH.nil
        go_simp
        go_at_call 19
        (with_reducible refine (IH2.out _ hS).mono ?_)
        (first | rintro e v2 rfl hb2 | rintro e v2 ⟨rfl, hb2⟩)
        replace hS := hS.keep hb2
        clear hb2
        go_wp2_with fail
        refine hK.out _ _ (HHH.out _ hS) (fun hHeld => ?_)
        clear hK K
        try simp only [Act.put]
        refine held_take (13) (v := ?_) rfl (by kernel_rfl) (by kernel_rfl) (by kernel_rfl) (fun _ _ _ h => h) (Or.inl ⟨by rfl, ?_⟩) (by assumption) ?_
        rotate_left
        · intro w hSw
          try dsimp only at hSw
          go_simp
          with_reducible rfl
        try simp only [Act.put, List.setIfInBounds_toArray, List.set_cons_zero, List.set_cons_succ]
        refine wpAnyH_done (by kernel_rfl) ?_ _
        clear hHeld
        cases q with
        | false =>
          have HR2 : Hid (R = false) := Lib.hid (by rw [HR.out, HZ.out, HD.out]; rfl)
          have HB := Lib.hid hS.b
          clear hS HZ HR HD
          go_simp
          go_wp2_with fail
          go_ret
          exact ⟨ret_bool HR2.out.symm, HB.out⟩
        | true =>
          have HZ2 := Lib.hid (HZ.out.trans HD.out)
          replace HZ2 : Hid (zipAll (fun a b => P a.toNat b.toNat) x.args y.args = zipAll (fun a b => P a.toNat b.toNat) (x.args.drop (j + 1)) (y.args.drop (j + 1))) := Lib.hid (HZ2.out.trans (by rfl))
          have HS := Lib.hid hS
          clear hS HZ HD
          go_simp
          go_wp2_with fail
          go_roundw
          case rel => exact ⟨j + 1, by omega, by go_num, HZ2, HS.out⟩
          case measure => simp [intOf]; omega
end Go.Proofs.YtejdaeonknpgeaaDoor
