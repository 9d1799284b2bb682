/- A world that is as it was but for some blocks. -/
import Derived.Test.YtpofijdkckaphaaGreatGEnv
import Derived.Test.YtpofijdkckaphaaGreatGBk
import Derived.Test.YtpofijdkckaphaaGreatRowsC
import Derived.Test.YtpofijdkckaphaaGreatGCndA
namespace Go.Proofs.YtpofijdkckaphaaGreat
open Go.RowKit
structure Kp (S : Nat → Prop) (w w' : World) : Prop where
  os : w'.os = w.os
  tape : w'.tape = w.tape
  output : w'.output = w.output
  size : w.heap.size ≤ w'.heap.size
  block : ∀ k, k < w.heap.size → ¬ S k → w'.heap[k]? = w.heap[k]?
theorem Kp.refl (S : Nat → Prop) (w : World) : Kp S w w := ⟨rfl, rfl, rfl, Nat.le_refl _, fun _ _ _ => rfl⟩
theorem Kp.of_grown {w w' : World} {row : Option Nat} (h : w.grownBy w' row) {S : Nat → Prop} (hs : ∀ j, row = some j → S j) : Kp S w w' :=
  ⟨h.os, h.tape, h.output, h.size, fun k hk hn => h.block k hk (fun e => hn (hs k e.symm))⟩
theorem Kp.of_below {w w' : World} (h : Below w.heap.size w w') (S : Nat → Prop) : Kp S w w' := ⟨h.os, h.tape, h.output, h.size, fun k hk _ => h.block k hk⟩
theorem Kp.trans {S S' : Nat → Prop} {a b c : World} (h : Kp S a b) (k : Kp S' b c) (hs : ∀ j, j < a.heap.size → S' j → S j) : Kp S a c :=
  ⟨k.os.trans h.os, k.tape.trans h.tape, k.output.trans h.output, Nat.le_trans h.size k.size, fun j hj hn => (k.block j (Nat.lt_of_lt_of_le hj h.size) (fun e => hn (hs j hj e))).trans (h.block j hj hn)⟩
theorem Kp.mono {S S' : Nat → Prop} {a b : World} (h : Kp S a b) (hs : ∀ j, j < a.heap.size → S j → S' j) : Kp S' a b :=
  ⟨h.os, h.tape, h.output, h.size, fun j hj hn => h.block j hj (fun e => hn (hs j hj e))⟩
theorem Kp.below {S : Nat → Prop} {a b : World} {B : Nat} (h : Kp S a b) (hB : B ≤ a.heap.size) (hs : ∀ j, j < B → ¬ S j) : Below B a b :=
  ⟨h.os, h.tape, h.output, h.size, fun j hj => h.block j (by omega) (hs j hj)⟩
theorem Bx.kp {S : Nat → Prop} {w w' : World} {g : Nat} {t : TypeId} {cs : List Value} (h : Bx w g t cs) (hk : Kp S w w') (hs : ¬ S g) : Bx w' g t cs := (hk.block g h.lt hs).trans h
theorem Rd.kp {S : Nat → Prop} {w w' : World} {a : Option Addr} {xs : List Value} (h : Rd w a xs) (hk : Kp S w w') (hs : ∀ j, rowOf a = some j → ¬ S j) : Rd w' a xs := fun j u hj => by
  obtain ⟨g, off, ha, hc⟩ := h j u hj
  subst ha
  have hlt : g < w.heap.size := by simpa using World.block_lt_of_cell? w _ hc
  exact ⟨g, off, rfl, by rw [World.cell?_of_block (w := w) (hk.block g hlt (hs g rfl))]; exact hc⟩
theorem Ow.kp {S : Nat → Prop} {w w' : World} {base size : Nat} {a : Option Addr} {n cap : Nat} {xs : List Value} (h : Ow w base size a n cap xs) (hk : Kp S w w') (hs : ∀ j, rowOf a = some j → ¬ S j) : Ow w' base size a n cap xs := by
  obtain ⟨hl, hc, hm, ⟨rfl, rfl⟩ | ⟨g, off, rfl, hb, hgs, hx, hf⟩⟩ := h
  · exact ⟨hl, hc, hm, .inl ⟨rfl, rfl⟩⟩
  · have hk' : w'.heap[g]? = w.heap[g]? := hk.block g hgs (hs g rfl)
    refine ⟨hl, hc, hm, .inr ⟨g, off, rfl, hb, Nat.lt_of_lt_of_le hgs hk.size, fun j u hj => ?_, fun j hj => ?_⟩⟩
    · rw [World.cell?_of_block (w := w) hk']; exact hx j u hj
    · rw [World.cell?_of_block (w := w) hk', World.frozen?_of_block (w := w) hk']; exact hf j hj
theorem setCell_kp (w : World) (g o : Nat) (v : Value) {S : Nat → Prop} (hs : S g) : Kp S w (w.setCell ⟨g, o, none⟩ v) :=
  ⟨rfl, rfl, rfl, by simp, fun k _ hk => heap_setCell_other w ⟨g, o, none⟩ k v (fun e => hk (e ▸ hs))⟩
theorem Env.kp {W w w' : World} {db : Nat} {p : Option Addr} {l : List Int} {cap k : Nat} {S : Nat → Prop} (h : Env W w db p l cap k) (hk : Kp S w w') (hW : W.heap.size ≤ w.heap.size) (hs : ∀ j, j < W.heap.size → ¬ S j) (hd : ¬ S db) (hR : Rd W p (ints l)) : Env W w' db p l cap k := by
  have hb := h.below.trans (hk.below hW hs)
  exact ⟨⟨(hk.block db h.dice.lt hd).trans h.dice.1, h.dice.2⟩, hR.keep hb, hb⟩
end Go.Proofs.YtpofijdkckaphaaGreat
/- Conditions made behind the dice; what a term's strings and numbers may be. -/
namespace Go.Proofs.YtpofijdkckaphaaGreat
open Go.RowKit
theorem term_in (k n y : Int) (f x : List UInt8) (A : List Int) (aa : Option Addr) (ac : Nat) (h1 : 0 ≤ k ∧ k ≤ 1000) (h2 : 0 ≤ n ∧ n ≤ 1000) (h3 : 0 ≤ y ∧ y ≤ 1000) (hf : f.length ≤ 1000) (hx : x.length ≤ 1000) (hA : ∀ a ∈ A, I64 a) (hc : A.length ≤ ac) (hl : A.length ≤ 1000) : Trm.In ⟨k, n, y, f, x, A, aa, ac⟩ := by
  unfold Trm.In I64
  dsimp only
  refine ⟨⟨⟨by omega, by omega⟩, ⟨by omega, by omega⟩, ⟨by omega, by omega⟩⟩, by omega, by omega, hA, hc, by omega⟩
theorem Cond.ret {fn : Func} {t : Tmp} (h : fn.results = #[.cell t 34]) (tmps : Array Value) {w : World} {g : Nat} {v0 : Value} (ht : tmps.getD t undef = .pointer (some ⟨g, 0, none⟩)) (hD : Bx w g 34 [v0]) :
    (results fn tmps).run Tryz.prog w = .ok (.agg #[v0]) w := by
  have c0 := hD.cell 0 (v := v0) rfl
  have ht' : tmps[t]?.getD undef = .pointer (some ⟨g, 0, none⟩) := by simpa using ht
  simp [results, h, ht', go_sem, c0]
/-- a condition that lies behind the dice -/
structure Cd (w : World) (db : Nat) (ta : Option Addr) (X : List Trm) : Prop where
  r : RdT w ta X
  a : ∀ j, rowOf ta = some j → db < j
  t : ∀ t ∈ X, ∀ j, rowOf t.aa = some j → db < j
theorem Cd.keep {w w' : World} {db : Nat} {ta : Option Addr} {X : List Trm} (h : Cd w db ta X) (hb : Below w.heap.size w w') : Cd w' db ta X := ⟨h.r.keep hb, h.a, h.t⟩
theorem RdT.kp {S : Nat → Prop} {w w' : World} {a : Option Addr} {T : List Trm} (h : RdT w a T) (hk : Kp S w w') (h1 : ∀ j, rowOf a = some j → ¬ S j) (h2 : ∀ t ∈ T, ∀ j, rowOf t.aa = some j → ¬ S j) : RdT w' a T :=
  ⟨h.rows.kp hk h1, fun t ht => (h.args t ht).kp hk (h2 t ht), h.ok⟩
theorem Cd.next {w w' : World} {db : Nat} {ta : Option Addr} {X : List Trm} (h : Cd w db ta X) (hg : w.grownBy w' (some db)) : Cd w' db ta X :=
  ⟨h.r.kp (Kp.of_grown hg (S := fun j => j = db) (fun j e => (Option.some.inj e).symm)) (fun j hj e => by have := h.a j hj; omega) (fun t ht j hj e => by have := h.t t ht j hj; omega), h.a, h.t⟩
/-- a condition as it is read: its slice has room for all that it holds -/
structure Cn (w : World) (a : Option Addr) (c : Nat) (T : List Trm) : Prop where
  r : RdT w a T
  c : T.length ≤ c
  l : T.length ≤ 1000
theorem Cn.keep {w w' : World} {a : Option Addr} {c : Nat} {T : List Trm} (h : Cn w a c T) (hb : Below w.heap.size w w') : Cn w' a c T := ⟨h.r.keep hb, h.c, h.l⟩
/-- a condition that was made behind the dice -/
structure Ce (w : World) (db : Nat) (ta : Option Addr) (tc : Nat) (X : List Trm) : Prop where
  d : Cd w db ta X
  lt : ∀ t ∈ X, ∀ j, rowOf t.aa = some j → j < w.heap.size
  c : X.length ≤ tc
theorem Ce.keep {w w' : World} {db : Nat} {ta : Option Addr} {tc : Nat} {X : List Trm} (h : Ce w db ta tc X) (hb : Below w.heap.size w w') : Ce w' db ta tc X := ⟨h.d.keep hb, fun t ht j hj => Nat.lt_of_lt_of_le (h.lt t ht j hj) hb.size, h.c⟩
theorem Ce.next {w w' : World} {db : Nat} {ta : Option Addr} {tc : Nat} {X : List Trm} (h : Ce w db ta tc X) (hg : w.grownBy w' (some db)) : Ce w' db ta tc X := ⟨h.d.next hg, fun t ht j hj => Nat.lt_of_lt_of_le (h.lt t ht j hj) hg.size, h.c⟩
end Go.Proofs.YtpofijdkckaphaaGreat
