/- A world that is as it was but for some blocks. -/
import Derived.Test.YtpofijdkckaphaaGreatDoorGMod
import Derived.Test.YtpofijdkckaphaaGreatDoorGCndP
import Derived.Test.YtpofijdkckaphaaGreatDoorGRowsC
import Derived.Test.YtpofijdkckaphaaGreatDoorGCndA
import Derived.Test.YtpofijdkckaphaaGreatDoorGCndSP
import Derived.Deep.MidRow
namespace Go.Proofs.YtpofijdkckaphaaGreatDoor
open Go.RowKit
structure Kp (S : Nat → Prop) (w w' : World) : Prop where
  os : w'.os = w.os
  tape : w'.tape = w.tape
  output : w'.output = w.output
  size : w.heap.size ≤ w'.heap.size
  block : ∀ k, k < w.heap.size → ¬ S k → w'.heap[k]? = w.heap[k]?
theorem Kp.refl (S : Nat → Prop) (w : World) : Kp S w w := ⟨rfl, rfl, rfl, Nat.le_refl _, fun _ _ _ => rfl⟩
theorem Kp.of_grown {w w' : World} {row : Option Nat} (h : w.grownBy w' row) {S : Nat → Prop} (hs : ∀ j, row = some j → S j) : Kp S w w' :=
  ⟨h.os, h.tape, h.output, h.size, fun k hk hn => h.block k hk (fun e => hn (hs k e.symm))⟩
theorem Kp.of_below {w w' : World} (h : Below w.heap.size w w') (S : Nat → Prop) : Kp S w w' := ⟨h.os, h.tape, h.output, h.size, fun k hk _ => h.block k hk⟩
theorem Kp.trans {S S' : Nat → Prop} {a b c : World} (h : Kp S a b) (k : Kp S' b c) (hs : ∀ j, j < a.heap.size → S' j → S j) : Kp S a c :=
  ⟨k.os.trans h.os, k.tape.trans h.tape, k.output.trans h.output, Nat.le_trans h.size k.size, fun j hj hn => (k.block j (Nat.lt_of_lt_of_le hj h.size) (fun e => hn (hs j hj e))).trans (h.block j hj hn)⟩
theorem Kp.mono {S S' : Nat → Prop} {a b : World} (h : Kp S a b) (hs : ∀ j, j < a.heap.size → S j → S' j) : Kp S' a b :=
  ⟨h.os, h.tape, h.output, h.size, fun j hj hn => h.block j hj (fun e => hn (hs j hj e))⟩
theorem Kp.below {S : Nat → Prop} {a b : World} {B : Nat} (h : Kp S a b) (hB : B ≤ a.heap.size) (hs : ∀ j, j < B → ¬ S j) : Below B a b :=
  ⟨h.os, h.tape, h.output, h.size, fun j hj => h.block j (by omega) (hs j hj)⟩
theorem Bx.kp {S : Nat → Prop} {w w' : World} {g : Nat} {t : TypeId} {cs : List Value} (h : Bx w g t cs) (hk : Kp S w w') (hs : ¬ S g) : Bx w' g t cs := (hk.block g h.lt hs).trans h
theorem Rd.kp {S : Nat → Prop} {w w' : World} {a : Option Addr} {xs : List Value} (h : Rd w a xs) (hk : Kp S w w') (hs : ∀ j, rowOf a = some j → ¬ S j) : Rd w' a xs := fun j u hj => by
  obtain ⟨g, off, ha, hc⟩ := h j u hj
  subst ha
  have hlt : g < w.heap.size := by simpa using World.block_lt_of_cell? w _ hc
  exact ⟨g, off, rfl, by rw [World.cell?_of_block (w := w) (hk.block g hlt (hs g rfl))]; exact hc⟩
theorem Ow.kp {S : Nat → Prop} {w w' : World} {base size : Nat} {a : Option Addr} {n cap : Nat} {xs : List Value} (h : Ow w base size a n cap xs) (hk : Kp S w w') (hs : ∀ j, rowOf a = some j → ¬ S j) : Ow w' base size a n cap xs := by
  obtain ⟨hl, hc, hm, ⟨rfl, rfl⟩ | ⟨g, off, rfl, hb, hgs, hx, hf⟩⟩ := h
  · exact ⟨hl, hc, hm, .inl ⟨rfl, rfl⟩⟩
  · have hk' : w'.heap[g]? = w.heap[g]? := hk.block g hgs (hs g rfl)
    refine ⟨hl, hc, hm, .inr ⟨g, off, rfl, hb, Nat.lt_of_lt_of_le hgs hk.size, fun j u hj => ?_, fun j hj => ?_⟩⟩
    · rw [World.cell?_of_block (w := w) hk']; exact hx j u hj
    · rw [World.cell?_of_block (w := w) hk', World.frozen?_of_block (w := w) hk']; exact hf j hj
theorem setCell_kp (w : World) (g o : Nat) (v : Value) {S : Nat → Prop} (hs : S g) : Kp S w (w.setCell ⟨g, o, none⟩ v) :=
  ⟨rfl, rfl, rfl, by simp, fun k _ hk => heap_setCell_other w ⟨g, o, none⟩ k v (fun e => hk (e ▸ hs))⟩
theorem Env.kp {W w w' : World} {db : Nat} {p : Option Addr} {l : List Int} {cap k : Nat} {S : Nat → Prop} (h : Env W w db p l cap k) (hk : Kp S w w') (hW : W.heap.size ≤ w.heap.size) (hs : ∀ j, j < W.heap.size → ¬ S j) (hd : ¬ S db) (hR : Rd W p (ints l)) : Env W w' db p l cap k := by
  have hb := h.below.trans (hk.below hW hs)
  exact ⟨⟨(hk.block db h.dice.lt hd).trans h.dice.1, h.dice.2⟩, hR.keep hb, hb⟩
end Go.Proofs.YtpofijdkckaphaaGreatDoor
/- Conditions made behind the dice; what a term's strings and numbers may be. -/
namespace Go.Proofs.YtpofijdkckaphaaGreatDoor
open Go.RowKit
theorem term_in (k n y : Int) (f x : List UInt8) (A : List Int) (aa : Option Addr) (ac : Nat) (h1 : 0 ≤ k ∧ k ≤ 1000) (h2 : 0 ≤ n ∧ n ≤ 1000) (h3 : 0 ≤ y ∧ y ≤ 1000) (hf : f.length ≤ 1000) (hx : x.length ≤ 1000) (hA : ∀ a ∈ A, I64 a) (hc : A.length ≤ ac) (hl : A.length ≤ 1000) : Trm.In ⟨k, n, y, f, x, A, aa, ac⟩ := by
  unfold Trm.In I64
  dsimp only
  refine ⟨⟨⟨by omega, by omega⟩, ⟨by omega, by omega⟩, ⟨by omega, by omega⟩⟩, by omega, by omega, hA, hc, by omega⟩
theorem Cond.ret {fn : Func} {t : Tmp} (h : fn.results = #[.cell t 42]) (tmps : Array Value) {w : World} {g : Nat} {v0 : Value} (ht : tmps.getD t undef = .pointer (some ⟨g, 0, none⟩)) (hD : Bx w g 42 [v0]) :
    (results fn tmps).run Tryz.prog w = .ok (.agg #[v0]) w := by
  have c0 := hD.cell 0 (v := v0) rfl
  have ht' : tmps[t]?.getD undef = .pointer (some ⟨g, 0, none⟩) := by simpa using ht
  simp [results, h, ht', go_sem, c0]
/-- a condition that lies behind the dice -/
structure Cd (w : World) (db : Nat) (ta : Option Addr) (X : List Trm) : Prop where
  r : RdT w ta X
  a : ∀ j, rowOf ta = some j → db < j
  t : ∀ t ∈ X, ∀ j, rowOf t.aa = some j → db < j
theorem Cd.keep {w w' : World} {db : Nat} {ta : Option Addr} {X : List Trm} (h : Cd w db ta X) (hb : Below w.heap.size w w') : Cd w' db ta X := ⟨h.r.keep hb, h.a, h.t⟩
theorem RdT.kp {S : Nat → Prop} {w w' : World} {a : Option Addr} {T : List Trm} (h : RdT w a T) (hk : Kp S w w') (h1 : ∀ j, rowOf a = some j → ¬ S j) (h2 : ∀ t ∈ T, ∀ j, rowOf t.aa = some j → ¬ S j) : RdT w' a T :=
  ⟨h.rows.kp hk h1, fun t ht => (h.args t ht).kp hk (h2 t ht), h.ok⟩
theorem Cd.next {w w' : World} {db : Nat} {ta : Option Addr} {X : List Trm} (h : Cd w db ta X) (hg : w.grownBy w' (some db)) : Cd w' db ta X :=
  ⟨h.r.kp (Kp.of_grown hg (S := fun j => j = db) (fun j e => (Option.some.inj e).symm)) (fun j hj e => by have := h.a j hj; omega) (fun t ht j hj e => by have := h.t t ht j hj; omega), h.a, h.t⟩
/-- a condition as it is read: its slice has room for all that it holds -/
structure Cn (w : World) (a : Option Addr) (c : Nat) (T : List Trm) : Prop where
  r : RdT w a T
  c : T.length ≤ c
  l : T.length ≤ 1000
theorem Cn.keep {w w' : World} {a : Option Addr} {c : Nat} {T : List Trm} (h : Cn w a c T) (hb : Below w.heap.size w w') : Cn w' a c T := ⟨h.r.keep hb, h.c, h.l⟩
/-- a condition that was made behind the dice -/
structure Ce (w : World) (db : Nat) (ta : Option Addr) (tc : Nat) (X : List Trm) : Prop where
  d : Cd w db ta X
  lt : ∀ t ∈ X, ∀ j, rowOf t.aa = some j → j < w.heap.size
  c : X.length ≤ tc
theorem Ce.keep {w w' : World} {db : Nat} {ta : Option Addr} {tc : Nat} {X : List Trm} (h : Ce w db ta tc X) (hb : Below w.heap.size w w') : Ce w' db ta tc X := ⟨h.d.keep hb, fun t ht j hj => Nat.lt_of_lt_of_le (h.lt t ht j hj) hb.size, h.c⟩
theorem Ce.next {w w' : World} {db : Nat} {ta : Option Addr} {tc : Nat} {X : List Trm} (h : Ce w db ta tc X) (hg : w.grownBy w' (some db)) : Ce w' db ta tc X := ⟨h.d.next hg, fun t ht j hj => Nat.lt_of_lt_of_le (h.lt t ht j hj) hg.size, h.c⟩
end Go.Proofs.YtpofijdkckaphaaGreatDoor
/- Two members change places in a slice of the call's own. No program in sight. -/
namespace Go.Proofs.YtpofijdkckaphaaGreatDoor
open Go.RowKit
theorem Ow.swapM {w : World} {base g off n cap i k : Nat} {l : List Mem} {x y : Mem} (h : Ow w base 5 (some ⟨g, off, none⟩) n cap (rowsC mmC l)) (hx : l[i]? = some x) (hy : l[k]? = some y) :
    Ow ((w.setCells g (off + i * 5) (mmC y)).setCells g (off + k * 5) (mmC x)) base 5 (some ⟨g, off, none⟩) n cap (rowsC mmC (swapL l i k x y)) ∧ w.grownBy ((w.setCells g (off + i * 5) (mmC y)).setCells g (off + k * 5) (mmC x)) (some g) := by
  have hi := (List.getElem?_eq_some_iff.1 hx).1
  have hk := (List.getElem?_eq_some_iff.1 hy).1
  have s1 := Ow.setRow (f := mmC) mmC_len h hi y
  have s2 := Ow.setRow (f := mmC) mmC_len s1.1 (by rw [List.length_set]; exact hk) x
  refine ⟨s2.1, ?_⟩
  exact ⟨s2.2.os.trans s1.2.os, s2.2.tape.trans s1.2.tape, s2.2.output.trans s1.2.output, Nat.le_trans s1.2.size s2.2.size, fun j hj hn => (s2.2.block j (Nat.lt_of_lt_of_le hj s1.2.size) hn).trans (s1.2.block j hj hn)⟩
/-- a row of a slice of the call's own may be written -/
theorem Ow.there {α : Type} {f : α → List Value} {k : Nat} (hf : ∀ x, (f x).length = k) {w : World} {base g off n cap i : Nat} {l : List α} (h : Ow w base k (some ⟨g, off, none⟩) n cap (rowsC f l)) (hi : i < l.length) : w.there g (off + i * k) k := fun j hj => by
  have hl := h.1
  have hc := h.2.1
  rw [rowsC_length hf] at hl
  have e3 : (i + 1) * k ≤ l.length * k := Nat.mul_le_mul_right k hi
  have e4 : n * k ≤ cap * k := Nat.mul_le_mul_right k hc
  have e2 : (i + 1) * k = i * k + k := Nat.succ_mul _ _
  have := h.both.2 (i * k + j) (by omega)
  rwa [← Nat.add_assoc] at this
/-- the store of a row, as an operation of a drawn region -/
theorem step_store_row {P : Program} {ops : Array Oper} {op : Oper} {a : Act} {w : World} {K : Act → World → Prop} {Q : Exit → Act → World → Prop} {E : Prop} (hg : op.guard = none) (ty : TypeId) (x y : Operand) (ho : op.op = .store ty x y)
    (b o n : Nat) (cs : List Value) (hx : a.eval x = .pointer (some ⟨b, o, none⟩)) (hy : a.eval y = .agg cs.toArray)
    (hn : cs.length = n) (ht : w.there b o n) (hi : (P.info? ty).map (·.size) = some n) (h1 : ∀ v ∈ cs, v.oneCell' = true)
    (h : K (a.put op.dst undef) (w.setCells b o cs)) : if Region.wanted op (yielded ops a.tmps) = true then Oper.wp P op a w K Q else E := by
  have hw : Region.wanted op (yielded ops a.tmps) = true := by simp [Region.wanted, hg]
  rw [if_pos hw]
  exact wp_store_mid ty x y ho b o cs.toArray hx hy (by rw [List.size_toArray, hn]; exact ht) (by rw [List.size_toArray, hn]; exact hi) (all_oneCell_toArray h1) (by rw [List.toList_toArray]; exact h)
theorem swapL_sub {L : List Mem} {i k : Nat} {x y : Mem} (hx : L[i]? = some x) (hy : L[k]? = some y) (z : Mem) (hz : z ∈ swapL L i k x y) : z ∈ L := by
  rcases List.mem_or_eq_of_mem_set hz with hz | rfl
  · rcases List.mem_or_eq_of_mem_set hz with hz | rfl
    · exact hz
    · exact List.mem_of_getElem? hy
  · exact List.mem_of_getElem? hx
end Go.Proofs.YtpofijdkckaphaaGreatDoor
/- A block of its own: all its cells are stored at once. No program in sight. -/
namespace Go.Proofs.YtpofijdkckaphaaGreatDoor
open Go.RowKit
theorem Bx.there {w : World} {g : Nat} {t : TypeId} {cs : List Value} (h : Bx w g t cs) {n : Nat} (hn : cs.length = n) : w.there g 0 n := fun j hj => by
  rw [Nat.zero_add]
  exact ⟨by rw [h.cell j (List.getElem?_eq_getElem (by omega))]; rfl, h.free j⟩
theorem Bx.setFrom {g : Nat} {t : TypeId} : ∀ (vs : List Value) (o : Nat) (cs : List Value) (w : World), Bx w g t cs → o + vs.length = cs.length → Bx (w.setCells g o vs) g t (cs.take o ++ vs)
  | [], o, cs, w, h, hl => by
    rw [List.append_nil, List.take_of_length_le (by simp at hl; omega)]
    exact h
  | v :: r, o, cs, w, h, hl => by
    rw [World.setCells]
    have h1 := Bx.setFrom r (o + 1) (cs.set o v) (w.setCell ⟨g, o, none⟩ v) (h.set o v) (by rw [List.length_set, List.length_cons] at *; omega)
    have e : (cs.set o v).take (o + 1) = cs.take o ++ [v] := by
      have hlt : o < cs.length := by rw [List.length_cons] at hl; omega
      rw [List.take_add_one, List.getElem?_set_self hlt, List.take_set_of_le (Nat.le_refl _)]
      rfl
    rw [e, List.append_assoc] at h1
    exact h1
theorem Bx.setAll {w : World} {g : Nat} {t : TypeId} {cs : List Value} (h : Bx w g t cs) (vs : List Value) (hl : vs.length = cs.length) : Bx (w.setCells g 0 vs) g t vs := by
  have := Bx.setFrom vs 0 cs w h (by omega)
  rwa [List.take_zero, List.nil_append] at this
theorem Bx.otherAll {w : World} {g b : Nat} {t : TypeId} {cs : List Value} (h : Bx w g t cs) (hne : g ≠ b) (o : Nat) (vs : List Value) : Bx (w.setCells b o vs) g t cs :=
  h.grown (grownBy_setCells w b o vs) (fun e => hne (Option.some.inj e))
theorem below_setCells {B : Nat} {a w : World} (h : Below B a w) {g : Nat} (hg : B ≤ g) (hB : B ≤ w.heap.size) (o : Nat) (vs : List Value) : Below B a (w.setCells g o vs) :=
  h.grown (grownBy_setCells w g o vs) hB (fun k hk => by have := Option.some.inj hk; omega)
end Go.Proofs.YtpofijdkckaphaaGreatDoor
