/- Two members change places in a slice of the call's own. No program in sight. -/
import Derived.Test.YtpofijdkckaphaaGreatGCndGP
import Derived.Test.YtpofijdkckaphaaGreatCopyK
import Derived.Deep.MidRow
import Derived.Test.YtpofijdkckaphaaGreatGBk
import Derived.Test.YtpofijdkckaphaaGreatGKp
namespace Go.Proofs.YtpofijdkckaphaaGreat
open Go.RowKit
theorem Ow.swapM {w : World} {base g off n cap i k : Nat} {l : List Mem} {x y : Mem} (h : Ow w base 5 (some ⟨g, off, none⟩) n cap (rowsC mmC l)) (hx : l[i]? = some x) (hy : l[k]? = some y) :
    Ow ((w.setCells g (off + i * 5) (mmC y)).setCells g (off + k * 5) (mmC x)) base 5 (some ⟨g, off, none⟩) n cap (rowsC mmC (swapL l i k x y)) ∧ w.grownBy ((w.setCells g (off + i * 5) (mmC y)).setCells g (off + k * 5) (mmC x)) (some g) := by
  have hi := (List.getElem?_eq_some_iff.1 hx).1
  have hk := (List.getElem?_eq_some_iff.1 hy).1
  have s1 := Ow.setRow (f := mmC) mmC_len h hi y
  have s2 := Ow.setRow (f := mmC) mmC_len s1.1 (by rw [List.length_set]; exact hk) x
  refine ⟨s2.1, ?_⟩
  exact ⟨s2.2.os.trans s1.2.os, s2.2.tape.trans s1.2.tape, s2.2.output.trans s1.2.output, Nat.le_trans s1.2.size s2.2.size, fun j hj hn => (s2.2.block j (Nat.lt_of_lt_of_le hj s1.2.size) hn).trans (s1.2.block j hj hn)⟩
/-- a row of a slice of the call's own may be written -/
theorem Ow.there {α : Type} {f : α → List Value} {k : Nat} (hf : ∀ x, (f x).length = k) {w : World} {base g off n cap i : Nat} {l : List α} (h : Ow w base k (some ⟨g, off, none⟩) n cap (rowsC f l)) (hi : i < l.length) : w.there g (off + i * k) k := fun j hj => by
  have hl := h.1
  have hc := h.2.1
  rw [rowsC_length hf] at hl
  have e3 : (i + 1) * k ≤ l.length * k := Nat.mul_le_mul_right k hi
  have e4 : n * k ≤ cap * k := Nat.mul_le_mul_right k hc
  have e2 : (i + 1) * k = i * k + k := Nat.succ_mul _ _
  have := h.both.2 (i * k + j) (by omega)
  rwa [← Nat.add_assoc] at this
/-- the store of a row, as an operation of a drawn region -/
theorem step_store_row {P : Program} {ops : Array Oper} {op : Oper} {a : Act} {w : World} {K : Act → World → Prop} {Q : Exit → Act → World → Prop} {E : Prop} (hg : op.guard = none) (ty : TypeId) (x y : Operand) (ho : op.op = .store ty x y)
    (b o n : Nat) (cs : List Value) (hx : a.eval x = .pointer (some ⟨b, o, none⟩)) (hy : a.eval y = .agg cs.toArray)
    (hn : cs.length = n) (ht : w.there b o n) (hi : (P.info? ty).map (·.size) = some n) (h1 : ∀ v ∈ cs, v.oneCell' = true)
    (h : K (a.put op.dst undef) (w.setCells b o cs)) : if Region.wanted op (yielded ops a.tmps) = true then Oper.wp P op a w K Q else E := by
  have hw : Region.wanted op (yielded ops a.tmps) = true := by simp [Region.wanted, hg]
  rw [if_pos hw]
  exact wp_store_mid ty x y ho b o cs.toArray hx hy (by rw [List.size_toArray, hn]; exact ht) (by rw [List.size_toArray, hn]; exact hi) (all_oneCell_toArray h1) (by rw [List.toList_toArray]; exact h)
theorem swapL_sub {L : List Mem} {i k : Nat} {x y : Mem} (hx : L[i]? = some x) (hy : L[k]? = some y) (z : Mem) (hz : z ∈ swapL L i k x y) : z ∈ L := by
  rcases List.mem_or_eq_of_mem_set hz with hz | rfl
  · rcases List.mem_or_eq_of_mem_set hz with hz | rfl
    · exact hz
    · exact List.mem_of_getElem? hy
  · exact List.mem_of_getElem? hx
end Go.Proofs.YtpofijdkckaphaaGreat
/- A block of its own: all its cells are stored at once. No program in sight. -/
namespace Go.Proofs.YtpofijdkckaphaaGreat
open Go.RowKit
theorem Bx.there {w : World} {g : Nat} {t : TypeId} {cs : List Value} (h : Bx w g t cs) {n : Nat} (hn : cs.length = n) : w.there g 0 n := fun j hj => by
  rw [Nat.zero_add]
  exact ⟨by rw [h.cell j (List.getElem?_eq_getElem (by omega))]; rfl, h.free j⟩
theorem Bx.setFrom {g : Nat} {t : TypeId} : ∀ (vs : List Value) (o : Nat) (cs : List Value) (w : World), Bx w g t cs → o + vs.length = cs.length → Bx (w.setCells g o vs) g t (cs.take o ++ vs)
  | [], o, cs, w, h, hl => by
    rw [List.append_nil, List.take_of_length_le (by simp at hl; omega)]
    exact h
  | v :: r, o, cs, w, h, hl => by
    rw [World.setCells]
    have h1 := Bx.setFrom r (o + 1) (cs.set o v) (w.setCell ⟨g, o, none⟩ v) (h.set o v) (by rw [List.length_set, List.length_cons] at *; omega)
    have e : (cs.set o v).take (o + 1) = cs.take o ++ [v] := by
      have hlt : o < cs.length := by rw [List.length_cons] at hl; omega
      rw [List.take_add_one, List.getElem?_set_self hlt, List.take_set_of_le (Nat.le_refl _)]
      rfl
    rw [e, List.append_assoc] at h1
    exact h1
theorem Bx.setAll {w : World} {g : Nat} {t : TypeId} {cs : List Value} (h : Bx w g t cs) (vs : List Value) (hl : vs.length = cs.length) : Bx (w.setCells g 0 vs) g t vs := by
  have := Bx.setFrom vs 0 cs w h (by omega)
  rwa [List.take_zero, List.nil_append] at this
theorem Bx.otherAll {w : World} {g b : Nat} {t : TypeId} {cs : List Value} (h : Bx w g t cs) (hne : g ≠ b) (o : Nat) (vs : List Value) : Bx (w.setCells b o vs) g t cs :=
  h.grown (grownBy_setCells w b o vs) (fun e => hne (Option.some.inj e))
theorem below_setCells {B : Nat} {a w : World} (h : Below B a w) {g : Nat} (hg : B ≤ g) (hB : B ≤ w.heap.size) (o : Nat) (vs : List Value) : Below B a (w.setCells g o vs) :=
  h.grown (grownBy_setCells w g o vs) hB (fun k hk => by have := Option.some.inj hk; omega)
end Go.Proofs.YtpofijdkckaphaaGreat
