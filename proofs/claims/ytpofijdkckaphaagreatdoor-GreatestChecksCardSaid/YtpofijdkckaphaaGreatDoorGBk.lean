/- A block of its own whose cells are known (a struct's box). No program in sight. -/
import Derived.Test.YtpofijdkckaphaaGreatDoorBase
import Derived.Test.YtpofijdkckaphaaGreatDoorGCndP
import Derived.Maps.OwnSet
import Derived.Test.YtpofijdkckaphaaGreatDoorGAppAt
import Derived.BigRegion
import Derived.Deep.RegionLaw
namespace Go.Proofs.YtpofijdkckaphaaGreatDoor
open Go.RowKit
/-- block g holds these cells -/
def Bx (w : World) (g : Nat) (t : TypeId) (cs : List Value) : Prop := w.heap[g]? = some (.cells cs.toArray t (0, 0))
theorem Bx.new (w : World) (t : TypeId) (cs : List Value) : Bx (w.alloc (.cells cs.toArray t)) w.heap.size t cs := heap_alloc_new w _
theorem Bx.lt {w : World} {g : Nat} {t : TypeId} {cs : List Value} (h : Bx w g t cs) : g < w.heap.size := (Array.getElem?_eq_some_iff.1 h).1
theorem Bx.keep {w w' : World} {g : Nat} {t : TypeId} {cs : List Value} (h : Bx w g t cs) (hb : Below w.heap.size w w') : Bx w' g t cs := (hb.block g h.lt).trans h
theorem Bx.drew {w : World} {g : Nat} {t : TypeId} {cs : List Value} (h : Bx w g t cs) : Bx w.drew g t cs := h
theorem Bx.alloc {w : World} {g : Nat} {t : TypeId} {cs : List Value} (h : Bx w g t cs) (o : Obj) : Bx (w.alloc o) g t cs := h.keep ((Below.refl _ _).alloc (Nat.le_refl _) _)
theorem Bx.grown {w w' : World} {g : Nat} {t : TypeId} {cs : List Value} {row : Option Nat} (h : Bx w g t cs) (hb : w.grownBy w' row) (hne : some g ≠ row) : Bx w' g t cs := (hb.block g h.lt hne).trans h
theorem Bx.other {w : World} {g : Nat} {t : TypeId} {cs : List Value} (h : Bx w g t cs) {b : Nat} (hne : g ≠ b) (o : Nat) (v : Value) : Bx (w.setCell ⟨b, o, none⟩ v) g t cs := (heap_setCell_other w ⟨b, o, none⟩ g v hne).trans h
theorem Bx.cell {w : World} {g : Nat} {t : TypeId} {cs : List Value} (h : Bx w g t cs) (j : Nat) {v : Value} (hv : cs[j]? = some v) : w.cell? ⟨g, j, none⟩ = some v := by
  rw [Lib.cell_of_heap h]; simpa using hv
theorem Bx.free {w : World} {g : Nat} {t : TypeId} {cs : List Value} (h : Bx w g t cs) (j : Nat) : w.frozen? ⟨g, j, none⟩ = false := Lib.frozen_of_heap h j
theorem Bx.set {w : World} {g : Nat} {t : TypeId} {cs : List Value} (h : Bx w g t cs) (j : Nat) (v : Value) : Bx (w.setCell ⟨g, j, none⟩ v) g t (cs.set j v) := by
  have h' : w.heap[g]? = some (.cells cs.toArray t (0, 0)) := h
  simp [Bx, World.setCell, Array.getElem?_modify, h', Array.setIfInBounds]
  intro hj
  exact (List.set_eq_of_length_le hj).symm
end Go.Proofs.YtpofijdkckaphaaGreatDoor
/- Sets of numbers and of strings, kept as maps that the call made: how many they hold. -/
namespace Go.Proofs.YtpofijdkckaphaaGreatDoor
open Go.RowKit Go.Maps
noncomputable abbrev bElem : Value → Option (DataW Unit × List MemPlace) := plainElem (H := Unit) Tryz.prog 4
section
variable {α : Type} [DecidableEq α] {f : α → Lit}
noncomputable def gset (f : α → Lit) (L : List α) : DataW Unit := setOf (.lit (.bool true)) (L.map f)
omit [DecidableEq α] in
theorem gset_snoc (L : List α) (x : α) : gset f (L ++ [x]) = (gset f L).put (f x) (.lit (.bool true)) := by
  rw [gset, List.map_append, List.map_cons, List.map_nil, setOf_snoc]; rfl
omit [DecidableEq α] in
theorem gset_tidy (hf : ∀ x, WideAt.IsKeyLit (f x)) (L : List α) : Tidy (gset f L) := by
  refine tidy_setOf _ _ fun x hx => ?_
  obtain ⟨y, _, rfl⟩ := List.mem_map.1 hx
  exact hf y
theorem gset_has (hf : ∀ x, WideAt.IsKeyLit (f x)) (hi : ∀ x y, f x = f y → x = y) (x : α) (L : List α) : has (gset f L) (f x) = decide (x ∈ L) := by
  obtain ⟨M, hM⟩ : ∃ M : List α, L = M.reverse := ⟨L.reverse, by simp⟩
  subst hM
  induction M with
  | nil => rfl
  | cons y M ih =>
    rw [List.reverse_cons, gset_snoc]
    by_cases e : x = y
    · subst e
      rw [has_put_same (gset_tidy hf _).isMap (hf x)]
      simp
    · rw [has_put_other (fun h => e (hi _ _ h)), ih]
      simp [e]
theorem gset_size (hf : ∀ x, WideAt.IsKeyLit (f x)) (hi : ∀ x y, f x = f y → x = y) (L : List α) : Maps.size (gset f L) = dst L := by
  obtain ⟨M, hM⟩ : ∃ M : List α, L = M.reverse := ⟨L.reverse, by simp⟩
  subst hM
  induction M with
  | nil => rfl
  | cons y M ih =>
    rw [List.reverse_cons, gset_snoc, size_put (gset_tidy hf _), gset_has hf hi, ih, dst_snoc]
    by_cases h : y ∈ M.reverse <;> simp [h]
end
def litS (s : List UInt8) : Lit := .string s
def litI (n : Int) : Lit := .int .i64 n
theorem litS_inj (x y : List UInt8) (h : litS x = litS y) : x = y := by injection h
theorem litI_inj (x y : Int) (h : litI x = litI y) : x = y := by injection h
/-- block b is the set of the strings of a list -/
def MpS (w : World) (b n : Nat) (L : List (List UInt8)) : Prop := w.ownsMap Tryz.prog 9 bElem b n (gset litS L)
/-- block b is the set of the numbers of a list -/
def MpI (w : World) (b n : Nat) (L : List Int) : Prop := w.ownsMap Tryz.prog 3 bElem b n (gset litI L)
theorem MpS.new (w : World) : MpS (w.alloc (.map #[] 0)) w.heap.size 0 [] := World.ownsMap_made _ _ _ _
theorem MpI.new (w : World) : MpI (w.alloc (.map #[] 0)) w.heap.size 0 [] := World.ownsMap_made _ _ _ _
theorem MpS.keep {w w' : World} {b n : Nat} {L : List (List UInt8)} (h : MpS w b n L) (hb : Below w.heap.size w w') : MpS w' b n L := by
  have hlt : b < w.heap.size := World.ownsMap.lt h
  obtain ⟨es, clock, h1, r⟩ := h
  exact ⟨es, clock, (hb.block b hlt).trans h1, r⟩
theorem MpI.keep {w w' : World} {b n : Nat} {L : List Int} (h : MpI w b n L) (hb : Below w.heap.size w w') : MpI w' b n L := by
  have hlt : b < w.heap.size := World.ownsMap.lt h
  obtain ⟨es, clock, h1, r⟩ := h
  exact ⟨es, clock, (hb.block b hlt).trans h1, r⟩
theorem MpS.lt {w : World} {b n : Nat} {L : List (List UInt8)} (h : MpS w b n L) : b < w.heap.size := World.ownsMap.lt h
theorem MpI.lt {w : World} {b n : Nat} {L : List Int} (h : MpI w b n L) : b < w.heap.size := World.ownsMap.lt h
theorem keyed_s : Keyed Tryz.prog 9 := string_keyed Tryz.underlying9
theorem keyed_i : Keyed Tryz.prog 3 := int_keyed Tryz.underlying3
theorem key_s {s : List UInt8} (h : s.length ≤ 281474976710656) : keyOf Tryz.prog 9 (.string ⟨s.toArray⟩) = some (litS s) := by
  have hs : (ByteArray.mk s.toArray).size ≤ maxLen := by
    show s.toArray.size ≤ maxLen
    rw [List.size_toArray, maxLen]; omega
  simp [keyOf, Tryz.underlying9, mapKey, litS, hs]
theorem key_i {x : Int} (h : I64 x) : keyOf Tryz.prog 3 (.int .i64 x) = some (litI x) := by
  refine keyOf_int_mk Tryz.underlying3 ?_
  have h1 : IntKind.i64.min = -9223372036854775808 := rfl
  have h2 : IntKind.i64.max = 9223372036854775807 := rfl
  have := h.1
  have := h.2
  simp only [Lit.wf, Bool.and_eq_true, decide_eq_true_eq]
  omega
theorem MpS.size {L : List (List UInt8)} : Maps.size (gset litS L) = dst L := gset_size (f := litS) (fun x => (trivial : WideAt.IsKeyLit (Lit.string x))) litS_inj L
theorem MpI.size {L : List Int} : Maps.size (gset litI L) = dst L := gset_size (f := litI) (fun x => (trivial : WideAt.IsKeyLit (Lit.int .i64 x))) litI_inj L
end Go.Proofs.YtpofijdkckaphaaGreatDoor
/- 'append' of whatever is read onto nil, as a step of a region that draws its order; two such slices and their box. -/
namespace Go.Proofs.YtpofijdkckaphaaGreatDoor
open Go.RowKit
theorem step_copyn {P : Program} {w : World} {ops : Array Oper} {o : Oper} {a : Act} {K : Act → World → Prop} {Q : Exit → Act → World → Prop} {E : Prop} (hgd : o.guard = none) (s x : Operand) (t u : TypeId)
    (ho : o.op = .call { callee := .builtin .append, args := #[s, x], argTypes := #[t, u] }) {e : TypeId} {z : Value} {size bytes : Nat} (hE : ElemOf P t e z size bytes) (hs : a.eval s = .slice none 0 0)
    {src : Value} {m : Nat} {news : List Value} (hx : a.eval x = src) (hS : Src P w u src size m news) (hbytes : m * bytes ≤ 140737488355328) {B : Nat} (hB : B ≤ w.heap.size)
    (hK : ∀ a' cap' w1, Ow w1 B size a' m cap' news → Below w.heap.size w w1 → (rowOf a' = none ∨ rowOf a' = some w.heap.size) → K (a.put o.dst (.slice a' m cap')) w1) :
    if Region.wanted o (yielded ops a.tmps) = true then Oper.wp P o a w K Q else E := by
  have hw : Region.wanted o (yielded ops a.tmps) = true := by simp [Region.wanted, hgd]
  rw [if_pos hw]
  obtain ⟨a', cap', w', hr, h2, h3, h4⟩ := run_app_at (P := P) w B t u o.type e hE none 0 0 [] (Ow.nil _ _ _) src m news hS (by rw [Nat.zero_add]; exact hbytes) hB
  rw [Nat.zero_add] at hr h2
  rw [List.nil_append] at h2
  unfold Oper.wp execOp
  simp only [ho, resolve, invoke, builtin, Sem.run_bind, Sem.run_pure, Result.andThen_ok, List.map_toArray, List.map_cons, List.map_nil, hs, hx, hr]
  exact hK a' cap' w' h2 ⟨h3.os, h3.tape, h3.output, h3.size, fun k hk => h3.block k hk (by simp [rowOf])⟩ h4
/-- two slices of the call's own lie in different blocks -/
def Apart2 (a b : Option Addr) : Prop := ∀ g, rowOf a = some g → rowOf b ≠ some g
theorem Apart2.symm {a b : Option Addr} (h : Apart2 a b) : Apart2 b a := fun g hb ha => h g ha hb
theorem Apart2.keep {a b : Option Addr} (h : Apart2 a b) : rowOf b = none ∨ rowOf b ≠ rowOf a := by
  cases hb : rowOf b with
  | none => exact .inl rfl
  | some g => exact .inr fun e => h g e.symm hb
theorem Apart2.next {a b a' : Option Addr} {n : Nat} (h : Apart2 a b) (hb : ∀ g, rowOf b = some g → g < n) (ha : rowOf a' = rowOf a ∨ rowOf a' = some (n + 1)) : Apart2 a' b := by
  intro g hg hbg
  rcases ha with e | e
  · exact h g (e ▸ hg) hbg
  · have := hb g hbg
    rw [e] at hg
    have := Option.some.inj hg
    omega
theorem apart_new {a b : Option Addr} {s B : Nat} (hb : ∀ g, rowOf b = some g → B ≤ g ∧ g < s) (ha : rowOf a = none ∨ rowOf a = some s) : Apart2 a b := by
  intro g hg hbg
  rcases ha with e | e
  · rw [e] at hg; cases hg
  · rw [e] at hg
    have := hb g hbg
    have := Option.some.inj hg
    omega
theorem row_new {a : Option Addr} {s go : Nat} (hg : go < s) (ha : rowOf a = none ∨ rowOf a = some s) : ∀ g, rowOf a = some g → g ≠ go := by
  intro g h
  rcases ha with e | e
  · rw [e] at h; cases h
  · rw [e] at h
    have := Option.some.inj h
    omega
theorem row_old {a : Option Addr} {s B : Nat} (ha : ∀ g, rowOf a = some g → B ≤ g ∧ g < s) : ∀ g, rowOf a = some g → g ≠ s := fun g h => by have := ha g h; omega
end Go.Proofs.YtpofijdkckaphaaGreatDoor
