/- Sets of numbers and of strings, kept as maps that the call made: how many they hold. -/
import Derived.Test.YtejdaeonknpgeaaGreatDoorCndH
import Derived.Test.YtejdaeonknpgeaaGreatDoorGEnv
import Derived.Maps.OwnSet
namespace Go.Proofs.YtejdaeonknpgeaaGreatDoor
open Go.RowKit Go.Maps
noncomputable abbrev bElem : Value → Option (DataW Unit × List MemPlace) := plainElem (H := Unit) Tryz.prog 4
section
variable {α : Type} [DecidableEq α] {f : α → Lit}
noncomputable def gset (f : α → Lit) (L : List α) : DataW Unit := setOf (.lit (.bool true)) (L.map f)
omit [DecidableEq α] in
theorem gset_snoc (L : List α) (x : α) : gset f (L ++ [x]) = (gset f L).put (f x) (.lit (.bool true)) := by
  rw [gset, List.map_append, List.map_cons, List.map_nil, setOf_snoc]; rfl
omit [DecidableEq α] in
theorem gset_tidy (hf : ∀ x, WideAt.IsKeyLit (f x)) (L : List α) : Tidy (gset f L) := by
  refine tidy_setOf _ _ fun x hx => ?_
  obtain ⟨y, _, rfl⟩ := List.mem_map.1 hx
  exact hf y
theorem gset_has (hf : ∀ x, WideAt.IsKeyLit (f x)) (hi : ∀ x y, f x = f y → x = y) (x : α) (L : List α) : has (gset f L) (f x) = decide (x ∈ L) := by
  obtain ⟨M, hM⟩ : ∃ M : List α, L = M.reverse := ⟨L.reverse, by simp⟩
  subst hM
  induction M with
  | nil => rfl
  | cons y M ih =>
    rw [List.reverse_cons, gset_snoc]
    by_cases e : x = y
    · subst e
      rw [has_put_same (gset_tidy hf _).isMap (hf x)]
      simp
    · rw [has_put_other (fun h => e (hi _ _ h)), ih]
      simp [e]
theorem gset_size (hf : ∀ x, WideAt.IsKeyLit (f x)) (hi : ∀ x y, f x = f y → x = y) (L : List α) : Maps.size (gset f L) = dst L := by
  obtain ⟨M, hM⟩ : ∃ M : List α, L = M.reverse := ⟨L.reverse, by simp⟩
  subst hM
  induction M with
  | nil => rfl
  | cons y M ih =>
    rw [List.reverse_cons, gset_snoc, size_put (gset_tidy hf _), gset_has hf hi, ih, dst_snoc]
    by_cases h : y ∈ M.reverse <;> simp [h]
end
def litS (s : List UInt8) : Lit := .string s
def litI (n : Int) : Lit := .int .i64 n
theorem litS_inj (x y : List UInt8) (h : litS x = litS y) : x = y := by injection h
theorem litI_inj (x y : Int) (h : litI x = litI y) : x = y := by injection h
/-- block b is the set of the strings of a list -/
def MpS (w : World) (b n : Nat) (L : List (List UInt8)) : Prop := w.ownsMap Tryz.prog 9 bElem b n (gset litS L)
/-- block b is the set of the numbers of a list -/
def MpI (w : World) (b n : Nat) (L : List Int) : Prop := w.ownsMap Tryz.prog 3 bElem b n (gset litI L)
theorem MpS.new (w : World) : MpS (w.alloc (.map #[] 0)) w.heap.size 0 [] := World.ownsMap_made _ _ _ _
theorem MpI.new (w : World) : MpI (w.alloc (.map #[] 0)) w.heap.size 0 [] := World.ownsMap_made _ _ _ _
theorem MpS.keep {w w' : World} {b n : Nat} {L : List (List UInt8)} (h : MpS w b n L) (hb : Below w.heap.size w w') : MpS w' b n L := by
  have hlt : b < w.heap.size := World.ownsMap.lt h
  obtain ⟨es, clock, h1, r⟩ := h
  exact ⟨es, clock, (hb.block b hlt).trans h1, r⟩
theorem MpI.keep {w w' : World} {b n : Nat} {L : List Int} (h : MpI w b n L) (hb : Below w.heap.size w w') : MpI w' b n L := by
  have hlt : b < w.heap.size := World.ownsMap.lt h
  obtain ⟨es, clock, h1, r⟩ := h
  exact ⟨es, clock, (hb.block b hlt).trans h1, r⟩
theorem MpS.lt {w : World} {b n : Nat} {L : List (List UInt8)} (h : MpS w b n L) : b < w.heap.size := World.ownsMap.lt h
theorem MpI.lt {w : World} {b n : Nat} {L : List Int} (h : MpI w b n L) : b < w.heap.size := World.ownsMap.lt h
theorem keyed_s : Keyed Tryz.prog 9 := string_keyed Tryz.underlying9
theorem keyed_i : Keyed Tryz.prog 3 := int_keyed Tryz.underlying3
theorem key_s {s : List UInt8} (h : s.length ≤ 281474976710656) : keyOf Tryz.prog 9 (.string ⟨s.toArray⟩) = some (litS s) := by
  have hs : (ByteArray.mk s.toArray).size ≤ maxLen := by
    show s.toArray.size ≤ maxLen
    rw [List.size_toArray, maxLen]; omega
  simp [keyOf, Tryz.underlying9, mapKey, litS, hs]
theorem key_i {x : Int} (h : I64 x) : keyOf Tryz.prog 3 (.int .i64 x) = some (litI x) := by
  refine keyOf_int_mk Tryz.underlying3 ?_
  have h1 : IntKind.i64.min = -9223372036854775808 := rfl
  have h2 : IntKind.i64.max = 9223372036854775807 := rfl
  have := h.1
  have := h.2
  simp only [Lit.wf, Bool.and_eq_true, decide_eq_true_eq]
  omega
theorem MpS.size {L : List (List UInt8)} : Maps.size (gset litS L) = dst L := gset_size (f := litS) (fun x => (trivial : WideAt.IsKeyLit (Lit.string x))) litS_inj L
theorem MpI.size {L : List Int} : Maps.size (gset litI L) = dst L := gset_size (f := litI) (fun x => (trivial : WideAt.IsKeyLit (Lit.int .i64 x))) litI_inj L
end Go.Proofs.YtejdaeonknpgeaaGreatDoor
