/- A set of numbers kept as a map[int]bool that the call made: what a look-up says. -/
import Derived.Test.YtnahkfchcminpaaGreatDoorBase
import Derived.Maps.OwnSet
namespace Go.Proofs.YtnahkfchcminpaaGreatDoor
open Go.RowKit Go.Maps
noncomputable abbrev bE : Value → Option (DataW Unit × List MemPlace) := plainElem (H := Unit) Tryz.prog 4
/-- the set of the numbers of a list -/
noncomputable def mset (L : List Int) : DataW Unit := setOf (.lit (.bool true)) (L.map (Lit.int .i64))
theorem mset_nil : mset [] = .map [] := rfl
theorem mset_snoc (L : List Int) (x : Int) : mset (L ++ [x]) = (mset L).put (.int .i64 x) (.lit (.bool true)) := by
  rw [mset, List.map_append, List.map_cons, List.map_nil, setOf_snoc]; rfl
theorem mset_map (L : List Int) : IsMap (mset L) := by
  refine (tidy_setOf _ _ fun x hx => ?_).isMap
  obtain ⟨y, _, rfl⟩ := List.mem_map.1 hx
  exact trivial
theorem mset_at (x : Int) (L : List Int) : (mset L).atKey (.int .i64 x) (.lit (.bool false)) = .lit (.bool (decide (x ∈ L))) := by
  obtain ⟨M, hM⟩ : ∃ M : List Int, L = M.reverse := ⟨L.reverse, by simp⟩
  subst hM
  induction M with
  | nil => rfl
  | cons y M ih =>
    rw [List.reverse_cons, mset_snoc]
    by_cases e : x = y
    · subst e
      rw [atKey_put_same (mset_map _) (show WideAt.IsKeyLit (Lit.int .i64 x) from trivial)]
      simp
    · rw [atKey_put_other (fun h => e (by injection h)), ih]
      simp [e]
theorem plain_bool {P : Program} {e : TypeId} (he : P.underlying e = some .bool) {v : Value} {x : Bool} {ps : List MemPlace} (h : plainElem (H := Unit) P e v = some (.lit (.bool x), ps)) : v = .bool x := by
  unfold plainElem at h
  rw [he] at h
  cases v <;> simp at h
  rw [h.1]
theorem keyed_int : Keyed Tryz.prog 3 := int_keyed Tryz.underlying3
theorem key_i64 {x : Int} (h : I64 x) : keyOf Tryz.prog 3 (.int .i64 x) = some (.int .i64 x) := by
  refine keyOf_int_mk Tryz.underlying3 ?_
  have h1 : IntKind.i64.min = -9223372036854775808 := rfl
  have h2 : IntKind.i64.max = 9223372036854775807 := rfl
  have := h.1
  have := h.2
  simp only [Lit.wf, Bool.and_eq_true, decide_eq_true_eq]
  omega
theorem zero_b (w : World) : (zeroValue 4).run Tryz.prog w = .ok (.bool false) w := by kernel_rfl
/-- block b is the set of the numbers of a list -/
def Ms (w : World) (b n : Nat) (L : List Int) : Prop := w.ownsMap Tryz.prog 3 bE b n (mset L)
theorem Ms.new (w : World) : Ms (w.alloc (.map #[] 0)) w.heap.size 0 [] := World.ownsMap_made _ _ _ _
theorem Ms.keep {w w' : World} {b n : Nat} {L : List Int} (h : Ms w b n L) (hb : Below w.heap.size w w') : Ms w' b n L := by
  have hlt : b < w.heap.size := World.ownsMap.lt h
  obtain ⟨es, clock, h1, r⟩ := h
  exact ⟨es, clock, (hb.block b hlt).trans h1, r⟩
theorem Ms.look {w : World} {b n : Nat} {L : List Int} (h : Ms w b n L) {x : Int} (hx : I64 x) :
    (Instr.lookup 75 (.map (some b)) (.int .i64 x) false).run Tryz.prog w = .ok (.bool (decide (x ∈ L))) w := by
  have hz : (zeroValue 4).run Tryz.prog w = .ok (.bool false) w := zero_b w
  obtain ⟨v, ps, hrun, hv⟩ := World.ownsMap.lookup h keyed_int Tryz.underlying75 hz (zd := .lit (.bool false)) (zp := []) (plainElem_bool Tryz.underlying4 false) (key_i64 hx)
  rw [mset_at] at hv
  rw [hrun, plain_bool Tryz.underlying4 hv]
end Go.Proofs.YtnahkfchcminpaaGreatDoor
