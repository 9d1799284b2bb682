/- Rolls: a list of people sorted by their numbers (slices.SortFunc at the closure of Add). -/
import Derived.Test.YtnahkfchcminpaaGreatDoorGEnrI
import Derived.Test.YtnahkfchcminpaaGreatDoorShelf
import Derived.Test.YtnahkfchcminpaaGreatDoorSort
namespace Go.Proofs.YtnahkfchcminpaaGreatDoor
open Go.RowKit Go.Sort
instance : Inhabited Prs := ⟨Prs.zero⟩
set_option maxHeartbeats 1000000 in
theorem ecmp_clo (x y : Prs) (W : World) : Calls Tryz.prog 34 #[.agg #[.int .i64 x.id, .int .i64 x.key, .int .i64 x.dep], .agg #[.int .i64 y.id, .int .i64 y.key, .int .i64 y.dep]] W fun e w' => e = .returned (.int .i64 (Lib.compareInt x.id y.id)) ∧ ∃ q os', w' = grow (W.drewN q) os' := by
  have hcon := fun W' => Tryz.cmp_Compare_int x.id y.id W'
  change ∀ W', Calls Tryz.prog 35 _ _ _ at hcon
  generalize Lib.compareInt x.id y.id = r at hcon ⊢
  go_enter Tryz.func34, Tryz.ntmps34
  go_wp2_with (go_at_call 35; refine (hcon _).mono ?_; rintro e w' ⟨rfl, rfl⟩)
  go_ret
  exact ⟨rfl, 0, _, by rw [alloc_eq_grow, alloc_eq_grow, grow_grow]; rfl⟩
theorem ltP (x y : Prs) : ltOf (fun x y : Prs => Lib.compareInt x.id y.id) x y = decide (x.id < y.id) := by
  unfold ltOf Lib.compareInt
  by_cases h1 : x.id < y.id
  · simp [h1]
  · by_cases h2 : y.id < x.id <;> simp [h1, h2]
theorem swoP : SWO (ltOf fun x y : Prs => Lib.compareInt x.id y.id) where
  irrefl x := by rw [ltP]; simp
  trans x y z h1 h2 := by rw [ltP] at *; simp at *; omega
  ntrans x y z h1 h2 := by rw [ltP] at *; simp at *; omega
theorem sort_grown (w : World) (g off n : Nat) (d : Array Prs) (os : Array Obj) : w.grownBy (sortWorldK prC 3 w g off n d os) (some g) := by
  refine ⟨rfl, rfl, rfl, ?_, fun j hj hne => ?_⟩
  · simp [sortWorldK, putRowK, Sort.ahead]
  · rw [sortWorldK, heap_grow_old _ _ (by simp [putRowK, Sort.ahead]; exact hj)]
    simp only [putRowK, putRow, mapBlock, Sort.ahead, Array.getElem?_modify]
    rw [if_neg (fun e => hne (by rw [e]))]
theorem holds_of {w : World} {g off : Nat} {l : List Prs} {base n cap : Nat} (h : Ow w base 3 (some ⟨g, off, none⟩) n cap (rowsC prC l)) (hn : l.length = n) : HoldsK prC 3 w g off l.toArray := by
  intro j hj
  obtain ⟨h1, h2⟩ := h.both
  have hcap := h.2.1
  rw [size_flatK] at hj
  have hj' : j < n * 3 := by simpa [hn] using hj
  have e4 : n * 3 ≤ cap * 3 := Nat.mul_le_mul_right 3 hcap
  refine ⟨?_, (h2 j (by omega)).2⟩
  have hi : j / 3 < l.length := by omega
  have hr := rowsC_get prC_len (List.getElem?_eq_getElem hi) (j := j % 3) (Nat.mod_lt _ (by omega))
  rw [show j / 3 * 3 + j % 3 = j by omega] at hr
  rw [get_flatK _ _ _ _ hj]
  have hx : (l.toArray)[j / 3]! = l[j / 3] := by simp [hi]
  rw [hx]
  have hm : j % 3 < (prC l[j / 3]).length := by rw [prC_len]; exact Nat.mod_lt _ (by omega)
  rw [List.getElem?_eq_getElem hm] at hr
  rw [h1 j _ hr]
  simp [hm]
theorem rd_of_holds {w : World} {g off : Nat} {d : Array Prs} (h : HoldsK prC 3 w g off d) : Rd w (some ⟨g, off, none⟩) (rowsC prC d.toList) := Rd.mk fun j u hj => by
  have hl := (List.getElem?_eq_some_iff.1 hj).1
  rw [rowsC_length prC_len] at hl
  simp only [Array.length_toList] at hl
  have hi : j / 3 < d.size := by omega
  have hr := rowsC_get prC_len (l := d.toList) (x := d[j / 3]) (i := j / 3) (by simp [hi]) (j := j % 3) (Nat.mod_lt _ (by omega))
  rw [show j / 3 * 3 + j % 3 = j by omega, hj] at hr
  have := (h.cell hi (c := j % 3) (Nat.mod_lt _ (by omega))).1
  rw [Nat.add_assoc, show j / 3 * 3 + j % 3 = j by omega] at this
  rw [this]
  have hx : d[j / 3]! = d[j / 3] := by simp [hi]
  rw [hx]
  have hm : j % 3 < (prC d[j / 3]).length := by rw [prC_len]; exact Nat.mod_lt _ (by omega)
  rw [List.getElem?_eq_getElem hm] at hr
  rw [Option.some.inj hr]
  simp [hm]
set_option maxHeartbeats 1000000 in
theorem esort_walk (base g off : Nat) (l : List Prs) (n cap : Nat) (w : World) (hO : Ow w base 3 (some ⟨g, off, none⟩) n cap (rowsC prC l)) (hn : l.length = n) (hl : n ≤ 1000000) :
    Calls Tryz.prog 33 #[.slice (some ⟨g, off, none⟩) n cap, .func (.func 34) #[] #[]] w fun e w' => e = .returned (.tuple #[]) ∧ ∃ m : List Prs, m.Perm l ∧ (∀ (i j : Nat), i < j → ∀ (x y : Prs), m[i]? = some x → m[j]? = some y → x.id ≤ y.id) ∧ Rd w' (some ⟨g, off, none⟩) (rowsC prC m) ∧ w.grownBy w' (some g) := by
  have hgs : g < w.heap.size := (hO.row g rfl).2
  have hH := holds_of hO hn
  have eg : ∀ args w, (callFunc 34 args).run Tryz.prog w = .ok (.enter 34 args) w := enters_of Tryz.func34 (by kernel_rfl) rfl
  have hcon := AnyQ.slices_SortFunc Tryz.sortSort 3 Tryz.isAgg43 Tryz.sizeOf43 prC (fun _ => rfl) (fun x v hv => prC_one x v hv) (fun x y => Lib.compareInt x.id y.id) swoP 34 #[] g off cap l.toArray w eg (fun _ _ _ _ x y => ecmp_clo x y _) hH hgs (by simp; omega)
  change Calls Tryz.prog 33 _ _ _ at hcon
  rw [show l.toArray.size = n by simpa using hn] at hcon
  refine hcon.mono ?_
  rintro e w' ⟨rfl, d', q, os, ⟨hsz, -, hp⟩, hs, rfl⟩
  have hsz' : d'.size = n := by rw [hsz]; simpa using hn
  refine ⟨rfl, d'.toList, ?_, ?_, ?_, sort_grown w g off q d' os⟩
  · have e1 : d'.extract 0 n = d' := by rw [← hsz']; simp
    have e2 : (l.toArray).extract 0 n = l.toArray := by rw [← hn]; simp
    rw [e1, e2] at hp
    simpa using hp
  · intro i j hij x y hx hy
    have hjn := (List.getElem?_eq_some_iff.1 hy).1
    simp only [Array.length_toList] at hjn
    have := hs i j (Nat.zero_le _) hij (by omega)
    rw [ltP] at this
    have ex : d'[i]! = x := by rw [Array.getElem?_toList] at hx; simp [getElem!_def, hx]
    have ey : d'[j]! = y := by rw [Array.getElem?_toList] at hy; simp [getElem!_def, hy]
    rw [ex, ey] at this
    have := of_decide_eq_false this
    omega
  · refine rd_of_holds ?_
    exact holdsK_grow prC 3 _ _ _ _ _ (by simp [putRowK, Sort.ahead]; exact hgs) (holdsK_putRowK prC 3 _ _ _ l.toArray d' (holdsK_ahead prC 3 _ _ _ _ _ hH) (by rw [hsz]))
/-! ### Plain -/
/-- a right roll is ascending -/
def Asc (l : List Prs) : Prop := ∀ (i j : Nat), i < j → ∀ (x y : Prs), l[i]? = some x → l[j]? = some y → x.id < y.id
theorem asc_good {p : Nat} {l : List Prs} (h : PGood p l l.length) : Asc l := by
  intro i j
  induction j with
  | zero => intro h; omega
  | succ j ih =>
    intro hij x y hx hy
    have hj := (List.getElem?_eq_some_iff.1 hy).1
    have hz : l[j]? = some l[j] := List.getElem?_eq_getElem (by omega)
    have h1 := (h (j + 1) y hj hy).2.1 l[j] (by omega) (by rw [Nat.add_sub_cancel]; exact hz)
    by_cases e : i = j
    · subst e; rw [hz] at hx; cases hx; exact h1
    · have := ih (by omega) x l[j] hx hz; omega
theorem Asc.pair {l : List Prs} (h : Asc l) : l.Pairwise fun a b => a.id < b.id := by
  rw [List.pairwise_iff_getElem]
  intro i j hi hj hij
  exact h i j hij _ _ (List.getElem?_eq_getElem hi) (List.getElem?_eq_getElem hj)
theorem insP_pair {x : Prs} {l : List Prs} (h : Asc l) (hx : ∀ r ∈ l, r.id ≠ x.id) : (insP x l).Pairwise fun a b => a.id < b.id := by
  have hp := h.pair
  rw [insP, List.pairwise_append]
  refine ⟨hp.take, ?_, ?_⟩
  · rw [List.pairwise_cons]
    refine ⟨fun r hr => ?_, hp.drop⟩
    obtain ⟨j, hj, rfl⟩ := List.getElem_of_mem hr
    rw [List.length_drop] at hj
    rw [List.getElem_drop]
    have hk : lowN l x.id < l.length := by omega
    have h0 := lowN_at l x.id _ (List.getElem?_eq_getElem hk)
    have hne := hx _ (List.getElem_mem hk)
    by_cases e : j = 0
    · subst e; simp only [Nat.add_zero]; omega
    · have := h (lowN l x.id) (lowN l x.id + j) (by omega) _ _ (List.getElem?_eq_getElem hk) (List.getElem?_eq_getElem (by omega)); omega
  · intro a ha b hb
    obtain ⟨i, hi, rfl⟩ := List.getElem_of_mem ha
    rw [List.length_take] at hi
    rw [List.getElem_take]
    have h1 := lowN_lt l x.id i _ (by omega) (List.getElem?_eq_getElem (by omega))
    rcases List.mem_cons.1 hb with rfl | hb
    · exact h1
    · obtain ⟨j, hj, rfl⟩ := List.getElem_of_mem hb
      rw [List.length_drop] at hj
      rw [List.getElem_drop]
      exact h i (lowN l x.id + j) (by omega) _ _ (List.getElem?_eq_getElem (by omega)) (List.getElem?_eq_getElem (by omega))
theorem insP_perm (x : Prs) (l : List Prs) : (insP x l).Perm (l ++ [x]) := by
  have h1 : (l.take (lowN l x.id) ++ x :: l.drop (lowN l x.id)).Perm (x :: (l.take (lowN l x.id) ++ l.drop (lowN l x.id))) := List.perm_middle
  rw [List.take_append_drop] at h1
  exact h1.trans (List.perm_append_singleton x l).symm
/-- what is sorted is what is put in its place -/
theorem sorted_ins {x : Prs} {l m : List Prs} (h : Asc l) (hx : ∀ r ∈ l, r.id ≠ x.id) (hp : m.Perm (l ++ [x])) (hs : ∀ (i j : Nat), i < j → ∀ (a b : Prs), m[i]? = some a → m[j]? = some b → a.id ≤ b.id) : m = insP x l := by
  have q := insP_pair h hx
  have hp2 : m.Perm (insP x l) := hp.trans (insP_perm x l).symm
  refine hp2.eq_of_pairwise (le := fun a b => a.id ≤ b.id) (fun a b ha hb h1 h2 => ?_) ?_ (q.imp fun h => by omega)
  · have ha' := hp2.mem_iff.1 ha
    obtain ⟨i, hi, rfl⟩ := List.getElem_of_mem ha'
    obtain ⟨j, hj, rfl⟩ := List.getElem_of_mem hb
    rw [List.pairwise_iff_getElem] at q
    rcases Nat.lt_trichotomy i j with e | e | e
    · have := q i j hi hj e; omega
    · subst e; rfl
    · have := q j i hj hi e; omega
  · rw [List.pairwise_iff_getElem]
    intro i j hi hj hij
    exact hs i j hij _ _ (List.getElem?_eq_getElem hi) (List.getElem?_eq_getElem hj)
end Go.Proofs.YtnahkfchcminpaaGreatDoor
