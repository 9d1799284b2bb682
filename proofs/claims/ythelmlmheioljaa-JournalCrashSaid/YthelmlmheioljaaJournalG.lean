/- The journal: all good records: the program's. -/
import Derived.Test.YthelmlmheioljaaJournalI
import Derived.RegionIn
import Derived.BigRegionIn
namespace Go.Proofs.Ythelmlmheioljaa
open Go.RowKit Go.Shelf
attribute [local go_sem] Oper.semAt_some
theorem infoStr : (Try.prog.info? 9).map (fun i => (i.zero, i.size, i.bytes)) = some (some (.string ByteArray.empty), 1, 16) := by kernel_rfl
/-- the index behind the last one -/
def lastF (l : List (Nat × List UInt8)) : Nat := match l.getLast? with
  | some x => x.1
  | none => 0
theorem lastF_snoc (l : List (Nat × List UInt8)) (x : Nat × List UInt8) : lastF (l ++ [x]) = x.1 := by simp [lastF]
theorem lastF_pairs (l : List (List UInt8)) : lastF (pairsF 0 l) = endF l := by
  rcases List.eq_nil_or_concat l with rfl | ⟨l', s, h⟩
  · rfl
  · rw [h, List.concat_eq_append, pairsF_snoc, lastF_snoc, Nat.zero_add]
def texts (l : List (Nat × List UInt8)) : List Value := strs (l.map Prod.snd)
theorem texts_length (l : List (Nat × List UInt8)) : (texts l).length = l.length := by simp [texts, strs]
theorem texts_snoc (l : List (Nat × List UInt8)) (x : Nat × List UInt8) : texts (l ++ [x]) = texts l ++ [.string ⟨x.2.toArray⟩] := by simp [texts, strs]
theorem own_ge {W : World} {base e size k : Nat} {v : Value} {xs : List Value} (h : W.ownsRow base e size v k xs) {B : Nat} (hB : B < base) : some B ≠ v.ownBlock := by
  rcases h.2 with ⟨rfl, _⟩ | ⟨g, cap, cur, rfl, hb, _⟩
  · simp [Value.ownBlock]
  · simp [Value.ownBlock]; omega
/-- behind an append to a row whose value lies in a box, and the store into the box: boxes that lie below the rows' base stay; the row is owned -/
theorem collected {W w1 : World} {base B e size : Nat} {t : TypeId} {v v' : Value} {k m : Nat} {xs ys : List Value} {tmp : Obj}
    (hv : Boxed W B t v) (hrow : W.ownsRow base e size v k xs) (hB : B < base) (hown' : w1.ownsRow base e size v' m ys) (hgrow : (W.alloc tmp).grownBy w1 v.ownBlock) :
    Boxed w1 B t v ∧ Boxed (w1.setCell ⟨B, 0, none⟩ v') B t v' ∧ (w1.setCell ⟨B, 0, none⟩ v').ownsRow base e size v' m ys ∧ KeepsOthers W (w1.setCell ⟨B, 0, none⟩ v') ∧
      (∀ b, b < base → b < W.heap.size → w1.heap[b]? = W.heap[b]?) ∧ (∀ b, b < base → b ≠ B → b < W.heap.size → (w1.setCell ⟨B, 0, none⟩ v').heap[b]? = W.heap[b]?) ∧ W.heap.size ≤ w1.heap.size ∧
      (∀ n₀ w, n₀ ≤ base → n₀ ≤ B → n₀ ≤ W.heap.size → Below n₀ w W → Below n₀ w (w1.setCell ⟨B, 0, none⟩ v')) := by
  have hv1 : Boxed w1 B t v := (hv.alloc tmp).kept hgrow (own_ge hrow hB)
  have hbl : ∀ b, b < base → b < W.heap.size → w1.heap[b]? = W.heap[b]? := fun b hb hlt => (hgrow.block b (by simp; omega) (own_ge hrow hb)).trans (Below.heap_alloc W tmp b hlt)
  refine ⟨hv1, hv1.set v', hown'.kept (grownBy_setCell' w1 B v') (.inr (own_ge hown' hB).symm), ?_, hbl, fun b hb hne hlt => (heap_setCell_other w1 ⟨B, 0, none⟩ b v' hne).trans (hbl b hb hlt), by have := hgrow.size; simp at this; omega, fun n₀ w h1 h2 h3 h4 => ?_⟩
  · refine ((KeepsOthers.alloc W tmp).trans (KeepsOthers.of_grownBy hgrow fun j o ej hj => ?_)).trans (KeepsOthers.setCell _ _ _)
    rcases (hrow.alloc tmp).2 with ⟨rfl, _⟩ | ⟨g, cap, cur, rfl, _, hgb, _⟩
    · simp [Value.ownBlock] at ej
    · obtain rfl : g = j := by simpa [Value.ownBlock] using ej
      rw [hgb] at hj; cases hj; rfl
  · refine ((h4.alloc h3 tmp).grown hgrow (by simp; omega) fun j ej => ?_).setCell (p := ⟨B, 0, none⟩) h2 v'
    rcases hrow.2 with ⟨rfl, _⟩ | ⟨g, cap, cur, rfl, hb, _, _⟩
    · simp [Value.ownBlock] at ej
    · obtain rfl : g = j := by simpa [Value.ownBlock] using ej
      omega
set_option maxRecDepth 100000 in
set_option maxHeartbeats 2000000 in
theorem good_fresh (d : List UInt8) (w : World) (hd : d.length ≤ 65536) :
    Calls Try.prog 33 #[.string ⟨d.toArray⟩] w fun e w' => ∃ a cap, e = .returned (.tuple #[.slice a (goods d).length cap, .int .i64 (endF (goods d) : Int)]) ∧ Rd w' a (strs (goods d)) ∧ Below w.heap.size w w' ∧ ∀ g off, a = some ⟨g, off, none⟩ → w.heap.size ≤ g := by
  obtain ⟨i0, hi, hz0, hz1, hz2⟩ := info_parts infoStr
  have hcnt : 12 * (goods d).length ≤ 65536 := by have := endF_count (goods d); have := goods_end d; omega
  refine (callsIn_wide (n := 5)).1 ?_
  refine callsIn_of_wp_marks Try.func33 rfl trivial ?_ rfl
  simp only [Try.ntmps33, List.size_toArray, List.length_cons, List.length_nil, Nat.reduceAdd, Nat.reduceSub, Array.replicate_succ, Array.replicate_zero, List.push_toArray, List.append_toArray, List.nil_append, List.cons_append]
  gi_wp2_with (refine ⟨trivial, ?_⟩; gi_at_call 38; refine (callsIn_wide.2 (records_walk d _)).mono ?_; rintro e w' ⟨rfl, rfl⟩)
  have bO := Boxed.new w 40 (.slice none 0 0)
  have bE := Boxed.new (w.alloc (.cells #[.slice none 0 0] 40)) 3 (.int .i64 0)
  rw [World.size_alloc] at bE
  have bN := Boxed.new ((w.alloc (.cells #[.slice none 0 0] 40)).alloc (.cells #[.int .i64 0] 3)) 9 (.string ⟨d.toArray⟩)
  rw [World.size_alloc, World.size_alloc] at bN
  have hB0 : Below w.heap.size w (((w.alloc (.cells #[.slice none 0 0] 40)).alloc (.cells #[.int .i64 0] 3)).alloc (.cells #[.string ⟨d.toArray⟩] 9)) := (((Below.refl _ w).alloc (Nat.le_refl _) _).alloc (by simp) _).alloc (by simp; omega) _
  refine wpIn_rangeFunc_ownG rfl (by omega) (gf := 41) (lb := #[.pointer (some ⟨w.heap.size + 1 + 1, 0, none⟩)]) rfl trivial (enters_of Try.func41 (by kernel_rfl) rfl)
    (records_stops 4 (by omega) (w.heap.size + 1 + 1) d hd _ (by simp) bN.cell) (fun h k => k.trans h) (fun W l o o' hl h _ _ => World.putObj_heap_other (by simp at hl; omega)) (Below.refl _ _) (fun _ => rfl)
    (fun pre W => ((∃ v, Boxed W w.heap.size 40 v ∧ W.ownsRow (w.heap.size + 3) 9 1 v (texts pre).length (texts pre) ∧ True) ∧ Boxed W (w.heap.size + 1) 3 (.int .i64 (lastF pre : Int))) ∧ Below w.heap.size w W ∧ w.heap.size + 3 ≤ W.heap.size)
    (fun _ _ _ => False)
    (OwnFrom.and (OwnFrom.and (Own.from (holdsRow_own (w.heap.size + 3) w.heap.size 40 9 1 (fun pre => (texts pre).length) (fun pre => texts pre) (fun _ _ => True)) _) (Own.from (boxed_own _ _ (fun pre => .int .i64 (lastF pre : Int))) _)) (OwnFrom.and (ownFrom_below (Nat.le_refl _) (by simp; omega)) (fun _ _ _ _ hs hg _ => Nat.le_trans hs hg.size)))
    (fun _ _ _ _ _ hs _ _ => hs)
    ⟨⟨⟨_, (bO.alloc _).alloc _, World.ownsRow_nil _ _ _ _, trivial⟩, bE.alloc _⟩, hB0, by simp⟩
    (fun x => { tmps := #[.string ⟨d.toArray⟩, undef, .slice none 0 0, .int .i64 0, .pointer (some ⟨w.heap.size, 0, none⟩), .pointer (some ⟨w.heap.size + 1, 0, none⟩), .int .i64 (x.1 : Int), .string ⟨x.2.toArray⟩, .string ⟨d.toArray⟩, .func (.func 41) #[] #[.pointer (some ⟨w.heap.size + 1 + 1, 0, none⟩)], .int .i64 (x.1 : Int), .string ⟨x.2.toArray⟩, undef, undef, undef, undef, undef, undef, undef], defers := [] }) ?assign ?body ?done ?stop
  case assign =>
    intro l x W K hK
    gi_wp2
    exact hK
  case body =>
    rintro l pre x W ⟨⟨⟨v, hv, hrow, -⟩, hE⟩, hB, hsz⟩ hlt
    have hc := hv.cell
    have hel := hE.lt
    have hpl := texts_length pre
    have hpl2 : (texts pre).length ≤ 5462 := by omega
    clear hpl hlt
    gi_wp2_with (gi_at_builtin; refine wpListIn_append_own _ rfl _ _ 40 rfl (w.heap.size + 3) 9 i0 (.string ByteArray.empty) 1 16 Try.underlying40 hi hz0 hz1 hz2 rfl (by decide) _ _ _ rfl (hrow.alloc _) ⟨W.heap.size, 0, none⟩ 1 1 [.string ⟨x.2.toArray⟩] rfl rfl (cell_one_new _ _ _) (by simp [Value.oneCell']) (by unfold maxLen; omega) (by omega) (by simp; omega) ?_; intro v' w1 hown' hgrow _; obtain ⟨g', cap', rfl⟩ := ownsRow_succ hown'; obtain ⟨hv1, hv2, hr2, hk2, hb2, hb3, hsz2, hbel⟩ := collected hv hrow (by omega) hown' hgrow; have hc1 := hv1.cell; have hf1 := hv1.frozen; have hE1 : Boxed _ _ _ _ := (hb3 (w.heap.size + 1) (by omega) (by omega) hel).trans hE; have hc2 := hE1.cell; have hf2 := hE1.frozen)
    refine ⟨(hk2.trans (KeepsOthers.setCell _ _ _)).from _, ?_, ⟨⟨_, hv2.other (by omega) _, ?_, trivial⟩, ?_⟩, (hbel _ _ (by omega) (Nat.le_refl _) (by omega) hB).setCell (p := ⟨w.heap.size + 1, 0, none⟩) (by simp) _, by simp; omega⟩
    · exact (heap_setCell_other _ ⟨w.heap.size + 1, 0, none⟩ _ _ (by simp)).trans (hb3 _ (by omega) (by omega) (by omega))
    · rw [texts_snoc, List.length_append]
      exact hr2.kept (grownBy_setCell' _ _ _) (.inr (own_ge hr2 (by omega)).symm)
    · rw [lastF_snoc]
      exact hE1.set _
  case done =>
    rintro D ys W hD rfl ⟨⟨⟨v, hv, hrow, -⟩, hE⟩, hB, hsz⟩ hK
    obtain ⟨a, cap, rfl, hown⟩ := Ow.of_row hrow
    have hc := hv.cell
    have hc2 := hE.cell
    rw [lastF_pairs] at hc2
    gi_wp2
    gi_region
    gi_wp2
    have hK2 : W.drew.heap[D]? = some (.deferred (some [])) := hK
    have ht : texts (pairsF 0 (goods d)) = strs (goods d) := by rw [texts, pairsF_snd]
    have htl : (texts (pairsF 0 (goods d))).length = (goods d).length := by rw [texts_length, pairsF_length]
    refine ⟨by simp, .inl ⟨_, _, rfl, run_takeDeferred hK2, ?_⟩⟩
    refine ⟨_, results_tmp2 (t := 2) (u := 3) rfl _ _ _, a, cap, ?_, ?_, ?_, fun g off he => by have := (hown.row g (by rw [he]; rfl)).1; omega⟩
    · rw [← htl]; rfl
    · have hr := hown.rd
      rw [ht] at hr
      intro j u hj
      obtain ⟨g, off, ha, hcl⟩ := hr j u hj
      exact ⟨g, off, ha, cell_kept (W := W.drew) hcl (grownBy_putObj' _ D _) (fun r e => by cases e; exact ⟨_, hK2, rfl⟩)⟩
    · exact hB.drew.trans (belowK_b (w := w) (Nat.le_refl _) W.drew D _ _ (by simp at hD; omega) hK2 rfl rfl)
  case stop =>
    rintro D c pre W _ _ h _
    exact h.elim
theorem good_walk (d : List UInt8) (w : World) (hd : d.length ≤ 65536) :
    Calls Try.prog 33 #[.string ⟨d.toArray⟩] w fun e w' => ∃ a cap, e = .returned (.tuple #[.slice a (goods d).length cap, .int .i64 (endF (goods d) : Int)]) ∧ Rd w' a (strs (goods d)) ∧ Below w.heap.size w w' :=
  (good_fresh d w hd).mono fun _ _ ⟨a, cap, h1, h2, h3, _⟩ => ⟨a, cap, h1, h2, h3⟩
end Go.Proofs.Ythelmlmheioljaa
