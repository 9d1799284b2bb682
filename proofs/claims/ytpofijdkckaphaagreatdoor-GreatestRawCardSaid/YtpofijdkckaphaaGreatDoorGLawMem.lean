/- An argument that is a slice of members, each with a slice of answers: what can be read of it. -/
import Derived.Test.YtpofijdkckaphaaGreatDoorGRowsC
import Derived.Test.YtpofijdkckaphaaGreatDoorGCndC
namespace Go.Proofs.YtpofijdkckaphaaGreatDoor
open Go.ChangeShapes Go.WideShapes Go.ChangeAt Go.RowKit Go.Deep
theorem weightsAll_mem {H : Type} {P : Program} {e : TypeId} {d : DataW H} : ∀ {l : List (DataW H)}, d ∈ l → ∀ q ∈ d.weights P e, q ∈ DataW.weightsAll P e l
  | [], h, _, _ => by simp at h
  | x :: l, h, q, hq => by
    simp only [DataW.weightsAll, List.mem_append]
    rcases List.mem_cons.1 h with rfl | h
    · exact .inl hq
    · exact .inr (weightsAll_mem h q hq)
theorem trod_rowsW {α : Type} {f : α → List Value} {k : Nat} (hf : ∀ x, (f x).length = k) (hk : 0 < k) {P : Program} {H : Type} {enc : TypeId × Value → H} {W : World} {spare : Nat → Bool} {held : Bool} {fuel : Nat} {t e : TypeId} {cs : List Value} {x : DataW H × List MemPlace}
    (ht : P.underlying t = some (.slice e)) (hc : P.cellsOf e = k) (hby : 1 ≤ P.bytesOf e) (Inv : α → Prop) (hrec : ∀ n cs y, DataW.trod enc P W 0 spare held n e cs = some y → (∀ q ∈ y.1.weights P e, q ≤ reachBytes) → ∃ a, cs = f a ∧ Inv a) (h : DataW.trod enc P W 0 spare held fuel t cs = some x) (hw : ∀ q ∈ x.1.weights P t, q ≤ reachBytes) :
    ∃ a l cap, cs = [.slice a l.length cap] ∧ Rd W a (rowsC f l) ∧ (∀ r ∈ l, Inv r) ∧ l.length ≤ cap ∧ l.length ≤ 281474976710656 := by
  rcases open_slice ht h with ⟨rfl, -⟩ | ⟨a, len, cap, m, n, D, Pl, rfl, _, hl, hm, hmm, hx, hi⟩
  · exact ⟨none, [], 0, rfl, Rd.nil _ _, by simp, by simp, by simp⟩
  · have hmc : len ≤ m := by rw [hmm]; split <;> omega
    subst hx
    simp only [DataW.weights, ht] at hw
    have hrec' : ∀ i, i < len → ∃ r : α, W.cells? 0 (a.add (i * k)) k = some (f r) ∧ Inv r := fun i hil => by
      obtain ⟨cs', hc', ht'⟩ := hi i (by omega)
      rw [hc] at hc'
      obtain ⟨r, rfl, h2⟩ := hrec _ _ _ ht' (fun q hq => hw q (List.mem_cons_of_mem _ (List.mem_append_left _ (weightsAll_mem (List.mem_map.2 ⟨i, List.mem_range.2 hil, rfl⟩) q hq))))
      exact ⟨r, hc', h2⟩
    obtain ⟨L, hL, hP⟩ := list_with len hrec'
    have hlen : len ≤ 281474976710656 := by
      have h1 := hw _ List.mem_cons_self
      rw [List.length_map, List.length_range] at h1
      have h2 : len ≤ (len + ((List.range (m - len)).map fun j => D (len + j)).length) * P.bytesOf e := Nat.le_trans (Nat.le_add_right _ _) (Nat.le_mul_of_pos_right _ hby)
      have h3 : reachBytes = 140737488351232 := rfl
      omega
    refine ⟨some a, L, cap, by rw [hL], fun j u hj => ?_, fun r hr => ?_, by omega, by rw [hL]; exact hlen⟩
    · have hjl := (List.getElem?_eq_some_iff.1 hj).1
      rw [rowsC_length hf] at hjl
      have hk' : j / k < L.length := by
        rw [Nat.div_lt_iff_lt_mul hk]; exact hjl
      have hjm : j % k < k := Nat.mod_lt _ hk
      have hx : L[j / k]? = some L[j / k] := List.getElem?_eq_getElem hk'
      obtain ⟨hc', -⟩ := hP _ _ hx
      obtain ⟨-, hcl, hat⟩ := World.cells?_some hc'
      have hcell := hat (j % k) (by omega)
      have hjj : j / k * k + j % k = j := by rw [Nat.mul_comm]; exact Nat.div_add_mod j k
      rw [← rowsC_get hf hx hjm, hjj, hj] at hcell
      obtain ⟨g, off, sp⟩ := a
      have hsp : sp = none := by
        cases sp with
        | none => rfl
        | some x =>
          have hpos : 0 < L.length := Nat.lt_of_le_of_lt (Nat.zero_le _) hk'
          have hx0 : L[0]? = some L[0] := List.getElem?_eq_getElem (by omega)
          obtain ⟨hc0, -⟩ := hP _ _ hx0
          have h0 := (World.cells?_some hc0).2.2 0 (by omega)
          rw [Go.Deep.add_add, show 0 * k + 0 = 0 by omega] at h0
          have hne : (f L[0])[0]? ≠ none := by
            rw [List.getElem?_eq_getElem (by rw [hf]; exact hk)]; simp
          rw [← h0] at hne
          simp only [World.cell?, Addr.add, if_pos] at hne
          split at hne <;> simp at hne
      subst hsp
      refine ⟨g, off, rfl, ?_⟩
      rw [Go.Deep.add_add, hjj, Addr.add_lit] at hcell
      exact hcell
    · obtain ⟨i, hi, rfl⟩ := List.getElem_of_mem hr
      exact (hP i _ (List.getElem?_eq_getElem hi)).2
theorem an_fields : ∃ f0 f1 f2 : Field, Tryz.prog.underlying 83 = some (.struct #[f0, f1, f2]) ∧ (f0.type = 9 ∧ f0.offset = 0) ∧ (f1.type = 9 ∧ f1.offset = 1) ∧ (f2.type = 3 ∧ f2.offset = 2) :=
  ⟨_, _, _, Tryz.underlying83, ⟨rfl, rfl⟩, ⟨rfl, rfl⟩, ⟨rfl, rfl⟩⟩
theorem mm_fields : ∃ f0 f1 f2 f3 f4 : Field, Tryz.prog.underlying 39 = some (.struct #[f0, f1, f2, f3, f4]) ∧ (f0.type = 9 ∧ f0.offset = 0) ∧ (f1.type = 3 ∧ f1.offset = 1) ∧ (f2.type = 3 ∧ f2.offset = 2) ∧ (f3.type = 3 ∧ f3.offset = 3) ∧ (f4.type = 37 ∧ f4.offset = 4) :=
  ⟨_, _, _, _, _, Tryz.underlying39, ⟨rfl, rfl⟩, ⟨rfl, rfl⟩, ⟨rfl, rfl⟩, ⟨rfl, rfl⟩, ⟨rfl, rfl⟩⟩
theorem cells_int : Tryz.prog.cellsOf 3 = 1 := by kernel_rfl
theorem cells_str : Tryz.prog.cellsOf 9 = 1 := by kernel_rfl
theorem cells_an : Tryz.prog.cellsOf 83 = 3 := by kernel_rfl
theorem cells_ans : Tryz.prog.cellsOf 37 = 1 := by kernel_rfl
theorem bytes_an : 1 ≤ Tryz.prog.bytesOf 83 := by decide +kernel
theorem bytes_mm : 1 ≤ Tryz.prog.bytesOf 39 := by decide +kernel
theorem cells_mm : Tryz.prog.cellsOf 39 = 5 := by kernel_rfl
set_option maxRecDepth 100000 in
theorem an_of {H : Type} {enc : TypeId × Value → H} {W : World} {spare : Nat → Bool} {held : Bool} (n : Nat) (cs : List Value) (y : DataW H × List MemPlace)
    (h : DataW.trod enc Tryz.prog W 0 spare held n 83 cs = some y) (hw : ∀ q ∈ y.1.weights Tryz.prog 83, q ≤ reachBytes) : ∃ a : Ans, cs = anC a ∧ a.In := by
  obtain ⟨f0, f1, f2, hs, ⟨t0, o0⟩, ⟨t1, o1⟩, ⟨t2, o2⟩⟩ := an_fields
  obtain ⟨xs, n', rfl, hx, hcl, hxl, hf⟩ := DataW.trod_struct hs h
  rw [cells_an] at hcl
  match cs, hcl with
  | [c0, c1, c2], _ =>
  match xs, hxl with
  | [y0, y1, y2], _ =>
  have g0 := hf 0 f0 rfl
  have g1 := hf 1 f1 rfl
  have g2 := hf 2 f2 rfl
  rw [t0, o0, cells_str] at g0
  rw [t1, o1, cells_str] at g1
  rw [t2, o2, cells_int] at g2
  simp only [List.drop_zero, List.drop_succ_cons, List.take_succ_cons, List.take_zero, List.getElem?_cons_zero, List.getElem?_cons_succ] at g0 g1 g2
  obtain ⟨v0, e0, z0, -⟩ := DataW.trod_string Tryz.underlying9 g0
  obtain ⟨v1, e1, z1, -⟩ := DataW.trod_string Tryz.underlying9 g1
  obtain ⟨v2, e2, z2, w2⟩ := DataW.trod_int Tryz.underlying3 g2
  simp only [List.cons.injEq, and_true] at e0 e1 e2
  subst e0 e1 e2 z0 z1 z2
  subst hx
  have h0 := hw v0.data.toList.length (by simp [DataW.weights, DataW.weightsEach, hs])
  have h1 := hw v1.data.toList.length (by simp [DataW.weights, DataW.weightsEach, hs])
  exact ⟨⟨v0.data.toList, v1.data.toList, v2⟩, by simp [anC], h0, h1, I64.of_wf w2⟩
set_option maxRecDepth 100000 in
theorem mm_of {H : Type} {enc : TypeId × Value → H} {W : World} {spare : Nat → Bool} {held : Bool} (n : Nat) (cs : List Value) (y : DataW H × List MemPlace)
    (h : DataW.trod enc Tryz.prog W 0 spare held n 39 cs = some y) (hw : ∀ q ∈ y.1.weights Tryz.prog 39, q ≤ reachBytes) : ∃ m : Mem, cs = mmC m ∧ m.In ∧ Rd W m.aa (rowsC anC m.ans) := by
  obtain ⟨f0, f1, f2, f3, f4, hs, ⟨t0, o0⟩, ⟨t1, o1⟩, ⟨t2, o2⟩, ⟨t3, o3⟩, ⟨t4, o4⟩⟩ := mm_fields
  obtain ⟨xs, n', rfl, hx, hcl, hxl, hf⟩ := DataW.trod_struct hs h
  rw [cells_mm] at hcl
  match cs, hcl with
  | [c0, c1, c2, c3, c4], _ =>
  match xs, hxl with
  | [y0, y1, y2, y3, y4], _ =>
  have g0 := hf 0 f0 rfl
  have g1 := hf 1 f1 rfl
  have g2 := hf 2 f2 rfl
  have g3 := hf 3 f3 rfl
  have g4 := hf 4 f4 rfl
  rw [t0, o0, cells_str] at g0
  rw [t1, o1, cells_int] at g1
  rw [t2, o2, cells_int] at g2
  rw [t3, o3, cells_int] at g3
  rw [t4, o4, cells_ans] at g4
  simp only [List.drop_zero, List.drop_succ_cons, List.take_succ_cons, List.take_zero, List.getElem?_cons_zero, List.getElem?_cons_succ] at g0 g1 g2 g3 g4
  obtain ⟨v0, e0, z0, -⟩ := DataW.trod_string Tryz.underlying9 g0
  obtain ⟨v1, e1, z1, w1⟩ := DataW.trod_int Tryz.underlying3 g1
  obtain ⟨v2, e2, z2, w2⟩ := DataW.trod_int Tryz.underlying3 g2
  obtain ⟨v3, e3, z3, w3⟩ := DataW.trod_int Tryz.underlying3 g3
  subst hx
  obtain ⟨a, l, cap, e4, r4, i4, l4, b4⟩ := trod_rowsW anC_len (by decide) Tryz.underlying37 cells_an bytes_an Ans.In (fun n cs y h hq => an_of n cs y h hq) g4 (fun q hq => hw q (by
    simp only [DataW.weights, hs, List.map_cons, List.map_nil, DataW.weightsEach, List.mem_append]
    rw [t4]
    exact .inr (.inr (.inr (.inr (.inl hq))))))
  simp only [List.cons.injEq, and_true] at e0 e1 e2 e3 e4
  subst e0 e1 e2 e3 e4 z0 z1 z2 z3
  have h0 := hw v0.data.toList.length (by simp [DataW.weights, DataW.weightsEach, hs])
  exact ⟨⟨v0.data.toList, v1, v2, v3, l, a, cap⟩, by simp [mmC], ⟨h0, ⟨I64.of_wf w1, I64.of_wf w2, I64.of_wf w3⟩, i4, l4, b4⟩, r4⟩
set_option maxRecDepth 100000 in
theorem reads_mems {W : World} {v : Value} {N : Nat} (h : Reads Tryz.prog W 72 v N) :
    ∃ a l cap, v = .slice a l.length cap ∧ RdM W a l ∧ l.length ≤ 281474976710656 := by
  obtain ⟨⟨base, hv⟩, H, enc, d, ps, hd, hw, hN⟩ := h
  obtain ⟨a0, len, cap, rfl⟩ := okWide_slice Tryz.underlying72 hv
  obtain ⟨fuel, hf⟩ := hd
  obtain ⟨a, l, cap', e, r, i, -, b⟩ := trod_rowsW mmC_len (by decide) Tryz.underlying72 cells_mm bytes_mm (fun m => m.In ∧ Rd W m.aa (rowsC anC m.ans)) (fun n cs y h hq => mm_of n cs y h hq) hf hw
  simp only [Value.cells, List.cons.injEq, and_true] at e
  exact ⟨a, l, cap', e, ⟨r, fun m hm => (i m hm).2, fun m hm => (i m hm).1⟩, b⟩
end Go.Proofs.YtpofijdkckaphaaGreatDoor
