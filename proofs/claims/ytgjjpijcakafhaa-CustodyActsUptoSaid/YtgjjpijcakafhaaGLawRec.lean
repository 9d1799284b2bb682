/- An argument that is a slice of records: what can be read of it. -/
import Derived.Test.YtgjjpijcakafhaaLaw
import Derived.Test.YtgjjpijcakafhaaGRec
import Derived.Deep.Slices
namespace Go.Proofs.Ytgjjpijcakafhaa
open Go.ChangeShapes Go.WideShapes Go.ChangeAt Go.RowKit Go.Deep
theorem rec_fields : ∃ f0 f1 f2 f3 f4 : Field, Try.prog.underlying 24 = some (.struct #[f0, f1, f2, f3, f4]) ∧ (f0.type = 3 ∧ f0.offset = 0) ∧ (f1.type = 3 ∧ f1.offset = 1) ∧ (f2.type = 3 ∧ f2.offset = 2) ∧ (f3.type = 9 ∧ f3.offset = 3) ∧ (f4.type = 9 ∧ f4.offset = 4) :=
  ⟨_, _, _, _, _, Try.underlying24, ⟨rfl, rfl⟩, ⟨rfl, rfl⟩, ⟨rfl, rfl⟩, ⟨rfl, rfl⟩, ⟨rfl, rfl⟩⟩
theorem cells_int : Try.prog.cellsOf 3 = 1 := by kernel_rfl
theorem cells_str : Try.prog.cellsOf 9 = 1 := by kernel_rfl
theorem cells_rec : Try.prog.cellsOf 24 = 5 := by kernel_rfl
set_option maxRecDepth 100000 in
theorem rec_of {H : Type} {enc : TypeId × Value → H} {W : World} {base : Nat} {spare : Nat → Bool} {held : Bool} {n : Nat} {cs : List Value} {d : DataW H} {ps : List MemPlace}
    (h : DataW.trod enc Try.prog W base spare held n 24 cs = some (d, ps)) : ∃ r : Rec, cs = recC r ∧ r.In ∧ r.body.length + r.before.length ≤ Rows.uptoBulk d := by
  obtain ⟨f0, f1, f2, f3, f4, hs, ⟨t0, o0⟩, ⟨t1, o1⟩, ⟨t2, o2⟩, ⟨t3, o3⟩, ⟨t4, o4⟩⟩ := rec_fields
  obtain ⟨xs, n', rfl, hx, hcl, hxl, hf⟩ := DataW.trod_struct hs h
  rw [cells_rec] at hcl
  match cs, hcl with
  | [c0, c1, c2, c3, c4], _ =>
  match xs, hxl with
  | [y0, y1, y2, y3, y4], _ =>
  have g0 := hf 0 f0 rfl
  have g1 := hf 1 f1 rfl
  have g2 := hf 2 f2 rfl
  have g3 := hf 3 f3 rfl
  have g4 := hf 4 f4 rfl
  rw [t0, o0, cells_int] at g0
  rw [t1, o1, cells_int] at g1
  rw [t2, o2, cells_int] at g2
  rw [t3, o3, cells_str] at g3
  rw [t4, o4, cells_str] at g4
  simp only [List.drop_zero, List.drop_succ_cons, List.take_succ_cons, List.take_zero, List.getElem?_cons_zero, List.getElem?_cons_succ] at g0 g1 g2 g3 g4
  obtain ⟨v0, e0, z0, w0⟩ := DataW.trod_int Try.underlying3 g0
  obtain ⟨v1, e1, z1, w1⟩ := DataW.trod_int Try.underlying3 g1
  obtain ⟨v2, e2, z2, w2⟩ := DataW.trod_int Try.underlying3 g2
  obtain ⟨v3, e3, z3, w3⟩ := DataW.trod_string Try.underlying9 g3
  obtain ⟨v4, e4, z4, w4⟩ := DataW.trod_string Try.underlying9 g4
  simp only [List.cons.injEq, and_true] at e0 e1 e2 e3 e4
  subst e0 e1 e2 e3 e4 z0 z1 z2 z3 z4
  refine ⟨⟨v0, v1, v2, v3.data.toList, v4.data.toList⟩, by simp [recC], ⟨I64.of_wf w0, I64.of_wf w1, I64.of_wf w2⟩, ?_⟩
  simp only [Prod.mk.injEq] at hx
  obtain ⟨rfl, -⟩ := hx
  simp [Rows.uptoBulk, Rows.uptoBulkAll]
  omega
/-- the letters of the texts -/
def recTot (l : List Rec) : Nat := (l.map fun r => r.body.length + r.before.length).sum
theorem list_of {α : Type} {P : Nat → α → Prop} : ∀ (n : Nat), (∀ i, i < n → ∃ x, P i x) → ∃ l : List α, l.length = n ∧ ∀ i x, l[i]? = some x → P i x
  | 0, _ => ⟨[], rfl, fun i x h => by simp at h⟩
  | n + 1, h => by
    obtain ⟨l, hl, hp⟩ := list_of n (fun i hi => h i (by omega))
    obtain ⟨x, hx⟩ := h n (by omega)
    refine ⟨l ++ [x], by simp [hl], fun i y hy => ?_⟩
    rcases Nat.lt_or_ge i l.length with hi | hi
    · rw [List.getElem?_append_left hi] at hy; exact hp i y hy
    · rw [List.getElem?_append_right hi] at hy
      have hi0 : i - l.length = 0 := by
        have := (List.getElem?_eq_some_iff.1 hy).1
        simp at this; omega
      rw [hi0] at hy
      simp at hy
      subst hy
      obtain rfl : i = n := by omega
      exact hx
theorem bulk_at {H : Type} (D : Nat → DataW H) : ∀ (n i : Nat), i < n → Rows.uptoBulk (D i) ≤ Rows.uptoBulkAll ((List.range n).map D)
  | 0, i, h => by omega
  | n + 1, i, h => by
    have hsnoc : ∀ (a : List (DataW H)) (x : DataW H), Rows.uptoBulkAll (a ++ [x]) = Rows.uptoBulkAll a + Rows.uptoBulk x := by
      intro a x
      induction a with
      | nil => simp [Rows.uptoBulkAll]
      | cons y a ih => simp only [List.cons_append, Rows.uptoBulkAll, ih]; omega
    rw [List.range_succ, List.map_append, List.map_cons, List.map_nil, hsnoc]
    by_cases hi : i = n
    · subst hi; omega
    · have := bulk_at D n i (by omega); omega
set_option maxRecDepth 100000 in
theorem Reads.recs {W : World} {v : Value} {N : Nat} (h : Reads Try.prog W 22 v N) :
    ∃ a l cap, v = .slice a l.length cap ∧ Rd W a (recs l) ∧ (∀ r ∈ l, r.In) ∧ l.length ≤ cap ∧ (∀ r ∈ l, r.body.length + r.before.length ≤ N) ∧ l.length ≤ N := by
  obtain ⟨⟨base, hv⟩, H, enc, d, ps, hd, hw, hN⟩ := h
  obtain ⟨a0, len, cap, rfl⟩ := okWide_slice Try.underlying22 hv
  obtain ⟨fuel, hf⟩ := hd
  rcases open_slice Try.underlying22 hf with ⟨hcs, hx⟩ | ⟨a, len', cap', m, n, D, Pl, hcs, _, hl, hm, hmm, hx, hi⟩
  · simp [Value.cells] at hcs
    obtain ⟨rfl, rfl, rfl⟩ := hcs
    exact ⟨none, [], 0, rfl, Rd.nil _ _, by simp, by simp, by simp, by simp⟩
  · simp [Value.cells] at hcs
    obtain ⟨rfl, rfl, rfl⟩ := hcs
    simp only [Prod.mk.injEq] at hx
    obtain ⟨rfl, rfl⟩ := hx
    have hmc : m = cap := by rw [hmm]; simp
    have hrec : ∀ i, i < len → ∃ r : Rec, W.cells? 0 (a.add (i * 5)) 5 = some (recC r) ∧ r.In ∧ r.body.length + r.before.length ≤ Rows.uptoBulk (D i) := fun i hil => by
      obtain ⟨cs', hc, ht⟩ := hi i (by omega)
      rw [cells_rec] at hc
      obtain ⟨r, rfl, h2, h3⟩ := rec_of ht
      exact ⟨r, hc, h2, h3⟩
    obtain ⟨L, hL, hP⟩ := list_of len hrec
    have hlen := bulk_length ((List.range len).map D)
    simp only [Rows.uptoBulk] at hN
    rw [List.length_map, List.length_range] at hlen
    refine ⟨some a, L, cap, by rw [hL], fun j u hj => ?_, fun r hr => ?_, by omega, fun r hr => ?_, by omega⟩
    · have hjl := (List.getElem?_eq_some_iff.1 hj).1
      rw [recs_length] at hjl
      have hk : j / 5 < L.length := by omega
      have hx : L[j / 5]? = some L[j / 5] := List.getElem?_eq_getElem hk
      obtain ⟨hc, -, -⟩ := hP _ _ hx
      obtain ⟨-, hcl, hat⟩ := World.cells?_some hc
      have hcell := hat (j % 5) (by omega)
      rw [← recs_get hx (by omega), show j / 5 * 5 + j % 5 = j by omega, hj] at hcell
      obtain ⟨g, off, sp⟩ := a
      have hsp : sp = none := by
        cases sp with
        | none => rfl
        | some x =>
          have hx0 : L[0]? = some L[0] := List.getElem?_eq_getElem (by omega)
          obtain ⟨hc0, -, -⟩ := hP _ _ hx0
          have h0 := (World.cells?_some hc0).2.2 0 (by omega)
          rw [Go.Deep.add_add, show 0 * 5 + 0 = 0 from rfl] at h0
          simp only [World.cell?, Addr.add, if_pos, recC, List.getElem?_cons_zero] at h0
          split at h0 <;> simp at h0
      subst hsp
      refine ⟨g, off, rfl, ?_⟩
      rw [Go.Deep.add_add, show j / 5 * 5 + j % 5 = j by omega, Addr.add_lit] at hcell
      exact hcell
    · obtain ⟨i, hi, rfl⟩ := List.getElem_of_mem hr
      exact (hP i _ (List.getElem?_eq_getElem hi)).2.1
    · obtain ⟨i, hi, rfl⟩ := List.getElem_of_mem hr
      have h1 := (hP i _ (List.getElem?_eq_getElem hi)).2.2
      have h2 := bulk_at D len i (by omega)
      omega
end Go.Proofs.Ytgjjpijcakafhaa
