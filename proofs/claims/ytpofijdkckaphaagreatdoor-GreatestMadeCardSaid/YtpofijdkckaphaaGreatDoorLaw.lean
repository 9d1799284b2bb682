/- How a law's statement is proved from a walk: its arguments, read; the frame of a statement 'for every input the law returns true, and each argument reads as it did'. No law in sight. -/
import Derived.Test.YtpofijdkckaphaaGreatDoorBase
import Derived.Test.YtpofijdkckaphaaGreatDoorRows
import Derived.JoinedCond
import Derived.Deep.CondSized
import Derived.ProofKit
import Derived.OpenShut
import Derived.SizedLaws
import Derived.SliceStrings
namespace Go.Proofs.YtpofijdkckaphaaGreatDoor
open Go.ChangeShapes Go.WideShapes Go.ChangeAt Go.RowKit
open Go.ChangeMaps (open_string)

/-- A value that can be read as data of bulk n, within the form's reach. -/
def Reads (P : Program) (W : World) (t : TypeId) (v : Value) (n : Nat) : Prop :=
  (∃ base, Value.okWide P W .any base t v) ∧ ∃ (H : Type) (enc : TypeId × Value → H) (d : DataW H) (ps : List MemPlace), DataW.Trod enc P W 0 (fun _ => true) true t v d ps ∧ (∀ x ∈ d.weights P t, x ≤ reachBytes) ∧ Rows.uptoBulk d = n
def ReadsAll (P : Program) (W : World) : List TypeId → List Value → Nat → Prop
  | [], [], _ => True
  | t :: ts, v :: vs, n => ∃ n0 n1, n = n0 + n1 ∧ Reads P W t v n0 ∧ ReadsAll P W ts vs n1
  | _, _, _ => False

theorem ReadsAll.nil {P : Program} {W : World} {vs : List Value} {n : Nat} (h : ReadsAll P W [] vs n) : vs = [] := by cases vs <;> simp_all [ReadsAll]
theorem ReadsAll.cons {P : Program} {W : World} {t : TypeId} {ts : List TypeId} {vs : List Value} {n : Nat} (h : ReadsAll P W (t :: ts) vs n) : ∃ v vs' n0 n1, vs = v :: vs' ∧ n = n0 + n1 ∧ Reads P W t v n0 ∧ ReadsAll P W ts vs' n1 := by
  cases vs with
  | nil => exact h.elim
  | cons v vs => obtain ⟨n0, n1, e, h0, h1⟩ := h; exact ⟨v, vs, n0, n1, rfl, e, h0, h1⟩
theorem bulk_one {H : Type} (d : DataW H) : 1 ≤ Rows.uptoBulk d := by
  cases d with
  | lit l => cases l <;> simp [Rows.uptoBulk]
  | nil => simp [Rows.uptoBulk]
  | ptr d => simp [Rows.uptoBulk]
  | slice elems spare => simp [Rows.uptoBulk]
  | agg parts => simp [Rows.uptoBulk]
  | iface t d => simp [Rows.uptoBulk]
  | map entries => simp [Rows.uptoBulk]
  | held h => simp [Rows.uptoBulk]
theorem bulk_length {H : Type} (l : List (DataW H)) : l.length ≤ Rows.uptoBulkAll l := by
  induction l with
  | nil => simp [Rows.uptoBulkAll]
  | cons x r ih => have := bulk_one x; simp only [Rows.uptoBulkAll, List.length_cons]; omega
/-- the lengths of strings, added up -/
def tot (l : List (List UInt8)) : Nat := (l.map List.length).sum
theorem bulk_strs {H : Type} (ys : List ByteArray) : Rows.uptoBulkAll (Go.ChangeShapes.strs (H := H) ys) = tot (ys.map fun s => s.data.toList) + ys.length := by
  induction ys with
  | nil => rfl
  | cons y ys ih =>
    simp only [Go.ChangeShapes.strs, List.map_cons, Rows.uptoBulkAll, Rows.uptoBulk, tot, List.sum_cons, List.length_cons] at ih ⊢
    omega

section
variable {P : Program} {W : World} {t e : TypeId} {v : Value} {N : Nat}
theorem Reads.string (ht : P.underlying t = some .string) (h : Reads P W t v N) : ∃ l : List UInt8, v = .string ⟨l.toArray⟩ ∧ l.length ≤ 140737488351232 ∧ l.length + 1 = N := by
  obtain ⟨⟨base, hv⟩, H, enc, d, ps, hd, hw, hN⟩ := h
  obtain ⟨s, rfl, rfl, rfl, _⟩ := open_string ht hv hd
  refine ⟨s.data.toList, by simp, ?_, by simpa [Rows.uptoBulk] using hN⟩
  have := hw s.data.toList.length (by simp [DataW.weights])
  simpa [reachBytes] using this
theorem Reads.int {k : IntKind} (ht : P.underlying t = some (.int k)) (h : Reads P W t v N) : ∃ n, v = .int k n ∧ (Lit.int k n).wf = true := by
  obtain ⟨⟨base, hv⟩, H, enc, d, ps, hd, hw, hN⟩ := h
  obtain ⟨n, rfl, rfl, rfl, wf⟩ := open_int ht hv hd
  exact ⟨n, rfl, wf⟩
theorem I64.of_wf {n : Int} (h : (Lit.int .i64 n).wf = true) : I64 n := by
  simp only [Lit.wf, Bool.and_eq_true, decide_eq_true_eq] at h
  exact h
theorem Reads.i64 (ht : P.underlying t = some (.int .i64)) (h : Reads P W t v N) : ∃ n, v = .int .i64 n ∧ I64 n := by
  obtain ⟨n, hn, wf⟩ := h.int ht
  exact ⟨n, hn, I64.of_wf wf⟩
theorem Reads.bool (ht : P.underlying t = some .bool) (h : Reads P W t v N) : ∃ b, v = .bool b := by
  obtain ⟨⟨base, hv⟩, H, enc, d, ps, hd, hw, hN⟩ := h
  obtain ⟨b, rfl, _⟩ := open_bool ht hv hd
  exact ⟨b, rfl⟩
theorem Reads.ints (ht : P.underlying t = some (.slice e)) (he : P.underlying e = some (.int .i64)) (hc : P.cellsOf e = 1) (hb : P.bytesOf e = 8) (h : Reads P W t v N) :
    ∃ a l cap, v = .slice a l.length cap ∧ Rd W a (ints l) ∧ (∀ x ∈ l, I64 x) ∧ l.length ≤ 17592186043904 ∧ l.length + 1 ≤ N := by
  obtain ⟨⟨base, hv⟩, H, enc, d, ps, hd, hw, hN⟩ := h
  obtain ⟨a0, len, cap, rfl⟩ := okWide_slice ht hv
  obtain ⟨fuel, hf⟩ := hd
  rcases open_ints ht he hc hf with ⟨hcs, hx⟩ | ⟨a, len', cap', zs, hcs, _, hl, hm, hz, hx, hcell, hwz⟩
  · simp [Value.cells] at hcs
    obtain ⟨rfl, rfl, rfl⟩ := hcs
    exact ⟨none, [], 0, rfl, Rd.nil _ _, by simp, by simp, by simp only [Prod.mk.injEq] at hx; obtain ⟨rfl, _⟩ := hx; simp [Rows.uptoBulk] at hN; simp [← hN]⟩
  · simp [Value.cells] at hcs
    obtain ⟨rfl, rfl, rfl⟩ := hcs
    simp only [Prod.mk.injEq] at hx
    obtain ⟨rfl, rfl⟩ := hx
    rw [if_pos rfl] at hz
    have hlen : (zs.take len).length = len := by rw [List.length_take]; omega
    refine ⟨some a, zs.take len, cap, by rw [hlen], fun j u hj => ?_, fun x hx => I64.of_wf (hwz x (List.mem_of_mem_take hx)), ?_, ?_⟩
    · have hjl : j < len := by
        have := (List.getElem?_eq_some_iff.1 hj).1
        rw [ints_length, hlen] at this; exact this
      have hc := hcell j (by omega)
      obtain ⟨g, off, sp⟩ := a
      rw [ints_get (by rw [hlen]; exact hjl)] at hj
      have hsp : sp = none := by
        cases sp with
        | none => rfl
        | some x =>
          have h0 := hcell 0 (by omega)
          simp only [World.cell?, Addr.add, if_pos] at h0
          split at h0 <;> simp at h0
      subst hsp
      refine ⟨g, off, rfl, ?_⟩
      rw [Addr.add_lit] at hc
      rw [hc, ← hj]
      simp [List.getD, hjl]
    · have := hw _ (by simp only [DataW.weights, ht, hb]; exact List.mem_cons_self)
      simp only [lits, List.length_map, List.length_take, List.length_drop, reachBytes] at this
      rw [hlen]; omega
    · have h1 := bulk_length (lits (H := H) .i64 (zs.take len))
      simp only [Rows.uptoBulk] at hN
      simp only [lits, List.length_map] at h1 hN
      omega
theorem Reads.strs (ht : P.underlying t = some (.slice e)) (he : P.underlying e = some .string) (hc : P.cellsOf e = 1) (hb : P.bytesOf e = 16) (h : Reads P W t v N) :
    ∃ a l cap, v = .slice a l.length cap ∧ Rd W a (strs l) ∧ (∀ x ∈ l, x.length ≤ 140737488351232) ∧ l.length ≤ 17592186043904 ∧ tot l + l.length + 1 ≤ N := by
  obtain ⟨⟨base, hv⟩, H, enc, d, ps, hd, hw, hN⟩ := h
  obtain ⟨a0, len, cap, rfl⟩ := okWide_slice ht hv
  obtain ⟨fuel, hf⟩ := hd
  rcases open_strings ht he hc hf with ⟨hcs, hx⟩ | ⟨a, len', cap', zs, hcs, _, hl, hm, hz, hx, hcell, hwz⟩
  · simp [Value.cells] at hcs
    obtain ⟨rfl, rfl, rfl⟩ := hcs
    exact ⟨none, [], 0, rfl, Rd.nil _ _, by simp, by simp, by simp only [Prod.mk.injEq] at hx; obtain ⟨rfl, _⟩ := hx; simp [Rows.uptoBulk] at hN; simp [← hN, tot]⟩
  · simp [Value.cells] at hcs
    obtain ⟨rfl, rfl, rfl⟩ := hcs
    simp only [Prod.mk.injEq] at hx
    obtain ⟨rfl, rfl⟩ := hx
    rw [if_pos rfl] at hz
    have hlen : ((zs.take len).map fun s => s.data.toList).length = len := by rw [List.length_map, List.length_take]; omega
    refine ⟨some a, (zs.take len).map fun s => s.data.toList, cap, by rw [hlen], fun j u hj => ?_, fun x hx => ?_, ?_, ?_⟩
    · have hjl : j < len := by
        have := (List.getElem?_eq_some_iff.1 hj).1
        rw [strs_length, hlen] at this; exact this
      have hc := hcell j (by omega)
      obtain ⟨g, off, sp⟩ := a
      rw [strs_get (by rw [hlen]; exact hjl)] at hj
      have hsp : sp = none := by
        cases sp with
        | none => rfl
        | some x =>
          have h0 := hcell 0 (by omega)
          simp only [World.cell?, Addr.add, if_pos] at h0
          split at h0 <;> simp at h0
      subst hsp
      refine ⟨g, off, rfl, ?_⟩
      rw [Addr.add_lit] at hc
      rw [hc, ← hj]
      have hj2 : j < zs.length := by omega
      simp [List.getD, hjl, hj2]
    · obtain ⟨s, hs, rfl⟩ := List.mem_map.1 hx
      have hm : ∀ (ys : List ByteArray), s ∈ ys → s.data.toList.length ∈ DataW.weightsAll P e (Go.ChangeShapes.strs (H := H) ys) := by
        intro ys
        induction ys with
        | nil => intro h; simp at h
        | cons y ys ih =>
          intro h
          simp only [Go.ChangeShapes.strs, List.map_cons, DataW.weightsAll, DataW.weights, List.mem_append]
          rcases List.mem_cons.1 h with rfl | h
          · exact Or.inl (by simp)
          · exact Or.inr (ih h)
      have := hw s.data.toList.length (by simp only [DataW.weights, ht, hb]; exact List.mem_cons_of_mem _ (List.mem_append_left _ (hm _ hs)))
      simpa [reachBytes] using this
    · have := hw _ (by simp only [DataW.weights, ht, hb]; exact List.mem_cons_self)
      simp only [Go.ChangeShapes.strs, List.length_map, List.length_take, List.length_drop, reachBytes] at this
      rw [hlen]; omega
    · simp only [Rows.uptoBulk, bulk_strs] at hN
      rw [hlen]
      have : (zs.take len).length = len := by simpa using hlen
      omega
end

theorem trodAll_below {H : Type} {enc : TypeId × Value → H} {P : Program} (hl : laidOutB P = true) {W W' : World} (hb : Below W.heap.size W W') :
    ∀ {ts : List TypeId} {vs : List Value} {ds : List (DataW H)} {ps : List MemPlace}, (ts.all fun t => P.readableRec t && decide (t < P.types.size)) = true → (∀ x ∈ ps, x.block < W.heap.size) →
      DataW.TrodAll enc P W 0 (fun _ => true) true ts vs ds ps → DataW.TrodAll enc P W' 0 (fun b => decide (b < W.heap.size)) true ts vs ds ps
  | [], vs, ds, ps, _, _, h => by obtain ⟨rfl, rfl, rfl⟩ := trodAll_nil h; exact trodAll_mk0
  | t :: ts, vs, ds, ps, hr, hlt, h => by
    obtain ⟨v, vs', d, ds', p, q, rfl, rfl, rfl, h0, r0⟩ := trodAll_cons h
    simp only [List.all_cons, Bool.and_eq_true, decide_eq_true_eq] at hr
    exact trodAll_cons_mk (Below.trod hl hr.1.1 hr.1.2 h0 hb (fun x hx => hlt x (List.mem_append_left _ hx))) (trodAll_below hl hb (by simpa using hr.2) (fun x hx => hlt x (List.mem_append_right _ hx)) r0)

theorem readsAll_of {H : Type} {enc : TypeId × Value → H} {P : Program} {W : World} : ∀ {ts : List TypeId} {vs : List Value} {ds : List (DataW H)} {ps : List MemPlace},
    (∀ (j : Nat) t v, ts[j]? = some t → vs[j]? = some v → ∃ base, Value.okWide P W .any base t v) → DataW.TrodAll enc P W 0 (fun _ => true) true ts vs ds ps →
    (∀ x ∈ DataW.weightsEach P ts ds, x ≤ reachBytes) → ReadsAll P W ts vs (Rows.uptoBulkAll ds)
  | [], vs, ds, ps, _, h, _ => by obtain ⟨rfl, _, _⟩ := trodAll_nil h; trivial
  | t :: ts, vs, ds, ps, hv, h, hw => by
    obtain ⟨v, vs', d, ds', p, q, rfl, rfl, rfl, h0, r0⟩ := trodAll_cons h
    simp only [DataW.weightsEach, List.mem_append] at hw
    exact ⟨_, _, rfl, ⟨hv 0 t v rfl rfl, H, enc, d, p, h0, fun x hx => hw x (Or.inl hx), rfl⟩, readsAll_of (fun j t v h1 h2 => hv (j + 1) t v h1 h2) r0 (fun x hx => hw x (Or.inr hx))⟩

/-- WHAT THE WALK GIVES, for a law that names no variable. -/
theorem law_contract {C : Checked} {f : FuncId} {fn : Func} {s : ChangeSpec} {H : Type} {enc : TypeId × Value → H}
    (hvars : s.vars = []) (hspec : ∀ ds : List (DataW H), ds.length = fn.params.size → s.fn H ds = { results := [.lit (.bool true)], args := ds })
    {tb : TypeId} (hres : fn.resultTypes = #[tb]) (htb : C.prog.underlying tb = some .bool) (hlaid : laidOutB C.prog = true) (hread : (fn.params.toList.all fun t => C.prog.readableRec t && decide (t < C.prog.types.size)) = true)
    (W : World) (base : Nat) (args : Array Value) (ds gs : List (DataW H)) (before : List MemPlace)
    (hval : ∀ (j : Nat) t v, fn.params[j]? = some t → args[j]? = some v → Value.okWide C.prog W .any base t v)
    (hW : DataW.Whole enc C.prog fn.params.toList s.vars false W args.toList ds gs before)
    (hsz : (DataW.weightsEach C.prog (fn.params.toList ++ s.plain.varTypes C.prog) (ds ++ gs)).all (· ≤ reachBytes) = true)
    (walk : ReadsAll C.prog W fn.params.toList args.toList (Rows.uptoBulkAll (ds ++ gs)) → Calls C.prog f args W fun e W' => e = .returned (.bool true) ∧ Below W.heap.size W W') :
    Calls C.prog f args W fun e W' => ∃ v, e = .returned v ∧ s.post enc C.prog fn false true false false W args v W' := by
  have hW' := hW
  obtain ⟨p, q, hA, hV, rfl, _, _⟩ := hW
  rw [hvars] at hV
  obtain ⟨rfl, rfl⟩ := trodVars_none hV
  have hvt : s.plain.varTypes C.prog = [] := by
    have : s.plain.vars = [] := hvars
    simp [DataSpec.varTypes, this]
  rw [hvt, List.append_nil, List.append_nil, List.all_eq_true] at hsz
  rw [List.append_nil] at walk
  have hlt : ∀ x ∈ p, x.block < W.heap.size := fun x hx => hW'.lt x (by simpa using hx)
  have hdl : ds.length = fn.params.size := by
    have : ∀ {ts : List TypeId} {vs : List Value} {ds : List (DataW H)} {ps : List MemPlace}, DataW.TrodAll enc C.prog W 0 (fun _ => true) true ts vs ds ps → ds.length = ts.length := by
      intro ts
      induction ts with
      | nil => intro vs ds ps h; obtain ⟨_, rfl, _⟩ := trodAll_nil h; rfl
      | cons t ts ih => intro vs ds ps h; obtain ⟨v, vs', d, ds', p, q, rfl, rfl, rfl, h0, r0⟩ := trodAll_cons h; simp [ih r0]
    simpa using this hA
  refine (walk (readsAll_of (fun j t v h1 h2 => ⟨base, hval j t v (by simpa using h1) (by simpa using h2)⟩) hA (fun x hx => by simpa using hsz x hx))).mono fun e W' ⟨he, hb⟩ => ?_
  subst he
  have hs := hspec ds hdl
  refine ⟨_, rfl, ds, [], p ++ [], [], p, [], hW', ?_, ?_, ?_, hb.frame _, fun h => by cases h⟩
  · rw [List.append_nil, hs, hres]; exact trodAll_cons_mk (shut_bool htb _) trodAll_mk0
  · rw [List.append_nil, hs]; exact trodAll_below hlaid hb hread hlt hA
  · rw [List.append_nil, hs, hvars]; rfl

section
variable {C : Checked} {os : Os} {f : FuncId} {fn : Func} {s : ChangeSpec} {H : Type} {enc : TypeId × Value → H}
/-- THE FRAME OF A LAW THAT NAMES NO VARIABLE: from its walk over arguments that can be read. -/
theorem law_lifted (own : ownKnob C.prog.godebug = none) (started : os.Started) (noInit : C.prog.inits.idxOf? f = none) (hfn : C.prog.funcs[f]? = some fn)
    (witness : ∃ (w : World) (tape : Tape) (i : Input), w.os = os ∧ (w.forCall tape i).Shaped C.prog ∧ i.vars = [] ∧ Input.okWide C.prog (w.forCall tape i) .any w.heap.size f i ∧
      s.pre6 enc C.prog fn [] false (w.forCall tape i).memory i.args ∧ ({} : Assume).holds C.prog (lone (Frame.enter C.prog f i.args .normal) [] (w.forCall tape i)))
    (hvars : s.vars = []) (hspec : ∀ ds : List (DataW H), ds.length = fn.params.size → s.fn H ds = { results := [.lit (.bool true)], args := ds })
    {tb : TypeId} (hres : fn.resultTypes = #[tb]) (htb : C.prog.underlying tb = some .bool) (hlaid : laidOutB C.prog = true) (hread : (fn.params.toList.all fun t => C.prog.readableRec t && decide (t < C.prog.types.size)) = true)
    (walk : ∀ W args n, ReadsAll C.prog W fn.params.toList args.toList n → Calls C.prog f args W fun e W' => e = .returned (.bool true) ∧ Below W.heap.size W W') :
    ReturnsInHanded {} C os f .any (s.pre6 enc C.prog fn [] false) (s.post enc C.prog fn false true false false) := by
  refine returnsInHanded_of_change_sized own started noInit hfn witness ?_
  intro W base args ds gs before hval hW _ hsz _
  exact law_contract hvars hspec hres htb hlaid hread W base args ds gs before hval hW hsz (walk W args _)

/-- THE SAME WHERE WHAT IT READS IS OF BULK AT MOST 1048576. -/
theorem upto_lifted (own : ownKnob C.prog.godebug = none) (started : os.Started) (noInit : C.prog.inits.idxOf? f = none) (hfn : C.prog.funcs[f]? = some fn) {F : Stop.Interp}
    (witness : ∃ (w : World) (tape : Tape) (i : Input), w.os = os ∧ (w.forCall tape i).Shaped C.prog ∧ i.vars = [] ∧ Input.okWide C.prog (w.forCall tape i) .any w.heap.size f i ∧
      (Rows.OpenSpec.upto s).pre6 enc C.prog fn [] false (w.forCall tape i).memory i.args ∧ ({} : Assume).holds C.prog (lone (Frame.enter C.prog f i.args .normal) [] (w.forCall tape i)))
    (hvars : s.vars = []) (hspec : ∀ ds : List (DataW H), ds.length = fn.params.size → s.fn H ds = { results := [.lit (.bool true)], args := ds })
    {tb : TypeId} (hres : fn.resultTypes = #[tb]) (htb : C.prog.underlying tb = some .bool) (hlaid : laidOutB C.prog = true) (hread : (fn.params.toList.all fun t => C.prog.readableRec t && decide (t < C.prog.types.size)) = true)
    (walk : ∀ W args n, n ≤ 1048576 → ReadsAll C.prog W fn.params.toList args.toList n → Calls C.prog f args W fun e W' => e = .returned (.bool true) ∧ Below W.heap.size W W') :
    ReturnsInHanded {} C os f .any ((Rows.OpenSpec.upto s).pre6 enc C.prog fn [] false) (((Rows.OpenSpec.upto s).at F).post enc C.prog fn false true false false) := by
  refine returnsInHanded_of_cond_sized (C := C) (s := Rows.OpenSpec.upto s) (k := Rows.uptoSmall) rfl own started noInit hfn witness ?_
  intro W base args ds gs before hval hW _ hk hsz _
  exact law_contract hvars hspec hres htb hlaid hread W base args ds gs before hval hW hsz (walk W args _ (of_decide_eq_true hk))
end
end Go.Proofs.YtpofijdkckaphaaGreatDoor
