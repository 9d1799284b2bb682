/- 'append' as a step of a region that draws its order, onto a slice of the call's own of any make. -/
import Derived.Test.YtgjjpijcakafhaaBase
import Derived.BigRegion
import Derived.Deep.RegionLaw
import Derived.Test.YtgjjpijcakafhaaGCustodyG
namespace Go.Proofs.Ytgjjpijcakafhaa
open Go.RowKit
theorem step_appn {P : Program} {w w0 : World} {B : Nat} {ops : Array Oper} {o : Oper} {a : Act} {K : Act → World → Prop} {Q : Exit → Act → World → Prop} {E : Prop} (hgd : o.guard = none) (s x : Operand) (t : TypeId)
    (ho : o.op = .call { callee := .builtin .append, args := #[s, x], argTypes := #[t, t] }) {e : TypeId} {z : Value} {size bytes : Nat} (hE : ElemOf P t e z size bytes)
    {base : Nat} {sa : Option Addr} {n cap : Nat} {xs : List Value} (hs : a.eval s = .slice sa n cap) (hown : Ow w base size sa n cap xs) (hb : Below B w0 w) (hB : B ≤ base) (hbase : base ≤ w.heap.size)
    {m c : Nat} {cs : List Value} {e' : TypeId} (hx : a.eval x = .slice (some ⟨w.heap.size, 0, none⟩) m c) (hcs : cs.length = m * size) (h1 : ∀ u ∈ cs, u.oneCell' = true) (hbytes : (n + m) * bytes ≤ 140737488355328)
    (hK : ∀ a' cap' w1, Ow w1 base size a' (n + m) cap' (xs ++ cs) → Below B w0 w1 → w.grownBy w1 (rowOf sa) → K (a.put o.dst (.slice a' (n + m) cap')) w1) :
    if Region.wanted o (yielded ops a.tmps) = true then Oper.wp P o a (w.alloc (.cells cs.toArray e')) K Q else E := by
  have hw : Region.wanted o (yielded ops a.tmps) = true := by simp [Region.wanted, hgd]
  rw [if_pos hw]
  have hg := World.grownBy_alloc w (.cells cs.toArray e') none
  obtain ⟨a', cap', w', hr, h2, h3⟩ := run_app (P := P) (w.alloc (.cells cs.toArray e')) base t t o.type e hE sa n cap xs (hown.kept hg (by cases rowOf sa <;> simp))
    (.slice (some ⟨w.heap.size, 0, none⟩) m c) m cs (Src.slice hE.u hcs (Rd.mk fun j u hj => by rw [Nat.zero_add, World.cell?_alloc_at _ _ _ _ rfl]; simpa using hj) h1) hbytes (by simp; omega)
  unfold Oper.wp execOp
  simp only [ho, resolve, invoke, builtin, Sem.run_bind, Sem.run_pure, Result.andThen_ok, List.map_toArray, List.map_cons, List.map_nil, hs, hx, hr]
  have hrow := hown.row
  exact hK a' cap' w' h2 ((hb.alloc (by omega) _).grown h3 (by simp; omega) (fun k hk => by have := (hrow k hk).1; omega)) ⟨h3.os, h3.tape, h3.output, by have := h3.size; simp at this; omega, fun k hk hne => (h3.block k (by simp; omega) hne).trans (Below.heap_alloc w _ k hk)⟩
/-- The same, of whatever is read. -/
theorem step_apps {P : Program} {w w0 : World} {B : Nat} {ops : Array Oper} {o : Oper} {a : Act} {K : Act → World → Prop} {Q : Exit → Act → World → Prop} {E : Prop} (hgd : o.guard = none) (s x : Operand) (t u : TypeId)
    (ho : o.op = .call { callee := .builtin .append, args := #[s, x], argTypes := #[t, u] }) {e : TypeId} {z : Value} {size bytes : Nat} (hE : ElemOf P t e z size bytes)
    {base : Nat} {sa : Option Addr} {n cap : Nat} {xs : List Value} (hs : a.eval s = .slice sa n cap) (hown : Ow w base size sa n cap xs) (hb : Below B w0 w) (hB : B ≤ base) (hbase : base ≤ w.heap.size)
    {src : Value} {m : Nat} {news : List Value} (hx : a.eval x = src) (hS : Src P w u src size m news) (hbytes : (n + m) * bytes ≤ 140737488355328)
    (hK : ∀ a' cap' w1, Ow w1 base size a' (n + m) cap' (xs ++ news) → Below B w0 w1 → w.grownBy w1 (rowOf sa) → K (a.put o.dst (.slice a' (n + m) cap')) w1) :
    if Region.wanted o (yielded ops a.tmps) = true then Oper.wp P o a w K Q else E := by
  have hw : Region.wanted o (yielded ops a.tmps) = true := by simp [Region.wanted, hgd]
  rw [if_pos hw]
  obtain ⟨a', cap', w', hr, h2, h3⟩ := run_app (P := P) w base t u o.type e hE sa n cap xs hown src m news hS hbytes hbase
  unfold Oper.wp execOp
  simp only [ho, resolve, invoke, builtin, Sem.run_bind, Sem.run_pure, Result.andThen_ok, List.map_toArray, List.map_cons, List.map_nil, hs, hx, hr]
  exact hK a' cap' w' h2 (hb.grown h3 (by omega) (fun k hk => by have := (hown.row k hk).1; omega)) h3
end Go.Proofs.Ytgjjpijcakafhaa
/- Chains of records: digests, and the way of a digest: the program's. -/
namespace Go.Proofs.Ytgjjpijcakafhaa
open Go.RowKit
theorem el_strs : ElemOf Try.prog 58 9 (.string ⟨#[]⟩) 1 16 := ⟨Try.underlying58, by kernel_rfl, rfl, by decide, by decide⟩
/-- records whose digests can be made -/
def Short (l : List Rec) : Prop := ∀ r ∈ l, r.In ∧ r.body.length + r.before.length ≤ 70368744000000
theorem Right.short {l : List Rec} (h : Right l l.length) (hI : ∀ r ∈ l, r.In) : Short l := fun r hr => by
  obtain ⟨i, hi, hx⟩ := List.mem_iff_getElem.1 hr
  have := follows_short (h i r hi (by rw [List.getElem?_eq_getElem hi, hx]))
  exact ⟨hI r hr, by omega⟩
set_option maxRecDepth 100000 in
set_option maxHeartbeats 1000000 in
theorem digests_walk (a : Option Addr) (l : List Rec) (cap : Nat) (w : World) (hR : Rd w a (recs l)) (hn : l.length ≤ 100000) (hS : Short l) :
    Calls Try.prog 38 #[.slice a l.length cap] w fun e w' => ∃ a' cap', e = .returned (.slice a' l.length cap') ∧ Ow w' w.heap.size 1 a' l.length cap' (strs (l.map digF)) ∧ Below w.heap.size w w' := by
  go_enter Try.func38, Try.ntmps38
  go_wp2_with fail
  go_loopw [3, 8] (fun v i wr => ∃ (k : Nat) (sa : Option Addr) (sc : Nat), k ≤ l.length ∧ i = .int .i64 (k : Int) ∧ v = .slice sa k sc ∧ Ow wr w.heap.size 1 sa k sc (strs ((l.take k).map digF)) ∧ Below w.heap.size w wr) (fun _ i _ => l.length - (intOf i).toNat)
  case atStart => exact ⟨0, none, 0, Nat.zero_le _, rfl, rfl, Ow.nil _ _ _, Below.refl _ _⟩
  case round =>
    obtain ⟨k, sa, sc, hk, rfl, rfl, hO, hB⟩ := hrel
    by_cases hkt : k < l.length
    · obtain ⟨g, off, r, rfl, hr, c0, c1, c2, c3, c4⟩ := (hR.keep hB).rec (k := k) hkt
      have hkl : (k : Int) < (l.length : Int) := by omega
      obtain ⟨hri, hrb⟩ := hS r (mem_at hr)
      have k1 : ∀ V, Calls Try.prog 16 #[.agg #[.int .i64 r.num, .int .i64 r.time, .int .i64 r.kind, .string ⟨r.body.toArray⟩, .string ⟨r.before.toArray⟩]] V fun e' w' => e' = .returned (.string ⟨(digF r).toArray⟩) ∧ Below V.heap.size V w' := fun V => dig_walk r V hri hrb
      have K1 := Lib.hid k1
      have HR := Lib.hid hR
      have HS := Lib.hid hS
      have hsn : strs ((l.take k).map digF) ++ [.string ⟨(digF r).toArray⟩] = strs ((l.take (k + 1)).map digF) := by rw [take_at hr, List.map_append, strs_snoc]; rfl
      have HN := Lib.hid hsn
      have hwl := hB.size
      clear k1 hR hS hsn hri hrb
      generalize digF r = dg at *
      go_wp2_with (go_at_call 16; (with_reducible refine (K1.out _).mono ?_))
      rintro e w2 ⟨rfl, hb2⟩
      have hb3 := ((Below.refl wr.heap.size wr).alloc (Nat.le_refl _) (.cells #[.int .i64 r.num, .int .i64 r.time, .int .i64 r.kind, .string ⟨r.body.toArray⟩, .string ⟨r.before.toArray⟩] 24)).trans (hb2.mono (by simp))
      replace hO := hO.keep hb3
      replace hB := hB.trans (hb3.mono hwl)
      have hsz := hB.size
      clear hb2 hb3 c0 c1 c2 c3 c4
      have hby : (k + 1) * 16 ≤ 140737488355328 := by omega
      go_wp2_with (at_builtin; refine wpList_app1 (w0 := w) (B := w.heap.size) rfl _ _ _ rfl el_strs rfl hO hB (Nat.le_refl _) hsz (cs := [_]) rfl rfl (one1 rfl) hby ?_)
      intro a3 c3 w3 hO3 hB3 _
      go_wp2
      go_roundw
      case rel => exact ⟨k + 1, a3, c3, by omega, by go_num, rfl, by rw [← HN.out, List.map_take]; exact hO3, hB3⟩
      case measure => simp [intOf]; omega
    · obtain rfl : k = l.length := by omega
      rw [List.take_length] at hO
      go_wp2
      go_ret
      exact ⟨sa, sc, rfl, hO, hB⟩
/-- the way of a digest, from it up -/
def wayF (l : List (List UInt8)) (i : Nat) : List (List UInt8) :=
  if _h : l.length ≤ 1 then [] else
    if i < part l.length then wayF (l.take (part l.length)) i ++ [rootF (l.drop (part l.length))]
    else wayF (l.drop (part l.length)) (i - part l.length) ++ [rootF (l.take (part l.length))]
termination_by l.length
decreasing_by
  · have := part_bd (show 2 ≤ l.length by omega); rw [List.length_take]; omega
  · have := part_bd (show 2 ≤ l.length by omega); rw [List.length_drop]; omega
theorem wayF_one {l : List (List UInt8)} {i : Nat} (h : l.length ≤ 1) : wayF l i = [] := by rw [wayF, dif_pos h]
theorem wayF_left {l : List (List UInt8)} {i : Nat} (h : ¬ l.length ≤ 1) (hi : i < part l.length) : wayF l i = wayF (l.take (part l.length)) i ++ [rootF (l.drop (part l.length))] := by rw [wayF, dif_neg h, if_pos hi]
theorem wayF_right {l : List (List UInt8)} {i : Nat} (h : ¬ l.length ≤ 1) (hi : ¬ i < part l.length) : wayF l i = wayF (l.drop (part l.length)) (i - part l.length) ++ [rootF (l.take (part l.length))] := by rw [wayF, dif_neg h, if_neg hi]
theorem wayF_len (N : Nat) : ∀ (l : List (List UInt8)) (i : Nat), l.length ≤ N → (wayF l i).length ≤ l.length := by
  induction N with
  | zero => intro l i h; rw [wayF_one (by omega)]; simp
  | succ N ih =>
    intro l i h
    by_cases h1 : l.length ≤ 1
    · rw [wayF_one h1]; simp
    · have hb := part_bd (show 2 ≤ l.length by omega)
      by_cases hi : i < part l.length
      · rw [wayF_left h1 hi, List.length_append]
        have := ih (l.take (part l.length)) i (by rw [List.length_take]; omega)
        rw [List.length_take] at this; simp; omega
      · rw [wayF_right h1 hi, List.length_append]
        have := ih (l.drop (part l.length)) (i - part l.length) (by rw [List.length_drop]; omega)
        rw [List.length_drop] at this; simp; omega
end Go.Proofs.Ytgjjpijcakafhaa
