/- 'append' as a step of a region that draws its order, onto a slice of the call's own of any make. -/
import Derived.Test.YtipoljcgfcjlnaaGreatDoorBase
import Derived.BigRegion
import Derived.Deep.RegionLaw
import Derived.Test.YtipoljcgfcjlnaaGreatDoorGCustodyG
namespace Go.Proofs.YtipoljcgfcjlnaaGreatDoor
open Go.RowKit
theorem step_appn {P : Program} {w w0 : World} {B : Nat} {ops : Array Oper} {o : Oper} {a : Act} {K : Act → World → Prop} {Q : Exit → Act → World → Prop} {E : Prop} (hgd : o.guard = none) (s x : Operand) (t : TypeId)
    (ho : o.op = .call { callee := .builtin .append, args := #[s, x], argTypes := #[t, t] }) {e : TypeId} {z : Value} {size bytes : Nat} (hE : ElemOf P t e z size bytes)
    {base : Nat} {sa : Option Addr} {n cap : Nat} {xs : List Value} (hs : a.eval s = .slice sa n cap) (hown : Ow w base size sa n cap xs) (hb : Below B w0 w) (hB : B ≤ base) (hbase : base ≤ w.heap.size)
    {m c : Nat} {cs : List Value} {e' : TypeId} (hx : a.eval x = .slice (some ⟨w.heap.size, 0, none⟩) m c) (hcs : cs.length = m * size) (h1 : ∀ u ∈ cs, u.oneCell' = true) (hbytes : (n + m) * bytes ≤ 140737488355328)
    (hK : ∀ a' cap' w1, Ow w1 base size a' (n + m) cap' (xs ++ cs) → Below B w0 w1 → w.grownBy w1 (rowOf sa) → K (a.put o.dst (.slice a' (n + m) cap')) w1) :
    if Region.wanted o (yielded ops a.tmps) = true then Oper.wp P o a (w.alloc (.cells cs.toArray e')) K Q else E := by
  have hw : Region.wanted o (yielded ops a.tmps) = true := by simp [Region.wanted, hgd]
  rw [if_pos hw]
  have hg := World.grownBy_alloc w (.cells cs.toArray e') none
  obtain ⟨a', cap', w', hr, h2, h3⟩ := run_app (P := P) (w.alloc (.cells cs.toArray e')) base t t o.type e hE sa n cap xs (hown.kept hg (by cases rowOf sa <;> simp))
    (.slice (some ⟨w.heap.size, 0, none⟩) m c) m cs (Src.slice hE.u hcs (Rd.mk fun j u hj => by rw [Nat.zero_add, World.cell?_alloc_at _ _ _ _ rfl]; simpa using hj) h1) hbytes (by simp; omega)
  unfold Oper.wp execOp
  simp only [ho, resolve, invoke, builtin, Sem.run_bind, Sem.run_pure, Result.andThen_ok, List.map_toArray, List.map_cons, List.map_nil, hs, hx, hr]
  have hrow := hown.row
  exact hK a' cap' w' h2 ((hb.alloc (by omega) _).grown h3 (by simp; omega) (fun k hk => by have := (hrow k hk).1; omega)) ⟨h3.os, h3.tape, h3.output, by have := h3.size; simp at this; omega, fun k hk hne => (h3.block k (by simp; omega) hne).trans (Below.heap_alloc w _ k hk)⟩
/-- The same, of whatever is read. -/
theorem step_apps {P : Program} {w w0 : World} {B : Nat} {ops : Array Oper} {o : Oper} {a : Act} {K : Act → World → Prop} {Q : Exit → Act → World → Prop} {E : Prop} (hgd : o.guard = none) (s x : Operand) (t u : TypeId)
    (ho : o.op = .call { callee := .builtin .append, args := #[s, x], argTypes := #[t, u] }) {e : TypeId} {z : Value} {size bytes : Nat} (hE : ElemOf P t e z size bytes)
    {base : Nat} {sa : Option Addr} {n cap : Nat} {xs : List Value} (hs : a.eval s = .slice sa n cap) (hown : Ow w base size sa n cap xs) (hb : Below B w0 w) (hB : B ≤ base) (hbase : base ≤ w.heap.size)
    {src : Value} {m : Nat} {news : List Value} (hx : a.eval x = src) (hS : Src P w u src size m news) (hbytes : (n + m) * bytes ≤ 140737488355328)
    (hK : ∀ a' cap' w1, Ow w1 base size a' (n + m) cap' (xs ++ news) → Below B w0 w1 → w.grownBy w1 (rowOf sa) → K (a.put o.dst (.slice a' (n + m) cap')) w1) :
    if Region.wanted o (yielded ops a.tmps) = true then Oper.wp P o a w K Q else E := by
  have hw : Region.wanted o (yielded ops a.tmps) = true := by simp [Region.wanted, hgd]
  rw [if_pos hw]
  obtain ⟨a', cap', w', hr, h2, h3⟩ := run_app (P := P) w base t u o.type e hE sa n cap xs hown src m news hS hbytes hbase
  unfold Oper.wp execOp
  simp only [ho, resolve, invoke, builtin, Sem.run_bind, Sem.run_pure, Result.andThen_ok, List.map_toArray, List.map_cons, List.map_nil, hs, hx, hr]
  exact hK a' cap' w' h2 (hb.grown h3 (by omega) (fun k hk => by have := (hown.row k hk).1; omega)) h3
end Go.Proofs.YtipoljcgfcjlnaaGreatDoor
/- Chains of records: digests, and the way of a digest: the program's. -/
namespace Go.Proofs.YtipoljcgfcjlnaaGreatDoor
open Go.RowKit
theorem el_strs : ElemOf Tryz.prog 74 9 (.string ⟨#[]⟩) 1 16 := ⟨Tryz.underlying74, by kernel_rfl, rfl, by decide, by decide⟩
/-- records whose digests can be made -/
def Short (l : List Rec) : Prop := ∀ r ∈ l, r.In ∧ r.body.length + r.before.length ≤ 70368744000000
theorem Right.short {l : List Rec} (h : Right l l.length) (hI : ∀ r ∈ l, r.In) : Short l := fun r hr => by
  obtain ⟨i, hi, hx⟩ := List.mem_iff_getElem.1 hr
  have := follows_short (h i r hi (by rw [List.getElem?_eq_getElem hi, hx]))
  exact ⟨hI r hr, by omega⟩
set_option maxRecDepth 100000 in
set_option maxHeartbeats 1000000 in
theorem digests_walk (a : Option Addr) (l : List Rec) (cap : Nat) (w : World) (hR : Rd w a (recs l)) (hn : l.length ≤ 100000) (hS : Short l) :
    Calls Tryz.prog 67 #[.slice a l.length cap] w fun e w' => ∃ a' cap', e = .returned (.slice a' l.length cap') ∧ Ow w' w.heap.size 1 a' l.length cap' (strs (l.map digF)) ∧ Below w.heap.size w w' := by
  go_enter Tryz.func67, Tryz.ntmps67
  go_wp2_with fail
  go_loopw [3, 8] (fun v i wr => ∃ (k : Nat) (sa : Option Addr) (sc : Nat), k ≤ l.length ∧ i = .int .i64 (k : Int) ∧ v = .slice sa k sc ∧ Ow wr w.heap.size 1 sa k sc (strs ((l.take k).map digF)) ∧ Below w.heap.size w wr) (fun _ i _ => l.length - (intOf i).toNat)
  case atStart => exact ⟨0, none, 0, Nat.zero_le _, rfl, rfl, Ow.nil _ _ _, Below.refl _ _⟩
  case round =>
    obtain ⟨k, sa, sc, hk, rfl, rfl, hO, hB⟩ := hrel
    by_cases hkt : k < l.length
    · obtain ⟨g, off, r, rfl, hr, c0, c1, c2, c3, c4⟩ := (hR.keep hB).rec (k := k) hkt
      have hkl : (k : Int) < (l.length : Int) := by omega
      obtain ⟨hri, hrb⟩ := hS r (mem_at hr)
      have k1 : ∀ V, Calls Tryz.prog 85 #[.agg #[.int .i64 r.num, .int .i64 r.time, .int .i64 r.kind, .string ⟨r.body.toArray⟩, .string ⟨r.before.toArray⟩]] V fun e' w' => e' = .returned (.string ⟨(digF r).toArray⟩) ∧ Below V.heap.size V w' := fun V => dig_walk r V hri hrb
      have K1 := Lib.hid k1
      have HR := Lib.hid hR
      have HS := Lib.hid hS
      have hsn : strs ((l.take k).map digF) ++ [.string ⟨(digF r).toArray⟩] = strs ((l.take (k + 1)).map digF) := by rw [take_at hr, List.map_append, strs_snoc]; rfl
      have HN := Lib.hid hsn
      have hwl := hB.size
      clear k1 hR hS hsn hri hrb
      generalize digF r = dg at *
      go_wp2_with (go_at_call 85; (with_reducible refine (K1.out _).mono ?_))
      rintro e w2 ⟨rfl, hb2⟩
      have hb3 := ((Below.refl wr.heap.size wr).alloc (Nat.le_refl _) (.cells #[.int .i64 r.num, .int .i64 r.time, .int .i64 r.kind, .string ⟨r.body.toArray⟩, .string ⟨r.before.toArray⟩] 76)).trans (hb2.mono (by simp))
      replace hO := hO.keep hb3
      replace hB := hB.trans (hb3.mono hwl)
      have hsz := hB.size
      clear hb2 hb3 c0 c1 c2 c3 c4
      have hby : (k + 1) * 16 ≤ 140737488355328 := by omega
      go_wp2_with (at_builtin; refine wpList_app1 (w0 := w) (B := w.heap.size) rfl _ _ _ rfl el_strs rfl hO hB (Nat.le_refl _) hsz (cs := [_]) rfl rfl (one1 rfl) hby ?_)
      intro a3 c3 w3 hO3 hB3 _
      go_wp2
      go_roundw
      case rel => exact ⟨k + 1, a3, c3, by omega, by go_num, rfl, by rw [← HN.out, List.map_take]; exact hO3, hB3⟩
      case measure => simp [intOf]; omega
    · obtain rfl : k = l.length := by omega
      rw [List.take_length] at hO
      go_wp2
      go_ret
      exact ⟨sa, sc, rfl, hO, hB⟩
/-- the way of a digest, from it up -/
def wayF (l : List (List UInt8)) (i : Nat) : List (List UInt8) :=
  if _h : l.length ≤ 1 then [] else
    if i < part l.length then wayF (l.take (part l.length)) i ++ [rootF (l.drop (part l.length))]
    else wayF (l.drop (part l.length)) (i - part l.length) ++ [rootF (l.take (part l.length))]
termination_by l.length
decreasing_by
  · have := part_bd (show 2 ≤ l.length by omega); rw [List.length_take]; omega
  · have := part_bd (show 2 ≤ l.length by omega); rw [List.length_drop]; omega
theorem wayF_one {l : List (List UInt8)} {i : Nat} (h : l.length ≤ 1) : wayF l i = [] := by rw [wayF, dif_pos h]
theorem wayF_left {l : List (List UInt8)} {i : Nat} (h : ¬ l.length ≤ 1) (hi : i < part l.length) : wayF l i = wayF (l.take (part l.length)) i ++ [rootF (l.drop (part l.length))] := by rw [wayF, dif_neg h, if_pos hi]
theorem wayF_right {l : List (List UInt8)} {i : Nat} (h : ¬ l.length ≤ 1) (hi : ¬ i < part l.length) : wayF l i = wayF (l.drop (part l.length)) (i - part l.length) ++ [rootF (l.take (part l.length))] := by rw [wayF, dif_neg h, if_neg hi]
theorem wayF_len (N : Nat) : ∀ (l : List (List UInt8)) (i : Nat), l.length ≤ N → (wayF l i).length ≤ l.length := by
  induction N with
  | zero => intro l i h; rw [wayF_one (by omega)]; simp
  | succ N ih =>
    intro l i h
    by_cases h1 : l.length ≤ 1
    · rw [wayF_one h1]; simp
    · have hb := part_bd (show 2 ≤ l.length by omega)
      by_cases hi : i < part l.length
      · rw [wayF_left h1 hi, List.length_append]
        have := ih (l.take (part l.length)) i (by rw [List.length_take]; omega)
        rw [List.length_take] at this; simp; omega
      · rw [wayF_right h1 hi, List.length_append]
        have := ih (l.drop (part l.length)) (i - part l.length) (by rw [List.length_drop]; omega)
        rw [List.length_drop] at this; simp; omega
end Go.Proofs.YtipoljcgfcjlnaaGreatDoor
/- Chains of records: the root over digests: the reference's. -/
namespace Go.Proofs.YtipoljcgfcjlnaaGreatDoor
open Go.RowKit
set_option maxRecDepth 100000 in
theorem rpart_walk (n : Nat) (w : World) (hn : 1 ≤ n) (hn2 : n ≤ 281474976710656) :
    Calls Tryz.prog 71 #[.int .i64 (n : Int)] w fun e w' => e = .returned (.int .i64 (part n : Int)) ∧ w = w' := by
  go_enter Tryz.func71, Tryz.ntmps71
  go_wp2_with fail
  go_loop [3] (fun i => ∃ k : Nat, 0 < k ∧ k ≤ n ∧ i = .int .i64 (k : Int) ∧ partL n k = part n) (fun i => n - (intOf i).toNat)
  case atStart => exact ⟨1, by omega, by omega, rfl, rfl⟩
  case round =>
    obtain ⟨k, hk0, hk, rfl, hp⟩ := hrel
    have hq : ((n : Int) - 1).tdiv 2 = (((n - 1) / 2 : Nat) : Int) := by
      rw [show (n : Int) - 1 = ((n - 1 : Nat) : Int) by omega]; rfl
    by_cases h : k ≤ (n - 1) / 2
    · have hd : decide ((k : Int) ≤ (((n - 1) / 2 : Nat) : Int)) = true := decide_eq_true (by omega)
      have hp2 := partL_more hk0 h
      have hm : ((2 * k : Nat) : Int) = (k : Int) * 2 := by omega
      go_wp2_with fail
      refine ⟨⟨2 * k, by omega, by omega, by rw [hm], by rw [← hp2]; exact hp⟩, ?_⟩
      simp [intOf]; omega
    · have hd : decide ((k : Int) ≤ (((n - 1) / 2 : Nat) : Int)) = false := decide_eq_false (by omega)
      have hp2 : (k : Int) = ((part n : Nat) : Int) := by rw [← hp, partL_end h]
      have HP := Lib.hid hp2
      clear hp hp2
      go_wp2
      go_ret
      exact ⟨ret_int HP.out, rfl⟩
set_option maxRecDepth 100000 in
set_option maxHeartbeats 2000000 in
theorem rroot_walk (N : Nat) : ∀ (a : Option Addr) (l : List (List UInt8)) (n cap : Nat) (w : World), l.length ≤ N → n = l.length → Rd w a (strs l) → n ≤ cap → n ≤ 281474976710656 → (∀ x ∈ l, x.length ≤ 32) →
    Calls Tryz.prog 48 #[.slice a n cap] w fun e w' => e = .returned (.string ⟨(rootF l).toArray⟩) ∧ Below w.heap.size w w' := by
  induction N with
  | zero =>
    intro a l n cap w hN hn hR _ _ _
    obtain rfl : n = 0 := by omega
    have hr := rootF_one (l := l) (by omega)
    rw [show l = [] from List.eq_nil_of_length_eq_zero (by omega)] at hr ⊢
    have HR := Lib.hid hr
    clear hr
    go_enter Tryz.func48, Tryz.ntmps48
    go_wp2
    go_ret
    exact ⟨ret_str (by rw [HR.out]; rfl), Below.refl _ _⟩
  | succ N ih =>
    intro a l n cap w hN hn hR hc hn2 h32
    by_cases h0 : n = 0
    · subst h0
      have hr := rootF_one (l := l) (by omega)
      rw [show l = [] from List.eq_nil_of_length_eq_zero (by omega)] at hr ⊢
      have HR := Lib.hid hr
      clear hr hn ih hN h32 hR
      go_enter Tryz.func48, Tryz.ntmps48
      go_wp2
      go_ret
      exact ⟨ret_str (by rw [HR.out]; rfl), Below.refl _ _⟩
    by_cases h1 : n = 1
    · subst h1
      obtain ⟨g, off, x, rfl, hcell, hx⟩ := hR.str (k := 0) (by omega)
      have hr := rootF_one (l := l) (by omega)
      have HR := Lib.hid (show rootF l = x by rw [hr, List.getD, hx.out]; rfl)
      rw [Nat.add_zero] at hcell
      clear hr hn ih hN h32 hR
      go_enter Tryz.func48, Tryz.ntmps48
      go_wp2
      go_ret
      exact ⟨ret_str HR.out.symm, Below.refl _ _⟩
    · have hb := part_bd (n := n) (by omega)
      obtain ⟨g, off, x, rfl, _, _⟩ := hR.str (k := 0) (by omega)
      obtain ⟨p, hp⟩ : ∃ p, p = part n := ⟨_, rfl⟩
      rw [← hp] at hb
      have hpn : (p : Int) ≤ (n : Int) := by omega
      have hpc : (p : Int) ≤ (cap : Int) := by omega
      have hnc : (n : Int) ≤ (cap : Int) := by omega
      have hR1 := hR.strTake p
      have hR2 := hR.strDrop p
      have hl1 : (l.take p).length = p := by rw [List.length_take]; omega
      have hl2 : (l.drop p).length = n - p := by rw [List.length_drop]; omega
      have k1 : ∀ V, Rd V (some ⟨g, off, none⟩) (strs (l.take p)) → Calls Tryz.prog 48 #[.slice (some ⟨g, off, none⟩) p cap] V fun e w' => e = .returned (.string ⟨(rootF (l.take p)).toArray⟩) ∧ Below V.heap.size V w' := fun V h =>
        ih _ (l.take p) p cap V (by omega) hl1.symm h (by omega) (by omega) (mem_take32 h32 p)
      have k2 : ∀ V, Rd V (some ⟨g, off + p, none⟩) (strs (l.drop p)) → Calls Tryz.prog 48 #[.slice (some ⟨g, off + p, none⟩) (n - p) (cap - p)] V fun e w' => e = .returned (.string ⟨(rootF (l.drop p)).toArray⟩) ∧ Below V.heap.size V w' := fun V h =>
        ih _ (l.drop p) (n - p) (cap - p) V (by omega) hl2.symm h (by omega) (by omega) (mem_drop32 h32 p)
      have hr1 := rootF_len (mem_take32 h32 p)
      have hr2 := rootF_len (mem_drop32 h32 p)
      have hr := rootF_more (l := l) (by omega)
      rw [← hn, ← hp] at hr
      have k3 : ∀ V, Calls Tryz.prog 72 #[.string ⟨(rootF (l.take p)).toArray⟩, .string ⟨(rootF (l.drop p)).toArray⟩] V fun e w' => e = .returned (.string ⟨(rootF l).toArray⟩) ∧ Below V.heap.size V w' := fun V => by
        rw [hr]; exact rpair_walk _ _ V (by omega)
      have k0 : ∀ V, Calls Tryz.prog 71 #[.int .i64 (n : Int)] V fun e w' => e = .returned (.int .i64 (p : Int)) ∧ V = w' := fun V => by
        rw [hp]; exact rpart_walk n V (by omega) hn2
      have K0 := Lib.hid k0
      have K1 := Lib.hid k1
      have K2 := Lib.hid k2
      have K3 := Lib.hid k3
      generalize rootF (l.take p) = r1 at *
      generalize rootF (l.drop p) = r2 at *
      generalize rootF l = r3 at *
      have HL := Lib.hid hl1
      clear k0 k1 k2 k3 hr hr1 hr2 ih hN h32 hl1 hl2 hp hn hR HL
      go_enter Tryz.func48, Tryz.ntmps48
      go_wp2_with (go_at_call 71; (with_reducible refine (K0.out _).mono ?_); rintro e w3 ⟨rfl, rfl⟩)
      refine wp_region_quiet_below (by kernel_rfl) (by kernel_rfl) ?_
      repeat (go_big_quiet_step (first
        | (go_at_call 48; with_reducible exact Calls.regrown_of (K1.out _ (hR1.keep (below_regrown _ _ _))))
        | (go_at_call 48; with_reducible exact Calls.regrown_of (K2.out _ (hR2.keep (below_regrown _ _ _))))
        | (go_at_call 72; with_reducible exact Calls.regrown_of (K3.out _))))
      refine wpQuiet_nil ?_
      rintro w3 ⟨p2, rfl⟩
      have hb2 := below_regrown w p2.d p2.os
      go_wp2
      go_ret
      exact ⟨rfl, hb2⟩
set_option maxRecDepth 100000 in
set_option maxHeartbeats 1000000 in
theorem rdigests_walk (a : Option Addr) (l : List Rec) (cap : Nat) (w : World) (hR : Rd w a (recs l)) (hn : l.length ≤ 100000) (hS : Short l) :
    Calls Tryz.prog 49 #[.slice a l.length cap] w fun e w' => ∃ a' cap', e = .returned (.slice a' l.length cap') ∧ Ow w' w.heap.size 1 a' l.length cap' (strs (l.map digF)) ∧ Below w.heap.size w w' := by
  go_enter Tryz.func49, Tryz.ntmps49
  go_wp2_with fail
  go_loopw [3, 8] (fun v i wr => ∃ (k : Nat) (sa : Option Addr) (sc : Nat), k ≤ l.length ∧ i = .int .i64 (k : Int) ∧ v = .slice sa k sc ∧ Ow wr w.heap.size 1 sa k sc (strs ((l.take k).map digF)) ∧ Below w.heap.size w wr) (fun _ i _ => l.length - (intOf i).toNat)
  case atStart => exact ⟨0, none, 0, Nat.zero_le _, rfl, rfl, Ow.nil _ _ _, Below.refl _ _⟩
  case round =>
    obtain ⟨k, sa, sc, hk, rfl, rfl, hO, hB⟩ := hrel
    by_cases hkt : k < l.length
    · obtain ⟨g, off, r, rfl, hr, c0, c1, c2, c3, c4⟩ := (hR.keep hB).rec (k := k) hkt
      have hkl : (k : Int) < (l.length : Int) := by omega
      obtain ⟨hri, hrb⟩ := hS r (mem_at hr)
      have k1 : ∀ V, Calls Tryz.prog 47 #[.agg #[.int .i64 r.num, .int .i64 r.time, .int .i64 r.kind, .string ⟨r.body.toArray⟩, .string ⟨r.before.toArray⟩]] V fun e' w' => e' = .returned (.string ⟨(digF r).toArray⟩) ∧ Below V.heap.size V w' := fun V => rdig_walk r V hri hrb
      have K1 := Lib.hid k1
      have HR := Lib.hid hR
      have HS := Lib.hid hS
      have hsn : strs ((l.take k).map digF) ++ [.string ⟨(digF r).toArray⟩] = strs ((l.take (k + 1)).map digF) := by rw [take_at hr, List.map_append, strs_snoc]; rfl
      have HN := Lib.hid hsn
      have hwl := hB.size
      clear k1 hR hS hsn hri hrb
      generalize digF r = dg at *
      go_wp2_with (go_at_call 47; (with_reducible refine (K1.out _).mono ?_))
      rintro e w2 ⟨rfl, hb2⟩
      have hb3 := ((Below.refl wr.heap.size wr).alloc (Nat.le_refl _) (.cells #[.int .i64 r.num, .int .i64 r.time, .int .i64 r.kind, .string ⟨r.body.toArray⟩, .string ⟨r.before.toArray⟩] 76)).trans (hb2.mono (by simp))
      replace hO := hO.keep hb3
      replace hB := hB.trans (hb3.mono hwl)
      have hsz := hB.size
      clear hb2 hb3 c0 c1 c2 c3 c4
      have hby : (k + 1) * 16 ≤ 140737488355328 := by omega
      go_wp2_with (at_builtin; refine wpList_app1 (w0 := w) (B := w.heap.size) rfl _ _ _ rfl el_strs rfl hO hB (Nat.le_refl _) hsz (cs := [_]) rfl rfl (one1 rfl) hby ?_)
      intro a3 c3 w3 hO3 hB3 _
      go_wp2
      go_roundw
      case rel => exact ⟨k + 1, a3, c3, by omega, by go_num, rfl, by rw [← HN.out, List.map_take]; exact hO3, hB3⟩
      case measure => simp [intOf]; omega
    · obtain rfl : k = l.length := by omega
      rw [List.take_length] at hO
      go_wp2
      go_ret
      exact ⟨sa, sc, rfl, hO, hB⟩
end Go.Proofs.YtipoljcgfcjlnaaGreatDoor
