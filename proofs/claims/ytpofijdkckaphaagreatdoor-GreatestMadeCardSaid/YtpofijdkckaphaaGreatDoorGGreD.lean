/- Seats: lists of numbers copied; numbers struck off a list (slices.DeleteFunc at the closures of greatest). -/
import Derived.Test.YtpofijdkckaphaaGreatDoorGGreP
import Derived.Test.YtpofijdkckaphaaGreatDoorGRowsC
import Derived.Test.YtpofijdkckaphaaGreatDoorGCndP
import Derived.Test.YtpofijdkckaphaaGreatDoorGKp
import Derived.Lib.SliceRun
namespace Go.Proofs.YtpofijdkckaphaaGreatDoor
open Go.RowKit
def icC (x : Int) : List Value := [.int .i64 x]
theorem icC_len (x : Int) : (icC x).length = 1 := rfl
theorem ints_rows (l : List Int) : rowsC icC l = ints l := by
  induction l with
  | nil => rfl
  | cons x l ih => rw [rowsC_cons, ih]; rfl
theorem el_int : ElemOf Tryz.prog 22 3 (.int .i64 0) 1 8 := ⟨Tryz.underlying22, by kernel_rfl, rfl, by decide, by decide⟩
set_option maxRecDepth 100000 in
set_option maxHeartbeats 1000000 in
theorem iclone_walk (a : Option Addr) (l : List Int) (cap : Nat) (w : World) (hR : Rd w a (ints l)) (hn : l.length ≤ 1000000) :
    Calls Tryz.prog 53 #[.slice a l.length cap] w fun e w' => ∃ a' cap', e = .returned (.slice a' l.length cap') ∧ Ow w' w.heap.size 1 a' l.length cap' (ints l) ∧ Below w.heap.size w w' := by
  cases a with
  | none =>
    have h0 : l = [] := by
      cases l with
      | nil => rfl
      | cons r l =>
        obtain ⟨g, off, ha, _⟩ := hR 0 (.int .i64 r) rfl
        cases ha
    subst h0
    have he := Lib.run_eql_slice_nil (P := Tryz.prog) w 22 3 none 0 cap 0 0 Tryz.underlying22
    rw [List.length_nil]
    go_enter Tryz.func53, Tryz.ntmps53
    go_wp2
    go_ret
    exact ⟨none, 0, rfl, Ow.nil _ _ _, Below.refl _ _⟩
  | some p =>
    have hw1 := (Below.refl w.heap.size w).alloc (Nat.le_refl _) (.cells #[] 3)
    have hO : Ow (w.alloc (.cells #[] 3)) w.heap.size 1 (some ⟨w.heap.size, 0, none⟩) 0 0 [] :=
      ⟨by simp, Nat.le_refl _, Nat.zero_le _, .inr ⟨_, _, rfl, Nat.le_refl _, by simp, fun j u hj => by simp at hj, fun j hj => by omega⟩⟩
    have hR1 := hR.keep hw1
    have hrl : (ints l).length = l.length * 1 := by rw [ints, List.length_map, Nat.mul_one]
    have hone : ∀ v ∈ ints l, v.oneCell' = true := fun v hv => by
      obtain ⟨x, -, rfl⟩ := List.mem_map.1 hv
      rfl
    have he := Lib.run_eql_slice_nil (P := Tryz.prog) w 22 3 (some p) l.length cap 0 0 Tryz.underlying22
    go_enter Tryz.func53, Tryz.ntmps53
    go_wp2_with (at_builtin; refine wpList_apps (w0 := w) (B := w.heap.size) rfl _ _ _ _ rfl el_int rfl hO hw1 (Nat.le_refl _) hw1.size rfl (Src.slice Tryz.underlying22 hrl hR1 hone) (by omega) ?_)
    intro a' cap' w2 hO2 hb2 _
    go_wp2
    go_ret
    exact ⟨a', cap', rfl, hO2, hb2⟩
/-- where the first number lies of which p says yes -/
def fstI (p : Int → Bool) (l : List Int) : Int := match l.findIdx? p with
  | some k => (k : Int)
  | none => -1
theorem fst_at {p : Int → Bool} {l : List Int} {k : Nat} {x : Int} (hx : l[k]? = some x) (hp : p x = true) (hlo : ∀ y ∈ l.take k, p y = false) : fstI p l = (k : Int) := by
  unfold fstI
  obtain ⟨h2, h2e⟩ := List.getElem?_eq_some_iff.1 hx
  have hf : l.findIdx? p = some k := by
    rw [List.findIdx?_eq_some_iff_getElem]
    refine ⟨h2, by rw [h2e]; exact hp, fun j hj => ?_⟩
    rw [hlo _ (List.mem_take_iff_getElem.2 ⟨j, by omega, rfl⟩)]
    decide
  rw [hf]
theorem fst_no {p : Int → Bool} {l : List Int} (h : ∀ y ∈ l, p y = false) : fstI p l = -1 := by
  unfold fstI
  have hf : l.findIdx? p = none := List.findIdx?_eq_none_iff.2 h
  rw [hf]
theorem fst_cases (p : Int → Bool) (l : List Int) : (fstI p l = -1 ∧ ∀ y ∈ l, p y = false) ∨ ∃ (k : Nat) (x : Int), fstI p l = (k : Int) ∧ l[k]? = some x ∧ p x = true ∧ ∀ y ∈ l.take k, p y = false := by
  unfold fstI
  cases hf : l.findIdx? p with
  | none => exact Or.inl ⟨rfl, List.findIdx?_eq_none_iff.1 hf⟩
  | some k =>
    obtain ⟨hk, h1, h2⟩ := List.findIdx?_eq_some_iff_getElem.1 hf
    refine Or.inr ⟨k, l[k], rfl, List.getElem?_eq_getElem hk, h1, fun y hy => ?_⟩
    obtain ⟨j, hj, rfl⟩ := List.mem_take_iff_getElem.1 hy
    have := h2 j (by omega)
    simpa using this
theorem kept_at {p : Int → Bool} {l : List Int} {k : Nat} {x : Int} (h : l[k]? = some x) : (l.take (k + 1)).filter (fun r => !p r) = (l.take k).filter (fun r => !p r) ++ (if p x = true then [] else [x]) := by
  rw [List.take_add_one, h, List.filter_append]
  cases hp : p x <;> simp [hp]
theorem kept_take {p : Int → Bool} {l X : List Int} {m q : Nat} {x : Int} (hm : m < q) (hq : q ≤ X.length) (h : X.take m = (l.take q).filter (fun r => !p r)) (hx : l[q]? = some x) (hp : p x = false) : (X.set m x).take (m + 1) = (l.take (q + 1)).filter (fun r => !p r) := by
  rw [kept_at hx, hp, if_neg (by decide), ← h, List.take_add_one, List.take_set_of_le (Nat.le_refl m), List.getElem?_set_self (by omega)]
  rfl
theorem run_clear_ints (w : World) (ty : TypeId) (b o n c : Nat) (hn : 0 < n) (hc : ∀ j, j < n → (w.cell? ⟨b, o + j, none⟩).isSome = true) (hf : ∀ j, j < n → w.frozen? ⟨b, o + j, none⟩ = false) :
    (Builtin.clear_ #[22] ty #[.slice (some ⟨b, o, none⟩) n c]).run Tryz.prog w = .ok (.tuple #[]) (w.setCells b o (ints (List.replicate n 0))) := by
  have hl : (ints (List.replicate n 0)).length = n := by rw [ints, List.length_map, List.length_replicate]
  have hone : ∀ v ∈ ints (List.replicate n 0), v.oneCell' = true := fun v hv => by
    obtain ⟨x, -, rfl⟩ := List.mem_map.1 hv
    rfl
  have hst := run_storeCells_cells (P := Tryz.prog) b o (ints (List.replicate n 0)) 0 w (by rw [hl]; simpa using hc) (by rw [hl]; simpa using hf) hone
  simp only [Nat.add_zero] at hst
  have hv : ∀ w, (zeroValue 3).run Tryz.prog w = .ok (.int .i64 0) w := fun w => by kernel_rfl
  have hz : (Builtin.zeroCells (Value.int .i64 0).cells n).toList = ints (List.replicate n 0) := by
    have h1 : ints (List.replicate n 0) = List.replicate n (Value.int .i64 0) := by simp [ints]
    have h2 : ∀ v ∈ (Builtin.zeroCells #[Value.int .i64 0] n).toList, v = Value.int .i64 0 := fun v hv => by
      obtain ⟨i, hi, rfl⟩ := List.getElem_of_mem hv
      have : i % 1 = 0 := Nat.mod_one i
      simp [Builtin.zeroCells, this]
    have h3 : (Builtin.zeroCells #[Value.int .i64 0] n).toList.length = n := by simp [Builtin.zeroCells]
    change (Builtin.zeroCells #[Value.int .i64 0] n).toList = _
    rw [h1, List.eq_replicate_of_mem h2, h3]
  obtain ⟨m, rfl⟩ : ∃ m, n = m + 1 := ⟨n - 1, by omega⟩
  simp [Builtin.clear_, run_underlying Tryz.underlying22, hv, hz, hst]
set_option maxRecDepth 100000 in
set_option maxHeartbeats 2000000 in
theorem gidx_walk (p : Int → Bool) (base : Nat) (a : Option Addr) (l : List Int) (cap : Nat) (g0 g1 : Nat) (w : World) (hb : base ≤ w.heap.size) (hK : ∀ x ∈ l, ∀ w2, Below base w w2 → Calls Tryz.prog 71 #[.int .i64 x, .pointer (some ⟨g0, 0, none⟩), .pointer (some ⟨g1, 0, none⟩)] w2 fun e w3 => e = .returned (.bool (p x)) ∧ Below w2.heap.size w2 w3) (hR : Rd w a (ints l)) (hl : l.length ≤ 1000000) :
    Calls Tryz.prog 68 #[.slice a l.length cap, .func (.func 71) #[] #[.pointer (some ⟨g0, 0, none⟩), .pointer (some ⟨g1, 0, none⟩)]] w fun e w' => e = .returned (.int .i64 (fstI p l)) ∧ Below w.heap.size w w' := by
  go_enter Tryz.func68, Tryz.ntmps68
  go_wp2_with fail
  go_loopw [8] (fun i wr => ∃ k : Nat, k ≤ l.length ∧ i = .int .i64 (k : Int) ∧ Hid (∀ y ∈ l.take k, p y = false) ∧ Below w.heap.size w wr) (fun i _ => l.length - (intOf i).toNat)
  case atStart => exact ⟨0, Nat.zero_le _, rfl, Lib.hid (by simp), Below.refl _ _⟩
  case round =>
    obtain ⟨k, hk, rfl, hA, hB'⟩ := hrel
    by_cases hkt : k < l.length
    · obtain ⟨gx, off, x, rfl, hc, hx⟩ := (hR.keep hB').int (k := k) hkt
      have hkl : (k : Int) < (l.length : Int) := by omega
      have K1 := Lib.hid (hK x (mem_at hx) wr (hB'.mono hb))
      have HT : Hid (p x = false → ∀ y ∈ l.take (k + 1), p y = false) := Lib.hid (fun h y hy => by
        rw [take_at hx] at hy
        rcases List.mem_append.1 hy with hy | hy
        · exact hA.out y hy
        · rw [List.mem_singleton.1 hy]; exact h)
      have HF : Hid (p x = true → fstI p l = (k : Int)) := Lib.hid (fun h => fst_at hx.out h hA.out)
      clear hA hx hR hK hb
      cases hz : p x with
      | false =>
        rw [hz] at K1 HT
        clear hz HF
        go_wp2_with ((with_reducible refine K1.out.mono ?_); rintro e w1 ⟨rfl, hb1⟩)
        go_roundw
        case rel => exact ⟨k + 1, by omega, by go_num, Lib.hid (HT.out trivial), below_tr hB' hb1⟩
        case measure => simp [intOf]; omega
      | true =>
        rw [hz] at K1 HF
        clear hz HT
        go_wp2_with ((with_reducible refine K1.out.mono ?_); rintro e w1 ⟨rfl, hb1⟩)
        go_ret
        exact ⟨by rw [HF.out trivial]; rfl, below_tr hB' hb1⟩
    · have hkl : ¬ (k : Int) < (l.length : Int) := by omega
      obtain rfl : k = l.length := by omega
      have hm := Lib.hid (fst_no (p := p) (l := l) (by have := hA.out; rwa [List.take_length] at this))
      clear hA hK hb
      go_wp2
      go_ret
      exact ⟨by rw [hm.out]; rfl, hB'⟩
set_option maxRecDepth 100000 in
set_option maxHeartbeats 4000000 in
theorem gdel_walk (p : Int → Bool) (base : Nat) (a : Option Addr) (l : List Int) (cap : Nat) (g0 g1 : Nat) (w : World) (hb : base ≤ w.heap.size) (hK : ∀ x ∈ l, ∀ w2, Below base w w2 → Calls Tryz.prog 71 #[.int .i64 x, .pointer (some ⟨g0, 0, none⟩), .pointer (some ⟨g1, 0, none⟩)] w2 fun e w3 => e = .returned (.bool (p x)) ∧ Below w2.heap.size w2 w3) (hO : Ow w base 1 a l.length cap (ints l)) (hl : l.length ≤ 1000000) :
    Calls Tryz.prog 52 #[.slice a l.length cap, .func (.func 71) #[] #[.pointer (some ⟨g0, 0, none⟩), .pointer (some ⟨g1, 0, none⟩)]] w fun e w' => e = .returned (.slice a (l.filter fun x => !p x).length cap) ∧ Rd w' a (ints (l.filter fun x => !p x)) ∧ Below base w w' := by
  have K1 := Lib.hid (gidx_walk p base a l cap g0 g1 w hb hK hO.rd hl)
  have HK := Lib.hid hK
  have HO := Lib.hid hO
  clear hK
  rcases fst_cases p l with ⟨hf, hno⟩ | ⟨k, x, hf, hkx, hpx, hlo⟩
  · rw [hf] at K1
    have hfl : l.filter (fun x => !p x) = l := List.filter_eq_self.2 (fun y hy => by rw [hno y hy]; rfl)
    rw [hfl]
    have hRd := Lib.hid hO.rd
    clear hf hno hfl hO HO HK
    go_enter Tryz.func52, Tryz.ntmps52
    go_wp2_with (go_at_call 68; (with_reducible refine K1.out.mono ?_); rintro e w1 ⟨rfl, hb1⟩)
    go_ret
    exact ⟨rfl, hRd.out.keep hb1, hb1.mono hb⟩
  · rw [hf] at K1
    have hk1 : k < l.length := (List.getElem?_eq_some_iff.1 hkx).1
    have ht0 : Hid (l.take k = (l.take (k + 1)).filter (fun r => !p r)) := Lib.hid (by
      rw [kept_at hkx, if_pos hpx, List.append_nil]
      exact (List.filter_eq_self.2 fun y hy => by rw [hlo y hy]; rfl).symm)
    obtain ⟨ga, off, y, rfl, -, -⟩ := hO.rd.int (k := k) hk1
    have hga : base ≤ ga ∧ ga < w.heap.size := hO.row ga rfl
    have hcap := hO.2.1
    have hkn : ((k : Int) == -1) = false := by rw [beq_eq_false_iff_ne]; omega
    clear hf hkx hpx hlo hO
    go_enter Tryz.func52, Tryz.ntmps52
    go_wp2_with (go_at_call 68; (with_reducible refine K1.out.mono ?_))
    rintro e w1 ⟨rfl, hb1⟩
    have hO1 := HO.out.keep hb1
    have hB1 := hb1.mono hb
    have hs1 := hb1.size
    clear K1 HO hb1
    go_wp2_with fail
    go_loopw [5, 6] (fun i j wr => ∃ (m q : Nat) (X : List Int), m < q ∧ q ≤ l.length ∧ i = .int .i64 (m : Int) ∧ j = .int .i64 (q : Int) ∧ X.length = l.length ∧ Hid (X.take m = (l.take q).filter (fun r => !p r)) ∧ Hid (X.drop q = l.drop q) ∧ Ow wr base 1 (some ⟨ga, off, none⟩) l.length cap (ints X) ∧ Below base w wr ∧ w.heap.size ≤ wr.heap.size) (fun _ j _ => l.length - (intOf j).toNat)
    case atStart => exact ⟨k, k + 1, l, by omega, by omega, rfl, by go_num, rfl, ht0, Lib.hid rfl, hO1, hB1, hs1⟩
    case round =>
      clear hO1 hB1 ht0 hs1
      obtain ⟨m, q, X, hmq, hql, rfl, rfl, hXl, hT, hDr, hO, hB, hsz⟩ := hrel
      by_cases hq : q < l.length
      rotate_left
      · have hqi : ¬ ((q : Int) < (l.length : Int)) := by omega
        obtain rfl : q = l.length := by omega
        rw [List.take_length] at hT
        have HL : Hid (m = (l.filter fun r => !p r).length) := Lib.hid (by rw [← hT.out, List.length_take]; omega)
        have s1 := fun V => slice_from (P := Tryz.prog) (size := 1) Tryz.underlying22 (fun _ => by kernel_rfl) (some ⟨ga, off, none⟩) l.length cap m (by omega) V
        have s2 := fun V => slice_to (P := Tryz.prog) (size := 1) Tryz.underlying22 (fun _ => by kernel_rfl) (some ⟨ga, off, none⟩) l.length cap m (by omega) V
        rw [show sfrom (some ⟨ga, off, none⟩) 1 m cap = some ⟨ga, off + m, none⟩ by rw [sfrom, if_neg (by omega), Option.map_some, Addr.add_lit, Nat.mul_one]] at s1
        have hcl := run_clear_ints wr 0 ga (off + m) (l.length - m) (cap - m) (by omega) (fun j hj => by rw [Nat.add_assoc]; exact (hO.both.2 _ (by omega)).1) (fun j hj => by rw [Nat.add_assoc]; exact (hO.both.2 _ (by omega)).2)
        have hRd : Rd (wr.setCells ga (off + m) (ints (List.replicate (l.length - m) 0))) (some ⟨ga, off, none⟩) (ints (X.take m)) := Rd.mk fun j u hj => by
          have hjl := (List.getElem?_eq_some_iff.1 hj).1
          rw [ints, List.length_map, List.length_take] at hjl
          have hj2 : (ints X)[j]? = some u := by
            rw [ints, List.getElem?_map] at hj ⊢
            rw [List.getElem?_take, if_pos (by omega)] at hj
            exact hj
          rw [cell_stay (.inl (by omega))]
          exact hO.both.1 j u hj2
        rw [hT.out] at hRd
        have hGG := below_setCells hB hga.1 (by omega) (off + m) (ints (List.replicate (l.length - m) 0))
        clear hT hDr hO hB HK
        generalize ints (List.replicate (l.length - m) 0) = ys at *
        go_wp2
        go_ret
        exact ⟨by rw [← HL.out]; rfl, hRd, hGG⟩
      have hqi : (q : Int) < (l.length : Int) := by omega
      obtain ⟨ga', off', r, hga', d0, hr⟩ := hO.rd.int (k := q) (by omega)
      cases hga'
      have hrl : Hid (l[q]? = some r) := Lib.hid (by
        have h1 : (X.drop q)[0]? = (l.drop q)[0]? := by rw [hDr.out]
        rw [List.getElem?_drop, List.getElem?_drop, Nat.add_zero] at h1
        rw [← h1]; exact hr.out)
      have K2 := Lib.hid (HK.out r (mem_at hrl) wr hB)
      have HDR := Lib.hid (show (X.drop (q + 1)) = l.drop (q + 1) by rw [← List.drop_drop, ← List.drop_drop, hDr.out])
      clear hDr hr
      cases hz : p r with
      | true =>
        rw [hz] at K2
        have HT : Hid (X.take m = (l.take (q + 1)).filter (fun r => !p r)) := Lib.hid (by rw [kept_at hrl.out, if_pos hz, List.append_nil]; exact hT.out)
        clear hz hrl hT HK
        go_wp2_with ((with_reducible refine K2.out.mono ?_); rintro e w3 ⟨rfl, hb3⟩)
        go_roundw
        case rel => exact ⟨m, q + 1, X, by omega, by omega, rfl, by go_num, hXl, HT, HDR, hO.keep hb3, hB.trans (hb3.mono (by omega)), by have := hb3.size; omega⟩
        case measure => simp [intOf]; omega
      | false =>
        rw [hz] at K2
        have HT := Lib.hid (kept_take (p := p) (x := r) hmq (by omega) hT.out hrl.out hz)
        have HDR2 : Hid ((X.set m r).drop (q + 1) = l.drop (q + 1)) := Lib.hid (by rw [List.drop_set_of_lt (by omega)]; exact HDR.out)
        clear hz hrl hT HDR HK
        go_wp2_with ((with_reducible refine K2.out.mono ?_))
        rintro e w3 ⟨rfl, hb3⟩
        replace hO := hO.keep hb3
        have hB3 := hB.trans (hb3.mono (by omega))
        have hs3 := hb3.size
        clear K2 hb3 hB d0
        obtain ⟨ga', off', r2, hga', c0, -⟩ := hO.rd.int (k := m) (by omega)
        cases hga'
        have f0 := (hO.both.2 (m * 1) (by omega)).2
        rw [Nat.mul_one] at f0
        have hmi : (m : Int) < (l.length : Int) := by omega
        rw [← ints_rows] at hO
        obtain ⟨hO4, hG4⟩ := hO.setRow icC_len (i := m) (by omega) r
        rw [ints_rows, Nat.mul_one] at hO4
        have hGG := hB3.setCell (p := ⟨ga, off + m, none⟩) hga.1 (.int .i64 r)
        have hXs : (X.set m r).length = l.length := by rw [List.length_set]; exact hXl
        change Ow (w3.setCell ⟨ga, off + m, none⟩ (.int .i64 r)) _ _ _ _ _ _ at hO4
        clear hO hG4
        go_wp2_with fail
        go_roundw
        case rel => exact ⟨m + 1, q + 1, X.set m r, by omega, by omega, by go_num, by go_num, hXs, HT, HDR2, hO4, hGG, by first | (rw [World.setCell_size]; omega) | (simp; omega)⟩
        case measure => simp [intOf]; omega
set_option maxRecDepth 100000 in
set_option maxHeartbeats 2000000 in
theorem lidx_walk (p : Int → Bool) (base : Nat) (a : Option Addr) (l : List Int) (cap : Nat) (g0 : Nat) (w : World) (hb : base ≤ w.heap.size) (hK : ∀ x ∈ l, ∀ w2, Below base w w2 → Calls Tryz.prog 65 #[.int .i64 x, .pointer (some ⟨g0, 0, none⟩)] w2 fun e w3 => e = .returned (.bool (p x)) ∧ Below w2.heap.size w2 w3) (hR : Rd w a (ints l)) (hl : l.length ≤ 1000000) :
    Calls Tryz.prog 68 #[.slice a l.length cap, .func (.func 65) #[] #[.pointer (some ⟨g0, 0, none⟩)]] w fun e w' => e = .returned (.int .i64 (fstI p l)) ∧ Below w.heap.size w w' := by
  go_enter Tryz.func68, Tryz.ntmps68
  go_wp2_with fail
  go_loopw [8] (fun i wr => ∃ k : Nat, k ≤ l.length ∧ i = .int .i64 (k : Int) ∧ Hid (∀ y ∈ l.take k, p y = false) ∧ Below w.heap.size w wr) (fun i _ => l.length - (intOf i).toNat)
  case atStart => exact ⟨0, Nat.zero_le _, rfl, Lib.hid (by simp), Below.refl _ _⟩
  case round =>
    obtain ⟨k, hk, rfl, hA, hB'⟩ := hrel
    by_cases hkt : k < l.length
    · obtain ⟨gx, off, x, rfl, hc, hx⟩ := (hR.keep hB').int (k := k) hkt
      have hkl : (k : Int) < (l.length : Int) := by omega
      have K1 := Lib.hid (hK x (mem_at hx) wr (hB'.mono hb))
      have HT : Hid (p x = false → ∀ y ∈ l.take (k + 1), p y = false) := Lib.hid (fun h y hy => by
        rw [take_at hx] at hy
        rcases List.mem_append.1 hy with hy | hy
        · exact hA.out y hy
        · rw [List.mem_singleton.1 hy]; exact h)
      have HF : Hid (p x = true → fstI p l = (k : Int)) := Lib.hid (fun h => fst_at hx.out h hA.out)
      clear hA hx hR hK hb
      cases hz : p x with
      | false =>
        rw [hz] at K1 HT
        clear hz HF
        go_wp2_with ((with_reducible refine K1.out.mono ?_); rintro e w1 ⟨rfl, hb1⟩)
        go_roundw
        case rel => exact ⟨k + 1, by omega, by go_num, Lib.hid (HT.out trivial), below_tr hB' hb1⟩
        case measure => simp [intOf]; omega
      | true =>
        rw [hz] at K1 HF
        clear hz HT
        go_wp2_with ((with_reducible refine K1.out.mono ?_); rintro e w1 ⟨rfl, hb1⟩)
        go_ret
        exact ⟨by rw [HF.out trivial]; rfl, below_tr hB' hb1⟩
    · have hkl : ¬ (k : Int) < (l.length : Int) := by omega
      obtain rfl : k = l.length := by omega
      have hm := Lib.hid (fst_no (p := p) (l := l) (by have := hA.out; rwa [List.take_length] at this))
      clear hA hK hb
      go_wp2
      go_ret
      exact ⟨by rw [hm.out]; rfl, hB'⟩
set_option maxRecDepth 100000 in
set_option maxHeartbeats 4000000 in
theorem ldel_walk (p : Int → Bool) (base : Nat) (a : Option Addr) (l : List Int) (cap : Nat) (g0 : Nat) (w : World) (hb : base ≤ w.heap.size) (hK : ∀ x ∈ l, ∀ w2, Below base w w2 → Calls Tryz.prog 65 #[.int .i64 x, .pointer (some ⟨g0, 0, none⟩)] w2 fun e w3 => e = .returned (.bool (p x)) ∧ Below w2.heap.size w2 w3) (hO : Ow w base 1 a l.length cap (ints l)) (hl : l.length ≤ 1000000) :
    Calls Tryz.prog 52 #[.slice a l.length cap, .func (.func 65) #[] #[.pointer (some ⟨g0, 0, none⟩)]] w fun e w' => e = .returned (.slice a (l.filter fun x => !p x).length cap) ∧ Rd w' a (ints (l.filter fun x => !p x)) ∧ Below base w w' := by
  have K1 := Lib.hid (lidx_walk p base a l cap g0 w hb hK hO.rd hl)
  have HK := Lib.hid hK
  have HO := Lib.hid hO
  clear hK
  rcases fst_cases p l with ⟨hf, hno⟩ | ⟨k, x, hf, hkx, hpx, hlo⟩
  · rw [hf] at K1
    have hfl : l.filter (fun x => !p x) = l := List.filter_eq_self.2 (fun y hy => by rw [hno y hy]; rfl)
    rw [hfl]
    have hRd := Lib.hid hO.rd
    clear hf hno hfl hO HO HK
    go_enter Tryz.func52, Tryz.ntmps52
    go_wp2_with (go_at_call 68; (with_reducible refine K1.out.mono ?_); rintro e w1 ⟨rfl, hb1⟩)
    go_ret
    exact ⟨rfl, hRd.out.keep hb1, hb1.mono hb⟩
  · rw [hf] at K1
    have hk1 : k < l.length := (List.getElem?_eq_some_iff.1 hkx).1
    have ht0 : Hid (l.take k = (l.take (k + 1)).filter (fun r => !p r)) := Lib.hid (by
      rw [kept_at hkx, if_pos hpx, List.append_nil]
      exact (List.filter_eq_self.2 fun y hy => by rw [hlo y hy]; rfl).symm)
    obtain ⟨ga, off, y, rfl, -, -⟩ := hO.rd.int (k := k) hk1
    have hga : base ≤ ga ∧ ga < w.heap.size := hO.row ga rfl
    have hcap := hO.2.1
    have hkn : ((k : Int) == -1) = false := by rw [beq_eq_false_iff_ne]; omega
    clear hf hkx hpx hlo hO
    go_enter Tryz.func52, Tryz.ntmps52
    go_wp2_with (go_at_call 68; (with_reducible refine K1.out.mono ?_))
    rintro e w1 ⟨rfl, hb1⟩
    have hO1 := HO.out.keep hb1
    have hB1 := hb1.mono hb
    have hs1 := hb1.size
    clear K1 HO hb1
    go_wp2_with fail
    go_loopw [5, 6] (fun i j wr => ∃ (m q : Nat) (X : List Int), m < q ∧ q ≤ l.length ∧ i = .int .i64 (m : Int) ∧ j = .int .i64 (q : Int) ∧ X.length = l.length ∧ Hid (X.take m = (l.take q).filter (fun r => !p r)) ∧ Hid (X.drop q = l.drop q) ∧ Ow wr base 1 (some ⟨ga, off, none⟩) l.length cap (ints X) ∧ Below base w wr ∧ w.heap.size ≤ wr.heap.size) (fun _ j _ => l.length - (intOf j).toNat)
    case atStart => exact ⟨k, k + 1, l, by omega, by omega, rfl, by go_num, rfl, ht0, Lib.hid rfl, hO1, hB1, hs1⟩
    case round =>
      clear hO1 hB1 ht0 hs1
      obtain ⟨m, q, X, hmq, hql, rfl, rfl, hXl, hT, hDr, hO, hB, hsz⟩ := hrel
      by_cases hq : q < l.length
      rotate_left
      · have hqi : ¬ ((q : Int) < (l.length : Int)) := by omega
        obtain rfl : q = l.length := by omega
        rw [List.take_length] at hT
        have HL : Hid (m = (l.filter fun r => !p r).length) := Lib.hid (by rw [← hT.out, List.length_take]; omega)
        have s1 := fun V => slice_from (P := Tryz.prog) (size := 1) Tryz.underlying22 (fun _ => by kernel_rfl) (some ⟨ga, off, none⟩) l.length cap m (by omega) V
        have s2 := fun V => slice_to (P := Tryz.prog) (size := 1) Tryz.underlying22 (fun _ => by kernel_rfl) (some ⟨ga, off, none⟩) l.length cap m (by omega) V
        rw [show sfrom (some ⟨ga, off, none⟩) 1 m cap = some ⟨ga, off + m, none⟩ by rw [sfrom, if_neg (by omega), Option.map_some, Addr.add_lit, Nat.mul_one]] at s1
        have hcl := run_clear_ints wr 0 ga (off + m) (l.length - m) (cap - m) (by omega) (fun j hj => by rw [Nat.add_assoc]; exact (hO.both.2 _ (by omega)).1) (fun j hj => by rw [Nat.add_assoc]; exact (hO.both.2 _ (by omega)).2)
        have hRd : Rd (wr.setCells ga (off + m) (ints (List.replicate (l.length - m) 0))) (some ⟨ga, off, none⟩) (ints (X.take m)) := Rd.mk fun j u hj => by
          have hjl := (List.getElem?_eq_some_iff.1 hj).1
          rw [ints, List.length_map, List.length_take] at hjl
          have hj2 : (ints X)[j]? = some u := by
            rw [ints, List.getElem?_map] at hj ⊢
            rw [List.getElem?_take, if_pos (by omega)] at hj
            exact hj
          rw [cell_stay (.inl (by omega))]
          exact hO.both.1 j u hj2
        rw [hT.out] at hRd
        have hGG := below_setCells hB hga.1 (by omega) (off + m) (ints (List.replicate (l.length - m) 0))
        clear hT hDr hO hB HK
        generalize ints (List.replicate (l.length - m) 0) = ys at *
        go_wp2
        go_ret
        exact ⟨by rw [← HL.out]; rfl, hRd, hGG⟩
      have hqi : (q : Int) < (l.length : Int) := by omega
      obtain ⟨ga', off', r, hga', d0, hr⟩ := hO.rd.int (k := q) (by omega)
      cases hga'
      have hrl : Hid (l[q]? = some r) := Lib.hid (by
        have h1 : (X.drop q)[0]? = (l.drop q)[0]? := by rw [hDr.out]
        rw [List.getElem?_drop, List.getElem?_drop, Nat.add_zero] at h1
        rw [← h1]; exact hr.out)
      have K2 := Lib.hid (HK.out r (mem_at hrl) wr hB)
      have HDR := Lib.hid (show (X.drop (q + 1)) = l.drop (q + 1) by rw [← List.drop_drop, ← List.drop_drop, hDr.out])
      clear hDr hr
      cases hz : p r with
      | true =>
        rw [hz] at K2
        have HT : Hid (X.take m = (l.take (q + 1)).filter (fun r => !p r)) := Lib.hid (by rw [kept_at hrl.out, if_pos hz, List.append_nil]; exact hT.out)
        clear hz hrl hT HK
        go_wp2_with ((with_reducible refine K2.out.mono ?_); rintro e w3 ⟨rfl, hb3⟩)
        go_roundw
        case rel => exact ⟨m, q + 1, X, by omega, by omega, rfl, by go_num, hXl, HT, HDR, hO.keep hb3, hB.trans (hb3.mono (by omega)), by have := hb3.size; omega⟩
        case measure => simp [intOf]; omega
      | false =>
        rw [hz] at K2
        have HT := Lib.hid (kept_take (p := p) (x := r) hmq (by omega) hT.out hrl.out hz)
        have HDR2 : Hid ((X.set m r).drop (q + 1) = l.drop (q + 1)) := Lib.hid (by rw [List.drop_set_of_lt (by omega)]; exact HDR.out)
        clear hz hrl hT HDR HK
        go_wp2_with ((with_reducible refine K2.out.mono ?_))
        rintro e w3 ⟨rfl, hb3⟩
        replace hO := hO.keep hb3
        have hB3 := hB.trans (hb3.mono (by omega))
        have hs3 := hb3.size
        clear K2 hb3 hB d0
        obtain ⟨ga', off', r2, hga', c0, -⟩ := hO.rd.int (k := m) (by omega)
        cases hga'
        have f0 := (hO.both.2 (m * 1) (by omega)).2
        rw [Nat.mul_one] at f0
        have hmi : (m : Int) < (l.length : Int) := by omega
        rw [← ints_rows] at hO
        obtain ⟨hO4, hG4⟩ := hO.setRow icC_len (i := m) (by omega) r
        rw [ints_rows, Nat.mul_one] at hO4
        have hGG := hB3.setCell (p := ⟨ga, off + m, none⟩) hga.1 (.int .i64 r)
        have hXs : (X.set m r).length = l.length := by rw [List.length_set]; exact hXl
        change Ow (w3.setCell ⟨ga, off + m, none⟩ (.int .i64 r)) _ _ _ _ _ _ at hO4
        clear hO hG4
        go_wp2_with fail
        go_roundw
        case rel => exact ⟨m + 1, q + 1, X.set m r, by omega, by omega, by go_num, by go_num, hXs, HT, HDR2, hO4, hGG, by first | (rw [World.setCell_size]; omega) | (simp; omega)⟩
        case measure => simp [intOf]; omega
set_option maxRecDepth 100000 in
set_option maxHeartbeats 2000000 in
theorem nidx_walk (p : Int → Bool) (base : Nat) (a : Option Addr) (l : List Int) (cap : Nat) (g0 g1 g2 : Nat) (w : World) (hb : base ≤ w.heap.size) (hK : ∀ x ∈ l, ∀ w2, Below base w w2 → Calls Tryz.prog 54 #[.int .i64 x, .pointer (some ⟨g0, 0, none⟩), .pointer (some ⟨g1, 0, none⟩), .pointer (some ⟨g2, 0, none⟩)] w2 fun e w3 => e = .returned (.bool (p x)) ∧ Below w2.heap.size w2 w3) (hR : Rd w a (ints l)) (hl : l.length ≤ 1000000) :
    Calls Tryz.prog 68 #[.slice a l.length cap, .func (.func 54) #[] #[.pointer (some ⟨g0, 0, none⟩), .pointer (some ⟨g1, 0, none⟩), .pointer (some ⟨g2, 0, none⟩)]] w fun e w' => e = .returned (.int .i64 (fstI p l)) ∧ Below w.heap.size w w' := by
  go_enter Tryz.func68, Tryz.ntmps68
  go_wp2_with fail
  go_loopw [8] (fun i wr => ∃ k : Nat, k ≤ l.length ∧ i = .int .i64 (k : Int) ∧ Hid (∀ y ∈ l.take k, p y = false) ∧ Below w.heap.size w wr) (fun i _ => l.length - (intOf i).toNat)
  case atStart => exact ⟨0, Nat.zero_le _, rfl, Lib.hid (by simp), Below.refl _ _⟩
  case round =>
    obtain ⟨k, hk, rfl, hA, hB'⟩ := hrel
    by_cases hkt : k < l.length
    · obtain ⟨gx, off, x, rfl, hc, hx⟩ := (hR.keep hB').int (k := k) hkt
      have hkl : (k : Int) < (l.length : Int) := by omega
      have K1 := Lib.hid (hK x (mem_at hx) wr (hB'.mono hb))
      have HT : Hid (p x = false → ∀ y ∈ l.take (k + 1), p y = false) := Lib.hid (fun h y hy => by
        rw [take_at hx] at hy
        rcases List.mem_append.1 hy with hy | hy
        · exact hA.out y hy
        · rw [List.mem_singleton.1 hy]; exact h)
      have HF : Hid (p x = true → fstI p l = (k : Int)) := Lib.hid (fun h => fst_at hx.out h hA.out)
      clear hA hx hR hK hb
      cases hz : p x with
      | false =>
        rw [hz] at K1 HT
        clear hz HF
        go_wp2_with ((with_reducible refine K1.out.mono ?_); rintro e w1 ⟨rfl, hb1⟩)
        go_roundw
        case rel => exact ⟨k + 1, by omega, by go_num, Lib.hid (HT.out trivial), below_tr hB' hb1⟩
        case measure => simp [intOf]; omega
      | true =>
        rw [hz] at K1 HF
        clear hz HT
        go_wp2_with ((with_reducible refine K1.out.mono ?_); rintro e w1 ⟨rfl, hb1⟩)
        go_ret
        exact ⟨by rw [HF.out trivial]; rfl, below_tr hB' hb1⟩
    · have hkl : ¬ (k : Int) < (l.length : Int) := by omega
      obtain rfl : k = l.length := by omega
      have hm := Lib.hid (fst_no (p := p) (l := l) (by have := hA.out; rwa [List.take_length] at this))
      clear hA hK hb
      go_wp2
      go_ret
      exact ⟨by rw [hm.out]; rfl, hB'⟩
set_option maxRecDepth 100000 in
set_option maxHeartbeats 4000000 in
theorem ndel_walk (p : Int → Bool) (base : Nat) (a : Option Addr) (l : List Int) (cap : Nat) (g0 g1 g2 : Nat) (w : World) (hb : base ≤ w.heap.size) (hK : ∀ x ∈ l, ∀ w2, Below base w w2 → Calls Tryz.prog 54 #[.int .i64 x, .pointer (some ⟨g0, 0, none⟩), .pointer (some ⟨g1, 0, none⟩), .pointer (some ⟨g2, 0, none⟩)] w2 fun e w3 => e = .returned (.bool (p x)) ∧ Below w2.heap.size w2 w3) (hO : Ow w base 1 a l.length cap (ints l)) (hl : l.length ≤ 1000000) :
    Calls Tryz.prog 52 #[.slice a l.length cap, .func (.func 54) #[] #[.pointer (some ⟨g0, 0, none⟩), .pointer (some ⟨g1, 0, none⟩), .pointer (some ⟨g2, 0, none⟩)]] w fun e w' => e = .returned (.slice a (l.filter fun x => !p x).length cap) ∧ Rd w' a (ints (l.filter fun x => !p x)) ∧ Below base w w' := by
  have K1 := Lib.hid (nidx_walk p base a l cap g0 g1 g2 w hb hK hO.rd hl)
  have HK := Lib.hid hK
  have HO := Lib.hid hO
  clear hK
  rcases fst_cases p l with ⟨hf, hno⟩ | ⟨k, x, hf, hkx, hpx, hlo⟩
  · rw [hf] at K1
    have hfl : l.filter (fun x => !p x) = l := List.filter_eq_self.2 (fun y hy => by rw [hno y hy]; rfl)
    rw [hfl]
    have hRd := Lib.hid hO.rd
    clear hf hno hfl hO HO HK
    go_enter Tryz.func52, Tryz.ntmps52
    go_wp2_with (go_at_call 68; (with_reducible refine K1.out.mono ?_); rintro e w1 ⟨rfl, hb1⟩)
    go_ret
    exact ⟨rfl, hRd.out.keep hb1, hb1.mono hb⟩
  · rw [hf] at K1
    have hk1 : k < l.length := (List.getElem?_eq_some_iff.1 hkx).1
    have ht0 : Hid (l.take k = (l.take (k + 1)).filter (fun r => !p r)) := Lib.hid (by
      rw [kept_at hkx, if_pos hpx, List.append_nil]
      exact (List.filter_eq_self.2 fun y hy => by rw [hlo y hy]; rfl).symm)
    obtain ⟨ga, off, y, rfl, -, -⟩ := hO.rd.int (k := k) hk1
    have hga : base ≤ ga ∧ ga < w.heap.size := hO.row ga rfl
    have hcap := hO.2.1
    have hkn : ((k : Int) == -1) = false := by rw [beq_eq_false_iff_ne]; omega
    clear hf hkx hpx hlo hO
    go_enter Tryz.func52, Tryz.ntmps52
    go_wp2_with (go_at_call 68; (with_reducible refine K1.out.mono ?_))
    rintro e w1 ⟨rfl, hb1⟩
    have hO1 := HO.out.keep hb1
    have hB1 := hb1.mono hb
    have hs1 := hb1.size
    clear K1 HO hb1
    go_wp2_with fail
    go_loopw [5, 6] (fun i j wr => ∃ (m q : Nat) (X : List Int), m < q ∧ q ≤ l.length ∧ i = .int .i64 (m : Int) ∧ j = .int .i64 (q : Int) ∧ X.length = l.length ∧ Hid (X.take m = (l.take q).filter (fun r => !p r)) ∧ Hid (X.drop q = l.drop q) ∧ Ow wr base 1 (some ⟨ga, off, none⟩) l.length cap (ints X) ∧ Below base w wr ∧ w.heap.size ≤ wr.heap.size) (fun _ j _ => l.length - (intOf j).toNat)
    case atStart => exact ⟨k, k + 1, l, by omega, by omega, rfl, by go_num, rfl, ht0, Lib.hid rfl, hO1, hB1, hs1⟩
    case round =>
      clear hO1 hB1 ht0 hs1
      obtain ⟨m, q, X, hmq, hql, rfl, rfl, hXl, hT, hDr, hO, hB, hsz⟩ := hrel
      by_cases hq : q < l.length
      rotate_left
      · have hqi : ¬ ((q : Int) < (l.length : Int)) := by omega
        obtain rfl : q = l.length := by omega
        rw [List.take_length] at hT
        have HL : Hid (m = (l.filter fun r => !p r).length) := Lib.hid (by rw [← hT.out, List.length_take]; omega)
        have s1 := fun V => slice_from (P := Tryz.prog) (size := 1) Tryz.underlying22 (fun _ => by kernel_rfl) (some ⟨ga, off, none⟩) l.length cap m (by omega) V
        have s2 := fun V => slice_to (P := Tryz.prog) (size := 1) Tryz.underlying22 (fun _ => by kernel_rfl) (some ⟨ga, off, none⟩) l.length cap m (by omega) V
        rw [show sfrom (some ⟨ga, off, none⟩) 1 m cap = some ⟨ga, off + m, none⟩ by rw [sfrom, if_neg (by omega), Option.map_some, Addr.add_lit, Nat.mul_one]] at s1
        have hcl := run_clear_ints wr 0 ga (off + m) (l.length - m) (cap - m) (by omega) (fun j hj => by rw [Nat.add_assoc]; exact (hO.both.2 _ (by omega)).1) (fun j hj => by rw [Nat.add_assoc]; exact (hO.both.2 _ (by omega)).2)
        have hRd : Rd (wr.setCells ga (off + m) (ints (List.replicate (l.length - m) 0))) (some ⟨ga, off, none⟩) (ints (X.take m)) := Rd.mk fun j u hj => by
          have hjl := (List.getElem?_eq_some_iff.1 hj).1
          rw [ints, List.length_map, List.length_take] at hjl
          have hj2 : (ints X)[j]? = some u := by
            rw [ints, List.getElem?_map] at hj ⊢
            rw [List.getElem?_take, if_pos (by omega)] at hj
            exact hj
          rw [cell_stay (.inl (by omega))]
          exact hO.both.1 j u hj2
        rw [hT.out] at hRd
        have hGG := below_setCells hB hga.1 (by omega) (off + m) (ints (List.replicate (l.length - m) 0))
        clear hT hDr hO hB HK
        generalize ints (List.replicate (l.length - m) 0) = ys at *
        go_wp2
        go_ret
        exact ⟨by rw [← HL.out]; rfl, hRd, hGG⟩
      have hqi : (q : Int) < (l.length : Int) := by omega
      obtain ⟨ga', off', r, hga', d0, hr⟩ := hO.rd.int (k := q) (by omega)
      cases hga'
      have hrl : Hid (l[q]? = some r) := Lib.hid (by
        have h1 : (X.drop q)[0]? = (l.drop q)[0]? := by rw [hDr.out]
        rw [List.getElem?_drop, List.getElem?_drop, Nat.add_zero] at h1
        rw [← h1]; exact hr.out)
      have K2 := Lib.hid (HK.out r (mem_at hrl) wr hB)
      have HDR := Lib.hid (show (X.drop (q + 1)) = l.drop (q + 1) by rw [← List.drop_drop, ← List.drop_drop, hDr.out])
      clear hDr hr
      cases hz : p r with
      | true =>
        rw [hz] at K2
        have HT : Hid (X.take m = (l.take (q + 1)).filter (fun r => !p r)) := Lib.hid (by rw [kept_at hrl.out, if_pos hz, List.append_nil]; exact hT.out)
        clear hz hrl hT HK
        go_wp2_with ((with_reducible refine K2.out.mono ?_); rintro e w3 ⟨rfl, hb3⟩)
        go_roundw
        case rel => exact ⟨m, q + 1, X, by omega, by omega, rfl, by go_num, hXl, HT, HDR, hO.keep hb3, hB.trans (hb3.mono (by omega)), by have := hb3.size; omega⟩
        case measure => simp [intOf]; omega
      | false =>
        rw [hz] at K2
        have HT := Lib.hid (kept_take (p := p) (x := r) hmq (by omega) hT.out hrl.out hz)
        have HDR2 : Hid ((X.set m r).drop (q + 1) = l.drop (q + 1)) := Lib.hid (by rw [List.drop_set_of_lt (by omega)]; exact HDR.out)
        clear hz hrl hT HDR HK
        go_wp2_with ((with_reducible refine K2.out.mono ?_))
        rintro e w3 ⟨rfl, hb3⟩
        replace hO := hO.keep hb3
        have hB3 := hB.trans (hb3.mono (by omega))
        have hs3 := hb3.size
        clear K2 hb3 hB d0
        obtain ⟨ga', off', r2, hga', c0, -⟩ := hO.rd.int (k := m) (by omega)
        cases hga'
        have f0 := (hO.both.2 (m * 1) (by omega)).2
        rw [Nat.mul_one] at f0
        have hmi : (m : Int) < (l.length : Int) := by omega
        rw [← ints_rows] at hO
        obtain ⟨hO4, hG4⟩ := hO.setRow icC_len (i := m) (by omega) r
        rw [ints_rows, Nat.mul_one] at hO4
        have hGG := hB3.setCell (p := ⟨ga, off + m, none⟩) hga.1 (.int .i64 r)
        have hXs : (X.set m r).length = l.length := by rw [List.length_set]; exact hXl
        change Ow (w3.setCell ⟨ga, off + m, none⟩ (.int .i64 r)) _ _ _ _ _ _ at hO4
        clear hO hG4
        go_wp2_with fail
        go_roundw
        case rel => exact ⟨m + 1, q + 1, X.set m r, by omega, by omega, by go_num, by go_num, hXs, HT, HDR2, hO4, hGG, by first | (rw [World.setCell_size]; omega) | (simp; omega)⟩
        case measure => simp [intOf]; omega
end Go.Proofs.YtpofijdkckaphaaGreatDoor
