/- Chains of records: they are compared. -/
import Derived.Test.YtgjjpijcakafhaaGCustodyN
namespace Go.Proofs.Ytgjjpijcakafhaa
open Go.RowKit
theorem Rec.ext' {r x : Rec} (h0 : r.num = x.num) (h1 : r.time = x.time) (h2 : r.kind = x.kind) (h3 : r.body = x.body) (h4 : r.before = x.before) : r = x := by
  cases r; cases x; simp_all
def recEq (r x : Rec) : Bool := r.num == x.num && r.time == x.time && r.kind == x.kind && r.body == x.body && r.before == x.before
theorem recEq_iff {r x : Rec} : recEq r x = true ↔ r = x := by
  constructor
  · intro h
    simp [recEq] at h
    exact Rec.ext' h.1.1.1.1 h.1.1.1.2 h.1.1.2 h.1.2 h.2
  · rintro rfl; simp [recEq]
theorem rec_first {r x : Rec} (h : ¬ r = x) : ¬ r.num = x.num ∨ (r.num = x.num ∧ ¬ r.time = x.time) ∨ (r.num = x.num ∧ r.time = x.time ∧ ¬ r.kind = x.kind) ∨ (r.num = x.num ∧ r.time = x.time ∧ r.kind = x.kind ∧ ¬ r.body = x.body) ∨ (r.num = x.num ∧ r.time = x.time ∧ r.kind = x.kind ∧ r.body = x.body ∧ ¬ r.before = x.before) := by
  by_cases h0 : r.num = x.num
  · by_cases h1 : r.time = x.time
    · by_cases h2 : r.kind = x.kind
      · by_cases h3 : r.body = x.body
        · exact .inr (.inr (.inr (.inr ⟨h0, h1, h2, h3, fun h4 => h (Rec.ext' h0 h1 h2 h3 h4)⟩)))
        · exact .inr (.inr (.inr (.inl ⟨h0, h1, h2, h3⟩)))
      · exact .inr (.inr (.inl ⟨h0, h1, h2⟩))
    · exact .inr (.inl ⟨h0, h1⟩)
  · exact .inl h0
def eqL : List Rec → List Rec → Bool
  | [], [] => true
  | r :: l, x :: m => recEq r x && eqL l m
  | _, _ => false
theorem eqL_iff : ∀ {l m : List Rec}, eqL l m = true ↔ l = m
  | [], [] => by simp [eqL]
  | r :: l, x :: m => by rw [eqL, Bool.and_eq_true, recEq_iff, eqL_iff, List.cons.injEq]
  | [], x :: m => by simp [eqL]
  | r :: l, [] => by simp [eqL]
theorem eqL_no {l m : List Rec} (h : ¬ l = m) : eqL l m = false := by
  cases hb : eqL l m with
  | false => rfl
  | true => exact absurd (eqL_iff.1 hb) h
theorem eqL_at {l m : List Rec} {k : Nat} {r x : Rec} (h1 : Hid (l[k]? = some r)) (h2 : Hid (m[k]? = some x)) (h : ¬ r = x) : eqL l m = false :=
  eqL_no fun e => h (by have := h1.out; rw [e, h2.out] at this; exact (Option.some.inj this).symm)
theorem below_drewC {B : Nat} {w w' : World} (h : Below B w w') (n : Nat) : Below B w (w'.drewN n) := ⟨h.os, h.tape, h.output, h.size, h.block⟩
theorem take_same {l m : List Rec} {k : Nat} {r : Rec} (h : l.take k = m.take k) (h1 : Hid (l[k]? = some r)) (h2 : Hid (m[k]? = some r)) : l.take (k + 1) = m.take (k + 1) := by rw [take_at h1, take_at h2, h]
set_option maxRecDepth 100000 in
set_option maxHeartbeats 2000000 in
theorem equal_walk (a : Option Addr) (l : List Rec) (c : Nat) (b : Option Addr) (m : List Rec) (n d : Nat) (w : World) (hR : Rd w a (recs l)) (hS : Rd w b (recs m)) (hn : l.length ≤ 281474976710656) (hm : n = m.length) :
    Calls Try.prog 45 #[.slice a l.length c, .slice b n d] w fun e w' => e = .returned (.bool (eqL l m)) ∧ Below w.heap.size w w' := by
  by_cases hl : l.length = n
  rotate_left
  · have he := eqL_no (l := l) (m := m) (fun e => hl (by rw [hm, e]))
    have HE := Lib.hid he
    have d1 : ((l.length : Int) != (n : Int)) = true := by rw [bne_iff_ne]; omega
    clear he hm hR hS
    go_enter Try.func45, Try.ntmps45
    go_wp2
    go_ret
    exact ⟨by rw [HE.out]; rfl, Below.refl _ _⟩
  · subst hl
    have HM := Lib.hid hm
    clear hm
    go_enter Try.func45, Try.ntmps45
    go_wp2_with fail
    go_loopw [13] (fun i wr => ∃ k : Nat, k ≤ l.length ∧ i = .int .i64 (k : Int) ∧ Hid (l.take k = m.take k) ∧ Below w.heap.size w wr) (fun i _ => l.length - (intOf i).toNat)
    case atStart => exact ⟨0, Nat.zero_le _, rfl, rfl, Below.refl _ _⟩
    case round =>
      obtain ⟨k, hk, rfl, hE, hB⟩ := hrel
      by_cases hkt : k < l.length
      · obtain ⟨g, off, r, rfl, hr, c0, c1, c2, c3, c4⟩ := (hR.keep hB).rec (k := k) hkt
        obtain ⟨g', off', x, rfl, hx, e0, e1, e2, e3, e4⟩ := (hS.keep hB).rec (k := k) (by rw [← HM.out]; exact hkt)
        have hkl : (k : Int) < (l.length : Int) := by omega
        by_cases hrx : r = x
        · subst hrx
          have hn' := take_same hE.out hr hx
          have HN := Lib.hid hn'
          clear hn' hr hx hE hR hS
          go_wp2_with fail
          go_quiet (fail)
          go_wp2_with fail
          go_roundw
          case rel => exact ⟨k + 1, by omega, by go_num, HN, below_drewC hB _⟩
          case measure => simp [intOf]; omega
        · have he := eqL_at hr hx hrx
          have HE := Lib.hid he
          have hf := rec_first hrx
          clear he hr hx hE hR hS hrx
          rcases hf with hf | ⟨h0, hf⟩ | ⟨h0, h1, hf⟩ | ⟨h0, h1, h2, hf⟩ | ⟨h0, h1, h2, h3, hf⟩
          all_goals
            go_wp2_with fail
            go_quiet (fail)
            go_wp2
            go_ret
            exact ⟨by rw [HE.out]; rfl, below_drewC hB _⟩
      · have hkl : ¬ ((k : Int) < (l.length : Int)) := by omega
        have hl2 : k = l.length := by omega
        have he : eqL l m = true := eqL_iff.2 (by
          have := hE.out
          rw [hl2, List.take_length] at this
          rw [this, HM.out, List.take_length])
        have HE := Lib.hid he
        clear he hE hR hS
        go_wp2
        go_ret
        exact ⟨by rw [HE.out]; rfl, hB⟩
end Go.Proofs.Ytgjjpijcakafhaa
