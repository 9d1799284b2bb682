/- Records of a chain: their cells, in plain Lean. -/
import Derived.Test.YtgfcknadjijinaaDoorCodecP
import Derived.Test.YtgfcknadjijinaaDoorGDigestS
import Derived.Test.YtgfcknadjijinaaDoorGCodecW
import Derived.Test.YtgfcknadjijinaaDoorGDigestG
namespace Go.Proofs.YtgfcknadjijinaaDoor
open Go.RowKit
structure Rec where
  num : Int
  time : Int
  kind : Int
  body : List UInt8
  before : List UInt8
def recC (r : Rec) : List Value := [.int .i64 r.num, .int .i64 r.time, .int .i64 r.kind, .string ⟨r.body.toArray⟩, .string ⟨r.before.toArray⟩]
def recV (r : Rec) : Value := .agg #[.int .i64 r.num, .int .i64 r.time, .int .i64 r.kind, .string ⟨r.body.toArray⟩, .string ⟨r.before.toArray⟩]
def recs (l : List Rec) : List Value := l.flatMap recC
theorem recs_length (l : List Rec) : (recs l).length = l.length * 5 := by
  induction l with
  | nil => rfl
  | cons r l ih => show (recC r ++ recs l).length = _; rw [List.length_append, ih, List.length_cons]; simp [recC]; omega
theorem recs_append (a b : List Rec) : recs (a ++ b) = recs a ++ recs b := by simp [recs]
theorem recs_one (l : List Rec) : ∀ u ∈ recs l, u.oneCell' = true := by
  intro u hu
  obtain ⟨r, _, hr⟩ := List.mem_flatMap.1 hu
  simp [recC] at hr
  rcases hr with rfl | rfl | rfl | rfl | rfl <;> rfl
theorem recs_get {l : List Rec} {k : Nat} {r : Rec} (h : l[k]? = some r) {f : Nat} (hf : f < 5) : (recs l)[k * 5 + f]? = (recC r)[f]? := by
  induction l generalizing k with
  | nil => simp at h
  | cons x l ih =>
    show (recC x ++ recs l)[k * 5 + f]? = _
    have hx : (recC x).length = 5 := rfl
    cases k with
    | zero =>
      simp at h; subst h
      rw [List.getElem?_append_left (by omega)]
      simp
    | succ k =>
      rw [List.getElem?_append_right (by omega), show (k + 1) * 5 + f - (recC x).length = k * 5 + f by rw [hx]; omega]
      exact ih (by simpa using h)
/-- numbers of 64 bits -/
structure Rec.In (r : Rec) : Prop where
  num : -9223372036854775808 ≤ r.num ∧ r.num ≤ 9223372036854775807
  time : -9223372036854775808 ≤ r.time ∧ r.time ≤ 9223372036854775807
  kind : -9223372036854775808 ≤ r.kind ∧ r.kind ≤ 9223372036854775807
/-- the bytes whose sum is the digest -/
def recB (r : Rec) : List UInt8 := putInt r.num ++ putInt r.time ++ putInt r.kind ++ putText r.body ++ putText r.before
def digF (r : Rec) : List UInt8 := sha (recB r)
/-- the digest and the time of the last record -/
def lastF (l : List Rec) : List UInt8 × Int := match l.getLast? with
  | none => ([], 0)
  | some r => (digF r, r.time)
/-- what is wrong with a record that is to be the next one -/
def followsF (l : List Rec) (r : Rec) : Int :=
  if 1024 ≤ l.length ∨ 16384 < r.body.length then 3
  else if r.num ≠ (l.length : Int) ∨ r.before ≠ (lastF l).1 then 15
  else if ¬ (0 ≤ r.time ∧ r.time ≤ 1099511627776) ∨ r.time < (lastF l).2 then 16
  else if ¬ (1 ≤ r.kind ∧ r.kind ≤ 7) then 2
  else 0
/-- the first record behind the first k that is not right -/
def checkFrom (l : List Rec) : Nat → Nat → Int × Int
  | 0, _ => (0, 0)
  | n + 1, k => match l[k]? with
    | none => (0, 0)
    | some r => if followsF (l.take k) r = 0 then checkFrom l n (k + 1) else ((k : Int), followsF (l.take k) r)
def checkF (l : List Rec) : Int × Int := checkFrom l l.length 0
/-- the first k are right -/
def Right (l : List Rec) (k : Nat) : Prop := ∀ i r, i < k → l[i]? = some r → followsF (l.take i) r = 0
theorem Right.zero (l : List Rec) : Right l 0 := fun i r h => by omega
theorem Right.succ {l : List Rec} {k : Nat} {r : Rec} (h : Right l k) (hr : l[k]? = some r) (hf : followsF (l.take k) r = 0) : Right l (k + 1) := fun i x hi hx => by
  by_cases hik : i = k
  · subst hik; rw [hr] at hx; cases hx; exact hf
  · exact h i x (by omega) hx
theorem Right.len {l : List Rec} {k : Nat} (h : Right l k) (hk : k ≤ l.length) : k ≤ 1024 := by
  by_cases h0 : k = 0
  · omega
  · have hl : k - 1 < l.length := by omega
    have := h (k - 1) l[k - 1] (by omega) (List.getElem?_eq_getElem hl)
    unfold followsF at this
    split at this
    · omega
    · rename_i hn
      rw [List.length_take] at hn; omega
theorem checkFrom_right {l : List Rec} (n k : Nat) (h : ∀ i r, k ≤ i → i < k + n → l[i]? = some r → followsF (l.take i) r = 0) : checkFrom l n k = (0, 0) := by
  induction n generalizing k with
  | zero => rfl
  | succ n ih =>
    rw [checkFrom]
    split
    · rfl
    · rename_i r hr
      rw [if_pos (h k r (Nat.le_refl _) (by omega) hr)]
      exact ih (k + 1) (fun i r h1 h2 => h i r (by omega) (by omega))
theorem checkF_right {l : List Rec} (h : Right l l.length) : checkF l = (0, 0) := checkFrom_right _ _ fun i r _ h2 hr => h i r (by omega) hr
theorem checkFrom_no {l : List Rec} (n k m : Nat) (hkm : k ≤ m) (hm : m < k + n) {r : Rec} (hr : l[m]? = some r) (h : ∀ i r, k ≤ i → i < m → l[i]? = some r → followsF (l.take i) r = 0) (hf : followsF (l.take m) r ≠ 0) : checkFrom l n k = ((m : Int), followsF (l.take m) r) := by
  induction n generalizing k with
  | zero => omega
  | succ n ih =>
    rw [checkFrom]
    split
    · rename_i hn
      have := (List.getElem?_eq_some_iff.1 hr).1
      rw [List.getElem?_eq_none_iff] at hn; omega
    · rename_i x hx
      by_cases hkm2 : k = m
      · subst hkm2
        rw [hr] at hx; cases hx
        rw [if_neg hf]
      · rw [if_pos (h k x (Nat.le_refl _) (by omega) hx)]
        exact ih (k + 1) (by omega) (by omega) (fun i r h1 h2 => h i r (by omega) h2)
theorem checkF_no {l : List Rec} {m : Nat} {r : Rec} (hr : l[m]? = some r) (h : Right l m) (hf : followsF (l.take m) r ≠ 0) : checkF l = ((m : Int), followsF (l.take m) r) :=
  checkFrom_no _ _ m (Nat.zero_le _) (by have := (List.getElem?_eq_some_iff.1 hr).1; omega) hr (fun i r _ h2 => h i r h2) hf
theorem lastF_len (l : List Rec) : (lastF l).1.length ≤ 32 := by
  unfold lastF; split
  · simp
  · exact Nat.le_of_eq (sha_length _)
theorem follows_short {l : List Rec} {r : Rec} (h : followsF l r = 0) : r.body.length ≤ 16384 ∧ r.before.length ≤ 32 ∧ 0 ≤ r.time ∧ r.time ≤ 1099511627776 ∧ r.num = (l.length : Int) := by
  unfold followsF at h
  have hl := lastF_len l
  split at h
  · omega
  · split at h
    · omega
    · rename_i h1 h2
      split at h
      · omega
      · rename_i h3
        have hb : r.before = (lastF l).1 := Classical.byContradiction fun hn => h2 (.inr hn)
        rw [hb]
        omega
end Go.Proofs.YtgfcknadjijinaaDoor
/- Chains of records: the digest of a record, the program's and the reference's. -/
namespace Go.Proofs.YtgfcknadjijinaaDoor
open Go.RowKit
/-- a record in a block of its own -/
def Rk (w : World) (g : Nat) (r : Rec) : Prop := w.heap[g]? = some (.cells #[.int .i64 r.num, .int .i64 r.time, .int .i64 r.kind, .string ⟨r.body.toArray⟩, .string ⟨r.before.toArray⟩] 52 (0, 0))
theorem Rk.lt {w : World} {g : Nat} {r : Rec} (h : Rk w g r) : g < w.heap.size := (Array.getElem?_eq_some_iff.1 h).1
theorem Rk.c0 {w : World} {g : Nat} {r : Rec} (h : Rk w g r) : w.cell? ⟨g, 0, none⟩ = some (.int .i64 r.num) := by rw [Lib.cell_of_heap h]; rfl
theorem Rk.c1 {w : World} {g : Nat} {r : Rec} (h : Rk w g r) : w.cell? ⟨g, 1, none⟩ = some (.int .i64 r.time) := by rw [Lib.cell_of_heap h]; rfl
theorem Rk.c2 {w : World} {g : Nat} {r : Rec} (h : Rk w g r) : w.cell? ⟨g, 2, none⟩ = some (.int .i64 r.kind) := by rw [Lib.cell_of_heap h]; rfl
theorem Rk.c3 {w : World} {g : Nat} {r : Rec} (h : Rk w g r) : w.cell? ⟨g, 3, none⟩ = some (.string ⟨r.body.toArray⟩) := by rw [Lib.cell_of_heap h]; rfl
theorem Rk.c4 {w : World} {g : Nat} {r : Rec} (h : Rk w g r) : w.cell? ⟨g, 4, none⟩ = some (.string ⟨r.before.toArray⟩) := by rw [Lib.cell_of_heap h]; rfl
theorem Rk.keep {w w' : World} {g : Nat} {r : Rec} (h : Rk w g r) (hb : Below w.heap.size w w') : Rk w' g r := (hb.block g h.lt).trans h
theorem Rk.new (w : World) (r : Rec) : Rk (w.alloc (.cells #[.int .i64 r.num, .int .i64 r.time, .int .i64 r.kind, .string ⟨r.body.toArray⟩, .string ⟨r.before.toArray⟩] 52)) w.heap.size r := heap_alloc_new w _
theorem recB_length {r : Rec} (hi : r.In) (hb : r.body.length ≤ 281474976710656) (hf : r.before.length ≤ 281474976710656) : (recB r).length ≤ r.body.length + r.before.length + 50 := by
  have h1 := putInt_ten hi.num
  have h2 := putInt_ten hi.time
  have h3 := putInt_ten hi.kind
  have h4 := putInt_ten (I64.nat hb)
  have h5 := putInt_ten (I64.nat hf)
  simp only [recB, putText, List.length_append]
  omega
set_option maxRecDepth 100000 in
set_option maxHeartbeats 1000000 in
theorem rdig_walk (r : Rec) (w : World) (hi : r.In) (hb : r.body.length + r.before.length ≤ 70368744000000) :
    Calls Tryd.prog 32 #[.agg #[.int .i64 r.num, .int .i64 r.time, .int .i64 r.kind, .string ⟨r.body.toArray⟩, .string ⟨r.before.toArray⟩]] w fun e w' => e = .returned (.string ⟨(digF r).toArray⟩) ∧ Below w.heap.size w w' := by
  have hl := recB_length hi (by omega) (by omega)
  have hR := Rk.new w r
  have hB := (Below.refl w.heap.size w).alloc (Nat.le_refl _) (.cells #[.int .i64 r.num, .int .i64 r.time, .int .i64 r.kind, .string ⟨r.body.toArray⟩, .string ⟨r.before.toArray⟩] 52)
  have hd : digF r = sha (recB r) := rfl
  have h1 := putInt_ten hi.num
  have h2 := putInt_ten hi.time
  have h3 := putInt_ten hi.kind
  have h4 := putInt_ten (I64.nat (show r.body.length ≤ 281474976710656 by omega))
  have k1 : ∀ V, Calls Tryd.prog 57 #[.string ⟨#[]⟩, .int .i64 r.num] V fun e w' => e = .returned (.string ⟨(putInt r.num).toArray⟩) ∧ Below V.heap.size V w' := fun V => rputInt_walk [] r.num V hi.num (by simp)
  have k2 : ∀ V, Calls Tryd.prog 57 #[.string ⟨(putInt r.num).toArray⟩, .int .i64 r.time] V fun e w' => e = .returned (.string ⟨(putInt r.num ++ putInt r.time).toArray⟩) ∧ Below V.heap.size V w' := fun V => rputInt_walk _ r.time V hi.time (by omega)
  have k3 : ∀ V, Calls Tryd.prog 57 #[.string ⟨(putInt r.num ++ putInt r.time).toArray⟩, .int .i64 r.kind] V fun e w' => e = .returned (.string ⟨(putInt r.num ++ putInt r.time ++ putInt r.kind).toArray⟩) ∧ Below V.heap.size V w' := fun V => rputInt_walk _ r.kind V hi.kind (by rw [List.length_append]; omega)
  have k4 : ∀ V, Calls Tryd.prog 48 #[.string ⟨(putInt r.num ++ putInt r.time ++ putInt r.kind).toArray⟩, .string ⟨r.body.toArray⟩] V fun e w' => e = .returned (.string ⟨(putInt r.num ++ putInt r.time ++ putInt r.kind ++ putText r.body).toArray⟩) ∧ Below V.heap.size V w' := fun V => rputText_walk _ r.body V (by simp only [List.length_append]; omega) (by omega)
  have k5 : ∀ V, Calls Tryd.prog 48 #[.string ⟨(putInt r.num ++ putInt r.time ++ putInt r.kind ++ putText r.body).toArray⟩, .string ⟨r.before.toArray⟩] V fun e w' => e = .returned (.string ⟨(recB r).toArray⟩) ∧ Below V.heap.size V w' := fun V => rputText_walk _ r.before V (by simp only [putText, List.length_append]; omega) (by omega)
  have k6 : ∀ V, Calls Tryd.prog 27 #[.string ⟨(recB r).toArray⟩] V fun e w' => e = .returned (.string ⟨(digF r).toArray⟩) ∧ Below V.heap.size V w' := fun V => rsum_walk (recB r) V (by omega)
  have K1 := Lib.hid k1
  have K2 := Lib.hid k2
  have K3 := Lib.hid k3
  have K4 := Lib.hid k4
  have K5 := Lib.hid k5
  have K6 := Lib.hid k6
  clear k1 k2 k3 k4 k5 k6 h1 h2 h3 h4 hd
  generalize putInt r.num = s1 at *
  generalize putInt r.time = s2 at *
  generalize putInt r.kind = s3 at *
  generalize putText r.body = s4 at *
  generalize hs5 : s1 ++ s2 = s5 at *
  generalize hs6 : s5 ++ s3 = s6 at *
  generalize hs7 : s6 ++ s4 = s7 at *
  generalize recB r = s8 at *
  generalize digF r = s9 at *
  clear hs5 hs6 hs7 hl hb
  go_enter Tryd.func32, Tryd.ntmps32
  go_wp2_with fail
  generalize w.alloc (.cells #[.int .i64 r.num, .int .i64 r.time, .int .i64 r.kind, .string ⟨r.body.toArray⟩, .string ⟨r.before.toArray⟩] 52) = w1 at *
  generalize hg : w.heap.size = g at *
  have c0 := fun d os => cell_regrown hR.c0 d os
  have c1 := fun d os => cell_regrown hR.c1 d os
  have c2 := fun d os => cell_regrown hR.c2 d os
  refine wp_region_quiet_below (by kernel_rfl) (by kernel_rfl) ?_
  repeat (go_big_quiet_step (first
    | (go_at_call 57; with_reducible exact Calls.regrown_of (K1.out _))
    | (go_at_call 57; with_reducible exact Calls.regrown_of (K2.out _))
    | (go_at_call 57; with_reducible exact Calls.regrown_of (K3.out _))))
  refine wpQuiet_nil ?_
  rintro w2 ⟨p1, rfl⟩
  have hb1 := below_regrown w1 p1.d p1.os
  generalize Sort.grow (redrawn w1 p1.d) p1.os = w2 at *
  replace hR := hR.keep hb1
  replace hB := hB.trans (hb1.mono (by have := hB.size; omega))
  clear hb1 c0 c1 c2
  go_wp2_with fail
  have c3 := fun d os => cell_regrown hR.c3 d os
  have c4 := fun d os => cell_regrown hR.c4 d os
  refine wp_region_quiet_below (by kernel_rfl) (by kernel_rfl) ?_
  repeat (go_big_quiet_step (first
    | (go_at_call 48; with_reducible exact Calls.regrown_of (K4.out _))
    | (go_at_call 48; with_reducible exact Calls.regrown_of (K5.out _))
    | (go_at_call 27; with_reducible exact Calls.regrown_of (K6.out _))))
  refine wpQuiet_nil ?_
  rintro w3 ⟨p2, rfl⟩
  have hb2 := below_regrown w2 p2.d p2.os
  go_wp2
  go_ret
  exact ⟨rfl, hg ▸ hB.trans (hb2.mono (by have := hB.size; omega))⟩
end Go.Proofs.YtgfcknadjijinaaDoor
