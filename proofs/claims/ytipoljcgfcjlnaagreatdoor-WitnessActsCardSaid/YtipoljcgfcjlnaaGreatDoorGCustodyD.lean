/- Chains of records: what may follow, and which chains are right: the program's. -/
import Derived.Test.YtipoljcgfcjlnaaGreatDoorGCustodyB
import Derived.Lib.SliceRun
namespace Go.Proofs.YtipoljcgfcjlnaaGreatDoor
open Go.RowKit
set_option maxRecDepth 100000 in
set_option maxHeartbeats 2000000 in
theorem follows_walk (a : Option Addr) (l : List Rec) (cap : Nat) (r : Rec) (w : World) (hR : Rd w a (recs l)) (hn : l.length ≤ 281474976710656) (hF : Fits l) :
    Calls Tryz.prog 64 #[.slice a l.length cap, .agg #[.int .i64 r.num, .int .i64 r.time, .int .i64 r.kind, .string ⟨r.body.toArray⟩, .string ⟨r.before.toArray⟩]] w fun e w' => e = .returned (.int .i64 (followsF l r)) ∧ Below w.heap.size w w' := by
  obtain ⟨s, hs⟩ : ∃ s, s = (lastF l).1 := ⟨_, rfl⟩
  obtain ⟨t, ht⟩ : ∃ t, t = (lastF l).2 := ⟨_, rfl⟩
  have hk := Rk.new w r
  have hB := (Below.refl w.heap.size w).alloc (Nat.le_refl _) (.cells #[.int .i64 r.num, .int .i64 r.time, .int .i64 r.kind, .string ⟨r.body.toArray⟩, .string ⟨r.before.toArray⟩] 76)
  have k1 : ∀ V, Rd V a (recs l) → Calls Tryz.prog 65 #[.slice a l.length cap] V fun e w' => e = .returned (.tuple #[.string ⟨s.toArray⟩, .int .i64 t]) ∧ Below V.heap.size V w' := fun V h => by
    have := last_walk a l cap V h hn hF
    rw [← hs, ← ht] at this; exact this
  have HS := Lib.hid hs
  have HT := Lib.hid ht
  have K1 := Lib.hid (k1 _ (hR.keep hB))
  clear hs ht k1 hF hR
  obtain ⟨n, hln⟩ : ∃ n, n = l.length := ⟨_, rfl⟩
  have HN := Lib.hid hln
  rw [← hln] at K1 hn ⊢
  clear hln
  go_enter Tryz.func64, Tryz.ntmps64
  go_wp2_with (go_at_call 65; (with_reducible refine K1.out.mono ?_))
  rintro e w2 ⟨rfl, hb2⟩
  replace hB := hB.trans (hb2.mono hB.size)
  replace hk := hk.keep hb2
  clear hb2 K1
  generalize hg : w.heap.size = g at *
  have c0 := hk.c0
  have c1 := hk.c1
  have c2 := hk.c2
  have c3 := hk.c3
  have c4 := hk.c4
  by_cases hA : 1024 ≤ n
  · have d1 : decide ((n : Int) ≥ 1024) = true := decide_eq_true (by omega)
    go_wp2
    go_ret
    exact ⟨ret_int (by rw [followsF, if_pos (.inl (by rw [← HN.out]; exact hA))]), hg ▸ hB⟩
  have d1 : decide ((n : Int) ≥ 1024) = false := decide_eq_false (by omega)
  by_cases hBd : 16384 < r.body.length
  · have d2 : decide ((r.body.length : Int) > 16384) = true := decide_eq_true (by omega)
    go_wp2
    go_ret
    exact ⟨ret_int (by rw [followsF, if_pos (.inr hBd)]), hg ▸ hB⟩
  have d2 : decide ((r.body.length : Int) > 16384) = false := decide_eq_false (by omega)
  have hF1 : ¬ (1024 ≤ l.length ∨ 16384 < r.body.length) := by rw [← HN.out]; omega
  by_cases hC : r.num = (n : Int)
  rotate_left
  · have d3 : (r.num != (n : Int)) = true := by rw [bne_iff_ne]; exact hC
    go_wp2
    go_ret
    exact ⟨ret_int (by rw [followsF, if_neg hF1, if_pos (.inl (by rw [← HN.out]; exact hC))]), hg ▸ hB⟩
  have d3 : (r.num != (n : Int)) = false := by rw [bne_eq_false_iff_eq]; exact hC
  by_cases hD : r.before = s
  rotate_left
  · have d4 : (r.before != s) = true := by rw [bne_iff_ne]; exact hD
    have d5 : (r.before == s) = false := by rw [beq_eq_false_iff_ne]; exact hD
    go_wp2
    go_ret
    exact ⟨ret_int (by rw [followsF, if_neg hF1, if_pos (.inr (by rw [← HS.out]; exact hD))]), hg ▸ hB⟩
  have d4 : (r.before != s) = false := by rw [bne_eq_false_iff_eq]; exact hD
  have d5 : (r.before == s) = true := by rw [beq_iff_eq]; exact hD
  have hF2 : ¬ (r.num ≠ (l.length : Int) ∨ r.before ≠ (lastF l).1) := by
    rw [← HN.out, ← HS.out]; simp [hC, hD]
  by_cases hE : 0 ≤ r.time ∧ r.time ≤ 1099511627776
  rotate_left
  · have k2 : ∀ V, Calls Tryz.prog 83 #[.int .i64 r.time] V fun e w' => e = .returned (.bool false) ∧ V = w' := fun V => by
      have := time_walk r.time V
      rw [decide_eq_false hE] at this; exact this
    have K2 := Lib.hid k2
    have HE := Lib.hid hE
    clear k2 hE
    go_wp2_with (go_at_call 83; (with_reducible refine (K2.out _).mono ?_); rintro e w3 ⟨rfl, rfl⟩)
    go_ret
    exact ⟨ret_int (by rw [followsF, if_neg hF1, if_neg hF2, if_pos (.inl HE.out)]), hg ▸ hB⟩
  have k2 : ∀ V, Calls Tryz.prog 83 #[.int .i64 r.time] V fun e w' => e = .returned (.bool true) ∧ V = w' := fun V => by
    have := time_walk r.time V
    rw [decide_eq_true hE] at this; exact this
  have K2 := Lib.hid k2
  clear k2
  by_cases hG : r.time < t
  · have d6 : decide (r.time < t) = true := decide_eq_true hG
    go_wp2_with (go_at_call 83; (with_reducible refine (K2.out _).mono ?_); rintro e w3 ⟨rfl, rfl⟩)
    go_ret
    exact ⟨ret_int (by rw [followsF, if_neg hF1, if_neg hF2, if_pos (.inr (by rw [← HT.out]; exact hG))]), hg ▸ hB⟩
  have d6 : decide (r.time < t) = false := decide_eq_false hG
  have hF3 : ¬ (¬ (0 ≤ r.time ∧ r.time ≤ 1099511627776) ∨ r.time < (lastF l).2) := by rw [← HT.out]; simp only [not_or, Classical.not_not]; exact ⟨hE, hG⟩
  by_cases hH : 1 ≤ r.kind ∧ r.kind ≤ 7
  rotate_left
  · have k3 : ∀ V, Calls Tryz.prog 84 #[.int .i64 r.kind] V fun e w' => e = .returned (.bool false) ∧ V = w' := fun V => by
      have := kind_walk r.kind V
      rw [decide_eq_false hH] at this; exact this
    have K3 := Lib.hid k3
    have HF1 := Lib.hid hF1
    have HF2 := Lib.hid hF2
    have HF3 := Lib.hid hF3
    have HH := Lib.hid hH
    clear k3 hF1 hF2 hF3 hE hG hH
    go_wp2_with (first
      | (go_at_call 83; (with_reducible refine (K2.out _).mono ?_); rintro e w3 ⟨rfl, rfl⟩)
      | (go_at_call 84; (with_reducible refine (K3.out _).mono ?_); rintro e w3 ⟨rfl, rfl⟩))
    go_ret
    exact ⟨ret_int (by rw [followsF, if_neg HF1.out, if_neg HF2.out, if_neg HF3.out, if_pos HH.out]), hg ▸ hB⟩
  · have k3 : ∀ V, Calls Tryz.prog 84 #[.int .i64 r.kind] V fun e w' => e = .returned (.bool true) ∧ V = w' := fun V => by
      have := kind_walk r.kind V
      rw [decide_eq_true hH] at this; exact this
    have K3 := Lib.hid k3
    have HF1 := Lib.hid hF1
    have HF2 := Lib.hid hF2
    have HF3 := Lib.hid hF3
    have HH := Lib.hid hH
    clear k3 hF1 hF2 hF3 hE hG hH
    go_wp2_with (first
      | (go_at_call 83; (with_reducible refine (K2.out _).mono ?_); rintro e w3 ⟨rfl, rfl⟩)
      | (go_at_call 84; (with_reducible refine (K3.out _).mono ?_); rintro e w3 ⟨rfl, rfl⟩))
    go_ret
    exact ⟨ret_int (by rw [followsF, if_neg HF1.out, if_neg HF2.out, if_neg HF3.out, if_neg (fun h => h HH.out)]), hg ▸ hB⟩
end Go.Proofs.YtipoljcgfcjlnaaGreatDoor
/- Chains of records: which chains are right: the program's Check. -/
namespace Go.Proofs.YtipoljcgfcjlnaaGreatDoor
open Go.RowKit
theorem Rd.recTake {w : World} {a : Option Addr} {l : List Rec} (h : Rd w a (recs l)) (k : Nat) : Rd w a (recs (l.take k)) := fun j u hj => by
  refine h j u ?_
  have e : recs l = recs (l.take k) ++ recs (l.drop k) := by rw [← recs_append, List.take_append_drop]
  have := (List.getElem?_eq_some_iff.1 hj).1
  rw [e, List.getElem?_append_left this]; exact hj
theorem Right.fits {l : List Rec} {k : Nat} (h : Right l k) (hk : k ≤ l.length) (hI : ∀ r ∈ l, r.In) : Fits (l.take k) := fun r hr => by
  rw [List.length_take, Nat.min_eq_left hk] at hr
  by_cases h0 : k = 0
  · subst h0; simp at hr
  · rw [List.getElem?_take_of_lt (by omega)] at hr
    have := follows_short (h (k - 1) r (by omega) hr)
    exact ⟨hI r (List.mem_of_getElem? hr), by omega⟩
set_option maxRecDepth 100000 in
set_option maxHeartbeats 2000000 in
theorem ccheck_walk (a : Option Addr) (l : List Rec) (cap : Nat) (w : World) (hR : Rd w a (recs l)) (hn : l.length ≤ 281474976710656) (hc : l.length ≤ cap) (hI : ∀ r ∈ l, r.In) :
    Calls Tryz.prog 40 #[.slice a l.length cap] w fun e w' => e = .returned (.tuple #[.int .i64 (checkF l).1, .int .i64 (checkF l).2]) ∧ Below w.heap.size w w' := by
  go_enter Tryz.func40, Tryz.ntmps40
  go_wp2_with fail
  go_loopw [9] (fun i wr => ∃ k : Nat, k ≤ l.length ∧ i = .int .i64 (k : Int) ∧ Right l k ∧ Below w.heap.size w wr) (fun i _ => l.length - (intOf i).toNat)
  case atStart => exact ⟨0, Nat.zero_le _, rfl, Right.zero l, Below.refl _ _⟩
  case round =>
    obtain ⟨k, hk, rfl, hRt, hB⟩ := hrel
    by_cases hkt : k < l.length
    · obtain ⟨g, off, r, rfl, hr, c0, c1, c2, c3, c4⟩ := (hR.keep hB).rec (k := k) hkt
      have hRk := ((hR.keep hB).recTake k)
      have hFt := hRt.fits hk hI
      have hlk : (l.take k).length = k := by rw [List.length_take]; omega
      have hki : (k : Int) ≤ (cap : Int) := by omega
      have hkl : (k : Int) < (l.length : Int) := by omega
      obtain ⟨e, he⟩ : ∃ e, e = followsF (l.take k) r := ⟨_, rfl⟩
      have k1 : ∀ V, Rd V (some ⟨g, off, none⟩) (recs (l.take k)) → Calls Tryz.prog 64 #[.slice (some ⟨g, off, none⟩) k cap, .agg #[.int .i64 r.num, .int .i64 r.time, .int .i64 r.kind, .string ⟨r.body.toArray⟩, .string ⟨r.before.toArray⟩]] V fun e' w' => e' = .returned (.int .i64 e) ∧ Below V.heap.size V w' := fun V h => by
        have := follows_walk (some ⟨g, off, none⟩) (l.take k) cap r V h (by omega) hFt
        rw [hlk, ← he] at this; exact this
      have K1 := Lib.hid k1
      have HR := Lib.hid hR
      have HI := Lib.hid hI
      have HRt := Lib.hid hRt
      have HE := Lib.hid he
      have hwl := hB.size
      clear k1 hR hI hRt he hFt
      have hb1 := (Below.refl wr.heap.size wr).alloc (Nat.le_refl _) (.cells #[.int .i64 r.num, .int .i64 r.time, .int .i64 r.kind, .string ⟨r.body.toArray⟩, .string ⟨r.before.toArray⟩] 76)
      replace hRk := hRk.keep hb1
      have hbx := Rk.new wr r
      replace hB := hB.trans (hb1.mono hwl)
      go_wp2_with fail
      generalize wr.alloc (.cells #[.int .i64 r.num, .int .i64 r.time, .int .i64 r.kind, .string ⟨r.body.toArray⟩, .string ⟨r.before.toArray⟩] 76) = w1 at *
      clear c0 c1 c2 c3 c4 hb1
      generalize wr.heap.size = gb at *
      have d0 := fun d os => cell_regrown hbx.c0 d os
      have d1 := fun d os => cell_regrown hbx.c1 d os
      have d2 := fun d os => cell_regrown hbx.c2 d os
      have d3 := fun d os => cell_regrown hbx.c3 d os
      have d4 := fun d os => cell_regrown hbx.c4 d os
      refine wp_region_quiet_below (by kernel_rfl) (by kernel_rfl) ?_
      repeat (go_big_quiet_step (first
        | (go_at_call 64; with_reducible exact Calls.regrown_of (K1.out _ (hRk.keep (below_regrown _ _ _))))))
      refine wpQuiet_nil ?_
      rintro w3 ⟨p2, rfl⟩
      have hb2 := below_regrown w1 p2.d p2.os
      replace hB := hB.trans (hb2.mono (by have := hB.size; omega))
      clear d0 d1 d2 d3 d4 hbx hb2 hRk K1
      by_cases h0 : e = 0
      · subst h0
        go_wp2
        go_roundw
        case rel => exact ⟨k + 1, by omega, by go_num, HRt.out.succ hr.out HE.out.symm, hB⟩
        case measure => simp [intOf]; omega
      · have hne : (e != 0) = true := by rw [bne_iff_ne]; exact h0
        go_wp2
        go_ret2
        refine ⟨?_, hB⟩
        rw [checkF_no hr.out HRt.out (by rw [← HE.out]; exact h0), ← HE.out]; rfl
    · have hkl : ¬ ((k : Int) < (l.length : Int)) := by omega
      have HI := Lib.hid (checkF_right (l := l) (by rw [show l.length = k by omega]; exact hRt))
      clear hRt hI hR
      go_wp2
      go_ret2
      exact ⟨by rw [HI.out]; rfl, hB⟩
end Go.Proofs.YtipoljcgfcjlnaaGreatDoor
/- Chains of records: what is added: plain, but for the elements' type. -/
namespace Go.Proofs.YtipoljcgfcjlnaaGreatDoor
open Go.RowKit
theorem el_rec : ElemOf Tryz.prog 33 76 (.agg #[.int .i64 0, .int .i64 0, .int .i64 0, .string ⟨#[]⟩, .string ⟨#[]⟩]) 5 56 := ⟨Tryz.underlying33, by kernel_rfl, rfl, by decide, by decide⟩
theorem Ow.empty (w : World) (e : TypeId) (size : Nat) : Ow (w.alloc (.cells #[] e)) w.heap.size size (some ⟨w.heap.size, 0, none⟩) 0 0 [] :=
  ⟨by simp, Nat.le_refl _, Nat.zero_le _, .inr ⟨_, _, rfl, Nat.le_refl _, by simp, fun j u hj => by simp at hj, fun j hj => by omega⟩⟩
/-- what is wrong with a record that is to be added -/
def addF (l : List Rec) (t k : Int) (body : List UInt8) : Int :=
  if (checkF l).2 ≠ 0 then (checkF l).2
  else if ¬ (0 ≤ t ∧ t ≤ 1099511627776) ∨ t < (lastF l).2 then 16
  else if ¬ (1 ≤ k ∧ k ≤ 7) then 2
  else if 16384 < body.length ∨ 1024 ≤ l.length then 3
  else 0
/-- the chain behind it -/
def addL (l : List Rec) (t k : Int) (body : List UInt8) : List Rec := if addF l t k body = 0 then l ++ [⟨l.length, t, k, body, (lastF l).1⟩] else []
theorem checkF_ok {l : List Rec} (h : (checkF l).2 = 0) : Right l l.length := by
  by_cases hr : Right l l.length
  · exact hr
  · have : ∃ m r, l[m]? = some r ∧ Right l m ∧ followsF (l.take m) r ≠ 0 := by
      have aux : ∀ n, n ≤ l.length → Right l n ∨ ∃ m r, l[m]? = some r ∧ Right l m ∧ followsF (l.take m) r ≠ 0 := by
        intro n hn
        induction n with
        | zero => exact .inl (Right.zero l)
        | succ n ih =>
          rcases ih (by omega) with h1 | h1
          · have hx : l[n]? = some l[n] := List.getElem?_eq_getElem (by omega)
            by_cases hf : followsF (l.take n) l[n] = 0
            · exact .inl (h1.succ hx hf)
            · exact .inr ⟨n, _, hx, h1, hf⟩
          · exact .inr h1
      rcases aux l.length (Nat.le_refl _) with h1 | h1
      · exact absurd h1 hr
      · exact h1
    obtain ⟨m, r, h1, h2, h3⟩ := this
    rw [checkF_no h1 h2 h3] at h
    exact absurd h h3
theorem lastF_len2 (l : List Rec) : (lastF l).1.length ≤ 32 := lastF_len l
/-- what Add returns -/
def AddRes (w : World) (e : Int) (L : List Rec) (r : Ending) (w' : World) : Prop :=
  ∃ a' cap', r = .returned (.tuple #[.slice a' L.length cap', .int .i64 e]) ∧ Ow w' w.heap.size 5 a' L.length cap' (recs L) ∧ Below w.heap.size w w'
theorem AddRes.no {w w' : World} {e : Int} (hb : Below w.heap.size w w') : AddRes w e [] (.returned (.tuple #[.slice none 0 0, .int .i64 e])) w' :=
  ⟨none, 0, rfl, Ow.nil _ _ _, hb⟩
theorem dig32 (l : List Rec) : ∀ x ∈ l.map digF, x.length ≤ 32 := by
  intro x hx
  obtain ⟨r, _, rfl⟩ := List.mem_map.1 hx
  exact Nat.le_of_eq (sha_length _)
theorem lastF_snoc (l : List Rec) (r : Rec) : lastF (l ++ [r]) = (digF r, r.time) := by
  unfold lastF; rw [List.getLast?_append]; simp
theorem addF_ok {l : List Rec} {t k : Int} {body : List UInt8} (h : Right l l.length) (hn : l.length < 1024) (ht : (lastF l).2 ≤ t) (h0 : 0 ≤ t ∧ t ≤ 1099511627776) (hk : 1 ≤ k ∧ k ≤ 7) (hb : body.length ≤ 16384) : addF l t k body = 0 := by
  rw [addF, checkF_right h, if_neg (by simp), if_neg (by omega), if_neg (by omega), if_neg (by omega)]
theorem Right.snoc {l : List Rec} {t k : Int} {body : List UInt8} (h : Right l l.length) (hn : l.length < 1024) (ht : (lastF l).2 ≤ t) (h0 : 0 ≤ t ∧ t ≤ 1099511627776) (hk : 1 ≤ k ∧ k ≤ 7) (hb : body.length ≤ 16384) :
    Right (l ++ [⟨l.length, t, k, body, (lastF l).1⟩]) (l.length + 1) := fun i r hi hr => by
  by_cases hil : i < l.length
  · rw [List.getElem?_append_left hil] at hr
    have := h i r hil hr
    rwa [List.take_append_of_le_length (by omega)]
  · obtain rfl : i = l.length := by omega
    rw [List.getElem?_append_right (Nat.le_refl _)] at hr
    simp at hr
    subst hr
    rw [List.take_append_of_le_length (Nat.le_refl _), List.take_length, followsF, if_neg (by simp only []; omega), if_neg (by simp), if_neg (by simp only []; omega), if_neg (by simp only []; omega)]
end Go.Proofs.YtipoljcgfcjlnaaGreatDoor
