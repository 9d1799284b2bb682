/- Stamps of a witness: a chain covers the stamps of its beginnings. -/
import Derived.Test.YtgfcknadjijinaaDoorGWitH
namespace Go.Proofs.YtgfcknadjijinaaDoor
open Go.RowKit
theorem Right.step_time {L : List Rec} (h : Right L L.length) {n : Nat} (hn : n < L.length) : (lastF (L.take n)).2 ≤ (lastF (L.take (n + 1))).2 := by
  have hf := h n L[n] hn (List.getElem?_eq_getElem hn)
  have e : lastF (L.take (n + 1)) = (digF L[n], L[n].time) := by
    rw [List.take_succ_eq_append_getElem hn, lastF_snoc]
  rw [e]
  unfold followsF at hf
  split at hf
  · omega
  · split at hf
    · omega
    · split at hf
      · omega
      · rename_i h3
        show _ ≤ L[n].time
        omega
theorem Right.mono_time {L : List Rec} (h : Right L L.length) : ∀ (k n : Nat), n + k ≤ L.length → (lastF (L.take n)).2 ≤ (lastF (L.take (n + k))).2
  | 0, n, _ => Int.le_refl _
  | k + 1, n, hk => by
    have h1 := Right.mono_time h k n (by omega)
    have h2 := h.step_time (n := n + k) (by omega)
    rw [show n + (k + 1) = n + k + 1 by omega]
    omega
theorem headF_take {L : List Rec} (h : Right L L.length) {n : Nat} (hn : n ≤ L.length) : headF (L.take n) = ⟨(n : Int), (lastF (L.take n)).1, rootF ((L.take n).map digF), (lastF (L.take n)).2⟩ := by
  rw [headF_right (h.prefix hn), List.length_take, Nat.min_eq_left hn]
set_option maxRecDepth 100000 in
set_option maxHeartbeats 4000000 in
theorem covers_yes (x : Stm) (a : Option Addr) (L : List Rec) (c n : Nat) (w : World) (hR : Rd w a (recs L)) (hc : L.length ≤ c) (hr : Right L L.length) (hI : ∀ r ∈ L, r.In) (hn : n ≤ L.length) (hx : x.head = headF (L.take n)) :
    Calls Tryd.prog 19 #[x.val, .slice a L.length c] w fun e w' => e = .returned (.bool true) ∧ Below w.heap.size w w' := by
  have h1024 := hr.len (Nat.le_refl _)
  have hck : ∀ V, Rd V a (recs L) → Calls Tryd.prog 35 #[.slice a L.length c] V fun e w' => e = .returned (.tuple #[.int .i64 0, .int .i64 0]) ∧ Below V.heap.size V w' := fun V hV => by
    have := ccheck_walk a L c V hV (by omega) hc hI
    rwa [checkF_right hr] at this
  have hlen2 : (L.take n).length = n := by rw [List.length_take]; omega
  have hhd : ∀ V, Rd V a (recs L) → Calls Tryd.prog 36 #[.slice a n c] V fun e w' => e = .returned (.tuple #[x.head.val, .int .i64 0]) ∧ Below V.heap.size V w' := fun V hV => by
    have := head_walk a (L.take n) c V (hV.recTake n) (by omega) (by omega) (fun r h => hI r (List.mem_of_mem_take h))
    rw [hlen2, checkF_right (hr.prefix hn), ← hx] at this
    exact this
  have hcnt : x.head.count = (n : Int) := by rw [hx, headF_take hr hn]
  have hz : n = 0 → x.head.last = [] ∧ x.head.root = [] := by
    rintro rfl
    rw [hx, List.take_zero, headF_nil]
    exact ⟨rfl, rfl⟩
  obtain ⟨⟨xn, xl, xr, xt⟩, xs, xk, x1, x2⟩ := x
  dsimp only [Head.val] at *
  subst hcnt
  have HC := Lib.hid hck
  have HH := Lib.hid hhd
  have HX := Lib.hid hx
  have HR := Lib.hid hR
  obtain ⟨m, hm⟩ : ∃ m, m = L.length := ⟨_, rfl⟩
  rw [← hm] at hn hc h1024 HC ⊢
  clear hck hhd hx hlen2 hR hr hI hm
  have hb0 := (Below.refl w.heap.size w).alloc (Nat.le_refl _) (stmB ⟨⟨(n : Int), xl, xr, xt⟩, xs, xk, x1, x2⟩)
  have hb1 := hb0.alloc hb0.size (headB ⟨(n : Int), xl, xr, xt⟩)
  have hG := Bx.new2 w (stmB ⟨⟨(n : Int), xl, xr, xt⟩, xs, xk, x1, x2⟩) 29 [.int .i64 (n : Int), .string ⟨xl.toArray⟩, .string ⟨xr.toArray⟩, .int .i64 xt]
  go_enter Tryd.func19, Tryd.ntmps19
  go_wp2_with (go_at_call 35; (with_reducible refine (HC.out _ (HR.out.keep hb1)).mono ?_))
  (first | rintro e w1 rfl hb2 | rintro e w1 ⟨rfl, hb2⟩)
  have HR1 := Lib.hid ((HR.out.keep hb1).keep hb2)
  change Bx ((w.alloc (stmB ⟨⟨(n : Int), xl, xr, xt⟩, xs, xk, x1, x2⟩)).alloc (headB ⟨(n : Int), xl, xr, xt⟩)) _ _ _ at hG
  replace hG := hG.keep hb2
  have hbW := hb1.trans (hb2.mono hb1.size)
  clear hb0 hb1 hb2 HC HR
  obtain ⟨g, hg⟩ : ∃ g, g = w.heap.size + 1 := ⟨_, rfl⟩
  rw [← hg] at hG ⊢
  clear hg
  have c0 := hG.cell 0 rfl
  have c1 := hG.cell 1 rfl
  have c2 := hG.cell 2 rfl
  have c3 := hG.cell 3 rfl
  have hnm : (n : Int) ≤ (m : Int) := by omega
  by_cases h0 : n = 0
  · subst h0
    obtain ⟨rfl, rfl⟩ := hz rfl
    clear HH HX hz
    go_wp2
    go_ret
    exact ⟨rfl, hbW⟩
  · have hn0 : ((n : Int) == 0) = false := by rw [beq_eq_false_iff_ne]; omega
    have hnc : (n : Int) ≤ (c : Int) := by omega
    clear hz h0
    go_wp2_with (go_at_call 36; (with_reducible refine (HH.out _ HR1.out).mono ?_))
    (first | rintro e w2 rfl hb2 | rintro e w2 ⟨rfl, hb2⟩)
    replace hG := hG.keep hb2
    replace hbW := (hbW.trans (hb2.mono hbW.size)).alloc (by have := hbW.size; have := hb2.size; omega) (headB ⟨(n : Int), xl, xr, xt⟩)
    have hlt := hG.lt
    clear hb2 HR1 c0 c1 c2 c3
    have c0 := hG.cell 0 rfl
    have c1 := hG.cell 1 rfl
    have c2 := hG.cell 2 rfl
    have c3 := hG.cell 3 rfl
    go_wp2
    go_ret
    exact ⟨rfl, hbW⟩
/-! ### Stamps in a row -/
def stmC (x : Stm) : List Value := x.cells
def stms (l : List Stm) : List Value := l.flatMap stmC
theorem stms_length (l : List Stm) : (stms l).length = l.length * 8 := by
  induction l with
  | nil => rfl
  | cons r l ih => show (stmC r ++ stms l).length = _; rw [List.length_append, ih, List.length_cons]; simp [stmC]; omega
theorem stms_snoc (a : List Stm) (x : Stm) : stms a ++ x.cells = stms (a ++ [x]) := by simp [stms, stmC]
theorem stm_one (x : Stm) : ∀ u ∈ x.cells, u.oneCell' = true := by
  intro u hu
  simp at hu
  rcases hu with rfl | rfl | rfl | rfl | rfl | rfl | rfl | rfl <;> rfl
theorem stms_get {l : List Stm} {k : Nat} {x : Stm} (h : l[k]? = some x) {f : Nat} (hf : f < 8) : (stms l)[k * 8 + f]? = x.cells[f]? := by
  induction l generalizing k with
  | nil => simp at h
  | cons y l ih =>
    show (stmC y ++ stms l)[k * 8 + f]? = _
    have hx : (stmC y).length = 8 := rfl
    cases k with
    | zero =>
      simp at h; subst h
      rw [List.getElem?_append_left (by omega)]
      simp [stmC]
    | succ k =>
      rw [List.getElem?_append_right (by omega), show (k + 1) * 8 + f - (stmC y).length = k * 8 + f by rw [hx]; omega]
      exact ih (by simpa using h)
theorem Rd.stm {w : World} {a : Option Addr} {l : List Stm} (h : Rd w a (stms l)) {k : Nat} (hk : k < l.length) :
    ∃ g off x, a = some ⟨g, off, none⟩ ∧ Hid (l[k]? = some x) ∧ w.cell? ⟨g, off + k * 8, none⟩ = some (.int .i64 x.head.count) ∧ w.cell? ⟨g, off + k * 8 + 1, none⟩ = some (.string ⟨x.head.last.toArray⟩) ∧ w.cell? ⟨g, off + k * 8 + 2, none⟩ = some (.string ⟨x.head.root.toArray⟩) ∧ w.cell? ⟨g, off + k * 8 + 3, none⟩ = some (.int .i64 x.head.time)
      ∧ w.cell? ⟨g, off + k * 8 + 4, none⟩ = some (.int .i64 x.seen) ∧ w.cell? ⟨g, off + k * 8 + 5, none⟩ = some (.int .i64 x.key) ∧ w.cell? ⟨g, off + k * 8 + 6, none⟩ = some (.int .i64 x.r) ∧ w.cell? ⟨g, off + k * 8 + 7, none⟩ = some (.int .i64 x.s) := by
  have hx : l[k]? = some l[k] := List.getElem?_eq_getElem hk
  obtain ⟨g, off, ha, hc⟩ := h.at (by rw [stms_length]; omega)
  have hcell : ∀ f u, f < 8 → l[k].cells[f]? = some u → w.cell? ⟨g, off + (k * 8 + f), none⟩ = some u := fun f u hf hu => hc _ u (by rw [stms_get hx hf]; exact hu)
  refine ⟨g, off, l[k], ha, hx, ?_, ?_, ?_, ?_, ?_, ?_, ?_, ?_⟩
  · exact hcell 0 _ (by omega) rfl
  · have := hcell 1 _ (by omega) rfl; rwa [← Nat.add_assoc] at this
  · have := hcell 2 _ (by omega) rfl; rwa [← Nat.add_assoc] at this
  · have := hcell 3 _ (by omega) rfl; rwa [← Nat.add_assoc] at this
  · have := hcell 4 _ (by omega) rfl; rwa [← Nat.add_assoc] at this
  · have := hcell 5 _ (by omega) rfl; rwa [← Nat.add_assoc] at this
  · have := hcell 6 _ (by omega) rfl; rwa [← Nat.add_assoc] at this
  · have := hcell 7 _ (by omega) rfl; rwa [← Nat.add_assoc] at this
end Go.Proofs.YtgfcknadjijinaaDoor
/- Stamps of a growing chain: what holds while they are made. -/
namespace Go.Proofs.YtgfcknadjijinaaDoor
open Go.RowKit
/-- the stamps of beginnings of a chain, each one of more records than the one before -/
structure Good (L : List Rec) (S : List Stm) (N : Nat) (sn : Int) : Prop where
  each : ∀ x ∈ S, x.In ∧ wrightF 500000003 x = true ∧ x.key = (gpw 500000003 4 77 : Int) ∧ x.seen ≤ sn ∧ x.head.count < (N : Int) ∧ ∀ M, N ≤ M → M ≤ L.length → x.head.time ≤ (lastF (L.take M)).2
  pair : ∀ (i j : Nat) (x y : Stm), i < j → S[i]? = some x → S[j]? = some y → wfollowsF x y = true
theorem Good.nil (L : List Rec) : Good L [] 0 0 := ⟨fun x h => by simp at h, fun i j x y _ h => by simp at h⟩
theorem Good.snoc {L : List Rec} {S : List Stm} {N : Nat} {sn sn' : Int} (h : Good L S N sn) (hr : Right L L.length) (hN : N ≤ L.length) (hs : sn ≤ sn') (nonce : Nat) (ht : (headF (L.take N)).time ≤ sn') (hI : I64 sn') (d : Nat) :
    Good L (S ++ [stampF 77 nonce (headF (L.take N)) sn']) (N + 1 + d) sn' := by
  have hh := headF_take hr hN
  have hin := headF_in (hr.prefix hN)
  have hmono : ∀ M, N ≤ M → M ≤ L.length → (lastF (L.take N)).2 ≤ (lastF (L.take M)).2 := fun M a b => by
    have := hr.mono_time (M - N) N (by omega)
    rwa [show N + (M - N) = M by omega] at this
  refine ⟨fun x hx => ?_, fun i j x y hij hx hy => ?_⟩
  · rw [List.mem_append, List.mem_singleton] at hx
    rcases hx with hx | rfl
    · obtain ⟨a, b, c, d', e, f⟩ := h.each x hx
      exact ⟨a, b, c, by omega, by omega, fun M h1 h2 => f M (by omega) h2⟩
    · refine ⟨stampF_in _ _ _ _ hin hI, stampF_right _ _ _ _ ht, rfl, Int.le_refl _, ?_, fun M h1 h2 => ?_⟩
      · show (headF (L.take N)).count < _
        rw [hh]; show (N : Int) < _; omega
      · show (headF (L.take N)).time ≤ _
        rw [hh]; exact hmono M (by omega) h2
  · rcases Nat.lt_or_ge j S.length with hj | hj
    · rw [List.getElem?_append_left hj] at hy
      rw [List.getElem?_append_left (by omega)] at hx
      exact h.pair i j x y hij hx hy
    · rw [List.getElem?_append_right hj] at hy
      have hj0 : j - S.length = 0 := by
        have := (List.getElem?_eq_some_iff.1 hy).1
        simp at this; omega
      rw [hj0] at hy
      simp at hy
      subst hy
      rw [List.getElem?_append_left (by omega)] at hx
      obtain ⟨a, b, c, d', e, f⟩ := h.each x (List.mem_of_getElem? hx)
      have f1 := f N (Nat.le_refl _) hN
      unfold wfollowsF
      have e1 : (x.key == (stampF 77 nonce (headF (L.take N)) sn').key) = true := by rw [beq_iff_eq, c]; rfl
      have e2 : x.seen ≤ (stampF 77 nonce (headF (L.take N)) sn').seen := by show _ ≤ sn'; omega
      have e3 : x.head.count < (stampF 77 nonce (headF (L.take N)) sn').head.count := by show _ < (headF (L.take N)).count; rw [hh]; exact e
      have e4 : x.head.time ≤ (stampF 77 nonce (headF (L.take N)) sn').head.time := by show _ ≤ (headF (L.take N)).time; rw [hh]; exact f1
      rw [e1, decide_eq_true e2, decide_eq_true (Int.le_of_lt e3), decide_eq_true e4, decide_eq_true e3]
      rfl
theorem wcontraF_ff {a b : Stm} (h : wfollowsF a b = true) : wcontraF 500000003 a b = false := by
  unfold wcontraF
  rw [h]
  cases wrightF 500000003 a <;> cases wrightF 500000003 b <;> cases (a.key == b.key) <;> rfl
/-- two of them: the later one follows, and neither contradicts the other -/
theorem Good.two {L : List Rec} {S : List Stm} {N : Nat} {sn : Int} (h : Good L S N sn) {i k : Nat} {x y : Stm} (hx : S[i]? = some x) (hy : S[k]? = some y) :
    (i ≤ k → wfollowsF x y = true) ∧ wcontraF 500000003 x y = false := by
  rcases Nat.lt_trichotomy i k with hik | rfl | hik
  · have hf := h.pair i k x y hik hx hy
    exact ⟨fun _ => hf, wcontraF_ff hf⟩
  · rw [hx] at hy
    obtain rfl := Option.some.inj hy
    have hf : wfollowsF x x = true := by
      have : headEq x.head x.head = true := headEq_iff.2 rfl
      simp [wfollowsF, this]
    exact ⟨fun _ => hf, wcontraF_ff hf⟩
  · have hf := h.pair k i y x hik hy hx
    refine ⟨fun hle => absurd hle (by omega), ?_⟩
    unfold wcontraF
    rw [hf]
    cases wrightF 500000003 x <;> cases wrightF 500000003 y <;> cases (x.key == y.key) <;> cases wfollowsF x y <;> rfl
theorem el_stm : ElemOf Tryd.prog 46 33 (.agg #[.int .i64 0, .string ⟨#[]⟩, .string ⟨#[]⟩, .int .i64 0, .int .i64 0, .int .i64 0, .int .i64 0, .int .i64 0]) 8 80 := ⟨Tryd.underlying46, by kernel_rfl, rfl, by decide, by decide⟩
/-- the dice, the chain, the stamps -/
structure Gw (W w0 w : World) (db : Nat) (p : Option Addr) (l : List Int) (cap q : Nat) (la : Option Addr) (L : List Rec) (sa : Option Addr) (k sc : Nat) (S : List Stm) : Prop where
  env : Env W w db p l cap q
  own : Ow w w0.heap.size 8 sa k sc (stms S)
  rd : Rd w la (recs L)
  size : w0.heap.size ≤ w.heap.size
theorem Gw.keep {W w0 w w' : World} {db : Nat} {p : Option Addr} {l : List Int} {cap q : Nat} {la : Option Addr} {L : List Rec} {sa : Option Addr} {k sc : Nat} {S : List Stm} (h : Gw W w0 w db p l cap q la L sa k sc S) (hb : Below w.heap.size w w') : Gw W w0 w' db p l cap q la L sa k sc S :=
  ⟨h.env.keep hb, h.own.keep hb, h.rd.keep hb, Nat.le_trans h.size hb.size⟩
theorem Gw.alloc {W w0 w : World} {db : Nat} {p : Option Addr} {l : List Int} {cap q : Nat} {la : Option Addr} {L : List Rec} {sa : Option Addr} {k sc : Nat} {S : List Stm} (h : Gw W w0 w db p l cap q la L sa k sc S) (o : Obj) : Gw W w0 (w.alloc o) db p l cap q la L sa k sc S :=
  h.keep ((Below.refl _ _).alloc (Nat.le_refl _) _)
theorem Gw.drew {W w0 w : World} {db : Nat} {p : Option Addr} {l : List Int} {cap q : Nat} {la : Option Addr} {L : List Rec} {sa : Option Addr} {k sc : Nat} {S : List Stm} (h : Gw W w0 w db p l cap q la L sa k sc S) : Gw W w0 w.drew db p l cap q la L sa k sc S :=
  h.keep (Below.refl _ _).drew
/-- a call that turns the dice alone -/
theorem Gw.next {W w0 w w' : World} {db : Nat} {p : Option Addr} {l : List Int} {cap q q' : Nat} {la : Option Addr} {L : List Rec} {sa : Option Addr} {k sc : Nat} {S : List Stm} (h : Gw W w0 w db p l cap q la L sa k sc S) (hne : 0 < l.length → ∀ g off, p = some ⟨g, off, none⟩ → g ≠ db) (hdb : W.heap.size ≤ db) (hw : db < w0.heap.size)
    (hla : ∀ g, rowOf la = some g → g ≠ db) (hD : Dice w' db p l cap q') (hg : w.grownBy w' (some db)) : Gw W w0 w' db p l cap q' la L sa k sc S := by
  refine ⟨h.env.grown hne hdb hD hg, h.own.kept hg ?_, h.rd.grown hg (by intro g off e h2; simp at h2; exact hla g (by rw [e]; rfl) h2), Nat.le_trans h.size hg.size⟩
  cases hr : rowOf sa with
  | none => exact .inl rfl
  | some j => have := (h.own.row j hr).1; exact .inr (by simp; omega)
/-- a block of the call's own turns, which is none of these -/
theorem Gw.other {W w0 w w' : World} {db : Nat} {p : Option Addr} {l : List Int} {cap q : Nat} {la : Option Addr} {L : List Rec} {sa : Option Addr} {k sc : Nat} {S : List Stm} (h : Gw W w0 w db p l cap q la L sa k sc S) (hR : Rd W p (ints l)) (hdb : W.heap.size ≤ db) (hw : db < w0.heap.size)
    (hla : ∀ g, rowOf la = some g → g < w0.heap.size) {g : Nat} (hg0 : w0.heap.size ≤ g) (hgs : rowOf sa ≠ some g) (hg : w.grownBy w' (some g)) : Gw W w0 w' db p l cap q la L sa k sc S := by
  refine ⟨h.env.row hg (by intro j e; simp at e; omega) hdb hR, h.own.kept hg ?_, h.rd.grown hg (by intro g' off e h2; simp at h2; have := hla g' (by rw [e]; rfl); omega), Nat.le_trans h.size hg.size⟩
  cases hr : rowOf sa with
  | none => exact .inl rfl
  | some j => exact .inr (by rw [← hr]; exact hgs)
/-- a stamp more -/
theorem Gw.app {W w0 w w' : World} {db : Nat} {p : Option Addr} {l : List Int} {cap q : Nat} {la : Option Addr} {L : List Rec} {sa : Option Addr} {k sc : Nat} {S : List Stm} (h : Gw W w0 w db p l cap q la L sa k sc S) (hR : Rd W p (ints l)) (hdb : W.heap.size ≤ db) (hw : db < w0.heap.size)
    (hla : ∀ g, rowOf la = some g → g < w0.heap.size) {sa' : Option Addr} {k' sc' : Nat} {S' : List Stm} (hO : Ow w' w0.heap.size 8 sa' k' sc' (stms S')) (hg : w.grownBy w' (rowOf sa)) : Gw W w0 w' db p l cap q la L sa' k' sc' S' := by
  refine ⟨h.env.row hg (fun j e => ?_) hdb hR, hO, h.rd.grown hg (fun g' off e h2 => ?_), Nat.le_trans h.size hg.size⟩
  · have := (h.own.row j e).1; omega
  · have h3 := (h.own.row g' h2.symm).1
    have h4 := hla g' (by rw [e]; rfl)
    omega
theorem grown_one {w w' : World} {g : Nat} (h : w.grownBy w' (some g)) (o : Nat) (v : Value) : w.grownBy (w'.setCell ⟨g, o, none⟩ v) (some g) :=
  ⟨h.os, h.tape, h.output, by simpa using h.size, fun k hk hne => (heap_setCell_other w' ⟨g, o, none⟩ k v (fun e => hne (congrArg some (show k = g from e)))).trans (h.block k hk hne)⟩
theorem grown8 (w : World) (g : Nat) (a0 a1 a2 a3 a4 a5 a6 a7 : Value) :
    w.grownBy ((((((((w.setCell ⟨g, 0, none⟩ a0).setCell ⟨g, 1, none⟩ a1).setCell ⟨g, 2, none⟩ a2).setCell ⟨g, 3, none⟩ a3).setCell ⟨g, 4, none⟩ a4).setCell ⟨g, 5, none⟩ a5).setCell ⟨g, 6, none⟩ a6).setCell ⟨g, 7, none⟩ a7) (some g) :=
  grown_one (grown_one (grown_one (grown_one (grown_one (grown_one (grown_one (grown_one (World.grownBy.refl _ _) 0 _) 1 _) 2 _) 3 _) 4 _) 5 _) 6 _) 7 _
end Go.Proofs.YtgfcknadjijinaaDoor
