/- A law on a region that draws its order of evaluation: something that holds at its beginning, and that each operation keeps whenever it may come up, holds at its end. No program in sight. -/
import Derived.Test.YtipoljcgfcjlnaaGreatDoorBase
import Derived.Deep.DeepCutAuto
import Derived.Test.YtipoljcgfcjlnaaGreatDoorGHandG
import Derived.Test.YtipoljcgfcjlnaaGreatDoorGCustodyN
namespace Go.Proofs.YtipoljcgfcjlnaaGreatDoor
open Go.RowKit
section
variable {P : Program} {ops : Array Oper} {Q : Exit → Act → World → Prop}
/-- every edge that binds goes back in the text -/
def backB (ops : Array Oper) : Bool := (List.range ops.size).all fun i => ((ops[i]?).map (·.after.all fun e => !Region.binds .any e || decide (e.on < i))).getD true
theorem ready_nil (hB : backB ops = true) (listed : Array Bool) (hsz : listed.size = ops.size) (hr : Region.ready .any ops listed = []) : ∀ i, i < ops.size → listed.getD i false = true := by
  intro i
  induction i using Nat.strongRecOn with
  | ind i ih =>
    intro hi
    cases hc : listed.getD i false with
    | true => rfl
    | false =>
      exfalso
      have hil : i < listed.size := by omega
      have hc' : listed.getD i true = false := by
        rw [Array.getD_eq_getD_getElem?, Array.getElem?_eq_getElem hil] at hc ⊢
        exact hc
      have hmem : i ∈ Region.ready .any ops listed := by
        unfold Region.ready
        rw [List.mem_filter]
        refine ⟨List.mem_range.2 hi, ?_⟩
        have ho : ops[i]? = some ops[i] := Array.getElem?_eq_getElem hi
        rw [hc', ho]
        simp only [Bool.not_false, Bool.true_and, Option.map_some, Option.getD_some]
        rw [Array.all_eq_true]
        intro k hk
        unfold backB at hB
        rw [List.all_eq_true] at hB
        have h1 := hB i (List.mem_range.2 hi)
        rw [ho] at h1
        simp only [Option.map_some, Option.getD_some] at h1
        rw [Array.all_eq_true] at h1
        have h2 := h1 k hk
        cases hb : Region.binds .any (ops[i].after[k]) with
        | false => rfl
        | true =>
          rw [hb, Bool.not_true, Bool.false_or, decide_eq_true_eq] at h2
          rw [ih _ h2 (by omega), Bool.or_true]
      rw [hr] at hmem
      cases hmem
def upd (d : Nat → Bool) (i : Nat) : Nat → Bool := fun j => j == i || d j
def falses : List Bool → Nat
  | [] => 0
  | b :: l => (if b then 0 else 1) + falses l
theorem falses_set : ∀ (l : List Bool) (i : Nat), l[i]? = some false → falses (l.set i true) + 1 = falses l
  | [], i, h => by simp at h
  | b :: l, 0, h => by simp at h; subst h; simp [falses]; omega
  | b :: l, i + 1, h => by
    have := falses_set l i (by simpa using h)
    simp only [List.set_cons_succ, falses]
    omega
theorem falses_zero : ∀ (l : List Bool), falses l = 0 → ∀ i : Nat, l[i]? ≠ some false
  | [], _, i, h => by simp at h
  | b :: l, h0, 0, h => by simp at h; subst h; simp [falses] at h0
  | b :: l, h0, i + 1, h => falses_zero l (by simp only [falses] at h0; omega) i (by simpa using h)
theorem falses_le : ∀ (l : List Bool), falses l ≤ l.length
  | [] => Nat.le_refl _
  | b :: l => by have := falses_le l; simp only [falses, List.length_cons]; split <;> omega
/-- what each operation keeps, whenever it may come up -/
def StepsI (P : Program) (ops : Array Oper) (Q : Exit → Act → World → Prop) (I : (Nat → Bool) → Act → World → Prop) : Nat → List Oper → Prop
  | _, [] => True
  | i, o :: rest => (∀ (d : Nat → Bool) (a : Act) (w : World), d i = false → (∀ e ∈ o.after.toList, Region.binds .any e = true → d e.on = true) → I d a w →
      ∀ K : Act → World → Prop, (∀ a' w', I (upd d i) a' w' → K a' w') → if Region.wanted o (yielded ops a.tmps) = true then Oper.wp P o a w K Q else K (a.put o.dst undef) w) ∧ StepsI P ops Q I (i + 1) rest
theorem StepsI.at {I : (Nat → Bool) → Act → World → Prop} : ∀ (l : List Oper) (k : Nat), StepsI P ops Q I k l → ∀ i o, l[i]? = some o →
    (∀ (d : Nat → Bool) (a : Act) (w : World), d (k + i) = false → (∀ e ∈ o.after.toList, Region.binds .any e = true → d e.on = true) → I d a w →
      ∀ K : Act → World → Prop, (∀ a' w', I (upd d (k + i)) a' w' → K a' w') → if Region.wanted o (yielded ops a.tmps) = true then Oper.wp P o a w K Q else K (a.put o.dst undef) w)
  | [], _, _, i, o, h => by simp at h
  | o' :: l, k, hS, 0, o, h => by simp at h; subst h; exact hS.1
  | o' :: l, k, hS, i + 1, o, h => by
    have := StepsI.at l (k + 1) hS.2 i o (by simpa using h)
    rw [show k + 1 + i = k + (i + 1) by omega] at this
    exact this
theorem wpAny_inv {I : (Nat → Bool) → Act → World → Prop} {l : List Oper} (hB : backB l.toArray = true) (hs : StepsI P l.toArray Q I 0 l) (he : ∀ d a w, (∀ i, i < l.length → d i = true) → I d a w → Q .normal a w) :
    ∀ (fuel : Nat) (listed : Array Bool) (a : Act) (w : World), listed.size = l.length → falses listed.toList ≤ fuel → I (fun i => listed.getD i false) a w → wpAny P .any l.toArray Q fuel listed a w := by
  intro fuel
  induction fuel with
  | zero =>
    intro listed a w hsz hf hI
    have hall : ∀ i, i < l.length → listed.getD i false = true := by
      intro i hi
      have := falses_zero listed.toList (by omega) i
      rw [Array.getD_eq_getD_getElem?, Array.getElem?_eq_getElem (by omega)]
      simp only [Array.getElem?_toList, Array.getElem?_eq_getElem (show i < listed.size by omega)] at this
      simpa using this
    refine ⟨?_, he _ a w hall hI⟩
    unfold Region.ready
    rw [List.filter_eq_nil_iff]
    intro i hi
    have hi' : i < l.length := by simpa using List.mem_range.1 hi
    have h1 := hall i hi'
    rw [Array.getD_eq_getD_getElem?, Array.getElem?_eq_getElem (by omega)] at h1 ⊢
    simp only [Option.getD_some] at h1
    rw [Option.getD_some, h1]
    simp
  | succ fuel ih =>
    intro listed a w hsz hf hI
    refine ⟨fun hr => he _ a w (fun i hi => ready_nil hB listed (by simpa using hsz) hr i (by simpa using hi)) hI, ?_⟩
    intro i hi
    unfold Region.ready at hi
    rw [List.mem_filter] at hi
    obtain ⟨hi1, hi2⟩ := hi
    have hil : i < l.length := by simpa using List.mem_range.1 hi1
    have ho : l.toArray[i]? = some l[i] := by simp [hil]
    rw [ho] at hi2
    simp only [Option.map_some, Option.getD_some, Bool.and_eq_true, Bool.not_eq_true'] at hi2
    obtain ⟨hn, hedges⟩ := hi2
    have hg : listed[i]'(by omega) = false := by
      rw [Array.getD_eq_getD_getElem?, Array.getElem?_eq_getElem (by omega)] at hn
      exact hn
    refine wpOp_step ho (fun K' hK => ?_)
    have hstep := StepsI.at l 0 hs i l[i] (by simp [hil]) (fun i => listed.getD i false) a w
    simp only [Nat.zero_add] at hstep
    refine hstep ?_ ?_ hI K' ?_
    · rw [Array.getD_eq_getD_getElem?, Array.getElem?_eq_getElem (by omega)]; exact hg
    · intro e he' hb
      rw [Array.all_eq_true] at hedges
      obtain ⟨k, hk, rfl⟩ := List.getElem_of_mem he'
      have := hedges k (by simpa using hk)
      simp only [Array.getElem_toList] at hb ⊢
      rw [hb] at this
      simpa using this
    · intro a' w' hI'
      refine hK _ _ (ih _ a' w' (by simpa using hsz) ?_ ?_)
      · have := falses_set listed.toList i (by simp [hg, show i < listed.size by omega])
        rw [Array.toList_setIfInBounds]
        omega
      · have hd : (fun j => (listed.setIfInBounds i true).getD j false) = upd (fun j => listed.getD j false) i := by
          funext j
          unfold upd
          simp only [Array.getD_eq_getD_getElem?]
          by_cases hj : j = i
          · subst hj
            rw [Array.getElem?_setIfInBounds_self_of_lt (by omega)]
            simp
          · rw [Array.getElem?_setIfInBounds_ne (fun e => hj e.symm)]
            simp [hj]
        rw [hd]
        exact hI'
/-- THE LAW. -/
theorem wp_region_inv {id : Nat} {a : Act} {w : World} {l : List Oper} (I : (Nat → Bool) → Act → World → Prop) (hm : P.follows .mixedOrders = true) (hB : backB l.toArray = true)
    (h0 : I (fun _ => false) a w.drew) (hs : StepsI P l.toArray Q I 0 l) (he : ∀ d a w, (∀ i, i < l.length → d i = true) → I d a w → Q .normal a w) : (Code.region id l.toArray true).wp P Q a w := by
  refine wp_region_any hm ?_
  refine wpAny_inv hB hs he _ _ a _ (by simp) ?_ ?_
  · have := falses_le (Array.replicate l.toArray.size false).toList
    simpa using this
  · have hd : (fun i => (Array.replicate l.toArray.size false).getD i false) = fun _ => false := by
      funext i
      rw [Array.getD_eq_getD_getElem?, Array.getElem?_replicate]
      split <;> rfl
    rw [hd]
    exact h0
/-- A cut around a statement that is the last of its sequence: what follows is made a variable ('go_cut' asks for one). -/
theorem cut_last {c : Code} {a : Act} {w : World} (h : ∀ K : Act → World → Prop, Hid (∀ a w, Q .normal a w → K a w) → c.wp P (Exit.then K Q) a w) : c.wp P Q a w := by
  refine Code.wp_mono ?_ (h (fun a w => Q .normal a w) (fun _ _ h => h))
  intro e a w h
  cases e <;> exact h
end
end Go.Proofs.YtipoljcgfcjlnaaGreatDoor
/- Stamps of a witness: how one is made. -/
namespace Go.Proofs.YtipoljcgfcjlnaaGreatDoor
open Go.RowKit
def Stm.zero : Stm := ⟨⟨0, [], [], 0⟩, 0, 0, 0, 0⟩
theorem Bx.stm {fn : Func} {t u : Tmp} (h : fn.results = #[.cell t 28, .tmp u]) (tmps : Array Value) {w : World} {g : Nat} {x : Stm} (ht : tmps.getD t undef = .pointer (some ⟨g, 0, none⟩)) (hD : Bx w g 28 x.cells) :
    (results fn tmps).run Tryz.prog w = .ok (.tuple #[x.val, tmps.getD u undef]) w := by
  have c0 := hD.cell 0 rfl
  have c1 := hD.cell 1 rfl
  have c2 := hD.cell 2 rfl
  have c3 := hD.cell 3 rfl
  have c4 := hD.cell 4 rfl
  have c5 := hD.cell 5 rfl
  have c6 := hD.cell 6 rfl
  have c7 := hD.cell 7 rfl
  have ht' : tmps[t]?.getD undef = .pointer (some ⟨g, 0, none⟩) := by simpa using ht
  simp [results, h, ht', go_sem, c0, c1, c2, c3, c4, c5, c6, c7]
theorem Bx.setStm {w : World} {g : Nat} {t : TypeId} {y : Stm} (h : Bx w g t y.cells) (x : Stm) :
    Bx ((((((((w.setCell ⟨g, 0, none⟩ (.int .i64 x.head.count)).setCell ⟨g, 1, none⟩ (.string ⟨x.head.last.toArray⟩)).setCell ⟨g, 2, none⟩ (.string ⟨x.head.root.toArray⟩)).setCell ⟨g, 3, none⟩ (.int .i64 x.head.time)).setCell ⟨g, 4, none⟩ (.int .i64 x.seen)).setCell ⟨g, 5, none⟩ (.int .i64 x.key)).setCell ⟨g, 6, none⟩ (.int .i64 x.r)).setCell ⟨g, 7, none⟩ (.int .i64 x.s)) g t x.cells :=
  (((((((h.set 0 _).set 1 _).set 2 _).set 3 _).set 4 _).set 5 _).set 6 _).set 7 _
theorem below8 {B g : Nat} {w w1 : World} (h : Below B w w1) (hg : B ≤ g) (a b c d e f x y : Value) :
    Below B w ((((((((w1.setCell ⟨g, 0, none⟩ a).setCell ⟨g, 1, none⟩ b).setCell ⟨g, 2, none⟩ c).setCell ⟨g, 3, none⟩ d).setCell ⟨g, 4, none⟩ e).setCell ⟨g, 5, none⟩ f).setCell ⟨g, 6, none⟩ x).setCell ⟨g, 7, none⟩ y) :=
  (((((((h.setCell (p := ⟨g, 0, none⟩) hg a).setCell (p := ⟨g, 1, none⟩) hg b).setCell (p := ⟨g, 2, none⟩) hg c).setCell (p := ⟨g, 3, none⟩) hg d).setCell (p := ⟨g, 4, none⟩) hg e).setCell (p := ⟨g, 5, none⟩) hg f).setCell (p := ⟨g, 6, none⟩) hg x).setCell (p := ⟨g, 7, none⟩) hg y
abbrev zeroB : Obj := .cells #[.int .i64 0, .string ⟨#[]⟩, .string ⟨#[]⟩, .int .i64 0, .int .i64 0, .int .i64 0, .int .i64 0, .int .i64 0] 28
abbrev headB (h : Head) : Obj := .cells #[.int .i64 h.count, .string ⟨h.last.toArray⟩, .string ⟨h.root.toArray⟩, .int .i64 h.time] 24
set_option maxRecDepth 100000 in
set_option maxHeartbeats 1000000 in
theorem wstamp_late (p key nonce : Int) (h : Head) (seen : Int) (w : World) (hs : seen < h.time) :
    Calls Tryz.prog 11 #[.int .i64 p, .int .i64 key, .int .i64 nonce, h.val, .int .i64 seen] w fun e w' => e = .returned (.tuple #[Stm.zero.val, .int .i64 16]) ∧ Below w.heap.size w w' := by
  obtain ⟨n, l, r, t⟩ := h
  dsimp only at hs ⊢
  have hb0 := ((Below.refl w.heap.size w).alloc (Nat.le_refl _) (headB ⟨n, l, r, t⟩)).alloc (by simp) zeroB
  have hk := Bx.new (w.alloc (headB ⟨n, l, r, t⟩)) 28 Stm.zero.cells
  rw [World.size_alloc] at hk
  go_enter Tryz.func11, Tryz.ntmps11
  go_wp2
  exact bodyPost_ret (Bx.stm (x := Stm.zero) (t := 10) (u := 11) rfl _ rfl hk) rfl ⟨rfl, hb0⟩
set_option maxRecDepth 100000 in
set_option maxHeartbeats 2000000 in
theorem wstamp_no (p key nonce : Int) (h : Head) (seen : Int) (w : World) (hB : Bases w) (hI : h.In) (hsn : I64 seen) (hs : h.time ≤ seen) (hno : safeP p = false ∨ key < 1 ∨ p ≤ key ∨ nonce < 1 ∨ p ≤ nonce) :
    Calls Tryz.prog 11 #[.int .i64 p, .int .i64 key, .int .i64 nonce, h.val, .int .i64 seen] w fun e w' => e = .returned (.tuple #[Stm.zero.val, .int .i64 2]) ∧ Below w.heap.size w w' := by
  have k1 : ∀ V, Calls Tryz.prog 15 #[h.val, .int .i64 seen] V fun e w' => e = .returned (.string ⟨(wtextF h seen).toArray⟩) ∧ Below V.heap.size V w' := fun V => wtext_walk h seen V hI hsn
  have k2 : ∀ V, Bases V → Calls Tryz.prog 30 #[.int .i64 p, .int .i64 key, .int .i64 nonce, .string ⟨(wtextF h seen).toArray⟩] V fun e w' => e = .returned (.tuple #[.agg #[.int .i64 0, .int .i64 0], .int .i64 2]) ∧ Below V.heap.size V w' := fun V hV => hsign_no p key nonce _ V hV hno
  generalize wtextF h seen = tx at *
  obtain ⟨n, l, r, t⟩ := h
  dsimp only [Head.val] at hs k1 ⊢
  have K1 := Lib.hid k1
  have K2 := Lib.hid k2
  have hb0 := ((Below.refl w.heap.size w).alloc (Nat.le_refl _) (headB ⟨n, l, r, t⟩)).alloc (by simp) zeroB
  have hk := Bx.new (w.alloc (headB ⟨n, l, r, t⟩)) 28 Stm.zero.cells
  rw [World.size_alloc] at hk
  replace hB := hB.keep hb0
  have HB := Lib.hid hB
  clear k1 k2 hno hI hsn hB
  go_enter Tryz.func11, Tryz.ntmps11
  go_wp2_with (go_at_call 15; (with_reducible refine (K1.out _).mono ?_))
  rintro e w1 ⟨rfl, hb1⟩
  replace hk := hk.keep hb1
  have HB1 := Lib.hid (HB.out.keep hb1)
  replace hb0 := hb0.trans (hb1.mono hb0.size)
  clear hb1 HB
  go_wp2_with (go_at_call 30; (with_reducible refine (K2.out _ HB1.out).mono ?_))
  rintro e w2 ⟨rfl, hb1⟩
  replace hk := hk.keep hb1
  replace hb0 := hb0.trans (hb1.mono hb0.size)
  have hgw := hk.lt
  clear hb1 HB1
  obtain ⟨g, hg⟩ : ∃ g, g = w.heap.size + 1 := ⟨_, rfl⟩
  have hwg : w.heap.size ≤ g := by omega
  rw [← hg] at hk hgw ⊢
  clear hg
  go_upto_region 5 with (fail)
  replace hk := hk.alloc (.cells #[.int .i64 0, .int .i64 0] 26)
  replace hb0 := hb0.alloc hb0.size (.cells #[.int .i64 0, .int .i64 0] 26)
  clear hgw
  generalize w2.alloc (.cells #[.int .i64 0, .int .i64 0] 26) = w3 at *
  have c0 : w3.cell? ⟨g, 0, none⟩ = some (.int .i64 0) := hk.cell 0 rfl
  have c1 : w3.cell? ⟨g, 1, none⟩ = some (.string ⟨#[]⟩) := hk.cell 1 rfl
  have c2 : w3.cell? ⟨g, 2, none⟩ = some (.string ⟨#[]⟩) := hk.cell 2 rfl
  have c3 : w3.cell? ⟨g, 3, none⟩ = some (.int .i64 0) := hk.cell 3 rfl
  have c4 : w3.cell? ⟨g, 4, none⟩ = some (.int .i64 0) := hk.cell 4 rfl
  have c5 : w3.cell? ⟨g, 5, none⟩ = some (.int .i64 0) := hk.cell 5 rfl
  have c6 : w3.cell? ⟨g, 6, none⟩ = some (.int .i64 0) := hk.cell 6 rfl
  have c7 : w3.cell? ⟨g, 7, none⟩ = some (.int .i64 0) := hk.cell 7 rfl
  have f0 := hk.free 0
  have f1 := hk.free 1
  have f2 := hk.free 2
  have f3 := hk.free 3
  have f4 := hk.free 4
  have f5 := hk.free 5
  have f6 := hk.free 6
  have f7 := hk.free 7
  go_wp2
  exact bodyPost_ret (Bx.stm (x := Stm.zero) (t := 10) (u := 11) rfl _ rfl (hk.setStm (y := Stm.zero) Stm.zero)) rfl ⟨rfl, below8 hb0 hwg _ _ _ _ _ _ _ _⟩
set_option maxRecDepth 100000 in
set_option maxHeartbeats 4000000 in
theorem wstamp_yes (p key nonce : Nat) (h : Head) (seen : Int) (w : World) (hB : Bases w) (hI : h.In) (hsn : I64 seen) (hs : h.time ≤ seen) (hsp : safeP (p : Int) = true) (hky : 1 ≤ key) (hkp : key < p) (hn : 1 ≤ nonce) (hnp : nonce < p) :
    Calls Tryz.prog 11 #[.int .i64 (p : Int), .int .i64 (key : Int), .int .i64 (nonce : Int), h.val, .int .i64 seen] w fun e w' => e = .returned (.tuple #[(Stm.mk h seen (gpw p 4 (key : Int)) (signR p nonce) (signS p key nonce (wtextF h seen))).val, .int .i64 0]) ∧ Below w.heap.size w w' := by
  obtain ⟨h3, h30, -⟩ := safeP_bd hsp
  have hl := wtextF_len hI hsn
  have k1 : ∀ V, Calls Tryz.prog 15 #[h.val, .int .i64 seen] V fun e w' => e = .returned (.string ⟨(wtextF h seen).toArray⟩) ∧ Below V.heap.size V w' := fun V => wtext_walk h seen V hI hsn
  have k2 : ∀ V, Bases V → Calls Tryz.prog 30 #[.int .i64 (p : Int), .int .i64 (key : Int), .int .i64 (nonce : Int), .string ⟨(wtextF h seen).toArray⟩] V fun e w' => e = .returned (.tuple #[.agg #[.int .i64 (signR p nonce : Int), .int .i64 (signS p key nonce (wtextF h seen) : Int)], .int .i64 0]) ∧ Below V.heap.size V w' := fun V hV => hsign_yes p key nonce _ V hV hsp hky hkp hn hnp (by omega)
  have k3 : ∀ V, Calls Tryz.prog 31 #[.int .i64 (p : Int), .int .i64 (key : Int)] V fun e w' => e = .returned (.int .i64 (gpw p 4 (key : Int) : Int)) ∧ Below V.heap.size V w' := fun V => hPublic_walk p key V (by omega) (by omega)
  generalize signS p key nonce (wtextF h seen) = S at *
  generalize signR p nonce = R at *
  generalize gpw p 4 (key : Int) = pub at *
  generalize wtextF h seen = tx at *
  obtain ⟨n, l, r, t⟩ := h
  dsimp only [Head.val] at hs k1 ⊢
  have K1 := Lib.hid k1
  have K2 := Lib.hid k2
  have K3 := Lib.hid k3
  have hb0 := ((Below.refl w.heap.size w).alloc (Nat.le_refl _) (headB ⟨n, l, r, t⟩)).alloc (by simp) zeroB
  have hk := Bx.new (w.alloc (headB ⟨n, l, r, t⟩)) 28 Stm.zero.cells
  have hH := (Bx.new w 24 [.int .i64 n, .string ⟨l.toArray⟩, .string ⟨r.toArray⟩, .int .i64 t]).alloc zeroB
  rw [World.size_alloc] at hk
  replace hB := hB.keep hb0
  have HB := Lib.hid hB
  clear k1 k2 k3 hI hsn hB hl hky hkp hn hnp hsp h3 h30
  go_enter Tryz.func11, Tryz.ntmps11
  go_wp2_with (go_at_call 15; (with_reducible refine (K1.out _).mono ?_))
  rintro e w1 ⟨rfl, hb1⟩
  replace hk := hk.keep hb1
  replace hH := hH.keep hb1
  have HB1 := Lib.hid (HB.out.keep hb1)
  replace hb0 := hb0.trans (hb1.mono hb0.size)
  clear hb1 HB
  go_wp2_with (go_at_call 30; (with_reducible refine (K2.out _ HB1.out).mono ?_))
  rintro e w2 ⟨rfl, hb1⟩
  replace hk := hk.keep hb1
  replace hH := hH.keep hb1
  replace hb0 := hb0.trans (hb1.mono hb0.size)
  clear hb1 HB1
  obtain ⟨g, hg⟩ : ∃ g, g = w.heap.size + 1 := ⟨_, rfl⟩
  have hwg : w.heap.size ≤ g := by omega
  rw [← hg] at hk ⊢
  clear hg
  go_upto_region 6 with (fail)
  have hG := Bx.new w2 26 [.int .i64 (R : Int), .int .i64 (S : Int)]
  replace hk := hk.alloc (.cells #[.int .i64 (R : Int), .int .i64 (S : Int)] 26)
  replace hH := hH.alloc (.cells #[.int .i64 (R : Int), .int .i64 (S : Int)] 26)
  replace hb0 := hb0.alloc hb0.size (.cells #[.int .i64 (R : Int), .int .i64 (S : Int)] 26)
  change Bx (w2.alloc (.cells #[.int .i64 (R : Int), .int .i64 (S : Int)] 26)) _ _ _ at hG
  generalize w2.alloc (.cells #[.int .i64 (R : Int), .int .i64 (S : Int)] 26) = w3 at *
  generalize w2.heap.size = gS at *
  have c0 : w3.cell? ⟨g, 0, none⟩ = some (.int .i64 0) := hk.cell 0 rfl
  have c1 : w3.cell? ⟨g, 1, none⟩ = some (.string ⟨#[]⟩) := hk.cell 1 rfl
  have c2 : w3.cell? ⟨g, 2, none⟩ = some (.string ⟨#[]⟩) := hk.cell 2 rfl
  have c3 : w3.cell? ⟨g, 3, none⟩ = some (.int .i64 0) := hk.cell 3 rfl
  have c4 : w3.cell? ⟨g, 4, none⟩ = some (.int .i64 0) := hk.cell 4 rfl
  have c5 : w3.cell? ⟨g, 5, none⟩ = some (.int .i64 0) := hk.cell 5 rfl
  have c6 : w3.cell? ⟨g, 6, none⟩ = some (.int .i64 0) := hk.cell 6 rfl
  have c7 : w3.cell? ⟨g, 7, none⟩ = some (.int .i64 0) := hk.cell 7 rfl
  have f0 := hk.free 0
  have f1 := hk.free 1
  have f2 := hk.free 2
  have f3 := hk.free 3
  have f4 := hk.free 4
  have f5 := hk.free 5
  have f6 := hk.free 6
  have f7 := hk.free 7
  have d0 : w3.cell? ⟨w.heap.size, 0, none⟩ = some (.int .i64 n) := hH.cell 0 rfl
  have d1 : w3.cell? ⟨w.heap.size, 1, none⟩ = some (.string ⟨l.toArray⟩) := hH.cell 1 rfl
  have d2 : w3.cell? ⟨w.heap.size, 2, none⟩ = some (.string ⟨r.toArray⟩) := hH.cell 2 rfl
  have d3 : w3.cell? ⟨w.heap.size, 3, none⟩ = some (.int .i64 t) := hH.cell 3 rfl
  have e0 : w3.cell? ⟨gS, 0, none⟩ = some (.int .i64 (R : Int)) := hG.cell 0 rfl
  have e1 : w3.cell? ⟨gS, 1, none⟩ = some (.int .i64 (S : Int)) := hG.cell 1 rfl
  refine cut_last (fun KL hKL => ?_)
  go_cut [11] (fun e wr => e = .int .i64 0 ∧ Bx wr g 28 (Stm.cells ⟨⟨n, l, r, t⟩, seen, (pub : Int), (R : Int), (S : Int)⟩) ∧ Below w.heap.size w wr)
  case first =>
    go_region_with ((go_at_call 31; ((with_reducible refine (K3.out _).mono ?_)); rintro e w4 ⟨rfl, hb4⟩; have hk4 := hk.drew.keep hb4; have hH4 := hH.drew.keep hb4; have hG4 := hG.drew.keep hb4; have hb5 := hb0.drew.trans (hb4.mono hb0.size); have c04 : w4.cell? ⟨g, 0, none⟩ = some (.int .i64 0) := hk4.cell 0 rfl; have c14 : w4.cell? ⟨g, 1, none⟩ = some (.string ⟨#[]⟩) := hk4.cell 1 rfl; have c24 : w4.cell? ⟨g, 2, none⟩ = some (.string ⟨#[]⟩) := hk4.cell 2 rfl; have c34 : w4.cell? ⟨g, 3, none⟩ = some (.int .i64 0) := hk4.cell 3 rfl; have c44 : w4.cell? ⟨g, 4, none⟩ = some (.int .i64 0) := hk4.cell 4 rfl; have c54 : w4.cell? ⟨g, 5, none⟩ = some (.int .i64 0) := hk4.cell 5 rfl; have c64 : w4.cell? ⟨g, 6, none⟩ = some (.int .i64 0) := hk4.cell 6 rfl; have c74 : w4.cell? ⟨g, 7, none⟩ = some (.int .i64 0) := hk4.cell 7 rfl; have f04 := hk4.free 0; have f14 := hk4.free 1; have f24 := hk4.free 2; have f34 := hk4.free 3; have f44 := hk4.free 4; have f54 := hk4.free 5; have f64 := hk4.free 6; have f74 := hk4.free 7; have d04 : w4.cell? ⟨w.heap.size, 0, none⟩ = some (.int .i64 n) := hH4.cell 0 rfl; have d14 : w4.cell? ⟨w.heap.size, 1, none⟩ = some (.string ⟨l.toArray⟩) := hH4.cell 1 rfl; have d24 : w4.cell? ⟨w.heap.size, 2, none⟩ = some (.string ⟨r.toArray⟩) := hH4.cell 2 rfl; have d34 : w4.cell? ⟨w.heap.size, 3, none⟩ = some (.int .i64 t) := hH4.cell 3 rfl; have e04 : w4.cell? ⟨gS, 0, none⟩ = some (.int .i64 (R : Int)) := hG4.cell 0 rfl; have e14 : w4.cell? ⟨gS, 1, none⟩ = some (.int .i64 (S : Int)) := hG4.cell 1 rfl))
    all_goals (go_wp2_with fail; go_meet)
    all_goals
      case rel => exact ⟨rfl, hk4.setStm (y := Stm.zero) ⟨⟨n, l, r, t⟩, seen, (pub : Int), (R : Int), (S : Int)⟩, below8 hb5 hwg _ _ _ _ _ _ _ _⟩
  case rest =>
    obtain ⟨rfl, hX, hb9⟩ := hcut
    refine hKL.out _ _ ?_
    go_wp2_with fail
    exact bodyPost_ret (Bx.stm (x := ⟨⟨n, l, r, t⟩, seen, (pub : Int), (R : Int), (S : Int)⟩) (t := 10) (u := 11) rfl _ rfl hX) rfl ⟨rfl, hb9⟩
end Go.Proofs.YtipoljcgfcjlnaaGreatDoor
