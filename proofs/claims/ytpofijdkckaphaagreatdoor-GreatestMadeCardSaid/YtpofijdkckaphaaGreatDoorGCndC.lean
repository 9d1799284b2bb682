/- Conditions: members in memory; who counts beside a member: the program's look. -/
import Derived.Test.YtpofijdkckaphaaGreatDoorGCndB
import Derived.Test.YtpofijdkckaphaaGreatDoorGCndP
namespace Go.Proofs.YtpofijdkckaphaaGreatDoor
open Go.RowKit
/-- an answer's cells, a member's cells -/
def anC (a : Ans) : List Value := [.string ⟨a.field.toArray⟩, .string ⟨a.text.toArray⟩, .int .i64 a.number]
theorem anC_len (a : Ans) : (anC a).length = 3 := rfl
def mmC (m : Mem) : List Value := [.string ⟨m.person.toArray⟩, .int .i64 m.number, .int .i64 m.dept, .int .i64 m.day, .slice m.aa m.ans.length m.ac]
theorem mmC_len (m : Mem) : (mmC m).length = 5 := rfl
def Ans.In (a : Ans) : Prop := a.field.length ≤ 140737488351232 ∧ a.text.length ≤ 140737488351232 ∧ I64 a.number
def Mem.In (m : Mem) : Prop := m.person.length ≤ 140737488351232 ∧ (I64 m.number ∧ I64 m.dept ∧ I64 m.day) ∧ (∀ a ∈ m.ans, a.In) ∧ m.ans.length ≤ m.ac ∧ m.ans.length ≤ 281474976710656
/-- members are read at a -/
structure RdM (w : World) (a : Option Addr) (M : List Mem) : Prop where
  rows : Rd w a (rowsC mmC M)
  ans : ∀ m ∈ M, Rd w m.aa (rowsC anC m.ans)
  ok : ∀ m ∈ M, m.In
theorem RdM.keep {w w' : World} {a : Option Addr} {M : List Mem} (h : RdM w a M) (hb : Below w.heap.size w w') : RdM w' a M :=
  ⟨h.rows.keep hb, fun t ht => (h.ans t ht).keep hb, h.ok⟩
theorem RdM.mem {w : World} {a : Option Addr} {M : List Mem} (h : RdM w a M) {k : Nat} (hk : k < M.length) :
    ∃ g off m, a = some ⟨g, off, none⟩ ∧ Hid (M[k]? = some m) ∧ (w.cell? ⟨g, off + k * 5, none⟩ = some (.string ⟨m.person.toArray⟩) ∧ w.cell? ⟨g, off + k * 5 + 1, none⟩ = some (.int .i64 m.number) ∧ w.cell? ⟨g, off + k * 5 + 2, none⟩ = some (.int .i64 m.dept) ∧ w.cell? ⟨g, off + k * 5 + 3, none⟩ = some (.int .i64 m.day) ∧ w.cell? ⟨g, off + k * 5 + 4, none⟩ = some (.slice m.aa m.ans.length m.ac)) ∧ Rd w m.aa (rowsC anC m.ans) ∧ m.In := by
  obtain ⟨g, off, m, ha, hm, hc⟩ := h.rows.rows (f := mmC) (k := 5) mmC_len (by decide) hk
  have d0 := hc 0 _ rfl
  rw [Nat.add_zero] at d0
  have hmm := mem_at hm
  exact ⟨g, off, m, ha, hm, ⟨d0, hc 1 _ rfl, hc 2 _ rfl, hc 3 _ rfl, hc 4 _ rfl⟩, h.ans m hmm, h.ok m hmm⟩
theorem elMem : ElemOf Tryz.prog 72 39 (.agg #[.string ByteArray.empty, .int .i64 0, .int .i64 0, .int .i64 0, .slice none 0 0]) 5 64 := ⟨Tryz.underlying72, by kernel_rfl, rfl, by decide, by decide⟩
theorem othF_sub {l : List Mem} {me m : Mem} (h : m ∈ othF l me) : m ∈ l := (List.mem_filter.1 h).1
theorem othF_len (l : List Mem) (me : Mem) : (othF l me).length ≤ l.length := List.length_filter_le _ _
theorem othF_snoc (l : List Mem) (me m : Mem) : othF (l ++ [m]) me = if m.person = me.person then othF l me else othF l me ++ [m] := by
  unfold othF
  rw [List.filter_append]
  by_cases h : m.person = me.person
  · simp [h]
  · simp [h]
theorem cell_alloc {w w' : World} {p : Addr} {v : Value} (hb : Below w.heap.size w w') (h : w.cell? p = some v) : w'.cell? p = some v := by
  rw [← h]; exact hb.cell (World.block_lt_of_cell? w _ h)
/-- a view: the condition, a member, the others -/
structure View (w : World) (g : Nat) (a : Option Addr) (T : List Trm) (c : Nat) (m : Mem) (oa : Option Addr) (O : List Mem) (oc : Nat) : Prop where
  v : Bx w g 121 [.slice a T.length c, .string ⟨m.person.toArray⟩, .int .i64 m.number, .int .i64 m.dept, .int .i64 m.day, .slice m.aa m.ans.length m.ac, .slice oa O.length oc]
  t : RdT w a T
  o : RdM w oa O
  x : Rd w m.aa (rowsC anC m.ans)
  i : m.In
theorem View.keep {w w' : World} {g : Nat} {a : Option Addr} {T : List Trm} {c : Nat} {m : Mem} {oa : Option Addr} {O : List Mem} {oc : Nat} (h : View w g a T c m oa O oc) (hb : Below w.heap.size w w') : View w' g a T c m oa O oc :=
  ⟨h.v.keep hb, h.t.keep hb, h.o.keep hb, h.x.keep hb, h.i⟩
/-- a view as it grows -/
structure Vg (W w : World) (g : Nat) (a : Option Addr) (T : List Trm) (c : Nat) (m : Mem) (oa : Option Addr) (O : List Mem) (n oc : Nat) : Prop where
  v : Bx w g 121 [.slice a T.length c, .string ⟨m.person.toArray⟩, .int .i64 m.number, .int .i64 m.dept, .int .i64 m.day, .slice m.aa m.ans.length m.ac, .slice oa n oc]
  o : Ow w (g + 1) 5 oa n oc (rowsC mmC O)
  b : Below W.heap.size W w
  lo : W.heap.size ≤ g
  n : O.length = n
theorem Vg.keep {W w w' : World} {g : Nat} {a : Option Addr} {T : List Trm} {c : Nat} {m : Mem} {oa : Option Addr} {O : List Mem} {n oc : Nat} (h : Vg W w g a T c m oa O n oc) (hb : Below w.heap.size w w') : Vg W w' g a T c m oa O n oc :=
  ⟨h.v.keep hb, h.o.keep hb, h.b.trans (hb.mono h.b.size), h.lo, h.n⟩
theorem Vg.old {W w wA : World} {g : Nat} {a : Option Addr} {T : List Trm} {c : Nat} {m : Mem} {oa : Option Addr} {O : List Mem} {n oc : Nat} (h : Vg W w g a T c m oa O n oc) (hg : w.grownBy wA (rowOf oa)) :
    wA.cell? ⟨g, 6, none⟩ = some (.slice oa n oc) ∧ wA.frozen? ⟨g, 6, none⟩ = false := by
  have n8 := h.v.grown hg (fun e => by have := (h.o.row g e.symm).1; omega)
  exact ⟨n8.cell 6 rfl, n8.free 6⟩
theorem Vg.app {W w wA : World} {g : Nat} {a : Option Addr} {T : List Trm} {c : Nat} {m : Mem} {oa : Option Addr} {O : List Mem} {n oc : Nat} {a2 : Option Addr} {c2 : Nat} {y : Mem} (h : Vg W w g a T c m oa O n oc)
    (hO : Ow wA (g + 1) 5 a2 (n + 1) c2 (rowsC mmC O ++ mmC y)) (hb : Below W.heap.size W wA) (hg : w.grownBy wA (rowOf oa)) : Vg W (wA.setCell ⟨g, 6, none⟩ (.slice a2 (n + 1) c2)) g a T c m a2 (O ++ [y]) (n + 1) c2 := by
  have n8 := h.v.grown hg (fun e => by have := (h.o.row g e.symm).1; omega)
  rw [show rowsC mmC O ++ mmC y = rowsC mmC (O ++ [y]) by rw [rowsC_append, rowsC_single]] at hO
  refine ⟨n8.set 6 _, hO.kept (grownBy_setCell wA g 6 _) ?_, hb.setCell (p := ⟨g, 6, none⟩) h.lo _, h.lo, by rw [List.length_append, h.n]; rfl⟩
  cases hr : rowOf a2 with
  | none => exact .inl rfl
  | some x => exact .inr (fun e => by have := (hO.row x hr).1; have := Option.some.inj e; omega)
theorem Vg.fin {W w : World} {g : Nat} {a la : Option Addr} {T : List Trm} {c : Nat} {m : Mem} {oa : Option Addr} {M : List Mem} {n oc : Nat} (h : Vg W w g a T c m oa (othF M m) n oc) (hT : RdT W a T) (hM : RdM W la M) (hm : m ∈ M) :
    View w g a T c m oa (othF M m) oc := by
  have hv := h.v
  rw [← h.n] at hv
  exact ⟨hv, hT.keep h.b, ⟨h.o.rd, fun x hx => (hM.ans x (othF_sub hx)).keep h.b, fun x hx => hM.ok x (othF_sub hx)⟩, (hM.ans m hm).keep h.b, hM.ok m hm⟩
/-- what look returns -/
def LookRes (w : World) (a : Option Addr) (T : List Trm) (c : Nat) (M : List Mem) (r : Option Mem) (e : Ending) (w' : World) : Prop :=
  (match r with
    | none => e = .returned (.tuple #[.pointer none, .bool false])
    | some m => ∃ g oa oc, e = .returned (.tuple #[.pointer (some ⟨g, 0, none⟩), .bool true]) ∧ View w' g a T c m oa (othF M m) oc) ∧ Below w.heap.size w w'
def atM (M : List Mem) (me : Int) : Option Mem := if 0 ≤ me then M[me.toNat]? else none
theorem LookRes.no {w w' : World} {a : Option Addr} {T : List Trm} {c : Nat} {M : List Mem} {r : Option Mem} (hr : r = none) (h : Below w.heap.size w w') : LookRes w a T c M r (.returned (.tuple #[.pointer none, .bool false])) w' := by
  subst hr; exact ⟨rfl, h⟩
theorem LookRes.yes {w w' : World} {a : Option Addr} {T : List Trm} {c : Nat} {M : List Mem} {r : Option Mem} {m : Mem} {g : Nat} {oa : Option Addr} {oc : Nat} (hr : r = some m) (hv : View w' g a T c m oa (othF M m) oc) (h : Below w.heap.size w w') : LookRes w a T c M r (.returned (.tuple #[.pointer (some ⟨g, 0, none⟩), .bool true])) w' := by
  subst hr; exact ⟨⟨g, oa, oc, rfl, hv⟩, h⟩
set_option maxRecDepth 100000 in
set_option maxHeartbeats 2000000 in
theorem look_walk (T : List Trm) (a : Option Addr) (c : Nat) (M : List Mem) (la : Option Addr) (lc : Nat) (me : Int) (w : World) (hT : RdT w a T) (hM : RdM w la M) (hl : M.length ≤ 1000000000) :
    Calls Tryz.prog 78 #[.agg #[.slice a T.length c], .slice la M.length lc, .int .i64 me] w (LookRes w a T c M (atM M me)) := by
  have hr : atM M me = if 0 ≤ me then M[me.toNat]? else none := rfl
  generalize atM M me = R at *
  have HT := Lib.hid hT
  have HM := Lib.hid hM
  have hb0 := (Below.refl w.heap.size w).alloc (Nat.le_refl _) (.cells #[.slice a T.length c] 42)
  have h1 := Bx.new w 42 [.slice a T.length c]
  change Bx (w.alloc (.cells #[.slice a T.length c] 42)) _ _ _ at h1
  obtain ⟨g1, hg1⟩ : ∃ g, g = w.heap.size := ⟨_, rfl⟩
  have hbw : w.heap.size = g1 := hg1.symm
  rw [← hg1] at h1
  have hMw := hM.keep hb0
  have HG := Lib.hid hg1
  clear hg1 hT hM
  go_enter Tryz.func78, Tryz.ntmps78
  by_cases h0 : 0 ≤ me
  rotate_left
  · have d1 : decide (me < 0) = true := decide_eq_true (by omega)
    have HN : Hid (R = none) := Lib.hid (by rw [hr, if_neg h0])
    clear hr h0
    go_wp2
    go_ret2
    exact LookRes.no HN.out hb0
  have d1 : decide (me < 0) = false := decide_eq_false (by omega)
  by_cases hml : me < (M.length : Int)
  rotate_left
  · have d2 : decide (me ≥ (M.length : Int)) = true := decide_eq_true (by omega)
    have HN : Hid (R = none) := Lib.hid (by rw [hr, if_pos h0, List.getElem?_eq_none (by omega)])
    clear hr h0 hml
    go_wp2
    go_ret2
    exact LookRes.no HN.out hb0
  have d2 : decide (me ≥ (M.length : Int)) = false := decide_eq_false (by omega)
  obtain ⟨k, hk⟩ : ∃ k : Nat, me = (k : Int) := ⟨me.toNat, by omega⟩
  subst hk
  rw [if_pos h0, Int.toNat_natCast] at hr
  have hkl : k < M.length := by omega
  obtain ⟨gm, om, m, rfl, hm, ⟨c0, c1, c2, c3, c4⟩, -, -⟩ := hMw.mem (k := k) hkl
  have HR : Hid (R = some m) := Lib.hid (hr.trans hm.out)
  have HMM := Lib.hid (mem_at hm)
  clear hr hm h0
  go_upto_region 3 with (fail)
  generalize w.alloc (.cells #[.slice a T.length c] 42) = w1 at *
  go_cut [8] (fun v wx => ∃ g, v = .pointer (some ⟨g, 0, none⟩) ∧ Vg w wx g a T c m none [] 0 0)
  case first =>
    have y0 := h1.cell 0 rfl
    have s0 := h1.drew.cell 0 rfl
    refine wp_region_held_last' (S := fun w' => w'.cell? ⟨g1, 0, none⟩ = some (.slice a T.length c) ∧ w'.cell? ⟨gm, om + k * 5, none⟩ = some (.string ⟨m.person.toArray⟩) ∧ w'.cell? ⟨gm, om + k * 5 + 1, none⟩ = some (.int .i64 m.number) ∧ w'.cell? ⟨gm, om + k * 5 + 2, none⟩ = some (.int .i64 m.dept) ∧ w'.cell? ⟨gm, om + k * 5 + 3, none⟩ = some (.int .i64 m.day) ∧ w'.cell? ⟨gm, om + k * 5 + 4, none⟩ = some (.slice m.aa m.ans.length m.ac)) 7 rfl (by kernel_rfl) (by kernel_rfl) (by kernel_rfl) ⟨y0, c0, c1, c2, c3, c4⟩ (fun hHeld => ?_)
    dsimp only [List.dropLast, List.replicate] at hHeld ⊢
    change w1.drew.cell? _ = _ at y0 c0 c1 c2 c3 c4
    replace hb0 := hb0.drew
    generalize w1.drew = wd at *
    refine held_take (0) (v := ?_) rfl (by kernel_rfl) (by kernel_rfl) (by kernel_rfl) (fun _ _ _ h => h) (Or.inl ⟨by rfl, ?_⟩) (by assumption) ?_
    rotate_left
    · intro w hSw
      try dsimp only at hSw
      go_simp
      with_reducible rfl
    try simp only [Act.put, List.setIfInBounds_toArray, List.set_cons_zero, List.set_cons_succ]
    refine held_take (1) (v := ?_) rfl (by kernel_rfl) (by kernel_rfl) (by kernel_rfl) (fun _ _ _ h => h) (Or.inl ⟨by rfl, ?_⟩) (by assumption) ?_
    rotate_left
    · intro w hSw
      try dsimp only at hSw
      go_simp
      with_reducible rfl
    try simp only [Act.put, List.setIfInBounds_toArray, List.set_cons_zero, List.set_cons_succ]
    refine held_take (2) (v := ?_) rfl (by kernel_rfl) (by kernel_rfl) (by kernel_rfl) (fun _ _ _ h => h) (Or.inl ⟨by rfl, ?_⟩) (by assumption) ?_
    rotate_left
    · intro w hSw
      try dsimp only at hSw
      go_simp
      with_reducible rfl
    try simp only [Act.put, List.setIfInBounds_toArray, List.set_cons_zero, List.set_cons_succ]
    refine held_take (3) (v := ?_) rfl (by kernel_rfl) (by kernel_rfl) (by kernel_rfl) (fun _ _ _ h => h) (Or.inl ⟨by rfl, ?_⟩) (by assumption) ?_
    rotate_left
    · intro w hSw
      try dsimp only at hSw
      go_simp
      with_reducible rfl
    try simp only [Act.put, List.setIfInBounds_toArray, List.set_cons_zero, List.set_cons_succ]
    refine held_take (4) (v := ?_) rfl (by kernel_rfl) (by kernel_rfl) (by kernel_rfl) (fun _ _ _ h => h) (Or.inl ⟨by rfl, ?_⟩) (by assumption) ?_
    rotate_left
    · intro w hSw
      try dsimp only at hSw
      go_simp
      with_reducible rfl
    try simp only [Act.put, List.setIfInBounds_toArray, List.set_cons_zero, List.set_cons_succ]
    refine held_take (5) (v := ?_) rfl (by kernel_rfl) (by kernel_rfl) (by kernel_rfl) (fun _ _ _ h => h) (Or.inl ⟨by rfl, ?_⟩) (by assumption) ?_
    rotate_left
    · intro w hSw
      try dsimp only at hSw
      go_simp
      with_reducible rfl
    try simp only [Act.put, List.setIfInBounds_toArray, List.set_cons_zero, List.set_cons_succ]
    refine wpAnyH_ready (rs := [6]) (by kernel_rfl) (by simp) ?_
    refine held_cons rfl (fun K hK => ?_) AllReadyH.nil
    go_simp
    have hbV := (Below.refl wd.heap.size wd).alloc (Nat.le_refl _) (.cells #[.slice a T.length c, .string ⟨m.person.toArray⟩, .int .i64 m.number, .int .i64 m.dept, .int .i64 m.day, .slice m.aa m.ans.length m.ac, .slice none 0 0] 121)
    have hVb := Bx.new wd 121 [.slice a T.length c, .string ⟨m.person.toArray⟩, .int .i64 m.number, .int .i64 m.dept, .int .i64 m.day, .slice m.aa m.ans.length m.ac, .slice none 0 0]
    change Bx (wd.alloc (.cells #[.slice a T.length c, .string ⟨m.person.toArray⟩, .int .i64 m.number, .int .i64 m.dept, .int .i64 m.day, .slice m.aa m.ans.length m.ac, .slice none 0 0] 121)) _ _ _ at hVb
    refine hK.out _ _ ⟨cell_alloc hbV y0, cell_alloc hbV c0, cell_alloc hbV c1, cell_alloc hbV c2, cell_alloc hbV c3, cell_alloc hbV c4⟩ (fun hHeld => ?_)
    clear hK K
    try simp only [Act.put, List.setIfInBounds_toArray, List.set_cons_zero, List.set_cons_succ]
    refine wpAnyH_done (by kernel_rfl) ?_ _
    dsimp only [Behind]
    have hb3 := hb0.trans (hbV.mono hb0.size)
    have hV : Vg w (wd.alloc (.cells #[.slice a T.length c, .string ⟨m.person.toArray⟩, .int .i64 m.number, .int .i64 m.dept, .int .i64 m.day, .slice m.aa m.ans.length m.ac, .slice none 0 0] 121)) wd.heap.size a T c m none [] 0 0 := ⟨hVb, Ow.nil _ _ _, hb3, hb0.size, rfl⟩
    go_wp2_with fail
    go_meet
    exact ⟨_, rfl, hV⟩
  case rest =>
    obtain ⟨g, rfl, hV⟩ := hcut
    clear c0 c1 c2 c3 c4 hMw h1 hb0 d1 d2
    go_wp2_with fail
    go_loopw [28] (fun i wr => ∃ (j : Nat) (oa : Option Addr) (n oc : Nat), j ≤ M.length ∧ i = .int .i64 (j : Int) ∧ n ≤ j ∧ Vg w wr g a T c m oa (othF (M.take j) m) n oc) (fun i _ => M.length - (intOf i).toNat)
    case atStart => exact ⟨0, none, 0, 0, Nat.zero_le _, rfl, Nat.le_refl _, hV⟩
    case round =>
      clear hV
      obtain ⟨j, oa, n, oc, hj, rfl, hnj, hV⟩ := hrel
      by_cases hjt : j < M.length
      rotate_left
      · have hjl : ¬ (j : Int) < (M.length : Int) := by omega
        obtain rfl : j = M.length := by omega
        rw [List.take_length] at hV
        have HB := Lib.hid hV.b
        have HV := Lib.hid (hV.fin HT.out HM.out HMM.out)
        clear hV
        go_wp2
        go_ret2
        exact LookRes.yes HR.out HV.out HB.out
      have hjl : (j : Int) < (M.length : Int) := by omega
      obtain ⟨g', o', y, e', hy, ⟨x0, x1, x2, x3, x4⟩, -, -⟩ := (HM.out.keep hV.b).mem (k := j) hjt
      cases e'
      have hbL := (Below.refl wr.heap.size wr).alloc (Nat.le_refl _) (.cells #[.string ⟨y.person.toArray⟩, .int .i64 y.number, .int .i64 y.dept, .int .i64 y.day, .slice y.aa y.ans.length y.ac] 39)
      have hL := Bx.new wr 39 [.string ⟨y.person.toArray⟩, .int .i64 y.number, .int .i64 y.dept, .int .i64 y.day, .slice y.aa y.ans.length y.ac]
      change Bx (wr.alloc (.cells #[.string ⟨y.person.toArray⟩, .int .i64 y.number, .int .i64 y.dept, .int .i64 y.day, .slice y.aa y.ans.length y.ac] 39)) _ _ _ at hL
      have hV1 := hV.keep hbL
      have hgl := hV.v.lt
      have NE : Hid (∀ j, rowOf oa = some j → j < wr.heap.size) := Lib.hid (fun j hj => (hV.o.row j hj).2)
      clear hV hbL
      go_upto_region 7 with (fail)
      generalize wr.alloc (.cells #[.string ⟨y.person.toArray⟩, .int .i64 y.number, .int .i64 y.dept, .int .i64 y.day, .slice y.aa y.ans.length y.ac] 39) = w2 at *
      generalize wr.heap.size = gy at *
      have HSN := Lib.hid (othF_snoc (M.take j) m y)
      rw [← take_at hy] at HSN
      clear x0 x1 x2 x3 x4 hy
      have z0 := hL.cell 0 rfl
      have z1 := hV1.v.cell 1 rfl
      have u0 := fun d os => cell_regrown z0 d os
      have u1 := fun d os => cell_regrown z1 d os
      by_cases hp : y.person = m.person
      · have e1 : (y.person == m.person) = true := by rw [beq_iff_eq]; exact hp
        have e2 : (y.person != m.person) = false := by rw [bne_eq_false_iff_eq]; exact hp
        have hs := HSN.out
        rw [if_pos hp] at hs
        rw [← hs] at hV1
        have HV1 := Lib.hid hV1
        clear hs hp HSN hV1 hL
        refine wp_region_quiet_below (by kernel_rfl) (by kernel_rfl) ?_
        repeat (go_big_quiet_step (fail))
        refine wpQuiet_nil ?_
        rintro w7 ⟨p2, hw7⟩
        have hb := Lib.hid (show Below w2.heap.size w2 w7 by first | (rw [hw7]; exact below_regrown w2 p2.d p2.os) | (rw [← hw7]; exact below_regrown w2 p2.d p2.os))
        clear hw7
        go_wp2_with fail
        go_roundw
        case rel => exact ⟨j + 1, oa, n, oc, by omega, by go_num, by omega, HV1.out.keep hb.out⟩
        case measure => simp [intOf]; omega
      · have e1 : (y.person == m.person) = false := by rw [beq_eq_false_iff_ne]; exact hp
        have e2 : (y.person != m.person) = true := by rw [bne_iff_ne]; exact hp
        have hs := HSN.out
        rw [if_neg hp] at hs
        have HS2 := Lib.hid hs
        have HV1 := Lib.hid hV1
        have HL1 := Lib.hid hL
        clear hs hp HSN hV1 hL
        go_cut [39] (fun v wx => v = .bool true ∧ Below w2.heap.size w2 wx)
        case first =>
          refine wp_region_quiet_below (by kernel_rfl) (by kernel_rfl) ?_
          repeat (go_big_quiet_step (fail))
          refine wpQuiet_nil ?_
          rintro w7 ⟨p2, hw7⟩
          have hb := Lib.hid (show Below w2.heap.size w2 w7 by first | (rw [hw7]; exact below_regrown w2 p2.d p2.os) | (rw [← hw7]; exact below_regrown w2 p2.d p2.os))
          clear hw7
          go_wp2_with fail
          go_meet
          exact ⟨rfl, hb.out⟩
        case rest =>
          obtain ⟨rfl, hb5⟩ := hcut
          have hV5 := HV1.out.keep hb5
          have hL5 := HL1.out.keep hb5
          clear u0 u1 z0 z1 hb5
          go_upto_region 8 with (fail)
          refine wp_region_held_last' (S := fun w' => w'.cell? ⟨g, 6, none⟩ = some (.slice oa n oc) ∧ w'.cell? ⟨gy, 0, none⟩ = some (.string ⟨y.person.toArray⟩) ∧ w'.cell? ⟨gy, 1, none⟩ = some (.int .i64 y.number) ∧ w'.cell? ⟨gy, 2, none⟩ = some (.int .i64 y.dept) ∧ w'.cell? ⟨gy, 3, none⟩ = some (.int .i64 y.day) ∧ w'.cell? ⟨gy, 4, none⟩ = some (.slice y.aa y.ans.length y.ac)) 10 rfl (by kernel_rfl) (by kernel_rfl) (by kernel_rfl) ⟨(hV5.keep (Below.refl _ _).drew).v.cell 6 rfl, hL5.drew.cell 0 rfl, hL5.drew.cell 1 rfl, hL5.drew.cell 2 rfl, hL5.drew.cell 3 rfl, hL5.drew.cell 4 rfl⟩ (fun hHeld => ?_)
          dsimp only [List.dropLast, List.replicate] at hHeld ⊢
          replace hV5 := hV5.keep (Below.refl _ _).drew
          replace hL5 := hL5.drew
          generalize wc.drew = wd at *
          refine held_take (0) (v := ?_) rfl (by kernel_rfl) (by kernel_rfl) (by kernel_rfl) (fun _ _ _ h => h) (Or.inl ⟨by rfl, ?_⟩) (by assumption) ?_
          rotate_left
          · intro w hSw
            try dsimp only at hSw
            go_simp
            with_reducible rfl
          try simp only [Act.put, List.setIfInBounds_toArray, List.set_cons_zero, List.set_cons_succ]
          refine held_take (1) (v := ?_) rfl (by kernel_rfl) (by kernel_rfl) (by kernel_rfl) (fun _ _ _ h => h) (Or.inl ⟨by rfl, ?_⟩) (by assumption) ?_
          rotate_left
          · intro w hSw
            try dsimp only at hSw
            go_simp
            with_reducible rfl
          try simp only [Act.put, List.setIfInBounds_toArray, List.set_cons_zero, List.set_cons_succ]
          refine held_take (2) (v := ?_) rfl (by kernel_rfl) (by kernel_rfl) (by kernel_rfl) (fun _ _ _ h => h) (Or.inl ⟨by rfl, ?_⟩) (by assumption) ?_
          rotate_left
          · intro w hSw
            try dsimp only at hSw
            go_simp
            with_reducible rfl
          try simp only [Act.put, List.setIfInBounds_toArray, List.set_cons_zero, List.set_cons_succ]
          refine held_take (3) (v := ?_) rfl (by kernel_rfl) (by kernel_rfl) (by kernel_rfl) (fun _ _ _ h => h) (Or.inl ⟨by rfl, ?_⟩) (by assumption) ?_
          rotate_left
          · intro w hSw
            try dsimp only at hSw
            go_simp
            with_reducible rfl
          try simp only [Act.put, List.setIfInBounds_toArray, List.set_cons_zero, List.set_cons_succ]
          refine held_take (4) (v := ?_) rfl (by kernel_rfl) (by kernel_rfl) (by kernel_rfl) (fun _ _ _ h => h) (Or.inl ⟨by rfl, ?_⟩) (by assumption) ?_
          rotate_left
          · intro w hSw
            try dsimp only at hSw
            go_simp
            with_reducible rfl
          try simp only [Act.put, List.setIfInBounds_toArray, List.set_cons_zero, List.set_cons_succ]
          refine held_take (5) (v := ?_) rfl (by kernel_rfl) (by kernel_rfl) (by kernel_rfl) (fun _ _ _ h => h) (Or.inl ⟨by rfl, ?_⟩) (by assumption) ?_
          rotate_left
          · intro w hSw
            try dsimp only at hSw
            go_simp
            with_reducible rfl
          try simp only [Act.put, List.setIfInBounds_toArray, List.set_cons_zero, List.set_cons_succ]
          refine wpAnyH_ready (rs := [6]) (by kernel_rfl) (by simp) ?_
          refine held_cons rfl (fun K hK => ?_) AllReadyH.nil
          go_simp
          have hbL := (Below.refl wd.heap.size wd).alloc (Nat.le_refl _) (.cells #[.string ⟨y.person.toArray⟩, .int .i64 y.number, .int .i64 y.dept, .int .i64 y.day, .slice y.aa y.ans.length y.ac] 39)
          refine hK.out _ _ ⟨(hV5.keep hbL).v.cell 6 rfl, (hL5.keep hbL).cell 0 rfl, (hL5.keep hbL).cell 1 rfl, (hL5.keep hbL).cell 2 rfl, (hL5.keep hbL).cell 3 rfl, (hL5.keep hbL).cell 4 rfl⟩ (fun hHeld => ?_)
          clear hK K
          try simp only [Act.put, List.setIfInBounds_toArray, List.set_cons_zero, List.set_cons_succ]
          refine wpAnyH_ready (rs := [7]) (by kernel_rfl) (by simp) ?_
          refine held_cons rfl (fun K hK => ?_) AllReadyH.nil
          refine step_appn (w0 := w) (B := w.heap.size) (base := g + 1) rfl _ _ _ rfl elMem rfl hV5.o hV5.b (by have := hV5.lo; omega) (by have := hV5.v.lt; omega) (m := 1) (cs := [.string ⟨y.person.toArray⟩, .int .i64 y.number, .int .i64 y.dept, .int .i64 y.day, .slice y.aa y.ans.length y.ac]) rfl rfl (by intro u hu; simp at hu; rcases hu with rfl | rfl | rfl | rfl | rfl <;> rfl) (by omega) ?_
          intro a2 c2 wA hO8 hb8 hg8
          have HV6 := Lib.hid (hV5.app (y := y) hO8 hb8 hg8)
          have q6 := (hV5.old hg8).1
          have f6 := (hV5.old hg8).2
          have hL6 := hL5.grown hg8 (fun e => by have := NE.out _ e.symm; omega)
          clear hO8 hb8 hg8
          refine hK.out _ _ ⟨q6, hL6.cell 0 rfl, hL6.cell 1 rfl, hL6.cell 2 rfl, hL6.cell 3 rfl, hL6.cell 4 rfl⟩ (fun hHeld => ?_)
          clear hK K
          try simp only [Act.put, List.setIfInBounds_toArray, List.set_cons_zero, List.set_cons_succ]
          refine held_take (8) (v := ?_) rfl (by kernel_rfl) (by kernel_rfl) (by kernel_rfl) (fun _ _ _ h => h) (Or.inl ⟨by rfl, ?_⟩) (by assumption) ?_
          rotate_left
          · intro w hSw
            try dsimp only at hSw
            go_simp
            with_reducible rfl
          try simp only [Act.put, List.setIfInBounds_toArray, List.set_cons_zero, List.set_cons_succ]
          refine held_take (9) (v := ?_) rfl (by kernel_rfl) (by kernel_rfl) (by kernel_rfl) (fun _ _ _ h => h) (Or.inl ⟨by rfl, ?_⟩) (by assumption) ?_
          rotate_left
          · intro w hSw
            try dsimp only at hSw
            go_simp
            with_reducible rfl
          try simp only [Act.put, List.setIfInBounds_toArray, List.set_cons_zero, List.set_cons_succ]
          refine wpAnyH_done (by kernel_rfl) ?_ _
          dsimp only [Behind]
          have hV7 := HV6.out
          rw [← HS2.out] at hV7
          have HV7 := Lib.hid hV7
          clear hV7 hL6 HV6 hV5 hL5 hbL
          go_simp
          go_wp2_with fail
          go_roundw
          case rel => exact ⟨j + 1, a2, n + 1, c2, by omega, by go_num, by omega, HV7.out⟩
          case measure => simp [intOf]; omega
end Go.Proofs.YtpofijdkckaphaaGreatDoor
