/- ranges.In. -/
import Derived.Test.YtpofijdkckaphaaGreatDoorBase
import Derived.Test.YtpofijdkckaphaaGreatDoorGGreD
import Derived.Test.YtpofijdkckaphaaGreatDoorGCndG
import Derived.Test.YtpofijdkckaphaaGreatDoorGAppAt
import Derived.WalkMore
import Derived.ScopeJumps
namespace Go.Proofs.YtpofijdkckaphaaGreatDoor
open Go.RowKit
set_option maxRecDepth 100000 in
theorem in_walk (n lo hi : Int) (w : World) :
    Calls Tryz.prog 57 #[.int .i64 n, .int .i64 lo, .int .i64 hi] w fun e w' => e = .returned (.bool (decide (lo ≤ n) && decide (n ≤ hi))) ∧ w = w' := by
  by_cases h1 : lo ≤ n
  · have d1 : decide (n ≥ lo) = true := by simpa using h1
    have d1' : decide (lo ≤ n) = true := by simpa using h1
    go_enter Tryz.func57, Tryz.ntmps57
    go_wp2
    go_ret
    exact ⟨by simp [h1], rfl⟩
  · have d1 : decide (n ≥ lo) = false := by simpa using h1
    go_enter Tryz.func57, Tryz.ntmps57
    go_wp2
    go_ret
    exact ⟨by simp, rfl⟩
/-- the two answers apart -/
theorem in_yes {n lo hi : Int} (w : World) (h : lo ≤ n ∧ n ≤ hi) : Calls Tryz.prog 57 #[.int .i64 n, .int .i64 lo, .int .i64 hi] w fun e w' => e = .returned (.bool true) ∧ w = w' := by
  have := in_walk n lo hi w
  rwa [decide_eq_true h.1, decide_eq_true h.2] at this
theorem in_no {n lo hi : Int} (w : World) (h : ¬ (lo ≤ n ∧ n ≤ hi)) : Calls Tryz.prog 57 #[.int .i64 n, .int .i64 lo, .int .i64 hi] w fun e w' => e = .returned (.bool false) ∧ w = w' := by
  have := in_walk n lo hi w
  rwa [show (decide (lo ≤ n) && decide (n ≤ hi)) = false by rw [Bool.and_eq_false_iff, decide_eq_false_iff_not, decide_eq_false_iff_not]; omega] at this
end Go.Proofs.YtpofijdkckaphaaGreatDoor
/- Seats: ranges.Rising; all the numbers (ranges.Where at the closure of all). -/
namespace Go.Proofs.YtpofijdkckaphaaGreatDoor
open Go.RowKit
set_option maxRecDepth 100000 in
set_option maxHeartbeats 2000000 in
theorem rising_walk (n : Nat) (hi : Int) (a : Option Addr) (l : List Int) (cap : Nat) (w : World) (hhi : hi = (n : Int) - 1) (hR : Rd w a (ints l)) (hl : l.length ≤ 281474976710656) :
    Calls Tryz.prog 34 #[.slice a l.length cap, .int .i64 0, .int .i64 hi] w fun e w' => e = .returned (.bool (riseP n l)) ∧ w = w' := by
  go_enter Tryz.func34, Tryz.ntmps34
  go_wp2_with fail
  go_loopw [11] (fun i wr => ∃ k : Nat, wr = w ∧ k ≤ l.length ∧ i = .int .i64 (k : Int) ∧ Hid (riseP n (l.take k) = true)) (fun i _ => l.length - (intOf i).toNat)
  case atStart => exact ⟨0, rfl, Nat.zero_le _, rfl, Lib.hid (by simp [riseP])⟩
  case round =>
    obtain ⟨k, rfl, hk, rfl, hA⟩ := hrel
    by_cases hkt : k < l.length
    · obtain ⟨gx, off, x, rfl, hc, hx⟩ := hR.int (k := k) hkt
      have hkl : (k : Int) < (l.length : Int) := by omega
      by_cases h1 : 0 ≤ x ∧ x ≤ hi
      rotate_left
      · have KI := Lib.hid (fun V : World => in_no (n := x) (lo := 0) (hi := hi) V h1)
        have HF := Lib.hid (rise_out (n := n) (mem_at hx) (by omega))
        clear hA hx hR h1 hhi
        go_wp2_with (go_at_call 57; (with_reducible refine (KI.out _).mono ?_); rintro e w1 ⟨rfl, rfl⟩)
        go_ret
        exact ⟨by rw [HF.out]; rfl, rfl⟩
      have KI := Lib.hid (fun V : World => in_yes (n := x) (lo := 0) (hi := hi) V h1)
      by_cases hk0 : k = 0
      · have hk1 : decide ((k : Int) > 0) = false := decide_eq_false (by omega)
        have hk2 : decide (0 < k) = false := decide_eq_false (by omega)
        have hk3 : ¬ (0 < k) := by omega
        have hk4 : ¬ ((k : Int) > 0) := by omega
        have HT := Lib.hid (rise_step hA.out hx.out (n := n) (by omega) (fun y h => absurd h (by omega)))
        clear hA hx hR h1 hhi hk0
        go_wp2_with (go_at_call 57; (with_reducible refine (KI.out _).mono ?_); rintro e w1 ⟨rfl, rfl⟩)
        go_roundw
        case rel => exact ⟨k + 1, trivial, by omega, by go_num, HT⟩
        case measure => simp [intOf]; omega
      · have hk1 : decide ((k : Int) > 0) = true := decide_eq_true (by omega)
        obtain ⟨gx', off', y, hga', hc2, hy⟩ := hR.int (k := k - 1) (by omega)
        cases hga'
        have e1 : IntKind.i64.wrap ((k : Int) - 1) = ((k - 1 : Nat) : Int) := by rw [IntKind.wrap_i64] <;> omega
        have hkm : ((k - 1 : Nat) : Int) < (l.length : Int) := by omega
        by_cases hxy : x ≤ y
        · have HF := Lib.hid (rise_fall (n := n) (by omega) hx.out hy.out hxy)
          clear hA hx hy hR h1 hhi
          go_wp2_with (go_at_call 57; (with_reducible refine (KI.out _).mono ?_); rintro e w1 ⟨rfl, rfl⟩)
          go_ret
          exact ⟨by rw [HF.out]; rfl, rfl⟩
        · have HT := Lib.hid (rise_step hA.out hx.out (n := n) (by omega) (fun z _ hz => by
            rw [hy.out] at hz
            have := Option.some.inj hz
            omega))
          clear hA hx hy hR h1 hhi
          go_wp2_with (go_at_call 57; (with_reducible refine (KI.out _).mono ?_); rintro e w1 ⟨rfl, rfl⟩)
          go_roundw
          case rel => exact ⟨k + 1, trivial, by omega, by go_num, HT⟩
          case measure => simp [intOf]; omega
    · have hkl : ¬ (k : Int) < (l.length : Int) := by omega
      obtain rfl : k = l.length := by omega
      have HT : Hid (riseP n l = true) := Lib.hid (by have := hA.out; rwa [List.take_length] at this)
      clear hA
      go_wp2
      go_ret
      exact ⟨by rw [HT.out]; rfl, rfl⟩
theorem upI_succ (n : Nat) : upI (n + 1) = upI n ++ [(n : Int)] := by
  unfold upI
  rw [List.range_succ, List.map_append]
  rfl
set_option maxRecDepth 100000 in
theorem all1_clo (x : Int) (w : World) : Calls Tryz.prog 64 #[.int .i64 x] w fun e w' => e = .returned (.bool true) ∧ Below w.heap.size w w' := by
  go_enter Tryz.func64, Tryz.ntmps64
  go_wp2
  go_ret
  exact ⟨rfl, Below.refl _ _⟩
set_option maxRecDepth 100000 in
set_option maxHeartbeats 2000000 in
theorem where_walk (n : Nat) (w : World) (hn : n ≤ 100000) :
    Calls Tryz.prog 63 #[.int .i64 (n : Int), .func (.func 64) #[] #[]] w fun e w' => ∃ a c, e = .returned (.slice a n c) ∧ Ow w' w.heap.size 1 a n c (ints (upI n)) ∧ Below w.heap.size w w' := by
  have K1 := Lib.hid all1_clo
  go_enter Tryz.func63, Tryz.ntmps63
  go_wp2_with fail
  go_loopw [5, 8] (fun v i wr => ∃ (k : Nat) (a : Option Addr) (c : Nat), k ≤ n ∧ i = .int .i64 (k : Int) ∧ v = .slice a k c ∧ Ow wr w.heap.size 1 a k c (ints (upI k)) ∧ Below w.heap.size w wr) (fun _ i _ => n - (intOf i).toNat)
  case atStart => exact ⟨0, none, 0, by omega, rfl, rfl, Ow.nil _ _ _, Below.refl _ _⟩
  case round =>
    obtain ⟨k, a, c, hk, rfl, rfl, hO, hB⟩ := hrel
    by_cases hkt : k < n
    · have hkl : (k : Int) < (n : Int) := by omega
      go_wp2_with ((with_reducible refine (K1.out _ _).mono ?_))
      rintro e w1 ⟨rfl, hb1⟩
      replace hO := hO.keep hb1
      replace hB := below_tr hB hb1
      clear hb1
      go_wp2_with (at_builtin; refine wpList_app1 (w0 := w) (B := w.heap.size) rfl _ _ _ rfl el_int rfl hO hB (Nat.le_refl _) hB.size rfl (by rfl) (one1 rfl) (by omega) ?_)
      intro b' c' w2 hO3 hB3 _
      have e3 : ints (upI k) ++ [.int .i64 (k : Int)] = ints (upI (k + 1)) := by rw [upI_succ, ints_snoc]
      rw [e3] at hO3
      clear hO hB e3
      go_wp2
      go_roundw
      case rel => exact ⟨k + 1, b', c', by omega, by go_num, rfl, hO3, hB3⟩
      case measure => simp [intOf]; omega
    · have hkl : ¬ (k : Int) < (n : Int) := by omega
      obtain rfl : k = n := by omega
      go_wp2
      go_ret
      exact ⟨a, c, rfl, hO, hB⟩
end Go.Proofs.YtpofijdkckaphaaGreatDoor
/- Seats: all of them; lists of lists; the program's run: the greatest set and the rounds. -/
namespace Go.Proofs.YtpofijdkckaphaaGreatDoor
open Go.RowKit
/-- a list of numbers and where it lies -/
structure IL where
  ad : Option Addr
  cap : Nat
  lst : List Int
def ilV (x : IL) : Value := .slice x.ad x.lst.length x.cap
/-- lists of numbers that can be read -/
structure RdL (w : World) (a : Option Addr) (R : List IL) : Prop where
  rows : Rd w a (R.map ilV)
  each : ∀ x ∈ R, Rd w x.ad (ints x.lst)
theorem RdL.keep {w w' : World} {a : Option Addr} {R : List IL} (h : RdL w a R) (hb : Below w.heap.size w w') : RdL w' a R := ⟨h.rows.keep hb, fun x hx => (h.each x hx).keep hb⟩
theorem RdL.nil (w : World) (a : Option Addr) : RdL w a [] := ⟨Rd.nil _ _, fun x hx => by simp at hx⟩
theorem RdL.at {w : World} {a : Option Addr} {R : List IL} (h : RdL w a R) {k : Nat} (hk : k < R.length) : ∃ g off x, a = some ⟨g, off, none⟩ ∧ w.cell? ⟨g, off + k, none⟩ = some (.slice x.ad x.lst.length x.cap) ∧ Hid (R[k]? = some x) ∧ Rd w x.ad (ints x.lst) := by
  obtain ⟨g, off, ha, hc⟩ := h.rows k (ilV R[k]) (by simp [hk])
  exact ⟨g, off, R[k], ha, hc, Lib.hid (List.getElem?_eq_getElem hk), h.each _ (List.getElem_mem hk)⟩
theorem elIL : ElemOf Tryz.prog 36 22 (.slice none 0 0) 1 24 := ⟨Tryz.underlying36, by kernel_rfl, rfl, by decide, by decide⟩
set_option maxRecDepth 100000 in
theorem all_walk (l : List Seat) (a : Option Addr) (c : Nat) (w : World) (hl : l.length ≤ 100000) :
    Calls Tryz.prog 40 #[.slice a l.length c] w fun e w' => ∃ a1 c1, e = .returned (.slice a1 l.length c1) ∧ Ow w' w.heap.size 1 a1 l.length c1 (ints (upI l.length)) ∧ Below w.heap.size w w' := by
  have K1 := Lib.hid (fun V => where_walk l.length V hl)
  go_enter Tryz.func40, Tryz.ntmps40
  go_wp2_with (go_at_call 63; (with_reducible refine (K1.out _).mono ?_); rintro e w1 ⟨a1, c1, rfl, hO1, hb1⟩)
  go_ret
  exact ⟨a1, c1, rfl, hO1, hb1⟩
/-- the rounds so far: what they are -/
structure Rl (l : List Seat) (A : List Int) (n q : Nat) (R : List IL) : Prop where
  lt : A.length < q
  e : runP (opS l) (holdS wiF l) q A (R.map IL.lst) = runP (opS l) (holdS wiF l) (l.length + 1) (upI l.length) []
  i : ∀ x ∈ A, x ∈ upI l.length
  al : A.length ≤ l.length
  m : A.length + n ≤ l.length
theorem Rl.sub {l : List Seat} {A : List Int} {n q : Nat} {R : List IL} (_ : Rl l A n q R) : (goesP (opS l) (holdS wiF l) A).Sublist A := List.filter_sublist
theorem Rl.fin {l : List Seat} {A : List Int} {n q : Nat} {R : List IL} (h : Rl l A n q R) (hg : goesP (opS l) (holdS wiF l) A = []) : setP (opS l) (holdS wiF l) l.length = A ∧ roundsP (opS l) (holdS wiF l) l.length = R.map IL.lst := by
  have hq := h.lt
  obtain ⟨k, rfl⟩ : ∃ k, q = k + 1 := ⟨q - 1, by omega⟩
  have he := h.e
  rw [runP, if_pos hg] at he
  unfold setP roundsP
  rw [← he]
  exact ⟨rfl, rfl⟩
theorem Rl.go {l : List Seat} {A : List Int} {n q : Nat} {R : List IL} (h : Rl l A n q R) (hg : goesP (opS l) (holdS wiF l) A ≠ []) (a3 : Option Addr) (c3 : Nat) : ∃ q2, Rl l (lessP A (goesP (opS l) (holdS wiF l) A)) (n + 1) q2 (R ++ [⟨a3, c3, goesP (opS l) (holdS wiF l) A⟩]) ∧ (lessP A (goesP (opS l) (holdS wiF l) A)).length < A.length := by
  have hq := h.lt
  obtain ⟨k, rfl⟩ : ∃ k, q = k + 1 := ⟨q - 1, by omega⟩
  have he := h.e
  rw [runP, if_neg hg] at he
  have hlt := goes_lt hg
  refine ⟨k, ⟨by omega, ?_, fun x hx => h.i x (less_sub.subset hx), by have := h.al; omega, by have := h.m; omega⟩, hlt⟩
  rw [List.map_append]
  exact he
/-- the rounds so far: where they lie -/
structure Rm (W w : World) (a1 : Option Addr) (A : List Int) (a2 : Option Addr) (c2 n : Nat) (R : List IL) : Prop where
  a : Rd w a1 (ints A)
  an : ∀ j, rowOf a1 = some j → j < w.heap.size ∧ rowOf a2 ≠ some j
  o : Ow w W.heap.size 1 a2 n c2 (R.map ilV)
  r : ∀ x ∈ R, Rd w x.ad (ints x.lst)
  rn : ∀ x ∈ R, ∀ j, rowOf x.ad = some j → j < w.heap.size ∧ rowOf a2 ≠ some j
  b : Below W.heap.size W w
  nn : R.length = n
theorem Rm.keep {W w w' : World} {a1 : Option Addr} {A : List Int} {a2 : Option Addr} {c2 n : Nat} {R : List IL} (h : Rm W w a1 A a2 c2 n R) (hb : Below w.heap.size w w') : Rm W w' a1 A a2 c2 n R :=
  ⟨h.a.keep hb, fun j hj => ⟨Nat.lt_of_lt_of_le (h.an j hj).1 hb.size, (h.an j hj).2⟩, h.o.keep hb, fun x hx => (h.r x hx).keep hb, fun x hx j hj => ⟨Nat.lt_of_lt_of_le (h.rn x hx j hj).1 hb.size, (h.rn x hx j hj).2⟩, below_tr h.b hb, h.nn⟩
theorem Rm.far {W w : World} {a1 : Option Addr} {A : List Int} {a2 : Option Addr} {c2 n : Nat} {R : List IL} (h : Rm W w a1 A a2 c2 n R) : ∀ j, rowOf a2 = some j → j < w.heap.size := fun j hj => (h.o.row j hj).2
theorem rd_far {w w' : World} {a b : Option Addr} {xs : List Value} (h : Rd w a xs) (hg : w.grownBy w' (rowOf b)) (hn : ∀ j, rowOf a = some j → rowOf b ≠ some j) : Rd w' a xs :=
  h.grown hg (fun g off e e2 => hn g (by rw [e]; rfl) e2.symm)
theorem Rm.app {W w w' : World} {a1 : Option Addr} {A : List Int} {a2 : Option Addr} {c2 n : Nat} {R : List IL} (h : Rm W w a1 A a2 c2 n R) {a3 : Option Addr} {c3 : Nat} {G : List Int} {a5 : Option Addr} {c5 : Nat} (hR3 : Rd w a3 (ints G)) (hf : ∀ j, rowOf a3 = some j → j < w.heap.size ∧ rowOf a2 ≠ some j)
    (hg : w.grownBy w' (rowOf a2)) (hO : Ow w' W.heap.size 1 a5 (n + 1) c5 (R.map ilV ++ [.slice a3 G.length c3])) (hb : Below W.heap.size W w') (hat : rowOf a5 = rowOf a2 ∨ rowOf a5 = some (w.heap.size + 1)) : Rm W w' a1 A a5 c5 (n + 1) (R ++ [⟨a3, c3, G⟩]) ∧ Rd w' a3 (ints G) := by
  have key : ∀ {b : Option Addr}, (∀ j, rowOf b = some j → j < w.heap.size ∧ rowOf a2 ≠ some j) → ∀ j, rowOf b = some j → j < w'.heap.size ∧ rowOf a5 ≠ some j := fun hb j hj => by
    obtain ⟨h1, h2⟩ := hb j hj
    refine ⟨Nat.lt_of_lt_of_le h1 hg.size, fun e => ?_⟩
    rcases hat with e2 | e2
    · exact h2 (e2 ▸ e)
    · rw [e2] at e; have := Option.some.inj e; omega
  have hr3 := rd_far hR3 hg (fun j hj => (hf j hj).2)
  refine ⟨⟨rd_far h.a hg (fun j hj => (h.an j hj).2), key h.an, by rw [List.map_append]; exact hO, fun x hx => ?_, fun x hx => ?_, hb, by rw [List.length_append, h.nn]; rfl⟩, hr3⟩
  · rcases List.mem_append.1 hx with hx | hx
    · exact rd_far (h.r x hx) hg (fun j hj => (h.rn x hx j hj).2)
    · rw [List.mem_singleton] at hx
      subst hx
      exact hr3
  · rcases List.mem_append.1 hx with hx | hx
    · exact key (h.rn x hx)
    · rw [List.mem_singleton] at hx
      subst hx
      exact key hf
theorem Rm.turn {W w w' : World} {a1 : Option Addr} {A : List Int} {a2 : Option Addr} {c2 n : Nat} {R : List IL} (h : Rm W w a1 A a2 c2 n R) {a4 : Option Addr} {B : List Int} (hR : Rd w' a4 (ints B)) (hb : Below w.heap.size w w') (hf : ∀ j, rowOf a4 = some j → w.heap.size ≤ j ∧ j < w'.heap.size) : Rm W w' a4 B a2 c2 n R :=
  ⟨hR, fun j hj => ⟨(hf j hj).2, fun e => by have := h.far j e; have := (hf j hj).1; omega⟩, h.o.keep hb, fun x hx => (h.r x hx).keep hb, fun x hx j hj => ⟨Nat.lt_of_lt_of_le (h.rn x hx j hj).1 hb.size, (h.rn x hx j hj).2⟩, below_tr h.b hb, h.nn⟩
def lenS : Value → Nat
  | .slice _ n _ => n
  | _ => 0
set_option maxRecDepth 100000 in
set_option maxHeartbeats 2000000 in
theorem run_walk (l : List Seat) (a : Option Addr) (c : Nat) (w : World) (hS : RdS w a l) (hl : l.length ≤ 32) :
    Calls Tryz.prog 33 #[.slice a l.length c] w fun e w' => ∃ a1 c1 a2 c2 R, e = .returned (.tuple #[.slice a1 (setP (opS l) (holdS wiF l) l.length).length c1, .slice a2 R.length c2, .int .i64 0]) ∧ Rd w' a1 (ints (setP (opS l) (holdS wiF l) l.length)) ∧ RdL w' a2 R ∧ R.map IL.lst = roundsP (opS l) (holdS wiF l) l.length ∧ Below w.heap.size w w' := by
  have hl2 : decide ((l.length : Int) > 32) = false := decide_eq_false (by omega)
  have hl3 : ¬ (32 < l.length) := by omega
  obtain ⟨A0, hA0⟩ : ∃ A, A = upI l.length := ⟨_, rfl⟩
  have KA : Hid (∀ V, Calls Tryz.prog 40 #[.slice a l.length c] V fun e w' => ∃ a1 c1, e = .returned (.slice a1 A0.length c1) ∧ Ow w' V.heap.size 1 a1 l.length c1 (ints A0) ∧ Below V.heap.size V w') := Lib.hid (fun V => by
    have := all_walk l a c V (by omega)
    rw [hA0, upI_len]
    exact this)
  have HS := Lib.hid hS
  have HA0 := Lib.hid hA0
  have HLL := Lib.hid hl
  clear hS hA0 hl
  go_enter Tryz.func33, Tryz.ntmps33
  go_wp2
  refine wp_scope_jumps 0 (fun a' w' => ∃ (A : List Int) (a1 : Option Addr) (c1 : Nat) (R : List IL) (n : Nat) (a2 : Option Addr) (c2 q : Nat) (u5 u10 u11 u12 u13 u14 u15 u16 u17 u18 u19 u20 u21 u22 u23 u24 u25 : Value), a' = { tmps := #[.slice a l.length c, undef, .slice a1 A.length c1, .slice a2 n c2, .int .i64 0, u5, .slice a l.length c, .int .i64 (l.length : Int), .bool false, .slice a l.length c, u10, u11, u12, u13, u14, u15, u16, u17, u18, u19, u20, u21, u22, u23, u24, u25], defers := [] } ∧ Hid (Rl l A n q R) ∧ Hid (Rm w w' a1 A a2 c2 n R)) (fun a' _ => lenS (a'.tmps.getD 2 undef)) rfl ?_ ?_
  · go_wp2_with (go_at_call 40; (with_reducible refine (KA.out _).mono ?_); (first | rintro e wr ⟨a1, c1, rfl, hO1, hb1⟩ | rintro e wr a1 c1 rfl hO1 hb1))
    go_step3
    have hl := HLL.out
    have hl0 : Rl l A0 0 (l.length + 1) [] := ⟨by rw [HA0.out, upI_len]; omega, by rw [HA0.out]; rfl, by rw [HA0.out]; exact fun _ h => h, by rw [HA0.out, upI_len]; exact Nat.le_refl _, by rw [HA0.out, upI_len]; exact Nat.le_refl _⟩
    have hm : Rm w wr a1 A0 none 0 0 [] := ⟨hO1.rd, fun j hj => ⟨(hO1.row j hj).2, by simp [rowOf]⟩, Ow.nil _ _ _, fun x hx => by simp at hx, fun x hx => by simp at hx, hb1, rfl⟩
    clear hO1 hb1 KA
    generalize A0 = A at *
    have KG := Lib.hid (goes_walk l a c A a1 c1 wr (HS.out.keep hm.b) hm.a hl0.i (by have := hl0.al; omega))
    have hgs := hl0.sub
    have hgf := hl0.fin
    have hgg := hl0.go
    have hrow := hm.far
    generalize goesP (opS l) (holdS wiF l) A = G at *
    have hGl := hgs.length_le
    by_cases hg : G = []
    · have hgl : G.length = 0 := by rw [hg]; rfl
      have d1 : decide ((G.length : Int) > 0) = false := decide_eq_false (by omega)
      have d2 : ¬ (0 < G.length) := by omega
      have HF := Lib.hid (hgf hg)
      have HM := Lib.hid hm
      have HGL := Lib.hid hgl
      clear hgf hgg hm hl0 hrow hgs hGl hg hgl
      go_wp2_with (go_at_call 56; (with_reducible refine KG.out.mono ?_); (first | rintro e w3 ⟨a3, c3, rfl, hR3, hb3, -⟩ | rintro e w3 a3 c3 rfl hR3 hb3 -); clear hR3)
      simp only [Exit.jump]
      go_ret3
      exact ⟨a1, c1, none, 0, [], by rw [HF.out.1, HM.out.nn]; rfl, by rw [HF.out.1]; exact HM.out.a.keep hb3, ⟨HM.out.o.rd.keep hb3, fun x hx => (HM.out.r x hx).keep hb3⟩, HF.out.2.symm, below_tr HM.out.b hb3⟩
    · have hgl : 0 < G.length := List.length_pos_iff.2 hg
      have d1 : decide ((G.length : Int) > 0) = true := decide_eq_true (by omega)
      have HGo := Lib.hid (hgg hg)
      have hAl : A.length ≤ 1000 := by have := hl0.al; omega
      have hGl2 : G.length ≤ 1000 := by omega
      have hn32 : 0 ≤ 1000 := by omega
      have KL := Lib.hid (fun V a3 c3 (hA : Rd V a1 (ints A)) (hG : Rd V a3 (ints G)) => less_walk A G a1 a3 c1 c3 V hA hG hAl hGl2)
      have HL := Lib.hid hl0
      have hA0 := hm.an
      have hWs := hm.b.size
      have HM := Lib.hid hm
      clear hgf hgg hm hl0 hgs hGl hg hAl hA0
      go_wp2_with (first
        | (go_at_call 56; (with_reducible refine KG.out.mono ?_); (first | rintro e w3 ⟨a3, c3, rfl, hR3, hb3, hf3⟩ | rintro e w3 a3 c3 rfl hR3 hb3 hf3); have hm3 := HM.out.keep hb3; have hz3 := hm3.b.size; have hO3 := hm3.o; have hbw3 := hm3.b; have hfar3 : ∀ j, rowOf a3 = some j → j < w3.heap.size ∧ rowOf none ≠ some j := (fun j hj => ⟨(hf3 j hj).2, fun e => by have := hrow j e; have := (hf3 j hj).1; omega⟩); clear hf3)
        | (at_builtin; refine wpList_app1_at (w0 := w) (B := w.heap.size) (base := w.heap.size) rfl _ _ _ rfl elIL rfl hO3 hbw3 (Nat.le_refl _) hz3 (cs := [.slice a3 G.length c3]) rfl rfl (by intro u hu; simp at hu; subst hu; rfl) (by omega) ?_; intro a5 c5 w8 hO5 hb5 hg5 hat5; have hm8 := hm3.app (G := G) (c3 := c3) hR3 hfar3 hg5 hO5 hb5 hat5; clear hO3 hbw3 hz3 hfar3 hO5 hb5 hg5 hat5 hR3 hm3)
        | (go_at_call 41; (with_reducible refine (KL.out _ _ _ hm8.1.a hm8.2).mono ?_); (first | rintro e w9 ⟨a4, c4, rfl, hR4, hb4, hf4⟩ | rintro e w9 a4 c4 rfl hR4 hb4 hf4)))
      go_step3
      have hm9 := hm8.1.turn hR4 hb4 hf4
      obtain ⟨q2, hl9, hlt⟩ := HGo.out a3 c3
      exact ⟨rfl, lessP A G, a4, c4, [⟨a3, c3, G⟩], 1, a5, c5, q2, _, _, _, _, _, _, _, _, _, _, _, _, _, _, _, _, _, rfl, Lib.hid hl9, Lib.hid hm9⟩
  · rintro a' wr ⟨A, a1, c1, R, n, a2, c2, q, u5, u10, u11, u12, u13, u14, u15, u16, u17, u18, u19, u20, u21, u22, u23, u24, u25, rfl, hl9, hm9⟩
    have hl := HLL.out
    have hl0 := hl9.out
    have hm := hm9.out
    clear hl9 hm9 KA
    have KG := Lib.hid (goes_walk l a c A a1 c1 wr (HS.out.keep hm.b) hm.a hl0.i (by have := hl0.al; omega))
    have hgs := hl0.sub
    have hgf := hl0.fin
    have hgg := hl0.go
    have hrow := hm.far
    generalize goesP (opS l) (holdS wiF l) A = G at *
    have hGl := hgs.length_le
    by_cases hg : G = []
    · have hgl : G.length = 0 := by rw [hg]; rfl
      have d1 : decide ((G.length : Int) > 0) = false := decide_eq_false (by omega)
      have d2 : ¬ (0 < G.length) := by omega
      have HF := Lib.hid (hgf hg)
      have HM := Lib.hid hm
      have HGL := Lib.hid hgl
      clear hgf hgg hm hl0 hrow hgs hGl hg hgl
      go_wp2_with (go_at_call 56; (with_reducible refine KG.out.mono ?_); (first | rintro e w3 ⟨a3, c3, rfl, hR3, hb3, -⟩ | rintro e w3 a3 c3 rfl hR3 hb3 -); clear hR3)
      simp only [Exit.jump]
      go_ret3
      exact ⟨a1, c1, a2, c2, R, by rw [HF.out.1, HM.out.nn]; rfl, by rw [HF.out.1]; exact HM.out.a.keep hb3, ⟨HM.out.o.rd.keep hb3, fun x hx => (HM.out.r x hx).keep hb3⟩, HF.out.2.symm, below_tr HM.out.b hb3⟩
    · have hgl : 0 < G.length := List.length_pos_iff.2 hg
      have d1 : decide ((G.length : Int) > 0) = true := decide_eq_true (by omega)
      have HGo := Lib.hid (hgg hg)
      have hAl : A.length ≤ 1000 := by have := hl0.al; omega
      have hGl2 : G.length ≤ 1000 := by omega
      have hn32 : n ≤ 1000 := by have := hl0.m; have := hl0.al; have := hm.nn; omega
      have KL := Lib.hid (fun V a3 c3 (hA : Rd V a1 (ints A)) (hG : Rd V a3 (ints G)) => less_walk A G a1 a3 c1 c3 V hA hG hAl hGl2)
      have HL := Lib.hid hl0
      have hA0 := hm.an
      have hWs := hm.b.size
      have HM := Lib.hid hm
      clear hgf hgg hm hl0 hgs hGl hg hAl hA0
      go_wp2_with (first
        | (go_at_call 56; (with_reducible refine KG.out.mono ?_); (first | rintro e w3 ⟨a3, c3, rfl, hR3, hb3, hf3⟩ | rintro e w3 a3 c3 rfl hR3 hb3 hf3); have hm3 := HM.out.keep hb3; have hz3 := hm3.b.size; have hO3 := hm3.o; have hbw3 := hm3.b; have hfar3 : ∀ j, rowOf a3 = some j → j < w3.heap.size ∧ rowOf a2 ≠ some j := (fun j hj => ⟨(hf3 j hj).2, fun e => by have := hrow j e; have := (hf3 j hj).1; omega⟩); clear hf3)
        | (at_builtin; refine wpList_app1_at (w0 := w) (B := w.heap.size) (base := w.heap.size) rfl _ _ _ rfl elIL rfl hO3 hbw3 (Nat.le_refl _) hz3 (cs := [.slice a3 G.length c3]) rfl rfl (by intro u hu; simp at hu; subst hu; rfl) (by omega) ?_; intro a5 c5 w8 hO5 hb5 hg5 hat5; have hm8 := hm3.app (G := G) (c3 := c3) hR3 hfar3 hg5 hO5 hb5 hat5; clear hO3 hbw3 hz3 hfar3 hO5 hb5 hg5 hat5 hR3 hm3)
        | (go_at_call 41; (with_reducible refine (KL.out _ _ _ hm8.1.a hm8.2).mono ?_); (first | rintro e w9 ⟨a4, c4, rfl, hR4, hb4, hf4⟩ | rintro e w9 a4 c4 rfl hR4 hb4 hf4)))
      go_step3
      have hm9 := hm8.1.turn hR4 hb4 hf4
      obtain ⟨q2, hl9, hlt⟩ := HGo.out a3 c3
      exact ⟨rfl, ⟨lessP A G, a4, c4, R ++ [⟨a3, c3, G⟩], n + 1, a5, c5, q2, _, _, _, _, _, _, _, _, _, _, _, _, _, _, _, _, _, rfl, Lib.hid hl9, Lib.hid hm9⟩, hlt⟩
end Go.Proofs.YtpofijdkckaphaaGreatDoor
