/- Plays: play.Seats. -/
import Derived.Test.YtpofijdkckaphaaGreatDoorGPlyD
import Derived.Test.YtpofijdkckaphaaGreatDoorGGreX
namespace Go.Proofs.YtpofijdkckaphaaGreatDoor
open Go.RowKit
/-- the blocks that a seat hangs on -/
def SeRow (x : Seat) (j : Nat) : Prop := rowOf x.ca = some j ∨ (∃ t ∈ x.T, rowOf t.aa = some j) ∨ rowOf x.mem.aa = some j
theorem SeOk.kp {S : Nat → Prop} {w w' : World} {x : Seat} (h : SeOk w x) (hk : Kp S w w') (hs : ∀ j, SeRow x j → ¬ S j) : SeOk w' x :=
  ⟨h.1.kp hk (fun j hj => hs j (.inl hj)) (fun t ht j hj => hs j (.inr (.inl ⟨t, ht, hj⟩))), h.2.1.kp hk (fun j hj => hs j (.inr (.inr hj))), h.2.2.1, h.2.2.2⟩
theorem elSeat : ElemOf Tryz.prog 27 44 (.agg #[.string ByteArray.empty, .int .i64 0, .int .i64 0, .int .i64 0, .slice none 0 0, .slice none 0 0, .bool false]) 7 96 := ⟨Tryz.underlying27, by kernel_rfl, rfl, by decide, by decide⟩
/-- the seats so far; m: the last number -/
structure Ss (W w0 w : World) (db : Nat) (p : Option Addr) (l : List Int) (cap : Nat) (a : Option Addr) (n c : Nat) (L : List Seat) (m : Nat) : Prop where
  d : Dc W w db p l cap
  k : KD db w0 w
  lt : db < w0.heap.size
  o : Ow w w0.heap.size 7 a n c (rowsC seC L)
  ln : L.length = n
  ok : ∀ x ∈ L, SeOk w x
  row : ∀ x ∈ L, ∀ j, SeRow x j → w0.heap.size ≤ j ∧ j < w.heap.size ∧ rowOf a ≠ some j
  num : ∀ x ∈ L, 1 ≤ x.mem.number ∧ x.mem.number ≤ (m : Int)
  asc : L.Pairwise (fun x y => x.mem.number < y.mem.number)
  per : ∀ x ∈ L, x.mem.person.length ≤ 1
section
variable {W w0 w w' : World} {db : Nat} {p : Option Addr} {l : List Int} {cap : Nat} {a : Option Addr} {n c : Nat} {L : List Seat} {m : Nat}
theorem Ss.next (h : Ss W w0 w db p l cap a n c L m) (hD : Dc W w' db p l cap) (hk : KD db w w') : Ss W w0 w' db p l cap a n c L m := by
  have hlt := h.lt
  exact ⟨hD, h.k.tr hk, hlt, h.o.kp hk (fun j hj e => by have := (h.o.row j hj).1; omega), h.ln, fun x hx => (h.ok x hx).kp hk (fun j hj e => by have := (h.row x hx j hj).1; omega), fun x hx j hj => ⟨(h.row x hx j hj).1, Nat.lt_of_lt_of_le (h.row x hx j hj).2.1 hk.size, (h.row x hx j hj).2.2⟩, h.num, h.asc, h.per⟩
theorem Ss.keep (h : Ss W w0 w db p l cap a n c L m) (hb : Below w.heap.size w w') : Ss W w0 w' db p l cap a n c L m := h.next (h.d.keep hb) (KD.of_below hb)
theorem Ss.add (h : Ss W w0 w db p l cap a n c L m) {a' : Option Addr} {c' : Nat} {x : Seat} {m' : Nat} (hO : Ow w' w0.heap.size 7 a' (n + 1) c' (rowsC seC L ++ seC x)) (hg : w.grownBy w' (rowOf a)) (hat : rowOf a' = rowOf a ∨ rowOf a' = some (w.heap.size + 1)) (hx : SeOk w x) (hr : ∀ j, SeRow x j → w0.heap.size ≤ j ∧ j < w.heap.size ∧ rowOf a ≠ some j)
    (hm : x.mem.number = (m' : Int)) (hmm : m < m') (hp : x.mem.person.length ≤ 1) : Ss W w0 w' db p l cap a' (n + 1) c' (L ++ [x]) m' := by
  have hlt := h.lt
  have hk0 := h.k.size
  have hk := Kp.of_grown hg (S := fun j => rowOf a = some j) (fun j e => e)
  have hro := h.o.row
  have hks := hg.size
  have key : ∀ y : Seat, SeOk w y → (∀ j, SeRow y j → w0.heap.size ≤ j ∧ j < w.heap.size ∧ rowOf a ≠ some j) → SeOk w' y ∧ ∀ j, SeRow y j → w0.heap.size ≤ j ∧ j < w'.heap.size ∧ rowOf a' ≠ some j := fun y hy h2 => ⟨hy.kp hk (fun j hj e => (h2 j hj).2.2 e), fun j hj => ⟨(h2 j hj).1, by have := (h2 j hj).2.1; omega, fun e => by
    rcases hat with e2 | e2
    · exact (h2 j hj).2.2 (e2 ▸ e)
    · rw [e2] at e; have := Option.some.inj e; have := (h2 j hj).2.1; omega⟩⟩
  refine ⟨h.d.kp hk (fun j hj e => by have := (hro j e).1; omega), h.k.trans hk (fun j hj e => by have := (hro j e).1; omega), hlt, by rw [rowsC_append, rowsC_single]; exact hO, by rw [List.length_append, h.ln]; rfl, fun y hy => ?_, fun y hy => ?_, fun y hy => ?_, ?_, fun y hy => ?_⟩
  · rcases List.mem_append.1 hy with hy | hy
    · exact (key y (h.ok y hy) (h.row y hy)).1
    · rw [List.mem_singleton.1 hy]; exact (key x hx hr).1
  · rcases List.mem_append.1 hy with hy | hy
    · exact (key y (h.ok y hy) (h.row y hy)).2
    · rw [List.mem_singleton.1 hy]; exact (key x hx hr).2
  · rcases List.mem_append.1 hy with hy | hy
    · have := h.num y hy; omega
    · rw [List.mem_singleton.1 hy, hm]; omega
  · rw [List.pairwise_append]
    refine ⟨h.asc, List.pairwise_singleton _ _, fun y hy z hz => ?_⟩
    rw [List.mem_singleton.1 hz, hm]
    have := h.num y hy
    omega
  · rcases List.mem_append.1 hy with hy | hy
    · exact h.per y hy
    · rw [List.mem_singleton.1 hy]; exact hp
end
theorem seat_ok {v : World} {lo hi base : Nat} {r : List UInt8} {dp dy : Int} {A : List Ans} {aa : Option Addr} {ac : Nat} {T : List Trm} {ta : Option Addr} {tc : Nat} {S : List Shw} {sa : Option Addr} {sc : Nat} {a3 : Option Addr} {c3 : Nat} {pe : List UInt8} {num : Nat} {b : Bool}
    (hX : StOk v lo hi ⟨r, dp, dy, A, aa, ac, T, ta, tc, S, sa, sc⟩) (hO : Ow v base 3 a3 A.length c3 (rowsC anC A)) (hp : pe.length ≤ 1) (hn : num ≤ 1000) : SeOk v ⟨⟨pe, (num : Int), dp, dy, A, a3, c3⟩, T, ta, tc, b⟩ := by
  have hm := hX.m
  have hnn := hX.n
  dsimp only at hm hnn
  refine ⟨hX.c.r, hO.rd, ⟨?_, ⟨⟨?_, ?_⟩, ⟨?_, ?_⟩, ⟨?_, ?_⟩⟩, hX.ai, hO.2.1, ?_⟩, ?_⟩
  all_goals dsimp only
  all_goals omega
theorem seat_row {v : World} {lo hi base w0s : Nat} {r : List UInt8} {dp dy : Int} {A : List Ans} {aa : Option Addr} {ac : Nat} {T : List Trm} {ta : Option Addr} {tc : Nat} {S : List Shw} {sa : Option Addr} {sc : Nat} {a3 : Option Addr} {c3 : Nat} {pe : List UInt8} {num : Nat} {b : Bool} {a : Option Addr}
    (hX : StOk v lo hi ⟨r, dp, dy, A, aa, ac, T, ta, tc, S, sa, sc⟩) (hO : Ow v base 3 a3 A.length c3 (rowsC anC A)) (h1 : w0s ≤ lo) (h2 : lo ≤ base) (hag : ∀ j, rowOf a = some j → j < lo) : ∀ j, SeRow ⟨⟨pe, (num : Int), dp, dy, A, a3, c3⟩, T, ta, tc, b⟩ j → w0s ≤ j ∧ j < v.heap.size ∧ rowOf a ≠ some j := by
  have hh := hX.c.h
  have key : ∀ j, lo ≤ j → j < v.heap.size → w0s ≤ j ∧ j < v.heap.size ∧ rowOf a ≠ some j := fun j ha hb => ⟨by omega, hb, fun e => by have := hag j e; omega⟩
  rintro j (hj | ⟨t, ht, hj⟩ | hj)
  · have := hX.c.a j hj
    exact key j this.1 (by omega)
  · have := hX.c.t t ht j hj
    exact key j this.1 (by omega)
  · have := hO.row j hj
    exact key j (by omega) this.2
set_option maxRecDepth 100000 in
set_option maxHeartbeats 8000000 in
theorem pseats_walk (W : World) (db : Nat) (p : Option Addr) (l : List Int) (cap : Nat) (most : Nat) (hmost : most ≤ 20) (w : World) (h : Dc W w db p l cap) :
    Calls Tryz.prog 10 #[.pointer (some ⟨db, 0, none⟩), .int .i64 (most : Int)] w fun e w' => ∃ (L : List Seat) (a : Option Addr) (c m : Nat), e = .returned (.slice a L.length c) ∧ L.length ≤ most ∧ m ≤ 2 * most ∧ Ss W w w' db p l cap a L.length c L m := by
  have hs0 : Ss W w w db p l cap none 0 0 [] 0 := ⟨h, Kp.refl _ _, h.lt, Ow.nil _ _ _, rfl, fun x hx => by simp at hx, fun x hx => by simp at hx, fun x hx => by simp at hx, List.Pairwise.nil, fun x hx => by simp at hx⟩
  obtain ⟨w0, hw0⟩ : ∃ w0, w0 = w := ⟨_, rfl⟩
  rw [show (fun (e : Ending) (w' : World) => ∃ (L : List Seat) (a : Option Addr) (c m : Nat), e = .returned (.slice a L.length c) ∧ L.length ≤ most ∧ m ≤ 2 * most ∧ Ss W w w' db p l cap a L.length c L m) = fun e w' => ∃ (L : List Seat) (a : Option Addr) (c m : Nat), e = .returned (.slice a L.length c) ∧ L.length ≤ most ∧ m ≤ 2 * most ∧ Ss W w0 w' db p l cap a L.length c L m by rw [hw0]]
  replace hs0 : Ss W w0 w db p l cap none 0 0 [] 0 := by rw [hw0]; exact hs0
  have e1 : IntKind.i64.wrap ((most : Int) + 1) = (most : Int) + 1 := by rw [IntKind.wrap_i64] <;> omega
  have K1 := Lib.hid (dnext hs0.d ((most : Int) + 1) (by omega) (by omega))
  clear h hw0
  go_enter Tryz.func10, Tryz.ntmps10
  go_upto_region 4 with (go_at_call 17; (with_reducible refine K1.out.mono ?_); (first | rintro e w1 ⟨n0, rfl, hn0, hD1, hk1⟩ | rintro e w1 n0 rfl hn0 hD1 hk1))
  have hs1 := hs0.next hD1 hk1
  clear hs0 hD1 hk1 K1
  go_loopw [5, 6, 7] (fun s u i wr => ∃ (k m n : Nat) (a : Option Addr) (c : Nat) (L : List Seat), n + k = n0 ∧ m ≤ 2 * n ∧ s = .slice a n c ∧ u = .int .i64 (m : Int) ∧ i = .int .i64 (k : Int) ∧ Ss W w0 wr db p l cap a n c L m) (fun _ _ i _ => (intOf i).toNat)
  case atStart => exact ⟨n0, 0, 0, none, 0, [], by omega, by omega, rfl, rfl, rfl, hs1⟩
  case round =>
    clear hs1
    obtain ⟨k, m, n, a, c, L, hkn, hmn, rfl, rfl, rfl, hS⟩ := hrel
    by_cases hk0 : 0 < k
    rotate_left
    · have d1 : decide ((k : Int) > 0) = false := decide_eq_false (by omega)
      have d2 : ¬ (0 < k) := hk0
      have hln := hS.ln
      subst hln
      have HS := Lib.hid hS
      clear hS
      go_wp2
      go_ret
      exact ⟨L, a, c, m, rfl, by omega, by omega, HS.out⟩
    have d1 : decide ((k : Int) > 0) = true := decide_eq_true (by omega)
    have K2 := Lib.hid (dnext hS.d 2 (by decide) (by decide))
    have ek : IntKind.i64.wrap ((k : Int) - 1) = ((k - 1 : Nat) : Int) := by rw [IntKind.wrap_i64] <;> omega
    go_upto_region 7 with (go_at_call 17; (with_reducible refine K2.out.mono ?_); (first | rintro e w2 ⟨z, rfl, hz, hD2, hk2⟩ | rintro e w2 z rfl hz hD2 hk2); have e2 : IntKind.i64.wrap (1 + (z : Int)) = 1 + (z : Int) := (by rw [IntKind.wrap_i64]; omega); have e3 : IntKind.i64.wrap ((m : Int) + (1 + (z : Int))) = ((m + 1 + z : Nat) : Int) := (by rw [IntKind.wrap_i64] <;> omega))
    replace hS := hS.next hD2 hk2
    clear K2 hD2 hk2
    obtain ⟨num, hnum⟩ : ∃ num, num = m + 1 + z := ⟨_, rfl⟩
    have hnm : m < num := by omega
    have hnb : num ≤ 2 * (n + 1) := by omega
    have e4 : (m : Int) + (1 + (z : Int)) = (num : Int) := by omega
    have e5 : (m : Int) + 1 + (z : Int) = (num : Int) := by omega
    try rw [e4]
    try rw [e5]
    try rw [← hnum]
    clear e2 e3 e4 e5 hnum hz
    have hlo2 : w0.heap.size ≤ w2.heap.size := hS.k.size
    have hltw := hS.lt
    have hag : ∀ j, rowOf a = some j → j < w2.heap.size := fun j hj => (hS.o.row j hj).2
    have K3 := Lib.hid (pstat_walk W db p l cap w2 hS.d)
    go_upto_region 8 with (go_at_call 29; (with_reducible refine K3.out.mono ?_); (first | rintro e w3 ⟨x, rfl, hX, hD3, hk3⟩ | rintro e w3 x rfl hX hD3 hk3))
    replace hS := hS.next hD3 hk3
    have hsz2 := hk3.size
    clear K3 hD3 hk3
    obtain ⟨r, dp, dy, A, aa, ac, T, ta, tc, S, sa, sc⟩ := x
    dsimp only at *
    have hbX := (Below.refl w3.heap.size w3).alloc (Nat.le_refl _) (.cells #[.string ⟨r.toArray⟩, .int .i64 dp, .int .i64 dy, .slice aa A.length ac, .slice ta T.length tc, .slice sa S.length sc] 64)
    have hB8 := Bx.new w3 64 [.string ⟨r.toArray⟩, .int .i64 dp, .int .i64 dy, .slice aa A.length ac, .slice ta T.length tc, .slice sa S.length sc]
    change Bx (w3.alloc (.cells #[.string ⟨r.toArray⟩, .int .i64 dp, .int .i64 dy, .slice aa A.length ac, .slice ta T.length tc, .slice sa S.length sc] 64)) _ _ _ at hB8
    replace hS := hS.keep hbX
    have hX4 := hX.keep hbX
    have hg83 : w2.heap.size ≤ w3.heap.size := hsz2
    clear hbX hX
    generalize w3.alloc (.cells #[.string ⟨r.toArray⟩, .int .i64 dp, .int .i64 dy, .slice aa A.length ac, .slice ta T.length tc, .slice sa S.length sc] 64) = w4 at *
    generalize w3.heap.size = g8 at *
    have hdb8 : db < g8 := by have := hS.lt; omega
    have hn20 : n < 20 := by omega
    refine wp_region_held_last' (S := fun w' => (w'.cell? ⟨g8, 0, none⟩ = some (.string ⟨r.toArray⟩) ∧ w'.cell? ⟨g8, 1, none⟩ = some (.int .i64 dp) ∧ w'.cell? ⟨g8, 2, none⟩ = some (.int .i64 dy) ∧ w'.cell? ⟨g8, 3, none⟩ = some (.slice aa A.length ac) ∧ w'.cell? ⟨g8, 4, none⟩ = some (.slice ta T.length tc) ∧ w'.cell? ⟨g8, 5, none⟩ = some (.slice sa S.length sc))) 14 rfl (by kernel_rfl) (by kernel_rfl) (by kernel_rfl) ⟨hB8.cell 0 rfl, hB8.cell 1 rfl, hB8.cell 2 rfl, hB8.cell 3 rfl, hB8.cell 4 rfl, hB8.cell 5 rfl⟩ (fun hHeld => ?_)
    dsimp only [List.dropLast, List.replicate] at hHeld ⊢
    replace hB8 := hB8.keep (Below.refl _ _).drew
    replace hX4 := hX4.keep (Below.refl _ _).drew
    replace hS := hS.keep (Below.refl _ _).drew
    generalize w4.drew = v0 at *
    refine held_take (0) (v := ?_) rfl (by kernel_rfl) (by kernel_rfl) (by kernel_rfl) (fun _ _ _ h => h) (Or.inl ⟨by rfl, ?_⟩) (by assumption) ?_
    rotate_left
    · intro w hSw
      try dsimp only at hSw
      go_simp
      with_reducible rfl
    try simp only [Act.put, List.setIfInBounds_toArray, List.set_cons_zero, List.set_cons_succ]
    refine held_take (1) (v := ?_) rfl (by kernel_rfl) (by kernel_rfl) (by kernel_rfl) (fun _ _ _ h => h) (Or.inl ⟨by rfl, ?_⟩) (by assumption) ?_
    rotate_left
    · intro w hSw
      try dsimp only at hSw
      go_simp
      with_reducible rfl
    try simp only [Act.put, List.setIfInBounds_toArray, List.set_cons_zero, List.set_cons_succ]
    refine held_take (2) (v := ?_) rfl (by kernel_rfl) (by kernel_rfl) (by kernel_rfl) (fun _ _ _ h => h) (Or.inl ⟨by rfl, ?_⟩) (by assumption) ?_
    rotate_left
    · intro w hSw
      try dsimp only at hSw
      go_simp
      with_reducible rfl
    try simp only [Act.put, List.setIfInBounds_toArray, List.set_cons_zero, List.set_cons_succ]
    refine held_take (5) (v := ?_) rfl (by kernel_rfl) (by kernel_rfl) (by kernel_rfl) (fun _ _ _ h => h) (Or.inl ⟨by rfl, ?_⟩) (by assumption) ?_
    rotate_left
    · intro w hSw
      try dsimp only at hSw
      go_simp
      with_reducible rfl
    try simp only [Act.put, List.setIfInBounds_toArray, List.set_cons_zero, List.set_cons_succ]
    refine held_take (7) (v := ?_) rfl (by kernel_rfl) (by kernel_rfl) (by kernel_rfl) (fun _ _ _ h => h) (Or.inl ⟨by rfl, ?_⟩) (by assumption) ?_
    rotate_left
    · intro w hSw
      try dsimp only at hSw
      go_simp
      with_reducible rfl
    try simp only [Act.put, List.setIfInBounds_toArray, List.set_cons_zero, List.set_cons_succ]
    refine held_take (8) (v := ?_) rfl (by kernel_rfl) (by kernel_rfl) (by kernel_rfl) (fun _ _ _ h => h) (Or.inl ⟨by rfl, ?_⟩) (by assumption) ?_
    rotate_left
    · intro w hSw
      try dsimp only at hSw
      go_simp
      with_reducible rfl
    try simp only [Act.put, List.setIfInBounds_toArray, List.set_cons_zero, List.set_cons_succ]
    refine held_take (9) (v := ?_) rfl (by kernel_rfl) (by kernel_rfl) (by kernel_rfl) (fun _ _ _ h => h) (Or.inl ⟨by rfl, ?_⟩) (by assumption) ?_
    rotate_left
    · intro w hSw
      try dsimp only at hSw
      go_simp
      with_reducible rfl
    try simp only [Act.put, List.setIfInBounds_toArray, List.set_cons_zero, List.set_cons_succ]
    refine wpAnyH_ready (rs := [3]) (by kernel_rfl) (by simp) ?_
    refine held_cons rfl (fun K hK => ?_) AllReadyH.nil
    go_simp
    have hbQ := (Below.refl v0.heap.size v0).alloc (Nat.le_refl _) (.cells #[.string ⟨#[112]⟩, .string ⟨#[113]⟩, .string ⟨#[114]⟩, .string ⟨#[115]⟩, .string ⟨#[116]⟩, .string ⟨#[117]⟩] 9)
    have hNew := pl_strs v0 [[112], [113], [114], [115], [116], [117]]
    change Rd (v0.alloc (.cells #[.string ⟨#[112]⟩, .string ⟨#[113]⟩, .string ⟨#[114]⟩, .string ⟨#[115]⟩, .string ⟨#[116]⟩, .string ⟨#[117]⟩] 9)) _ _ at hNew
    have hSQ := hS.keep hbQ
    have hBQ := hB8.keep hbQ
    have hXQ := hX4.keep hbQ
    have hgn : v0.heap.size ≠ db := by have := hS.d.lt; omega
    clear hbQ hS hB8 hX4
    generalize v0.alloc (.cells #[.string ⟨#[112]⟩, .string ⟨#[113]⟩, .string ⟨#[114]⟩, .string ⟨#[115]⟩, .string ⟨#[116]⟩, .string ⟨#[117]⟩] 9) = v1 at *
    generalize v0.heap.size = gn at *
    refine hK.out _ _ ⟨hBQ.cell 0 rfl, hBQ.cell 1 rfl, hBQ.cell 2 rfl, hBQ.cell 3 rfl, hBQ.cell 4 rfl, hBQ.cell 5 rfl⟩ (fun hHeld => ?_)
    clear hK K
    try simp only [Act.put, List.setIfInBounds_toArray, List.set_cons_zero, List.set_cons_succ]
    refine wpAnyH_ready (rs := [4]) (by kernel_rfl) (by simp) ?_
    refine held_cons rfl (fun K hK => ?_) AllReadyH.nil
    go_simp
    have KW := Lib.hid (show Calls Tryz.prog 31 #[.pointer (some ⟨db, 0, none⟩), .slice (some ⟨gn, 0, none⟩) 6 6] v1 _ from dtext hSQ.d gn [[112], [113], [114], [115], [116], [117]] 6 hNew hgn (by simp) (by simp))
    go_at_call 31
    (with_reducible refine KW.out.mono ?_)
    (first | rintro e v2 ⟨pe, rfl, hpe, hD, hk⟩ | rintro e v2 pe rfl hpe hD hk)
    have hS2 := hSQ.next hD hk
    have hB2 := hBQ.kp hk (by omega)
    have hX2 := hXQ.kp hk (fun j h1 h2 e => by omega)
    have hpl : pe.length ≤ 1 := by
      simp only [List.mem_cons, List.not_mem_nil, or_false] at hpe
      rcases hpe with rfl | rfl | rfl | rfl | rfl | rfl <;> simp
    clear hSQ hBQ hXQ hD hk KW hNew hpe hgn
    go_wp2_with fail
    refine hK.out _ _ ⟨hB2.cell 0 rfl, hB2.cell 1 rfl, hB2.cell 2 rfl, hB2.cell 3 rfl, hB2.cell 4 rfl, hB2.cell 5 rfl⟩ (fun hHeld => ?_)
    clear hK K
    try simp only [Act.put, List.setIfInBounds_toArray, List.set_cons_zero, List.set_cons_succ]
    refine wpAnyH_ready (rs := [6]) (by kernel_rfl) (by simp) ?_
    refine held_cons rfl (fun K hK => ?_) AllReadyH.nil
    go_simp
    have KM := Lib.hid (rmember_walk r dp dy A aa ac ta T.length tc sa S.length sc pe (num : Int) v2 hX2.a (by have := hX2.m.1; dsimp only at this; omega))
    go_at_call 30
    (with_reducible refine KM.out.mono ?_)
    (first | rintro e v3 ⟨a3, c3, rfl, hO3, hb3⟩ | rintro e v3 a3 c3 rfl hO3 hb3)
    have hS3 := hS2.keep hb3
    have hB3 := hB2.keep hb3
    have hX3 := hX2.keep hb3
    have hlo3 : w2.heap.size ≤ v2.heap.size := by have := hB2.lt; omega
    clear hS2 hB2 hX2 hb3 KM
    go_wp2_with fail
    refine hK.out _ _ ⟨hB3.cell 0 rfl, hB3.cell 1 rfl, hB3.cell 2 rfl, hB3.cell 3 rfl, hB3.cell 4 rfl, hB3.cell 5 rfl⟩ (fun hHeld => ?_)
    clear hK K
    try simp only [Act.put, List.setIfInBounds_toArray, List.set_cons_zero, List.set_cons_succ]
    refine wpAnyH_ready (rs := [10]) (by kernel_rfl) (by simp) ?_
    refine held_cons rfl (fun K hK => ?_) AllReadyH.nil
    go_simp
    have KN := Lib.hid (done_walk hS3.d 6 (by decide) (by decide))
    go_at_call 32
    (with_reducible refine KN.out.mono ?_)
    (first | rintro e v4 ⟨b, rfl, hD, hk⟩ | rintro e v4 b rfl hD hk)
    have hS4 := hS3.next hD hk
    have hB4 := hB3.kp hk (by omega)
    have hX5 := hX3.kp hk (fun j h1 h2 e => by omega)
    have hltd := hS3.lt
    have hO4 := hO3.kp hk (fun j hj e => by have := (hO3.row j hj).1; omega)
    clear hS3 hB3 hX3 hO3 hD hk KN
    go_wp2_with fail
    refine hK.out _ _ ⟨hB4.cell 0 rfl, hB4.cell 1 rfl, hB4.cell 2 rfl, hB4.cell 3 rfl, hB4.cell 4 rfl, hB4.cell 5 rfl⟩ (fun hHeld => ?_)
    clear hK K
    try simp only [Act.put, List.setIfInBounds_toArray, List.set_cons_zero, List.set_cons_succ]
    refine held_take (11) (v := ?_) rfl (by kernel_rfl) (by kernel_rfl) (by kernel_rfl) (fun _ _ _ h => h) (Or.inl ⟨by rfl, ?_⟩) (by assumption) ?_
    rotate_left
    · intro w hSw
      try dsimp only at hSw
      go_simp
      with_reducible rfl
    try simp only [Act.put, List.setIfInBounds_toArray, List.set_cons_zero, List.set_cons_succ]
    refine wpAnyH_ready (rs := [12]) (by kernel_rfl) (by simp) ?_
    refine held_cons rfl (fun K hK => ?_) AllReadyH.nil
    go_simp
    have hbL := (Below.refl v4.heap.size v4).alloc (Nat.le_refl _) (.cells #[.string ⟨pe.toArray⟩, .int .i64 (num : Int), .int .i64 dp, .int .i64 dy, .slice a3 A.length c3, .slice ta T.length tc, .bool b] 44)
    refine hK.out _ _ ⟨(hB4.keep hbL).cell 0 rfl, (hB4.keep hbL).cell 1 rfl, (hB4.keep hbL).cell 2 rfl, (hB4.keep hbL).cell 3 rfl, (hB4.keep hbL).cell 4 rfl, (hB4.keep hbL).cell 5 rfl⟩ (fun hHeld => ?_)
    clear hK K
    try simp only [Act.put, List.setIfInBounds_toArray, List.set_cons_zero, List.set_cons_succ]
    refine wpAnyH_ready (rs := [13]) (by kernel_rfl) (by simp) ?_
    refine held_cons rfl (fun K hK => ?_) AllReadyH.nil
    refine step_appn_at (w0 := v4) (B := w0.heap.size) (base := w0.heap.size) rfl _ _ _ rfl elSeat rfl hS4.o (Below.refl _ _) (Nat.le_refl _) hS4.k.size (m := 1) (cs := [.string ⟨pe.toArray⟩, .int .i64 (num : Int), .int .i64 dp, .int .i64 dy, .slice a3 A.length c3, .slice ta T.length tc, .bool b]) rfl rfl (by intro u hu; simp at hu; rcases hu with rfl | rfl | rfl | rfl | rfl | rfl | rfl <;> rfl) (by omega) ?_
    intro a5 c5 wA hO8 hb8 hg8 hat8
    have hfr := hS4.o.row
    have hB5 := hB4.grown hg8 (fun e => by have := hag _ e.symm; omega)
    have hnew := hS4.add (x := ⟨⟨pe, (num : Int), dp, dy, A, a3, c3⟩, T, ta, tc, b⟩) hO8 hg8 hat8 (seat_ok hX5 hO4 hpl (by omega)) (seat_row hX5 hO4 hlo2 hlo3 hag) rfl hnm hpl
    refine hK.out _ _ ⟨hB5.cell 0 rfl, hB5.cell 1 rfl, hB5.cell 2 rfl, hB5.cell 3 rfl, hB5.cell 4 rfl, hB5.cell 5 rfl⟩ (fun hHeld => ?_)
    clear hK K
    try simp only [Act.put, List.setIfInBounds_toArray, List.set_cons_zero, List.set_cons_succ]
    refine wpAnyH_done (by kernel_rfl) ?_ _
    dsimp only [Behind]
    have HN := Lib.hid hnew
    clear hnew hS4 hB4 hX5 hO4 hbL hHeld hO8 hb8 hg8 hat8 hB5
    go_simp
    go_wp2_with fail
    go_roundw
    case rel => exact ⟨k - 1, num, n + 1, a5, c5, _, by omega, hnb, rfl, rfl, by go_num, HN.out⟩
    case measure => simp [intOf]; omega
end Go.Proofs.YtpofijdkckaphaaGreatDoor
