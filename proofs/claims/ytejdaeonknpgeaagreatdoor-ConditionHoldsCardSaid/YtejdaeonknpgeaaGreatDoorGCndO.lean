/- The kit's Members. -/
import Derived.Test.YtejdaeonknpgeaaGreatDoorGCndM
import Derived.Test.YtejdaeonknpgeaaGreatDoorGCndC
namespace Go.Proofs.YtejdaeonknpgeaaGreatDoor
open Go.RowKit
/-- members as they grow, beside the dice -/
structure Km (W w0 w : World) (db : Nat) (p : Option Addr) (l : List Int) (cap q : Nat) (a : Option Addr) (c : Nat) (M : List Mem) : Prop where
  env : Env W w db p l cap q
  o : Ow w w0.heap.size 5 a M.length c (rowsC mmC M)
  rows : ∀ m ∈ M, Rd w m.aa (rowsC anC m.ans) ∧ ∀ j, rowOf m.aa = some j → w0.heap.size ≤ j ∧ j < w.heap.size ∧ rowOf a ≠ some j
  inn : ∀ m ∈ M, m.In ∧ m.person.length ≤ 1
  kp : Kp (fun j => j = db) w0 w
  dl : db < w0.heap.size
  wd : W.heap.size ≤ db
  rp : Rd W p (ints l)
/-- a member that is made -/
structure Fresh5 (w0 w : World) (a : Option Addr) (y : Mem) : Prop where
  rd : Rd w y.aa (rowsC anC y.ans)
  row : ∀ j, rowOf y.aa = some j → w0.heap.size ≤ j ∧ j < w.heap.size ∧ rowOf a ≠ some j
  inn : y.In ∧ y.person.length ≤ 1
theorem fresh5_mk {w0 w : World} {a : Option Addr} {y : Mem} {wp wt : List UInt8} {n d z b : Int} {g : Nat} (hy : y = ⟨wp, n, d, z, if b = 0 then [] else [⟨[107, 105, 110, 100], wt, 0⟩], some ⟨g, 0, none⟩, 1⟩) (hs : g < w.heap.size) (hr : Rd w (some ⟨g, 0, none⟩) (anC ⟨[107, 105, 110, 100], wt, 0⟩)) (h0 : w0.heap.size ≤ g) (ha : rowOf a ≠ some g) (h1 : wp.length ≤ 1) (h2 : wt.length ≤ 5) (hn : 0 ≤ n ∧ n ≤ 1000000000) (hd : 0 ≤ d ∧ d ≤ 1000000000) (hz : 0 ≤ z ∧ z ≤ 1000000000) : Fresh5 w0 w a y := by
  subst hy
  refine ⟨?_, ?_, ?_⟩
  · dsimp only
    split
    · exact Rd.nil _ _
    · simpa [rowsC, anC] using hr
  · intro j hj
    have e : g = j := Option.some.inj hj
    subst e
    exact ⟨h0, hs, ha⟩
  · refine ⟨?_, h1⟩
    refine ⟨by dsimp only; omega, ⟨⟨by dsimp only; omega, by dsimp only; omega⟩, ⟨by dsimp only; omega, by dsimp only; omega⟩, ⟨by dsimp only; omega, by dsimp only; omega⟩⟩, ?_, ?_, ?_⟩
    · dsimp only
      intro x hx
      split at hx
      · simp at hx
      · rw [List.mem_singleton.1 hx]
        exact ⟨by simp, by dsimp only; omega, ⟨by dsimp only; omega, by dsimp only; omega⟩⟩
    · dsimp only; split <;> simp
    · dsimp only; split <;> simp
section
variable {W w0 w w' : World} {db : Nat} {p : Option Addr} {l : List Int} {cap q q' : Nat} {a : Option Addr} {c : Nat} {M : List Mem}
theorem Km.kept {S : Nat → Prop} (h : Km W w0 w db p l cap q a c M) (hk : Kp S w w') (hE : Env W w' db p l cap q') (hs : ∀ j, w0.heap.size ≤ j → j < w.heap.size → ¬ S j) (hs2 : ∀ j, j < w0.heap.size → S j → j = db) : Km W w0 w' db p l cap q' a c M :=
  ⟨hE, h.o.kp hk (fun j hj => hs j (h.o.row j hj).1 (h.o.row j hj).2), fun t ht => ⟨(h.rows t ht).1.kp hk (fun j hj => hs j ((h.rows t ht).2 j hj).1 ((h.rows t ht).2 j hj).2.1), fun j hj => ⟨((h.rows t ht).2 j hj).1, Nat.lt_of_lt_of_le ((h.rows t ht).2 j hj).2.1 hk.size, ((h.rows t ht).2 j hj).2.2⟩⟩, h.inn, h.kp.trans hk (fun j hj e => hs2 j hj e), h.dl, h.wd, h.rp⟩
theorem Km.keep (h : Km W w0 w db p l cap q a c M) (hb : Below w.heap.size w w') : Km W w0 w' db p l cap q a c M :=
  h.kept (Kp.of_below hb (fun _ => False)) (h.env.keep hb) (fun _ _ _ e => e) (fun _ _ e => e.elim)
theorem Km.next (h : Km W w0 w db p l cap q a c M) (hE : Env W w' db p l cap q') (hg : w.grownBy w' (some db)) : Km W w0 w' db p l cap q' a c M := by
  have h1 := h.dl
  exact h.kept (S := fun j => j = db) (Kp.of_grown hg (fun j e => (Option.some.inj e).symm)) hE (fun j h1 h2 e => by omega) (fun j _ e => e)
theorem Km.dicec (h : Km W w0 w db p l cap q a c M) (hl : l.length ≤ 281474976710656) (n : Int) (h1 : 1 ≤ n) (h2 : n ≤ 4611686018427387904) :
    Calls Tryz.prog 22 #[.pointer (some ⟨db, 0, none⟩), .int .i64 n] w fun e w' => e = .returned (.int .i64 (dnum l q n)) ∧ (Env W w' db p l cap (dnxt l q) ∧ w.grownBy w' (some db)) := by
  refine (next_walk db p l cap q n w h.env.dice h.env.rd (rd_ne h.rp h.wd) hl h1 h2).mono ?_
  rintro e w' ⟨he, hD, hg⟩
  exact ⟨he, h.env.grown (rd_ne h.rp h.wd) h.wd hD hg, hg⟩
theorem Km.wordc (h : Km W w0 w db p l cap q a c M) (hl : l.length ≤ 281474976710656) (xs : List (List UInt8)) (h1 : 1 ≤ xs.length) (h2 : xs.length ≤ 1000) :
    Calls Tryz.prog 23 #[.pointer (some ⟨db, 0, none⟩), .slice (some ⟨w.heap.size, 0, none⟩) xs.length xs.length] (w.alloc (.cells (strs xs).toArray 9)) fun e w' => e = .returned (.string ⟨(wordF l q xs).toArray⟩) ∧ (Env W w' db p l cap (dnxt l q) ∧ (w.alloc (.cells (strs xs).toArray 9)).grownBy w' (some db)) := by
  have hE5 := h.env.keep ((Below.refl _ _).alloc (Nat.le_refl _) (.cells (strs xs).toArray 9))
  have hX : Rd (w.alloc (.cells (strs xs).toArray 9)) (some ⟨w.heap.size, 0, none⟩) (strs xs) := Rd.mk fun j u hj => by rw [Nat.zero_add, World.cell?_alloc_at _ _ _ _ rfl]; simpa using hj
  have hlt := h.env.dice.lt
  refine (dword_walk db p l cap q w.heap.size xs xs.length _ hE5.dice hE5.rd (rd_ne h.rp h.wd) hl hX (by omega) h1 h2).mono ?_
  rintro e w' ⟨he, hD, hg⟩
  exact ⟨he, hE5.grown (rd_ne h.rp h.wd) h.wd hD hg, hg⟩
theorem Km.push {y : Mem} {a2 : Option Addr} {c2 : Nat} {wA : World} (h : Km W w0 w db p l cap q a c M) (hy : Fresh5 w0 w a y) (hO : Ow wA w0.heap.size 5 a2 (M.length + 1) c2 (rowsC mmC M ++ mmC y)) (hg : w.grownBy wA (rowOf a)) (hat : rowOf a2 = rowOf a ∨ rowOf a2 = some (w.heap.size + 1)) :
    Km W w0 wA db p l cap q a2 c2 (M ++ [y]) := by
  have h1 := h.dl
  have hrow : ∀ j, rowOf a = some j → w0.heap.size ≤ j := fun j hj => (h.o.row j hj).1
  have hk : Kp (fun j => rowOf a = some j) w wA := Kp.of_grown hg (fun j e => e)
  have hE := h.env.row hg (fun j hj => by have := hrow j hj; omega) h.wd h.rp
  rw [show rowsC mmC M ++ mmC y = rowsC mmC (M ++ [y]) by rw [rowsC_append, rowsC_single]] at hO
  have hlen : (M ++ [y]).length = M.length + 1 := by simp
  have hne : ∀ j, rowOf a ≠ some j → j < w.heap.size → rowOf a2 ≠ some j := by
    intro j h2 h3 e
    rcases hat with e2 | e2
    · exact h2 (e2 ▸ e)
    · have := Option.some.inj (e2.symm.trans e); omega
  refine ⟨hE, by rw [hlen]; exact hO, ?_, ?_, h.kp.trans hk (fun j hj e => by have := hrow j e; omega), h1, h.wd, h.rp⟩
  · intro t ht
    rcases List.mem_append.1 ht with ht | ht
    · obtain ⟨r1, r2⟩ := h.rows t ht
      exact ⟨r1.kp hk (fun j hj => (r2 j hj).2.2), fun j hj => ⟨(r2 j hj).1, Nat.lt_of_lt_of_le (r2 j hj).2.1 hk.size, hne j (r2 j hj).2.2 (r2 j hj).2.1⟩⟩
    · rw [List.mem_singleton.1 ht]
      exact ⟨hy.rd.kp hk (fun j hj => (hy.row j hj).2.2), fun j hj => ⟨(hy.row j hj).1, Nat.lt_of_lt_of_le (hy.row j hj).2.1 hk.size, hne j (hy.row j hj).2.2 (hy.row j hj).2.1⟩⟩
  · intro t ht
    rcases List.mem_append.1 ht with ht | ht
    · exact h.inn t ht
    · rw [List.mem_singleton.1 ht]; exact hy.inn
end
/-- members that lie behind the dice -/
structure Md (w : World) (db : Nat) (a : Option Addr) (M : List Mem) : Prop where
  r : RdM w a M
  a : ∀ j, rowOf a = some j → db < j
  t : ∀ m ∈ M, ∀ j, rowOf m.aa = some j → db < j
  s : ∀ m ∈ M, m.person.length ≤ 1
theorem RdM.kp {S : Nat → Prop} {w w' : World} {a : Option Addr} {M : List Mem} (h : RdM w a M) (hk : Kp S w w') (h1 : ∀ j, rowOf a = some j → ¬ S j) (h2 : ∀ t ∈ M, ∀ j, rowOf t.aa = some j → ¬ S j) : RdM w' a M :=
  ⟨h.rows.kp hk h1, fun t ht => (h.ans t ht).kp hk (h2 t ht), h.ok⟩
theorem Md.kp {w w' : World} {db : Nat} {a : Option Addr} {M : List Mem} (h : Md w db a M) (hk : Kp (fun j => j = db) w w') : Md w' db a M :=
  ⟨h.r.kp hk (fun j hj e => by have := h.a j hj; omega) (fun t ht j hj e => by have := h.t t ht j hj; omega), h.a, h.t, h.s⟩
theorem Md.keep {w w' : World} {db : Nat} {a : Option Addr} {M : List Mem} (h : Md w db a M) (hb : Below w.heap.size w w') : Md w' db a M := ⟨h.r.keep hb, h.a, h.t, h.s⟩
theorem Cd.kp {w w' : World} {db : Nat} {a : Option Addr} {X : List Trm} (h : Cd w db a X) (hk : Kp (fun j => j = db) w w') : Cd w' db a X :=
  ⟨h.r.kp hk (fun j hj e => by have := h.a j hj; omega) (fun t ht j hj e => by have := h.t t ht j hj; omega), h.a, h.t⟩
theorem Km.md {W w0 w : World} {db : Nat} {p : Option Addr} {l : List Int} {cap q : Nat} {a : Option Addr} {c : Nat} {M : List Mem} (h : Km W w0 w db p l cap q a c M) : Md w db a M :=
  ⟨⟨h.o.rd, fun t ht => (h.rows t ht).1, fun t ht => (h.inn t ht).1⟩, fun j hj => by have := (h.o.row j hj).1; have := h.dl; omega, fun t ht j hj => by have := ((h.rows t ht).2 j hj).1; have := h.dl; omega, fun t ht => (h.inn t ht).2⟩
/-- what the kit's Members returns -/
def MemRes (W w0 : World) (db : Nat) (p : Option Addr) (l : List Int) (cap most : Nat) (e : Ending) (w' : World) : Prop :=
  ∃ (M : List Mem) (a : Option Addr) (c q' : Nat), e = .returned (.slice a M.length c) ∧ M.length ≤ most ∧ Env W w' db p l cap q' ∧ Md w' db a M ∧ Kp (fun j => j = db) w0 w'
set_option maxRecDepth 100000 in
set_option maxHeartbeats 2000000 in
/-- the kit's members -/
theorem kmems_walk (W : World) (db : Nat) (p : Option Addr) (l : List Int) (cap q : Nat) (most : Nat) (w0 : World) (hl : l.length ≤ 281474976710656) (hm : most ≤ 1000) (hE : Env W w0 db p l cap q) (hW : W.heap.size ≤ db) (hR : Rd W p (ints l)) :
    Calls Tryz.prog 7 #[.pointer (some ⟨db, 0, none⟩), .int .i64 (most : Int)] w0 (MemRes W w0 db p l cap most) := by
  have hdl := hE.dice.lt
  have h0 : Km W w0 w0 db p l cap q none 0 [] := ⟨hE, Ow.nil _ _ _, fun t ht => by simp at ht, fun t ht => by simp at ht, Kp.refl _ _, hdl, hW, hR⟩
  have hw1 : IntKind.i64.wrap ((most : Int) + 1) = (most : Int) + 1 := by rw [IntKind.wrap_i64]; omega
  clear hE
  have K0 := Lib.hid (h0.dicec hl ((most : Int) + 1) (by omega) (by omega))
  have za := dnum_lo l q (n := (most : Int) + 1) (by omega)
  have zb := dnum_hi l q (n := (most : Int) + 1) (by omega)
  generalize dnum l q ((most : Int) + 1) = z at *
  generalize dnxt l q = qa at *
  obtain ⟨cn, rfl⟩ : ∃ cn : Nat, z = (cn : Int) := ⟨z.toNat, by omega⟩
  have hcn : cn ≤ most := by omega
  clear za zb
  go_enter Tryz.func7, Tryz.ntmps7
  go_upto_region 3 with ((go_at_call 22); (with_reducible refine K0.out.mono ?_); (first | rintro e w1 rfl hEN hgN | rintro e w1 rfl ⟨hEN, hgN⟩ | rintro e w1 ⟨rfl, hEN, hgN⟩))
  have hA := h0.next hEN hgN
  clear hEN hgN K0 hw1 h0
  go_loopw [5, 11] (fun sv iv wr => ∃ (i : Nat) (M : List Mem) (a : Option Addr) (c q1 : Nat), i ≤ cn ∧ iv = .int .i64 (i : Int) ∧ sv = .slice a i c ∧ Hid (M.length = i) ∧ Km W w0 wr db p l cap q1 a c M) (fun _ iv _ => cn - (intOf iv).toNat)
  case atStart => exact ⟨0, [], none, 0, qa, Nat.zero_le _, rfl, rfl, Lib.hid rfl, hA⟩
  case round =>
    clear hA
    obtain ⟨i, M, a, c, q0, hi, rfl, rfl, hMi, h1⟩ := hrel
    by_cases hit : i < cn
    rotate_left
    · have hie : i = cn := by omega
      subst hie
      have hd := h1.md
      have hk := h1.kp
      have hEf := h1.env
      have hjl : ¬ (i : Int) < (i : Int) := by omega
      go_wp2_with fail
      go_ret
      exact ⟨M, a, c, q0, by rw [hMi.out]; rfl, by rw [hMi.out]; exact hcn, hEf, hd, hk⟩
    · have hd1 : decide ((i : Int) < (cn : Int)) = true := decide_eq_true (by omega)
      have hwi : IntKind.i64.wrap ((i : Int) + 1) = ((i + 1 : Nat) : Int) := by rw [IntKind.wrap_i64]; omega
      have hdd := hit
      have K1 : Hid (Calls Tryz.prog 23 #[.pointer (some ⟨db, 0, none⟩), .slice (some ⟨wr.heap.size, 0, none⟩) 5 5] (wr.alloc (.cells #[.string ⟨#[97]⟩, .string ⟨#[98]⟩, .string ⟨#[99]⟩, .string ⟨#[100]⟩, .string ⟨#[101]⟩] 9)) fun e w' => e = .returned (.string ⟨(wordF l q0 [[97], [98], [99], [100], [101]]).toArray⟩) ∧ (Env W w' db p l cap (dnxt l q0) ∧ (wr.alloc (.cells #[.string ⟨#[97]⟩, .string ⟨#[98]⟩, .string ⟨#[99]⟩, .string ⟨#[100]⟩, .string ⟨#[101]⟩] 9)).grownBy w' (some db))) := Lib.hid (h1.wordc hl [[97], [98], [99], [100], [101]] (by decide) (by decide))
      have wpl : (wordF l q0 [[97], [98], [99], [100], [101]]).length ≤ 1 := (by decide : ∀ x ∈ ([[97], [98], [99], [100], [101]] : List (List UInt8)), x.length ≤ 1) _ (wordF_mem l q0 [[97], [98], [99], [100], [101]] (by decide))
      generalize wordF l q0 [[97], [98], [99], [100], [101]] = wp at *
      generalize dnxt l q0 = q1 at *
      go_upto_region 6 with (first
        | ((go_at_call 23); (with_reducible refine K1.out.mono ?_); (first | rintro e w2 rfl hEN hgN | rintro e w2 rfl ⟨hEN, hgN⟩ | rintro e w2 ⟨rfl, hEN, hgN⟩); (have h2 := (h1.keep ((Below.refl _ _).alloc (Nat.le_refl _) (.cells #[.string ⟨#[97]⟩, .string ⟨#[98]⟩, .string ⟨#[99]⟩, .string ⟨#[100]⟩, .string ⟨#[101]⟩] 9))).next hEN hgN); (clear hEN hgN K1); (have K2 := Lib.hid (h2.dicec hl 2 (by omega) (by omega))); (have z2a := dnum_lo l q1 (n := 2) (by omega)); (have z2b := dnum_hi l q1 (n := 2) (by omega)); (generalize dnum l q1 2 = z2 at *); (generalize dnxt l q1 = q2 at *); (have e2 : IntKind.i64.wrap (10 * z2) = 10 * z2 := by rw [IntKind.wrap_i64]; omega); (have e3 : IntKind.i64.wrap ((i : Int) + 10 * z2) = (i : Int) + 10 * z2 := by rw [IntKind.wrap_i64]; omega))
        | ((go_at_call 22); (with_reducible refine K2.out.mono ?_); (first | rintro e w3 rfl hEN hgN | rintro e w3 rfl ⟨hEN, hgN⟩ | rintro e w3 ⟨rfl, hEN, hgN⟩); (have h3 := h2.next hEN hgN); (clear hEN hgN K2); (have K3 := Lib.hid (h3.dicec hl 4 (by omega) (by omega))); (have z4a := dnum_lo l q2 (n := 4) (by omega)); (have z4b := dnum_hi l q2 (n := 4) (by omega)); (generalize dnum l q2 4 = z4 at *); (generalize dnxt l q2 = q3 at *))
        | ((go_at_call 22); (with_reducible refine K3.out.mono ?_); (first | rintro e w4 rfl hEN hgN | rintro e w4 rfl ⟨hEN, hgN⟩ | rintro e w4 ⟨rfl, hEN, hgN⟩); (have h4 := h3.next hEN hgN); (clear hEN hgN K3); (have K4 := Lib.hid (h4.dicec hl 12 (by omega) (by omega))); (have z12a := dnum_lo l q3 (n := 12) (by omega)); (have z12b := dnum_hi l q3 (n := 12) (by omega)); (generalize dnum l q3 12 = z12 at *); (generalize dnxt l q3 = q4 at *); (have e4 : IntKind.i64.wrap (200 * z12) = 200 * z12 := by rw [IntKind.wrap_i64]; omega); (have e5 : IntKind.i64.wrap (730000 + 200 * z12) = 730000 + 200 * z12 := by rw [IntKind.wrap_i64]; omega))
        | ((go_at_call 22); (with_reducible refine K4.out.mono ?_); (first | rintro e w5 rfl hEN hgN | rintro e w5 rfl ⟨hEN, hgN⟩ | rintro e w5 ⟨rfl, hEN, hgN⟩); (have h5 := h4.next hEN hgN); (clear hEN hgN K4); (have K5 : Hid (Calls Tryz.prog 23 #[.pointer (some ⟨db, 0, none⟩), .slice (some ⟨w5.heap.size, 0, none⟩) 2 2] (w5.alloc (.cells #[.string ⟨#[119, 111, 114, 100, 115]⟩, .string ⟨#[97, 99, 116, 115]⟩] 9)) fun e w' => e = .returned (.string ⟨(wordF l q4 [[119, 111, 114, 100, 115], [97, 99, 116, 115]]).toArray⟩) ∧ (Env W w' db p l cap (dnxt l q4) ∧ (w5.alloc (.cells #[.string ⟨#[119, 111, 114, 100, 115]⟩, .string ⟨#[97, 99, 116, 115]⟩] 9)).grownBy w' (some db))) := Lib.hid (h5.wordc hl [[119, 111, 114, 100, 115], [97, 99, 116, 115]] (by decide) (by decide))); (have wtl : (wordF l q4 [[119, 111, 114, 100, 115], [97, 99, 116, 115]]).length ≤ 5 := (by decide : ∀ x ∈ ([[119, 111, 114, 100, 115], [97, 99, 116, 115]] : List (List UInt8)), x.length ≤ 5) _ (wordF_mem l q4 [[119, 111, 114, 100, 115], [97, 99, 116, 115]] (by decide))); (generalize wordF l q4 [[119, 111, 114, 100, 115], [97, 99, 116, 115]] = wt at *); (generalize dnxt l q4 = q5 at *))
        | ((go_at_call 23); (with_reducible refine K5.out.mono ?_); (first | rintro e w6 rfl hEN hgN | rintro e w6 rfl ⟨hEN, hgN⟩ | rintro e w6 ⟨rfl, hEN, hgN⟩); (have h6 := (h5.keep ((Below.refl _ _).alloc (Nat.le_refl _) (.cells #[.string ⟨#[119, 111, 114, 100, 115]⟩, .string ⟨#[97, 99, 116, 115]⟩] 9))).next hEN hgN); (clear hEN hgN K5); (have h7 := h6.keep ((Below.refl _ _).alloc (Nat.le_refl _) (.cells #[.string ⟨#[107, 105, 110, 100]⟩, .string ⟨wt.toArray⟩, .int .i64 0] 52))); (have hr7 : Rd (w6.alloc (.cells #[.string ⟨#[107, 105, 110, 100]⟩, .string ⟨wt.toArray⟩, .int .i64 0] 52)) (some ⟨w6.heap.size, 0, none⟩) (anC ⟨[107, 105, 110, 100], wt, 0⟩) := Rd.mk fun j u hj => by rw [Nat.zero_add, World.cell?_alloc_at _ _ _ _ rfl]; simpa [anC] using hj); (have hs7 : w6.heap.size < (w6.alloc (.cells #[.string ⟨#[107, 105, 110, 100]⟩, .string ⟨wt.toArray⟩, .int .i64 0] 52)).heap.size := by simp); (have ho7 := h6.o); (have K7 := Lib.hid (h7.dicec hl 2 (by omega) (by omega))); (have zba := dnum_lo l q5 (n := 2) (by omega)); (have zbb := dnum_hi l q5 (n := 2) (by omega)); (generalize dnum l q5 2 = zb at *); (generalize dnxt l q5 = q6 at *))
        | ((go_at_call 22); (with_reducible refine K7.out.mono ?_); (first | rintro e w8 rfl hEN hgN | rintro e w8 rfl ⟨hEN, hgN⟩ | rintro e w8 ⟨rfl, hEN, hgN⟩); (have h8 := h7.next hEN hgN); (have hs8 : w6.heap.size < w8.heap.size := Nat.lt_of_lt_of_le hs7 hgN.size); (have hk8 : Rd w8 (some ⟨w6.heap.size, 0, none⟩) (anC ⟨[107, 105, 110, 100], wt, 0⟩) := hr7.kp (Kp.of_grown hgN (S := fun j => j = db) (fun j e => (Option.some.inj e).symm)) (fun j hj => by have e := Option.some.inj hj; have := h6.env.dice.lt; have e2 : w6.heap.size = j := e; omega)); (have ho8 : w0.heap.size ≤ w6.heap.size ∧ rowOf a ≠ some w6.heap.size := ⟨h6.kp.size, fun e => by have := (ho7.row _ e).2; omega⟩); (clear hEN hgN K7 hr7 hs7 ho7); (obtain ⟨y, hy⟩ : ∃ y : Mem, y = ⟨wp, (i : Int) + 10 * z2, z4, 730000 + 200 * z12, if zb = 0 then [] else [⟨[107, 105, 110, 100], wt, 0⟩], some ⟨w6.heap.size, 0, none⟩, 1⟩ := ⟨_, rfl⟩); (have hyp : Fresh5 w0 w8 a y := fresh5_mk hy hs8 hk8 ho8.1 ho8.2 wpl wtl (by omega) (by omega) (by omega)); (have ho9 := h8.o); (rw [hMi.out] at ho9); (have hb9 := h8.env.below); (rcases (show zb = 0 ∨ zb = 1 by omega) with rfl | rfl))
        | ((at_builtin); (refine wpList_app1_at (w0 := W) (B := W.heap.size) (base := w0.heap.size) rfl _ _ _ rfl elMem rfl ho9 hb9 (by have := h8.wd; have := h8.dl; omega) (by have := h8.kp.size; omega) (cs := [.string ⟨wp.toArray⟩, .int .i64 ((i : Int) + 10 * z2), .int .i64 z4, .int .i64 (730000 + 200 * z12), .slice (some ⟨w6.heap.size, 0, none⟩) 0 1]) rfl rfl (by intro u hu; simp at hu; rcases hu with rfl | rfl | rfl | rfl | rfl <;> rfl) (by omega) ?_); (intro a2 c2 wA hO8 hb8 hg8 hat8); (have hN := h8.push hyp (by rw [hMi.out]; subst hy; exact hO8) hg8 hat8); (clear hO8 hb8 hg8 hat8))
        | ((at_builtin); (refine wpList_app1_at (w0 := W) (B := W.heap.size) (base := w0.heap.size) rfl _ _ _ rfl elMem rfl ho9 hb9 (by have := h8.wd; have := h8.dl; omega) (by have := h8.kp.size; omega) (cs := [.string ⟨wp.toArray⟩, .int .i64 ((i : Int) + 10 * z2), .int .i64 z4, .int .i64 (730000 + 200 * z12), .slice (some ⟨w6.heap.size, 0, none⟩) 1 1]) rfl rfl (by intro u hu; simp at hu; rcases hu with rfl | rfl | rfl | rfl | rfl <;> rfl) (by omega) ?_); (intro a2 c2 wA hO8 hb8 hg8 hat8); (have hN := h8.push hyp (by rw [hMi.out]; subst hy; exact hO8) hg8 hat8); (clear hO8 hb8 hg8 hat8)))
      all_goals (
        have hMn : (M ++ [y]).length = i + 1 := by rw [List.length_append, hMi.out]; rfl
        have hN := Lib.hid hN
        have hMn := Lib.hid hMn
        go_wp2_with fail
        go_roundw
        case rel => exact ⟨i + 1, M ++ [y], a2, c2, _, by omega, rfl, rfl, hMn, hN.out⟩
        case measure => simp [intOf]; omega)
end Go.Proofs.YtejdaeonknpgeaaGreatDoor
