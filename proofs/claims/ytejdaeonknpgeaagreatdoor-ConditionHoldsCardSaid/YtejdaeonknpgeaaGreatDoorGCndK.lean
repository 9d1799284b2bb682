/- The kit's conditions: a term with its parts is grown. -/
import Derived.Test.YtejdaeonknpgeaaGreatDoorGCndB
import Derived.Test.YtejdaeonknpgeaaGreatDoorCndQ
import Derived.Test.YtejdaeonknpgeaaGreatDoorGEnv
import Derived.Test.YtejdaeonknpgeaaGreatDoorGWord
import Derived.Test.YtejdaeonknpgeaaGreatDoorAppAt
import Derived.Test.YtejdaeonknpgeaaGreatDoorGAppStep
import Derived.Test.YtejdaeonknpgeaaGreatDoorRegionL
namespace Go.Proofs.YtejdaeonknpgeaaGreatDoor
open Go.RowKit
theorem elTrm : ElemOf Tryz.prog 32 57 (.agg #[.int .i64 0, .int .i64 0, .int .i64 0, .string ByteArray.empty, .string ByteArray.empty, .slice none 0 0]) 6 80 := ⟨Tryz.underlying32, by kernel_rfl, rfl, by decide, by decide⟩
theorem elIntK : ElemOf Tryz.prog 22 3 (.int .i64 0) 1 8 := ⟨Tryz.underlying22, by kernel_rfl, rfl, by decide, by decide⟩
def zeroT : Trm := ⟨0, 0, 0, [], [], [], none, 0⟩
/-- what a call may turn: the dice, the condition, its terms -/
def Sc (db gC : Nat) (ta : Option Addr) (j : Nat) : Prop := j = db ∨ j = gC ∨ rowOf ta = some j
/-- a condition as it grows, beside the dice -/
structure Kc (W w : World) (db : Nat) (p : Option Addr) (l : List Int) (cap q gC : Nat) (ta : Option Addr) (tc : Nat) (T : List Trm) : Prop where
  env : Env W w db p l cap q
  c : Bx w gC 34 [.slice ta T.length tc]
  o : Ow w (db + 1) 6 ta T.length tc (rowsC trC T)
  rows : ∀ t ∈ T, Rd w t.aa (ints t.args) ∧ ∀ j, rowOf t.aa = some j → j < w.heap.size ∧ db < j ∧ j ≠ gC ∧ rowOf ta ≠ some j
  inn : ∀ t ∈ T, t.In
  nc : ∀ j, rowOf ta = some j → db < j ∧ j ≠ gC
  dC : db < gC
  wd : W.heap.size ≤ db
  rp : Rd W p (ints l)
section
variable {W w w' : World} {db : Nat} {p : Option Addr} {l : List Int} {cap q q' gC : Nat} {ta : Option Addr} {tc : Nat} {T : List Trm}
theorem Kc.kp {S : Nat → Prop} (h : Kc W w db p l cap q gC ta tc T) (hk : Kp S w w') (hE : Env W w' db p l cap q') (h1 : ¬ S gC) (h2 : ∀ j, rowOf ta = some j → ¬ S j) (h3 : ∀ t ∈ T, ∀ j, rowOf t.aa = some j → ¬ S j) : Kc W w' db p l cap q' gC ta tc T :=
  ⟨hE, h.c.kp hk h1, h.o.kp hk h2, fun t ht => ⟨(h.rows t ht).1.kp hk (h3 t ht), fun j hj => ⟨Nat.lt_of_lt_of_le ((h.rows t ht).2 j hj).1 hk.size, ((h.rows t ht).2 j hj).2⟩⟩, h.inn, h.nc, h.dC, h.wd, h.rp⟩
theorem Kc.keep (h : Kc W w db p l cap q gC ta tc T) (hb : Below w.heap.size w w') : Kc W w' db p l cap q gC ta tc T :=
  h.kp (Kp.of_below hb (fun _ => False)) (h.env.keep hb) (fun e => e) (fun _ _ e => e) (fun _ _ _ _ e => e)
theorem Kc.next (h : Kc W w db p l cap q gC ta tc T) (hE : Env W w' db p l cap q') (hg : w.grownBy w' (some db)) : Kc W w' db p l cap q' gC ta tc T := by
  have h1 := h.dC
  exact h.kp (S := fun j => j = db) (Kp.of_grown hg (fun j e => (Option.some.inj e).symm)) hE (by omega) (fun j hj => by have := (h.nc j hj).1; omega) (fun t ht j hj => by have := ((h.rows t ht).2 j hj).2.1; omega)
/-- another block is turned -/
theorem Kc.oth (h : Kc W w db p l cap q gC ta tc T) {g : Nat} (hk : Kp (fun j => j = g) w w') (hg : db < g) (h1 : g ≠ gC) (h2 : rowOf ta ≠ some g) (h3 : ∀ t ∈ T, rowOf t.aa ≠ some g) : Kc W w' db p l cap q gC ta tc T := by
  have hw := h.wd
  have hd := h.env.dice.lt
  exact h.kp hk (h.env.kp hk (by omega) (fun j hj => by omega) (by omega) h.rp) (fun e => h1 e.symm) (fun j hj e => h2 (e ▸ hj)) (fun t ht j hj e => h3 t ht (e ▸ hj))
theorem Kc.dicec (h : Kc W w db p l cap q gC ta tc T) (hl : l.length ≤ 281474976710656) (n : Int) (h1 : 1 ≤ n) (h2 : n ≤ 4611686018427387904) :
    Calls Tryz.prog 22 #[.pointer (some ⟨db, 0, none⟩), .int .i64 n] w fun e w' => e = .returned (.int .i64 (dnum l q n)) ∧ (Env W w' db p l cap (dnxt l q) ∧ w.grownBy w' (some db)) := by
  refine (next_walk db p l cap q n w h.env.dice h.env.rd (rd_ne h.rp h.wd) hl h1 h2).mono ?_
  rintro e w' ⟨he, hD, hg⟩
  exact ⟨he, h.env.grown (rd_ne h.rp h.wd) h.wd hD hg, hg⟩
theorem Kc.wordc (h : Kc W w db p l cap q gC ta tc T) (hl : l.length ≤ 281474976710656) (xs : List (List UInt8)) (h1 : 1 ≤ xs.length) (h2 : xs.length ≤ 1000) :
    Calls Tryz.prog 23 #[.pointer (some ⟨db, 0, none⟩), .slice (some ⟨w.heap.size, 0, none⟩) xs.length xs.length] (w.alloc (.cells (strs xs).toArray 9)) fun e w' => e = .returned (.string ⟨(wordF l q xs).toArray⟩) ∧ (Env W w' db p l cap (dnxt l q) ∧ (w.alloc (.cells (strs xs).toArray 9)).grownBy w' (some db)) := by
  have hE5 := h.env.keep ((Below.refl _ _).alloc (Nat.le_refl _) (.cells (strs xs).toArray 9))
  have hX : Rd (w.alloc (.cells (strs xs).toArray 9)) (some ⟨w.heap.size, 0, none⟩) (strs xs) := Rd.mk fun j u hj => by rw [Nat.zero_add, World.cell?_alloc_at _ _ _ _ rfl]; simpa using hj
  have hlt := h.env.dice.lt
  refine (dword_walk db p l cap q w.heap.size xs xs.length _ hE5.dice hE5.rd (rd_ne h.rp h.wd) hl hX (by omega) h1 h2).mono ?_
  rintro e w' ⟨he, hD, hg⟩
  exact ⟨he, hE5.grown (rd_ne h.rp h.wd) h.wd hD hg, hg⟩
/-- a term is appended -/
theorem Kc.push {a2 : Option Addr} {c2 : Nat} {wA : World} (h : Kc W w db p l cap q gC ta tc T) (hO : Ow wA (db + 1) 6 a2 (T.length + 1) c2 (rowsC trC T ++ trC zeroT)) (hg : w.grownBy wA (rowOf ta)) (hat : rowOf a2 = rowOf ta ∨ rowOf a2 = some (w.heap.size + 1)) :
    (Kc W (wA.setCell ⟨gC, 0, none⟩ (.slice a2 (T.length + 1) c2)) db p l cap q gC a2 c2 (T ++ [zeroT]) ∧ Kp (Sc db gC ta) w (wA.setCell ⟨gC, 0, none⟩ (.slice a2 (T.length + 1) c2))) ∧ wA.cell? ⟨gC, 0, none⟩ = some (.slice ta T.length tc) ∧ wA.frozen? ⟨gC, 0, none⟩ = false := by
  have h1 := h.dC
  have h2 := h.wd
  have lc := h.c.lt
  have c8 := h.c.grown hg (fun e => (h.nc gC e.symm).2 rfl)
  have hk1 : Kp (Sc db gC ta) w wA := Kp.of_grown hg (fun j e => .inr (.inr e))
  have hk : Kp (Sc db gC ta) w (wA.setCell ⟨gC, 0, none⟩ (.slice a2 (T.length + 1) c2)) := hk1.trans (setCell_kp wA gC 0 _ (S := fun j => j = gC) rfl) (fun j _ e => .inr (.inl e))
  have hrow : ∀ j, rowOf a2 = some j → db < j ∧ j ≠ gC := by
    intro j hj
    rcases hat with e | e
    · exact h.nc j (e ▸ hj)
    · have := Option.some.inj (e.symm.trans hj); omega
  have hE8 := h.env.row hg (fun j hj => (h.nc j hj).1) h2 h.rp
  rw [show rowsC trC T ++ trC zeroT = rowsC trC (T ++ [zeroT]) by rw [rowsC_append, rowsC_single]] at hO
  have hlen : (T ++ [zeroT]).length = T.length + 1 := by simp
  refine ⟨⟨⟨hE8.set gC 0 _ (by omega) (by omega) (rd_ne h.rp (by omega)), ?_, ?_, ?_, ?_, hrow, h1, h2, h.rp⟩, hk⟩, c8.cell 0 rfl, c8.free 0⟩
  · rw [hlen]; exact c8.set 0 _
  · rw [hlen]; exact hO.kp (setCell_kp wA gC 0 _ (S := fun j => j = gC) rfl) (fun j hj => (hrow j hj).2)
  · intro t ht
    rcases List.mem_append.1 ht with ht | ht
    · obtain ⟨r1, r2⟩ := h.rows t ht
      refine ⟨r1.kp hk (fun j hj => ?_), fun j hj => ?_⟩
      · have := r2 j hj
        rintro (e | e | e)
        · omega
        · omega
        · exact this.2.2.2 e
      · have := r2 j hj
        refine ⟨Nat.lt_of_lt_of_le this.1 hk.size, this.2.1, this.2.2.1, fun e => ?_⟩
        rcases hat with e2 | e2
        · exact this.2.2.2 (e2 ▸ e)
        · have := Option.some.inj (e2.symm.trans e); omega
    · rw [List.mem_singleton.1 ht]
      exact ⟨Rd.nil _ _, fun j hj => by simp [zeroT, rowOf] at hj⟩
  · intro t ht
    rcases List.mem_append.1 ht with ht | ht
    · exact h.inn t ht
    · rw [List.mem_singleton.1 ht]
      exact ⟨⟨⟨by decide, by decide⟩, ⟨by decide, by decide⟩, ⟨by decide, by decide⟩⟩, by decide, by decide, by simp [zeroT], by decide, by decide⟩
end
theorem term_in (k n y : Int) (f x : List UInt8) (A : List Int) (aa : Option Addr) (ac : Nat) (h1 : 0 ≤ k ∧ k ≤ 1000) (h2 : 0 ≤ n ∧ n ≤ 1000) (h3 : 0 ≤ y ∧ y ≤ 1000) (hf : f.length ≤ 1000) (hx : x.length ≤ 1000) (hA : ∀ a ∈ A, I64 a) (hc : A.length ≤ ac) (hl : A.length ≤ 1000) : Trm.In ⟨k, n, y, f, x, A, aa, ac⟩ := by
  unfold Trm.In I64
  dsimp only
  refine ⟨⟨⟨by omega, by omega⟩, ⟨by omega, by omega⟩, ⟨by omega, by omega⟩⟩, by omega, by omega, hA, hc, by omega⟩
def szK : Nat → Nat
  | 0 => 0
  | d + 1 => 1 + 3 * szK d
/-- what grow leaves behind -/
def GrowK (W w : World) (db : Nat) (p : Option Addr) (l : List Int) (cap gC : Nat) (ta : Option Addr) (T : List Trm) (d : Nat) (e : Ending) (w' : World) : Prop :=
  ∃ (X : List Trm) (ta' : Option Addr) (tc' q' : Nat), e = .returned (.tuple #[]) ∧ Kc W w' db p l cap q' gC ta' tc' (T ++ X) ∧ GrowsAt d T.length X ∧ (1 ≤ X.length ∧ X.length ≤ szK d) ∧ Kp (Sc db gC ta) w w' ∧ (rowOf ta' = rowOf ta ∨ ∃ j, rowOf ta' = some j ∧ w.heap.size ≤ j) ∧ ∀ t ∈ X, ∀ j, rowOf t.aa = some j → w.heap.size ≤ j
/-- a term that is made, beside the condition -/
structure Kt (W w0 w : World) (db : Nat) (p : Option Addr) (l : List Int) (cap q gC : Nat) (ta0 ta : Option Addr) (tc : Nat) (T : List Trm) (gt : Nat) (k n y : Int) (f x : List UInt8) (aa : Option Addr) (an ac : Nat) (A : List Int) : Prop where
  m : Kc W w db p l cap q gC ta tc T
  tt : Bx w gt 57 [.int .i64 k, .int .i64 n, .int .i64 y, .string ⟨f.toArray⟩, .string ⟨x.toArray⟩, .slice aa an ac]
  a : Ow w (gt + 1) 1 aa an ac (ints A)
  al : A.length = an
  kp : Kp (Sc db gC ta0) w0 w
  g0 : w0.heap.size ≤ gt
  c0 : gC < w0.heap.size
  s1 : rowOf ta ≠ some gt ∧ ∀ t ∈ T, rowOf t.aa ≠ some gt
  s2 : ∀ j, rowOf aa = some j → rowOf ta ≠ some j ∧ ∀ t ∈ T, rowOf t.aa ≠ some j
  hr : rowOf ta = rowOf ta0 ∨ ∃ j, rowOf ta = some j ∧ w0.heap.size ≤ j
section
variable {W w0 w w' : World} {db : Nat} {p : Option Addr} {l : List Int} {cap q q' gC : Nat} {ta0 ta : Option Addr} {tc : Nat} {T : List Trm} {gt : Nat} {k n y : Int} {f x : List UInt8} {aa : Option Addr} {an ac : Nat} {A : List Int}
theorem Kt.keep (h : Kt W w0 w db p l cap q gC ta0 ta tc T gt k n y f x aa an ac A) (hb : Below w.heap.size w w') : Kt W w0 w' db p l cap q gC ta0 ta tc T gt k n y f x aa an ac A :=
  ⟨h.m.keep hb, h.tt.keep hb, h.a.keep hb, h.al, h.kp.trans (Kp.of_below hb (fun _ => False)) (fun _ _ e => e.elim), h.g0, h.c0, h.s1, h.s2, h.hr⟩
theorem Kt.next (h : Kt W w0 w db p l cap q gC ta0 ta tc T gt k n y f x aa an ac A) (hE : Env W w' db p l cap q') (hg : w.grownBy w' (some db)) : Kt W w0 w' db p l cap q' gC ta0 ta tc T gt k n y f x aa an ac A := by
  have h1 := h.m.dC
  have h2 := h.c0
  have h3 := h.g0
  refine ⟨h.m.next hE hg, h.tt.grown hg (by simp; omega), h.a.kept hg ?_, h.al, h.kp.trans (Kp.of_grown hg (S := fun j => j = db) (fun j e => (Option.some.inj e).symm)) (fun _ _ e => .inl e), h.g0, h.c0, h.s1, h.s2, h.hr⟩
  cases hr : rowOf aa with
  | none => exact .inl rfl
  | some j => exact .inr (fun e => by have := (h.a.row j hr).1; have := Option.some.inj e; omega)
/-- a field is set -/
theorem Kt.cellS (h : Kt W w0 w db p l cap q gC ta0 ta tc T gt k n y f x aa an ac A) (j : Nat) (v : Value) : Kc W (w.setCell ⟨gt, j, none⟩ v) db p l cap q gC ta tc T ∧ Ow (w.setCell ⟨gt, j, none⟩ v) (gt + 1) 1 aa an ac (ints A) ∧ Kp (Sc db gC ta0) w0 (w.setCell ⟨gt, j, none⟩ v) := by
  have h1 := h.m.dC
  have h2 := h.c0
  have h3 := h.g0
  have hk : Kp (fun j => j = gt) w (w.setCell ⟨gt, j, none⟩ v) := setCell_kp w gt j v rfl
  exact ⟨h.m.oth hk (by omega) (by omega) h.s1.1 h.s1.2, h.a.kp hk (fun j hj e => by have := (h.a.row j hj).1; omega), h.kp.trans hk (fun j hj e => by omega)⟩
theorem Kt.set0 (h : Kt W w0 w db p l cap q gC ta0 ta tc T gt k n y f x aa an ac A) (v : Int) : Kt W w0 (w.setCell ⟨gt, 0, none⟩ (.int .i64 v)) db p l cap q gC ta0 ta tc T gt v n y f x aa an ac A :=
  ⟨(h.cellS 0 _).1, h.tt.set 0 _, (h.cellS 0 _).2.1, h.al, (h.cellS 0 _).2.2, h.g0, h.c0, h.s1, h.s2, h.hr⟩
theorem Kt.set1 (h : Kt W w0 w db p l cap q gC ta0 ta tc T gt k n y f x aa an ac A) (v : Int) : Kt W w0 (w.setCell ⟨gt, 1, none⟩ (.int .i64 v)) db p l cap q gC ta0 ta tc T gt k v y f x aa an ac A :=
  ⟨(h.cellS 1 _).1, h.tt.set 1 _, (h.cellS 1 _).2.1, h.al, (h.cellS 1 _).2.2, h.g0, h.c0, h.s1, h.s2, h.hr⟩
theorem Kt.set2 (h : Kt W w0 w db p l cap q gC ta0 ta tc T gt k n y f x aa an ac A) (v : Int) : Kt W w0 (w.setCell ⟨gt, 2, none⟩ (.int .i64 v)) db p l cap q gC ta0 ta tc T gt k n v f x aa an ac A :=
  ⟨(h.cellS 2 _).1, h.tt.set 2 _, (h.cellS 2 _).2.1, h.al, (h.cellS 2 _).2.2, h.g0, h.c0, h.s1, h.s2, h.hr⟩
theorem Kt.set3 (h : Kt W w0 w db p l cap q gC ta0 ta tc T gt k n y f x aa an ac A) (v : List UInt8) : Kt W w0 (w.setCell ⟨gt, 3, none⟩ (.string ⟨v.toArray⟩)) db p l cap q gC ta0 ta tc T gt k n y v x aa an ac A :=
  ⟨(h.cellS 3 _).1, h.tt.set 3 _, (h.cellS 3 _).2.1, h.al, (h.cellS 3 _).2.2, h.g0, h.c0, h.s1, h.s2, h.hr⟩
theorem Kt.set4 (h : Kt W w0 w db p l cap q gC ta0 ta tc T gt k n y f x aa an ac A) (v : List UInt8) : Kt W w0 (w.setCell ⟨gt, 4, none⟩ (.string ⟨v.toArray⟩)) db p l cap q gC ta0 ta tc T gt k n y f v aa an ac A :=
  ⟨(h.cellS 4 _).1, h.tt.set 4 _, (h.cellS 4 _).2.1, h.al, (h.cellS 4 _).2.2, h.g0, h.c0, h.s1, h.s2, h.hr⟩
theorem Kt.held (h : Kt W w0 w db p l cap q gC ta0 ta tc T gt k n y f x aa an ac A) : (w.cell? ⟨gt, 0, none⟩ = some (.int .i64 k) ∧ w.cell? ⟨gt, 1, none⟩ = some (.int .i64 n) ∧ w.cell? ⟨gt, 2, none⟩ = some (.int .i64 y) ∧ w.cell? ⟨gt, 3, none⟩ = some (.string ⟨f.toArray⟩) ∧ w.cell? ⟨gt, 4, none⟩ = some (.string ⟨x.toArray⟩) ∧ w.cell? ⟨gt, 5, none⟩ = some (.slice aa an ac)) ∧ w.cell? ⟨gC, 0, none⟩ = some (.slice ta T.length tc) :=
  ⟨⟨h.tt.cell 0 rfl, h.tt.cell 1 rfl, h.tt.cell 2 rfl, h.tt.cell 3 rfl, h.tt.cell 4 rfl, h.tt.cell 5 rfl⟩, h.m.c.cell 0 rfl⟩
theorem Kt.frees (h : Kt W w0 w db p l cap q gC ta0 ta tc T gt k n y f x aa an ac A) : w.frozen? ⟨gt, 0, none⟩ = false ∧ w.frozen? ⟨gt, 1, none⟩ = false ∧ w.frozen? ⟨gt, 2, none⟩ = false ∧ w.frozen? ⟨gt, 3, none⟩ = false ∧ w.frozen? ⟨gt, 4, none⟩ = false :=
  ⟨h.tt.free 0, h.tt.free 1, h.tt.free 2, h.tt.free 3, h.tt.free 4⟩
/-- an argument is appended -/
theorem Kt.arg {wA : World} {a2 : Option Addr} {c2 : Nat} {v : Int} (h : Kt W w0 w db p l cap q gC ta0 ta tc T gt k n y f x aa an ac A) (hO : Ow wA (gt + 1) 1 a2 (an + 1) c2 (ints A ++ [.int .i64 v])) (hg : w.grownBy wA (rowOf aa)) (hat : rowOf a2 = rowOf aa ∨ rowOf a2 = some (w.heap.size + 1)) :
    Kt W w0 (wA.setCell ⟨gt, 5, none⟩ (.slice a2 (an + 1) c2)) db p l cap q gC ta0 ta tc T gt k n y f x a2 (an + 1) c2 (A ++ [v]) ∧ wA.cell? ⟨gt, 5, none⟩ = some (.slice aa an ac) ∧ wA.frozen? ⟨gt, 5, none⟩ = false := by
  have h1 := h.m.dC
  have h2 := h.c0
  have h3 := h.g0
  have hlt := h.tt.lt
  have hwd := h.m.wd
  have hdl := h.m.env.dice.lt
  have hne : ∀ j, rowOf aa = some j → gt + 1 ≤ j := fun j hj => (h.a.row j hj).1
  have t8 := h.tt.grown hg (fun e => by have := hne _ e.symm; omega)
  have hk : Kp (fun j => gt ≤ j ∧ (j = gt ∨ rowOf aa = some j)) w (wA.setCell ⟨gt, 5, none⟩ (.slice a2 (an + 1) c2)) :=
    (Kp.of_grown hg (S := fun j => gt ≤ j ∧ (j = gt ∨ rowOf aa = some j)) (fun j e => ⟨by have := hne j e; omega, .inr e⟩)).trans (setCell_kp wA gt 5 _ (S := fun j => j = gt) rfl) (fun j _ e => ⟨by omega, .inl e⟩)
  have hE := h.m.env.kp hk (by omega) (fun j hj e => by omega) (fun e => by omega) h.m.rp
  have m8 := h.m.kp hk hE (fun e => by omega) (fun j hj e => by
      rcases e.2 with e | e
      · exact h.s1.1 (e ▸ hj)
      · exact (h.s2 j e).1 hj) (fun t ht j hj e => by
      rcases e.2 with e | e
      · exact h.s1.2 t ht (e ▸ hj)
      · exact (h.s2 j e).2 t ht hj)
  rw [ints_snoc] at hO
  have hrow2 : ∀ j, rowOf a2 = some j → rowOf ta ≠ some j ∧ ∀ t ∈ T, rowOf t.aa ≠ some j := by
    intro j hj
    rcases hat with e | e
    · exact h.s2 j (e ▸ hj)
    · have := Option.some.inj (e.symm.trans hj)
      exact ⟨fun e2 => by have := (h.m.o.row j e2).2; omega, fun t ht e2 => by have := ((h.m.rows t ht).2 j e2).1; omega⟩
  exact ⟨⟨m8, t8.set 5 _, hO.kp (setCell_kp wA gt 5 _ (S := fun j => j = gt) rfl) (fun j hj e => by have := (hO.row j hj).1; omega), by rw [List.length_append, h.al]; rfl, h.kp.trans hk (fun j hj e => by omega), h.g0, h.c0, h.s1, hrow2, h.hr⟩, t8.cell 5 rfl, t8.free 5⟩
/-- a part is grown -/
theorem Kt.part {X : List Trm} {ta' : Option Addr} {tc' : Nat} (h : Kt W w0 w db p l cap q gC ta0 ta tc T gt k n y f x aa an ac A) (hm : Kc W w' db p l cap q' gC ta' tc' (T ++ X)) (hk : Kp (Sc db gC ta) w w') (hrw : rowOf ta' = rowOf ta ∨ ∃ j, rowOf ta' = some j ∧ w.heap.size ≤ j) (hX : ∀ t ∈ X, ∀ j, rowOf t.aa = some j → w.heap.size ≤ j) :
    Kt W w0 w' db p l cap q' gC ta0 ta' tc' (T ++ X) gt k n y f x aa an ac A := by
  have h1 := h.m.dC
  have h2 := h.c0
  have h3 := h.g0
  have hlt := h.tt.lt
  have hsz := h.kp.size
  have hne : ∀ j, rowOf aa = some j → gt + 1 ≤ j ∧ j < w.heap.size := fun j hj => h.a.row j hj
  refine ⟨hm, h.tt.kp hk ?_, h.a.kp hk ?_, h.al, h.kp.trans hk ?_, h.g0, h.c0, ⟨?_, ?_⟩, ?_, ?_⟩
  · rintro (e | e | e)
    · omega
    · omega
    · exact h.s1.1 e
  · rintro j hj (e | e | e)
    · have := hne j hj; omega
    · have := hne j hj; omega
    · exact (h.s2 j hj).1 e
  · rintro j hj (e | e | e)
    · exact .inl e
    · exact .inr (.inl e)
    · rcases h.hr with e2 | ⟨j2, e2, e3⟩
      · exact .inr (.inr (e2 ▸ e))
      · have := Option.some.inj (e2.symm.trans e); omega
  · rcases hrw with e | ⟨j, e, e2⟩
    · rw [e]; exact h.s1.1
    · rw [e]; intro e3; have := Option.some.inj e3; omega
  · intro t ht
    rcases List.mem_append.1 ht with ht | ht
    · exact h.s1.2 t ht
    · intro e; have := hX t ht _ e; omega
  · intro j hj
    have := hne j hj
    refine ⟨?_, fun t ht => ?_⟩
    · rcases hrw with e | ⟨j2, e, e2⟩
      · rw [e]; exact (h.s2 j hj).1
      · rw [e]; intro e3; have := Option.some.inj e3; omega
    · rcases List.mem_append.1 ht with ht | ht
      · exact (h.s2 j hj).2 t ht
      · intro e; have := hX t ht _ e; omega
  · rcases hrw with e | ⟨j, e, e2⟩
    · rw [e]; exact h.hr
    · exact .inr ⟨j, e, by omega⟩
theorem set_at (P Q : List Value) (i : Nat) (v : Value) : (P ++ Q).set (P.length + i) v = P ++ Q.set i v := by
  rw [List.set_append_right _ _ (by omega)]; congr 2; omega
/-- the term is put in its place -/
theorem Kt.put {T0 X : List Trm} {N : Nat} (h : Kt W w0 w db p l cap q gC ta0 ta tc (T0 ++ zeroT :: X) gt k n y f x aa an ac A) (hN : T0.length = N) (hin : Trm.In ⟨k, n, y, f, x, A, aa, ac⟩) :
    ∃ g off, ta = some ⟨g, off, none⟩ ∧ (w.cell? ⟨g, off + N * 6, none⟩ = some (.int .i64 0) ∧ w.cell? ⟨g, off + N * 6 + 1, none⟩ = some (.int .i64 0) ∧ w.cell? ⟨g, off + N * 6 + 2, none⟩ = some (.int .i64 0) ∧ w.cell? ⟨g, off + N * 6 + 3, none⟩ = some (.string ⟨#[]⟩) ∧ w.cell? ⟨g, off + N * 6 + 4, none⟩ = some (.string ⟨#[]⟩) ∧ w.cell? ⟨g, off + N * 6 + 5, none⟩ = some (.slice none 0 0)) ∧ (w.frozen? ⟨g, off + N * 6, none⟩ = false ∧ w.frozen? ⟨g, off + N * 6 + 1, none⟩ = false ∧ w.frozen? ⟨g, off + N * 6 + 2, none⟩ = false ∧ w.frozen? ⟨g, off + N * 6 + 3, none⟩ = false ∧ w.frozen? ⟨g, off + N * 6 + 4, none⟩ = false ∧ w.frozen? ⟨g, off + N * 6 + 5, none⟩ = false) ∧
      Kc W ((((((w.setCell ⟨g, off + N * 6, none⟩ (.int .i64 k)).setCell ⟨g, off + N * 6 + 1, none⟩ (.int .i64 n)).setCell ⟨g, off + N * 6 + 2, none⟩ (.int .i64 y)).setCell ⟨g, off + N * 6 + 3, none⟩ (.string ⟨f.toArray⟩)).setCell ⟨g, off + N * 6 + 4, none⟩ (.string ⟨x.toArray⟩)).setCell ⟨g, off + N * 6 + 5, none⟩ (.slice aa A.length ac)) db p l cap q gC ta tc (T0 ++ ⟨k, n, y, f, x, A, aa, ac⟩ :: X) ∧ Kp (Sc db gC ta0) w0 ((((((w.setCell ⟨g, off + N * 6, none⟩ (.int .i64 k)).setCell ⟨g, off + N * 6 + 1, none⟩ (.int .i64 n)).setCell ⟨g, off + N * 6 + 2, none⟩ (.int .i64 y)).setCell ⟨g, off + N * 6 + 3, none⟩ (.string ⟨f.toArray⟩)).setCell ⟨g, off + N * 6 + 4, none⟩ (.string ⟨x.toArray⟩)).setCell ⟨g, off + N * 6 + 5, none⟩ (.slice aa A.length ac)) := by
  have h1 := h.m.dC
  have h2 := h.c0
  have h3 := h.g0
  have hlt := h.tt.lt
  have hwd := h.m.wd
  have hdl := h.m.env.dice.lt
  have hO := h.m.o
  have hNl : N < (T0 ++ zeroT :: X).length := by simp; omega
  obtain ⟨e0, e1, e2, ⟨rfl, e4⟩ | ⟨g, off, rfl, e3, e4, e5, e6⟩⟩ := id hO
  · omega
  have hc : (rowsC trC T0).length = N * 6 := by rw [rowsC_length trC_len, hN]
  have hsp : rowsC trC (T0 ++ zeroT :: X) = rowsC trC T0 ++ (trC zeroT ++ rowsC trC X) := by rw [rowsC_append, rowsC_cons]
  have hcell : ∀ i v, i < 6 → (trC zeroT)[i]? = some v → w.cell? ⟨g, off + N * 6 + i, none⟩ = some v := fun i v hi hv => by
    have := e5 (N * 6 + i) v (by rw [hsp, List.getElem?_append_right (by omega), hc, Nat.add_sub_cancel_left, List.getElem?_append_left (by rw [trC_len]; exact hi)]; exact hv)
    rwa [← Nat.add_assoc] at this
  have hfr : ∀ i, i < 6 → w.frozen? ⟨g, off + N * 6 + i, none⟩ = false := fun i hi => by
    have := (e6 (N * 6 + i) (by have : (N + 1) * 6 ≤ tc * 6 := Nat.mul_le_mul_right 6 (by omega)
                                omega)).2
    rwa [← Nat.add_assoc] at this
  have s0 := Ow.stored hO (N * 6) (.int .i64 k)
  rw [show off + (N * 6) = off + N * 6 from rfl] at s0
  have s1 := Ow.stored s0.1 (N * 6 + 1) (.int .i64 n)
  rw [show off + (N * 6 + 1) = off + N * 6 + 1 from (Nat.add_assoc _ _ _).symm] at s1
  have s2 := Ow.stored s1.1 (N * 6 + 2) (.int .i64 y)
  rw [show off + (N * 6 + 2) = off + N * 6 + 2 from (Nat.add_assoc _ _ _).symm] at s2
  have s3 := Ow.stored s2.1 (N * 6 + 3) (.string ⟨f.toArray⟩)
  rw [show off + (N * 6 + 3) = off + N * 6 + 3 from (Nat.add_assoc _ _ _).symm] at s3
  have s4 := Ow.stored s3.1 (N * 6 + 4) (.string ⟨x.toArray⟩)
  rw [show off + (N * 6 + 4) = off + N * 6 + 4 from (Nat.add_assoc _ _ _).symm] at s4
  have s5 := Ow.stored s4.1 (N * 6 + 5) (.slice aa A.length ac)
  rw [show off + (N * 6 + 5) = off + N * 6 + 5 from (Nat.add_assoc _ _ _).symm] at s5
  have hxs : ((((((rowsC trC (T0 ++ zeroT :: X)).set (N * 6) (.int .i64 k)).set (N * 6 + 1) (.int .i64 n)).set (N * 6 + 2) (.int .i64 y)).set (N * 6 + 3) (.string ⟨f.toArray⟩)).set (N * 6 + 4) (.string ⟨x.toArray⟩)).set (N * 6 + 5) (.slice aa A.length ac) = rowsC trC (T0 ++ ⟨k, n, y, f, x, A, aa, ac⟩ :: X) := by
    rw [hsp, rowsC_append, rowsC_cons, ← hc]
    have h0 := set_at (rowsC trC T0) (trC zeroT ++ rowsC trC X) 0 (.int .i64 k)
    rw [Nat.add_zero] at h0
    rw [h0, set_at, set_at, set_at, set_at, set_at]
    rfl
  have hO6 := s5.1
  rw [hxs] at hO6
  have hk : Kp (fun j => j = g) w ((((((w.setCell ⟨g, off + N * 6, none⟩ (.int .i64 k)).setCell ⟨g, off + N * 6 + 1, none⟩ (.int .i64 n)).setCell ⟨g, off + N * 6 + 2, none⟩ (.int .i64 y)).setCell ⟨g, off + N * 6 + 3, none⟩ (.string ⟨f.toArray⟩)).setCell ⟨g, off + N * 6 + 4, none⟩ (.string ⟨x.toArray⟩)).setCell ⟨g, off + N * 6 + 5, none⟩ (.slice aa A.length ac)) := ((((((Kp.of_grown s0.2 (S := fun j => j = g) (fun j e => (Option.some.inj e).symm)).trans (Kp.of_grown s1.2 (S := fun j => j = g) (fun j e => (Option.some.inj e).symm)) (fun _ _ e => e)).trans (Kp.of_grown s2.2 (S := fun j => j = g) (fun j e => (Option.some.inj e).symm)) (fun _ _ e => e)).trans (Kp.of_grown s3.2 (S := fun j => j = g) (fun j e => (Option.some.inj e).symm)) (fun _ _ e => e)).trans (Kp.of_grown s4.2 (S := fun j => j = g) (fun j e => (Option.some.inj e).symm)) (fun _ _ e => e)).trans (Kp.of_grown s5.2 (S := fun j => j = g) (fun j e => (Option.some.inj e).symm)) (fun _ _ e => e))
  have hng : db < g ∧ g ≠ gC := h.m.nc g rfl
  have hlen : (T0 ++ zeroT :: X).length = (T0 ++ (⟨k, n, y, f, x, A, aa, ac⟩ : Trm) :: X).length := by simp
  have hE := h.m.env.kp hk (by omega) (fun j hj => by omega) (by omega) h.m.rp
  have hgt : g ≠ gt := fun e => h.s1.1 (by rw [e]; rfl)
  have hrows : ∀ t ∈ (T0 ++ zeroT :: X), ∀ j, rowOf t.aa = some j → j ≠ g := fun t ht j hj e => ((h.m.rows t ht).2 j hj).2.2.2 (by rw [e]; rfl)
  refine ⟨g, off, rfl, ⟨hcell 0 _ (by decide) rfl, hcell 1 _ (by decide) rfl, hcell 2 _ (by decide) rfl, hcell 3 _ (by decide) rfl, hcell 4 _ (by decide) rfl, hcell 5 _ (by decide) rfl⟩, ⟨hfr 0 (by decide), hfr 1 (by decide), hfr 2 (by decide), hfr 3 (by decide), hfr 4 (by decide), hfr 5 (by decide)⟩, ⟨hE, ?_, ?_, ?_, ?_, h.m.nc, h1, hwd, h.m.rp⟩, h.kp.trans hk ?_⟩
  · rw [← hlen]; exact h.m.c.kp hk (fun e => hng.2 e.symm)
  · rw [← hlen]; exact hO6
  · intro t ht
    have hold : ∀ t ∈ (T0 ++ zeroT :: X), Rd ((((((w.setCell ⟨g, off + N * 6, none⟩ (.int .i64 k)).setCell ⟨g, off + N * 6 + 1, none⟩ (.int .i64 n)).setCell ⟨g, off + N * 6 + 2, none⟩ (.int .i64 y)).setCell ⟨g, off + N * 6 + 3, none⟩ (.string ⟨f.toArray⟩)).setCell ⟨g, off + N * 6 + 4, none⟩ (.string ⟨x.toArray⟩)).setCell ⟨g, off + N * 6 + 5, none⟩ (.slice aa A.length ac)) t.aa (ints t.args) ∧ ∀ j, rowOf t.aa = some j → j < ((((((w.setCell ⟨g, off + N * 6, none⟩ (.int .i64 k)).setCell ⟨g, off + N * 6 + 1, none⟩ (.int .i64 n)).setCell ⟨g, off + N * 6 + 2, none⟩ (.int .i64 y)).setCell ⟨g, off + N * 6 + 3, none⟩ (.string ⟨f.toArray⟩)).setCell ⟨g, off + N * 6 + 4, none⟩ (.string ⟨x.toArray⟩)).setCell ⟨g, off + N * 6 + 5, none⟩ (.slice aa A.length ac)).heap.size ∧ db < j ∧ j ≠ gC ∧ rowOf (some ⟨g, off, none⟩) ≠ some j := fun t ht =>
      ⟨(h.m.rows t ht).1.kp hk (fun j hj => hrows t ht j hj), fun j hj => ⟨Nat.lt_of_lt_of_le ((h.m.rows t ht).2 j hj).1 hk.size, ((h.m.rows t ht).2 j hj).2⟩⟩
    rcases List.mem_append.1 ht with ht | ht
    · exact hold t (List.mem_append_left _ ht)
    · rcases List.mem_cons.1 ht with rfl | ht
      · refine ⟨h.a.rd.kp hk (fun j hj e => (h.s2 j hj).1 (by rw [e]; rfl)), fun j hj => ?_⟩
        have hr := h.a.row j hj
        exact ⟨Nat.lt_of_lt_of_le hr.2 hk.size, by omega, by omega, (h.s2 j hj).1⟩
      · exact hold t (List.mem_append_right _ (List.mem_cons_of_mem _ ht))
  · intro t ht
    rcases List.mem_append.1 ht with ht | ht
    · exact h.m.inn t (List.mem_append_left _ ht)
    · rcases List.mem_cons.1 ht with rfl | ht
      · exact hin
      · exact h.m.inn t (List.mem_append_right _ (List.mem_cons_of_mem _ ht))
  · rintro j hj rfl
    rcases h.hr with e | ⟨j2, e, e2⟩
    · exact .inr (.inr (by rw [← e]; rfl))
    · have : j = j2 := Option.some.inj e
      omega
end
set_option maxRecDepth 100000 in
set_option maxHeartbeats 4000000 in
theorem kgrow_walk (W : World) (db : Nat) (p : Option Addr) (l : List Int) (cap gC : Nat) (hl : l.length ≤ 281474976710656) : ∀ (d : Nat) (q : Nat) (ta : Option Addr) (tc : Nat) (T : List Trm) (w : World), 1 ≤ d → d ≤ 4 → T.length + szK d ≤ 1000 → Kc W w db p l cap q gC ta tc T →
    Calls Tryz.prog 24 #[.pointer (some ⟨db, 0, none⟩), .pointer (some ⟨gC, 0, none⟩), .int .i64 (d : Int)] w (GrowK W w db p l cap gC ta T d) := by
  intro d
  induction d with
  | zero => intro q ta tc T w h1; omega
  | succ d ih =>
    intro q ta tc T w _ hd4 hsz hK
    have IH := Lib.hid ih
    clear ih
    obtain ⟨n, hn⟩ : ∃ n, n = T.length := ⟨_, rfl⟩
    have hn1 : n + (1 + 3 * szK d) ≤ 1000 := by rw [hn]; exact hsz
    obtain ⟨D, hD⟩ : ∃ D : Int, D = ((d + 1 : Nat) : Int) := ⟨_, rfl⟩
    have y0 := hK.c.cell 0 rfl
    have hKo := hK.o
    have hKb := hK.env.below
    have hwd := hK.wd
    have hdl := hK.env.dice.lt
    rw [← hn] at y0 hKo
    rw [← hD]
    have HN := Lib.hid hn
    have HD := Lib.hid hD
    have HK := Lib.hid hK
    clear hn hD hK hsz
    go_enter Tryz.func24, Tryz.ntmps24
    go_upto_region 1 with (fail)
    go_upto_region 2 with (at_builtin; refine wpList_app1_at (w0 := W) (B := W.heap.size) (base := db + 1) rfl _ _ _ rfl elTrm rfl hKo hKb (by omega) (by omega) (cs := trC zeroT) rfl rfl (by intro u hu; simp [trC, zeroT] at hu; rcases hu with rfl | rfl | rfl | rfl | rfl <;> rfl) (by omega) ?_; intro a2 c2 wA hO8 hb8 hg8 hat8; (have HP : Hid _ := Lib.hid (HK.out.push (by rw [← HN.out]; exact hO8) hg8 hat8)); (have q0 := HP.out.2.1); (have f0 := HP.out.2.2); (have HAT : Hid (rowOf a2 = rowOf ta ∨ ∃ j, rowOf a2 = some j ∧ w.heap.size ≤ j) := Lib.hid (hat8.elim .inl (fun e => .inr ⟨_, e, by omega⟩))); clear hO8 hb8 hg8 hat8)
    obtain ⟨⟨hK1, hkp1⟩, -, -⟩ := HP.out
    rw [← HN.out] at hK1 hkp1
    have hT1 : (T ++ [zeroT]).length = n + 1 := by rw [List.length_append, ← HN.out]; rfl
    have hgc : gC < w.heap.size := HK.out.c.lt
    generalize wA.setCell ⟨gC, 0, none⟩ (.slice a2 (n + 1) c2) = w1 at *
    clear q0 f0 HP y0 hKo hKb
    have K4 := Lib.hid (hK1.dicec hl 4 (by omega) (by omega))
    have za := dnum_lo l q (n := 4) (by omega)
    have zb := dnum_hi l q (n := 4) (by omega)
    generalize dnum l q 4 = z at *
    generalize dnxt l q = q1 at *
    have hw1 : IntKind.i64.wrap (1 + z) = 1 + z := by rw [IntKind.wrap_i64]; omega
    go_upto_region 3 with (go_at_call 22; (with_reducible refine K4.out.mono ?_); (first | rintro e w2 rfl hEN hgN | rintro e w2 rfl ⟨hEN, hgN⟩ | rintro e w2 ⟨rfl, hEN, hgN⟩))
    have hK2 := hK1.next hEN hgN
    have hkp2 := hkp1.trans (Kp.of_grown hgN (S := fun j => j = db) (fun j e => (Option.some.inj e).symm)) (fun _ _ e => .inl e)
    have hbA := (Below.refl w2.heap.size w2).alloc (Nat.le_refl _) (.cells #[.int .i64 0, .int .i64 (1 + z), .int .i64 0, .string ⟨#[]⟩, .string ⟨#[]⟩, .slice none 0 0] 57)
    have hX := Bx.new w2 57 [.int .i64 0, .int .i64 (1 + z), .int .i64 0, .string ⟨#[]⟩, .string ⟨#[]⟩, .slice none 0 0]
    change Bx (w2.alloc (.cells #[.int .i64 0, .int .i64 (1 + z), .int .i64 0, .string ⟨#[]⟩, .string ⟨#[]⟩, .slice none 0 0] 57)) _ _ _ at hX
    have hB : Kt W w (w2.alloc (.cells #[.int .i64 0, .int .i64 (1 + z), .int .i64 0, .string ⟨#[]⟩, .string ⟨#[]⟩, .slice none 0 0] 57)) db p l cap q1 gC ta a2 c2 (T ++ [zeroT]) w2.heap.size 0 (1 + z) 0 [] [] none 0 0 [] :=
      ⟨hK2.keep hbA, hX, Ow.nil _ _ _, rfl, hkp2.trans (Kp.of_below hbA (fun _ => False)) (fun _ _ e => e.elim), hkp2.size, hgc, ⟨fun e => by have := (hK2.o.row _ e).2; omega, fun t ht e => by have := ((hK2.rows t ht).2 _ e).1; omega⟩, fun j hj => by simp [rowOf] at hj, HAT.out⟩
    generalize w2.alloc (.cells #[.int .i64 0, .int .i64 (1 + z), .int .i64 0, .string ⟨#[]⟩, .string ⟨#[]⟩, .slice none 0 0] 57) = w3 at *
    generalize w2.heap.size = gt at *
    clear hK1 hkp1 hEN hgN hK2 hkp2 hbA hX K4 hw1
    have K8 := Lib.hid (hB.m.dicec hl 8 (by omega) (by omega))
    have z8a := dnum_lo l q1 (n := 8) (by omega)
    have z8b := dnum_hi l q1 (n := 8) (by omega)
    generalize dnum l q1 8 = z8 at *
    generalize dnxt l q1 = q2 at *
    go_upto_region 4 with (go_at_call 22; (with_reducible refine K8.out.mono ?_); (first | rintro e w4 rfl hEN hgN | rintro e w4 rfl ⟨hEN, hgN⟩ | rintro e w4 ⟨rfl, hEN, hgN⟩))
    replace hB := hB.next hEN hgN
    clear hEN hgN K8
    go_cut [35] (fun v wx => ∃ b : Bool, v = .bool b ∧ (b = false → 1 ≤ d) ∧ Kt W w wx db p l cap q2 gC ta a2 c2 (T ++ [zeroT]) gt 0 (1 + z) 0 [] [] none 0 0 [])
    case first =>
      by_cases hD2 : D < 2
      · have d1 : decide (D < 2) = true := decide_eq_true hD2
        go_wp2_with fail
        go_meet
        exact ⟨true, rfl, (fun h => by cases h), hB⟩
      · have d1 : decide (D < 2) = false := decide_eq_false hD2
        have hdv : 1 ≤ d := by have := HD.out; omega
        by_cases h12 : 12 < n
        · have d2 : decide ((n : Int) > 12) = true := decide_eq_true (by omega)
          have d3 : decide (12 < n) = true := decide_eq_true h12
          go_wp2_with fail
          go_meet
          exact ⟨true, rfl, fun _ => hdv, hB⟩
        · have d2 : decide ((n : Int) > 12) = false := decide_eq_false (by omega)
          have d3 : decide (12 < n) = false := decide_eq_false h12
          go_wp2_with fail
          go_meet
          exact ⟨false, rfl, fun _ => hdv, hB⟩
    case rest =>
      obtain ⟨b, rfl, hbd, hB⟩ := hcut
      refine ‹∀ (a : Act) (w : World), Code.wp _ _ _ a w → _› _ _ ?_
      go_cut [8] (fun v wx => ∃ (kk : Int) (q' : Nat), v = .int .i64 kk ∧ (0 ≤ kk ∧ kk < 8) ∧ (kk < 2 → 1 ≤ d) ∧ Kt W w wx db p l cap q' gC ta a2 c2 (T ++ [zeroT]) gt 0 (1 + z) 0 [] [] none 0 0 [])
      case first =>
        cases b with
        | false =>
          have hdv := hbd rfl
          go_wp2_with fail
          go_meet
          exact ⟨_, _, rfl, by omega, fun _ => hdv, hB⟩
        | true =>
          clear hbd
          have K6 := Lib.hid (hB.m.dicec hl 6 (by omega) (by omega))
          have z6a := dnum_lo l q2 (n := 6) (by omega)
          have z6b := dnum_hi l q2 (n := 6) (by omega)
          generalize dnum l q2 6 = z6 at *
          generalize dnxt l q2 = q3 at *
          have hw2 : IntKind.i64.wrap (2 + z6) = 2 + z6 := by rw [IntKind.wrap_i64]; omega
          go_wp2_with (go_at_call 22; (with_reducible refine K6.out.mono ?_); (first | rintro e w5 rfl hEN hgN | rintro e w5 rfl ⟨hEN, hgN⟩ | rintro e w5 ⟨rfl, hEN, hgN⟩))
          have hB5 := hB.next hEN hgN
          go_meet
          exact ⟨_, _, rfl, by omega, fun h => by omega, hB5⟩
      case rest =>
        obtain ⟨kk, q3, rfl, ⟨hk0, hk8⟩, hkd, hB⟩ := hcut
        clear hbd
        go_upto_region 6 with (fail)
        rcases (show kk = 0 ∨ kk = 1 ∨ kk = 2 ∨ kk = 3 ∨ kk = 4 ∨ kk = 5 ∨ kk = 6 ∨ kk = 7 by omega) with rfl | rfl | rfl | rfl | rfl | rfl | rfl | rfl
        · skip
          obtain ⟨⟨e0, e1, e2, e3, e4, e5⟩, eC⟩ := hB.held
          obtain ⟨k0, k1, k2, k3, k4⟩ := hB.frees
          go_upto_region 11 with (fail)
          have hZ := ((hB.set0 1).set1 0)
          clear e0 e1 e2 e3 e4 e5 eC k0 k1 k2 k3 k4
          generalize (wc.setCell ⟨gt, 0, none⟩ (.int .i64 1)).setCell ⟨gt, 1, none⟩ (.int .i64 0) = wZ at *
          replace hB := hZ
          clear hZ
          have hd1 := hkd (by decide)
          have K5 := Lib.hid (hB.m.dicec hl 2 (by omega) (by omega))
          have zca := dnum_lo l q3 (n := 2) (by omega)
          have zcb := dnum_hi l q3 (n := 2) (by omega)
          generalize dnum l q3 2 = zc at *
          generalize dnxt l q3 = q5 at *
          obtain ⟨cn, hcn⟩ : ∃ cn : Nat, 2 + zc = (cn : Int) := ⟨(2 + zc).toNat, by omega⟩
          have hw2 : IntKind.i64.wrap (2 + zc) = (cn : Int) := by rw [IntKind.wrap_i64]; omega
          have hcn2 : 2 ≤ cn := by omega
          have hcn3 : cn ≤ 3 := by omega
          have hwD : IntKind.i64.wrap (D - 1) = (d : Int) := by have := HD.out; rw [IntKind.wrap_i64]; omega
          clear hcn zca zcb
          go_wp2_with (go_at_call 22; (with_reducible refine K5.out.mono ?_); (first | rintro e w5 rfl hEN hgN | rintro e w5 rfl ⟨hEN, hgN⟩ | rintro e w5 ⟨rfl, hEN, hgN⟩))
          replace hB := hB.next hEN hgN
          clear hEN hgN K5 hw2
          go_loopw [52] (fun iv wr => ∃ (i : Nat) (X : List Trm) (A : List Int) (ta2 aa : Option Addr) (tc2 ac q4 : Nat), i ≤ cn ∧ iv = .int .i64 (i : Int) ∧ Hid (KidsAt d A (n + 1) X ∧ X.length ≤ i * szK d ∧ (∀ a ∈ A, I64 a)) ∧ Hid (∀ t ∈ X, ∀ j, rowOf t.aa = some j → w.heap.size ≤ j) ∧ Kt W w wr db p l cap q4 gC ta ta2 tc2 (T ++ zeroT :: X) gt 1 0 0 [] [] aa i ac A) (fun iv _ => cn - (intOf iv).toNat)
          case atStart => exact ⟨0, [], [], a2, none, c2, 0, q5, Nat.zero_le _, rfl, Lib.hid ⟨kids_nil _ _, by simp, by simp⟩, Lib.hid (by simp), hB⟩
          case round =>
            clear hB hT1
            obtain ⟨i, X, A, ta2, aa, tc2, ac, q4, hi, rfl, hKi, hFX, hB⟩ := hrel
            have hM : (T ++ zeroT :: X).length = n + 1 + X.length := by rw [List.length_append, ← HN.out, List.length_cons]; omega
            have hXl := hKi.out.2.1
            by_cases hit : i < cn
            rotate_left
            · have hil : ¬ (i : Int) < (cn : Int) := by omega
              have hic : i = cn := by omega
              have hal := hB.al
              have hx3 : X.length ≤ 3 * szK d := Nat.le_trans hXl (Nat.mul_le_mul_right _ (by omega))
              have HIC := Lib.hid hic
              have hI := hKi.out.2.2
              have hac := hB.a.2.1
              clear hic hXl
              subst hal
              have hA2 : 2 ≤ A.length := by have := HIC.out; omega
              have hA3 : A.length ≤ 3 := by have := HIC.out; omega
              have hgr : okT ⟨1, 0, 0, [], [], A, aa, ac⟩ = true → GrowsAt (d + 1) T.length (⟨1, 0, 0, [], [], A, aa, ac⟩ :: X) := fun ho => by rw [← HN.out]; exact grows_node ho hKi.out.1
              have hfrk : ∀ t ∈ (⟨1, 0, 0, [], [], A, aa, ac⟩ :: X : List Trm), ∀ j, rowOf t.aa = some j → w.heap.size ≤ j := fun t ht j hj => by
                rcases List.mem_cons.1 ht with rfl | ht
                · have h1 := (hB.a.row j hj).1
                  have h2 := hB.g0
                  omega
                · exact hFX.out t ht j hj
              generalize wr = wZ at *
              have hok : okT (⟨1, 0, 0, [], [], A, aa, ac⟩ : Trm) = true := by simp [okT, bareF, sevB, noF]; omega
              have hin : Trm.In (⟨1, 0, 0, [], [], A, aa, ac⟩ : Trm) := term_in _ _ _ _ _ _ _ _ (by omega) (by omega) (by omega) (by simp) (by simp) hI hac (by omega)
              have hidx : (n : Int) < ((T ++ zeroT :: X).length : Int) := by rw [hM]; omega
              have hidx3 : (n : Int) < (n : Int) + 1 + (X.length : Int) := by omega
              have hidx2 : (n : Int) < (n : Int) + 1 := by omega
              have HSZ : Hid (1 ≤ ((⟨1, 0, 0, [], [], A, aa, ac⟩ : Trm) :: X).length ∧ ((⟨1, 0, 0, [], [], A, aa, ac⟩ : Trm) :: X).length ≤ szK (d + 1)) := Lib.hid ⟨by simp, by rw [List.length_cons, szK]; omega⟩
              have HFR : Hid (∀ t ∈ (⟨1, 0, 0, [], [], A, aa, ac⟩ : Trm) :: X, ∀ j, rowOf t.aa = some j → w.heap.size ≤ j) := Lib.hid hfrk
              go_upto_region 26 with (fail)
              refine wp_region_held_last' (S := fun w' => w'.cell? ⟨gC, 0, none⟩ = some (.slice ta2 (T ++ zeroT :: X).length tc2) ∧ w'.cell? ⟨gt, 0, none⟩ = some (.int .i64 1) ∧ w'.cell? ⟨gt, 1, none⟩ = some (.int .i64 0) ∧ w'.cell? ⟨gt, 2, none⟩ = some (.int .i64 0) ∧ w'.cell? ⟨gt, 3, none⟩ = some (.string ⟨#[]⟩) ∧ w'.cell? ⟨gt, 4, none⟩ = some (.string ⟨#[]⟩) ∧ w'.cell? ⟨gt, 5, none⟩ = some (.slice aa A.length ac)) 7 rfl (by kernel_rfl) (by kernel_rfl) (by kernel_rfl) ⟨(hB.keep (Below.refl _ _).drew).held.2, (hB.keep (Below.refl _ _).drew).held.1.1, (hB.keep (Below.refl _ _).drew).held.1.2.1, (hB.keep (Below.refl _ _).drew).held.1.2.2.1, (hB.keep (Below.refl _ _).drew).held.1.2.2.2.1, (hB.keep (Below.refl _ _).drew).held.1.2.2.2.2.1, (hB.keep (Below.refl _ _).drew).held.1.2.2.2.2.2⟩ (fun hHeld => ?_)
              dsimp only [List.dropLast, List.replicate] at hHeld ⊢
              replace hB := hB.keep (Below.refl _ _).drew
              generalize wZ.drew = wd at *
              have hhr := hB.hr
              obtain ⟨g, off, rfl, ⟨r0, r1, r2, r3, r4, r5⟩, ⟨f0, f1, f2, f3, f4, f5⟩, hKF, hkF⟩ := hB.put (N := n) HN.out.symm hin
              have HHR := Lib.hid hhr
              refine held_take (0) (v := ?_) rfl (by kernel_rfl) (by kernel_rfl) (by kernel_rfl) (fun _ _ _ h => h) (Or.inl ⟨by rfl, ?_⟩) (by assumption) ?_
              rotate_left
              · intro w hSw
                try dsimp only at hSw
                go_simp
                with_reducible rfl
              try simp only [Act.put, List.setIfInBounds_toArray, List.set_cons_zero, List.set_cons_succ]
              refine held_take (1) (v := ?_) rfl (by kernel_rfl) (by kernel_rfl) (by kernel_rfl) (fun _ _ _ h => h) (Or.inl ⟨by rfl, ?_⟩) (by assumption) ?_
              rotate_left
              · intro w hSw
                try dsimp only at hSw
                go_simp
                with_reducible rfl
              try simp only [Act.put, List.setIfInBounds_toArray, List.set_cons_zero, List.set_cons_succ]
              refine held_take (2) (v := ?_) rfl (by kernel_rfl) (by kernel_rfl) (by kernel_rfl) (fun _ _ _ h => h) (Or.inl ⟨by rfl, ?_⟩) (by assumption) ?_
              rotate_left
              · intro w hSw
                try dsimp only at hSw
                go_simp
                with_reducible rfl
              try simp only [Act.put, List.setIfInBounds_toArray, List.set_cons_zero, List.set_cons_succ]
              refine held_take (3) (v := ?_) rfl (by kernel_rfl) (by kernel_rfl) (by kernel_rfl) (fun _ _ _ h => h) (Or.inl ⟨by rfl, ?_⟩) (by assumption) ?_
              rotate_left
              · intro w hSw
                try dsimp only at hSw
                go_simp
                with_reducible rfl
              try simp only [Act.put, List.setIfInBounds_toArray, List.set_cons_zero, List.set_cons_succ]
              refine held_take (4) (v := ?_) rfl (by kernel_rfl) (by kernel_rfl) (by kernel_rfl) (fun _ _ _ h => h) (Or.inl ⟨by rfl, ?_⟩) (by assumption) ?_
              rotate_left
              · intro w hSw
                try dsimp only at hSw
                go_simp
                with_reducible rfl
              try simp only [Act.put, List.setIfInBounds_toArray, List.set_cons_zero, List.set_cons_succ]
              refine held_take (5) (v := ?_) rfl (by kernel_rfl) (by kernel_rfl) (by kernel_rfl) (fun _ _ _ h => h) (Or.inl ⟨by rfl, ?_⟩) (by assumption) ?_
              rotate_left
              · intro w hSw
                try dsimp only at hSw
                go_simp
                with_reducible rfl
              try simp only [Act.put, List.setIfInBounds_toArray, List.set_cons_zero, List.set_cons_succ]
              refine held_take (6) (v := ?_) rfl (by kernel_rfl) (by kernel_rfl) (by kernel_rfl) (fun _ _ _ h => h) (Or.inl ⟨by rfl, ?_⟩) (by assumption) ?_
              rotate_left
              · intro w hSw
                try dsimp only at hSw
                go_simp
                with_reducible rfl
              try simp only [Act.put, List.setIfInBounds_toArray, List.set_cons_zero, List.set_cons_succ]
              refine wpAnyH_done (by kernel_rfl) ?_ _
              dsimp only [Behind]
              go_simp
              go_wp2
              first | refine bodyPost_ret (results_none rfl _ _ _) rfl ?_ | refine bodyPost_end (results_none rfl _ _ _) rfl ?_
              exact ⟨(⟨1, 0, 0, [], [], A, aa, ac⟩ : Trm) :: X, some ⟨g, off, none⟩, tc2, q4, rfl, hKF, hgr hok, HSZ.out, hkF, HHR.out, HFR.out⟩
            have hil : (i : Int) < (cn : Int) := by omega
            go_upto_region 13 with (fail)
            refine wp_region_held_last' (S := fun w' => w'.cell? ⟨gt, 5, none⟩ = some (.slice aa i ac) ∧ w'.cell? ⟨gC, 0, none⟩ = some (.slice ta2 (T ++ zeroT :: X).length tc2)) 10 rfl (by kernel_rfl) (by kernel_rfl) (by kernel_rfl) ⟨(hB.keep (Below.refl _ _).drew).held.1.2.2.2.2.2, (hB.keep (Below.refl _ _).drew).held.2⟩ (fun hHeld => ?_)
            dsimp only [List.dropLast, List.replicate] at hHeld ⊢
            replace hB := hB.keep (Below.refl _ _).drew
            generalize wr.drew = wd at *
            refine held_take (0) (v := ?_) rfl (by kernel_rfl) (by kernel_rfl) (by kernel_rfl) (fun _ _ _ h => h) (Or.inl ⟨by rfl, ?_⟩) (by assumption) ?_
            rotate_left
            · intro w hSw
              try dsimp only at hSw
              go_simp
              with_reducible rfl
            try simp only [Act.put, List.setIfInBounds_toArray, List.set_cons_zero, List.set_cons_succ]
            refine held_take (1) (v := ?_) rfl (by kernel_rfl) (by kernel_rfl) (by kernel_rfl) (fun _ _ _ h => h) (Or.inl ⟨by rfl, ?_⟩) (by assumption) ?_
            rotate_left
            · intro w hSw
              try dsimp only at hSw
              go_simp
              with_reducible rfl
            try simp only [Act.put, List.setIfInBounds_toArray, List.set_cons_zero, List.set_cons_succ]
            refine held_take (2) (v := ?_) rfl (by kernel_rfl) (by kernel_rfl) (by kernel_rfl) (fun _ _ _ h => h) (Or.inl ⟨by rfl, ?_⟩) (by assumption) ?_
            rotate_left
            · intro w hSw
              try dsimp only at hSw
              go_simp
              with_reducible rfl
            try simp only [Act.put, List.setIfInBounds_toArray, List.set_cons_zero, List.set_cons_succ]
            refine held_take (3) (v := ?_) rfl (by kernel_rfl) (by kernel_rfl) (by kernel_rfl) (fun _ _ _ h => h) (Or.inl ⟨by rfl, ?_⟩) (by assumption) ?_
            rotate_left
            · intro w hSw
              try dsimp only at hSw
              go_simp
              with_reducible rfl
            try simp only [Act.put, List.setIfInBounds_toArray, List.set_cons_zero, List.set_cons_succ]
            refine held_take (4) (v := ?_) rfl (by kernel_rfl) (by kernel_rfl) (by kernel_rfl) (fun _ _ _ h => h) (Or.inl ⟨by rfl, ?_⟩) (by assumption) ?_
            rotate_left
            · intro w hSw
              try dsimp only at hSw
              go_simp
              with_reducible rfl
            try simp only [Act.put, List.setIfInBounds_toArray, List.set_cons_zero, List.set_cons_succ]
            refine held_take (5) (v := ?_) rfl (by kernel_rfl) (by kernel_rfl) (by kernel_rfl) (fun _ _ _ h => h) (Or.inl ⟨by rfl, ?_⟩) (by assumption) ?_
            rotate_left
            · intro w hSw
              try dsimp only at hSw
              go_simp
              with_reducible rfl
            try simp only [Act.put, List.setIfInBounds_toArray, List.set_cons_zero, List.set_cons_succ]
            refine held_take (6) (v := ?_) rfl (by kernel_rfl) (by kernel_rfl) (by kernel_rfl) (fun _ _ _ h => h) (Or.inl ⟨by rfl, ?_⟩) (by assumption) ?_
            rotate_left
            · intro w hSw
              try dsimp only at hSw
              go_simp
              with_reducible rfl
            try simp only [Act.put, List.setIfInBounds_toArray, List.set_cons_zero, List.set_cons_succ]
            refine wpAnyH_ready (rs := [7]) (by kernel_rfl) (by simp) ?_
            refine held_cons rfl (fun K hK => ?_) AllReadyH.nil
            go_simp
            have hbL := (Below.refl wd.heap.size wd).alloc (Nat.le_refl _) (.cells #[.int .i64 ((n : Int) + 1 + (X.length : Int))] 3)
            refine hK.out _ _ ⟨(hB.keep hbL).held.1.2.2.2.2.2, (hB.keep hbL).held.2⟩ (fun hHeld => ?_)
            clear hK K
            try simp only [Act.put, List.setIfInBounds_toArray, List.set_cons_zero, List.set_cons_succ]
            refine wpAnyH_ready (rs := [8]) (by kernel_rfl) (by simp) ?_
            refine held_cons rfl (fun K hK => ?_) AllReadyH.nil
            refine step_appn_at (w0 := W) (B := W.heap.size) (base := gt + 1) rfl _ _ _ rfl elIntK rfl hB.a hB.m.env.below (by have := hB.m.wd; have := hB.m.dC; have := hB.c0; have := hB.g0; omega) hB.tt.lt (m := 1) (cs := [.int .i64 ((n : Int) + 1 + (X.length : Int))]) rfl rfl (one1 rfl) (by omega) ?_
            intro a3 c3 wA hO8 hb8 hg8 hat8
            obtain ⟨hB8, q5, f5⟩ := hB.arg (v := (n : Int) + 1 + (X.length : Int)) hO8 hg8 hat8
            have eC8 := (hB.m.c.grown hg8 (fun e => by have := (hB.a.row _ e.symm).1; have := hB.c0; have := hB.g0; omega)).cell 0 rfl
            clear hO8 hb8 hg8 hat8
            refine hK.out _ _ ⟨q5, eC8⟩ (fun hHeld => ?_)
            clear hK K
            try simp only [Act.put, List.setIfInBounds_toArray, List.set_cons_zero, List.set_cons_succ]
            refine held_take (9) (v := ?_) rfl (by kernel_rfl) (by kernel_rfl) (by kernel_rfl) (fun _ _ _ h => h) (Or.inl ⟨by rfl, ?_⟩) (by assumption) ?_
            rotate_left
            · intro w hSw
              try dsimp only at hSw
              go_simp
              with_reducible rfl
            try simp only [Act.put, List.setIfInBounds_toArray, List.set_cons_zero, List.set_cons_succ]
            refine wpAnyH_done (by kernel_rfl) ?_ _
            dsimp only [Behind]
            go_simp
            go_upto_region 14 with (fail)
            generalize wA.setCell ⟨gt, 5, none⟩ (.slice a3 (i + 1) c3) = wZ at *
            clear hB hbL q5 f5 eC8
            have hx4 : X.length + szK d ≤ 3 * szK d := by
              have := Nat.mul_le_mul_right (szK d) (show i + 1 ≤ 3 by omega)
              rw [Nat.succ_mul] at this
              omega
            have KR := Lib.hid (IH.out q4 ta2 tc2 (T ++ zeroT :: X) wZ hd1 (by omega) (by omega) hB8.m)
            go_wp2_with (go_at_call 24; (with_reducible refine KR.out.mono ?_); (first | rintro e w7 ⟨X2, ta3, tc3, q6, rfl, hKc, hGr, ⟨hx1, hx2⟩, hkp, hrw, hfr⟩ | rintro e w7 X2 ta3 tc3 q6 rfl hKc hGr ⟨hx1, hx2⟩ hkp hrw hfr))
            have hB9 := hB8.part hKc hkp hrw hfr
            rw [List.append_assoc, List.cons_append] at hB9
            rw [hM] at hGr
            have HKN : Hid (KidsAt d (A ++ [(n : Int) + 1 + (X.length : Int)]) (n + 1) (X ++ X2) ∧ (X ++ X2).length ≤ (i + 1) * szK d ∧ (∀ a ∈ A ++ [(n : Int) + 1 + (X.length : Int)], I64 a)) := Lib.hid ⟨kids_snoc hKi.out.1 hGr, by rw [List.length_append, Nat.succ_mul]; omega, fun a ha => by
              rcases List.mem_append.1 ha with ha | ha
              · exact hKi.out.2.2 a ha
              · rw [List.mem_singleton.1 ha]; exact ⟨by omega, by omega⟩⟩
            have HFN : Hid (∀ t ∈ X ++ X2, ∀ j, rowOf t.aa = some j → w.heap.size ≤ j) := Lib.hid (fun t ht j hj => by
              rcases List.mem_append.1 ht with ht | ht
              · exact hFX.out t ht j hj
              · have := hfr t ht j hj; have := hB8.kp.size; omega)
            have HB9 := Lib.hid hB9
            clear hB9 hKc hGr hkp hrw hfr hB8 KR hx4
            go_roundw
            case rel => exact ⟨i + 1, X ++ X2, _, ta3, a3, tc3, c3, q6, by omega, by go_num, HKN, HFN, HB9.out⟩
            case measure => simp [intOf]; omega
        · skip
          obtain ⟨⟨e0, e1, e2, e3, e4, e5⟩, eC⟩ := hB.held
          obtain ⟨k0, k1, k2, k3, k4⟩ := hB.frees
          go_upto_region 11 with (fail)
          have hZ := ((hB.set0 2).set1 0)
          clear e0 e1 e2 e3 e4 e5 eC k0 k1 k2 k3 k4
          generalize (wc.setCell ⟨gt, 0, none⟩ (.int .i64 2)).setCell ⟨gt, 1, none⟩ (.int .i64 0) = wZ at *
          replace hB := hZ
          clear hZ
          have hd1 := hkd (by decide)
          have K5 := Lib.hid (hB.m.dicec hl 2 (by omega) (by omega))
          have zca := dnum_lo l q3 (n := 2) (by omega)
          have zcb := dnum_hi l q3 (n := 2) (by omega)
          generalize dnum l q3 2 = zc at *
          generalize dnxt l q3 = q5 at *
          obtain ⟨cn, hcn⟩ : ∃ cn : Nat, 2 + zc = (cn : Int) := ⟨(2 + zc).toNat, by omega⟩
          have hw2 : IntKind.i64.wrap (2 + zc) = (cn : Int) := by rw [IntKind.wrap_i64]; omega
          have hcn2 : 2 ≤ cn := by omega
          have hcn3 : cn ≤ 3 := by omega
          have hwD : IntKind.i64.wrap (D - 1) = (d : Int) := by have := HD.out; rw [IntKind.wrap_i64]; omega
          clear hcn zca zcb
          go_wp2_with (go_at_call 22; (with_reducible refine K5.out.mono ?_); (first | rintro e w5 rfl hEN hgN | rintro e w5 rfl ⟨hEN, hgN⟩ | rintro e w5 ⟨rfl, hEN, hgN⟩))
          replace hB := hB.next hEN hgN
          clear hEN hgN K5 hw2
          go_loopw [52] (fun iv wr => ∃ (i : Nat) (X : List Trm) (A : List Int) (ta2 aa : Option Addr) (tc2 ac q4 : Nat), i ≤ cn ∧ iv = .int .i64 (i : Int) ∧ Hid (KidsAt d A (n + 1) X ∧ X.length ≤ i * szK d ∧ (∀ a ∈ A, I64 a)) ∧ Hid (∀ t ∈ X, ∀ j, rowOf t.aa = some j → w.heap.size ≤ j) ∧ Kt W w wr db p l cap q4 gC ta ta2 tc2 (T ++ zeroT :: X) gt 2 0 0 [] [] aa i ac A) (fun iv _ => cn - (intOf iv).toNat)
          case atStart => exact ⟨0, [], [], a2, none, c2, 0, q5, Nat.zero_le _, rfl, Lib.hid ⟨kids_nil _ _, by simp, by simp⟩, Lib.hid (by simp), hB⟩
          case round =>
            clear hB hT1
            obtain ⟨i, X, A, ta2, aa, tc2, ac, q4, hi, rfl, hKi, hFX, hB⟩ := hrel
            have hM : (T ++ zeroT :: X).length = n + 1 + X.length := by rw [List.length_append, ← HN.out, List.length_cons]; omega
            have hXl := hKi.out.2.1
            by_cases hit : i < cn
            rotate_left
            · have hil : ¬ (i : Int) < (cn : Int) := by omega
              have hic : i = cn := by omega
              have hal := hB.al
              have hx3 : X.length ≤ 3 * szK d := Nat.le_trans hXl (Nat.mul_le_mul_right _ (by omega))
              have HIC := Lib.hid hic
              have hI := hKi.out.2.2
              have hac := hB.a.2.1
              clear hic hXl
              subst hal
              have hA2 : 2 ≤ A.length := by have := HIC.out; omega
              have hA3 : A.length ≤ 3 := by have := HIC.out; omega
              have hgr : okT ⟨2, 0, 0, [], [], A, aa, ac⟩ = true → GrowsAt (d + 1) T.length (⟨2, 0, 0, [], [], A, aa, ac⟩ :: X) := fun ho => by rw [← HN.out]; exact grows_node ho hKi.out.1
              have hfrk : ∀ t ∈ (⟨2, 0, 0, [], [], A, aa, ac⟩ :: X : List Trm), ∀ j, rowOf t.aa = some j → w.heap.size ≤ j := fun t ht j hj => by
                rcases List.mem_cons.1 ht with rfl | ht
                · have h1 := (hB.a.row j hj).1
                  have h2 := hB.g0
                  omega
                · exact hFX.out t ht j hj
              generalize wr = wZ at *
              have hok : okT (⟨2, 0, 0, [], [], A, aa, ac⟩ : Trm) = true := by simp [okT, bareF, sevB, noF]; omega
              have hin : Trm.In (⟨2, 0, 0, [], [], A, aa, ac⟩ : Trm) := term_in _ _ _ _ _ _ _ _ (by omega) (by omega) (by omega) (by simp) (by simp) hI hac (by omega)
              have hidx : (n : Int) < ((T ++ zeroT :: X).length : Int) := by rw [hM]; omega
              have hidx3 : (n : Int) < (n : Int) + 1 + (X.length : Int) := by omega
              have hidx2 : (n : Int) < (n : Int) + 1 := by omega
              have HSZ : Hid (1 ≤ ((⟨2, 0, 0, [], [], A, aa, ac⟩ : Trm) :: X).length ∧ ((⟨2, 0, 0, [], [], A, aa, ac⟩ : Trm) :: X).length ≤ szK (d + 1)) := Lib.hid ⟨by simp, by rw [List.length_cons, szK]; omega⟩
              have HFR : Hid (∀ t ∈ (⟨2, 0, 0, [], [], A, aa, ac⟩ : Trm) :: X, ∀ j, rowOf t.aa = some j → w.heap.size ≤ j) := Lib.hid hfrk
              go_upto_region 26 with (fail)
              refine wp_region_held_last' (S := fun w' => w'.cell? ⟨gC, 0, none⟩ = some (.slice ta2 (T ++ zeroT :: X).length tc2) ∧ w'.cell? ⟨gt, 0, none⟩ = some (.int .i64 2) ∧ w'.cell? ⟨gt, 1, none⟩ = some (.int .i64 0) ∧ w'.cell? ⟨gt, 2, none⟩ = some (.int .i64 0) ∧ w'.cell? ⟨gt, 3, none⟩ = some (.string ⟨#[]⟩) ∧ w'.cell? ⟨gt, 4, none⟩ = some (.string ⟨#[]⟩) ∧ w'.cell? ⟨gt, 5, none⟩ = some (.slice aa A.length ac)) 7 rfl (by kernel_rfl) (by kernel_rfl) (by kernel_rfl) ⟨(hB.keep (Below.refl _ _).drew).held.2, (hB.keep (Below.refl _ _).drew).held.1.1, (hB.keep (Below.refl _ _).drew).held.1.2.1, (hB.keep (Below.refl _ _).drew).held.1.2.2.1, (hB.keep (Below.refl _ _).drew).held.1.2.2.2.1, (hB.keep (Below.refl _ _).drew).held.1.2.2.2.2.1, (hB.keep (Below.refl _ _).drew).held.1.2.2.2.2.2⟩ (fun hHeld => ?_)
              dsimp only [List.dropLast, List.replicate] at hHeld ⊢
              replace hB := hB.keep (Below.refl _ _).drew
              generalize wZ.drew = wd at *
              have hhr := hB.hr
              obtain ⟨g, off, rfl, ⟨r0, r1, r2, r3, r4, r5⟩, ⟨f0, f1, f2, f3, f4, f5⟩, hKF, hkF⟩ := hB.put (N := n) HN.out.symm hin
              have HHR := Lib.hid hhr
              refine held_take (0) (v := ?_) rfl (by kernel_rfl) (by kernel_rfl) (by kernel_rfl) (fun _ _ _ h => h) (Or.inl ⟨by rfl, ?_⟩) (by assumption) ?_
              rotate_left
              · intro w hSw
                try dsimp only at hSw
                go_simp
                with_reducible rfl
              try simp only [Act.put, List.setIfInBounds_toArray, List.set_cons_zero, List.set_cons_succ]
              refine held_take (1) (v := ?_) rfl (by kernel_rfl) (by kernel_rfl) (by kernel_rfl) (fun _ _ _ h => h) (Or.inl ⟨by rfl, ?_⟩) (by assumption) ?_
              rotate_left
              · intro w hSw
                try dsimp only at hSw
                go_simp
                with_reducible rfl
              try simp only [Act.put, List.setIfInBounds_toArray, List.set_cons_zero, List.set_cons_succ]
              refine held_take (2) (v := ?_) rfl (by kernel_rfl) (by kernel_rfl) (by kernel_rfl) (fun _ _ _ h => h) (Or.inl ⟨by rfl, ?_⟩) (by assumption) ?_
              rotate_left
              · intro w hSw
                try dsimp only at hSw
                go_simp
                with_reducible rfl
              try simp only [Act.put, List.setIfInBounds_toArray, List.set_cons_zero, List.set_cons_succ]
              refine held_take (3) (v := ?_) rfl (by kernel_rfl) (by kernel_rfl) (by kernel_rfl) (fun _ _ _ h => h) (Or.inl ⟨by rfl, ?_⟩) (by assumption) ?_
              rotate_left
              · intro w hSw
                try dsimp only at hSw
                go_simp
                with_reducible rfl
              try simp only [Act.put, List.setIfInBounds_toArray, List.set_cons_zero, List.set_cons_succ]
              refine held_take (4) (v := ?_) rfl (by kernel_rfl) (by kernel_rfl) (by kernel_rfl) (fun _ _ _ h => h) (Or.inl ⟨by rfl, ?_⟩) (by assumption) ?_
              rotate_left
              · intro w hSw
                try dsimp only at hSw
                go_simp
                with_reducible rfl
              try simp only [Act.put, List.setIfInBounds_toArray, List.set_cons_zero, List.set_cons_succ]
              refine held_take (5) (v := ?_) rfl (by kernel_rfl) (by kernel_rfl) (by kernel_rfl) (fun _ _ _ h => h) (Or.inl ⟨by rfl, ?_⟩) (by assumption) ?_
              rotate_left
              · intro w hSw
                try dsimp only at hSw
                go_simp
                with_reducible rfl
              try simp only [Act.put, List.setIfInBounds_toArray, List.set_cons_zero, List.set_cons_succ]
              refine held_take (6) (v := ?_) rfl (by kernel_rfl) (by kernel_rfl) (by kernel_rfl) (fun _ _ _ h => h) (Or.inl ⟨by rfl, ?_⟩) (by assumption) ?_
              rotate_left
              · intro w hSw
                try dsimp only at hSw
                go_simp
                with_reducible rfl
              try simp only [Act.put, List.setIfInBounds_toArray, List.set_cons_zero, List.set_cons_succ]
              refine wpAnyH_done (by kernel_rfl) ?_ _
              dsimp only [Behind]
              go_simp
              go_wp2
              first | refine bodyPost_ret (results_none rfl _ _ _) rfl ?_ | refine bodyPost_end (results_none rfl _ _ _) rfl ?_
              exact ⟨(⟨2, 0, 0, [], [], A, aa, ac⟩ : Trm) :: X, some ⟨g, off, none⟩, tc2, q4, rfl, hKF, hgr hok, HSZ.out, hkF, HHR.out, HFR.out⟩
            have hil : (i : Int) < (cn : Int) := by omega
            go_upto_region 13 with (fail)
            refine wp_region_held_last' (S := fun w' => w'.cell? ⟨gt, 5, none⟩ = some (.slice aa i ac) ∧ w'.cell? ⟨gC, 0, none⟩ = some (.slice ta2 (T ++ zeroT :: X).length tc2)) 10 rfl (by kernel_rfl) (by kernel_rfl) (by kernel_rfl) ⟨(hB.keep (Below.refl _ _).drew).held.1.2.2.2.2.2, (hB.keep (Below.refl _ _).drew).held.2⟩ (fun hHeld => ?_)
            dsimp only [List.dropLast, List.replicate] at hHeld ⊢
            replace hB := hB.keep (Below.refl _ _).drew
            generalize wr.drew = wd at *
            refine held_take (0) (v := ?_) rfl (by kernel_rfl) (by kernel_rfl) (by kernel_rfl) (fun _ _ _ h => h) (Or.inl ⟨by rfl, ?_⟩) (by assumption) ?_
            rotate_left
            · intro w hSw
              try dsimp only at hSw
              go_simp
              with_reducible rfl
            try simp only [Act.put, List.setIfInBounds_toArray, List.set_cons_zero, List.set_cons_succ]
            refine held_take (1) (v := ?_) rfl (by kernel_rfl) (by kernel_rfl) (by kernel_rfl) (fun _ _ _ h => h) (Or.inl ⟨by rfl, ?_⟩) (by assumption) ?_
            rotate_left
            · intro w hSw
              try dsimp only at hSw
              go_simp
              with_reducible rfl
            try simp only [Act.put, List.setIfInBounds_toArray, List.set_cons_zero, List.set_cons_succ]
            refine held_take (2) (v := ?_) rfl (by kernel_rfl) (by kernel_rfl) (by kernel_rfl) (fun _ _ _ h => h) (Or.inl ⟨by rfl, ?_⟩) (by assumption) ?_
            rotate_left
            · intro w hSw
              try dsimp only at hSw
              go_simp
              with_reducible rfl
            try simp only [Act.put, List.setIfInBounds_toArray, List.set_cons_zero, List.set_cons_succ]
            refine held_take (3) (v := ?_) rfl (by kernel_rfl) (by kernel_rfl) (by kernel_rfl) (fun _ _ _ h => h) (Or.inl ⟨by rfl, ?_⟩) (by assumption) ?_
            rotate_left
            · intro w hSw
              try dsimp only at hSw
              go_simp
              with_reducible rfl
            try simp only [Act.put, List.setIfInBounds_toArray, List.set_cons_zero, List.set_cons_succ]
            refine held_take (4) (v := ?_) rfl (by kernel_rfl) (by kernel_rfl) (by kernel_rfl) (fun _ _ _ h => h) (Or.inl ⟨by rfl, ?_⟩) (by assumption) ?_
            rotate_left
            · intro w hSw
              try dsimp only at hSw
              go_simp
              with_reducible rfl
            try simp only [Act.put, List.setIfInBounds_toArray, List.set_cons_zero, List.set_cons_succ]
            refine held_take (5) (v := ?_) rfl (by kernel_rfl) (by kernel_rfl) (by kernel_rfl) (fun _ _ _ h => h) (Or.inl ⟨by rfl, ?_⟩) (by assumption) ?_
            rotate_left
            · intro w hSw
              try dsimp only at hSw
              go_simp
              with_reducible rfl
            try simp only [Act.put, List.setIfInBounds_toArray, List.set_cons_zero, List.set_cons_succ]
            refine held_take (6) (v := ?_) rfl (by kernel_rfl) (by kernel_rfl) (by kernel_rfl) (fun _ _ _ h => h) (Or.inl ⟨by rfl, ?_⟩) (by assumption) ?_
            rotate_left
            · intro w hSw
              try dsimp only at hSw
              go_simp
              with_reducible rfl
            try simp only [Act.put, List.setIfInBounds_toArray, List.set_cons_zero, List.set_cons_succ]
            refine wpAnyH_ready (rs := [7]) (by kernel_rfl) (by simp) ?_
            refine held_cons rfl (fun K hK => ?_) AllReadyH.nil
            go_simp
            have hbL := (Below.refl wd.heap.size wd).alloc (Nat.le_refl _) (.cells #[.int .i64 ((n : Int) + 1 + (X.length : Int))] 3)
            refine hK.out _ _ ⟨(hB.keep hbL).held.1.2.2.2.2.2, (hB.keep hbL).held.2⟩ (fun hHeld => ?_)
            clear hK K
            try simp only [Act.put, List.setIfInBounds_toArray, List.set_cons_zero, List.set_cons_succ]
            refine wpAnyH_ready (rs := [8]) (by kernel_rfl) (by simp) ?_
            refine held_cons rfl (fun K hK => ?_) AllReadyH.nil
            refine step_appn_at (w0 := W) (B := W.heap.size) (base := gt + 1) rfl _ _ _ rfl elIntK rfl hB.a hB.m.env.below (by have := hB.m.wd; have := hB.m.dC; have := hB.c0; have := hB.g0; omega) hB.tt.lt (m := 1) (cs := [.int .i64 ((n : Int) + 1 + (X.length : Int))]) rfl rfl (one1 rfl) (by omega) ?_
            intro a3 c3 wA hO8 hb8 hg8 hat8
            obtain ⟨hB8, q5, f5⟩ := hB.arg (v := (n : Int) + 1 + (X.length : Int)) hO8 hg8 hat8
            have eC8 := (hB.m.c.grown hg8 (fun e => by have := (hB.a.row _ e.symm).1; have := hB.c0; have := hB.g0; omega)).cell 0 rfl
            clear hO8 hb8 hg8 hat8
            refine hK.out _ _ ⟨q5, eC8⟩ (fun hHeld => ?_)
            clear hK K
            try simp only [Act.put, List.setIfInBounds_toArray, List.set_cons_zero, List.set_cons_succ]
            refine held_take (9) (v := ?_) rfl (by kernel_rfl) (by kernel_rfl) (by kernel_rfl) (fun _ _ _ h => h) (Or.inl ⟨by rfl, ?_⟩) (by assumption) ?_
            rotate_left
            · intro w hSw
              try dsimp only at hSw
              go_simp
              with_reducible rfl
            try simp only [Act.put, List.setIfInBounds_toArray, List.set_cons_zero, List.set_cons_succ]
            refine wpAnyH_done (by kernel_rfl) ?_ _
            dsimp only [Behind]
            go_simp
            go_upto_region 14 with (fail)
            generalize wA.setCell ⟨gt, 5, none⟩ (.slice a3 (i + 1) c3) = wZ at *
            clear hB hbL q5 f5 eC8
            have hx4 : X.length + szK d ≤ 3 * szK d := by
              have := Nat.mul_le_mul_right (szK d) (show i + 1 ≤ 3 by omega)
              rw [Nat.succ_mul] at this
              omega
            have KR := Lib.hid (IH.out q4 ta2 tc2 (T ++ zeroT :: X) wZ hd1 (by omega) (by omega) hB8.m)
            go_wp2_with (go_at_call 24; (with_reducible refine KR.out.mono ?_); (first | rintro e w7 ⟨X2, ta3, tc3, q6, rfl, hKc, hGr, ⟨hx1, hx2⟩, hkp, hrw, hfr⟩ | rintro e w7 X2 ta3 tc3 q6 rfl hKc hGr ⟨hx1, hx2⟩ hkp hrw hfr))
            have hB9 := hB8.part hKc hkp hrw hfr
            rw [List.append_assoc, List.cons_append] at hB9
            rw [hM] at hGr
            have HKN : Hid (KidsAt d (A ++ [(n : Int) + 1 + (X.length : Int)]) (n + 1) (X ++ X2) ∧ (X ++ X2).length ≤ (i + 1) * szK d ∧ (∀ a ∈ A ++ [(n : Int) + 1 + (X.length : Int)], I64 a)) := Lib.hid ⟨kids_snoc hKi.out.1 hGr, by rw [List.length_append, Nat.succ_mul]; omega, fun a ha => by
              rcases List.mem_append.1 ha with ha | ha
              · exact hKi.out.2.2 a ha
              · rw [List.mem_singleton.1 ha]; exact ⟨by omega, by omega⟩⟩
            have HFN : Hid (∀ t ∈ X ++ X2, ∀ j, rowOf t.aa = some j → w.heap.size ≤ j) := Lib.hid (fun t ht j hj => by
              rcases List.mem_append.1 ht with ht | ht
              · exact hFX.out t ht j hj
              · have := hfr t ht j hj; have := hB8.kp.size; omega)
            have HB9 := Lib.hid hB9
            clear hB9 hKc hGr hkp hrw hfr hB8 KR hx4
            go_roundw
            case rel => exact ⟨i + 1, X ++ X2, _, ta3, a3, tc3, c3, q6, by omega, by go_num, HKN, HFN, HB9.out⟩
            case measure => simp [intOf]; omega
        · skip
          obtain ⟨⟨e0, e1, e2, e3, e4, e5⟩, eC⟩ := hB.held
          obtain ⟨k0, k1, k2, k3, k4⟩ := hB.frees
          go_upto_region 26 with (fail)
          have hZ := (hB.set0 3)
          clear e0 e1 e2 e3 e4 e5 eC k0 k1 k2 k3 k4
          generalize (wc.setCell ⟨gt, 0, none⟩ (.int .i64 3)) = wZ at *
          replace hB := hZ
          clear hZ
          have hok : okT (⟨3, (1 + z), 0, [], [], [], none, 0⟩ : Trm) = true := by simp [okT, bareF, sevB, countB, noF]; omega
          have hin : Trm.In (⟨3, (1 + z), 0, [], [], [], none, 0⟩ : Trm) := term_in _ _ _ _ _ _ _ _ (by omega) (by omega) (by omega) (by simp) (by simp) (by simp) (by simp) (by simp)
          have hidx : (n : Int) < ((T ++ [zeroT]).length : Int) := by simp [← HN.out]; omega
          have hidx2 : (n : Int) < (n : Int) + 1 := by omega
          have HSZ : Hid (1 ≤ ((⟨3, (1 + z), 0, [], [], [], none, 0⟩ : Trm) :: []).length ∧ ((⟨3, (1 + z), 0, [], [], [], none, 0⟩ : Trm) :: []).length ≤ szK (d + 1)) := Lib.hid ⟨by simp, by simp [szK]⟩
          have HFR : Hid (∀ t ∈ (⟨3, (1 + z), 0, [], [], [], none, 0⟩ : Trm) :: [], ∀ j, rowOf t.aa = some j → w.heap.size ≤ j) := Lib.hid (fun t ht j hj => by rw [List.mem_singleton.1 ht] at hj; simp [rowOf] at hj)
          go_upto_region 26 with (fail)
          refine wp_region_held_last' (S := fun w' => w'.cell? ⟨gC, 0, none⟩ = some (.slice a2 (T ++ [zeroT]).length c2) ∧ w'.cell? ⟨gt, 0, none⟩ = some (.int .i64 3) ∧ w'.cell? ⟨gt, 1, none⟩ = some (.int .i64 (1 + z)) ∧ w'.cell? ⟨gt, 2, none⟩ = some (.int .i64 0) ∧ w'.cell? ⟨gt, 3, none⟩ = some (.string ⟨#[]⟩) ∧ w'.cell? ⟨gt, 4, none⟩ = some (.string ⟨#[]⟩) ∧ w'.cell? ⟨gt, 5, none⟩ = some (.slice none 0 0)) 7 rfl (by kernel_rfl) (by kernel_rfl) (by kernel_rfl) ⟨(hB.keep (Below.refl _ _).drew).held.2, (hB.keep (Below.refl _ _).drew).held.1.1, (hB.keep (Below.refl _ _).drew).held.1.2.1, (hB.keep (Below.refl _ _).drew).held.1.2.2.1, (hB.keep (Below.refl _ _).drew).held.1.2.2.2.1, (hB.keep (Below.refl _ _).drew).held.1.2.2.2.2.1, (hB.keep (Below.refl _ _).drew).held.1.2.2.2.2.2⟩ (fun hHeld => ?_)
          dsimp only [List.dropLast, List.replicate] at hHeld ⊢
          replace hB := hB.keep (Below.refl _ _).drew
          generalize wZ.drew = wd at *
          have hhr := hB.hr
          obtain ⟨g, off, rfl, ⟨r0, r1, r2, r3, r4, r5⟩, ⟨f0, f1, f2, f3, f4, f5⟩, hKF, hkF⟩ := hB.put (N := n) HN.out.symm hin
          have HHR := Lib.hid hhr
          refine held_take (0) (v := ?_) rfl (by kernel_rfl) (by kernel_rfl) (by kernel_rfl) (fun _ _ _ h => h) (Or.inl ⟨by rfl, ?_⟩) (by assumption) ?_
          rotate_left
          · intro w hSw
            try dsimp only at hSw
            go_simp
            with_reducible rfl
          try simp only [Act.put, List.setIfInBounds_toArray, List.set_cons_zero, List.set_cons_succ]
          refine held_take (1) (v := ?_) rfl (by kernel_rfl) (by kernel_rfl) (by kernel_rfl) (fun _ _ _ h => h) (Or.inl ⟨by rfl, ?_⟩) (by assumption) ?_
          rotate_left
          · intro w hSw
            try dsimp only at hSw
            go_simp
            with_reducible rfl
          try simp only [Act.put, List.setIfInBounds_toArray, List.set_cons_zero, List.set_cons_succ]
          refine held_take (2) (v := ?_) rfl (by kernel_rfl) (by kernel_rfl) (by kernel_rfl) (fun _ _ _ h => h) (Or.inl ⟨by rfl, ?_⟩) (by assumption) ?_
          rotate_left
          · intro w hSw
            try dsimp only at hSw
            go_simp
            with_reducible rfl
          try simp only [Act.put, List.setIfInBounds_toArray, List.set_cons_zero, List.set_cons_succ]
          refine held_take (3) (v := ?_) rfl (by kernel_rfl) (by kernel_rfl) (by kernel_rfl) (fun _ _ _ h => h) (Or.inl ⟨by rfl, ?_⟩) (by assumption) ?_
          rotate_left
          · intro w hSw
            try dsimp only at hSw
            go_simp
            with_reducible rfl
          try simp only [Act.put, List.setIfInBounds_toArray, List.set_cons_zero, List.set_cons_succ]
          refine held_take (4) (v := ?_) rfl (by kernel_rfl) (by kernel_rfl) (by kernel_rfl) (fun _ _ _ h => h) (Or.inl ⟨by rfl, ?_⟩) (by assumption) ?_
          rotate_left
          · intro w hSw
            try dsimp only at hSw
            go_simp
            with_reducible rfl
          try simp only [Act.put, List.setIfInBounds_toArray, List.set_cons_zero, List.set_cons_succ]
          refine held_take (5) (v := ?_) rfl (by kernel_rfl) (by kernel_rfl) (by kernel_rfl) (fun _ _ _ h => h) (Or.inl ⟨by rfl, ?_⟩) (by assumption) ?_
          rotate_left
          · intro w hSw
            try dsimp only at hSw
            go_simp
            with_reducible rfl
          try simp only [Act.put, List.setIfInBounds_toArray, List.set_cons_zero, List.set_cons_succ]
          refine held_take (6) (v := ?_) rfl (by kernel_rfl) (by kernel_rfl) (by kernel_rfl) (fun _ _ _ h => h) (Or.inl ⟨by rfl, ?_⟩) (by assumption) ?_
          rotate_left
          · intro w hSw
            try dsimp only at hSw
            go_simp
            with_reducible rfl
          try simp only [Act.put, List.setIfInBounds_toArray, List.set_cons_zero, List.set_cons_succ]
          refine wpAnyH_done (by kernel_rfl) ?_ _
          dsimp only [Behind]
          go_simp
          go_wp2
          first | refine bodyPost_ret (results_none rfl _ _ _) rfl ?_ | refine bodyPost_end (results_none rfl _ _ _) rfl ?_
          exact ⟨(⟨3, (1 + z), 0, [], [], [], none, 0⟩ : Trm) :: [], some ⟨g, off, none⟩, c2, q3, rfl, hKF, grows_leaf hok rfl (by omega) T.length, HSZ.out, hkF, HHR.out, HFR.out⟩
        · skip
          obtain ⟨⟨e0, e1, e2, e3, e4, e5⟩, eC⟩ := hB.held
          obtain ⟨k0, k1, k2, k3, k4⟩ := hB.frees
          go_upto_region 26 with (fail)
          have hZ := (hB.set0 4)
          clear e0 e1 e2 e3 e4 e5 eC k0 k1 k2 k3 k4
          generalize (wc.setCell ⟨gt, 0, none⟩ (.int .i64 4)) = wZ at *
          replace hB := hZ
          clear hZ
          have hok : okT (⟨4, (1 + z), 0, [], [], [], none, 0⟩ : Trm) = true := by simp [okT, bareF, sevB, countB, noF]; omega
          have hin : Trm.In (⟨4, (1 + z), 0, [], [], [], none, 0⟩ : Trm) := term_in _ _ _ _ _ _ _ _ (by omega) (by omega) (by omega) (by simp) (by simp) (by simp) (by simp) (by simp)
          have hidx : (n : Int) < ((T ++ [zeroT]).length : Int) := by simp [← HN.out]; omega
          have hidx2 : (n : Int) < (n : Int) + 1 := by omega
          have HSZ : Hid (1 ≤ ((⟨4, (1 + z), 0, [], [], [], none, 0⟩ : Trm) :: []).length ∧ ((⟨4, (1 + z), 0, [], [], [], none, 0⟩ : Trm) :: []).length ≤ szK (d + 1)) := Lib.hid ⟨by simp, by simp [szK]⟩
          have HFR : Hid (∀ t ∈ (⟨4, (1 + z), 0, [], [], [], none, 0⟩ : Trm) :: [], ∀ j, rowOf t.aa = some j → w.heap.size ≤ j) := Lib.hid (fun t ht j hj => by rw [List.mem_singleton.1 ht] at hj; simp [rowOf] at hj)
          go_upto_region 26 with (fail)
          refine wp_region_held_last' (S := fun w' => w'.cell? ⟨gC, 0, none⟩ = some (.slice a2 (T ++ [zeroT]).length c2) ∧ w'.cell? ⟨gt, 0, none⟩ = some (.int .i64 4) ∧ w'.cell? ⟨gt, 1, none⟩ = some (.int .i64 (1 + z)) ∧ w'.cell? ⟨gt, 2, none⟩ = some (.int .i64 0) ∧ w'.cell? ⟨gt, 3, none⟩ = some (.string ⟨#[]⟩) ∧ w'.cell? ⟨gt, 4, none⟩ = some (.string ⟨#[]⟩) ∧ w'.cell? ⟨gt, 5, none⟩ = some (.slice none 0 0)) 7 rfl (by kernel_rfl) (by kernel_rfl) (by kernel_rfl) ⟨(hB.keep (Below.refl _ _).drew).held.2, (hB.keep (Below.refl _ _).drew).held.1.1, (hB.keep (Below.refl _ _).drew).held.1.2.1, (hB.keep (Below.refl _ _).drew).held.1.2.2.1, (hB.keep (Below.refl _ _).drew).held.1.2.2.2.1, (hB.keep (Below.refl _ _).drew).held.1.2.2.2.2.1, (hB.keep (Below.refl _ _).drew).held.1.2.2.2.2.2⟩ (fun hHeld => ?_)
          dsimp only [List.dropLast, List.replicate] at hHeld ⊢
          replace hB := hB.keep (Below.refl _ _).drew
          generalize wZ.drew = wd at *
          have hhr := hB.hr
          obtain ⟨g, off, rfl, ⟨r0, r1, r2, r3, r4, r5⟩, ⟨f0, f1, f2, f3, f4, f5⟩, hKF, hkF⟩ := hB.put (N := n) HN.out.symm hin
          have HHR := Lib.hid hhr
          refine held_take (0) (v := ?_) rfl (by kernel_rfl) (by kernel_rfl) (by kernel_rfl) (fun _ _ _ h => h) (Or.inl ⟨by rfl, ?_⟩) (by assumption) ?_
          rotate_left
          · intro w hSw
            try dsimp only at hSw
            go_simp
            with_reducible rfl
          try simp only [Act.put, List.setIfInBounds_toArray, List.set_cons_zero, List.set_cons_succ]
          refine held_take (1) (v := ?_) rfl (by kernel_rfl) (by kernel_rfl) (by kernel_rfl) (fun _ _ _ h => h) (Or.inl ⟨by rfl, ?_⟩) (by assumption) ?_
          rotate_left
          · intro w hSw
            try dsimp only at hSw
            go_simp
            with_reducible rfl
          try simp only [Act.put, List.setIfInBounds_toArray, List.set_cons_zero, List.set_cons_succ]
          refine held_take (2) (v := ?_) rfl (by kernel_rfl) (by kernel_rfl) (by kernel_rfl) (fun _ _ _ h => h) (Or.inl ⟨by rfl, ?_⟩) (by assumption) ?_
          rotate_left
          · intro w hSw
            try dsimp only at hSw
            go_simp
            with_reducible rfl
          try simp only [Act.put, List.setIfInBounds_toArray, List.set_cons_zero, List.set_cons_succ]
          refine held_take (3) (v := ?_) rfl (by kernel_rfl) (by kernel_rfl) (by kernel_rfl) (fun _ _ _ h => h) (Or.inl ⟨by rfl, ?_⟩) (by assumption) ?_
          rotate_left
          · intro w hSw
            try dsimp only at hSw
            go_simp
            with_reducible rfl
          try simp only [Act.put, List.setIfInBounds_toArray, List.set_cons_zero, List.set_cons_succ]
          refine held_take (4) (v := ?_) rfl (by kernel_rfl) (by kernel_rfl) (by kernel_rfl) (fun _ _ _ h => h) (Or.inl ⟨by rfl, ?_⟩) (by assumption) ?_
          rotate_left
          · intro w hSw
            try dsimp only at hSw
            go_simp
            with_reducible rfl
          try simp only [Act.put, List.setIfInBounds_toArray, List.set_cons_zero, List.set_cons_succ]
          refine held_take (5) (v := ?_) rfl (by kernel_rfl) (by kernel_rfl) (by kernel_rfl) (fun _ _ _ h => h) (Or.inl ⟨by rfl, ?_⟩) (by assumption) ?_
          rotate_left
          · intro w hSw
            try dsimp only at hSw
            go_simp
            with_reducible rfl
          try simp only [Act.put, List.setIfInBounds_toArray, List.set_cons_zero, List.set_cons_succ]
          refine held_take (6) (v := ?_) rfl (by kernel_rfl) (by kernel_rfl) (by kernel_rfl) (fun _ _ _ h => h) (Or.inl ⟨by rfl, ?_⟩) (by assumption) ?_
          rotate_left
          · intro w hSw
            try dsimp only at hSw
            go_simp
            with_reducible rfl
          try simp only [Act.put, List.setIfInBounds_toArray, List.set_cons_zero, List.set_cons_succ]
          refine wpAnyH_done (by kernel_rfl) ?_ _
          dsimp only [Behind]
          go_simp
          go_wp2
          first | refine bodyPost_ret (results_none rfl _ _ _) rfl ?_ | refine bodyPost_end (results_none rfl _ _ _) rfl ?_
          exact ⟨(⟨4, (1 + z), 0, [], [], [], none, 0⟩ : Trm) :: [], some ⟨g, off, none⟩, c2, q3, rfl, hKF, grows_leaf hok rfl (by omega) T.length, HSZ.out, hkF, HHR.out, HFR.out⟩
        · skip
          have K5 := Lib.hid (hB.m.dicec hl 4 (by omega) (by omega))
          have zya := dnum_lo l q3 (n := 4) (by omega)
          have zyb := dnum_hi l q3 (n := 4) (by omega)
          generalize dnum l q3 4 = zy at *
          generalize dnxt l q3 = q5 at *
          go_upto_region 26 with (go_at_call 22; (with_reducible refine K5.out.mono ?_); (first | rintro e w5 rfl hEN hgN | rintro e w5 rfl ⟨hEN, hgN⟩ | rintro e w5 ⟨rfl, hEN, hgN⟩); have hB2 := hB.next hEN hgN; obtain ⟨⟨e0, e1, e2, e3, e4, e5⟩, eC⟩ := hB2.held; obtain ⟨k0, k1, k2, k3, k4⟩ := hB2.frees)
          have hZ := ((hB2.set0 5).set2 zy)
          clear e0 e1 e2 e3 e4 e5 eC k0 k1 k2 k3 k4
          generalize ((w5.setCell ⟨gt, 0, none⟩ (.int .i64 5)).setCell ⟨gt, 2, none⟩ (.int .i64 zy)) = wZ at *
          replace hB := hZ
          clear hZ
          have hok : okT (⟨5, (1 + z), zy, [], [], [], none, 0⟩ : Trm) = true := by simp [okT, bareF, sevB, countB, noF]; omega
          have hin : Trm.In (⟨5, (1 + z), zy, [], [], [], none, 0⟩ : Trm) := term_in _ _ _ _ _ _ _ _ (by omega) (by omega) (by omega) (by simp) (by simp) (by simp) (by simp) (by simp)
          have hidx : (n : Int) < ((T ++ [zeroT]).length : Int) := by simp [← HN.out]; omega
          have hidx2 : (n : Int) < (n : Int) + 1 := by omega
          have HSZ : Hid (1 ≤ ((⟨5, (1 + z), zy, [], [], [], none, 0⟩ : Trm) :: []).length ∧ ((⟨5, (1 + z), zy, [], [], [], none, 0⟩ : Trm) :: []).length ≤ szK (d + 1)) := Lib.hid ⟨by simp, by simp [szK]⟩
          have HFR : Hid (∀ t ∈ (⟨5, (1 + z), zy, [], [], [], none, 0⟩ : Trm) :: [], ∀ j, rowOf t.aa = some j → w.heap.size ≤ j) := Lib.hid (fun t ht j hj => by rw [List.mem_singleton.1 ht] at hj; simp [rowOf] at hj)
          go_upto_region 26 with (fail)
          refine wp_region_held_last' (S := fun w' => w'.cell? ⟨gC, 0, none⟩ = some (.slice a2 (T ++ [zeroT]).length c2) ∧ w'.cell? ⟨gt, 0, none⟩ = some (.int .i64 5) ∧ w'.cell? ⟨gt, 1, none⟩ = some (.int .i64 (1 + z)) ∧ w'.cell? ⟨gt, 2, none⟩ = some (.int .i64 zy) ∧ w'.cell? ⟨gt, 3, none⟩ = some (.string ⟨#[]⟩) ∧ w'.cell? ⟨gt, 4, none⟩ = some (.string ⟨#[]⟩) ∧ w'.cell? ⟨gt, 5, none⟩ = some (.slice none 0 0)) 7 rfl (by kernel_rfl) (by kernel_rfl) (by kernel_rfl) ⟨(hB.keep (Below.refl _ _).drew).held.2, (hB.keep (Below.refl _ _).drew).held.1.1, (hB.keep (Below.refl _ _).drew).held.1.2.1, (hB.keep (Below.refl _ _).drew).held.1.2.2.1, (hB.keep (Below.refl _ _).drew).held.1.2.2.2.1, (hB.keep (Below.refl _ _).drew).held.1.2.2.2.2.1, (hB.keep (Below.refl _ _).drew).held.1.2.2.2.2.2⟩ (fun hHeld => ?_)
          dsimp only [List.dropLast, List.replicate] at hHeld ⊢
          replace hB := hB.keep (Below.refl _ _).drew
          generalize wZ.drew = wd at *
          have hhr := hB.hr
          obtain ⟨g, off, rfl, ⟨r0, r1, r2, r3, r4, r5⟩, ⟨f0, f1, f2, f3, f4, f5⟩, hKF, hkF⟩ := hB.put (N := n) HN.out.symm hin
          have HHR := Lib.hid hhr
          refine held_take (0) (v := ?_) rfl (by kernel_rfl) (by kernel_rfl) (by kernel_rfl) (fun _ _ _ h => h) (Or.inl ⟨by rfl, ?_⟩) (by assumption) ?_
          rotate_left
          · intro w hSw
            try dsimp only at hSw
            go_simp
            with_reducible rfl
          try simp only [Act.put, List.setIfInBounds_toArray, List.set_cons_zero, List.set_cons_succ]
          refine held_take (1) (v := ?_) rfl (by kernel_rfl) (by kernel_rfl) (by kernel_rfl) (fun _ _ _ h => h) (Or.inl ⟨by rfl, ?_⟩) (by assumption) ?_
          rotate_left
          · intro w hSw
            try dsimp only at hSw
            go_simp
            with_reducible rfl
          try simp only [Act.put, List.setIfInBounds_toArray, List.set_cons_zero, List.set_cons_succ]
          refine held_take (2) (v := ?_) rfl (by kernel_rfl) (by kernel_rfl) (by kernel_rfl) (fun _ _ _ h => h) (Or.inl ⟨by rfl, ?_⟩) (by assumption) ?_
          rotate_left
          · intro w hSw
            try dsimp only at hSw
            go_simp
            with_reducible rfl
          try simp only [Act.put, List.setIfInBounds_toArray, List.set_cons_zero, List.set_cons_succ]
          refine held_take (3) (v := ?_) rfl (by kernel_rfl) (by kernel_rfl) (by kernel_rfl) (fun _ _ _ h => h) (Or.inl ⟨by rfl, ?_⟩) (by assumption) ?_
          rotate_left
          · intro w hSw
            try dsimp only at hSw
            go_simp
            with_reducible rfl
          try simp only [Act.put, List.setIfInBounds_toArray, List.set_cons_zero, List.set_cons_succ]
          refine held_take (4) (v := ?_) rfl (by kernel_rfl) (by kernel_rfl) (by kernel_rfl) (fun _ _ _ h => h) (Or.inl ⟨by rfl, ?_⟩) (by assumption) ?_
          rotate_left
          · intro w hSw
            try dsimp only at hSw
            go_simp
            with_reducible rfl
          try simp only [Act.put, List.setIfInBounds_toArray, List.set_cons_zero, List.set_cons_succ]
          refine held_take (5) (v := ?_) rfl (by kernel_rfl) (by kernel_rfl) (by kernel_rfl) (fun _ _ _ h => h) (Or.inl ⟨by rfl, ?_⟩) (by assumption) ?_
          rotate_left
          · intro w hSw
            try dsimp only at hSw
            go_simp
            with_reducible rfl
          try simp only [Act.put, List.setIfInBounds_toArray, List.set_cons_zero, List.set_cons_succ]
          refine held_take (6) (v := ?_) rfl (by kernel_rfl) (by kernel_rfl) (by kernel_rfl) (fun _ _ _ h => h) (Or.inl ⟨by rfl, ?_⟩) (by assumption) ?_
          rotate_left
          · intro w hSw
            try dsimp only at hSw
            go_simp
            with_reducible rfl
          try simp only [Act.put, List.setIfInBounds_toArray, List.set_cons_zero, List.set_cons_succ]
          refine wpAnyH_done (by kernel_rfl) ?_ _
          dsimp only [Behind]
          go_simp
          go_wp2
          first | refine bodyPost_ret (results_none rfl _ _ _) rfl ?_ | refine bodyPost_end (results_none rfl _ _ _) rfl ?_
          exact ⟨(⟨5, (1 + z), zy, [], [], [], none, 0⟩ : Trm) :: [], some ⟨g, off, none⟩, c2, q5, rfl, hKF, grows_leaf hok rfl (by omega) T.length, HSZ.out, hkF, HHR.out, HFR.out⟩
        · skip
          have K5 : Hid (Calls Tryz.prog 23 #[.pointer (some ⟨db, 0, none⟩), .slice (some ⟨wc.heap.size, 0, none⟩) 3 3] (wc.alloc (.cells #[.string ⟨#[119, 111, 114, 100, 115]⟩, .string ⟨#[97, 99, 116, 115]⟩, .string ⟨#[111, 116, 104, 101, 114]⟩] 9)) fun e w' => e = .returned (.string ⟨(wordF l q3 [[119, 111, 114, 100, 115], [97, 99, 116, 115], [111, 116, 104, 101, 114]]).toArray⟩) ∧ (Env W w' db p l cap (dnxt l q3) ∧ (wc.alloc (.cells #[.string ⟨#[119, 111, 114, 100, 115]⟩, .string ⟨#[97, 99, 116, 115]⟩, .string ⟨#[111, 116, 104, 101, 114]⟩] 9)).grownBy w' (some db))) := Lib.hid (hB.m.wordc hl [[119, 111, 114, 100, 115], [97, 99, 116, 115], [111, 116, 104, 101, 114]] (by decide) (by decide))
          have hwt : (1 ≤ (wordF l q3 [[119, 111, 114, 100, 115], [97, 99, 116, 115], [111, 116, 104, 101, 114]]).length ∧ (wordF l q3 [[119, 111, 114, 100, 115], [97, 99, 116, 115], [111, 116, 104, 101, 114]]).length ≤ 256) ∧ (34 : UInt8) ∉ wordF l q3 [[119, 111, 114, 100, 115], [97, 99, 116, 115], [111, 116, 104, 101, 114]] := (by decide : ∀ x ∈ ([[119, 111, 114, 100, 115], [97, 99, 116, 115], [111, 116, 104, 101, 114]] : List (List UInt8)), (1 ≤ x.length ∧ x.length ≤ 256) ∧ (34 : UInt8) ∉ x) _ (wordF_mem l q3 [[119, 111, 114, 100, 115], [97, 99, 116, 115], [111, 116, 104, 101, 114]] (by decide))
          generalize wordF l q3 [[119, 111, 114, 100, 115], [97, 99, 116, 115], [111, 116, 104, 101, 114]] = wt at *
          generalize dnxt l q3 = q5 at *
          have hnm : nameF [107, 105, 110, 100] = true := by decide
          go_upto_region 26 with ((go_at_call 23; (with_reducible refine K5.out.mono ?_); (first | rintro e w5 rfl hEN hgN | rintro e w5 rfl ⟨hEN, hgN⟩ | rintro e w5 ⟨rfl, hEN, hgN⟩)); have hB2 := (hB.keep ((Below.refl _ _).alloc (Nat.le_refl _) (.cells #[.string ⟨#[119, 111, 114, 100, 115]⟩, .string ⟨#[97, 99, 116, 115]⟩, .string ⟨#[111, 116, 104, 101, 114]⟩] 9))).next hEN hgN; obtain ⟨⟨e0, e1, e2, e3, e4, e5⟩, eC⟩ := hB2.held; obtain ⟨k0, k1, k2, k3, k4⟩ := hB2.frees)
          have hZ := (((hB2.set0 7).set3 [107, 105, 110, 100]).set4 wt)
          clear e0 e1 e2 e3 e4 e5 eC k0 k1 k2 k3 k4
          generalize (((w5.setCell ⟨gt, 0, none⟩ (.int .i64 7)).setCell ⟨gt, 3, none⟩ (.string ⟨#[107, 105, 110, 100]⟩)).setCell ⟨gt, 4, none⟩ (.string ⟨wt.toArray⟩)) = wZ at *
          replace hB := hZ
          clear hZ
          have hok : okT (⟨7, (1 + z), 0, [107, 105, 110, 100], wt, [], none, 0⟩ : Trm) = true := by simp [okT, bareF, sevB, countB, hnm, hwt.1.1, hwt.1.2, hwt.2]; omega
          have hin : Trm.In (⟨7, (1 + z), 0, [107, 105, 110, 100], wt, [], none, 0⟩ : Trm) := term_in _ _ _ _ _ _ _ _ (by omega) (by omega) (by omega) (by simp) (by have := hwt.1.2; omega) (by simp) (by simp) (by simp)
          have hidx : (n : Int) < ((T ++ [zeroT]).length : Int) := by simp [← HN.out]; omega
          have hidx2 : (n : Int) < (n : Int) + 1 := by omega
          have HSZ : Hid (1 ≤ ((⟨7, (1 + z), 0, [107, 105, 110, 100], wt, [], none, 0⟩ : Trm) :: []).length ∧ ((⟨7, (1 + z), 0, [107, 105, 110, 100], wt, [], none, 0⟩ : Trm) :: []).length ≤ szK (d + 1)) := Lib.hid ⟨by simp, by simp [szK]⟩
          have HFR : Hid (∀ t ∈ (⟨7, (1 + z), 0, [107, 105, 110, 100], wt, [], none, 0⟩ : Trm) :: [], ∀ j, rowOf t.aa = some j → w.heap.size ≤ j) := Lib.hid (fun t ht j hj => by rw [List.mem_singleton.1 ht] at hj; simp [rowOf] at hj)
          go_upto_region 26 with (fail)
          refine wp_region_held_last' (S := fun w' => w'.cell? ⟨gC, 0, none⟩ = some (.slice a2 (T ++ [zeroT]).length c2) ∧ w'.cell? ⟨gt, 0, none⟩ = some (.int .i64 7) ∧ w'.cell? ⟨gt, 1, none⟩ = some (.int .i64 (1 + z)) ∧ w'.cell? ⟨gt, 2, none⟩ = some (.int .i64 0) ∧ w'.cell? ⟨gt, 3, none⟩ = some (.string ⟨#[107, 105, 110, 100]⟩) ∧ w'.cell? ⟨gt, 4, none⟩ = some (.string ⟨wt.toArray⟩) ∧ w'.cell? ⟨gt, 5, none⟩ = some (.slice none 0 0)) 7 rfl (by kernel_rfl) (by kernel_rfl) (by kernel_rfl) ⟨(hB.keep (Below.refl _ _).drew).held.2, (hB.keep (Below.refl _ _).drew).held.1.1, (hB.keep (Below.refl _ _).drew).held.1.2.1, (hB.keep (Below.refl _ _).drew).held.1.2.2.1, (hB.keep (Below.refl _ _).drew).held.1.2.2.2.1, (hB.keep (Below.refl _ _).drew).held.1.2.2.2.2.1, (hB.keep (Below.refl _ _).drew).held.1.2.2.2.2.2⟩ (fun hHeld => ?_)
          dsimp only [List.dropLast, List.replicate] at hHeld ⊢
          replace hB := hB.keep (Below.refl _ _).drew
          generalize wZ.drew = wd at *
          have hhr := hB.hr
          obtain ⟨g, off, rfl, ⟨r0, r1, r2, r3, r4, r5⟩, ⟨f0, f1, f2, f3, f4, f5⟩, hKF, hkF⟩ := hB.put (N := n) HN.out.symm hin
          have HHR := Lib.hid hhr
          refine held_take (0) (v := ?_) rfl (by kernel_rfl) (by kernel_rfl) (by kernel_rfl) (fun _ _ _ h => h) (Or.inl ⟨by rfl, ?_⟩) (by assumption) ?_
          rotate_left
          · intro w hSw
            try dsimp only at hSw
            go_simp
            with_reducible rfl
          try simp only [Act.put, List.setIfInBounds_toArray, List.set_cons_zero, List.set_cons_succ]
          refine held_take (1) (v := ?_) rfl (by kernel_rfl) (by kernel_rfl) (by kernel_rfl) (fun _ _ _ h => h) (Or.inl ⟨by rfl, ?_⟩) (by assumption) ?_
          rotate_left
          · intro w hSw
            try dsimp only at hSw
            go_simp
            with_reducible rfl
          try simp only [Act.put, List.setIfInBounds_toArray, List.set_cons_zero, List.set_cons_succ]
          refine held_take (2) (v := ?_) rfl (by kernel_rfl) (by kernel_rfl) (by kernel_rfl) (fun _ _ _ h => h) (Or.inl ⟨by rfl, ?_⟩) (by assumption) ?_
          rotate_left
          · intro w hSw
            try dsimp only at hSw
            go_simp
            with_reducible rfl
          try simp only [Act.put, List.setIfInBounds_toArray, List.set_cons_zero, List.set_cons_succ]
          refine held_take (3) (v := ?_) rfl (by kernel_rfl) (by kernel_rfl) (by kernel_rfl) (fun _ _ _ h => h) (Or.inl ⟨by rfl, ?_⟩) (by assumption) ?_
          rotate_left
          · intro w hSw
            try dsimp only at hSw
            go_simp
            with_reducible rfl
          try simp only [Act.put, List.setIfInBounds_toArray, List.set_cons_zero, List.set_cons_succ]
          refine held_take (4) (v := ?_) rfl (by kernel_rfl) (by kernel_rfl) (by kernel_rfl) (fun _ _ _ h => h) (Or.inl ⟨by rfl, ?_⟩) (by assumption) ?_
          rotate_left
          · intro w hSw
            try dsimp only at hSw
            go_simp
            with_reducible rfl
          try simp only [Act.put, List.setIfInBounds_toArray, List.set_cons_zero, List.set_cons_succ]
          refine held_take (5) (v := ?_) rfl (by kernel_rfl) (by kernel_rfl) (by kernel_rfl) (fun _ _ _ h => h) (Or.inl ⟨by rfl, ?_⟩) (by assumption) ?_
          rotate_left
          · intro w hSw
            try dsimp only at hSw
            go_simp
            with_reducible rfl
          try simp only [Act.put, List.setIfInBounds_toArray, List.set_cons_zero, List.set_cons_succ]
          refine held_take (6) (v := ?_) rfl (by kernel_rfl) (by kernel_rfl) (by kernel_rfl) (fun _ _ _ h => h) (Or.inl ⟨by rfl, ?_⟩) (by assumption) ?_
          rotate_left
          · intro w hSw
            try dsimp only at hSw
            go_simp
            with_reducible rfl
          try simp only [Act.put, List.setIfInBounds_toArray, List.set_cons_zero, List.set_cons_succ]
          refine wpAnyH_done (by kernel_rfl) ?_ _
          dsimp only [Behind]
          go_simp
          go_wp2
          first | refine bodyPost_ret (results_none rfl _ _ _) rfl ?_ | refine bodyPost_end (results_none rfl _ _ _) rfl ?_
          exact ⟨(⟨7, (1 + z), 0, [107, 105, 110, 100], wt, [], none, 0⟩ : Trm) :: [], some ⟨g, off, none⟩, c2, q5, rfl, hKF, grows_leaf hok rfl (by omega) T.length, HSZ.out, hkF, HHR.out, HFR.out⟩
        · skip
          obtain ⟨⟨e0, e1, e2, e3, e4, e5⟩, eC⟩ := hB.held
          obtain ⟨k0, k1, k2, k3, k4⟩ := hB.frees
          go_upto_region 26 with (fail)
          have hZ := ((hB.set0 6).set1 0)
          clear e0 e1 e2 e3 e4 e5 eC k0 k1 k2 k3 k4
          generalize ((wc.setCell ⟨gt, 0, none⟩ (.int .i64 6)).setCell ⟨gt, 1, none⟩ (.int .i64 0)) = wZ at *
          replace hB := hZ
          clear hZ
          have hok : okT (⟨6, 0, 0, [], [], [], none, 0⟩ : Trm) = true := by decide
          have hin : Trm.In (⟨6, 0, 0, [], [], [], none, 0⟩ : Trm) := term_in _ _ _ _ _ _ _ _ (by omega) (by omega) (by omega) (by simp) (by simp) (by simp) (by simp) (by simp)
          have hidx : (n : Int) < ((T ++ [zeroT]).length : Int) := by simp [← HN.out]; omega
          have hidx2 : (n : Int) < (n : Int) + 1 := by omega
          have HSZ : Hid (1 ≤ ((⟨6, 0, 0, [], [], [], none, 0⟩ : Trm) :: []).length ∧ ((⟨6, 0, 0, [], [], [], none, 0⟩ : Trm) :: []).length ≤ szK (d + 1)) := Lib.hid ⟨by simp, by simp [szK]⟩
          have HFR : Hid (∀ t ∈ (⟨6, 0, 0, [], [], [], none, 0⟩ : Trm) :: [], ∀ j, rowOf t.aa = some j → w.heap.size ≤ j) := Lib.hid (fun t ht j hj => by rw [List.mem_singleton.1 ht] at hj; simp [rowOf] at hj)
          go_upto_region 26 with (fail)
          refine wp_region_held_last' (S := fun w' => w'.cell? ⟨gC, 0, none⟩ = some (.slice a2 (T ++ [zeroT]).length c2) ∧ w'.cell? ⟨gt, 0, none⟩ = some (.int .i64 6) ∧ w'.cell? ⟨gt, 1, none⟩ = some (.int .i64 0) ∧ w'.cell? ⟨gt, 2, none⟩ = some (.int .i64 0) ∧ w'.cell? ⟨gt, 3, none⟩ = some (.string ⟨#[]⟩) ∧ w'.cell? ⟨gt, 4, none⟩ = some (.string ⟨#[]⟩) ∧ w'.cell? ⟨gt, 5, none⟩ = some (.slice none 0 0)) 7 rfl (by kernel_rfl) (by kernel_rfl) (by kernel_rfl) ⟨(hB.keep (Below.refl _ _).drew).held.2, (hB.keep (Below.refl _ _).drew).held.1.1, (hB.keep (Below.refl _ _).drew).held.1.2.1, (hB.keep (Below.refl _ _).drew).held.1.2.2.1, (hB.keep (Below.refl _ _).drew).held.1.2.2.2.1, (hB.keep (Below.refl _ _).drew).held.1.2.2.2.2.1, (hB.keep (Below.refl _ _).drew).held.1.2.2.2.2.2⟩ (fun hHeld => ?_)
          dsimp only [List.dropLast, List.replicate] at hHeld ⊢
          replace hB := hB.keep (Below.refl _ _).drew
          generalize wZ.drew = wd at *
          have hhr := hB.hr
          obtain ⟨g, off, rfl, ⟨r0, r1, r2, r3, r4, r5⟩, ⟨f0, f1, f2, f3, f4, f5⟩, hKF, hkF⟩ := hB.put (N := n) HN.out.symm hin
          have HHR := Lib.hid hhr
          refine held_take (0) (v := ?_) rfl (by kernel_rfl) (by kernel_rfl) (by kernel_rfl) (fun _ _ _ h => h) (Or.inl ⟨by rfl, ?_⟩) (by assumption) ?_
          rotate_left
          · intro w hSw
            try dsimp only at hSw
            go_simp
            with_reducible rfl
          try simp only [Act.put, List.setIfInBounds_toArray, List.set_cons_zero, List.set_cons_succ]
          refine held_take (1) (v := ?_) rfl (by kernel_rfl) (by kernel_rfl) (by kernel_rfl) (fun _ _ _ h => h) (Or.inl ⟨by rfl, ?_⟩) (by assumption) ?_
          rotate_left
          · intro w hSw
            try dsimp only at hSw
            go_simp
            with_reducible rfl
          try simp only [Act.put, List.setIfInBounds_toArray, List.set_cons_zero, List.set_cons_succ]
          refine held_take (2) (v := ?_) rfl (by kernel_rfl) (by kernel_rfl) (by kernel_rfl) (fun _ _ _ h => h) (Or.inl ⟨by rfl, ?_⟩) (by assumption) ?_
          rotate_left
          · intro w hSw
            try dsimp only at hSw
            go_simp
            with_reducible rfl
          try simp only [Act.put, List.setIfInBounds_toArray, List.set_cons_zero, List.set_cons_succ]
          refine held_take (3) (v := ?_) rfl (by kernel_rfl) (by kernel_rfl) (by kernel_rfl) (fun _ _ _ h => h) (Or.inl ⟨by rfl, ?_⟩) (by assumption) ?_
          rotate_left
          · intro w hSw
            try dsimp only at hSw
            go_simp
            with_reducible rfl
          try simp only [Act.put, List.setIfInBounds_toArray, List.set_cons_zero, List.set_cons_succ]
          refine held_take (4) (v := ?_) rfl (by kernel_rfl) (by kernel_rfl) (by kernel_rfl) (fun _ _ _ h => h) (Or.inl ⟨by rfl, ?_⟩) (by assumption) ?_
          rotate_left
          · intro w hSw
            try dsimp only at hSw
            go_simp
            with_reducible rfl
          try simp only [Act.put, List.setIfInBounds_toArray, List.set_cons_zero, List.set_cons_succ]
          refine held_take (5) (v := ?_) rfl (by kernel_rfl) (by kernel_rfl) (by kernel_rfl) (fun _ _ _ h => h) (Or.inl ⟨by rfl, ?_⟩) (by assumption) ?_
          rotate_left
          · intro w hSw
            try dsimp only at hSw
            go_simp
            with_reducible rfl
          try simp only [Act.put, List.setIfInBounds_toArray, List.set_cons_zero, List.set_cons_succ]
          refine held_take (6) (v := ?_) rfl (by kernel_rfl) (by kernel_rfl) (by kernel_rfl) (fun _ _ _ h => h) (Or.inl ⟨by rfl, ?_⟩) (by assumption) ?_
          rotate_left
          · intro w hSw
            try dsimp only at hSw
            go_simp
            with_reducible rfl
          try simp only [Act.put, List.setIfInBounds_toArray, List.set_cons_zero, List.set_cons_succ]
          refine wpAnyH_done (by kernel_rfl) ?_ _
          dsimp only [Behind]
          go_simp
          go_wp2
          first | refine bodyPost_ret (results_none rfl _ _ _) rfl ?_ | refine bodyPost_end (results_none rfl _ _ _) rfl ?_
          exact ⟨(⟨6, 0, 0, [], [], [], none, 0⟩ : Trm) :: [], some ⟨g, off, none⟩, c2, q3, rfl, hKF, grows_leaf hok rfl (by omega) T.length, HSZ.out, hkF, HHR.out, HFR.out⟩
        · skip
          obtain ⟨⟨e0, e1, e2, e3, e4, e5⟩, eC⟩ := hB.held
          obtain ⟨k0, k1, k2, k3, k4⟩ := hB.frees
          go_upto_region 26 with (fail)
          have hZ := ((hB.set0 8).set1 0)
          clear e0 e1 e2 e3 e4 e5 eC k0 k1 k2 k3 k4
          generalize ((wc.setCell ⟨gt, 0, none⟩ (.int .i64 8)).setCell ⟨gt, 1, none⟩ (.int .i64 0)) = wZ at *
          replace hB := hZ
          clear hZ
          have hok : okT (⟨8, 0, 0, [], [], [], none, 0⟩ : Trm) = true := by decide
          have hin : Trm.In (⟨8, 0, 0, [], [], [], none, 0⟩ : Trm) := term_in _ _ _ _ _ _ _ _ (by omega) (by omega) (by omega) (by simp) (by simp) (by simp) (by simp) (by simp)
          have hidx : (n : Int) < ((T ++ [zeroT]).length : Int) := by simp [← HN.out]; omega
          have hidx2 : (n : Int) < (n : Int) + 1 := by omega
          have HSZ : Hid (1 ≤ ((⟨8, 0, 0, [], [], [], none, 0⟩ : Trm) :: []).length ∧ ((⟨8, 0, 0, [], [], [], none, 0⟩ : Trm) :: []).length ≤ szK (d + 1)) := Lib.hid ⟨by simp, by simp [szK]⟩
          have HFR : Hid (∀ t ∈ (⟨8, 0, 0, [], [], [], none, 0⟩ : Trm) :: [], ∀ j, rowOf t.aa = some j → w.heap.size ≤ j) := Lib.hid (fun t ht j hj => by rw [List.mem_singleton.1 ht] at hj; simp [rowOf] at hj)
          go_upto_region 26 with (fail)
          refine wp_region_held_last' (S := fun w' => w'.cell? ⟨gC, 0, none⟩ = some (.slice a2 (T ++ [zeroT]).length c2) ∧ w'.cell? ⟨gt, 0, none⟩ = some (.int .i64 8) ∧ w'.cell? ⟨gt, 1, none⟩ = some (.int .i64 0) ∧ w'.cell? ⟨gt, 2, none⟩ = some (.int .i64 0) ∧ w'.cell? ⟨gt, 3, none⟩ = some (.string ⟨#[]⟩) ∧ w'.cell? ⟨gt, 4, none⟩ = some (.string ⟨#[]⟩) ∧ w'.cell? ⟨gt, 5, none⟩ = some (.slice none 0 0)) 7 rfl (by kernel_rfl) (by kernel_rfl) (by kernel_rfl) ⟨(hB.keep (Below.refl _ _).drew).held.2, (hB.keep (Below.refl _ _).drew).held.1.1, (hB.keep (Below.refl _ _).drew).held.1.2.1, (hB.keep (Below.refl _ _).drew).held.1.2.2.1, (hB.keep (Below.refl _ _).drew).held.1.2.2.2.1, (hB.keep (Below.refl _ _).drew).held.1.2.2.2.2.1, (hB.keep (Below.refl _ _).drew).held.1.2.2.2.2.2⟩ (fun hHeld => ?_)
          dsimp only [List.dropLast, List.replicate] at hHeld ⊢
          replace hB := hB.keep (Below.refl _ _).drew
          generalize wZ.drew = wd at *
          have hhr := hB.hr
          obtain ⟨g, off, rfl, ⟨r0, r1, r2, r3, r4, r5⟩, ⟨f0, f1, f2, f3, f4, f5⟩, hKF, hkF⟩ := hB.put (N := n) HN.out.symm hin
          have HHR := Lib.hid hhr
          refine held_take (0) (v := ?_) rfl (by kernel_rfl) (by kernel_rfl) (by kernel_rfl) (fun _ _ _ h => h) (Or.inl ⟨by rfl, ?_⟩) (by assumption) ?_
          rotate_left
          · intro w hSw
            try dsimp only at hSw
            go_simp
            with_reducible rfl
          try simp only [Act.put, List.setIfInBounds_toArray, List.set_cons_zero, List.set_cons_succ]
          refine held_take (1) (v := ?_) rfl (by kernel_rfl) (by kernel_rfl) (by kernel_rfl) (fun _ _ _ h => h) (Or.inl ⟨by rfl, ?_⟩) (by assumption) ?_
          rotate_left
          · intro w hSw
            try dsimp only at hSw
            go_simp
            with_reducible rfl
          try simp only [Act.put, List.setIfInBounds_toArray, List.set_cons_zero, List.set_cons_succ]
          refine held_take (2) (v := ?_) rfl (by kernel_rfl) (by kernel_rfl) (by kernel_rfl) (fun _ _ _ h => h) (Or.inl ⟨by rfl, ?_⟩) (by assumption) ?_
          rotate_left
          · intro w hSw
            try dsimp only at hSw
            go_simp
            with_reducible rfl
          try simp only [Act.put, List.setIfInBounds_toArray, List.set_cons_zero, List.set_cons_succ]
          refine held_take (3) (v := ?_) rfl (by kernel_rfl) (by kernel_rfl) (by kernel_rfl) (fun _ _ _ h => h) (Or.inl ⟨by rfl, ?_⟩) (by assumption) ?_
          rotate_left
          · intro w hSw
            try dsimp only at hSw
            go_simp
            with_reducible rfl
          try simp only [Act.put, List.setIfInBounds_toArray, List.set_cons_zero, List.set_cons_succ]
          refine held_take (4) (v := ?_) rfl (by kernel_rfl) (by kernel_rfl) (by kernel_rfl) (fun _ _ _ h => h) (Or.inl ⟨by rfl, ?_⟩) (by assumption) ?_
          rotate_left
          · intro w hSw
            try dsimp only at hSw
            go_simp
            with_reducible rfl
          try simp only [Act.put, List.setIfInBounds_toArray, List.set_cons_zero, List.set_cons_succ]
          refine held_take (5) (v := ?_) rfl (by kernel_rfl) (by kernel_rfl) (by kernel_rfl) (fun _ _ _ h => h) (Or.inl ⟨by rfl, ?_⟩) (by assumption) ?_
          rotate_left
          · intro w hSw
            try dsimp only at hSw
            go_simp
            with_reducible rfl
          try simp only [Act.put, List.setIfInBounds_toArray, List.set_cons_zero, List.set_cons_succ]
          refine held_take (6) (v := ?_) rfl (by kernel_rfl) (by kernel_rfl) (by kernel_rfl) (fun _ _ _ h => h) (Or.inl ⟨by rfl, ?_⟩) (by assumption) ?_
          rotate_left
          · intro w hSw
            try dsimp only at hSw
            go_simp
            with_reducible rfl
          try simp only [Act.put, List.setIfInBounds_toArray, List.set_cons_zero, List.set_cons_succ]
          refine wpAnyH_done (by kernel_rfl) ?_ _
          dsimp only [Behind]
          go_simp
          go_wp2
          first | refine bodyPost_ret (results_none rfl _ _ _) rfl ?_ | refine bodyPost_end (results_none rfl _ _ _) rfl ?_
          exact ⟨(⟨8, 0, 0, [], [], [], none, 0⟩ : Trm) :: [], some ⟨g, off, none⟩, c2, q3, rfl, hKF, grows_leaf hok rfl (by omega) T.length, HSZ.out, hkF, HHR.out, HFR.out⟩

end Go.Proofs.YtejdaeonknpgeaaGreatDoor
