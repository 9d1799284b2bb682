/- Made guards: the dice's calls beside them. -/
import Derived.Test.YtnlhcfhngdahlaaReplayQ
namespace Go.Proofs.Ytnlhcfhngdahlaa
open Go.RowKit
section
variable {W w : World} {db : Nat} {p : Option Addr} {l : List Int} {cap q : Nat} {gg : Nat} {a : Option Addr} {L : List Kpt} {c : Nat} {gr : Nat} {r : Rq}
theorem mg_next (h : Mg W w db p l cap q gg a L c) (hR : Rd W p (ints l)) (hlen : l.length ≤ 281474976710656) (n : Int) (h1 : 1 ≤ n) (h2 : n ≤ 4611686018427387904) :
    Calls Try.prog 10 #[.pointer (some ⟨db, 0, none⟩), .int .i64 n] w fun e w' => e = .returned (.int .i64 (dnum l q n)) ∧ Mg W w' db p l cap (dnxt l q) gg a L c :=
  (next_walk db p l cap q n w h.env.dice h.env.rd (rd_ne hR h.le) hlen h1 h2).mono fun _ _ ⟨h1, h2, h3⟩ => ⟨h1, h.next (rd_ne hR h.le) h2 h3⟩
theorem mr_next (h : Mr W w db p l cap q gg a L c gr r) (hR : Rd W p (ints l)) (hlen : l.length ≤ 281474976710656) (n : Int) (h1 : 1 ≤ n) (h2 : n ≤ 4611686018427387904) :
    Calls Try.prog 10 #[.pointer (some ⟨db, 0, none⟩), .int .i64 n] w fun e w' => e = .returned (.int .i64 (dnum l q n)) ∧ Mr W w' db p l cap (dnxt l q) gg a L c gr r ∧ w.grownBy w' (some db) :=
  (next_walk db p l cap q n w h.m.env.dice h.m.env.rd (rd_ne hR h.m.le) hlen h1 h2).mono fun _ _ ⟨h1, h2, h3⟩ => ⟨h1, h.next (rd_ne hR h.m.le) h2 h3, h3⟩
theorem mg_word (h : Mg W w db p l cap q gg a L c) (hR : Rd W p (ints l)) (hlen : l.length ≤ 281474976710656) (g : Nat) (xs : List (List UInt8)) (n xc : Nat) (hn : n = xs.length) (hX : Rd w (some ⟨g, 0, none⟩) (strs xs)) (hg : db < g) (h1 : 1 ≤ n) (h2 : n ≤ 1000) :
    Calls Try.prog 11 #[.pointer (some ⟨db, 0, none⟩), .slice (some ⟨g, 0, none⟩) n xc] w fun e w' => e = .returned (.string ⟨(wordF l q xs).toArray⟩) ∧ Mg W w' db p l cap (dnxt l q) gg a L c := by
  subst hn
  exact (dword_walk db p l cap q g xs xc w h.env.dice h.env.rd (rd_ne hR h.le) hlen hX (by omega) h1 h2).mono fun _ _ ⟨h1, h2, h3⟩ => ⟨h1, h.next (rd_ne hR h.le) h2 h3⟩
theorem mr_word (h : Mr W w db p l cap q gg a L c gr r) (hR : Rd W p (ints l)) (hlen : l.length ≤ 281474976710656) (g : Nat) (xs : List (List UInt8)) (n xc : Nat) (hn : n = xs.length) (hX : Rd w (some ⟨g, 0, none⟩) (strs xs)) (hg : db < g) (h1 : 1 ≤ n) (h2 : n ≤ 1000) :
    Calls Try.prog 11 #[.pointer (some ⟨db, 0, none⟩), .slice (some ⟨g, 0, none⟩) n xc] w fun e w' => e = .returned (.string ⟨(wordF l q xs).toArray⟩) ∧ Mr W w' db p l cap (dnxt l q) gg a L c gr r ∧ w.grownBy w' (some db) := by
  subst hn
  exact (dword_walk db p l cap q g xs xc w h.m.env.dice h.m.env.rd (rd_ne hR h.m.le) hlen hX (by omega) h1 h2).mono fun _ _ ⟨h1, h2, h3⟩ => ⟨h1, h.next (rd_ne hR h.m.le) h2 h3, h3⟩
theorem mg_of (h : Mg W w db p l cap q gg a L c) (hR : Rd W p (ints l)) (hlen : l.length ≤ 281474976710656) (g : Nat) (xs : List Int) (n xc : Nat) (hn : n = xs.length) (hX : Rd w (some ⟨g, 0, none⟩) (ints xs)) (hg : db < g) (h1 : 1 ≤ n) (h2 : n ≤ 1000) :
    Calls Try.prog 13 #[.pointer (some ⟨db, 0, none⟩), .slice (some ⟨g, 0, none⟩) n xc] w fun e w' => e = .returned (.int .i64 (ofF l q xs)) ∧ Mg W w' db p l cap (dnxt l q) gg a L c := by
  subst hn
  exact (of_walk db p l cap q g xs xc w h.env.dice h.env.rd (rd_ne hR h.le) hlen hX (by omega) h1 h2).mono fun _ _ ⟨h1, h2, h3⟩ => ⟨h1, h.next (rd_ne hR h.le) h2 h3⟩
theorem mr_of (h : Mr W w db p l cap q gg a L c gr r) (hR : Rd W p (ints l)) (hlen : l.length ≤ 281474976710656) (g : Nat) (xs : List Int) (n xc : Nat) (hn : n = xs.length) (hX : Rd w (some ⟨g, 0, none⟩) (ints xs)) (hg : db < g) (h1 : 1 ≤ n) (h2 : n ≤ 1000) :
    Calls Try.prog 13 #[.pointer (some ⟨db, 0, none⟩), .slice (some ⟨g, 0, none⟩) n xc] w fun e w' => e = .returned (.int .i64 (ofF l q xs)) ∧ Mr W w' db p l cap (dnxt l q) gg a L c gr r ∧ w.grownBy w' (some db) := by
  subst hn
  exact (of_walk db p l cap q g xs xc w h.m.env.dice h.m.env.rd (rd_ne hR h.m.le) hlen hX (by omega) h1 h2).mono fun _ _ ⟨h1, h2, h3⟩ => ⟨h1, h.next (rd_ne hR h.m.le) h2 h3, h3⟩
end
/-- a literal's block, read -/
theorem rd_new (w : World) (t : TypeId) (cs : List Value) : Rd (w.alloc (.cells cs.toArray t)) (some ⟨w.heap.size, 0, none⟩) cs := (Bx.new w t cs).rd
theorem slice_str {P : Program} {T : TypeId} (hu : P.underlying T = some .string) (m : List UInt8) (j : Nat) (hj : j ≤ m.length) (V : World) :
    (Instr.slice T (.string ⟨m.toArray⟩) (some (.int .i64 (j : Int))) none none).run P V = .ok (.string ⟨(m.drop j).toArray⟩) V := by
  have hj' : (j : Int) ≤ (m.length : Int) := by omega
  simp [Instr.slice, run_underlying hu, go_sem, hj']
  exact List.take_of_length_le (by simp)
end Go.Proofs.Ytnlhcfhngdahlaa
