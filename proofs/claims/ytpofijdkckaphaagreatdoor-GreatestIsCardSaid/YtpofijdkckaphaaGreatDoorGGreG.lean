/- Seats: the closure of goes. -/
import Derived.Test.YtpofijdkckaphaaGreatDoorGCndG
namespace Go.Proofs.YtpofijdkckaphaaGreatDoor
open Go.RowKit
/-- what the closure of goes reads: the seats, a set -/
structure EnvG (w : World) (g0 g1 : Nat) (a : Option Addr) (l : List Seat) (c : Nat) (sa : Option Addr) (A : List Int) (sc : Nat) : Prop where
  bl : Bx w g0 27 [.slice a l.length c]
  bs : Bx w g1 22 [.slice sa A.length sc]
  r : RdS w a l
  i : Rd w sa (ints A)
theorem EnvG.keep {w w' : World} {g0 g1 : Nat} {a : Option Addr} {l : List Seat} {c : Nat} {sa : Option Addr} {A : List Int} {sc : Nat} (h : EnvG w g0 g1 a l c sa A sc) (hb : Below w.heap.size w w') : EnvG w' g0 g1 a l c sa A sc :=
  ⟨h.bl.keep hb, h.bs.keep hb, h.r.keep hb, h.i.keep hb⟩
theorem opS_at {l : List Seat} {k : Nat} {x : Seat} (h : l[k]? = some x) : opS l (k : Int) = x.opn := by
  unfold opS
  rw [Int.toNat_natCast, h]
set_option maxRecDepth 100000 in
set_option maxHeartbeats 2000000 in
theorem goes1_clo (l : List Seat) (a : Option Addr) (c : Nat) (A : List Int) (sa : Option Addr) (sc : Nat) (g0 g1 : Nat) (s : Nat) (w : World) (hE : EnvG w g0 g1 a l c sa A sc) (hin : ∀ i ∈ A, i ∈ upI l.length) (hs : s < l.length) (hAl : A.length ≤ 1000) :
    Calls Tryz.prog 71 #[.int .i64 (s : Int), .pointer (some ⟨g0, 0, none⟩), .pointer (some ⟨g1, 0, none⟩)] w fun e w' => e = .returned (.bool (opS l (s : Int) || holdS wiF l A (s : Int))) ∧ Below w.heap.size w w' := by
  have KH := Lib.hid (fun V (hv : Below w.heap.size w V) => gholds_walk l a c A sa sc s V (hE.r.keep hv) (hE.i.keep hv) hin hs hAl)
  obtain ⟨gl, ol, x, rfl, hx, -, -, -, -, -, -, d6⟩ := hE.r.seat hs
  have d0 := hE.bl.cell 0 rfl
  have d1 := hE.bs.cell 0 rfl
  rw [opS_at hx.out]
  have hsl : (s : Int) < (l.length : Int) := by omega
  clear hE hin hx hs hAl
  generalize hz : x.opn = z at *
  clear hz
  go_enter Tryz.func71, Tryz.ntmps71
  cases z with
  | true =>
    go_wp2
    go_ret
    exact ⟨rfl, Below.refl _ _⟩
  | false =>
    go_wp2_with (go_at_call 36; (with_reducible refine (KH.out _ (Below.refl _ _)).mono ?_); rintro e w1 ⟨rfl, hb1⟩)
    go_ret
    exact ⟨rfl, hb1⟩
end Go.Proofs.YtpofijdkckaphaaGreatDoor
/- Seats: the closure of less; numbers without others. -/
namespace Go.Proofs.YtpofijdkckaphaaGreatDoor
open Go.RowKit
set_option maxRecDepth 100000 in
set_option maxHeartbeats 2000000 in
theorem less1_clo (A : List Int) (sa : Option Addr) (sc : Nat) (g0 : Nat) (x : Int) (w : World) (hB : Bx w g0 22 [.slice sa A.length sc]) (hA : Rd w sa (ints A)) (hAl : A.length ≤ 1000) :
    Calls Tryz.prog 65 #[.int .i64 x, .pointer (some ⟨g0, 0, none⟩)] w fun e w' => e = .returned (.bool (decide (x ∈ A))) ∧ Below w.heap.size w w' := by
  have KI := Lib.hid (icontains_walk sa A sc x w hA (by omega))
  have d0 := hB.cell 0 rfl
  clear hA hB hAl
  go_enter Tryz.func65, Tryz.ntmps65
  go_wp2_with (go_at_call 35; (with_reducible refine KI.out.mono ?_); rintro e w1 ⟨rfl, rfl⟩)
  go_ret
  exact ⟨rfl, Below.refl _ _⟩
end Go.Proofs.YtpofijdkckaphaaGreatDoor
/- Seats: numbers without others: the program's less. -/
namespace Go.Proofs.YtpofijdkckaphaaGreatDoor
open Go.RowKit
set_option maxRecDepth 100000 in
set_option maxHeartbeats 2000000 in
theorem less_walk (A B : List Int) (sa sb : Option Addr) (ac bc : Nat) (w : World) (hA : Rd w sa (ints A)) (hB : Rd w sb (ints B)) (hAl : A.length ≤ 1000) (hBl : B.length ≤ 1000) :
    Calls Tryz.prog 41 #[.slice sa A.length ac, .slice sb B.length bc] w fun e w' => ∃ a' c', e = .returned (.slice a' (lessP A B).length c') ∧ Rd w' a' (ints (lessP A B)) ∧ Below w.heap.size w w' ∧ ∀ j, rowOf a' = some j → w.heap.size ≤ j ∧ j < w'.heap.size := by
  have hb0 := (Below.refl w.heap.size w).alloc (Nat.le_refl _) (.cells #[.slice sb B.length bc] 22)
  have h1 := Bx.new w 22 [.slice sb B.length bc]
  change Bx (w.alloc (.cells #[.slice sb B.length bc] 22)) _ _ _ at h1
  have K1 := Lib.hid (iclone_walk sa A ac _ (hA.keep hb0) (by omega))
  have hB1 := hB.keep hb0
  obtain ⟨g1, hg1⟩ : ∃ g, g = w.heap.size := ⟨_, rfl⟩
  have hbw : w.heap.size = g1 := hg1.symm
  rw [← hg1] at h1
  have HB := Lib.hid hb0
  clear hg1 hA hB hb0
  go_enter Tryz.func41, Tryz.ntmps41
  go_upto_region 1 with (fail)
  generalize w.alloc (.cells #[.slice sb B.length bc] 22) = w1 at *
  have K2 := Lib.hid (fun V a' c' (hv : Below w1.heap.size w1 V) (hO : Ow V w1.heap.size 1 a' A.length c' (ints A)) => ldel_walk (fun x => decide (x ∈ B)) w1.heap.size a' A c' g1 V hv.size (fun x _ w2 hw2 => less1_clo B sb bc g1 x w2 (h1.keep (hv.trans hw2)) (hB1.keep (hv.trans hw2)) hBl) hO (by omega))
  clear hbw h1 hB1
  go_wp2_with (first
    | (go_at_call 53; (with_reducible refine K1.out.mono ?_); rintro e w2 ⟨a2, c2, rfl, hO2, hb2⟩)
    | (go_at_call 52; (with_reducible refine (K2.out _ _ _ hb2 hO2).mono ?_); rintro e w3 ⟨rfl, hR3, hb3⟩))
  go_ret
  exact ⟨a2, c2, rfl, hR3, below_tr HB.out (hb2.trans hb3), fun j hj => ⟨Nat.le_trans HB.out.size (hO2.row j hj).1, Nat.lt_of_lt_of_le (hO2.row j hj).2 hb3.size⟩⟩
end Go.Proofs.YtpofijdkckaphaaGreatDoor
/- Seats: those that go: the program's goes. -/
namespace Go.Proofs.YtpofijdkckaphaaGreatDoor
open Go.RowKit
set_option maxRecDepth 100000 in
set_option maxHeartbeats 2000000 in
theorem goes_walk (l : List Seat) (a : Option Addr) (c : Nat) (A : List Int) (sa : Option Addr) (ac : Nat) (w : World) (hS : RdS w a l) (hA : Rd w sa (ints A)) (hin : ∀ i ∈ A, i ∈ upI l.length) (hAl : A.length ≤ 1000) :
    Calls Tryz.prog 56 #[.slice a l.length c, .slice sa A.length ac] w fun e w' => ∃ a' c', e = .returned (.slice a' (goesP (opS l) (holdS wiF l) A).length c') ∧ Rd w' a' (ints (goesP (opS l) (holdS wiF l) A)) ∧ Below w.heap.size w w' ∧ ∀ j, rowOf a' = some j → w.heap.size ≤ j ∧ j < w'.heap.size := by
  obtain ⟨v, hv⟩ : ∃ v, v = w.alloc (.cells #[.slice a l.length c] 27) := ⟨_, rfl⟩
  have hb0 := (Below.refl w.heap.size w).alloc (Nat.le_refl _) (.cells #[.slice a l.length c] 27)
  have h1 := Bx.new w 27 [.slice a l.length c]
  change Bx (w.alloc (.cells #[.slice a l.length c] 27)) _ _ _ at h1
  rw [← hv] at hb0 h1
  have hb1 := (Below.refl v.heap.size v).alloc (Nat.le_refl _) (.cells #[.slice sa A.length ac] 22)
  have h2 := Bx.new v 22 [.slice sa A.length ac]
  change Bx (v.alloc (.cells #[.slice sa A.length ac] 22)) _ _ _ at h2
  have hE : EnvG (v.alloc (.cells #[.slice sa A.length ac] 22)) w.heap.size v.heap.size a l c sa A ac := ⟨h1.keep hb1, h2, (hS.keep hb0).keep hb1, (hA.keep hb0).keep hb1⟩
  have HB := Lib.hid (below_tr hb0 hb1)
  have d1 := h2.cell 0 rfl
  clear h1 h2 hb0 hb1 hS hA
  generalize hG : goesP (opS l) (holdS wiF l) A = G
  have hs1 : v.heap.size = w.heap.size + 1 := by rw [hv]; exact Array.size_push _
  rw [hs1] at hE d1
  subst hv
  clear hs1
  go_enter Tryz.func56, Tryz.ntmps56
  go_upto_region 1 with (fail)
  generalize w.heap.size + 1 = g1 at *
  generalize (w.alloc (.cells #[.slice a l.length c] 27)).alloc (.cells #[.slice sa A.length ac] 22) = w1 at *
  have K1 := Lib.hid (iclone_walk sa A ac w1 hE.i (by omega))
  have hK : ∀ x ∈ A, ∀ w2, Below w1.heap.size w1 w2 → Calls Tryz.prog 71 #[.int .i64 x, .pointer (some ⟨w.heap.size, 0, none⟩), .pointer (some ⟨g1, 0, none⟩)] w2 fun e w3 => e = .returned (.bool (opS l x || holdS wiF l A x)) ∧ Below w2.heap.size w2 w3 := fun x hx w2 hw2 => by
    have hu := mem_upI.1 (hin x hx)
    have h := goes1_clo l a c A sa ac w.heap.size g1 x.toNat w2 (hE.keep hw2) hin (by omega) hAl
    rwa [Int.toNat_of_nonneg hu.1] at h
  have K2 : Hid (∀ V a' c', Below w1.heap.size w1 V → Ow V w1.heap.size 1 a' A.length c' (ints A) → Calls Tryz.prog 52 #[.slice a' A.length c', .func (.func 71) #[] #[.pointer (some ⟨w.heap.size, 0, none⟩), .pointer (some ⟨g1, 0, none⟩)]] V (fun e w' => e = .returned (.slice a' G.length c') ∧ Rd w' a' (ints G) ∧ Below w1.heap.size V w')) := Lib.hid (fun V a' c' hv hO => by
    have h := gdel_walk (fun x => opS l x || holdS wiF l A x) w1.heap.size a' A c' w.heap.size g1 V hv.size (fun x hx w2 hw2 => hK x hx w2 (hv.trans hw2)) hO (by omega)
    subst hG
    exact h)
  clear hK
  clear hE hG
  go_wp2_with (first
    | (go_at_call 53; (with_reducible refine K1.out.mono ?_); rintro e w2 ⟨a2, c2, rfl, hO2, hb2⟩)
    | (go_at_call 52; (with_reducible refine (K2.out _ _ _ hb2 hO2).mono ?_); rintro e w3 ⟨rfl, hR3, hb3⟩))
  go_ret
  exact ⟨a2, c2, rfl, hR3, below_tr HB.out (hb2.trans hb3), fun j hj => ⟨Nat.le_trans HB.out.size (hO2.row j hj).1, Nat.lt_of_lt_of_le (hO2.row j hj).2 hb3.size⟩⟩
end Go.Proofs.YtpofijdkckaphaaGreatDoor
