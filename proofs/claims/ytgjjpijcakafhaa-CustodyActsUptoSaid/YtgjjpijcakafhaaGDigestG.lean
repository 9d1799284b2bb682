/- Four bytes, pairs, lists, numbers of sums: the program's and the reference's. -/
import Derived.Test.YtgjjpijcakafhaaGDigestF
import Derived.Test.YtgjjpijcakafhaaGRec
import Derived.Test.YtgjjpijcakafhaaGPutR
namespace Go.Proofs.Ytgjjpijcakafhaa
open Go.RowKit
def pairL (a b : List UInt8) : List UInt8 := sha ([1] ++ wbytes a.length ++ a ++ wbytes b.length ++ b)
/-- what stands of the first n strings -/
def listB (l : List (List UInt8)) (n : Nat) : List UInt8 := (l.take n).flatMap fun s => wbytes s.length ++ s
def listL (l : List (List UInt8)) : List UInt8 := sha ([2] ++ wbytes l.length ++ listB l l.length)
@[go_sem] theorem str_app (a b : List UInt8) : (ByteArray.mk a.toArray) ++ (ByteArray.mk b.toArray) = ByteArray.mk (a ++ b).toArray := by
  apply ByteArray.ext; simp
theorem wbytes_length (x : Int) : (wbytes x).length = 4 := rfl
theorem new_u8s {w : World} {t : TypeId} (Q : World → Prop) (xs : List UInt8) (h : ∀ w', Below w.heap.size w w' → Rd w' (some ⟨w.heap.size, 0, none⟩) (u8s xs) → Q w') : Q (w.alloc (.cells (u8s xs).toArray t)) :=
  h _ ((Below.refl _ _).alloc (Nat.le_refl _) _) (Rd.mk fun j u hj => by rw [Nat.zero_add, World.cell?_alloc_at _ _ _ _ rfl]; simpa using hj)
set_option maxRecDepth 100000 in
theorem four_walk (n : Int) (w : World) (hn : I64 n) :
    Calls Try.prog 61 #[.int .i64 n] w fun e w' => e = .returned (.string ⟨(wbytes n).toArray⟩) ∧ Below w.heap.size w w' := by
  have hn1 := hn.1
  have hn2 := hn.2
  have hw : Rd (w.alloc (.cells #[.int .u8 (n / 16777216 % 256), .int .u8 (n / 65536 % 256), .int .u8 (n / 256 % 256), .int .u8 (n % 256)] 5)) (some ⟨w.heap.size, 0, none⟩) (u8s (wbytes n)) := by
    rw [u8s_wbytes]
    exact Rd.mk fun j u hj => by rw [Nat.zero_add, World.cell?_alloc_at _ _ _ _ rfl]; simpa using hj
  have hb := (Below.refl w.heap.size w).alloc (Nat.le_refl _) (.cells #[.int .u8 (n / 16777216 % 256), .int .u8 (n / 65536 % 256), .int .u8 (n / 256 % 256), .int .u8 (n % 256)] 5)
  have hcv := run_bytes_str (P := Try.prog) _ 71 9 5 Try.underlying71 Try.underlying5 Try.underlying9 (n := 4) (c := 4) rfl hw
  go_enter Try.func61, Try.ntmps61
  clear hw hn1 hn2
  go_wp2
  go_ret
  exact ⟨rfl, hb⟩
set_option maxRecDepth 100000 in
theorem rfour_walk (n : Int) (w : World) (hn : I64 n) :
    Calls Try.prog 67 #[.int .i64 n] w fun e w' => e = .returned (.string ⟨(wbytes n).toArray⟩) ∧ Below w.heap.size w w' := by
  have hn1 := hn.1
  have hn2 := hn.2
  have hw : Rd (w.alloc (.cells #[.int .u8 (n / 16777216 % 256), .int .u8 (n / 65536 % 256), .int .u8 (n / 256 % 256), .int .u8 (n % 256)] 5)) (some ⟨w.heap.size, 0, none⟩) (u8s (wbytes n)) := by
    rw [u8s_wbytes]
    exact Rd.mk fun j u hj => by rw [Nat.zero_add, World.cell?_alloc_at _ _ _ _ rfl]; simpa using hj
  have hb := (Below.refl w.heap.size w).alloc (Nat.le_refl _) (.cells #[.int .u8 (n / 16777216 % 256), .int .u8 (n / 65536 % 256), .int .u8 (n / 256 % 256), .int .u8 (n % 256)] 5)
  have hcv := run_bytes_str (P := Try.prog) _ 71 9 5 Try.underlying71 Try.underlying5 Try.underlying9 (n := 4) (c := 4) rfl hw
  go_enter Try.func67, Try.ntmps67
  clear hw hn1 hn2
  go_wp2
  go_ret
  exact ⟨rfl, hb⟩
set_option maxRecDepth 100000 in
theorem pair_walk (a b : List UInt8) (w : World) (h : a.length + b.length ≤ 140737487000000) :
    Calls Try.prog 52 #[.string ⟨a.toArray⟩, .string ⟨b.toArray⟩] w fun e w' => e = .returned (.string ⟨(pairL a b).toArray⟩) ∧ Below w.heap.size w w' := by
  have hwa := wbytes_length (a.length : Int)
  have hwb := wbytes_length (b.length : Int)
  go_enter Try.func52, Try.ntmps52
  go_wp2_with (go_at_call 61; (with_reducible refine (four_walk _ _ (I64.nat (by omega))).mono ?_))
  rintro e w1 ⟨rfl, hb1⟩
  go_wp2_with (go_at_call 61; (with_reducible refine (four_walk _ _ (I64.nat (by omega))).mono ?_))
  rintro e w2 ⟨rfl, hb2⟩
  go_wp2_with (go_at_call 40; (with_reducible refine (sum_walk _ _ ?hl).mono ?_))
  case hl => simp [wbytes_length]; omega
  rintro e w3 ⟨rfl, hb3⟩
  go_wp2
  go_ret
  refine ⟨ret_str ?_, ?_⟩
  · rw [pairL]; try simp only [List.append_assoc, List.cons_append, List.nil_append]
  exact below_tr (below_tr hb1 hb2) hb3
set_option maxRecDepth 100000 in
theorem rpair_walk (a b : List UInt8) (w : World) (h : a.length + b.length ≤ 140737487000000) :
    Calls Try.prog 58 #[.string ⟨a.toArray⟩, .string ⟨b.toArray⟩] w fun e w' => e = .returned (.string ⟨(pairL a b).toArray⟩) ∧ Below w.heap.size w w' := by
  have hwa := wbytes_length (a.length : Int)
  have hwb := wbytes_length (b.length : Int)
  go_enter Try.func58, Try.ntmps58
  go_wp2_with (go_at_call 67; (with_reducible refine (rfour_walk _ _ (I64.nat (by omega))).mono ?_))
  rintro e w1 ⟨rfl, hb1⟩
  go_wp2_with (go_at_call 67; (with_reducible refine (rfour_walk _ _ (I64.nat (by omega))).mono ?_))
  rintro e w2 ⟨rfl, hb2⟩
  go_wp2_with (go_at_call 26; (with_reducible refine (rsum_walk _ _ ?hl).mono ?_))
  case hl => simp [wbytes_length]; omega
  rintro e w3 ⟨rfl, hb3⟩
  go_wp2
  go_ret
  refine ⟨ret_str ?_, ?_⟩
  · rw [pairL]; try simp only [List.append_assoc, List.cons_append, List.nil_append]
  exact below_tr (below_tr hb1 hb2) hb3
end Go.Proofs.Ytgjjpijcakafhaa
/- Chains of records: the digest of a record, the program's and the reference's. -/
namespace Go.Proofs.Ytgjjpijcakafhaa
open Go.RowKit
/-- a record in a block of its own -/
def Rk (w : World) (g : Nat) (r : Rec) : Prop := w.heap[g]? = some (.cells #[.int .i64 r.num, .int .i64 r.time, .int .i64 r.kind, .string ⟨r.body.toArray⟩, .string ⟨r.before.toArray⟩] 24 (0, 0))
theorem Rk.lt {w : World} {g : Nat} {r : Rec} (h : Rk w g r) : g < w.heap.size := (Array.getElem?_eq_some_iff.1 h).1
theorem Rk.c0 {w : World} {g : Nat} {r : Rec} (h : Rk w g r) : w.cell? ⟨g, 0, none⟩ = some (.int .i64 r.num) := by rw [Lib.cell_of_heap h]; rfl
theorem Rk.c1 {w : World} {g : Nat} {r : Rec} (h : Rk w g r) : w.cell? ⟨g, 1, none⟩ = some (.int .i64 r.time) := by rw [Lib.cell_of_heap h]; rfl
theorem Rk.c2 {w : World} {g : Nat} {r : Rec} (h : Rk w g r) : w.cell? ⟨g, 2, none⟩ = some (.int .i64 r.kind) := by rw [Lib.cell_of_heap h]; rfl
theorem Rk.c3 {w : World} {g : Nat} {r : Rec} (h : Rk w g r) : w.cell? ⟨g, 3, none⟩ = some (.string ⟨r.body.toArray⟩) := by rw [Lib.cell_of_heap h]; rfl
theorem Rk.c4 {w : World} {g : Nat} {r : Rec} (h : Rk w g r) : w.cell? ⟨g, 4, none⟩ = some (.string ⟨r.before.toArray⟩) := by rw [Lib.cell_of_heap h]; rfl
theorem Rk.keep {w w' : World} {g : Nat} {r : Rec} (h : Rk w g r) (hb : Below w.heap.size w w') : Rk w' g r := (hb.block g h.lt).trans h
theorem Rk.new (w : World) (r : Rec) : Rk (w.alloc (.cells #[.int .i64 r.num, .int .i64 r.time, .int .i64 r.kind, .string ⟨r.body.toArray⟩, .string ⟨r.before.toArray⟩] 24)) w.heap.size r := heap_alloc_new w _
theorem recB_length {r : Rec} (hi : r.In) (hb : r.body.length ≤ 281474976710656) (hf : r.before.length ≤ 281474976710656) : (recB r).length ≤ r.body.length + r.before.length + 50 := by
  have h1 := putInt_ten hi.num
  have h2 := putInt_ten hi.time
  have h3 := putInt_ten hi.kind
  have h4 := putInt_ten (I64.nat hb)
  have h5 := putInt_ten (I64.nat hf)
  simp only [recB, putText, List.length_append]
  omega
set_option maxRecDepth 100000 in
set_option maxHeartbeats 1000000 in
theorem rdig_walk (r : Rec) (w : World) (hi : r.In) (hb : r.body.length + r.before.length ≤ 70368744000000) :
    Calls Try.prog 6 #[.agg #[.int .i64 r.num, .int .i64 r.time, .int .i64 r.kind, .string ⟨r.body.toArray⟩, .string ⟨r.before.toArray⟩]] w fun e w' => e = .returned (.string ⟨(digF r).toArray⟩) ∧ Below w.heap.size w w' := by
  have hl := recB_length hi (by omega) (by omega)
  have hR := Rk.new w r
  have hB := (Below.refl w.heap.size w).alloc (Nat.le_refl _) (.cells #[.int .i64 r.num, .int .i64 r.time, .int .i64 r.kind, .string ⟨r.body.toArray⟩, .string ⟨r.before.toArray⟩] 24)
  have hd : digF r = sha (recB r) := rfl
  have h1 := putInt_ten hi.num
  have h2 := putInt_ten hi.time
  have h3 := putInt_ten hi.kind
  have h4 := putInt_ten (I64.nat (show r.body.length ≤ 281474976710656 by omega))
  have k1 : ∀ V, Calls Try.prog 25 #[.string ⟨#[]⟩, .int .i64 r.num] V fun e w' => e = .returned (.string ⟨(putInt r.num).toArray⟩) ∧ Below V.heap.size V w' := fun V => rputInt_walk [] r.num V hi.num (by simp)
  have k2 : ∀ V, Calls Try.prog 25 #[.string ⟨(putInt r.num).toArray⟩, .int .i64 r.time] V fun e w' => e = .returned (.string ⟨(putInt r.num ++ putInt r.time).toArray⟩) ∧ Below V.heap.size V w' := fun V => rputInt_walk _ r.time V hi.time (by omega)
  have k3 : ∀ V, Calls Try.prog 25 #[.string ⟨(putInt r.num ++ putInt r.time).toArray⟩, .int .i64 r.kind] V fun e w' => e = .returned (.string ⟨(putInt r.num ++ putInt r.time ++ putInt r.kind).toArray⟩) ∧ Below V.heap.size V w' := fun V => rputInt_walk _ r.kind V hi.kind (by rw [List.length_append]; omega)
  have k4 : ∀ V, Calls Try.prog 27 #[.string ⟨(putInt r.num ++ putInt r.time ++ putInt r.kind).toArray⟩, .string ⟨r.body.toArray⟩] V fun e w' => e = .returned (.string ⟨(putInt r.num ++ putInt r.time ++ putInt r.kind ++ putText r.body).toArray⟩) ∧ Below V.heap.size V w' := fun V => rputText_walk _ r.body V (by simp only [List.length_append]; omega) (by omega)
  have k5 : ∀ V, Calls Try.prog 27 #[.string ⟨(putInt r.num ++ putInt r.time ++ putInt r.kind ++ putText r.body).toArray⟩, .string ⟨r.before.toArray⟩] V fun e w' => e = .returned (.string ⟨(recB r).toArray⟩) ∧ Below V.heap.size V w' := fun V => rputText_walk _ r.before V (by simp only [putText, List.length_append]; omega) (by omega)
  have k6 : ∀ V, Calls Try.prog 26 #[.string ⟨(recB r).toArray⟩] V fun e w' => e = .returned (.string ⟨(digF r).toArray⟩) ∧ Below V.heap.size V w' := fun V => rsum_walk (recB r) V (by omega)
  have K1 := Lib.hid k1
  have K2 := Lib.hid k2
  have K3 := Lib.hid k3
  have K4 := Lib.hid k4
  have K5 := Lib.hid k5
  have K6 := Lib.hid k6
  clear k1 k2 k3 k4 k5 k6 h1 h2 h3 h4 hd
  generalize putInt r.num = s1 at *
  generalize putInt r.time = s2 at *
  generalize putInt r.kind = s3 at *
  generalize putText r.body = s4 at *
  generalize hs5 : s1 ++ s2 = s5 at *
  generalize hs6 : s5 ++ s3 = s6 at *
  generalize hs7 : s6 ++ s4 = s7 at *
  generalize recB r = s8 at *
  generalize digF r = s9 at *
  clear hs5 hs6 hs7 hl hb
  go_enter Try.func6, Try.ntmps6
  go_wp2_with fail
  generalize w.alloc (.cells #[.int .i64 r.num, .int .i64 r.time, .int .i64 r.kind, .string ⟨r.body.toArray⟩, .string ⟨r.before.toArray⟩] 24) = w1 at *
  generalize hg : w.heap.size = g at *
  have c0 := fun d os => cell_regrown hR.c0 d os
  have c1 := fun d os => cell_regrown hR.c1 d os
  have c2 := fun d os => cell_regrown hR.c2 d os
  refine wp_region_quiet_below (by kernel_rfl) (by kernel_rfl) ?_
  repeat (go_big_quiet_step (first
    | (go_at_call 25; with_reducible exact Calls.regrown_of (K1.out _))
    | (go_at_call 25; with_reducible exact Calls.regrown_of (K2.out _))
    | (go_at_call 25; with_reducible exact Calls.regrown_of (K3.out _))))
  refine wpQuiet_nil ?_
  rintro w2 ⟨p1, rfl⟩
  have hb1 := below_regrown w1 p1.d p1.os
  generalize Sort.grow (redrawn w1 p1.d) p1.os = w2 at *
  replace hR := hR.keep hb1
  replace hB := hB.trans (hb1.mono (by have := hB.size; omega))
  clear hb1 c0 c1 c2
  go_wp2_with fail
  have c3 := fun d os => cell_regrown hR.c3 d os
  have c4 := fun d os => cell_regrown hR.c4 d os
  refine wp_region_quiet_below (by kernel_rfl) (by kernel_rfl) ?_
  repeat (go_big_quiet_step (first
    | (go_at_call 27; with_reducible exact Calls.regrown_of (K4.out _))
    | (go_at_call 27; with_reducible exact Calls.regrown_of (K5.out _))
    | (go_at_call 26; with_reducible exact Calls.regrown_of (K6.out _))))
  refine wpQuiet_nil ?_
  rintro w3 ⟨p2, rfl⟩
  have hb2 := below_regrown w2 p2.d p2.os
  go_wp2
  go_ret
  exact ⟨rfl, hg ▸ hB.trans (hb2.mono (by have := hB.size; omega))⟩
end Go.Proofs.Ytgjjpijcakafhaa
