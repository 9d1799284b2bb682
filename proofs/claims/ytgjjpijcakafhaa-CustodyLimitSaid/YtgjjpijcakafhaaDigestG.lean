/- Four bytes, pairs, lists, numbers of sums: the program's and the reference's. -/
import Derived.Test.YtgjjpijcakafhaaDigestF
namespace Go.Proofs.Ytgjjpijcakafhaa
open Go.RowKit
def pairL (a b : List UInt8) : List UInt8 := sha ([1] ++ wbytes a.length ++ a ++ wbytes b.length ++ b)
/-- what stands of the first n strings -/
def listB (l : List (List UInt8)) (n : Nat) : List UInt8 := (l.take n).flatMap fun s => wbytes s.length ++ s
def listL (l : List (List UInt8)) : List UInt8 := sha ([2] ++ wbytes l.length ++ listB l l.length)
@[go_sem] theorem str_app (a b : List UInt8) : (ByteArray.mk a.toArray) ++ (ByteArray.mk b.toArray) = ByteArray.mk (a ++ b).toArray := by
  apply ByteArray.ext; simp
theorem wbytes_length (x : Int) : (wbytes x).length = 4 := rfl
theorem new_u8s {w : World} {t : TypeId} (Q : World → Prop) (xs : List UInt8) (h : ∀ w', Below w.heap.size w w' → Rd w' (some ⟨w.heap.size, 0, none⟩) (u8s xs) → Q w') : Q (w.alloc (.cells (u8s xs).toArray t)) :=
  h _ ((Below.refl _ _).alloc (Nat.le_refl _) _) (Rd.mk fun j u hj => by rw [Nat.zero_add, World.cell?_alloc_at _ _ _ _ rfl]; simpa using hj)
set_option maxRecDepth 100000 in
theorem four_walk (n : Int) (w : World) (hn : I64 n) :
    Calls Try.prog 61 #[.int .i64 n] w fun e w' => e = .returned (.string ⟨(wbytes n).toArray⟩) ∧ Below w.heap.size w w' := by
  have hn1 := hn.1
  have hn2 := hn.2
  have hw : Rd (w.alloc (.cells #[.int .u8 (n / 16777216 % 256), .int .u8 (n / 65536 % 256), .int .u8 (n / 256 % 256), .int .u8 (n % 256)] 5)) (some ⟨w.heap.size, 0, none⟩) (u8s (wbytes n)) := by
    rw [u8s_wbytes]
    exact Rd.mk fun j u hj => by rw [Nat.zero_add, World.cell?_alloc_at _ _ _ _ rfl]; simpa using hj
  have hb := (Below.refl w.heap.size w).alloc (Nat.le_refl _) (.cells #[.int .u8 (n / 16777216 % 256), .int .u8 (n / 65536 % 256), .int .u8 (n / 256 % 256), .int .u8 (n % 256)] 5)
  have hcv := run_bytes_str (P := Try.prog) _ 71 9 5 Try.underlying71 Try.underlying5 Try.underlying9 (n := 4) (c := 4) rfl hw
  go_enter Try.func61, Try.ntmps61
  clear hw hn1 hn2
  go_wp2
  go_ret
  exact ⟨rfl, hb⟩
set_option maxRecDepth 100000 in
theorem rfour_walk (n : Int) (w : World) (hn : I64 n) :
    Calls Try.prog 67 #[.int .i64 n] w fun e w' => e = .returned (.string ⟨(wbytes n).toArray⟩) ∧ Below w.heap.size w w' := by
  have hn1 := hn.1
  have hn2 := hn.2
  have hw : Rd (w.alloc (.cells #[.int .u8 (n / 16777216 % 256), .int .u8 (n / 65536 % 256), .int .u8 (n / 256 % 256), .int .u8 (n % 256)] 5)) (some ⟨w.heap.size, 0, none⟩) (u8s (wbytes n)) := by
    rw [u8s_wbytes]
    exact Rd.mk fun j u hj => by rw [Nat.zero_add, World.cell?_alloc_at _ _ _ _ rfl]; simpa using hj
  have hb := (Below.refl w.heap.size w).alloc (Nat.le_refl _) (.cells #[.int .u8 (n / 16777216 % 256), .int .u8 (n / 65536 % 256), .int .u8 (n / 256 % 256), .int .u8 (n % 256)] 5)
  have hcv := run_bytes_str (P := Try.prog) _ 71 9 5 Try.underlying71 Try.underlying5 Try.underlying9 (n := 4) (c := 4) rfl hw
  go_enter Try.func67, Try.ntmps67
  clear hw hn1 hn2
  go_wp2
  go_ret
  exact ⟨rfl, hb⟩
set_option maxRecDepth 100000 in
theorem pair_walk (a b : List UInt8) (w : World) (h : a.length + b.length ≤ 140737487000000) :
    Calls Try.prog 52 #[.string ⟨a.toArray⟩, .string ⟨b.toArray⟩] w fun e w' => e = .returned (.string ⟨(pairL a b).toArray⟩) ∧ Below w.heap.size w w' := by
  have hwa := wbytes_length (a.length : Int)
  have hwb := wbytes_length (b.length : Int)
  go_enter Try.func52, Try.ntmps52
  go_wp2_with (go_at_call 61; (with_reducible refine (four_walk _ _ (I64.nat (by omega))).mono ?_))
  rintro e w1 ⟨rfl, hb1⟩
  go_wp2_with (go_at_call 61; (with_reducible refine (four_walk _ _ (I64.nat (by omega))).mono ?_))
  rintro e w2 ⟨rfl, hb2⟩
  go_wp2_with (go_at_call 40; (with_reducible refine (sum_walk _ _ ?hl).mono ?_))
  case hl => simp [wbytes_length]; omega
  rintro e w3 ⟨rfl, hb3⟩
  go_wp2
  go_ret
  refine ⟨ret_str ?_, ?_⟩
  · rw [pairL]; try simp only [List.append_assoc, List.cons_append, List.nil_append]
  exact below_tr (below_tr hb1 hb2) hb3
set_option maxRecDepth 100000 in
theorem rpair_walk (a b : List UInt8) (w : World) (h : a.length + b.length ≤ 140737487000000) :
    Calls Try.prog 58 #[.string ⟨a.toArray⟩, .string ⟨b.toArray⟩] w fun e w' => e = .returned (.string ⟨(pairL a b).toArray⟩) ∧ Below w.heap.size w w' := by
  have hwa := wbytes_length (a.length : Int)
  have hwb := wbytes_length (b.length : Int)
  go_enter Try.func58, Try.ntmps58
  go_wp2_with (go_at_call 67; (with_reducible refine (rfour_walk _ _ (I64.nat (by omega))).mono ?_))
  rintro e w1 ⟨rfl, hb1⟩
  go_wp2_with (go_at_call 67; (with_reducible refine (rfour_walk _ _ (I64.nat (by omega))).mono ?_))
  rintro e w2 ⟨rfl, hb2⟩
  go_wp2_with (go_at_call 26; (with_reducible refine (rsum_walk _ _ ?hl).mono ?_))
  case hl => simp [wbytes_length]; omega
  rintro e w3 ⟨rfl, hb3⟩
  go_wp2
  go_ret
  refine ⟨ret_str ?_, ?_⟩
  · rw [pairL]; try simp only [List.append_assoc, List.cons_append, List.nil_append]
  exact below_tr (below_tr hb1 hb2) hb3
end Go.Proofs.Ytgjjpijcakafhaa
