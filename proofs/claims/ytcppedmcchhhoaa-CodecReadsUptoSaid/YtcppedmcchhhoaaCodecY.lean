import Derived.Test.YtcppedmcchhhoaaCodecX
namespace Go.Proofs.Ytcppedmcchhhoaa
open Go.RowKit

theorem putInt_ten {n : Int} (h : I64 n) : (putInt n).length ≤ 10 := vint_ten (zig_lt h.1 h.2)
theorem putInt_any (b : List UInt8) (n : Int) (w : World) (h : I64 n) (hb : b.length ≤ 281474976710656) :
    Calls Try.prog 16 #[.string ⟨b.toArray⟩, .int .i64 n] w fun e w' => e = .returned (.string ⟨(b ++ putInt n).toArray⟩) ∧ Below w.heap.size w w' := putInt_walk b n w h.1 h.2 hb
theorem putInt_nil (n : Int) (w : World) (h : I64 n) :
    Calls Try.prog 16 #[.string ⟨#[]⟩, .int .i64 n] w fun e w' => e = .returned (.string ⟨(putInt n).toArray⟩) ∧ Below w.heap.size w w' := putInt_walk [] n w h.1 h.2 (by simp)

set_option maxRecDepth 100000 in
set_option maxHeartbeats 400000 in
theorem putText_any (b s : List UInt8) (w : World) (hb : b.length ≤ 281474976710656) (hs : s.length ≤ 281474976710656) :
    Calls Try.prog 18 #[.string ⟨b.toArray⟩, .string ⟨s.toArray⟩] w fun e w' => e = .returned (.string ⟨(b ++ putText s).toArray⟩) ∧ Below w.heap.size w w' := by
  have ht := putInt_ten (I64.nat hs)
  go_enter Try.func18, Try.ntmps18
  go_wp2_with (go_at_call 16; refine (putInt_any b s.length _ (I64.nat hs) hb).mono ?_; rintro e w1 ⟨rfl, hb1⟩)
  go_ret
  exact ⟨ret_str (by simp [putText]), hb1⟩
theorem putText_nil (s : List UInt8) (w : World) (hs : s.length ≤ 281474976710656) :
    Calls Try.prog 18 #[.string ⟨#[]⟩, .string ⟨s.toArray⟩] w fun e w' => e = .returned (.string ⟨(putText s).toArray⟩) ∧ Below w.heap.size w w' := putText_any [] s w (by simp) hs

theorem len_flat {α : Type} (f : α → List UInt8) (l : List α) (k : Nat) {x : α} (h : Hid (l[k]? = some x)) : ((l.take k).flatMap f).length + (f x).length ≤ (l.flatMap f).length := by
  obtain ⟨hk, hx⟩ := List.getElem?_eq_some_iff.1 h.out
  have e : l.flatMap f = (l.take k).flatMap f ++ f x ++ (l.drop (k + 1)).flatMap f := by
    conv => lhs; rw [← List.take_append_drop k l, List.drop_eq_getElem_cons hk, hx]
    simp
  rw [e]; simp

set_option maxRecDepth 100000 in
set_option maxHeartbeats 400000 in
theorem putListI_walk (b : List UInt8) (la : Option Addr) (lc : Nat) (l : List Int) (w : World) (hb : b.length ≤ 281474976710656) (hr : Rd w la (ints l)) (hl : l.length ≤ 281474976710656) (hx : ∀ x ∈ l, I64 x) (ht : (putInts l).length ≤ 140737488355328) :
    Calls Try.prog 51 #[.string ⟨b.toArray⟩, .slice la l.length lc, .func (.func 16) #[] #[]] w fun e w' => e = .returned (.string ⟨(b ++ putInts l).toArray⟩) ∧ Below w.heap.size w w' := by
  have htt : (putInt l.length).length + (l.flatMap putInt).length ≤ 140737488355328 := by simpa [putInts] using ht
  clear ht
  go_enter Try.func51, Try.ntmps51
  go_wp2_with (go_at_call 16; refine (putInt_nil l.length _ (I64.nat hl)).mono ?_; rintro e w1 ⟨rfl, hb1⟩; have hcv := Lib.run_convert_string_bytes (P := Try.prog) w1 9 49 5 ⟨(putInt l.length).toArray⟩ Try.underlying9 Try.underlying49 Try.underlying5)
  generalize hs0 : putInt l.length = s0 at *
  have hw0 : Below w.heap.size w (Lib.bytesWorld w1 5 ⟨s0.toArray⟩) := hb1.trans ((below_bytes w1 _ _).mono hb1.size)
  have how := Ow.bytes w1 5 ⟨s0.toArray⟩ (by simp [maxLen, ByteArray.size]; omega)
  have HS := Lib.hid hs0
  clear hs0 hcv
  go_loopw [8, 18] (fun v i wr => ∃ (k : Nat) (L : List UInt8) (a : Option Addr) (cap : Nat), k ≤ l.length ∧ i = .int .i64 (k : Int) ∧ v = .slice a L.length cap ∧ L = s0 ++ (l.take k).flatMap putInt ∧ Ow wr w.heap.size 1 a L.length cap (u8s L) ∧ Below w.heap.size w wr) (fun _ i _ => l.length - (intOf i).toNat)
  case atStart => exact ⟨0, s0, _, _, Nat.zero_le _, rfl, rfl, by simp, how.lower hb1.size, hw0⟩
  case round =>
    obtain ⟨k, L, a, cap, hk, rfl, rfl, hL, hown, hbel⟩ := hrel
    have hsz := hbel.size
    have hrk := hr.keep hbel
    have HL := Lib.hid hL
    clear how hw0 hL
    by_cases hlt : k < l.length
    · obtain ⟨g, off, x, rfl, hc, HX⟩ := hrk.int hlt
      have hxi := hx x (mem_at HX)
      have hfl := len_flat putInt l k HX
      have hLl : L.length + (putInt x).length ≤ 140737488355328 := by rw [HL.out, List.length_append]; omega
      clear hfl htt
      go_wp2_with (first
        | (go_at_call 16; refine (putInt_nil x _ hxi).mono ?_; rintro e w2 ⟨rfl, hb2⟩)
        | (at_builtin; refine wpList_apps (w0 := w) (B := w.heap.size) rfl _ _ _ _ rfl el_u8 rfl (hown.keep hb2) (hbel.trans (hb2.mono hsz)) (Nat.le_refl _) (by have := hb2.size; omega) rfl (Src.str _ Try.underlying9 _) (by omega) ?_; intro a3 cap3 w3 hown3 hbel3 _))
      go_roundw
      case rel => exact ⟨k + 1, L ++ putInt x, a3, cap3, by omega, by go_num, by simp, by rw [take_at HX, HL.out]; simp, by simpa [u8s_append] using hown3, hbel3⟩
      case measure => simp [intOf]; omega
    · obtain rfl : k = l.length := by omega
      have hcv := run_bytes_str (P := Try.prog) wr 49 9 5 Try.underlying49 Try.underlying5 Try.underlying9 (c := cap) rfl hown.rd
      have hLl : L.length ≤ 140737488355328 := by rw [HL.out, List.length_append, List.take_length]; omega
      go_wp2
      go_ret
      exact ⟨ret_str (by rw [HL.out, List.take_length]; simp [putInts, HS.out]), hbel⟩

set_option maxRecDepth 100000 in
set_option maxHeartbeats 400000 in
theorem putListS_walk (b : List UInt8) (la : Option Addr) (lc : Nat) (l : List (List UInt8)) (w : World) (hb : b.length ≤ 281474976710656) (hr : Rd w la (strs l)) (hl : l.length ≤ 281474976710656) (hx : ∀ x ∈ l, x.length ≤ 281474976710656) (ht : (putTexts l).length ≤ 140737488355328) :
    Calls Try.prog 52 #[.string ⟨b.toArray⟩, .slice la l.length lc, .func (.func 18) #[] #[]] w fun e w' => e = .returned (.string ⟨(b ++ putTexts l).toArray⟩) ∧ Below w.heap.size w w' := by
  have htt : (putInt l.length).length + (l.flatMap putText).length ≤ 140737488355328 := by simpa [putTexts] using ht
  clear ht
  go_enter Try.func52, Try.ntmps52
  go_wp2_with (go_at_call 16; refine (putInt_nil l.length _ (I64.nat hl)).mono ?_; rintro e w1 ⟨rfl, hb1⟩; have hcv := Lib.run_convert_string_bytes (P := Try.prog) w1 9 49 5 ⟨(putInt l.length).toArray⟩ Try.underlying9 Try.underlying49 Try.underlying5)
  generalize hs0 : putInt l.length = s0 at *
  have hw0 : Below w.heap.size w (Lib.bytesWorld w1 5 ⟨s0.toArray⟩) := hb1.trans ((below_bytes w1 _ _).mono hb1.size)
  have how := Ow.bytes w1 5 ⟨s0.toArray⟩ (by simp [maxLen, ByteArray.size]; omega)
  have HS := Lib.hid hs0
  clear hs0 hcv
  go_loopw [8, 18] (fun v i wr => ∃ (k : Nat) (L : List UInt8) (a : Option Addr) (cap : Nat), k ≤ l.length ∧ i = .int .i64 (k : Int) ∧ v = .slice a L.length cap ∧ L = s0 ++ (l.take k).flatMap putText ∧ Ow wr w.heap.size 1 a L.length cap (u8s L) ∧ Below w.heap.size w wr) (fun _ i _ => l.length - (intOf i).toNat)
  case atStart => exact ⟨0, s0, _, _, Nat.zero_le _, rfl, rfl, by simp, how.lower hb1.size, hw0⟩
  case round =>
    obtain ⟨k, L, a, cap, hk, rfl, rfl, hL, hown, hbel⟩ := hrel
    have hsz := hbel.size
    have hrk := hr.keep hbel
    have HL := Lib.hid hL
    clear how hw0 hL
    by_cases hlt : k < l.length
    · obtain ⟨g, off, x, rfl, hc, HX⟩ := hrk.str hlt
      have hxi := hx x (mem_at HX)
      have hfl := len_flat putText l k HX
      have hLl : L.length + (putText x).length ≤ 140737488355328 := by rw [HL.out, List.length_append]; omega
      clear hfl htt
      go_wp2_with (first
        | (go_at_call 18; refine (putText_nil x _ hxi).mono ?_; rintro e w2 ⟨rfl, hb2⟩)
        | (at_builtin; refine wpList_apps (w0 := w) (B := w.heap.size) rfl _ _ _ _ rfl el_u8 rfl (hown.keep hb2) (hbel.trans (hb2.mono hsz)) (Nat.le_refl _) (by have := hb2.size; omega) rfl (Src.str _ Try.underlying9 _) (by omega) ?_; intro a3 cap3 w3 hown3 hbel3 _))
      go_roundw
      case rel => exact ⟨k + 1, L ++ putText x, a3, cap3, by omega, by go_num, by simp, by rw [take_at HX, HL.out]; simp, by simpa [u8s_append] using hown3, hbel3⟩
      case measure => simp [intOf]; omega
    · obtain rfl : k = l.length := by omega
      have hcv := run_bytes_str (P := Try.prog) wr 49 9 5 Try.underlying49 Try.underlying5 Try.underlying9 (c := cap) rfl hown.rd
      have hLl : L.length ≤ 140737488355328 := by rw [HL.out, List.length_append, List.take_length]; omega
      go_wp2
      go_ret
      exact ⟨ret_str (by rw [HL.out, List.take_length]; simp [putTexts, HS.out]), hbel⟩

theorem putInts_any (b : List UInt8) (la : Option Addr) (lc : Nat) (l : List Int) (w : World) (hb : b.length ≤ 281474976710656) (hr : Rd w la (ints l)) (hl : l.length ≤ 281474976710656) (hx : ∀ x ∈ l, I64 x) (ht : (putInts l).length ≤ 140737488355328) :
    Calls Try.prog 20 #[.string ⟨b.toArray⟩, .slice la l.length lc] w fun e w' => e = .returned (.string ⟨(b ++ putInts l).toArray⟩) ∧ Below w.heap.size w w' := by
  go_enter Try.func20, Try.ntmps20
  go_wp2_with (go_at_call 51; refine (putListI_walk b la lc l _ hb hr hl hx ht).mono ?_; rintro e w1 ⟨rfl, hb1⟩)
  go_ret
  exact ⟨rfl, hb1⟩
theorem putTexts_any (b : List UInt8) (la : Option Addr) (lc : Nat) (l : List (List UInt8)) (w : World) (hb : b.length ≤ 281474976710656) (hr : Rd w la (strs l)) (hl : l.length ≤ 281474976710656) (hx : ∀ x ∈ l, x.length ≤ 281474976710656) (ht : (putTexts l).length ≤ 140737488355328) :
    Calls Try.prog 22 #[.string ⟨b.toArray⟩, .slice la l.length lc] w fun e w' => e = .returned (.string ⟨(b ++ putTexts l).toArray⟩) ∧ Below w.heap.size w w' := by
  go_enter Try.func22, Try.ntmps22
  go_wp2_with (go_at_call 52; refine (putListS_walk b la lc l _ hb hr hl hx ht).mono ?_; rintro e w1 ⟨rfl, hb1⟩)
  go_ret
  exact ⟨rfl, hb1⟩
end Go.Proofs.Ytcppedmcchhhoaa
