/- slices.Index and slices.Contains at strings. -/
import Derived.Test.YtpofijdkckaphaaGreatDoorBase
import Derived.Test.YtpofijdkckaphaaGreatDoorGCndP
import Derived.Test.YtpofijdkckaphaaGreatDoorShelf
namespace Go.Proofs.YtpofijdkckaphaaGreatDoor
open Go.RowKit
set_option maxRecDepth 100000 in
set_option maxHeartbeats 2000000 in
theorem sindex_walk (a : Option Addr) (l : List (List UInt8)) (cap : Nat) (x : List UInt8) (w : World) (hR : Rd w a (strs l)) (hl : l.length ≤ 281474976710656) :
    Calls Tryz.prog 160 #[.slice a l.length cap, .string ⟨x.toArray⟩] w fun e w' => ∃ i, e = .returned (.int .i64 i) ∧ decide (0 ≤ i) = decide (x ∈ l) ∧ w = w' := by
  go_enter Tryz.func160, Tryz.ntmps160
  go_wp2_with fail
  go_loopw [8] (fun i wr => ∃ k : Nat, wr = w ∧ k ≤ l.length ∧ i = .int .i64 (k : Int) ∧ Hid (x ∉ l.take k)) (fun i _ => l.length - (intOf i).toNat)
  case atStart => exact ⟨0, rfl, Nat.zero_le _, rfl, Lib.hid (by simp)⟩
  case round =>
    obtain ⟨k, rfl, hk, rfl, hA⟩ := hrel
    by_cases hkt : k < l.length
    · obtain ⟨gx, off, y, rfl, hc, hx⟩ := hR.str (k := k) hkt
      have hkl : (k : Int) < (l.length : Int) := by omega
      by_cases hxy : x = y
      · subst hxy
        have hm := Lib.hid (mem_at hx)
        clear hA hx hR
        go_wp2
        go_ret
        exact ⟨(k : Int), rfl, by rw [decide_eq_true hm.out]; simp, rfl⟩
      · have hb : (x == y) = false := by rw [beq_eq_false_iff_ne]; exact hxy
        have hT : x ∉ l.take (k + 1) := fun h => by
          rw [take_at hx] at h
          rcases List.mem_append.1 h with h | h
          · exact hA.out h
          · simp at h; exact hxy h
        have HT := Lib.hid hT
        clear hT hA hx hR hxy
        go_wp2
        go_roundw
        case rel => exact ⟨k + 1, trivial, by omega, by go_num, HT⟩
        case measure => simp [intOf]; omega
    · have hkl : ¬ (k : Int) < (l.length : Int) := by omega
      obtain rfl : k = l.length := by omega
      have hm : x ∉ l := by have := hA.out; rwa [List.take_length] at this
      have HM := Lib.hid hm
      clear hA hm
      go_wp2
      go_ret
      exact ⟨-1, rfl, ⟨fun h => absurd h (by decide), fun h => absurd h HM.out⟩, rfl⟩
set_option maxRecDepth 100000 in
theorem scontains_walk (a : Option Addr) (l : List (List UInt8)) (cap : Nat) (x : List UInt8) (w : World) (hR : Rd w a (strs l)) (hl : l.length ≤ 281474976710656) :
    Calls Tryz.prog 151 #[.slice a l.length cap, .string ⟨x.toArray⟩] w fun e w' => e = .returned (.bool (decide (x ∈ l))) ∧ w = w' := by
  have K1 := Lib.hid (sindex_walk a l cap x w hR hl)
  clear hR hl
  go_enter Tryz.func151, Tryz.ntmps151
  go_wp2_with (go_at_call 160; (with_reducible refine K1.out.mono ?_))
  rintro e w1 ⟨i, rfl, hi, rfl⟩
  have HI := Lib.hid hi
  clear K1 hi
  go_wp2
  go_ret
  exact ⟨by rw [← HI.out]; rfl, rfl⟩
end Go.Proofs.YtpofijdkckaphaaGreatDoor
/- Conditions: names of fields: the program's. -/
namespace Go.Proofs.YtpofijdkckaphaaGreatDoor
open Go.RowKit
set_option maxRecDepth 100000 in
theorem letter_walk (z : Nat) (hz : z < 256) (w : World) :
    Calls Tryz.prog 150 #[.int .u8 (z : Int)] w fun e w' => e = .returned (.bool (letN z)) ∧ w = w' := by
  have HE : Hid (letN z = decide (97 ≤ z ∧ z ≤ 122)) := Lib.hid rfl
  go_enter Tryz.func150, Tryz.ntmps150
  by_cases h1 : 97 ≤ z
  · have d1 : decide ((z : Int) ≥ 97) = true := decide_eq_true (by omega)
    by_cases h2 : z ≤ 122
    · have d2 : decide ((z : Int) ≤ 122) = true := decide_eq_true (by omega)
      go_wp2
      go_ret
      exact ⟨ret_bool (by rw [HE.out, decide_eq_true ⟨h1, h2⟩]), rfl⟩
    · have d2 : decide ((z : Int) ≤ 122) = false := decide_eq_false (by omega)
      go_wp2
      go_ret
      exact ⟨ret_bool (by rw [HE.out, decide_eq_false (fun h => h2 h.2)]), rfl⟩
  · have d1 : decide ((z : Int) ≥ 97) = false := decide_eq_false (by omega)
    go_wp2
    go_ret
    exact ⟨ret_bool (by rw [HE.out, decide_eq_false (fun h => h1 h.1)]), rfl⟩
set_option maxRecDepth 100000 in
theorem inword_walk (z : Nat) (hz : z < 256) (w : World) :
    Calls Tryz.prog 153 #[.int .u8 (z : Int)] w fun e w' => e = .returned (.bool (inwN z)) ∧ w = w' := by
  have K1 := Lib.hid (letter_walk z hz w)
  have HE : Hid (inwN z = (letN z || decide (48 ≤ z ∧ z ≤ 57) || decide (z = 95))) := Lib.hid rfl
  generalize letN z = b at *
  go_enter Tryz.func153, Tryz.ntmps153
  cases b with
  | true =>
    go_wp2_with (go_at_call 150; (with_reducible refine K1.out.mono ?_); (try rintro e w1 ⟨rfl, rfl⟩))
    go_ret
    exact ⟨ret_bool (by rw [HE.out]; simp), rfl⟩
  | false =>
    by_cases h1 : 48 ≤ z
    · have d1 : decide ((z : Int) ≥ 48) = true := decide_eq_true (by omega)
      by_cases h2 : z ≤ 57
      · have d2 : decide ((z : Int) ≤ 57) = true := decide_eq_true (by omega)
        go_wp2_with (go_at_call 150; (with_reducible refine K1.out.mono ?_); (try rintro e w1 ⟨rfl, rfl⟩))
        go_ret
        exact ⟨ret_bool (by rw [HE.out, decide_eq_true (show 48 ≤ z ∧ z ≤ 57 from ⟨h1, h2⟩)]; simp), rfl⟩
      · have d2 : decide ((z : Int) ≤ 57) = false := decide_eq_false (by omega)
        have hb : ((z : Int) == 95) = decide (z = 95) := by rw [Bool.eq_iff_iff]; simp; omega
        go_wp2_with (go_at_call 150; (with_reducible refine K1.out.mono ?_); (try rintro e w1 ⟨rfl, rfl⟩))
        go_ret
        exact ⟨ret_bool (by rw [HE.out, decide_eq_false (show ¬ (48 ≤ z ∧ z ≤ 57) from fun h => h2 h.2)]; simp), rfl⟩
    · have d1 : decide ((z : Int) ≥ 48) = false := decide_eq_false (by omega)
      have hb : ((z : Int) == 95) = decide (z = 95) := by rw [Bool.eq_iff_iff]; simp; omega
      go_wp2_with (go_at_call 150; (with_reducible refine K1.out.mono ?_); (try rintro e w1 ⟨rfl, rfl⟩))
      go_ret
      exact ⟨ret_bool (by rw [HE.out, decide_eq_false (show ¬ (48 ≤ z ∧ z ≤ 57) from fun h => h1 h.1)]; simp), rfl⟩
set_option maxRecDepth 100000 in
/-- the language's words, laid in a new block -/
theorem reserved_walk (w : World) :
    Calls Tryz.prog 152 #[] w fun e w' => ∃ a c, e = .returned (.slice a 10 c) ∧ Rd w' a (strs resv) ∧ Below w.heap.size w w' := by
  go_enter Tryz.func152, Tryz.ntmps152
  go_wp2
  go_ret
  refine ⟨_, _, rfl, ?_, (Below.refl _ _).alloc (Nat.le_refl _) _⟩
  exact Rd.mk fun j u hj => by rw [Nat.zero_add, World.cell?_alloc_at _ _ _ _ rfl]; simpa [strs, resv] using hj
theorem all_bt (s : List UInt8) (p : Nat → Bool) : (s.all fun c => p c.toNat) = true ↔ ∀ j, j < s.length → p (bt s j) = true := by
  rw [List.all_eq_true]
  constructor
  · intro h j hj
    have := h s[j] (List.getElem_mem hj)
    rwa [bt, List.getElem?_eq_getElem hj]
  · intro h c hc
    obtain ⟨j, hj, rfl⟩ := List.getElem_of_mem hc
    have := h j hj
    rwa [bt, List.getElem?_eq_getElem hj] at this
set_option maxRecDepth 100000 in
set_option maxHeartbeats 1000000 in
theorem name_walk (s : List UInt8) (w : World) (hs : s.length ≤ 281474976710656) :
    Calls Tryz.prog 145 #[.string ⟨s.toArray⟩] w fun e w' => e = .returned (.bool (nameF s)) ∧ Below w.heap.size w w' := by
  have KI := Lib.hid (fun j V => inword_walk (bt s j) (bt_lt s j) V)
  have KR := Lib.hid (reserved_walk w)
  have KL := Lib.hid (letter_walk (bt s 0) (bt_lt s 0) w)
  have HE : Hid (nameF s = ((decide (1 ≤ s.length) && decide (s.length ≤ 32)) && (letN (bt s 0) && (!(decide (s ∈ resv)) && s.all fun c => inwN c.toNat)))) := Lib.hid rfl
  go_enter Tryz.func145, Tryz.ntmps145
  by_cases h0 : s = []
  · subst h0
    go_wp2
    go_ret
    exact ⟨ret_bool (by rw [HE.out]; rfl), Below.refl _ _⟩
  have hb0 : (s == []) = false := by rw [beq_eq_false_iff_ne]; exact h0
  have hl : 1 ≤ s.length := List.length_pos_iff.2 h0
  clear h0
  by_cases h32 : s.length ≤ 32
  rotate_left
  · have d1 : decide ((s.length : Int) > 32) = true := decide_eq_true (by omega)
    have d2 : decide (32 < s.length) = true := decide_eq_true (by omega)
    go_wp2
    go_ret
    exact ⟨ret_bool (by rw [HE.out, decide_eq_false h32]; simp), Below.refl _ _⟩
  have d1 : decide ((s.length : Int) > 32) = false := decide_eq_false (by omega)
  have d2 : decide (32 < s.length) = false := decide_eq_false (by omega)
  cases hlt : letN (bt s 0) with
  | false =>
    rw [hlt] at KL
    have HLT := Lib.hid hlt
    clear hlt
    go_wp2_with (go_at_call 150; (with_reducible refine KL.out.mono ?_); (try rintro e w1 ⟨rfl, rfl⟩))
    go_ret
    exact ⟨ret_bool (by rw [HE.out, HLT.out]; simp), Below.refl _ _⟩
  | true =>
  rw [hlt] at KL
  have HLT := Lib.hid hlt
  clear hlt
  have KC := Lib.hid (fun a c V (hV : Rd V a (strs resv)) => (show Calls Tryz.prog 151 #[.slice a 10 c, .string ⟨s.toArray⟩] V fun e w' => e = .returned (.bool (decide (s ∈ resv))) ∧ V = w' from scontains_walk a resv c s V hV (by decide)))
  cases hrs : decide (s ∈ resv) with
  | true =>
    rw [hrs] at KC
    have HRS := Lib.hid hrs
    clear hrs
    go_wp2_with (go_at_call 150; (with_reducible refine KL.out.mono ?_); (try rintro e w1 ⟨rfl, rfl⟩))
    go_wp2_with (go_at_call 152; (with_reducible refine KR.out.mono ?_))
    (first | rintro e w1 ⟨a, c, rfl, hr, hb⟩ | rintro e w1 a c rfl hr hb)
    go_wp2_with (go_at_call 151; (with_reducible refine (KC.out _ _ _ hr).mono ?_); (try rintro e w2 ⟨rfl, rfl⟩))
    go_ret
    exact ⟨ret_bool (by rw [HE.out, HRS.out]; simp), hb⟩
  | false =>
  rw [hrs] at KC
  have HRS := Lib.hid hrs
  clear hrs
  go_wp2_with (go_at_call 150; (with_reducible refine KL.out.mono ?_); (try rintro e w1 ⟨rfl, rfl⟩))
  go_wp2_with (go_at_call 152; (with_reducible refine KR.out.mono ?_))
  (first | rintro e w1 ⟨a, c, rfl, hr, hb⟩ | rintro e w1 a c rfl hr hb)
  go_wp2_with (go_at_call 151; (with_reducible refine (KC.out _ _ _ hr).mono ?_); (try rintro e w2 ⟨rfl, rfl⟩))
  clear KC KR KL hr
  go_loopw [24] (fun i wr => ∃ k : Nat, wr = w1 ∧ k ≤ s.length ∧ i = .int .i64 (k : Int) ∧ Hid (∀ j, j < k → inwN (bt s j) = true)) (fun i _ => s.length - (intOf i).toNat)
  case atStart => exact ⟨0, rfl, Nat.zero_le _, rfl, Lib.hid (fun j h => by omega)⟩
  case round =>
    obtain ⟨k, rfl, hk, rfl, hA⟩ := hrel
    by_cases hkt : k < s.length
    · have hkl : (k : Int) < (s.length : Int) := by omega
      have K1 := Lib.hid (KI.out k wr)
      cases hz : inwN (bt s k) with
      | false =>
        rw [hz] at K1
        have HF : Hid ((s.all fun c => inwN c.toNat) = false) := Lib.hid (by
          rw [Bool.eq_false_iff]
          intro h
          have := (all_bt s inwN).1 h k hkt
          rw [hz] at this; cases this)
        clear hz hA
        go_wp2_with (go_at_call 153; (with_reducible refine K1.out.mono ?_); (try rintro e w1 ⟨rfl, rfl⟩))
        go_ret
        exact ⟨ret_bool (by rw [HE.out, HF.out]; simp), hb⟩
      | true =>
        rw [hz] at K1
        have HT : Hid (∀ j, j < k + 1 → inwN (bt s j) = true) := Lib.hid (fun j hj => by
          by_cases e : j = k
          · subst e; exact hz
          · exact hA.out j (by omega))
        clear hz hA
        go_wp2_with (go_at_call 153; (with_reducible refine K1.out.mono ?_); (try rintro e w1 ⟨rfl, rfl⟩))
        go_roundw
        case rel => exact ⟨k + 1, trivial, by omega, by go_num, HT⟩
        case measure => simp [intOf]; omega
    · have hkl : ¬ (k : Int) < (s.length : Int) := by omega
      obtain rfl : k = s.length := by omega
      have HT : Hid ((s.all fun c => inwN c.toNat) = true) := Lib.hid ((all_bt s inwN).2 hA.out)
      clear hA
      go_wp2
      go_ret
      exact ⟨ret_bool (by rw [HE.out, HT.out, HRS.out, HLT.out, decide_eq_true hl, decide_eq_true h32]; rfl), hb⟩
end Go.Proofs.YtpofijdkckaphaaGreatDoor
/- Conditions: names of fields: the reference's. -/
namespace Go.Proofs.YtpofijdkckaphaaGreatDoor
open Go.RowKit
/-- the library's table of white space is as the program begins with it -/
def Spc (w : World) : Prop := Lib.TabIs Tryz.prog w "strings.asciiSpace" .u8 Lib.asciiSpaceTab
theorem gSpc0 : (Tryz.prog.globalNamed "strings.asciiSpace").isSome = true := by kernel_rfl
theorem gSpc : ∃ g, Tryz.prog.globalNamed "strings.asciiSpace" = some g := Option.isSome_iff_exists.1 gSpc0
theorem Spc.keep {w w' : World} (h : Spc w) (hb : Below w.heap.size w w') : Spc w' := by
  obtain ⟨g, hg⟩ := gSpc
  have hlt : g < w.heap.size := World.block_lt_of_cell? _ _ (h.cell hg 0 (by rw [Lib.asciiSpaceTab_length]; decide))
  unfold Spc Lib.TabIs World.var? at h ⊢
  rw [hg] at h ⊢
  simp only [Option.bind_some] at h ⊢
  rw [hb.block g hlt]
  exact h
set_option maxRecDepth 100000 in
theorem inner_walk (z : Nat) (hz : z < 256) (w : World) :
    Calls Tryz.prog 140 #[.int .u8 (z : Int)] w fun e w' => e = .returned (.bool (inwN z)) ∧ w = w' := by
  have HE : Hid (inwN z = (letN z || decide (48 ≤ z ∧ z ≤ 57) || decide (z = 95))) := Lib.hid rfl
  have HL : Hid (letN z = decide (97 ≤ z ∧ z ≤ 122)) := Lib.hid rfl
  go_enter Tryz.func140, Tryz.ntmps140
  by_cases hl : 97 ≤ z ∧ z ≤ 122
  · have d1 : decide ((z : Int) ≥ 97) = true := decide_eq_true (by omega)
    have d2 : decide ((z : Int) ≤ 122) = true := decide_eq_true (by omega)
    go_wp2
    go_ret
    exact ⟨ret_bool (by rw [HE.out, HL.out, decide_eq_true hl]; rfl), rfl⟩
  have hR : inwN z = (decide (48 ≤ z ∧ z ≤ 57) || decide (z = 95)) := by rw [HE.out, HL.out, decide_eq_false hl]; rfl
  have HR := Lib.hid hR
  have hb : ((z : Int) == 95) = decide (z = 95) := by rw [Bool.eq_iff_iff]; simp; omega
  clear HE HL hR
  have key : ∀ b1 : Bool, decide ((z : Int) ≥ 97) = b1 → (b1 = true → decide ((z : Int) ≤ 122) = false) → True := fun _ _ _ => trivial
  clear key
  by_cases h1 : 48 ≤ z
  · have e1 : decide ((z : Int) ≥ 48) = true := decide_eq_true (by omega)
    by_cases h2 : z ≤ 57
    · have e2 : decide ((z : Int) ≤ 57) = true := decide_eq_true (by omega)
      have d1 : decide ((z : Int) ≥ 97) = false := decide_eq_false (by omega)
      go_wp2
      go_ret
      exact ⟨ret_bool (by rw [HR.out, decide_eq_true (show 48 ≤ z ∧ z ≤ 57 from ⟨h1, h2⟩)]; rfl), rfl⟩
    · have e2 : decide ((z : Int) ≤ 57) = false := decide_eq_false (by omega)
      by_cases h3 : 97 ≤ z
      · have d1 : decide ((z : Int) ≥ 97) = true := decide_eq_true (by omega)
        have d2 : decide ((z : Int) ≤ 122) = false := decide_eq_false (by omega)
        go_wp2
        go_ret
        exact ⟨ret_bool (by rw [HR.out, decide_eq_false (show ¬ (48 ≤ z ∧ z ≤ 57) from fun h => h2 h.2)]; simp), rfl⟩
      · have d1 : decide ((z : Int) ≥ 97) = false := decide_eq_false (by omega)
        go_wp2
        go_ret
        exact ⟨ret_bool (by rw [HR.out, decide_eq_false (show ¬ (48 ≤ z ∧ z ≤ 57) from fun h => h2 h.2)]; simp), rfl⟩
  · have e1 : decide ((z : Int) ≥ 48) = false := decide_eq_false (by omega)
    have d1 : decide ((z : Int) ≥ 97) = false := decide_eq_false (by omega)
    go_wp2
    go_ret
    exact ⟨ret_bool (by rw [HR.out, decide_eq_false (show ¬ (48 ≤ z ∧ z ≤ 57) from fun h => h1 h.1)]; simp), rfl⟩
def wordsL : List UInt8 := [97, 108, 108, 32, 97, 110, 121, 32, 114, 101, 112, 111, 114, 116, 101, 114, 115, 32, 100, 101, 112, 97, 114, 116, 109, 101, 110, 116, 115, 32, 121, 101, 97, 114, 115, 32, 119, 105, 116, 104, 105, 110, 32, 110, 111, 116, 102, 105, 114, 115, 116, 32, 115, 97, 121, 115, 32, 97, 108, 119, 97, 121, 115, 32, 111, 102]
theorem words_fields : Lib.fields wordsL = resv := by decide +kernel
theorem words_ascii : ∀ (j : Nat) b, wordsL[j]? = some b → b.toNat < 128 := by
  have h : ∀ b ∈ wordsL, b.toNat < 128 := by decide
  intro j b hb
  exact h b (List.mem_of_getElem? hb)
/-- the language's words, cut apart -/
theorem words_walk (w : World) (hS : Spc w) :
    Calls Tryz.prog 141 #[.string ⟨#[97, 108, 108, 32, 97, 110, 121, 32, 114, 101, 112, 111, 114, 116, 101, 114, 115, 32, 100, 101, 112, 97, 114, 116, 109, 101, 110, 116, 115, 32, 121, 101, 97, 114, 115, 32, 119, 105, 116, 104, 105, 110, 32, 110, 111, 116, 102, 105, 114, 115, 116, 32, 115, 97, 121, 115, 32, 97, 108, 119, 97, 121, 115, 32, 111, 102]⟩] w fun e w' => ∃ g, e = .returned (.slice (some ⟨g, 0, none⟩) 10 10) ∧ Rd w' (some ⟨g, 0, none⟩) (strs resv) ∧ Below w.heap.size w w' := by
  have h := Tryz.strings_Fields ⟨wordsL.toArray⟩ w (by decide) words_ascii hS
  refine h.mono ?_
  rintro e w' ⟨rfl, rfl⟩
  have e1 : Lib.fields (ByteArray.mk wordsL.toArray).data.toList = resv := words_fields
  rw [e1]
  refine ⟨_, rfl, ?_, (Below.refl _ _).alloc (Nat.le_refl _) _⟩
  exact Rd.mk fun j u hj => by rw [Nat.zero_add, World.cell?_alloc_at _ _ _ _ rfl]; simpa [strs] using hj
theorem resv_mem {s : List UInt8} {k : Nat} {x : List UInt8} (h : Hid (resv[k]? = some x)) (e : x = s) : s ∈ resv := e ▸ List.mem_of_getElem? h.out
set_option maxRecDepth 100000 in
set_option maxHeartbeats 2000000 in
theorem rname_walk (s : List UInt8) (w : World) (hs : s.length ≤ 281474976710656) (hS : Spc w) :
    Calls Tryz.prog 134 #[.string ⟨s.toArray⟩] w fun e w' => e = .returned (.bool (nameF s)) ∧ Below w.heap.size w w' := by
  have KI := Lib.hid (fun j V => inner_walk (bt s j) (bt_lt s j) V)
  have KF := Lib.hid (words_walk w hS)
  have HE : Hid (nameF s = ((decide (1 ≤ s.length) && decide (s.length ≤ 32)) && (letN (bt s 0) && (!(decide (s ∈ resv)) && s.all fun c => inwN c.toNat)))) := Lib.hid rfl
  have HL : Hid (letN (bt s 0) = decide (97 ≤ bt s 0 ∧ bt s 0 ≤ 122)) := Lib.hid rfl
  generalize nameF s = R at *
  clear hS
  go_enter Tryz.func134, Tryz.ntmps134
  by_cases h1 : 1 ≤ s.length
  rotate_left
  · have c1 : decide ((s.length : Int) < 1) = true := decide_eq_true (by omega)
    have c2 : decide (s.length < 1) = true := decide_eq_true (by omega)
    have HR : Hid (R = false) := Lib.hid (by rw [HE.out, decide_eq_false h1]; rfl)
    clear HE
    go_wp2
    go_ret
    exact ⟨ret_bool HR.out.symm, Below.refl _ _⟩
  have c1 : decide ((s.length : Int) < 1) = false := decide_eq_false (by omega)
  have c2 : decide (s.length < 1) = false := decide_eq_false (by omega)
  by_cases h32 : s.length ≤ 32
  rotate_left
  · have d1 : decide ((s.length : Int) > 32) = true := decide_eq_true (by omega)
    have d2 : decide (32 < s.length) = true := decide_eq_true (by omega)
    have HR : Hid (R = false) := Lib.hid (by rw [HE.out, decide_eq_false h32]; simp)
    clear HE
    go_wp2
    go_ret
    exact ⟨ret_bool HR.out.symm, Below.refl _ _⟩
  have d1 : decide ((s.length : Int) > 32) = false := decide_eq_false (by omega)
  have d2 : decide (32 < s.length) = false := decide_eq_false (by omega)
  by_cases ha : 97 ≤ bt s 0
  rotate_left
  · have f1 : decide ((bt s 0 : Int) < 97) = true := decide_eq_true (by omega)
    have f2 : decide (bt s 0 < 97) = true := decide_eq_true (by omega)
    have HR : Hid (R = false) := Lib.hid (by rw [HE.out, HL.out, decide_eq_false (show ¬ (97 ≤ bt s 0 ∧ bt s 0 ≤ 122) from fun h => ha h.1)]; simp)
    clear HE
    go_wp2
    go_ret
    exact ⟨ret_bool HR.out.symm, Below.refl _ _⟩
  have f1 : decide ((bt s 0 : Int) < 97) = false := decide_eq_false (by omega)
  have f2 : decide (bt s 0 < 97) = false := decide_eq_false (by omega)
  by_cases hz : bt s 0 ≤ 122
  rotate_left
  · have f3 : decide ((bt s 0 : Int) > 122) = true := decide_eq_true (by omega)
    have f4 : decide (122 < bt s 0) = true := decide_eq_true (by omega)
    have HR : Hid (R = false) := Lib.hid (by rw [HE.out, HL.out, decide_eq_false (show ¬ (97 ≤ bt s 0 ∧ bt s 0 ≤ 122) from fun h => hz h.2)]; simp)
    clear HE
    go_wp2
    go_ret
    exact ⟨ret_bool HR.out.symm, Below.refl _ _⟩
  have f3 : decide ((bt s 0 : Int) > 122) = false := decide_eq_false (by omega)
  have f4 : decide (122 < bt s 0) = false := decide_eq_false (by omega)
  replace HE : Hid (R = (!(decide (s ∈ resv)) && s.all fun c => inwN c.toNat)) := Lib.hid (by rw [HE.out, HL.out, decide_eq_true (show 97 ≤ bt s 0 ∧ bt s 0 ≤ 122 from ⟨ha, hz⟩), decide_eq_true h1, decide_eq_true h32]; simp)
  clear ha hz HL h32
  go_wp2_with fail
  go_loopw [26] (fun i wr => ∃ k : Nat, wr = w ∧ k ≤ s.length ∧ i = .int .i64 (k : Int) ∧ Hid (∀ j, j < k → inwN (bt s j) = true)) (fun i _ => s.length - (intOf i).toNat)
  case atStart => exact ⟨0, rfl, Nat.zero_le _, rfl, Lib.hid (fun j h => by omega)⟩
  case round =>
    obtain ⟨k, rfl, hk, rfl, hA⟩ := hrel
    by_cases hkt : k < s.length
    · have hkl : (k : Int) < (s.length : Int) := by omega
      have K1 := Lib.hid (KI.out k wr)
      cases hz : inwN (bt s k) with
      | false =>
        rw [hz] at K1
        have HF : Hid (R = false) := Lib.hid (by
          rw [HE.out, show (s.all fun c => inwN c.toNat) = false by
            rw [Bool.eq_false_iff]
            intro h
            have := (all_bt s inwN).1 h k hkt
            rw [hz] at this; cases this]
          simp)
        clear hz hA HE
        go_wp2_with (go_at_call 140; (with_reducible refine K1.out.mono ?_); (try rintro e w1 ⟨rfl, rfl⟩))
        go_ret
        exact ⟨ret_bool HF.out.symm, Below.refl _ _⟩
      | true =>
        rw [hz] at K1
        have HT : Hid (∀ j, j < k + 1 → inwN (bt s j) = true) := Lib.hid (fun j hj => by
          by_cases e : j = k
          · subst e; exact hz
          · exact hA.out j (by omega))
        clear hz hA
        go_wp2_with (go_at_call 140; (with_reducible refine K1.out.mono ?_); (try rintro e w1 ⟨rfl, rfl⟩))
        go_roundw
        case rel => exact ⟨k + 1, trivial, by omega, by go_num, HT⟩
        case measure => simp [intOf]; omega
    · have hkl : ¬ (k : Int) < (s.length : Int) := by omega
      obtain rfl : k = s.length := by omega
      replace HE : Hid (R = !(decide (s ∈ resv))) := Lib.hid (by rw [HE.out, (all_bt s inwN).2 hA.out]; simp)
      clear hA KI c1 c2 d1 d2 f1 f2 f3 f4
      go_wp2_with (go_at_call 141; (with_reducible refine KF.out.mono ?_); (first | rintro e w2 ⟨gf, rfl, hr, hb⟩ | rintro e w2 gf rfl hr hb))
      go_loopw [37] (fun i wx => ∃ k : Nat, wx = w2 ∧ k ≤ 10 ∧ i = .int .i64 (k : Int) ∧ Hid (s ∉ resv.take k)) (fun i _ => 10 - (intOf i).toNat)
      case atStart => exact ⟨0, rfl, Nat.zero_le _, rfl, Lib.hid (by simp)⟩
      case round =>
        obtain ⟨k, rfl, hk, rfl, hA⟩ := hrel
        by_cases hkt : k < 10
        · obtain ⟨gx, off, y, hg, hc, hx⟩ := hr.str (k := k) hkt
          cases hg
          rw [Nat.zero_add] at hc
          have hkl : (k : Int) < 10 := by omega
          by_cases hxy : y = s
          · have HF : Hid (R = false) := Lib.hid (by rw [HE.out, decide_eq_true (resv_mem hx hxy)]; rfl)
            have hyy : (y == s) = true := beq_iff_eq.2 hxy
            clear hA hx hr hxy HE
            go_wp2
            go_ret
            exact ⟨ret_bool HF.out.symm, hb⟩
          · have hyb : (y == s) = false := by rw [beq_eq_false_iff_ne]; exact hxy
            have HT : Hid (s ∉ resv.take (k + 1)) := Lib.hid (fun h => by
              rw [take_at hx] at h
              rcases List.mem_append.1 h with h | h
              · exact hA.out h
              · simp at h; exact hxy h.symm)
            clear hA hx hr hxy
            go_wp2
            go_roundw
            case rel => exact ⟨k + 1, trivial, by omega, by go_num, HT⟩
            case measure => simp [intOf]; omega
        · have hkl : ¬ (k : Int) < 10 := by omega
          obtain rfl : k = 10 := by omega
          have HT : Hid (R = true) := Lib.hid (by
            have h2 : s ∉ resv := by have := hA.out; rwa [show resv.take 10 = resv from rfl] at this
            rw [HE.out, decide_eq_false h2]; rfl)
          clear hA HE hr
          go_wp2
          go_ret
          exact ⟨ret_bool HT.out.symm, hb⟩
end Go.Proofs.YtpofijdkckaphaaGreatDoor
