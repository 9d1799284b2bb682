/- Strings of elements of some bytes each. -/
import Derived.Test.YtpbhendndelonaaDoorPackB
namespace Go.Proofs.YtpbhendndelonaaDoor
open Go.RowKit
theorem bytesN_get (n : Nat) : ∀ m r, r < m → (bytesN n m)[r]? = some (UInt8.ofNat (n / 256 ^ (m - 1 - r)))
  | 0, r, h => by omega
  | m + 1, 0, _ => by simp [bytesN]
  | m + 1, r + 1, h => by
    rw [bytesN, List.getElem?_cons_succ, bytesN_get n m r (by omega)]
    rw [show m + 1 - 1 - (r + 1) = m - 1 - r by omega]
theorem byte_shift (n z : Nat) : (n : Int) / 2 ^ (8 * z) % 256 = ((UInt8.ofNat (n / 256 ^ z)).toNat : Int) := by
  have h : ((UInt8.ofNat (n / 256 ^ z)).toNat : Int) = ((n / 256 ^ z % 256 : Nat) : Int) := by simp
  rw [h, show (256 : Nat) ^ z = 2 ^ (8 * z) by rw [show (256 : Nat) = 2 ^ 8 from rfl, ← Nat.pow_mul], Int.natCast_emod, Int.natCast_ediv, Int.natCast_pow]
  rfl
/-- what byBytes returns -/
def ubRes : Option (List UInt8) → Value
  | some o => .tuple #[.string ⟨o.toArray⟩, .bool true]
  | none => .tuple #[.string ⟨#[]⟩, .bool false]
set_option maxRecDepth 100000 in
theorem byBytes_walk (p : Option Addr) (l : List Nat) (cap0 : Nat) (len k : Nat) (w : World) (hR : Rd w p (ints (l.map Int.ofNat))) (hx : ∀ x ∈ l, x < 1073741824) (hl : l.length ≤ 2048) (hlen : len ≤ 6144) (hk1 : 1 ≤ k) (hk3 : k ≤ 3) :
    Calls Tryd.prog 25 #[.slice p l.length cap0, .int .i64 (len : Int), .int .i64 (k : Int)] w fun e w' => e = .returned (ubRes (ubF k len (l.map Int.ofNat) [])) ∧ Below w.heap.size w w' := by
  go_enter Tryd.func25, Tryd.ntmps25
  go_wp2
  go_loopw [8, 10, 11, 12, 15] (fun v _ _ _ i wr => ∃ (j : Nat) (out : List UInt8) (a : Option Addr) (cap : Nat), j ≤ l.length ∧ i = .int .i64 (j : Int) ∧ v = .slice a out.length cap ∧ out.length ≤ len ∧ ubF k len ((l.map Int.ofNat).drop j) out = ubF k len (l.map Int.ofNat) [] ∧ Ow wr w.heap.size 1 a out.length cap (u8s out) ∧ Below w.heap.size w wr) (fun _ _ _ _ i _ => l.length - (intOf i).toNat)
  case atStart => exact ⟨0, [], none, 0, by omega, rfl, rfl, by simp, rfl, Ow.nil _ _ _, Below.refl _ _⟩
  case round =>
    obtain ⟨j, out, sa, cap, hj, rfl, rfl, hol, hu, hown, hbel⟩ := hrel
    have HU := Lib.hid hu
    clear hu
    by_cases hjt : j < l.length
    · obtain ⟨g, off, y, rfl, hcell, hy⟩ := (hR.keep hbel).int (k := j) (by simpa using hjt)
      have hdr := drop_at hy
      obtain ⟨x, rfl, hxm⟩ : ∃ x : Nat, y = (x : Int) ∧ x ∈ l := by
        have := mem_at hy
        obtain ⟨x, hx1, hx2⟩ := List.mem_map.1 this
        exact ⟨x, hx2.symm, hx1⟩
      have hx30 := hx x hxm
      obtain ⟨d, hd⟩ : ∃ d, d = len - out.length := ⟨_, rfl⟩
      have hdi : (len : Int) - (out.length : Int) = (d : Int) := by omega
      rcases Nat.lt_or_ge d k with hdk | hdk
      · have hmm : min k (len - out.length) = d := by omega
        have hmi : min (k : Int) (d : Int) = (d : Int) := by omega
        obtain ⟨m, hm⟩ : ∃ m, m = d := ⟨_, rfl⟩
        have hol2 : out.length + m = len := by omega
        clear hd
        subst hm
        have hm3 : m ≤ 3 := by omega
        have hub := HU.out
        rw [hdr, ubF, hmm] at hub
        have hpw : (256 : Nat) ^ m = 2 ^ (8 * m) := by rw [show (256 : Nat) = 2 ^ 8 from rfl, ← Nat.pow_mul]
        by_cases hq : x / 256 ^ m = 0
        · have hqi : ((x : Int) / 2 ^ (8 * m) != 0) = false := by
            have : (x : Int) / 2 ^ (8 * m) = ((x / 256 ^ m : Nat) : Int) := by rw [hpw, Int.natCast_ediv, Int.natCast_pow]; rfl
            rw [this, hq]; rfl
          rw [if_neg (by simp [hq])] at hub
          have HN := Lib.hid hub
          clear hub HU hmm hdr hq
          go_wp2
          go_loopw [8, 12] (fun v i wr' => ∃ (r : Nat) (O : List UInt8) (a : Option Addr) (cap : Nat), r ≤ m ∧ i = .int .i64 ((m : Int) - 1 - (r : Int)) ∧ v = .slice a O.length cap ∧ O = out ++ (bytesN x m).take r ∧ Ow wr' w.heap.size 1 a O.length cap (u8s O) ∧ Below w.heap.size w wr') (fun _ i _ => (intOf i + 1).toNat)
          case atStart => exact ⟨0, out, sa, cap, by omega, by simp, rfl, by simp, hown, hbel⟩
          case round =>
            clear hown hbel hcell
            obtain ⟨r, O, sb, cbp, hr, rfl, rfl, hO, hown, hbel⟩ := hrel
            have hOl : O.length = out.length + r := by rw [hO]; simp [bytesN_length]; omega
            have hle2 : O.length ≤ 6150 := by omega
            have HO := Lib.hid hO
            have HOL := Lib.hid hOl
            clear hO hOl
            by_cases hrt : r < m
            · have h7 : (0 : Int) ≤ (m : Int) - 1 - (r : Int) := by omega
              obtain ⟨z, hz⟩ : ∃ z : Nat, (m : Int) - 1 - (r : Int) = (z : Int) := ⟨m - 1 - r, by omega⟩
              have HZ := Lib.hid (show z = m - 1 - r by omega)
              rw [hz]
              have hz3 : z < 3 := by omega
              go_wp2_with (at_builtin; refine wpList_app1 (w0 := w) (B := w.heap.size) rfl _ _ _ rfl elB rfl hown hbel (by omega) hbel.size (cs := [_]) rfl rfl (one1 rfl) (by omega) ?_)
              intro a2 cap2 w2 hown2 hbel2 _
              rw [u8s_snoc _ _ _ (byte_shift x z)] at hown2
              go_wp2
              go_roundw
              case rel => exact ⟨r + 1, O ++ [UInt8.ofNat (x / 256 ^ z)], a2, cap2, by omega, by rw [show ((m : Int) - 1 - ((r + 1 : Nat) : Int)) = (z : Int) - 1 by omega], by rw [List.length_append]; rfl, by rw [HO.out, List.take_add_one, bytesN_get x m r hrt, HZ.out]; simp, by rw [List.length_append]; exact hown2, hbel2⟩
              case measure => simp [intOf]
            · obtain rfl : r = m := by omega
              clear hrt
              go_wp2
              have hfin : O = out ++ bytesN x r := by rw [HO.out, List.take_of_length_le (by rw [bytesN_length]; omega)]
              refine ⟨⟨j + 1, O, sb, cbp, by omega, by go_num, rfl, by have := HOL.out; omega, ?_, hown, hbel⟩, ?_⟩
              · rw [hfin]; exact HN.out
              · simp [intOf]; omega
        · have hqi : ((x : Int) / 2 ^ (8 * m) != 0) = true := by
            have : (x : Int) / 2 ^ (8 * m) = ((x / 256 ^ m : Nat) : Int) := by rw [hpw, Int.natCast_ediv, Int.natCast_pow]; rfl
            rw [this, bne_iff_ne]; exact fun h => hq (Int.ofNat_inj.1 h)
          rw [if_pos (by simp [hq])] at hub
          have HN := Lib.hid hub
          clear hub HU hmm hdr hq
          go_wp2
          go_ret2
          exact ⟨by rw [← HN.out]; rfl, hbel⟩
      · have hmm : min k (len - out.length) = k := by omega
        have hmi : min (k : Int) (d : Int) = (k : Int) := by omega
        have hol2 : out.length + k ≤ len := by omega
        obtain ⟨m, hm⟩ : ∃ m, m = k := ⟨_, rfl⟩
        clear hd
        subst hm
        have hm3 : m ≤ 3 := by omega
        have hub := HU.out
        rw [hdr, ubF, hmm] at hub
        have hpw : (256 : Nat) ^ m = 2 ^ (8 * m) := by rw [show (256 : Nat) = 2 ^ 8 from rfl, ← Nat.pow_mul]
        by_cases hq : x / 256 ^ m = 0
        · have hqi : ((x : Int) / 2 ^ (8 * m) != 0) = false := by
            have : (x : Int) / 2 ^ (8 * m) = ((x / 256 ^ m : Nat) : Int) := by rw [hpw, Int.natCast_ediv, Int.natCast_pow]; rfl
            rw [this, hq]; rfl
          rw [if_neg (by simp [hq])] at hub
          have HN := Lib.hid hub
          clear hub HU hmm hdr hq
          go_wp2
          go_loopw [8, 12] (fun v i wr' => ∃ (r : Nat) (O : List UInt8) (a : Option Addr) (cap : Nat), r ≤ m ∧ i = .int .i64 ((m : Int) - 1 - (r : Int)) ∧ v = .slice a O.length cap ∧ O = out ++ (bytesN x m).take r ∧ Ow wr' w.heap.size 1 a O.length cap (u8s O) ∧ Below w.heap.size w wr') (fun _ i _ => (intOf i + 1).toNat)
          case atStart => exact ⟨0, out, sa, cap, by omega, by simp, rfl, by simp, hown, hbel⟩
          case round =>
            clear hown hbel hcell
            obtain ⟨r, O, sb, cbp, hr, rfl, rfl, hO, hown, hbel⟩ := hrel
            have hOl : O.length = out.length + r := by rw [hO]; simp [bytesN_length]; omega
            have hle2 : O.length ≤ 6150 := by omega
            have HO := Lib.hid hO
            have HOL := Lib.hid hOl
            clear hO hOl
            by_cases hrt : r < m
            · have h7 : (0 : Int) ≤ (m : Int) - 1 - (r : Int) := by omega
              obtain ⟨z, hz⟩ : ∃ z : Nat, (m : Int) - 1 - (r : Int) = (z : Int) := ⟨m - 1 - r, by omega⟩
              have HZ := Lib.hid (show z = m - 1 - r by omega)
              rw [hz]
              have hz3 : z < 3 := by omega
              go_wp2_with (at_builtin; refine wpList_app1 (w0 := w) (B := w.heap.size) rfl _ _ _ rfl elB rfl hown hbel (by omega) hbel.size (cs := [_]) rfl rfl (one1 rfl) (by omega) ?_)
              intro a2 cap2 w2 hown2 hbel2 _
              rw [u8s_snoc _ _ _ (byte_shift x z)] at hown2
              go_wp2
              go_roundw
              case rel => exact ⟨r + 1, O ++ [UInt8.ofNat (x / 256 ^ z)], a2, cap2, by omega, by rw [show ((m : Int) - 1 - ((r + 1 : Nat) : Int)) = (z : Int) - 1 by omega], by rw [List.length_append]; rfl, by rw [HO.out, List.take_add_one, bytesN_get x m r hrt, HZ.out]; simp, by rw [List.length_append]; exact hown2, hbel2⟩
              case measure => simp [intOf]
            · obtain rfl : r = m := by omega
              clear hrt
              go_wp2
              have hfin : O = out ++ bytesN x r := by rw [HO.out, List.take_of_length_le (by rw [bytesN_length]; omega)]
              refine ⟨⟨j + 1, O, sb, cbp, by omega, by go_num, rfl, by have := HOL.out; omega, ?_, hown, hbel⟩, ?_⟩
              · rw [hfin]; exact HN.out
              · simp [intOf]; omega
        · have hqi : ((x : Int) / 2 ^ (8 * m) != 0) = true := by
            have : (x : Int) / 2 ^ (8 * m) = ((x / 256 ^ m : Nat) : Int) := by rw [hpw, Int.natCast_ediv, Int.natCast_pow]; rfl
            rw [this, bne_iff_ne]; exact fun h => hq (Int.ofNat_inj.1 h)
          rw [if_pos (by simp [hq])] at hub
          have HN := Lib.hid hub
          clear hub HU hmm hdr hq
          go_wp2
          go_ret2
          exact ⟨by rw [← HN.out]; rfl, hbel⟩
    · obtain rfl : j = l.length := by omega
      have hub := HU.out
      rw [List.drop_eq_nil_of_le (by simp), ubF] at hub
      have HN := Lib.hid hub
      have hcv := run_bytes_str (P := Tryd.prog) wr 36 9 5 Tryd.underlying36 Tryd.underlying5 Tryd.underlying9 (n := out.length) (c := cap) rfl hown.rd
      clear hub HU
      go_wp2
      go_ret2
      exact ⟨by rw [← HN.out]; rfl, hbel⟩
end Go.Proofs.YtpbhendndelonaaDoor
