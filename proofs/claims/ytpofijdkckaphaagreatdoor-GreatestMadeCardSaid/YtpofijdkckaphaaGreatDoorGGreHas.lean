/- law28: ref28.Has; what the laws begin with. -/
import Derived.Test.YtpofijdkckaphaaGreatDoorGPlyE
import Derived.Test.YtpofijdkckaphaaGreatDoorGGreX
import Derived.Test.YtpofijdkckaphaaGreatDoorGCndRD
namespace Go.Proofs.YtpofijdkckaphaaGreatDoor
open Go.RowKit
set_option maxRecDepth 100000 in
set_option maxHeartbeats 2000000 in
theorem rhas_walk (a : Option Addr) (l : List Int) (cap : Nat) (x : Int) (w : World) (hR : Rd w a (ints l)) (hl : l.length ≤ 281474976710656) :
    Calls Tryz.prog 14 #[.slice a l.length cap, .int .i64 x] w fun e w' => e = .returned (.bool (decide (x ∈ l))) ∧ w = w' := by
  go_enter Tryz.func14, Tryz.ntmps14
  go_wp2_with fail
  go_loopw [5] (fun i wr => ∃ k : Nat, wr = w ∧ k ≤ l.length ∧ i = .int .i64 (k : Int) ∧ Hid (x ∉ l.take k)) (fun i _ => l.length - (intOf i).toNat)
  case atStart => exact ⟨0, rfl, Nat.zero_le _, rfl, Lib.hid (by simp)⟩
  case round =>
    obtain ⟨k, rfl, hk, rfl, hA⟩ := hrel
    by_cases hkt : k < l.length
    · obtain ⟨gx, off, y, rfl, hc, hx⟩ := hR.int (k := k) hkt
      have hkl : (k : Int) < (l.length : Int) := by omega
      by_cases hxy : y = x
      · subst hxy
        have hb : (y == y) = true := beq_self_eq_true y
        have hm := Lib.hid (decide_eq_true (mem_at hx))
        clear hA hx hR
        go_wp2
        go_ret
        exact ⟨by rw [hm.out]; rfl, rfl⟩
      · have hb : (y == x) = false := by rw [beq_eq_false_iff_ne]; exact hxy
        have HT : Hid (x ∉ l.take (k + 1)) := Lib.hid (fun h => by
          rw [take_at hx] at h
          rcases List.mem_append.1 h with h | h
          · exact hA.out h
          · simp at h; exact hxy h.symm)
        clear hA hx hR hxy
        go_wp2
        go_roundw
        case rel => exact ⟨k + 1, trivial, by omega, by go_num, HT⟩
        case measure => simp [intOf]; omega
    · have hkl : ¬ (k : Int) < (l.length : Int) := by omega
      obtain rfl : k = l.length := by omega
      have HM := Lib.hid (decide_eq_false (by have := hA.out; rwa [List.take_length] at this : x ∉ l))
      clear hA
      go_wp2
      go_ret
      exact ⟨by rw [HM.out]; rfl, rfl⟩
theorem Ss.rdS {W w0 w : World} {db : Nat} {p : Option Addr} {l : List Int} {cap : Nat} {a : Option Addr} {n c : Nat} {L : List Seat} {m : Nat} (h : Ss W w0 w db p l cap a n c L m) : RdS w a L := rdS_mk h.o.rd h.ok
theorem Dc.first {W w : World} {p : Option Addr} {l : List Int} {cap : Nat} (hD : Dice w W.heap.size p l cap 0) (hR : Rd W p (ints l)) (hb : Below W.heap.size W w) (hl : l.length ≤ 281474976710656) : Dc W w W.heap.size p l cap :=
  ⟨⟨0, hD, hR.keep hb, hb⟩, Nat.le_refl _, hR, hl⟩
theorem setP_len (op : Int → Bool) (H : List Int → Int → Bool) (n : Nat) : (setP op H n).length ≤ n := by
  have := (set_sub op H n).length_le
  rwa [upI_len] at this
end Go.Proofs.YtpofijdkckaphaaGreatDoor
/- law28: whether a set opens itself (the law's own opens). -/
namespace Go.Proofs.YtpofijdkckaphaaGreatDoor
open Go.RowKit
/-- none of a set goes -/
def StayS (l : List Seat) (S : List Int) : Prop := ∀ i ∈ S, opS l i = true ∨ holdS wiF l S i = true
theorem hold_at {l : List Seat} {x : Seat} {k : Nat} (h : l[k]? = some x) (S : List Int) : holdS wiF l S (k : Int) = termF wiF x.T 0 (S.map (memS l)) (idxS S (k : Int)) := by
  unfold holdS
  rw [Int.toNat_natCast, h]
theorem elMm : ElemOf Tryz.prog 72 39 (.agg #[.string ByteArray.empty, .int .i64 0, .int .i64 0, .int .i64 0, .slice none 0 0]) 5 64 := ⟨Tryz.underlying72, by kernel_rfl, rfl, by decide, by decide⟩
/-- the members of a set, read -/
theorem rdM_set {w0 w : World} {a : Option Addr} {l : List Seat} (hS : RdS w0 a l) {S : List Int} (hin : ∀ i ∈ S, i ∈ upI l.length) {base : Nat} {am : Option Addr} {n cm : Nat} (hO : Ow w base 5 am n cm (rowsC mmC (S.map (memS l)))) (hb : Below w0.heap.size w0 w) : RdM w am (S.map (memS l)) := by
  have key : ∀ m ∈ S.map (memS l), ∃ x ∈ l, m = x.mem := fun m hm => by
    obtain ⟨i, hi, rfl⟩ := List.mem_map.1 hm
    have hiu := mem_upI.1 (hin i hi)
    have hl : i.toNat < l.length := by omega
    refine ⟨l[i.toNat], List.getElem_mem hl, ?_⟩
    unfold memS
    rw [List.getElem?_eq_getElem hl]
  refine ⟨hO.rd, fun m hm => ?_, fun m hm => ?_⟩
  · obtain ⟨x, hx, rfl⟩ := key m hm
    exact (hS.ans x hx).keep hb
  · obtain ⟨x, hx, rfl⟩ := key m hm
    exact hS.ok x hx
set_option maxRecDepth 100000 in
set_option maxHeartbeats 8000000 in
theorem lopens_walk (l : List Seat) (a : Option Addr) (c : Nat) (S : List Int) (sa : Option Addr) (sc : Nat) (w : World) (hS : RdS w a l) (hA : Rd w sa (ints S)) (hin : ∀ i ∈ S, i ∈ upI l.length) (hasc : S.Pairwise (· < ·)) (hl : l.length ≤ 1000) (hsl : S.length ≤ 1000) (hSpc : Spc w) :
    Calls Tryz.prog 13 #[.slice a l.length c, .slice sa S.length sc] w fun e w' => ∃ b, e = .returned (.bool b) ∧ (b = true → StayS l S) ∧ Below w.heap.size w w' := by
  have HS := Lib.hid hS
  have HA := Lib.hid hA
  have HD := Lib.hid hin
  have HAsc := Lib.hid hasc
  have HSpc := Lib.hid hSpc
  clear hS hA hin hasc hSpc
  go_enter Tryz.func13, Tryz.ntmps13
  go_wp2_with fail
  go_loopw [5, 6] (fun v i wr => ∃ (k : Nat) (am : Option Addr) (cm : Nat), k ≤ S.length ∧ i = .int .i64 (k : Int) ∧ v = .slice am k cm ∧ Ow wr w.heap.size 5 am k cm (rowsC mmC ((S.take k).map (memS l))) ∧ Below w.heap.size w wr) (fun _ i _ => S.length - (intOf i).toNat)
  case atStart => exact ⟨0, none, 0, by omega, rfl, rfl, Ow.nil _ _ _, Below.refl _ _⟩
  case round =>
    obtain ⟨k, am, cm, hk, rfl, rfl, hO, hB⟩ := hrel
    by_cases hkt : k < S.length
    · have hkl : (k : Int) < (S.length : Int) := by omega
      have hwk : IntKind.i64.wrap ((k : Int) + 1) = (k : Int) + 1 := by rw [IntKind.wrap_i64] <;> omega
      obtain ⟨ga, offa, i, rfl, ca, hi⟩ := (HA.out.keep hB).int (k := k) hkt
      have hiu := mem_upI.1 (HD.out i (mem_at hi))
      obtain ⟨n, rfl⟩ : ∃ n : Nat, i = (n : Int) := ⟨i.toNat, by omega⟩
      have hn : n < l.length := by omega
      have hnl : (n : Int) < (l.length : Int) := by omega
      obtain ⟨gl, ol, x, rfl, hx, d0, d1, d2, d3, d4, -, -⟩ := (HS.out.keep hB).seat hn
      have HR3 : Hid (rowsC mmC ((S.take (k + 1)).map (memS l)) = rowsC mmC ((S.take k).map (memS l)) ++ [.string ⟨x.mem.person.toArray⟩, .int .i64 x.mem.number, .int .i64 x.mem.dept, .int .i64 x.mem.day, .slice x.mem.aa x.mem.ans.length x.mem.ac]) := Lib.hid (by
        rw [take_at hi, List.map_append, rowsC_append, List.map_singleton, rowsC_single, memS_at hx.out]; rfl)
      have hsz := hB.size
      clear hi hx hiu
      go_wp2_with (at_builtin; refine wpList_app1 (w0 := w) (B := w.heap.size) (base := w.heap.size) rfl _ _ _ rfl elMm rfl hO hB (Nat.le_refl _) hsz (cs := [.string ⟨x.mem.person.toArray⟩, .int .i64 x.mem.number, .int .i64 x.mem.dept, .int .i64 x.mem.day, .slice x.mem.aa x.mem.ans.length x.mem.ac]) rfl rfl (by intro u hu; simp at hu; rcases hu with rfl | rfl | rfl | rfl | rfl <;> rfl) (by omega) ?_; intro a5 c5 w8 hO5 hb5 hg5; clear hg5)
      rw [← HR3.out] at hO5
      clear ca d0 d1 d2 d3 d4 hO hB
      have HO5 := Lib.hid hO5
      have HB5 := Lib.hid hb5
      clear hO5 hb5
      go_roundw
      case rel => exact ⟨k + 1, a5, c5, by omega, by go_num, rfl, HO5.out, HB5.out⟩
      case measure => simp [intOf]; omega
    · have hkl : ¬ (k : Int) < (S.length : Int) := by omega
      obtain rfl : k = S.length := by omega
      rw [List.take_length] at hO
      have hRM := rdM_set HS.out HD.out hO hB
      have HRM := Lib.hid hRM
      have HBm := Lib.hid hB
      clear hO hB hRM
      rename World => wm
      go_upto_region 7 with (fail)
      go_loopw [7] (fun i wr => ∃ k : Nat, wr = wm ∧ k ≤ l.length ∧ i = .int .i64 (k : Int)) (fun i _ => l.length - (intOf i).toNat)
      case atStart => exact ⟨0, rfl, Nat.zero_le _, rfl⟩
      case round =>
        obtain ⟨k, rfl, hk, rfl⟩ := hrel
        by_cases hkt : k < l.length
        · have hkl : (k : Int) < (l.length : Int) := by omega
          have hwk : IntKind.i64.wrap ((k : Int) + 1) = (k : Int) + 1 := by rw [IntKind.wrap_i64] <;> omega
          obtain ⟨gl, ol, x, rfl, -, -, -, -, -, -, -, d6⟩ := (HS.out.keep HBm.out).seat hkt
          have KH := Lib.hid (rhas_walk sa S sc (k : Int) wr (HA.out.keep HBm.out) (by omega))
          generalize x.opn = oo at *
          generalize decide ((k : Int) ∈ S) = ii at *
          cases oo
          · go_wp2
            go_roundw
            case rel => exact ⟨k + 1, trivial, by omega, by go_num⟩
            case measure => simp [intOf]; omega
          · cases ii
            · go_wp2_with (go_at_call 14; (with_reducible refine KH.out.mono ?_); (first | rintro e w9 ⟨rfl, rfl⟩ | rintro e w9 rfl rfl))
              go_ret
              exact ⟨false, rfl, (fun h => by cases h), HBm.out⟩
            · go_wp2_with (go_at_call 14; (with_reducible refine KH.out.mono ?_); (first | rintro e w9 ⟨rfl, rfl⟩ | rintro e w9 rfl rfl))
              go_roundw
              case rel => exact ⟨k + 1, trivial, by omega, by go_num⟩
              case measure => simp [intOf]; omega
        · have hkl : ¬ (k : Int) < (l.length : Int) := by omega
          obtain rfl : k = l.length := by omega
          go_upto_region 12 with (fail)
          rename World => wq
          go_loopw [8] (fun i wx => ∃ k : Nat, k ≤ S.length ∧ i = .int .i64 (k : Int) ∧ Hid (∀ i ∈ S.take k, opS l i = true ∨ holdS wiF l S i = true) ∧ Below wq.heap.size wq wx) (fun i _ => S.length - (intOf i).toNat)
          case atStart => exact ⟨0, Nat.zero_le _, rfl, Lib.hid (fun i hi => by simp at hi), Below.refl _ _⟩
          case round =>
            obtain ⟨k, hk, rfl, hT, hb⟩ := hrel
            have hB := below_tr HBm.out hb
            by_cases hkt : k < S.length
            · have hkl : (k : Int) < (S.length : Int) := by omega
              have hwk : IntKind.i64.wrap ((k : Int) + 1) = (k : Int) + 1 := by rw [IntKind.wrap_i64] <;> omega
              obtain ⟨ga, offa, i, rfl, ca, hi⟩ := (HA.out.keep hB).int (k := k) hkt
              have hiu := mem_upI.1 (HD.out i (mem_at hi))
              obtain ⟨n, rfl⟩ : ∃ n : Nat, i = (n : Int) := ⟨i.toNat, by omega⟩
              have hn : n < l.length := by omega
              have hnl : (n : Int) < (l.length : Int) := by omega
              obtain ⟨gl, ol, x, hgl, hx, -, -, -, -, -, d5, d6⟩ := (HS.out.keep hB).seat hn
              cases hgl
              have hxm := mem_at hx
              have htl := HS.out.tl x hxm
              have hml : (S.map (memS l)).length = S.length := List.length_map _
              have KH := rcholds_walk x.T x.ca x.cc (S.map (memS l)) am cm (k : Int) wr ((HS.out.keep hB).cnd x hxm) (HRM.out.keep hb) htl (by omega) (HSpc.out.keep hB)
              rw [hml] at KH
              have KHH := Lib.hid KH
              have hop := opS_at hx.out
              have hho : holdS wiF l S (n : Int) = termF wiF x.T 0 (S.map (memS l)) (k : Int) := by rw [hold_at hx.out, idx_at HAsc.out hi.out]
              have hyes : (opS l (n : Int) = true ∨ holdS wiF l S (n : Int) = true) → ∀ i ∈ S.take (k + 1), opS l i = true ∨ holdS wiF l S i = true := fun h y hy => by
                rw [take_at hi] at hy
                rcases List.mem_append.1 hy with hy | hy
                · exact hT.out y hy
                · rw [List.mem_singleton.1 hy]; exact h
              rw [hop, hho] at hyes
              have HB := Lib.hid hB
              have Hb := Lib.hid hb
              clear KH hi hx hxm hop hho hT hB hb hiu
              generalize termF wiF x.T 0 (S.map (memS l)) (k : Int) = hh at *
              generalize x.opn = oo at *
              cases oo
              · cases hh
                · clear hyes
                  go_wp2_with (go_at_call 37; (with_reducible refine KHH.out.mono ?_); (first | rintro e w9 ⟨rfl, hb9⟩ | rintro e w9 rfl hb9))
                  go_ret
                  exact ⟨false, rfl, (fun h => by cases h), below_tr HB.out hb9⟩
                · have HY := Lib.hid (hyes (.inr rfl))
                  clear hyes
                  go_wp2_with (go_at_call 37; (with_reducible refine KHH.out.mono ?_); (first | rintro e w9 ⟨rfl, hb9⟩ | rintro e w9 rfl hb9))
                  go_roundw
                  case rel => exact ⟨k + 1, by omega, by go_num, HY, below_tr Hb.out hb9⟩
                  case measure => simp [intOf]; omega
              · have HY := Lib.hid (hyes (.inl rfl))
                clear hyes
                go_wp2
                go_roundw
                case rel => exact ⟨k + 1, by omega, by go_num, HY, Hb.out⟩
                case measure => simp [intOf]; omega
            · have hkl : ¬ (k : Int) < (S.length : Int) := by omega
              obtain rfl : k = S.length := by omega
              have HT : Hid (StayS l S) := Lib.hid (by have := hT.out; rw [List.take_length] at this; exact this)
              have HB := Lib.hid hB
              clear hT hB hb
              go_wp2
              go_ret
              exact .inr ⟨rfl, HT.out, HB.out⟩
end Go.Proofs.YtpofijdkckaphaaGreatDoor
