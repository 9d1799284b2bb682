/- The sum: the reference's. -/
import Derived.Test.YtnahkfchcminpaaGreatDoorGDigestB
import Derived.Test.YtnahkfchcminpaaGreatDoorGBuild
import Derived.Test.YtnahkfchcminpaaGreatDoorGDigestE
import Derived.StillTailTactics
namespace Go.Proofs.YtnahkfchcminpaaGreatDoor
open Go.RowKit
theorem run_store_agg {P : Program} (w : World) (g : Nat) (t : TypeId) (old : Array Value) (L : List Int) (hg : w.heap[g]? = some (.cells old t (0, 0))) (ho : old.size = L.length) :
    (storeCells ⟨g, 0, none⟩ (u32s L) 0).run P w = .ok () (w.setRow g (u32s L).toArray) := by
  have := run_storeCells_from (P := P) g t (u32s L) 0 old w hg (by rw [u32s_length]; omega) (u32s_one L)
  simpa using this
theorem Wd.new2 {w : World} {t1 t2 : TypeId} (Q : World → Prop) (A B : List Int)
    (h : ∀ w', Below w.heap.size w w' → Wd w' w.heap.size t1 A → Wd w' (w.heap.size + 1) t2 B → Q w') :
    Q ((w.alloc (.cells (u32s A).toArray t1)).alloc (.cells (u32s B).toArray t2)) := by
  refine Wd.new _ B fun w4 h4 d4 => ?_
  have a1 : Wd (w.alloc (.cells (u32s A).toArray t1)) w.heap.size t1 A := heap_alloc_new w _
  have b1 := (Below.refl w.heap.size w).alloc (Nat.le_refl _) (.cells (u32s A).toArray t1)
  exact h w4 (below_tr b1 h4) (a1.keep h4) (by simpa using d4)
/-- words stored over a block -/
theorem Wd.row {w : World} {g : Nat} {t : TypeId} {old : List Int} (Q : World → Prop) (L : List Int) (hg : Wd w g t old)
    (h : ∀ w', Wd w' g t L → w.grownBy w' (some g) → Q w') : Q (w.setRow g (u32s L).toArray) :=
  h _ (setRow_heap _ _ _ _ _ _ hg) ⟨rfl, rfl, rfl, by simp, fun k _ hk => setRow_other _ _ _ _ (fun e => hk (by rw [e]))⟩
theorem wpStill_load_row {P : Program} {ops : Array Oper} {w : World} {Q : Act → Prop} {a : Act} {o : Oper} {rest : List Oper} (hgd : o.guard = none) (ty : TypeId) (x : Operand) (ho : o.op = .load ty x)
    (g : Nat) (hx : a.eval x = .pointer (some ⟨g, 0, none⟩)) (t : TypeId) (cs : Array Value) (fr : Nat × Nat) (d : TypeDesc) (hg : w.heap[g]? = some (.cells cs t fr))
    (hu : P.underlying ty = some d) (hd : (match d with | .struct _ | .array _ _ => true | _ => false) = true) (hi : (P.info? ty).map (·.size) = some cs.size)
    (h : wpStill P ops w Q rest (a.put o.dst (.agg cs))) : wpStill P ops w Q (o :: rest) a := by
  have hw : Region.wanted o (yielded ops a.tmps) = true := by simp [Region.wanted, hgd]
  simp only [wpStill]
  rw [if_pos hw]
  unfold Oper.still execOp
  simp only [ho, hx, Instr.loadAt, Instr.sureAddr, Sem.run_bind, Sem.run_pure, Result.andThen_ok, run_loadVar_row w g t ty cs fr d hg hu hd hi, Oper.stillUpon_value]
  exact h
theorem wpList_appn {P : Program} {w w0 : World} {B : Nat} {ops : Array Oper} {rest : List Oper} {o : Oper} {a : Act} {Q : Exit → Act → World → Prop} (hgd : o.guard = none) (s x : Operand) (t : TypeId)
    (ho : o.op = .call { callee := .builtin .append, args := #[s, x], argTypes := #[t, t] }) {e : TypeId} {z : Value} {size bytes : Nat} (hE : ElemOf P t e z size bytes)
    {base : Nat} {sa : Option Addr} {n cap : Nat} {xs : List Value} (hs : a.eval s = .slice sa n cap) (hown : Ow w base size sa n cap xs) (hb : Below B w0 w) (hB : B ≤ base) (hbase : base ≤ w.heap.size)
    {m c : Nat} {cs : List Value} {e' : TypeId} (hx : a.eval x = .slice (some ⟨w.heap.size, 0, none⟩) m c) (hcs : cs.length = m * size) (h1 : ∀ u ∈ cs, u.oneCell' = true) (hbytes : (n + m) * bytes ≤ 140737488355328)
    (hK : ∀ a' cap' w1, Ow w1 base size a' (n + m) cap' (xs ++ cs) → Below B w0 w1 → w.grownBy w1 (rowOf sa) → wpList P ops Q rest (a.put o.dst (.slice a' (n + m) cap')) w1) : wpList P ops Q (o :: rest) a (w.alloc (.cells cs.toArray e')) := by
  have hg := World.grownBy_alloc w (.cells cs.toArray e') none
  refine wpList_apps (P := P) (w0 := w0) (B := B) hgd s x t t ho hE hs (hown.kept hg (by cases rowOf sa <;> simp)) (hb.alloc (by omega) _) hB (by simp; omega) hx
    (Src.slice hE.u hcs (Rd.mk fun j u hj => ?_) h1) hbytes (fun a' cap' w1 a1 a2 a3 => hK a' cap' w1 a1 a2 ⟨a3.os, a3.tape, a3.output, by have := a3.size; simp at this; omega, fun k hk hne => (a3.block k (by simp; omega) hne).trans (Below.heap_alloc w _ k hk)⟩)
  rw [Nat.zero_add, World.cell?_alloc_at _ _ _ _ rfl]
  simpa using hj
theorem u8s_wbytes (x : Int) : u8s (wbytes x) = [.int .u8 (x / 16777216 % 256), .int .u8 (x / 65536 % 256), .int .u8 (x / 256 % 256), .int .u8 (x % 256)] := by
  simp only [u8s, wbytes, List.map_cons, List.map_nil]
  rw [← byte_eq (by omega) (by omega), ← byte_eq (by omega) (by omega), ← byte_eq (by omega) (by omega), ← byte_eq (by omega) (by omega)]
theorem hi8 {G : List Int} (h : G.length = 8) : (Tryz.prog.info? 99).map (·.size) = some (u32s G).toArray.size := by
  rw [List.size_toArray, u32s_length, h]
  kernel_rfl
set_option maxRecDepth 100000 in
set_option maxHeartbeats 1000000 in
theorem rsum_walk (l : List UInt8) (w : World) (hl : l.length ≤ 140737488000000) :
    Calls Tryz.prog 71 #[.string ⟨l.toArray⟩] w fun e w' => e = .returned (.string ⟨(sha l).toArray⟩) ∧ Below w.heap.size w w' := by
  go_enter Tryz.func71, Tryz.ntmps71
  go_wp2_with (go_at_call 88; (with_reducible refine (first_walk _).mono ?_))
  rintro e w1 ⟨rfl, hb1⟩
  go_wp2_with (go_at_call 89; (with_reducible refine (rconstants_walk _).mono ?_))
  rintro e w2 ⟨rfl, hb2⟩
  go_wp2_with (go_at_call 90; (with_reducible refine (pad_walk _ _ hl).mono ?_))
  rintro e w3 ⟨rfl, hb3⟩
  go_wp2
  refine Wd.new2 (fun W => Oper.upon _ _ _ _ _ ((Sem.run _ _ W).andThen _)) [0, 0, 0, 0, 0, 0, 0, 0] (List.replicate 64 0) ?_
  intro wA hbA hA1 hA2
  have hb0 := ((hb1.trans (hb2.mono hb1.size)).trans (hb3.mono (hb1.trans (hb2.mono hb1.size)).size)).trans (hbA.mono ((hb1.trans (hb2.mono hb1.size)).trans (hb3.mono (hb1.trans (hb2.mono hb1.size)).size)).size)
  have hwg := ((hb1.trans (hb2.mono hb1.size)).trans (hb3.mono (hb1.trans (hb2.mono hb1.size)).size)).size
  rw [run_store_agg wA w3.heap.size 99 _ H0 hA1 rfl]
  generalize w3.heap.size = gs at hA1 hA2 hwg ⊢
  refine Wd.row (fun W => Oper.upon _ _ _ _ _ (Result.andThen (Result.ok _ W) _)) H0 hA1 ?_
  intro wB hB1 hgB
  replace hA2 := hA2.grown hgB (by simp)
  replace hb0 := hb0.grown hgB hb0.size (by intro k hk; simp at hk; omega)
  simp only [Result.andThen]
  go_wp2
  rw [run_store_agg wB (gs + 1) 101 _ KS hA2 rfl]
  refine Wd.row (fun W => Oper.upon _ _ _ _ _ (Result.andThen (Result.ok _ W) _)) KS hA2 ?_
  intro wC hC2 hgC
  have hC1 := hB1.grown hgC (by simp)
  replace hb0 := hb0.grown hgC hb0.size (by intro k hk; simp at hk; omega)
  clear hA1 hA2 hB1 hgB hgC hb1 hb2 hb3 hbA
  simp only [Result.andThen]
  have hpl := pad_length l
  obtain ⟨p, hp⟩ : ∃ p, p = pad l := ⟨_, rfl⟩
  rw [← hp]
  rw [← hp] at hpl
  have hpm : p.length = 64 * blocksOf l.length := by rw [hpl]; rfl
  have HP := Lib.hid hp
  have HPM := Lib.hid hpm
  have hpb : p.length ≤ 140737488000128 := by rw [hp, pad, List.length_append, tailOf_length]; unfold zeros; omega
  clear hp hpm hpl
  go_wp2
  go_loopw [6] (fun i wr => ∃ (k c : Nat) (G : List Int), k ≤ blocksOf l.length ∧ c = 64 * k ∧ i = .int .i64 (c : Int) ∧ G = absorb KS H0 p k ∧ Below w.heap.size w wr ∧ Wd wr gs 99 G ∧ Wd wr (gs + 1) 101 KS) (fun i _ => p.length - (intOf i).toNat)
  case atStart => exact ⟨0, 0, H0, by omega, rfl, rfl, rfl, hb0, hC1, hC2⟩
  case round =>
    clear hb0 hC1 hC2
    obtain ⟨k, c, G, hk, hc, rfl, hG, hbw, hS, hK⟩ := hrel
    have hGl : G.length = 8 := by rw [hG, absorb_length]; rfl
    have HG := Lib.hid hG
    clear hG
    by_cases hkt : k < blocksOf l.length
    · have hc64 : c + 64 ≤ p.length := by rw [HPM.out]; omega
      have hslt := hS.lt
      have hci : (c : Int) + 64 ≤ (p.length : Int) := by omega
      have HC := Lib.hid hc
      clear hc
      go_wp2
      refine wp_region_still_tail 7 (by kernel_rfl) (by kernel_rfl) ?_
      obtain ⟨wd, hwd⟩ : ∃ wd : World, wd = { heap := wr.heap, tape := wr.tape, drawn := wr.drawn + 1, os := wr.os, output := wr.output } := ⟨_, rfl⟩
      have hS' : Wd wd gs 99 G := by rw [hwd]; exact hS
      have hK' : Wd wd (gs + 1) 101 KS := by rw [hwd]; exact hK
      have hbw' : Below w.heap.size w wd := by rw [hwd]; exact hbw.drew
      rw [← hwd]
      clear hS hK hbw hslt hwd
      simp only [List.take_succ_cons, List.take_zero, List.drop_succ_cons, List.drop_zero]
      refine wpStill_load_row rfl _ _ rfl gs rfl _ _ _ _ hS' Tryz.underlying99 rfl (hi8 hGl) ?_
      refine wpStill_load_row rfl _ _ rfl (gs + 1) rfl _ _ _ _ hK' Tryz.underlying101 rfl (by kernel_rfl) ?_
      iterate 4 still_step
      obtain ⟨d, hd⟩ : ∃ d : Nat, d = c + 64 := ⟨_, rfl⟩
      have hwd : IntKind.i64.wrap ((c : Int) + 64) = (d : Int) := by rw [IntKind.wrap_i64]; omega
      rw [hwd]
      have hd1 : d ≤ p.length := by omega
      have hd2 : (c : Int) ≤ (d : Int) := by omega
      have hd3 : (d : Int) ≤ (p.length : Int) := by omega
      have HD := Lib.hid hd
      clear hd hwd hci
      still_step
      refine wpStill_nil ?_
      change wpList _ _ _ _ _ wd
      have hlen : 64 ≤ ((p.drop c).take (d - c)).length := by have := HD.out; simp; omega
      go_wp2_with (go_at_call 91; (with_reducible refine (block_walk _ _ hlen _ _ hGl KS_length).mono ?_))
      rintro e w6 ⟨rfl, hb6⟩
      have hS6 := hS'.keep hb6
      have hK6 := hK'.keep hb6
      have hbw6 := hbw'.trans (hb6.mono hbw'.size)
      clear hS' hK' hbw' hb6
      have hbs : blockSum KS G ((p.drop c).take (d - c)) = absorb KS H0 p (k + 1) := by
        rw [show d - c = 64 by have := HD.out; omega, blockSum_take, absorb, ← HG.out, HC.out]
      have hbl : G.length = (blockSum KS G ((p.drop c).take (d - c))).length := by rw [blockSum_length]
      generalize blockSum KS G ((p.drop c).take (d - c)) = M at hbs hbl ⊢
      have HB := Lib.hid hbs
      have hM8 : (u32s M).length = 8 := by rw [u32s_length, ← hbl, hGl]
      have hc65 : c + 64 ≤ 140737488000128 := by omega
      clear hbs
      go_wp2
      rw [run_store_agg w6 gs 99 _ M hS6 (by rw [List.size_toArray, u32s_length]; exact hbl)]
      refine Wd.row (fun W => Oper.upon _ _ _ _ _ (Result.andThen (Result.ok _ W) _)) M hS6 ?_
      intro w7 hS7 hg7
      have hK7 := hK6.grown hg7 (by simp)
      have hb7 := hbw6.grown hg7 hbw6.size (by intro k hk; simp at hk; omega)
      clear hS6 hK6 hbw6 hg7
      simp only [Result.andThen]
      go_wp2
      go_roundw
      case rel => exact ⟨k + 1, c + 64, M, by omega, by have := HC.out; omega, by go_num, HB.out, hb7, hS7, hK7⟩
      case measure => simp [intOf]; omega
    · obtain rfl : k = blocksOf l.length := by omega
      have hpe : p.length ≤ c := by rw [HPM.out]; omega
      go_wp2_with (refine wpList_load_row rfl _ _ rfl gs rfl _ _ _ _ hS Tryz.underlying99 rfl (hi8 hGl) ?_)
      have hfin : sha l = outBytes G 8 := by rw [sha, HG.out, HP.out]
      have HF := Lib.hid hfin
      clear hfin hS hK HG hpe hkt hk hc
      go_loopw [7, 9, 29] (fun v _ i wr => ∃ (k : Nat) (L : List UInt8) (a : Option Addr) (cap : Nat), k ≤ 8 ∧ i = .int .i64 (k : Int) ∧ v = .slice a L.length cap ∧ L = outBytes G k ∧ Ow wr w.heap.size 1 a L.length cap (u8s L) ∧ Below w.heap.size w wr) (fun _ _ i _ => 8 - (intOf i).toNat)
      case atStart => exact ⟨0, [], none, 0, by omega, rfl, rfl, rfl, Ow.nil _ _ _, hbw⟩
      case round =>
        clear hbw
        obtain ⟨k, L, sa, cap, hk, rfl, rfl, hL, hown, hbel⟩ := hrel
        have hle : L.length ≤ 32 := by rw [hL, outBytes_length]; omega
        have HL := Lib.hid hL
        clear hL
        by_cases hkt : k < 8
        · obtain ⟨x, hx⟩ : ∃ x, G[k]? = some x := ⟨G[k], List.getElem?_eq_getElem (by omega)⟩
          have hix := index8 wr Tryz.underlying99 (u32s G).toArray k hkt (.int .u32 x) (by simpa using u32s_get hx)
          have HX := Lib.hid hx
          clear hx
          go_wp2_with (at_builtin; refine wpList_appn (w0 := w) (B := w.heap.size) rfl _ _ _ rfl el8 rfl hown hbel (by omega) hbel.size (m := 4) (cs := [_, _, _, _]) rfl rfl ?one (by omega) ?_)
          case one => intro u hu; simp at hu; rcases hu with rfl | rfl | rfl | rfl <;> rfl
          intro a2 cap2 w2 hown2 hbel2 _
          have e4 : u8s L ++ [.int .u8 (x / 16777216 % 256), .int .u8 (x / 65536 % 256), .int .u8 (x / 256 % 256), .int .u8 (x % 256)] = u8s (L ++ wbytes x) := by
            rw [u8s_append, u8s_wbytes]
          rw [e4] at hown2
          clear hix
          go_wp2
          go_roundw
          case rel => exact ⟨k + 1, L ++ wbytes x, a2, cap2, by omega, by go_num, by simp [wbytes], by rw [HL.out, outBytes, List.getD, HX.out]; rfl, by rw [List.length_append]; exact hown2, hbel2⟩
          case measure => simp [intOf]; omega
        · obtain rfl : k = 8 := by omega
          have hcv := run_bytes_str (P := Tryz.prog) wr 77 9 5 Tryz.underlying77 Tryz.underlying5 Tryz.underlying9 (n := L.length) (c := cap) rfl hown.rd
          go_wp2
          go_ret
          exact ⟨ret_str (by rw [HL.out, HF.out]), hbel⟩
end Go.Proofs.YtnahkfchcminpaaGreatDoor
