/- Conditions: how many persons there are: the program's. -/
import Derived.Test.YtejdaeonknpgeaaGreatDoorGCndG
namespace Go.Proofs.YtejdaeonknpgeaaGreatDoor
open Go.RowKit
set_option maxRecDepth 100000 in
theorem cpersons_walk (M : List Mem) (la : Option Addr) (lc : Nat) (me : Int) (w : World) (hM : RdM w la M) (hl : M.length ≤ 1000000000) :
    Calls Tryz.prog 13 #[.slice la M.length lc, .int .i64 me] w fun e w' => e = .returned (.int .i64 (persF M me)) ∧ Below w.heap.size w w' := by
  have he := persF_at M me
  have KL : Hid (Calls Tryz.prog 25 #[.agg #[.slice none 0 0], .slice la M.length lc, .int .i64 me] w (LookRes w none [] 0 M (atM M me))) := Lib.hid (look_walk [] none 0 M la lc me w ⟨Rd.nil _ _, fun t h => (by simp at h), fun t h => (by simp at h)⟩ hM hl)
  generalize persF M me = R at *
  clear hM
  go_enter Tryz.func13, Tryz.ntmps13
  cases hat : atM M me with
  | none =>
    rw [hat] at he KL
    have HR := Lib.hid he
    clear he hat
    go_wp2_with (go_at_call 25; (with_reducible refine KL.out.mono ?_); (first | rintro e w2 ⟨rfl, hb2⟩ | rintro e w2 rfl hb2))
    go_ret
    exact ⟨ret_int HR.out.symm, hb2⟩
  | some m =>
    rw [hat] at he KL
    have he2 : R = 1 + (dst ((othF M m).map Mem.person) : Int) := he
    rw [← perL_all] at he2
    have KP := Lib.hid (fun V g oa oc (hV : View V g none [] 0 m oa (othF M m) oc) => pers_any V trivial hV (by have := othF_len M m; omega))
    have hdl := Nat.le_trans (perL_len (fun _ => true) (othF M m)) (othF_len M m)
    generalize dst (perL (fun _ => true) (othF M m)) = dn at *
    have hw1 : IntKind.i64.wrap (1 + (dn : Int)) = 1 + (dn : Int) := by rw [IntKind.wrap_i64]; omega
    have HR := Lib.hid he2
    clear he he2 hat hdl
    go_wp2_with (first | (go_at_call 25; (with_reducible refine KL.out.mono ?_); (first | rintro e w2 ⟨⟨g, oa, oc, rfl, hV⟩, hb2⟩ | rintro e w2 g oa oc rfl hV hb2)) | (go_at_call 26; (with_reducible refine (KP.out _ _ _ _ hV).mono ?_); (first | rintro e w3 ⟨rfl, hb3⟩ | rintro e w3 rfl hb3)))
    go_ret
    exact ⟨ret_int HR.out.symm, below_tr hb2 hb3⟩
end Go.Proofs.YtejdaeonknpgeaaGreatDoor
