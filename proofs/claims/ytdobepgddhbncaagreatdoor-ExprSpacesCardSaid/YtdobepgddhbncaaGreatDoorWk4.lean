/-
  The functions do what their images say: walks, written by a program of mine (gen.py).
-/
import Derived.Test.YtdobepgddhbncaaGreatDoorIv1
import Derived.Test.YtdobepgddhbncaaGreatDoorWk3
import Derived.Test.YtdobepgddhbncaaGreatDoorPm31
namespace Go.Proofs.YtdobepgddhbncaaGreatDoor
open Go Go.Pm
set_option linter.unusedSimpArgs false
open And renaming intro → ai
open Exists renaming intro → xi
open Option.some renaming inj → oi
open _root_.Nat renaming le_of_ble_eq_true → lb
open Go.Pm.SeqJ renaming go → sj
open Go.Pm.SeqN renaming go → sn
set_option maxRecDepth 100000
set_option maxHeartbeats 1000000
set_option linter.unusedVariables false
theorem intarsialaw18_ExprSpaces_ok (E : Pm.Env) [LaidE E] (a0 : S_Env) (a1 : Bytes) (a2 : Bytes) (r : Bool) (h : intarsialaw18_ExprSpaces a0 a1 a2 = some r) : FnR E Tryz.prog 6 [S_Env.av a0, ss a1, ss a2] (bb r) false := by
 refine FnR.of_ev (T := T) (rows := []) tOk mixed Tryz.func6 rfl (by kernel_rfl) (by kernel_rfl) rfl fun hwf => ?_
 unfold intarsialaw18_ExprSpaces at h
 refine sj <| ai rfl <| sn <| sj <| Or.inl <| ai ⟨lb rfl, lb rfl⟩ <| NormE.to (S_Env.av a0) (fun _ => rfl) <| bind_elim h fun x1 hx1 h => CallH.data _ false rfl (intarsialaw18_few_ok E a0 x1 hx1) <| NormE.same <| ai rfl <| bind_elim h fun x2 hx2 h => ?_
 have qx2 := (slc_some hx2).1
 have hx2e := (slc_some hx2).2
 refine ai (fun _ => qx2) <| NormE.to (ss x2) (fun _ => congrArg ss hx2e.symm) ?_
 refine ai ⟨rfl, rfl, rfl, lb rfl⟩ (xi (S_Env.cells x1) (ai (fun _ => rfl) ?_))
 refine ai (by kernel_rfl) <| sn <| sj <| sn <| bind_elim h fun j3 hj3 h => ?_
 refine SeqJ.join (St.of [⟨1, ss x2, none⟩, ⟨3, AV.ptr 0 0, none⟩, ⟨7, ss j3, none⟩] [.cells 23 (S_Env.cells x1) []] []) ?_ ?_
 ·clear h; have h := hj3; clear hj3
  refine sj <| NormE.same <| ai rfl <| sn ?_
  refine LoopE.img (fun x : (Bytes × Int) => St.of [⟨1, ss x2, none⟩, ⟨2, ss a2, none⟩, ⟨3, AV.ptr 0 0, none⟩, ⟨7, ss x.1, none⟩, ⟨26, ii (imin (a2.length : Int) (1 : Int)), none⟩, ⟨27, ii x.2, none⟩] [.cells 23 (S_Env.cells x1) []] []) (intarsialaw18_ExprSpaces_b1 a2) (([32] : Bytes), (0 : Int)) h ?_ ?_
  ·exact W
  intro n1 x y1 h hl1 hr1
  obtain ⟨s4, s5⟩ := x
  unfold intarsialaw18_ExprSpaces_b1 at h
  dsimp only at h
  exact W
 ·clear hj3
  exact W
instance intarsialaw18_ExprSpaces_ok_i (E : Pm.Env) [LaidE E] (a0 : S_Env) (a1 : Bytes) (a2 : Bytes) : Ok E (intarsialaw18_ExprSpaces a0 a1 a2) (fun r => FnR E Tryz.prog 6 [S_Env.av a0, ss a1, ss a2] (bb r) false) := ⟨intarsialaw18_ExprSpaces_ok E a0 a1 a2⟩
end Go.Proofs.YtdobepgddhbncaaGreatDoor
