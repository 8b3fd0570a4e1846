/-
  The functions do what their images say: walks, written by a program of mine (gen.py).
-/
import Derived.Test.YtdobepgddhbncaaGreatDoorIv1
import Derived.Test.YtdobepgddhbncaaGreatDoorGh6
namespace Go.Proofs.YtdobepgddhbncaaGreatDoor
open Go Go.Pm
set_option linter.unusedSimpArgs false
open And renaming intro → ai
open Exists renaming intro → xi
open Option.some renaming inj → oi
open _root_.Nat renaming le_of_ble_eq_true → lb
open Go.Pm.SeqJ renaming go → sj
open Go.Pm.SeqN renaming go → sn
set_option maxRecDepth 100000
set_option maxHeartbeats 4000000
set_option linter.unusedVariables false
theorem intarsialaw18_few_1_ok (E : Pm.Env) [LaidE E] (a0 : Bytes) (r : Bytes) (h : intarsialaw18_few_1 a0 = some r) : FnR E Tryz.prog 28 [ss a0] (ss r) false := by
 refine FnR.of_ev (T := T) (rows := []) tOk mixed Tryz.func28 rfl (by kernel_rfl) (by kernel_rfl) rfl fun hwf => ?_
 unfold intarsialaw18_few_1 at h
 refine sj <| sn <| sj <| NormE.same <| ai rfl <| bind_elim h fun x1 hx1 h => ?_
 have qx1 := (slc_some hx1).1
 have hx1e := (slc_some hx1).2
 refine ai (fun _ => qx1) <| NormE.to (ss x1) (fun _ => congrArg ss hx1e.symm) <| sn ?_
 replace h := oi h
 refine RetE.plain ?_
 subst h; exact ai rfl (ai rfl rfl)
theorem intarsialaw18_few_ok (E : Pm.Env) [LaidE E] (a0 : S_Env) (r : S_Env) (h : intarsialaw18_few a0 = some r) : FnR E Tryz.prog 10 [S_Env.av a0] (S_Env.av r) false := by
 refine FnR.of_ev (T := T) (rows := []) tOk mixed Tryz.func10 rfl (by kernel_rfl) (by kernel_rfl) rfl fun hwf => ?_
 unfold intarsialaw18_few at h
 refine sj <| ai rfl <| ai rfl <| sn <| sj <| sn <| sj <| Or.inl <| bind_elim h fun x1 hx1 h => CallH.data _ false rfl (intarsialaw18_few_1_ok E a0.Host x1 hx1) <| bind_elim h fun x2 hx2 h => CallH.data _ false rfl (intarsialaw18_few_1_ok E a0.Referer x2 hx2) <| bind_elim h fun x3 hx3 h => CallH.data _ false rfl (intarsialaw18_few_1_ok E a0.Agent x3 hx3) <| bind_elim h fun x4 hx4 h => CallH.data _ false rfl (intarsialaw18_few_1_ok E a0.Cookie x4 hx4) <| bind_elim h fun x5 hx5 h => CallH.data _ false rfl (intarsialaw18_few_1_ok E a0.Language x5 hx5) <| bind_elim h fun x6 hx6 h => CallH.data _ false rfl (intarsialaw18_few_1_ok E a0.Query x6 hx6) <| ai ⟨rfl, rfl, lb rfl⟩ <| ai ⟨rfl, rfl, lb rfl⟩ <| ai ⟨rfl, rfl, lb rfl⟩ <| ai ⟨rfl, rfl, lb rfl⟩ <| ai ⟨rfl, rfl, lb rfl⟩ <| ai ⟨rfl, rfl, lb rfl⟩ ?_
 refine xi none (ai trivial ?_)
 refine ai ⟨rfl, rfl, rfl, lb rfl⟩ (xi [ss x1, ss x2, ss x3, ss x4, ss x5, ss x6] (ai (fun _ => rfl) ?_))
 refine ai (by kernel_rfl) ?_
 refine SeqN.via (St.of [⟨2, AV.ptr 1 0, none⟩] [.dead, .cells 23 [ss x1, ss x2, ss x3, ss x4, ss x5, ss x6] []] []) ?_ ?_
 ·refine Gho.to _ _ _ [] ?_ ?_ ?_ rfl rfl ?_
  ·exact ⟨trivial, ⟨⟨rfl, rfl, rfl⟩, trivial⟩⟩
  ·exact rfl
  ·exact rfl
  ·exact tr3 <| trivial
 replace h := oi h
 refine RetE.plain ?_
 refine ai ⟨lb rfl, lb rfl⟩ (xi (AV.agg [ss x1, ss x2, ss x3, ss x4, ss x5, ss x6]) (ai rfl ?_))
 subst h; exact ai rfl (ai rfl rfl)
end Go.Proofs.YtdobepgddhbncaaGreatDoor
