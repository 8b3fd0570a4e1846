/-
  The functions do what their images say: walks, written by a program of mine (gen.py).
-/
import Derived.Test.YtdobepgddhbncaaGreatDoorIv1
import Derived.Test.YtdobepgddhbncaaGreatDoorWk3
namespace Go.Proofs.YtdobepgddhbncaaGreatDoor
open Go Go.Pm
set_option linter.unusedSimpArgs false
open And renaming intro → ai
open Exists renaming intro → xi
open Option.some renaming inj → oi
open _root_.Nat renaming le_of_ble_eq_true → lb
open Go.Pm.SeqJ renaming go → sj
open Go.Pm.SeqN renaming go → sn
set_option maxRecDepth 100000
set_option maxHeartbeats 4000000
set_option linter.unusedVariables false
theorem intarsialaw18_alive_ok (E : Pm.Env) [LaidE E] (r : Bool) (h : intarsialaw18_alive = some r) : FnR E Tryz.prog 14 [] (bb r) false := by
 refine FnR.of_ev (T := T) (rows := []) tOk mixed Tryz.func14 rfl (by kernel_rfl) (by kernel_rfl) rfl fun hwf => ?_
 unfold intarsialaw18_alive at h
 refine sj <| sn <| sj ?_
 refine xi none (ai trivial ?_)
 refine bind_elim h fun x1 hx1 h => CallH.data _ false rfl (expr_Test_ok E (S_Env.mk ([] : Bytes) ([] : Bytes) ([] : Bytes) ([] : Bytes) ([] : Bytes) ([] : Bytes)) ([49, 61, 61, 49, 32, 38, 32, 33, 40, 39, 97, 39, 62, 39, 98, 39, 41] : Bytes) x1 hx1) <| sn <| sj ?_
 refine xi none (ai trivial ?_)
 refine bind_elim h fun x2 hx2 h => CallH.data _ false rfl (expr_Test_ok E (S_Env.mk ([] : Bytes) ([] : Bytes) ([] : Bytes) ([] : Bytes) ([] : Bytes) ([] : Bytes)) ([49, 48, 60, 57] : Bytes) x2 hx2) <| sn <| sj <| ai id <| ai (fun hg => (and_r hg)) <| ai (fun hg => (and_r hg)) <| ai id <| ai (fun hg => (and_r hg)) ?_
 refine SeqN.via (St.of [⟨0, bb (bif (bif (bif (x1.2 == (0 : Int)) then (x2.2 == (0 : Int)) else false) then x1.1 else false) then (!x2.1) else false), none⟩] [] []) ?_ ?_
 ·refine Gho.to _ _ _ [] ?_ ?_ ?_ rfl rfl ?_
  ·exact trivial
  ·exact rfl
  ·exact rfl
  ·exact tr3 <| trivial
 replace h := oi h
 refine RetE.plain ?_
 subst h; exact ai rfl (ai rfl rfl)
theorem intarsialaw18_ExprNots_ok (E : Pm.Env) [LaidE E] (a0 : S_Env) (a1 : Bytes) (a2 : Bytes) (r : Bool) (h : intarsialaw18_ExprNots a0 a1 a2 = some r) : FnR E Tryz.prog 4 [S_Env.av a0, ss a1, ss a2] (bb r) false := by
 refine FnR.of_ev (T := T) (rows := []) tOk mixed Tryz.func4 rfl (by kernel_rfl) (by kernel_rfl) rfl fun hwf => ?_
 unfold intarsialaw18_ExprNots at h
 refine sj <| ai rfl <| sn <| sj <| Or.inl <| ai ⟨lb rfl, lb rfl⟩ <| NormE.to (S_Env.av a0) (fun _ => rfl) <| bind_elim h fun x1 hx1 h => CallH.data _ false rfl (intarsialaw18_few_ok E a0 x1 hx1) <| NormE.same <| ai rfl <| bind_elim h fun x2 hx2 h => ?_
 have qx2 := (slc_some hx2).1
 have hx2e := (slc_some hx2).2
 refine ai (fun _ => qx2) <| NormE.to (ss x2) (fun _ => congrArg ss hx2e.symm) <| NormE.same <| ai rfl <| bind_elim h fun x3 hx3 h => ?_
 have qx3 := (slc_some hx3).1
 have hx3e := (slc_some hx3).2
 refine ai (fun _ => qx3) <| NormE.to (ss x3) (fun _ => congrArg ss hx3e.symm) ?_
 refine ai ⟨rfl, rfl, rfl, lb rfl⟩ (xi (S_Env.cells x1) (ai (fun _ => rfl) ?_))
 refine ai (by kernel_rfl) ?_
 refine SeqN.via (St.of [⟨1, ss x2, none⟩, ⟨2, ss x3, none⟩, ⟨3, AV.ptr 0 0, none⟩] [.cells 23 (S_Env.cells x1) []] []) ?_ ?_
 ·refine Gho.to _ _ _ [] ?_ ?_ ?_ rfl rfl ?_
  ·exact ⟨⟨rfl, rfl, rfl⟩, trivial⟩
  ·exact rfl
  ·exact rfl
  ·exact tr3 <| tr3 <| tr3 <| trivial
 refine sj <| ai ⟨lb rfl, lb rfl⟩ <| NormE.to (S_Env.av x1) (fun _ => rfl) <| bind_elim h fun x4 hx4 h => CallH.data _ false rfl (expr_Test_ok E x1 x2 x4 hx4) <| sn <| sj <| ai ⟨lb rfl, lb rfl⟩ <| NormE.to (S_Env.av x1) (fun _ => rfl) <| bind_elim h fun x5 hx5 h => CallH.data _ false rfl (expr_Test_ok E x1 x3 x5 hx5) ?_
 refine SeqN.via (St.of [⟨1, ss x2, none⟩, ⟨2, ss x3, none⟩, ⟨3, AV.ptr 0 0, none⟩, ⟨7, bb x4.1, none⟩, ⟨8, ii x4.2, none⟩, ⟨9, bb x5.1, none⟩, ⟨10, ii x5.2, none⟩] [.cells 23 (S_Env.cells x1) []] []) ?_ ?_
 ·refine Gho.to _ _ _ [] ?_ ?_ ?_ rfl rfl ?_
  ·exact ⟨⟨rfl, rfl, rfl⟩, trivial⟩
  ·exact rfl
  ·exact rfl
  ·exact tr3 <| tr3 <| tr3 <| tr3 <| tr3 <| tr3 <| tr3 <| trivial
 refine sj <| ai ⟨lb rfl, lb rfl⟩ <| NormE.to (S_Env.av x1) (fun _ => rfl) <| bind_elim h fun x6 hx6 h => ?_
 have hx6c := (cat_some hx6).1
 have hx6e := (cat_some hx6).2
 refine ai (fun _ => hx6c) <| NormE.to (ss x6) (fun _ => congrArg ss hx6e.symm) <| bind_elim h fun x7 hx7 h => ?_
 have hx7c := (cat_some hx7).1
 have hx7e := (cat_some hx7).2
 refine ai (fun _ => hx7c) <| NormE.to (ss x7) (fun _ => congrArg ss hx7e.symm) <| bind_elim h fun x8 hx8 h => CallH.data _ false rfl (expr_Test_ok E x1 x7 x8 hx8) <| sn <| sj <| ai ⟨lb rfl, lb rfl⟩ <| NormE.to (S_Env.av x1) (fun _ => rfl) <| bind_elim h fun x9 hx9 h => ?_
 have hx9c := (cat_some hx9).1
 have hx9e := (cat_some hx9).2
 refine ai (fun _ => hx9c) <| NormE.to (ss x9) (fun _ => congrArg ss hx9e.symm) <| bind_elim h fun x10 hx10 h => ?_
 have hx10c := (cat_some hx10).1
 have hx10e := (cat_some hx10).2
 refine ai (fun _ => hx10c) <| NormE.to (ss x10) (fun _ => congrArg ss hx10e.symm) <| bind_elim h fun x11 hx11 h => ?_
 have hx11c := (cat_some hx11).1
 have hx11e := (cat_some hx11).2
 refine ai (fun _ => hx11c) <| NormE.to (ss x11) (fun _ => congrArg ss hx11e.symm) <| bind_elim h fun x12 hx12 h => ?_
 have hx12c := (cat_some hx12).1
 have hx12e := (cat_some hx12).2
 refine ai (fun _ => hx12c) <| NormE.to (ss x12) (fun _ => congrArg ss hx12e.symm) <| bind_elim h fun x13 hx13 h => CallH.data _ false rfl (expr_Test_ok E x1 x12 x13 hx13) ?_
 refine SeqN.via (St.of [⟨1, ss x2, none⟩, ⟨2, ss x3, none⟩, ⟨3, AV.ptr 0 0, none⟩, ⟨7, bb x4.1, none⟩, ⟨8, ii x4.2, none⟩, ⟨9, bb x5.1, none⟩, ⟨10, ii x5.2, none⟩, ⟨11, bb x8.1, none⟩, ⟨12, ii x8.2, none⟩, ⟨13, bb x13.1, none⟩, ⟨14, ii x13.2, none⟩] [.cells 23 (S_Env.cells x1) []] []) ?_ ?_
 ·refine Gho.to _ _ _ [] ?_ ?_ ?_ rfl rfl ?_
  ·exact ⟨⟨rfl, rfl, rfl⟩, trivial⟩
  ·exact rfl
  ·exact rfl
  ·exact tr3 <| tr3 <| tr3 <| tr3 <| tr3 <| tr3 <| tr3 <| tr3 <| tr3 <| tr3 <| tr3 <| trivial
 refine sj <| ai ⟨lb rfl, lb rfl⟩ <| NormE.to (S_Env.av x1) (fun _ => rfl) <| bind_elim h fun x14 hx14 h => ?_
 have hx14c := (cat_some hx14).1
 have hx14e := (cat_some hx14).2
 refine ai (fun _ => hx14c) <| NormE.to (ss x14) (fun _ => congrArg ss hx14e.symm) <| bind_elim h fun x15 hx15 h => ?_
 have hx15c := (cat_some hx15).1
 have hx15e := (cat_some hx15).2
 refine ai (fun _ => hx15c) <| NormE.to (ss x15) (fun _ => congrArg ss hx15e.symm) <| bind_elim h fun x16 hx16 h => ?_
 have hx16c := (cat_some hx16).1
 have hx16e := (cat_some hx16).2
 refine ai (fun _ => hx16c) <| NormE.to (ss x16) (fun _ => congrArg ss hx16e.symm) <| bind_elim h fun x17 hx17 h => ?_
 have hx17c := (cat_some hx17).1
 have hx17e := (cat_some hx17).2
 refine ai (fun _ => hx17c) <| NormE.to (ss x17) (fun _ => congrArg ss hx17e.symm) <| bind_elim h fun x18 hx18 h => CallH.data _ false rfl (expr_Test_ok E x1 x17 x18 hx18) <| sn <| sj <| sj <| ai id <| ai (fun hg => (and_r hg)) <| ai id <| ai (fun hg => (and_r hg)) <| ai id <| ai (fun hg => (and_r hg)) <| ai id <| ai (fun hg => (and_r hg)) ?_
 refine SeqN.via (St.of [⟨7, bb x4.1, none⟩, ⟨8, ii x4.2, none⟩, ⟨9, bb x5.1, none⟩, ⟨10, ii x5.2, none⟩, ⟨11, bb x8.1, none⟩, ⟨13, bb x13.1, none⟩, ⟨15, bb x18.1, none⟩, ⟨88, bb (bif (bif (bif (bif (x4.2 != (0 : Int)) then true else (x5.2 != (0 : Int))) then true else (x8.2 != (0 : Int))) then true else (x13.2 != (0 : Int))) then true else (x18.2 != (0 : Int))), none⟩] [] []) ?_ ?_
 ·refine Gho.to _ _ _ [] ?_ ?_ ?_ rfl rfl ?_
  ·exact trivial
  ·exact rfl
  ·exact rfl
  ·exact tr3 <| tr3 <| tr3 <| tr3 <| tr3 <| tr3 <| tr3 <| tr3 <| trivial
 refine Br.of h (fun ht h => ?_) fun ht h => ?_
 ·refine sj <| bind_elim h fun x19 hx19 h => CallH.data _ false rfl (intarsialaw18_alive_ok E  x19 hx19) <| ai id <| ai id <| ai id <| ai id <| ai id <| ai (fun hg => (and_r hg)) <| ai id <| ai id <| ai id <| ai id <| ai id <| ai (fun hg => (and_r hg)) ?_
  refine SeqN.via (St.of [⟨6, bb (bif (bif x19 then (bif (x4.2 == (0 : Int)) then true else (!x4.1)) else false) then (bif (x5.2 == (0 : Int)) then true else (!x5.1)) else false), none⟩] [] []) ?_ ?_
  ·refine Gho.to _ _ _ [] ?_ ?_ ?_ rfl rfl ?_
   ·exact trivial
   ·exact rfl
   ·exact rfl
   ·exact tr3 <| trivial
  replace h := oi h
  refine RetE.plain ?_
  subst h; exact ai rfl (ai rfl rfl)
 ·refine sn <| sj <| bind_elim h fun x20 hx20 h => CallH.data _ false rfl (intarsialaw18_alive_ok E  x20 hx20) <| ai id <| ai id <| ai id <| ai rfl <| ai (fun hg => (and_r hg)) <| ai id <| ai id <| ai id <| ai id <| ai id <| ai rfl <| ai (fun hg => (and_r hg)) <| ai id <| ai id <| ai id <| ai id <| ai id <| ai rfl <| ai (fun hg => (and_r hg)) ?_
  refine SeqN.via (St.of [⟨6, bb (bif (bif (bif x20 then (x8.1 == (!x4.1)) else false) then (x13.1 == (bif x4.1 then x5.1 else false)) else false) then (x18.1 == (bif x4.1 then true else x5.1)) else false), none⟩] [] []) ?_ ?_
  ·refine Gho.to _ _ _ [] ?_ ?_ ?_ rfl rfl ?_
   ·exact trivial
   ·exact rfl
   ·exact rfl
   ·exact tr3 <| trivial
  replace h := oi h
  refine RetE.plain ?_
  subst h; exact ai rfl (ai rfl rfl)
end Go.Proofs.YtdobepgddhbncaaGreatDoor
