/-
  The functions do what their images say: walks, written by a program of mine (gen.py).
-/
import Derived.Test.YtdobepgddhbncaaGreatDoorIv1
import Derived.Test.YtdobepgddhbncaaGreatDoorWk3
namespace Go.Proofs.YtdobepgddhbncaaGreatDoor
open Go Go.Pm
set_option linter.unusedSimpArgs false
open And renaming intro → ai
open Exists renaming intro → xi
open Option.some renaming inj → oi
open _root_.Nat renaming le_of_ble_eq_true → lb
open Go.Pm.SeqJ renaming go → sj
open Go.Pm.SeqN renaming go → sn
set_option maxRecDepth 100000
set_option maxHeartbeats 4000000
set_option linter.unusedVariables false
theorem intarsialaw18_alive_ok (E : Pm.Env) [LaidE E] (r : Bool) (h : intarsialaw18_alive = some r) : FnR E Tryz.prog 14 [] (bb r) false := by
 refine FnR.of_ev (T := T) (rows := []) tOk mixed Tryz.func14 rfl (by kernel_rfl) (by kernel_rfl) rfl fun hwf => ?_
 unfold intarsialaw18_alive at h
 refine sj <| sn <| sj ?_
 refine xi none (ai trivial ?_)
 refine bind_elim h fun x1 hx1 h => CallH.data _ false rfl (expr_Test_ok E (S_Env.mk ([] : Bytes) ([] : Bytes) ([] : Bytes) ([] : Bytes) ([] : Bytes) ([] : Bytes)) ([49, 61, 61, 49, 32, 38, 32, 33, 40, 39, 97, 39, 62, 39, 98, 39, 41] : Bytes) x1 hx1) <| sn <| sj ?_
 refine xi none (ai trivial ?_)
 refine bind_elim h fun x2 hx2 h => CallH.data _ false rfl (expr_Test_ok E (S_Env.mk ([] : Bytes) ([] : Bytes) ([] : Bytes) ([] : Bytes) ([] : Bytes) ([] : Bytes)) ([49, 48, 60, 57] : Bytes) x2 hx2) <| sn <| sj <| ai id <| ai (fun hg => (and_r hg)) <| ai (fun hg => (and_r hg)) <| ai id <| ai (fun hg => (and_r hg)) ?_
 refine SeqN.via (St.of [⟨0, bb (bif (bif (bif (x1.2 == (0 : Int)) then (x2.2 == (0 : Int)) else false) then x1.1 else false) then (!x2.1) else false), none⟩] [] []) ?_ ?_
 ·refine Gho.to _ _ _ [] ?_ ?_ ?_ rfl rfl ?_
  ·exact trivial
  ·exact rfl
  ·exact rfl
  ·exact tr3 <| trivial
 replace h := oi h
 refine RetE.plain ?_
 subst h; exact ai rfl (ai rfl rfl)
theorem intarsialaw18_ExprTurned_ok (E : Pm.Env) [LaidE E] (a0 : S_Env) (a1 : Bytes) (a2 : Bytes) (r : Bool) (h : intarsialaw18_ExprTurned a0 a1 a2 = some r) : FnR E Tryz.prog 7 [S_Env.av a0, ss a1, ss a2] (bb r) false := by
 refine FnR.of_ev (T := T) (rows := []) tOk mixed Tryz.func7 rfl (by kernel_rfl) (by kernel_rfl) rfl fun hwf => ?_
 unfold intarsialaw18_ExprTurned at h
 refine sj <| ai rfl <| sn <| sj <| Or.inl <| ai ⟨lb rfl, lb rfl⟩ <| NormE.to (S_Env.av a0) (fun _ => rfl) <| bind_elim h fun x1 hx1 h => CallH.data _ false rfl (intarsialaw18_few_ok E a0 x1 hx1) <| NormE.same <| ai rfl <| bind_elim h fun x2 hx2 h => ?_
 have qx2 := (slc_some hx2).1
 have hx2e := (slc_some hx2).2
 refine ai (fun _ => qx2) <| NormE.to (ss x2) (fun _ => congrArg ss hx2e.symm) <| NormE.same <| ai rfl <| bind_elim h fun x3 hx3 h => ?_
 have qx3 := (slc_some hx3).1
 have hx3e := (slc_some hx3).2
 refine ai (fun _ => qx3) <| NormE.to (ss x3) (fun _ => congrArg ss hx3e.symm) ?_
 refine ai ⟨rfl, rfl, rfl, lb rfl⟩ (xi (S_Env.cells x1) (ai (fun _ => rfl) ?_))
 refine ai (by kernel_rfl) ?_
 refine SeqN.via (St.of [⟨1, ss x2, none⟩, ⟨2, ss x3, none⟩, ⟨3, AV.ptr 0 0, none⟩] [.cells 23 (S_Env.cells x1) []] []) ?_ ?_
 ·refine Gho.to _ _ _ [] ?_ ?_ ?_ rfl rfl ?_
  ·exact ⟨⟨rfl, rfl, rfl⟩, trivial⟩
  ·exact rfl
  ·exact rfl
  ·exact tr3 <| tr3 <| tr3 <| trivial
 refine sj <| sj <| ai ⟨lb rfl, lb rfl⟩ <| NormE.to (S_Env.av x1) (fun _ => rfl) <| bind_elim h fun x4 hx4 h => CallH.data _ false rfl (expr_Test_ok E x1 x2 x4 hx4) <| sn <| sj <| sn ?_
 refine Br.of h (fun ht h => ?_) fun ht h => ?_
 ·refine sj <| bind_elim h fun x5 hx5 h => CallH.data _ false rfl (intarsialaw18_alive_ok E  x5 hx5) <| sn ?_
  replace h := oi h
  refine RetE.plain ?_
  subst h; exact ai rfl (ai rfl rfl)
 ·refine sn <| sj <| sj <| ai ⟨lb rfl, lb rfl⟩ <| NormE.to (S_Env.av x1) (fun _ => rfl) <| bind_elim h fun x6 hx6 h => CallH.data _ false rfl (expr_Test_ok E x1 x3 x6 hx6) ?_
  refine SeqN.via (St.of [⟨1, ss x2, none⟩, ⟨2, ss x3, none⟩, ⟨3, AV.ptr 0 0, none⟩, ⟨10, ii x6.2, none⟩] [.cells 23 (S_Env.cells x1) []] []) ?_ ?_
  ·refine Gho.to _ _ _ [] ?_ ?_ ?_ rfl rfl ?_
   ·exact ⟨⟨rfl, rfl, rfl⟩, trivial⟩
   ·exact rfl
   ·exact rfl
   ·exact tr3 <| tr3 <| tr3 <| tr3 <| trivial
  refine sj <| sn ?_
  refine Br.of h (fun ht h => ?_) fun ht h => ?_
  ·refine sj <| bind_elim h fun x7 hx7 h => CallH.data _ false rfl (intarsialaw18_alive_ok E  x7 hx7) <| sn ?_
   replace h := oi h
   refine RetE.plain ?_
   subst h; exact ai rfl (ai rfl rfl)
  ·refine sn <| sj <| bind_elim h fun x8 hx8 h => ?_
   have hx8c := (cat_some hx8).1
   have hx8e := (cat_some hx8).2
   refine ai (fun _ => hx8c) <| NormE.to (ss x8) (fun _ => congrArg ss hx8e.symm) <| bind_elim h fun x9 hx9 h => ?_
   have hx9c := (cat_some hx9).1
   have hx9e := (cat_some hx9).2
   refine ai (fun _ => hx9c) <| NormE.to (ss x9) (fun _ => congrArg ss hx9e.symm) <| bind_elim h fun x10 hx10 h => ?_
   have hx10c := (cat_some hx10).1
   have hx10e := (cat_some hx10).2
   refine ai (fun _ => hx10c) <| NormE.to (ss x10) (fun _ => congrArg ss hx10e.symm) <| bind_elim h fun x11 hx11 h => ?_
   have hx11c := (cat_some hx11).1
   have hx11e := (cat_some hx11).2
   refine ai (fun _ => hx11c) <| NormE.to (ss x11) (fun _ => congrArg ss hx11e.symm) <| bind_elim h fun x12 hx12 h => ?_
   have hx12c := (cat_some hx12).1
   have hx12e := (cat_some hx12).2
   refine ai (fun _ => hx12c) <| NormE.to (ss x12) (fun _ => congrArg ss hx12e.symm) <| bind_elim h fun x13 hx13 h => ?_
   have hx13c := (cat_some hx13).1
   have hx13e := (cat_some hx13).2
   refine ai (fun _ => hx13c) <| NormE.to (ss x13) (fun _ => congrArg ss hx13e.symm) <| bind_elim h fun x14 hx14 h => ?_
   have hx14c := (cat_some hx14).1
   have hx14e := (cat_some hx14).2
   refine ai (fun _ => hx14c) <| NormE.to (ss x14) (fun _ => congrArg ss hx14e.symm) <| bind_elim h fun x15 hx15 h => ?_
   have hx15c := (cat_some hx15).1
   have hx15e := (cat_some hx15).2
   refine ai (fun _ => hx15c) <| NormE.to (ss x15) (fun _ => congrArg ss hx15e.symm) <| bind_elim h fun x16 hx16 h => ?_
   have hx16c := (cat_some hx16).1
   have hx16e := (cat_some hx16).2
   refine ai (fun _ => hx16c) <| NormE.to (ss x16) (fun _ => congrArg ss hx16e.symm) <| bind_elim h fun x17 hx17 h => ?_
   have hx17c := (cat_some hx17).1
   have hx17e := (cat_some hx17).2
   refine ai (fun _ => hx17c) <| NormE.to (ss x17) (fun _ => congrArg ss hx17e.symm) <| bind_elim h fun x18 hx18 h => ?_
   have hx18c := (cat_some hx18).1
   have hx18e := (cat_some hx18).2
   refine ai (fun _ => hx18c) <| NormE.to (ss x18) (fun _ => congrArg ss hx18e.symm) <| bind_elim h fun x19 hx19 h => ?_
   have hx19c := (cat_some hx19).1
   have hx19e := (cat_some hx19).2
   refine ai (fun _ => hx19c) <| NormE.to (ss x19) (fun _ => congrArg ss hx19e.symm) <| ai ⟨rfl, rfl, rfl, rfl⟩ <| ai ⟨rfl, rfl, rfl, rfl⟩ <| ai ⟨rfl, rfl, rfl, rfl⟩ <| ai ⟨rfl, rfl, rfl⟩ <| NormE.to (AV.list 1 (([x11, x15, x19] : List Bytes).map AV.str)) (fun _ => rfl) ?_
   refine SeqN.via (St.of [⟨3, AV.ptr 0 0, none⟩, ⟨11, AV.list 1 (([x11, x15, x19] : List Bytes).map AV.str), some 0⟩] [.cells 23 (S_Env.cells x1) []] [2]) ?_ ?_
   ·refine Gho.to _ _ _ [0] ?_ ?_ ?_ rfl rfl ?_
    ·exact ⟨⟨rfl, rfl, rfl⟩, trivial⟩
    ·exact rfl
    ·exact rfl
    ·exact ⟨rfl, rfl, trivial, rfl, rfl, ⟨rfl, rfl, rfl⟩, trivial⟩
   refine sj <| Or.inl <| ai ⟨lb rfl, lb rfl⟩ <| NormE.to (S_Env.av x1) (fun _ => rfl) <| bind_elim h fun x20 hx20 h => ?_
   refine ai rfl (xi (ss x20) (ai (fun hg => idx_map _ hx20) ?_))
   refine bind_elim h fun x21 hx21 h => CallH.data _ false rfl (expr_Test_ok E x1 x20 x21 hx21) <| ai (by kernel_rfl) <| sn <| sj <| Or.inl <| ai ⟨lb rfl, lb rfl⟩ <| NormE.to (S_Env.av x1) (fun _ => rfl) <| bind_elim h fun x22 hx22 h => ?_
   refine ai rfl (xi (ss x22) (ai (fun hg => idx_map _ hx22) ?_))
   refine bind_elim h fun x23 hx23 h => CallH.data _ false rfl (expr_Test_ok E x1 x22 x23 hx23) <| ai (by kernel_rfl) ?_
   refine SeqN.via (St.of [⟨3, AV.ptr 0 0, none⟩, ⟨11, AV.list 1 (([x11, x15, x19] : List Bytes).map AV.str), some 0⟩, ⟨12, bb x21.1, none⟩, ⟨13, ii x21.2, none⟩, ⟨14, bb x23.1, none⟩, ⟨15, ii x23.2, none⟩] [.cells 23 (S_Env.cells x1) []] [2]) ?_ ?_
   ·refine Gho.to _ _ _ [0] ?_ ?_ ?_ rfl rfl ?_
    ·exact ⟨⟨rfl, rfl, rfl⟩, trivial⟩
    ·exact rfl
    ·exact rfl
    ·exact ⟨rfl, rfl, trivial, rfl, rfl, ⟨rfl, rfl, rfl⟩, rfl, rfl, trivial, rfl, rfl, trivial, rfl, rfl, trivial, rfl, rfl, trivial, trivial⟩
   refine sj <| Or.inl <| ai ⟨lb rfl, lb rfl⟩ <| NormE.to (S_Env.av x1) (fun _ => rfl) <| bind_elim h fun x24 hx24 h => ?_
   refine ai rfl (xi (ss x24) (ai (fun hg => idx_map _ hx24) ?_))
   refine bind_elim h fun x25 hx25 h => CallH.data _ false rfl (expr_Test_ok E x1 x24 x25 hx25) <| ai (by kernel_rfl) <| sn <| sj <| bind_elim h fun x26 hx26 h => CallH.data _ false rfl (intarsialaw18_alive_ok E  x26 hx26) <| ai id <| ai id <| ai (fun hg => (and_r hg)) <| ai id <| ai id <| ai id <| ai id <| ai rfl <| ai id <| ai id <| ai (fun hg => (and_r hg)) <| ai id <| ai id <| ai id <| ai id <| ai id <| ai id <| ai id <| ai id <| ai rfl <| ai id <| ai id <| ai (fun hg => (and_r hg)) ?_
   refine SeqN.via (St.of [⟨6, bb (bif (bif (bif x26 then (x21.2 == x23.2) else false) then (bif (x21.2 != (0 : Int)) then true else (x21.1 == x23.1)) else false) then (bif (bif (x21.2 != (0 : Int)) then true else (x25.2 != (0 : Int))) then true else (x25.1 == x21.1)) else false), none⟩] [] []) ?_ ?_
   ·refine Gho.to _ _ _ [] ?_ ?_ ?_ rfl rfl ?_
    ·exact trivial
    ·exact rfl
    ·exact rfl
    ·exact tr3 <| trivial
   replace h := oi h
   refine RetE.plain ?_
   subst h; exact ai rfl (ai rfl rfl)
end Go.Proofs.YtdobepgddhbncaaGreatDoor
