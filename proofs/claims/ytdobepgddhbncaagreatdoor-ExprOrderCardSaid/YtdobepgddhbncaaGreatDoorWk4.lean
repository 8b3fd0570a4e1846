/-
  The functions do what their images say: walks, written by a program of mine (gen.py).
-/
import Derived.Test.YtdobepgddhbncaaGreatDoorIv1
import Derived.Test.YtdobepgddhbncaaGreatDoorWk3
namespace Go.Proofs.YtdobepgddhbncaaGreatDoor
open Go Go.Pm
set_option linter.unusedSimpArgs false
open And renaming intro → ai
open Exists renaming intro → xi
open Option.some renaming inj → oi
open _root_.Nat renaming le_of_ble_eq_true → lb
open Go.Pm.SeqJ renaming go → sj
open Go.Pm.SeqN renaming go → sn
set_option maxRecDepth 100000
set_option maxHeartbeats 4000000
set_option linter.unusedVariables false
theorem intarsialaw18_alive_ok (E : Pm.Env) [LaidE E] (r : Bool) (h : intarsialaw18_alive = some r) : FnR E Tryz.prog 14 [] (bb r) false := by
 refine FnR.of_ev (T := T) (rows := []) tOk mixed Tryz.func14 rfl (by kernel_rfl) (by kernel_rfl) rfl fun hwf => ?_
 unfold intarsialaw18_alive at h
 refine sj <| sn <| sj ?_
 refine xi none (ai trivial ?_)
 refine bind_elim h fun x1 hx1 h => CallH.data _ false rfl (expr_Test_ok E (S_Env.mk ([] : Bytes) ([] : Bytes) ([] : Bytes) ([] : Bytes) ([] : Bytes) ([] : Bytes)) ([49, 61, 61, 49, 32, 38, 32, 33, 40, 39, 97, 39, 62, 39, 98, 39, 41] : Bytes) x1 hx1) <| sn <| sj ?_
 refine xi none (ai trivial ?_)
 refine bind_elim h fun x2 hx2 h => CallH.data _ false rfl (expr_Test_ok E (S_Env.mk ([] : Bytes) ([] : Bytes) ([] : Bytes) ([] : Bytes) ([] : Bytes) ([] : Bytes)) ([49, 48, 60, 57] : Bytes) x2 hx2) <| sn <| sj <| ai id <| ai (fun hg => (and_r hg)) <| ai (fun hg => (and_r hg)) <| ai id <| ai (fun hg => (and_r hg)) ?_
 refine SeqN.via (St.of [⟨0, bb (bif (bif (bif (x1.2 == (0 : Int)) then (x2.2 == (0 : Int)) else false) then x1.1 else false) then (!x2.1) else false), none⟩] [] []) ?_ ?_
 ·refine Gho.to _ _ _ [] ?_ ?_ ?_ rfl rfl ?_
  ·exact trivial
  ·exact rfl
  ·exact rfl
  ·exact tr3 <| trivial
 replace h := oi h
 refine RetE.plain ?_
 subst h; exact ai rfl (ai rfl rfl)
theorem intarsialaw18_ExprOrder_1_ok (E : Pm.Env) [LaidE E] (a0 : Bytes) (r : Bytes) (h : intarsialaw18_ExprOrder_1 a0 = some r) : FnR E Tryz.prog 18 [ss a0] (ss r) false := by
 refine FnR.of_ev (T := T) (rows := []) tOk mixed Tryz.func18 rfl (by kernel_rfl) (by kernel_rfl) rfl fun hwf => ?_
 unfold intarsialaw18_ExprOrder_1 at h
 refine sj <| sn <| sj <| sn <| bind_elim h fun j1 hj1 h => ?_
 refine SeqJ.join (St.of [⟨3, ss j1, none⟩] [] []) ?_ ?_
 ·clear h; have h := hj1; clear hj1
  refine sj <| NormE.same <| ai rfl <| sn ?_
  refine LoopE.img (fun x : (Bytes × Int) => St.of [⟨0, ss a0, none⟩, ⟨3, ss x.1, none⟩, ⟨7, ii (imin (a0.length : Int) (40 : Int)), none⟩, ⟨8, ii x.2, none⟩] [] []) (intarsialaw18_ExprOrder_1_b1 a0) (([] : Bytes), (0 : Int)) h ?_ ?_
  ·refine Gho.to _ _ _ [] ?_ ?_ ?_ rfl rfl ?_
   ·exact trivial
   ·exact rfl
   ·exact rfl
   ·exact tr3 <| tr3 <| tr3 <| tr3 <| trivial
  intro n1 x y1 h hl1 hr1
  obtain ⟨s2, s3⟩ := x
  unfold intarsialaw18_ExprOrder_1_b1 at h
  dsimp only at h
  refine sj <| sn <| sj ?_
  refine Br.of h (fun ht h => ?_) fun ht h => ?_
  ·refine sn <| sj <| sj <| sn <| sj <| bind_elim h fun x4 hx4 h => ?_
   refine xi x4 (ai (fun hg => idx_some hx4) ?_)
   refine sn ?_
   refine Br.of h (fun ht h => ?_) fun ht h => ?_
   ·refine bind_elim h fun x5 hx5 h => ?_
    have qx5 := (slc_some hx5).1
    have hx5e := (slc_some hx5).2
    refine ai (fun _ => qx5) <| NormE.to (ss x5) (fun _ => congrArg ss hx5e.symm) <| bind_elim h fun x6 hx6 h => ?_
    have hx6c := (cat_some hx6).1
    have hx6e := (cat_some hx6).2
    refine ai (fun _ => hx6c) <| NormE.to (ss x6) (fun _ => congrArg ss hx6e.symm) <| sn ?_
    replace h := oi h
    refine xi ⟨(n1, (x6, (IntKind.i64.wrap (s3 + (1 : Int))))), hl1 _ h.symm⟩ (ai (Nat.lt_succ_self _) ?_)
    refine Gho.to _ _ _ [] ?_ ?_ ?_ rfl rfl ?_
    ·exact trivial
    ·exact rfl
    ·exact rfl
    ·exact tr3 <| tr3 <| tr3 <| tr3 <| trivial
   ·refine sn ?_
    replace h := oi h
    refine xi ⟨(n1, (s2, (IntKind.i64.wrap (s3 + (1 : Int))))), hl1 _ h.symm⟩ (ai (Nat.lt_succ_self _) ?_)
    refine Gho.to _ _ _ [] ?_ ?_ ?_ rfl rfl ?_
    ·exact trivial
    ·exact rfl
    ·exact rfl
    ·exact tr3 <| tr3 <| tr3 <| tr3 <| trivial
  ·replace h := oi h
   replace h := hr1 _ h.symm
   subst h
   refine Gho.to _ _ _ [] ?_ ?_ ?_ rfl rfl ?_
   ·exact trivial
   ·exact rfl
   ·exact rfl
   ·exact tr3 <| trivial
 ·clear hj1
  refine sj <| bind_elim h fun x7 hx7 h => ?_
  have hx7c := (cat_some hx7).1
  have hx7e := (cat_some hx7).2
  refine ai (fun _ => hx7c) <| NormE.to (ss x7) (fun _ => congrArg ss hx7e.symm) <| bind_elim h fun x8 hx8 h => ?_
  have hx8c := (cat_some hx8).1
  have hx8e := (cat_some hx8).2
  refine ai (fun _ => hx8c) <| NormE.to (ss x8) (fun _ => congrArg ss hx8e.symm) <| sn ?_
  replace h := oi h
  refine RetE.plain ?_
  subst h; exact ai rfl (ai rfl rfl)
theorem intarsialaw18_ExprOrder_2_ok (E : Pm.Env) [LaidE E] (a0 : Bytes) (c0 : S_Env) (c1 : Bytes) (c2 : Bytes) (r : Bool) (h : intarsialaw18_ExprOrder_2 a0 c0 c1 c2 = some r) : FnR E Tryz.prog 19 [ss a0, AV.iptr (S_Env.cells c0), AV.iptr [ss c1], AV.iptr [ss c2]] (bb r) false := by
 refine FnR.of_ev (T := T) (rows := []) tOk mixed Tryz.func19 rfl (by kernel_rfl) (by kernel_rfl) rfl fun hwf => ?_
 unfold intarsialaw18_ExprOrder_2 at h
 refine sj <| sn <| sj <| ai (lb rfl) <| NormE.to (S_Env.av c0) (fun _ => rfl) <| bind_elim h fun x1 hx1 h => ?_
 have hx1c := (cat_some hx1).1
 have hx1e := (cat_some hx1).2
 refine ai (fun _ => hx1c) <| NormE.to (ss x1) (fun _ => congrArg ss hx1e.symm) <| bind_elim h fun x2 hx2 h => ?_
 have hx2c := (cat_some hx2).1
 have hx2e := (cat_some hx2).2
 refine ai (fun _ => hx2c) <| NormE.to (ss x2) (fun _ => congrArg ss hx2e.symm) <| bind_elim h fun x3 hx3 h => CallH.data _ false rfl (expr_Test_ok E c0 x2 x3 hx3) <| sn <| sj <| ai (fun hg => (and_r hg)) ?_
 refine SeqN.via (St.of [⟨5, bb (bif (x3.2 == (0 : Int)) then x3.1 else false), none⟩] [] []) ?_ ?_
 ·refine Gho.to _ _ _ [] ?_ ?_ ?_ rfl rfl ?_
  ·exact trivial
  ·exact rfl
  ·exact rfl
  ·exact tr3 <| trivial
 replace h := oi h
 refine RetE.plain ?_
 subst h; exact ai rfl (ai rfl rfl)
theorem intarsialaw18_ExprOrder_ok (E : Pm.Env) [LaidE E] (a0 : S_Env) (a1 : Bytes) (a2 : Bytes) (a3 : Int) (a4 : Int) (r : Bool) (h : intarsialaw18_ExprOrder a0 a1 a2 a3 a4 = some r) : FnR E Tryz.prog 5 [S_Env.av a0, ss a1, ss a2, ii a3, ii a4] (bb r) false := by
 refine FnR.of_ev (T := T) (rows := []) tOk mixed Tryz.func5 rfl (by kernel_rfl) (by kernel_rfl) rfl fun hwf => ?_
 unfold intarsialaw18_ExprOrder at h
 refine sj <| ai rfl <| sn <| sj <| ai ⟨lb rfl, lb rfl⟩ <| NormE.to (S_Env.av a0) (fun _ => rfl) <| bind_elim h fun x1 hx1 h => CallH.data _ false rfl (intarsialaw18_few_ok E a0 x1 hx1) ?_
 refine ai ⟨rfl, rfl, rfl, lb rfl⟩ (xi (S_Env.cells x1) (ai (fun _ => rfl) ?_))
 refine sn <| sj <| sn <| sj <| bind_elim h fun x2 hx2 h => CallH.data _ false rfl (intarsialaw18_ExprOrder_1_ok E a1 x2 hx2) <| bind_elim h fun x3 hx3 h => CallH.data _ false rfl (intarsialaw18_ExprOrder_1_ok E a2 x3 hx3) <| ai rfl <| ai rfl ?_
 refine ai ⟨rfl, rfl, rfl, lb rfl⟩ (xi [ss x2] (ai (fun _ => rfl) ?_))
 refine ai ⟨rfl, rfl, rfl, lb rfl⟩ (xi [ss x3] (ai (fun _ => rfl) ?_))
 refine SeqN.via (St.of [⟨3, ii a3, none⟩, ⟨4, ii a4, none⟩, ⟨5, AV.ptr 0 0, none⟩, ⟨12, AV.ptr 1 0, none⟩, ⟨13, AV.ptr 2 0, none⟩] [.cells 23 (S_Env.cells x1) [], .cells 9 [ss x2] [], .cells 9 [ss x3] []] []) ?_ ?_
 ·refine Gho.to _ _ _ [] ?_ ?_ ?_ rfl rfl ?_
  ·exact ⟨⟨rfl, rfl, rfl⟩, ⟨⟨rfl, rfl, rfl⟩, ⟨⟨rfl, rfl, rfl⟩, trivial⟩⟩⟩
  ·exact rfl
  ·exact rfl
  ·exact tr3 <| tr3 <| tr3 <| tr3 <| tr3 <| trivial
 refine sj <| sj <| chk_elim h fun q4 h => ai (fun _ => q4) <| sn ?_
 refine Br.of h (fun ht h => ?_) fun ht h => ?_
 ·refine bind_elim h fun x5 hx5 h => ?_
  have hx5c := (cat_some hx5).1
  have hx5e := (cat_some hx5).2
  refine ai (fun _ => hx5c) <| NormE.to (ss x5) (fun _ => congrArg ss hx5e.symm) <| bind_elim h fun x6 hx6 h => ?_
  have hx6c := (cat_some hx6).1
  have hx6e := (cat_some hx6).2
  refine ai (fun _ => hx6c) <| NormE.to (ss x6) (fun _ => congrArg ss hx6e.symm) ?_
  refine ai ⟨rfl, rfl, rfl, lb rfl⟩ (xi [ss x6] (ai (fun _ => rfl) ?_))
  refine ai ⟨rfl, rfl, rfl, lb rfl⟩ (xi [ss ([36, 40, 72, 84, 84, 80, 95, 72, 79, 83, 84, 41] : Bytes)] (ai (fun _ => rfl) ?_))
  refine SeqN.via (St.of [⟨3, ii a3, none⟩, ⟨4, ii a4, none⟩, ⟨5, AV.iptr (S_Env.cells x1), none⟩, ⟨12, AV.iptr [ss x6], none⟩, ⟨13, AV.iptr [ss ([36, 40, 72, 84, 84, 80, 95, 72, 79, 83, 84, 41] : Bytes)], none⟩] [] []) ?_ ?_
  ·refine Gho.trans (Gho.fz [0, 1, 2] [(5, AV.iptr (S_Env.cells x1)), (12, AV.iptr [ss x6]), (13, AV.iptr [ss ([36, 40, 72, 84, 84, 80, 95, 72, 79, 83, 84, 41] : Bytes)])] ⟨Frz.ptrD rfl rfl (lb rfl), Frz.ptrD rfl rfl (lb rfl), Frz.ptrD rfl rfl (lb rfl), trivial⟩) ?_
   refine Gho.to _ _ _ [] ?_ ?_ ?_ rfl rfl ?_
   ·exact trivial
   ·exact rfl
   ·exact rfl
   ·exact tr3 <| tr3 <| tr3 <| tr3 <| tr3 <| trivial
  refine sj <| sn <| sj <| bind_elim h fun x7 hx7 h => CallH.data _ false rfl (intarsialaw18_ExprOrder_2_ok E ([60] : Bytes) x1 x6 ([36, 40, 72, 84, 84, 80, 95, 72, 79, 83, 84, 41] : Bytes) x7 hx7) <| bind_elim h fun x8 hx8 h => CallH.data _ false rfl (intarsialaw18_ExprOrder_2_ok E ([61, 61] : Bytes) x1 x6 ([36, 40, 72, 84, 84, 80, 95, 72, 79, 83, 84, 41] : Bytes) x8 hx8) <| bind_elim h fun x9 hx9 h => CallH.data _ false rfl (intarsialaw18_ExprOrder_2_ok E ([62] : Bytes) x1 x6 ([36, 40, 72, 84, 84, 80, 95, 72, 79, 83, 84, 41] : Bytes) x9 hx9) <| bind_elim h fun x10 hx10 h => CallH.data _ false rfl (intarsialaw18_ExprOrder_2_ok E ([60, 61] : Bytes) x1 x6 ([36, 40, 72, 84, 84, 80, 95, 72, 79, 83, 84, 41] : Bytes) x10 hx10) <| bind_elim h fun x11 hx11 h => CallH.data _ false rfl (intarsialaw18_ExprOrder_2_ok E ([62, 61] : Bytes) x1 x6 ([36, 40, 72, 84, 84, 80, 95, 72, 79, 83, 84, 41] : Bytes) x11 hx11) <| bind_elim h fun x12 hx12 h => CallH.data _ false rfl (intarsialaw18_ExprOrder_2_ok E ([33, 61] : Bytes) x1 x6 ([36, 40, 72, 84, 84, 80, 95, 72, 79, 83, 84, 41] : Bytes) x12 hx12) ?_
  refine SeqN.via (St.of [⟨3, ii a3, none⟩, ⟨4, ii a4, none⟩, ⟨5, AV.iptr (S_Env.cells x1), none⟩, ⟨15, bb x7, none⟩, ⟨16, bb x8, none⟩, ⟨17, bb x9, none⟩, ⟨18, bb x10, none⟩, ⟨19, bb x11, none⟩, ⟨20, bb x12, none⟩] [] []) ?_ ?_
  ·refine Gho.to _ _ _ [] ?_ ?_ ?_ rfl rfl ?_
   ·exact trivial
   ·exact rfl
   ·exact rfl
   ·exact tr3 <| tr3 <| tr3 <| tr3 <| tr3 <| tr3 <| tr3 <| tr3 <| tr3 <| trivial
  refine sj <| sn <| bind_elim h fun j13 hj13 h => ?_
  refine SeqJ.join (St.of [⟨3, ii a3, none⟩, ⟨4, ii a4, none⟩, ⟨5, AV.iptr (S_Env.cells x1), none⟩, ⟨15, bb x7, none⟩, ⟨16, bb x8, none⟩, ⟨17, bb x9, none⟩, ⟨18, bb x10, none⟩, ⟨19, bb x11, none⟩, ⟨20, bb x12, none⟩, ⟨21, ii j13, none⟩] [] []) ?_ ?_
  ·clear h; have h := hj13; clear hj13
   refine sj <| ai ⟨rfl, rfl, rfl, rfl⟩ <| ai ⟨rfl, rfl, rfl, rfl⟩ <| ai ⟨rfl, rfl, rfl, rfl⟩ <| ai ⟨rfl, rfl, rfl⟩ <| NormE.to (AV.list 1 (([x7, x8, x9] : List Bool).map AV.bool)) (fun _ => rfl) <| NormE.to (ii (([x7, x8, x9] : List Bool).length : Int)) (fun _ => len_list bb ([x7, x8, x9] : List Bool)) <| sn ?_
   refine LoopE.img (fun x : (Int × Int) => St.of [⟨3, ii a3, none⟩, ⟨4, ii a4, none⟩, ⟨5, AV.iptr (S_Env.cells x1), none⟩, ⟨15, bb x7, none⟩, ⟨16, bb x8, none⟩, ⟨17, bb x9, none⟩, ⟨18, bb x10, none⟩, ⟨19, bb x11, none⟩, ⟨20, bb x12, none⟩, ⟨21, ii x.1, none⟩, ⟨57, AV.list 1 (([x7, x8, x9] : List Bool).map AV.bool), some 0⟩, ⟨58, ii (([x7, x8, x9] : List Bool).length : Int), none⟩, ⟨59, ii x.2, none⟩] [] [2]) (intarsialaw18_ExprOrder_b1 x7 x8 x9) ((0 : Int), (0 : Int)) h ?_ ?_
   ·refine Gho.to _ _ _ [0] ?_ ?_ ?_ rfl rfl ?_
    ·exact trivial
    ·exact rfl
    ·exact rfl
    ·exact ⟨rfl, rfl, trivial, rfl, rfl, trivial, rfl, rfl, trivial, rfl, rfl, trivial, rfl, rfl, trivial, rfl, rfl, trivial, rfl, rfl, trivial, rfl, rfl, trivial, rfl, rfl, trivial, rfl, rfl, trivial, rfl, rfl, ⟨rfl, rfl, rfl⟩, rfl, rfl, trivial, rfl, rfl, trivial, trivial⟩
   intro n1 x y1 h hl1 hr1
   obtain ⟨s14, s15⟩ := x
   unfold intarsialaw18_ExprOrder_b1 at h
   dsimp only at h
   refine sj <| sn <| sj ?_
   refine Br.of h (fun ht h => ?_) fun ht h => ?_
   ·refine sn <| sj <| sj <| bind_elim h fun x16 hx16 h => ?_
    refine ai rfl (xi (bb x16) (ai (fun hg => idx_map _ hx16) ?_))
    refine sn <| sj <| sn ?_
    refine Br.of h (fun ht h => ?_) fun ht h => ?_
    ·refine sn ?_
     replace h := oi h
     refine xi ⟨(n1, ((IntKind.i64.wrap (s14 + (1 : Int))), (IntKind.i64.wrap (s15 + (1 : Int))))), hl1 _ h.symm⟩ (ai (Nat.lt_succ_self _) ?_)
     refine Gho.to _ _ _ [0] ?_ ?_ ?_ rfl rfl ?_
     ·exact trivial
     ·exact rfl
     ·exact rfl
     ·exact ⟨rfl, rfl, trivial, rfl, rfl, trivial, rfl, rfl, trivial, rfl, rfl, trivial, rfl, rfl, trivial, rfl, rfl, trivial, rfl, rfl, trivial, rfl, rfl, trivial, rfl, rfl, trivial, rfl, rfl, trivial, rfl, rfl, ⟨rfl, rfl, rfl⟩, rfl, rfl, trivial, rfl, rfl, trivial, trivial⟩
    ·refine sn ?_
     replace h := oi h
     refine xi ⟨(n1, (s14, (IntKind.i64.wrap (s15 + (1 : Int))))), hl1 _ h.symm⟩ (ai (Nat.lt_succ_self _) ?_)
     refine Gho.to _ _ _ [0] ?_ ?_ ?_ rfl rfl ?_
     ·exact trivial
     ·exact rfl
     ·exact rfl
     ·exact ⟨rfl, rfl, trivial, rfl, rfl, trivial, rfl, rfl, trivial, rfl, rfl, trivial, rfl, rfl, trivial, rfl, rfl, trivial, rfl, rfl, trivial, rfl, rfl, trivial, rfl, rfl, trivial, rfl, rfl, trivial, rfl, rfl, ⟨rfl, rfl, rfl⟩, rfl, rfl, trivial, rfl, rfl, trivial, trivial⟩
   ·replace h := oi h
    replace h := hr1 _ h.symm
    subst h
    refine Gho.to _ _ _ [] ?_ ?_ ?_ rfl rfl ?_
    ·exact trivial
    ·exact rfl
    ·exact rfl
    ·exact tr3 <| tr3 <| tr3 <| tr3 <| tr3 <| tr3 <| tr3 <| tr3 <| tr3 <| tr3 <| trivial
  ·clear hj13
   refine sj <| ai rfl <| ai rfl <| ai rfl <| ai rfl <| sn <| sj <| ai ⟨rfl, rfl, lb rfl⟩ <| ai ⟨rfl, rfl, lb rfl⟩ ?_
   refine xi (some 28) (ai (okM.mk (show (28 : Nat) = freeM T _ _ _ from by kernel_rfl)) ?_)
   refine ai ⟨rfl, rfl, lb rfl⟩ <| ai ⟨rfl, rfl, lb rfl⟩ ?_
   refine xi (some 28) (ai (okM.mk (show (28 : Nat) = freeM T _ _ _ from by kernel_rfl)) ?_)
   refine ai ⟨rfl, rfl, rfl, rfl⟩ <| ai ⟨rfl, rfl, rfl, rfl⟩ <| ai ⟨rfl, rfl, rfl⟩ <| NormE.to (AV.list 5 (([(S_Expr.mk (1 : Int) (imin (imax a3 (-1000 : Int)) (1000 : Int)) ([] : Bytes) ([] : Bytes) ([] : List S_Expr)), (S_Expr.mk (1 : Int) (imin (imax a4 (-1000 : Int)) (1000 : Int)) ([] : Bytes) ([] : Bytes) ([] : List S_Expr))] : List S_Expr).map S_Expr.avR)) (fun _ => by simp only [List.map, S_Expr.av_eq]; rfl) <| ai ⟨rfl, rfl, lb rfl⟩ <| ai ⟨rfl, rfl, lb rfl⟩ <| ai ⟨rfl, rfl, lb rfl⟩ ?_
   refine xi none (ai trivial ?_)
   refine ai rfl ?_
   refine ai ⟨rfl, rfl, rfl, lb rfl⟩ (xi [ii 7, ii 0, ss [], ss ([60] : Bytes), AV.list 5 (([(S_Expr.mk (1 : Int) (imin (imax a3 (-1000 : Int)) (1000 : Int)) ([] : Bytes) ([] : Bytes) ([] : List S_Expr)), (S_Expr.mk (1 : Int) (imin (imax a4 (-1000 : Int)) (1000 : Int)) ([] : Bytes) ([] : Bytes) ([] : List S_Expr))] : List S_Expr).map S_Expr.avR)] (ai (fun _ => rfl) ?_))
   refine SeqN.via (St.of [⟨3, ii (imin (imax a3 (-1000 : Int)) (1000 : Int)), none⟩, ⟨4, ii (imin (imax a4 (-1000 : Int)) (1000 : Int)), none⟩, ⟨5, AV.iptr (S_Env.cells x1), none⟩, ⟨15, bb x7, none⟩, ⟨16, bb x8, none⟩, ⟨17, bb x9, none⟩, ⟨18, bb x10, none⟩, ⟨19, bb x11, none⟩, ⟨20, bb x12, none⟩, ⟨21, ii j13, none⟩, ⟨24, AV.ptr 0 0, none⟩] [.cells 26 [ii 7, ii 0, ss [], ss ([60] : Bytes), AV.list 5 (([(S_Expr.mk (1 : Int) (imin (imax a3 (-1000 : Int)) (1000 : Int)) ([] : Bytes) ([] : Bytes) ([] : List S_Expr)), (S_Expr.mk (1 : Int) (imin (imax a4 (-1000 : Int)) (1000 : Int)) ([] : Bytes) ([] : Bytes) ([] : List S_Expr))] : List S_Expr).map S_Expr.avR)] []] []) ?_ ?_
   ·refine Gho.to _ _ _ [] ?_ ?_ ?_ rfl rfl ?_
    ·exact ⟨⟨rfl, rfl, rfl⟩, trivial⟩
    ·exact rfl
    ·exact rfl
    ·exact tr3 <| tr3 <| tr3 <| tr3 <| tr3 <| tr3 <| tr3 <| tr3 <| tr3 <| tr3 <| tr3 <| trivial
   refine sj <| ai (lb rfl) <| NormE.to (S_Env.av x1) (fun _ => rfl) <| ai ⟨lb rfl, lb rfl⟩ <| NormE.to (AV.agg [ii 7, ii 0, ss [], ss ([60] : Bytes), AV.list 5 (([(S_Expr.mk (1 : Int) (imin (imax a3 (-1000 : Int)) (1000 : Int)) ([] : Bytes) ([] : Bytes) ([] : List S_Expr)), (S_Expr.mk (1 : Int) (imin (imax a4 (-1000 : Int)) (1000 : Int)) ([] : Bytes) ([] : Bytes) ([] : List S_Expr))] : List S_Expr).map S_Expr.avR)]) (fun _ => rfl) <| bind_elim h fun x17 hx17 h => CallH.data _ false rfl (expr_Eval_ok E x1 (S_Expr.mk (7 : Int) (0 : Int) ([] : Bytes) ([60] : Bytes) ([(S_Expr.mk (1 : Int) (imin (imax a3 (-1000 : Int)) (1000 : Int)) ([] : Bytes) ([] : Bytes) ([] : List S_Expr)), (S_Expr.mk (1 : Int) (imin (imax a4 (-1000 : Int)) (1000 : Int)) ([] : Bytes) ([] : Bytes) ([] : List S_Expr))] : List S_Expr)) x17 hx17) <| sn <| sj <| bind_elim h fun x18 hx18 h => CallH.data _ false rfl (intarsialaw18_alive_ok E  x18 hx18) <| ai id <| ai (fun hg => (and_r hg)) <| ai id <| ai id <| ai id <| ai id <| ai id <| ai rfl <| ai (fun hg => (and_r hg)) <| ai id <| ai id <| ai id <| ai id <| ai id <| ai rfl <| ai (fun hg => (and_r hg)) <| ai id <| ai id <| ai id <| ai rfl <| ai (fun hg => (and_r hg)) <| ai id <| ai (fun hg => (and_r hg)) <| ai id <| ai id <| ai id <| ai id <| ai rfl <| ai (fun hg => (and_r hg)) ?_
   refine SeqN.via (St.of [⟨10, bb (bif (bif (bif (bif (bif (bif x18 then (j13 == (1 : Int)) else false) then (x10 == (bif x7 then true else x8)) else false) then (x11 == (bif x9 then true else x8)) else false) then (x12 == (!x8)) else false) then (x17.2 == (0 : Int)) else false) then (x17.1 == (decide ((imin (imax a3 (-1000 : Int)) (1000 : Int)) < (imin (imax a4 (-1000 : Int)) (1000 : Int))))) else false), none⟩] [] []) ?_ ?_
   ·refine Gho.to _ _ _ [] ?_ ?_ ?_ rfl rfl ?_
    ·exact trivial
    ·exact rfl
    ·exact rfl
    ·exact tr3 <| trivial
   replace h := oi h
   refine RetE.plain ?_
   subst h; exact ai rfl (ai rfl rfl)
 ·refine SeqN.via (St.of [⟨3, ii a3, none⟩, ⟨4, ii a4, none⟩, ⟨5, AV.iptr (S_Env.cells x1), none⟩, ⟨12, AV.iptr [ss x2], none⟩, ⟨13, AV.iptr [ss x3], none⟩] [] []) ?_ ?_
  ·refine Gho.trans (Gho.fz [0, 1, 2] [(5, AV.iptr (S_Env.cells x1)), (12, AV.iptr [ss x2]), (13, AV.iptr [ss x3])] ⟨Frz.ptrD rfl rfl (lb rfl), Frz.ptrD rfl rfl (lb rfl), Frz.ptrD rfl rfl (lb rfl), trivial⟩) ?_
   refine Gho.to _ _ _ [] ?_ ?_ ?_ rfl rfl ?_
   ·exact trivial
   ·exact rfl
   ·exact rfl
   ·exact tr3 <| tr3 <| tr3 <| tr3 <| tr3 <| trivial
  refine sj <| sn <| sj <| bind_elim h fun x19 hx19 h => CallH.data _ false rfl (intarsialaw18_ExprOrder_2_ok E ([60] : Bytes) x1 x2 x3 x19 hx19) <| bind_elim h fun x20 hx20 h => CallH.data _ false rfl (intarsialaw18_ExprOrder_2_ok E ([61, 61] : Bytes) x1 x2 x3 x20 hx20) <| bind_elim h fun x21 hx21 h => CallH.data _ false rfl (intarsialaw18_ExprOrder_2_ok E ([62] : Bytes) x1 x2 x3 x21 hx21) <| bind_elim h fun x22 hx22 h => CallH.data _ false rfl (intarsialaw18_ExprOrder_2_ok E ([60, 61] : Bytes) x1 x2 x3 x22 hx22) <| bind_elim h fun x23 hx23 h => CallH.data _ false rfl (intarsialaw18_ExprOrder_2_ok E ([62, 61] : Bytes) x1 x2 x3 x23 hx23) <| bind_elim h fun x24 hx24 h => CallH.data _ false rfl (intarsialaw18_ExprOrder_2_ok E ([33, 61] : Bytes) x1 x2 x3 x24 hx24) ?_
  refine SeqN.via (St.of [⟨3, ii a3, none⟩, ⟨4, ii a4, none⟩, ⟨5, AV.iptr (S_Env.cells x1), none⟩, ⟨15, bb x19, none⟩, ⟨16, bb x20, none⟩, ⟨17, bb x21, none⟩, ⟨18, bb x22, none⟩, ⟨19, bb x23, none⟩, ⟨20, bb x24, none⟩] [] []) ?_ ?_
  ·refine Gho.to _ _ _ [] ?_ ?_ ?_ rfl rfl ?_
   ·exact trivial
   ·exact rfl
   ·exact rfl
   ·exact tr3 <| tr3 <| tr3 <| tr3 <| tr3 <| tr3 <| tr3 <| tr3 <| tr3 <| trivial
  refine sj <| sn <| bind_elim h fun j25 hj25 h => ?_
  refine SeqJ.join (St.of [⟨3, ii a3, none⟩, ⟨4, ii a4, none⟩, ⟨5, AV.iptr (S_Env.cells x1), none⟩, ⟨15, bb x19, none⟩, ⟨16, bb x20, none⟩, ⟨17, bb x21, none⟩, ⟨18, bb x22, none⟩, ⟨19, bb x23, none⟩, ⟨20, bb x24, none⟩, ⟨21, ii j25, none⟩] [] []) ?_ ?_
  ·clear h; have h := hj25; clear hj25
   refine sj <| ai ⟨rfl, rfl, rfl, rfl⟩ <| ai ⟨rfl, rfl, rfl, rfl⟩ <| ai ⟨rfl, rfl, rfl, rfl⟩ <| ai ⟨rfl, rfl, rfl⟩ <| NormE.to (AV.list 1 (([x19, x20, x21] : List Bool).map AV.bool)) (fun _ => rfl) <| NormE.to (ii (([x19, x20, x21] : List Bool).length : Int)) (fun _ => len_list bb ([x19, x20, x21] : List Bool)) <| sn ?_
   refine LoopE.img (fun x : (Int × Int) => St.of [⟨3, ii a3, none⟩, ⟨4, ii a4, none⟩, ⟨5, AV.iptr (S_Env.cells x1), none⟩, ⟨15, bb x19, none⟩, ⟨16, bb x20, none⟩, ⟨17, bb x21, none⟩, ⟨18, bb x22, none⟩, ⟨19, bb x23, none⟩, ⟨20, bb x24, none⟩, ⟨21, ii x.1, none⟩, ⟨57, AV.list 1 (([x19, x20, x21] : List Bool).map AV.bool), some 0⟩, ⟨58, ii (([x19, x20, x21] : List Bool).length : Int), none⟩, ⟨59, ii x.2, none⟩] [] [2]) (intarsialaw18_ExprOrder_b2 x19 x20 x21) ((0 : Int), (0 : Int)) h ?_ ?_
   ·refine Gho.to _ _ _ [0] ?_ ?_ ?_ rfl rfl ?_
    ·exact trivial
    ·exact rfl
    ·exact rfl
    ·exact ⟨rfl, rfl, trivial, rfl, rfl, trivial, rfl, rfl, trivial, rfl, rfl, trivial, rfl, rfl, trivial, rfl, rfl, trivial, rfl, rfl, trivial, rfl, rfl, trivial, rfl, rfl, trivial, rfl, rfl, trivial, rfl, rfl, ⟨rfl, rfl, rfl⟩, rfl, rfl, trivial, rfl, rfl, trivial, trivial⟩
   intro n2 x y2 h hl2 hr2
   obtain ⟨s26, s27⟩ := x
   unfold intarsialaw18_ExprOrder_b2 at h
   dsimp only at h
   refine sj <| sn <| sj ?_
   refine Br.of h (fun ht h => ?_) fun ht h => ?_
   ·refine sn <| sj <| sj <| bind_elim h fun x28 hx28 h => ?_
    refine ai rfl (xi (bb x28) (ai (fun hg => idx_map _ hx28) ?_))
    refine sn <| sj <| sn ?_
    refine Br.of h (fun ht h => ?_) fun ht h => ?_
    ·refine sn ?_
     replace h := oi h
     refine xi ⟨(n2, ((IntKind.i64.wrap (s26 + (1 : Int))), (IntKind.i64.wrap (s27 + (1 : Int))))), hl2 _ h.symm⟩ (ai (Nat.lt_succ_self _) ?_)
     refine Gho.to _ _ _ [0] ?_ ?_ ?_ rfl rfl ?_
     ·exact trivial
     ·exact rfl
     ·exact rfl
     ·exact ⟨rfl, rfl, trivial, rfl, rfl, trivial, rfl, rfl, trivial, rfl, rfl, trivial, rfl, rfl, trivial, rfl, rfl, trivial, rfl, rfl, trivial, rfl, rfl, trivial, rfl, rfl, trivial, rfl, rfl, trivial, rfl, rfl, ⟨rfl, rfl, rfl⟩, rfl, rfl, trivial, rfl, rfl, trivial, trivial⟩
    ·refine sn ?_
     replace h := oi h
     refine xi ⟨(n2, (s26, (IntKind.i64.wrap (s27 + (1 : Int))))), hl2 _ h.symm⟩ (ai (Nat.lt_succ_self _) ?_)
     refine Gho.to _ _ _ [0] ?_ ?_ ?_ rfl rfl ?_
     ·exact trivial
     ·exact rfl
     ·exact rfl
     ·exact ⟨rfl, rfl, trivial, rfl, rfl, trivial, rfl, rfl, trivial, rfl, rfl, trivial, rfl, rfl, trivial, rfl, rfl, trivial, rfl, rfl, trivial, rfl, rfl, trivial, rfl, rfl, trivial, rfl, rfl, trivial, rfl, rfl, ⟨rfl, rfl, rfl⟩, rfl, rfl, trivial, rfl, rfl, trivial, trivial⟩
   ·replace h := oi h
    replace h := hr2 _ h.symm
    subst h
    refine Gho.to _ _ _ [] ?_ ?_ ?_ rfl rfl ?_
    ·exact trivial
    ·exact rfl
    ·exact rfl
    ·exact tr3 <| tr3 <| tr3 <| tr3 <| tr3 <| tr3 <| tr3 <| tr3 <| tr3 <| tr3 <| trivial
  ·clear hj25
   refine sj <| ai rfl <| ai rfl <| ai rfl <| ai rfl <| sn <| sj <| ai ⟨rfl, rfl, lb rfl⟩ <| ai ⟨rfl, rfl, lb rfl⟩ ?_
   refine xi (some 28) (ai (okM.mk (show (28 : Nat) = freeM T _ _ _ from by kernel_rfl)) ?_)
   refine ai ⟨rfl, rfl, lb rfl⟩ <| ai ⟨rfl, rfl, lb rfl⟩ ?_
   refine xi (some 28) (ai (okM.mk (show (28 : Nat) = freeM T _ _ _ from by kernel_rfl)) ?_)
   refine ai ⟨rfl, rfl, rfl, rfl⟩ <| ai ⟨rfl, rfl, rfl, rfl⟩ <| ai ⟨rfl, rfl, rfl⟩ <| NormE.to (AV.list 5 (([(S_Expr.mk (1 : Int) (imin (imax a3 (-1000 : Int)) (1000 : Int)) ([] : Bytes) ([] : Bytes) ([] : List S_Expr)), (S_Expr.mk (1 : Int) (imin (imax a4 (-1000 : Int)) (1000 : Int)) ([] : Bytes) ([] : Bytes) ([] : List S_Expr))] : List S_Expr).map S_Expr.avR)) (fun _ => by simp only [List.map, S_Expr.av_eq]; rfl) <| ai ⟨rfl, rfl, lb rfl⟩ <| ai ⟨rfl, rfl, lb rfl⟩ <| ai ⟨rfl, rfl, lb rfl⟩ ?_
   refine xi none (ai trivial ?_)
   refine ai rfl ?_
   refine ai ⟨rfl, rfl, rfl, lb rfl⟩ (xi [ii 7, ii 0, ss [], ss ([60] : Bytes), AV.list 5 (([(S_Expr.mk (1 : Int) (imin (imax a3 (-1000 : Int)) (1000 : Int)) ([] : Bytes) ([] : Bytes) ([] : List S_Expr)), (S_Expr.mk (1 : Int) (imin (imax a4 (-1000 : Int)) (1000 : Int)) ([] : Bytes) ([] : Bytes) ([] : List S_Expr))] : List S_Expr).map S_Expr.avR)] (ai (fun _ => rfl) ?_))
   refine SeqN.via (St.of [⟨3, ii (imin (imax a3 (-1000 : Int)) (1000 : Int)), none⟩, ⟨4, ii (imin (imax a4 (-1000 : Int)) (1000 : Int)), none⟩, ⟨5, AV.iptr (S_Env.cells x1), none⟩, ⟨15, bb x19, none⟩, ⟨16, bb x20, none⟩, ⟨17, bb x21, none⟩, ⟨18, bb x22, none⟩, ⟨19, bb x23, none⟩, ⟨20, bb x24, none⟩, ⟨21, ii j25, none⟩, ⟨24, AV.ptr 0 0, none⟩] [.cells 26 [ii 7, ii 0, ss [], ss ([60] : Bytes), AV.list 5 (([(S_Expr.mk (1 : Int) (imin (imax a3 (-1000 : Int)) (1000 : Int)) ([] : Bytes) ([] : Bytes) ([] : List S_Expr)), (S_Expr.mk (1 : Int) (imin (imax a4 (-1000 : Int)) (1000 : Int)) ([] : Bytes) ([] : Bytes) ([] : List S_Expr))] : List S_Expr).map S_Expr.avR)] []] []) ?_ ?_
   ·refine Gho.to _ _ _ [] ?_ ?_ ?_ rfl rfl ?_
    ·exact ⟨⟨rfl, rfl, rfl⟩, trivial⟩
    ·exact rfl
    ·exact rfl
    ·exact tr3 <| tr3 <| tr3 <| tr3 <| tr3 <| tr3 <| tr3 <| tr3 <| tr3 <| tr3 <| tr3 <| trivial
   refine sj <| ai (lb rfl) <| NormE.to (S_Env.av x1) (fun _ => rfl) <| ai ⟨lb rfl, lb rfl⟩ <| NormE.to (AV.agg [ii 7, ii 0, ss [], ss ([60] : Bytes), AV.list 5 (([(S_Expr.mk (1 : Int) (imin (imax a3 (-1000 : Int)) (1000 : Int)) ([] : Bytes) ([] : Bytes) ([] : List S_Expr)), (S_Expr.mk (1 : Int) (imin (imax a4 (-1000 : Int)) (1000 : Int)) ([] : Bytes) ([] : Bytes) ([] : List S_Expr))] : List S_Expr).map S_Expr.avR)]) (fun _ => rfl) <| bind_elim h fun x29 hx29 h => CallH.data _ false rfl (expr_Eval_ok E x1 (S_Expr.mk (7 : Int) (0 : Int) ([] : Bytes) ([60] : Bytes) ([(S_Expr.mk (1 : Int) (imin (imax a3 (-1000 : Int)) (1000 : Int)) ([] : Bytes) ([] : Bytes) ([] : List S_Expr)), (S_Expr.mk (1 : Int) (imin (imax a4 (-1000 : Int)) (1000 : Int)) ([] : Bytes) ([] : Bytes) ([] : List S_Expr))] : List S_Expr)) x29 hx29) <| sn <| sj <| bind_elim h fun x30 hx30 h => CallH.data _ false rfl (intarsialaw18_alive_ok E  x30 hx30) <| ai id <| ai (fun hg => (and_r hg)) <| ai id <| ai id <| ai id <| ai id <| ai id <| ai rfl <| ai (fun hg => (and_r hg)) <| ai id <| ai id <| ai id <| ai id <| ai id <| ai rfl <| ai (fun hg => (and_r hg)) <| ai id <| ai id <| ai id <| ai rfl <| ai (fun hg => (and_r hg)) <| ai id <| ai (fun hg => (and_r hg)) <| ai id <| ai id <| ai id <| ai id <| ai rfl <| ai (fun hg => (and_r hg)) ?_
   refine SeqN.via (St.of [⟨10, bb (bif (bif (bif (bif (bif (bif x30 then (j25 == (1 : Int)) else false) then (x22 == (bif x19 then true else x20)) else false) then (x23 == (bif x21 then true else x20)) else false) then (x24 == (!x20)) else false) then (x29.2 == (0 : Int)) else false) then (x29.1 == (decide ((imin (imax a3 (-1000 : Int)) (1000 : Int)) < (imin (imax a4 (-1000 : Int)) (1000 : Int))))) else false), none⟩] [] []) ?_ ?_
   ·refine Gho.to _ _ _ [] ?_ ?_ ?_ rfl rfl ?_
    ·exact trivial
    ·exact rfl
    ·exact rfl
    ·exact tr3 <| trivial
   replace h := oi h
   refine RetE.plain ?_
   subst h; exact ai rfl (ai rfl rfl)
end Go.Proofs.YtdobepgddhbncaaGreatDoor
