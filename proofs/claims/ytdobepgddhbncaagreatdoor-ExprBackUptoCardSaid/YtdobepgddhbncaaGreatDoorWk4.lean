/-
  The functions do what their images say: walks, written by a program of mine (gen.py).
-/
import Derived.Test.YtdobepgddhbncaaGreatDoorIv1
import Derived.Test.YtdobepgddhbncaaGreatDoorWk3
namespace Go.Proofs.YtdobepgddhbncaaGreatDoor
open Go Go.Pm
set_option linter.unusedSimpArgs false
open And renaming intro → ai
open Exists renaming intro → xi
open Option.some renaming inj → oi
open _root_.Nat renaming le_of_ble_eq_true → lb
open Go.Pm.SeqJ renaming go → sj
open Go.Pm.SeqN renaming go → sn
set_option maxRecDepth 100000
set_option maxHeartbeats 4000000
set_option linter.unusedVariables false
theorem intarsialaw18_alive_ok (E : Pm.Env) [LaidE E] (r : Bool) (h : intarsialaw18_alive = some r) : FnR E Tryz.prog 14 [] (bb r) false := by
 refine FnR.of_ev (T := T) (rows := []) tOk mixed Tryz.func14 rfl (by kernel_rfl) (by kernel_rfl) rfl fun hwf => ?_
 unfold intarsialaw18_alive at h
 refine sj <| sn <| sj ?_
 refine xi none (ai trivial ?_)
 refine bind_elim h fun x1 hx1 h => CallH.data _ false rfl (expr_Test_ok E (S_Env.mk ([] : Bytes) ([] : Bytes) ([] : Bytes) ([] : Bytes) ([] : Bytes) ([] : Bytes)) ([49, 61, 61, 49, 32, 38, 32, 33, 40, 39, 97, 39, 62, 39, 98, 39, 41] : Bytes) x1 hx1) <| sn <| sj ?_
 refine xi none (ai trivial ?_)
 refine bind_elim h fun x2 hx2 h => CallH.data _ false rfl (expr_Test_ok E (S_Env.mk ([] : Bytes) ([] : Bytes) ([] : Bytes) ([] : Bytes) ([] : Bytes) ([] : Bytes)) ([49, 48, 60, 57] : Bytes) x2 hx2) <| sn <| sj <| ai id <| ai (fun hg => (and_r hg)) <| ai (fun hg => (and_r hg)) <| ai id <| ai (fun hg => (and_r hg)) ?_
 refine SeqN.via (St.of [⟨0, bb (bif (bif (bif (x1.2 == (0 : Int)) then (x2.2 == (0 : Int)) else false) then x1.1 else false) then (!x2.1) else false), none⟩] [] []) ?_ ?_
 ·refine Gho.to _ _ _ [] ?_ ?_ ?_ rfl rfl ?_
  ·exact trivial
  ·exact rfl
  ·exact rfl
  ·exact tr3 <| trivial
 replace h := oi h
 refine RetE.plain ?_
 subst h; exact ai rfl (ai rfl rfl)
theorem intarsiaref18_Like_s_ok (E : Pm.Env) [LaidE E] (rec_intarsiaref18_Like : S_Expr → S_Expr → Option Bool) (rec_intarsiaref18_Like_ok : ∀ (E : Pm.Env) [LaidE E] (a0 : S_Expr) (a1 : S_Expr) (r : Bool) (h : rec_intarsiaref18_Like a0 a1 = some r), FnR E Tryz.prog 24 [S_Expr.av a0, S_Expr.av a1] (bb r) false) (a0 : S_Expr) (a1 : S_Expr) (r : Bool) (h : intarsiaref18_Like_s rec_intarsiaref18_Like a0 a1 = some r) : FnR E Tryz.prog 24 [S_Expr.av a0, S_Expr.av a1] (bb r) false := by
 refine FnR.of_ev (T := T) (rows := []) tOk mixed Tryz.func24 rfl (by kernel_rfl) (by kernel_rfl) rfl fun hwf => ?_
 unfold intarsiaref18_Like_s at h
 refine sj <| ai rfl <| ai rfl <| sn <| sj <| sj <| ai id <| ai id <| ai id <| ai id <| ai (fun hg => (and_r hg)) <| ai id <| ai id <| ai id <| ai id <| ai (fun hg => (and_r hg)) <| ai id <| ai id <| ai id <| ai id <| ai (fun hg => (and_r hg)) <| ai id <| ai id <| NormE.to (ii (a0.Kids.length : Int)) (fun _ => len_list S_Expr.avR a0.Kids) <| ai id <| ai id <| NormE.to (ii (a1.Kids.length : Int)) (fun _ => len_list S_Expr.avR a1.Kids) <| ai id <| ai id <| ai (fun hg => (and_r hg)) ?_
 refine SeqN.via (St.of [⟨2, AV.ptr 0 0, none⟩, ⟨3, AV.ptr 1 0, none⟩, ⟨40, bb (bif (bif (bif (bif (a0.Kind != a1.Kind) then true else (a0.N != a1.N)) then true else (!(a0.Text == a1.Text))) then true else (!(a0.Sign == a1.Sign))) then true else ((a0.Kids.length : Int) != (a1.Kids.length : Int))), none⟩] [.cells 26 (S_Expr.cells a0) [], .cells 26 (S_Expr.cells a1) []] []) ?_ ?_
 ·refine Gho.to _ _ _ [] ?_ ?_ ?_ rfl rfl ?_
  ·exact ⟨⟨rfl, rfl, rfl⟩, ⟨⟨rfl, rfl, rfl⟩, trivial⟩⟩
  ·exact rfl
  ·exact rfl
  ·exact tr3 <| tr3 <| tr3 <| trivial
 refine Br.of h (fun ht h => ?_) fun ht h => ?_
 ·refine sj <| sn ?_
  replace h := oi h
  refine RetE.plain ?_
  subst h; exact ai rfl (ai rfl rfl)
 ·refine sn <| sj <| sj <| NormE.to (ii (a0.Kids.length : Int)) (fun _ => len_list S_Expr.avR a0.Kids) <| sn ?_
  refine LoopE.img (fun x : Int => St.of [⟨2, AV.ptr 0 0, none⟩, ⟨3, AV.ptr 1 0, none⟩, ⟨43, ii (a0.Kids.length : Int), none⟩, ⟨44, ii x, none⟩] [.cells 26 (S_Expr.cells a0) [], .cells 26 (S_Expr.cells a1) []] []) (intarsiaref18_Like_b1 rec_intarsiaref18_Like a0 a1) (0 : Int) h ?_ ?_
  ·refine Gho.to _ _ _ [] ?_ ?_ ?_ rfl rfl ?_
   ·exact ⟨⟨rfl, rfl, rfl⟩, ⟨⟨rfl, rfl, rfl⟩, trivial⟩⟩
   ·exact rfl
   ·exact rfl
   ·exact tr3 <| tr3 <| tr3 <| tr3 <| trivial
  intro n1 x y1 h hl1 hr1
  revert h; revert x; intro s1 h
  unfold intarsiaref18_Like_b1 at h
  refine sj <| sn <| sj ?_
  refine Br.of h (fun ht h => ?_) fun ht h => ?_
  ·refine sn <| sj <| sj <| sn <| sj <| Or.inl <| bind_elim h fun x2 hx2 h => ?_
   refine ai rfl (xi (S_Expr.av x2) (ai (fun hg => S_Expr.av_eq x2 ▸ idx_map _ hx2) ?_))
   refine ai (lb rfl) <| NormE.to (S_Expr.av x2) (fun _ => rfl) <| bind_elim h fun x3 hx3 h => ?_
   refine ai rfl (xi (S_Expr.av x3) (ai (fun hg => S_Expr.av_eq x3 ▸ idx_map _ hx3) ?_))
   refine ai (lb rfl) <| NormE.to (S_Expr.av x3) (fun _ => rfl) <| bind_elim h fun x4 hx4 h => CallH.data _ false rfl (rec_intarsiaref18_Like_ok E x2 x3 x4 hx4) <| ai (by kernel_rfl) <| sn ?_
   refine Br.of h (fun ht h => ?_) fun ht h => ?_
   ·refine sj ?_
    refine SeqN.via (St.of [⟨4, bb false, none⟩] [] []) ?_ ?_
    ·refine Gho.to _ _ _ [] ?_ ?_ ?_ rfl rfl ?_
     ·exact trivial
     ·exact rfl
     ·exact rfl
     ·exact tr3 <| trivial
    replace h := oi h
    replace h := hr1 _ h.symm
    refine RetE.plain ?_
    subst h; exact ai rfl (ai rfl rfl)
   ·refine sn ?_
    replace h := oi h
    refine xi ⟨(n1, (IntKind.i64.wrap (s1 + (1 : Int)))), hl1 _ h.symm⟩ (ai (Nat.lt_succ_self _) ?_)
    refine Gho.to _ _ _ [] ?_ ?_ ?_ rfl rfl ?_
    ·exact ⟨⟨rfl, rfl, rfl⟩, ⟨⟨rfl, rfl, rfl⟩, trivial⟩⟩
    ·exact rfl
    ·exact rfl
    ·exact tr3 <| tr3 <| tr3 <| tr3 <| trivial
  ·refine sn <| sj <| sn ?_
   replace h := oi h
   replace h := hr1 _ h.symm
   refine RetE.plain ?_
   subst h; exact ai rfl (ai rfl rfl)
theorem intarsiaref18_Like_r_ok (n : Nat) : ∀ (E : Pm.Env) [LaidE E] (a0 : S_Expr) (a1 : S_Expr) (r : Bool) (h : intarsiaref18_Like_r n a0 a1 = some r), FnR E Tryz.prog 24 [S_Expr.av a0, S_Expr.av a1] (bb r) false := by
 induction n with
 | zero => intro E _ a0 a1 r h; cases (show none = some _ from h)
 | succ n ih => intro E _ a0 a1 r h; exact intarsiaref18_Like_s_ok E (intarsiaref18_Like_r n) ih a0 a1 r h
theorem intarsiaref18_Like_ok (E : Pm.Env) [LaidE E] (a0 : S_Expr) (a1 : S_Expr) (r : Bool) (h : intarsiaref18_Like a0 a1 = some r) : FnR E Tryz.prog 24 [S_Expr.av a0, S_Expr.av a1] (bb r) false := intarsiaref18_Like_r_ok 1000000 E a0 a1 r h
theorem expr_Print_ok (E : Pm.Env) [LaidE E] (a0 : S_Expr) (r : (Bytes × Int)) (h : expr_Print a0 = some r) : FnR E Tryz.prog 25 [S_Expr.av a0] (AV.tup [ss r.1, ii r.2]) false := by
 refine FnR.of_ev (T := T) (rows := []) tOk mixed Tryz.func25 rfl (by kernel_rfl) (by kernel_rfl) rfl fun hwf => ?_
 unfold expr_Print at h
 refine sj <| ai rfl <| sn <| sj <| sj <| ai ⟨lb rfl, lb rfl⟩ <| NormE.to (S_Expr.av a0) (fun _ => rfl) <| bind_elim h fun x1 hx1 h => CallH.data _ false rfl (expr_Right_ok E a0 x1 hx1) <| sn ?_
 refine Br.of h (fun ht h => ?_) fun ht h => ?_
 ·refine sj <| sn ?_
  replace h := oi h
  refine RetE.plain ?_
  subst h; exact ai rfl (ai rfl rfl)
 ·refine sn <| sj <| ai ⟨lb rfl, lb rfl⟩ <| NormE.to (S_Expr.av a0) (fun _ => rfl) <| bind_elim h fun x2 hx2 h => CallH.data _ false rfl (expr_write_ok E a0 x2 hx2) <| sn ?_
  replace h := oi h
  refine RetE.plain ?_
  subst h; exact ai rfl (ai rfl rfl)
theorem intarsialaw18_ExprBack_ok (E : Pm.Env) [LaidE E] (a0 : S_Expr) (a1 : Bytes) (r : Bool) (h : intarsialaw18_ExprBack a0 a1 = some r) : FnR E Tryz.prog 9 [S_Expr.av a0, ss a1] (bb r) false := by
 refine FnR.of_ev (T := T) (rows := []) tOk mixed Tryz.func9 rfl (by kernel_rfl) (by kernel_rfl) rfl fun hwf => ?_
 unfold intarsialaw18_ExprBack at h
 refine sj <| ai rfl <| sn <| sj <| NormE.same <| ai rfl <| bind_elim h fun x1 hx1 h => ?_
 have qx1 := (slc_some hx1).1
 have hx1e := (slc_some hx1).2
 refine ai (fun _ => qx1) <| NormE.to (ss x1) (fun _ => congrArg ss hx1e.symm) <| sn <| sj <| bind_elim h fun x2 hx2 h => CallH.data _ false rfl (expr_Parse_ok E x1 x2 hx2) <| ai rfl ?_
 refine ai ⟨rfl, rfl, rfl, lb rfl⟩ (xi (S_Expr.cells x2.1) (ai (fun _ => rfl) ?_))
 refine SeqN.via (St.of [⟨2, AV.ptr 0 0, none⟩, ⟨5, AV.ptr 1 0, none⟩] [.cells 26 (S_Expr.cells a0) [], .cells 26 (S_Expr.cells x2.1) []] []) ?_ ?_
 ·refine Gho.to _ _ _ [] ?_ ?_ ?_ rfl rfl ?_
  ·exact ⟨⟨rfl, rfl, rfl⟩, ⟨⟨rfl, rfl, rfl⟩, trivial⟩⟩
  ·exact rfl
  ·exact rfl
  ·exact tr3 <| tr3 <| trivial
 refine sj <| sj <| ai ⟨lb rfl, lb rfl⟩ <| NormE.to (S_Expr.av a0) (fun _ => rfl) <| ai ⟨lb rfl, lb rfl⟩ <| NormE.to (S_Expr.av x2.1) (fun _ => rfl) <| ai ⟨rfl, rfl, rfl, rfl⟩ <| ai ⟨rfl, rfl, rfl, rfl⟩ <| ai ⟨rfl, rfl, rfl⟩ <| NormE.to (AV.list 5 (([a0, x2.1] : List S_Expr).map S_Expr.avR)) (fun _ => by simp only [List.map, S_Expr.av_eq]; rfl) <| NormE.to (ii (([a0, x2.1] : List S_Expr).length : Int)) (fun _ => len_list S_Expr.avR ([a0, x2.1] : List S_Expr)) <| sn ?_
 refine LoopE.img (fun x : Int => St.of [⟨25, AV.list 5 (([a0, x2.1] : List S_Expr).map S_Expr.avR), some 0⟩, ⟨26, ii (([a0, x2.1] : List S_Expr).length : Int), none⟩, ⟨27, ii x, none⟩] [] [2]) (intarsialaw18_ExprBack_b1 a0 x2) (0 : Int) h ?_ ?_
 ·refine Gho.to _ _ _ [0] ?_ ?_ ?_ rfl rfl ?_
  ·exact trivial
  ·exact rfl
  ·exact rfl
  ·exact ⟨rfl, rfl, ⟨rfl, rfl, rfl⟩, rfl, rfl, trivial, rfl, rfl, trivial, trivial⟩
 intro n1 x y1 h hl1 hr1
 revert h; revert x; intro s3 h
 unfold intarsialaw18_ExprBack_b1 at h
 refine sj <| sn <| sj ?_
 refine Br.of h (fun ht h => ?_) fun ht h => ?_
 ·refine sn <| sj <| sj <| bind_elim h fun x4 hx4 h => ?_
  refine ai rfl (xi (S_Expr.av x4) (ai (fun hg => S_Expr.av_eq x4 ▸ idx_map _ hx4) ?_))
  refine ai (lb rfl) <| NormE.to (S_Expr.av x4) (fun _ => rfl) <| ai rfl ?_
  refine ai ⟨rfl, rfl, rfl, lb rfl⟩ (xi (S_Expr.cells x4) (ai (fun _ => rfl) ?_))
  refine sn <| sj <| ai ⟨lb rfl, lb rfl⟩ <| NormE.to (S_Expr.av x4) (fun _ => rfl) <| bind_elim h fun x5 hx5 h => CallH.data _ false rfl (expr_Print_ok E x4 x5 hx5) <| sn <| sj <| sj <| sn ?_
  refine Br.of h (fun ht h => ?_) fun ht h => ?_
  ·refine sn ?_
   replace h := oi h
   refine xi ⟨(n1, (IntKind.i64.wrap (s3 + (1 : Int)))), hl1 _ h.symm⟩ (ai (Nat.lt_succ_self _) ?_)
   refine Gho.to _ _ _ [0] ?_ ?_ ?_ rfl rfl ?_
   ·exact trivial
   ·exact rfl
   ·exact rfl
   ·exact ⟨rfl, rfl, ⟨rfl, rfl, rfl⟩, rfl, rfl, trivial, rfl, rfl, trivial, trivial⟩
  ·refine sn <| sj <| bind_elim h fun x6 hx6 h => CallH.data _ false rfl (expr_Parse_ok E x5.1 x6 hx6) <| ai rfl ?_
   refine ai ⟨rfl, rfl, rfl, lb rfl⟩ (xi (S_Expr.cells x6.1) (ai (fun _ => rfl) ?_))
   refine SeqN.via (St.of [⟨8, AV.ptr 0 0, none⟩, ⟨9, ss x5.1, none⟩, ⟨11, AV.ptr 1 0, none⟩, ⟨12, ii x6.2, none⟩, ⟨25, AV.list 5 (([a0, x2.1] : List S_Expr).map S_Expr.avR), some 0⟩, ⟨26, ii (([a0, x2.1] : List S_Expr).length : Int), none⟩, ⟨27, ii s3, none⟩] [.cells 26 (S_Expr.cells x4) [], .cells 26 (S_Expr.cells x6.1) []] [2]) ?_ ?_
   ·refine Gho.to _ _ _ [0] ?_ ?_ ?_ rfl rfl ?_
    ·exact ⟨⟨rfl, rfl, rfl⟩, ⟨⟨rfl, rfl, rfl⟩, trivial⟩⟩
    ·exact rfl
    ·exact rfl
    ·exact ⟨rfl, rfl, trivial, rfl, rfl, trivial, rfl, rfl, trivial, rfl, rfl, trivial, rfl, rfl, ⟨rfl, rfl, rfl⟩, rfl, rfl, trivial, rfl, rfl, trivial, trivial⟩
   refine sj <| sj <| NormE.same <| sn ?_
   refine Br.of h (fun ht h => ?_) fun ht h => ?_
   ·refine sj <| sj <| sn ?_
    refine Br.of h (fun ht h => ?_) fun ht h => ?_
    ·refine sj <| sn ?_
     replace h := oi h
     replace h := hr1 _ h.symm
     refine RetE.plain ?_
     subst h; exact ai rfl (ai rfl rfl)
    ·refine sn <| sn ?_
     replace h := oi h
     refine xi ⟨(n1, (IntKind.i64.wrap (s3 + (1 : Int)))), hl1 _ h.symm⟩ (ai (Nat.lt_succ_self _) ?_)
     refine Gho.to _ _ _ [0] ?_ ?_ ?_ rfl rfl ?_
     ·exact trivial
     ·exact rfl
     ·exact rfl
     ·exact ⟨rfl, rfl, ⟨rfl, rfl, rfl⟩, rfl, rfl, trivial, rfl, rfl, trivial, trivial⟩
   ·refine sn <| sj <| ai ⟨lb rfl, lb rfl⟩ <| NormE.to (S_Expr.av x4) (fun _ => rfl) <| ai ⟨lb rfl, lb rfl⟩ <| NormE.to (S_Expr.av x6.1) (fun _ => rfl) <| bind_elim h fun x7 hx7 h => ai id <| ai id <| ai rfl ?_
    refine CallF.mk _ false (fun hg => intarsiaref18_Like_ok E x4 x6.1 x7 (gcall_some hx7 hg)) (ai rfl ?_)
    refine ai id <| ai (fun hg => (and_r hg)) <| sn ?_
    refine Br.of h (fun ht h => ?_) fun ht h => ?_
    ·refine sj <| sn ?_
     replace h := oi h
     replace h := hr1 _ h.symm
     refine RetE.plain ?_
     subst h; exact ai rfl (ai rfl rfl)
    ·refine sn ?_
     replace h := oi h
     refine xi ⟨(n1, (IntKind.i64.wrap (s3 + (1 : Int)))), hl1 _ h.symm⟩ (ai (Nat.lt_succ_self _) ?_)
     refine Gho.to _ _ _ [0] ?_ ?_ ?_ rfl rfl ?_
     ·exact trivial
     ·exact rfl
     ·exact rfl
     ·exact ⟨rfl, rfl, ⟨rfl, rfl, rfl⟩, rfl, rfl, trivial, rfl, rfl, trivial, trivial⟩
 ·refine sn <| sj <| bind_elim h fun x8 hx8 h => CallH.data _ false rfl (intarsialaw18_alive_ok E  x8 hx8) <| sn ?_
  replace h := oi h
  replace h := hr1 _ h.symm
  refine RetE.plain ?_
  subst h; exact ai rfl (ai rfl rfl)
end Go.Proofs.YtdobepgddhbncaaGreatDoor
