/-
  The functions do what their images say: walks, written by a program of mine (gen.py).
-/
import Derived.Test.YtdobepgddhbncaaGreatDoorIv1
import Derived.Test.YtdobepgddhbncaaGreatDoorWk2
import Derived.Test.YtdobepgddhbncaaGreatDoorPm31
namespace Go.Proofs.YtdobepgddhbncaaGreatDoor
open Go Go.Pm
set_option linter.unusedSimpArgs false
open And renaming intro → ai
open Exists renaming intro → xi
open Option.some renaming inj → oi
open _root_.Nat renaming le_of_ble_eq_true → lb
open Go.Pm.SeqJ renaming go → sj
open Go.Pm.SeqN renaming go → sn
set_option maxRecDepth 100000
set_option maxHeartbeats 1000000
set_option linter.unusedVariables false
theorem expr_parser_one_s_ok (E : Pm.Env) [LaidE E] (rec_expr_parser_any : S_expr_parser → Option (S_Expr × S_expr_parser)) (rec_expr_parser_any_ok : ∀ (E : Pm.Env) [LaidE E] (o0 : S_expr_parser) (r : S_Expr) (o0' : S_expr_parser) (h : rec_expr_parser_any o0 = some (r, o0')), FnW E Tryz.prog 42 [AV.ptr 0 0] [.cells 72 (S_expr_parser.cells o0) []] [] (S_Expr.av r) none [.cells 72 (S_expr_parser.cells o0') []] []) (rec_expr_parser_one : S_expr_parser → Option (S_Expr × S_expr_parser)) (rec_expr_parser_one_ok : ∀ (E : Pm.Env) [LaidE E] (o0 : S_expr_parser) (r : S_Expr) (o0' : S_expr_parser) (h : rec_expr_parser_one o0 = some (r, o0')), FnW E Tryz.prog 66 [AV.ptr 0 0] [.cells 72 (S_expr_parser.cells o0) []] [] (S_Expr.av r) none [.cells 72 (S_expr_parser.cells o0') []] []) (o0 : S_expr_parser) (r : S_Expr) (o0' : S_expr_parser) (h : expr_parser_one_s rec_expr_parser_any rec_expr_parser_one o0 = some (r, o0')) : FnW E Tryz.prog 66 [AV.ptr 0 0] [.cells 72 (S_expr_parser.cells o0) []] [] (S_Expr.av r) none [.cells 72 (S_expr_parser.cells o0') []] [] := by
 refine FnW.of_evB (T := T) (rows := []) tOk mixed Tryz.func66 rfl (by kernel_rfl) (by kernel_rfl) rfl rfl fun hwf => ?_
 unfold expr_parser_one_s at h
 refine sj <| ai rfl <| sn <| sj <| sj <| sn ?_
 refine Br.of h (fun ht h => ?_) fun ht h => ?_
 ·refine sj ?_
  refine xi (some 31) (ai (okM.mk (show (31 : Nat) = freeM T _ _ _ from by kernel_rfl)) ?_)
  refine ai ⟨rfl, rfl, rfl, lb rfl⟩ (xi [ii 0, ii 0, ss [], ss [], AV.list 5 (([] : List S_Expr).map S_Expr.avR)] (ai (fun _ => rfl) ?_))
  refine sn ?_
  replace h := oi h
  have h0 := (Prod.mk.inj h).1
  have h1 := (Prod.mk.inj h).2
  subst h0
  subst h1
  refine xi [⟨2, AV.ptr 1 0, none⟩] (xi [.cells 72 (S_expr_parser.cells o0) [], .cells 26 [ii 0, ii 0, ss [], ss [], AV.list 5 (([] : List S_Expr).map S_Expr.avR)] []] (ai rfl (ai (Gho.to _ _ _ [] ?_ ?_ ?_ rfl rfl ?_) (ai ?_ rfl))))
  ·exact ⟨⟨rfl, rfl, rfl⟩, ⟨⟨rfl, rfl, rfl⟩, trivial⟩⟩
  ·exact rfl
  ·exact rfl
  ·exact tr3 <| trivial
  ·refine ai ⟨lb rfl, lb rfl⟩ (xi (AV.agg [ii 0, ii 0, ss [], ss [], AV.list 5 (([] : List S_Expr).map S_Expr.avR)]) (ai rfl ?_))
   exact rfl
 ·refine sj <| bind_elim h fun x1 hx1 h => CallH.ren [0] [] [.cells 72 (S_expr_parser.cells x1.2) [], .cells 26 [ii 0, ii 0, ss [], ss [], AV.list 5 (([] : List S_Expr).map S_Expr.avR)] [(4, 0)]] [2] (expr_parser_eat_ok E o0 ([33] : Bytes) x1.1 x1.2 hx1) rfl rfl rfl rfl rfl rfl rfl rfl rfl <| sn ?_
  refine Br.of h (fun ht h => ?_) fun ht h => ?_
  ·refine sj <| bind_elim h fun x2 hx2 h => CallH.ren [0] [] [.cells 72 (S_expr_parser.cells x2.2) [], .cells 26 [ii 0, ii 0, ss [], ss [], AV.list 5 (([] : List S_Expr).map S_Expr.avR)] [(4, 0)]] [2] (rec_expr_parser_one_ok E x1.2 x2.1 x2.2 hx2) rfl rfl rfl rfl rfl rfl rfl rfl rfl <| ai ⟨rfl, rfl, rfl, rfl⟩ <| ai ⟨rfl, rfl, rfl⟩ <| NormE.to (AV.list 5 (([x2.1] : List S_Expr).map S_Expr.avR)) (fun _ => by simp only [List.map, S_Expr.av_eq]; rfl) <| ai ⟨rfl, rfl, lb rfl⟩ <| ai ⟨rfl, rfl, lb rfl⟩ ?_
   refine xi none (ai trivial ?_)
   refine ai ⟨rfl, rfl, rfl, lb rfl⟩ (xi [ii 4, ii 0, ss [], ss [], AV.list 5 (([x2.1] : List S_Expr).map S_Expr.avR)] (ai (fun _ => rfl) ?_))
   refine sn ?_
   replace h := oi h
   have h0 := (Prod.mk.inj h).1
   have h1 := (Prod.mk.inj h).2
   subst h0
   subst h1
   refine xi [⟨2, AV.ptr 1 0, none⟩] (xi [.cells 72 (S_expr_parser.cells x2.2) [], .cells 26 [ii 4, ii 0, ss [], ss [], AV.list 5 (([x2.1] : List S_Expr).map S_Expr.avR)] []] (ai rfl (ai (Gho.to _ _ _ [] ?_ ?_ ?_ rfl rfl ?_) (ai ?_ rfl))))
   ·exact ⟨⟨rfl, rfl, rfl⟩, ⟨⟨rfl, rfl, rfl⟩, trivial⟩⟩
   ·exact rfl
   ·exact rfl
   ·exact tr3 <| trivial
   ·refine ai ⟨lb rfl, lb rfl⟩ (xi (AV.agg [ii 4, ii 0, ss [], ss [], AV.list 5 (([x2.1] : List S_Expr).map S_Expr.avR)]) (ai rfl ?_))
    exact rfl
  ·refine sj <| bind_elim h fun x3 hx3 h => CallH.ren [0] [] [.cells 72 (S_expr_parser.cells x3.2) [], .cells 26 [ii 0, ii 0, ss [], ss [], AV.list 5 (([] : List S_Expr).map S_Expr.avR)] [(4, 0)]] [2] (expr_parser_eat_ok E x1.2 ([40] : Bytes) x3.1 x3.2 hx3) rfl rfl rfl rfl rfl rfl rfl rfl rfl <| sn ?_
   refine Br.of h (fun ht h => ?_) fun ht h => ?_
   ·refine sj <| bind_elim h fun x4 hx4 h => CallH.ren [0] [] [.cells 72 (S_expr_parser.cells x4.2) [], .cells 26 [ii 0, ii 0, ss [], ss [], AV.list 5 (([] : List S_Expr).map S_Expr.avR)] [(4, 0)]] [2] (rec_expr_parser_any_ok E x3.2 x4.1 x4.2 hx4) rfl rfl rfl rfl rfl rfl rfl rfl rfl <| ai rfl ?_
    refine ai ⟨rfl, rfl, rfl, lb rfl⟩ (xi (S_Expr.cells x4.1) (ai (fun _ => rfl) ?_))
    refine sn <| sj <| sj <| bind_elim h fun x5 hx5 h => CallH.ren [0] [] [.cells 72 (S_expr_parser.cells x5.2) [], .cells 26 [ii 0, ii 0, ss [], ss [], AV.list 5 (([] : List S_Expr).map S_Expr.avR)] [(4, 0)], .cells 26 (S_Expr.cells x4.1) []] [2, 2] (expr_parser_eat_ok E x4.2 ([41] : Bytes) x5.1 x5.2 hx5) rfl rfl rfl rfl rfl rfl rfl rfl rfl <| sn ?_
    refine Br.of h (fun ht h => ?_) fun ht h => ?_
    ·refine sj <| bind_elim h fun x6 hx6 h => CallH.ren [0] [] [.cells 72 (S_expr_parser.cells x6.2) [], .cells 26 [ii 0, ii 0, ss [], ss [], AV.list 5 (([] : List S_Expr).map S_Expr.avR)] [(4, 0)], .cells 26 (S_Expr.cells x4.1) []] [2, 2] (expr_parser_fail_ok E x5.2 x6.1 x6.2 hx6) rfl rfl rfl rfl rfl rfl rfl rfl rfl ?_
     refine ai ⟨rfl, rfl, rfl, lb rfl⟩ (xi (S_Expr.cells x6.1) (ai (fun _ => rfl) ?_))
     refine sn ?_
     replace h := oi h
     have h0 := (Prod.mk.inj h).1
     have h1 := (Prod.mk.inj h).2
     subst h0
     subst h1
     refine xi [⟨2, AV.ptr 1 0, none⟩] (xi [.cells 72 (S_expr_parser.cells x6.2) [], .cells 26 (S_Expr.cells x6.1) []] (ai rfl (ai (Gho.to _ _ _ [] ?_ ?_ ?_ rfl rfl ?_) (ai ?_ rfl))))
     ·exact ⟨⟨rfl, rfl, rfl⟩, ⟨⟨rfl, rfl, rfl⟩, trivial⟩⟩
     ·exact rfl
     ·exact rfl
     ·exact tr3 <| trivial
     ·refine ai ⟨lb rfl, lb rfl⟩ (xi (S_Expr.av x6.1) (ai rfl ?_))
      exact rfl
    ·refine sn <| sj <| ai ⟨lb rfl, lb rfl⟩ <| NormE.to (S_Expr.av x4.1) (fun _ => rfl) ?_
     refine ai ⟨rfl, rfl, rfl, lb rfl⟩ (xi (S_Expr.cells x4.1) (ai (fun _ => rfl) ?_))
     refine sn ?_
     replace h := oi h
     have h0 := (Prod.mk.inj h).1
     have h1 := (Prod.mk.inj h).2
     subst h0
     subst h1
     refine xi [⟨2, AV.ptr 1 0, none⟩] (xi [.cells 72 (S_expr_parser.cells x5.2) [], .cells 26 (S_Expr.cells x4.1) []] (ai rfl (ai (Gho.to _ _ _ [] ?_ ?_ ?_ rfl rfl ?_) (ai ?_ rfl))))
     ·exact ⟨⟨rfl, rfl, rfl⟩, ⟨⟨rfl, rfl, rfl⟩, trivial⟩⟩
     ·exact rfl
     ·exact rfl
     ·exact tr3 <| trivial
     ·refine ai ⟨lb rfl, lb rfl⟩ (xi (S_Expr.av x4.1) (ai rfl ?_))
      exact rfl
   ·refine sn <| sj <| bind_elim h fun x7 hx7 h => CallH.ren [0] [] [.cells 72 (S_expr_parser.cells x7.2) [], .cells 26 [ii 0, ii 0, ss [], ss [], AV.list 5 (([] : List S_Expr).map S_Expr.avR)] [(4, 0)]] [2] (expr_parser_simple_ok E x3.2 x7.1 x7.2 hx7) rfl rfl rfl rfl rfl rfl rfl rfl rfl <| ai rfl ?_
    refine ai ⟨rfl, rfl, rfl, lb rfl⟩ (xi (S_Expr.cells x7.1) (ai (fun _ => rfl) ?_))
    refine sn <| sj <| bind_elim h fun x8 hx8 h => CallH.ren [0] [] [.cells 72 (S_expr_parser.cells x8.2) [], .cells 26 [ii 0, ii 0, ss [], ss [], AV.list 5 (([] : List S_Expr).map S_Expr.avR)] [(4, 0)], .cells 26 (S_Expr.cells x7.1) []] [2, 2] (expr_parser_sign_ok E x7.2 x8.1 x8.2 hx8) rfl rfl rfl rfl rfl rfl rfl rfl rfl <| sn <| sj <| sj <| sn ?_
    refine Br.of h (fun ht h => ?_) fun ht h => ?_
    ·refine sj <| ai ⟨lb rfl, lb rfl⟩ <| NormE.to (S_Expr.av x7.1) (fun _ => rfl) ?_
     refine ai ⟨rfl, rfl, rfl, lb rfl⟩ (xi (S_Expr.cells x7.1) (ai (fun _ => rfl) ?_))
     refine sn ?_
     replace h := oi h
     have h0 := (Prod.mk.inj h).1
     have h1 := (Prod.mk.inj h).2
     subst h0
     subst h1
     refine xi [⟨2, AV.ptr 1 0, none⟩] (xi [.cells 72 (S_expr_parser.cells x8.2) [], .cells 26 (S_Expr.cells x7.1) []] (ai rfl (ai (Gho.to _ _ _ [] ?_ ?_ ?_ rfl rfl ?_) (ai ?_ rfl))))
     ·exact ⟨⟨rfl, rfl, rfl⟩, ⟨⟨rfl, rfl, rfl⟩, trivial⟩⟩
     ·exact rfl
     ·exact rfl
     ·exact tr3 <| trivial
     ·refine ai ⟨lb rfl, lb rfl⟩ (xi (S_Expr.av x7.1) (ai rfl ?_))
      exact rfl
    ·refine sn <| sj <| Or.inl <| ai ⟨lb rfl, lb rfl⟩ <| NormE.to (S_Expr.av x7.1) (fun _ => rfl) <| bind_elim h fun x9 hx9 h => CallH.ren [0] [] [.cells 72 (S_expr_parser.cells x9.2) [], .cells 26 [ii 0, ii 0, ss [], ss [], AV.list 5 (([] : List S_Expr).map S_Expr.avR)] [(4, 0)], .cells 26 (S_Expr.cells x7.1) []] [2, 2] (expr_parser_simple_ok E x8.2 x9.1 x9.2 hx9) rfl rfl rfl rfl rfl rfl rfl rfl rfl <| ai ⟨rfl, rfl, rfl, rfl⟩ <| ai ⟨rfl, rfl, rfl, rfl⟩ <| ai ⟨rfl, rfl, rfl⟩ <| NormE.to (AV.list 5 (([x7.1, x9.1] : List S_Expr).map S_Expr.avR)) (fun _ => by simp only [List.map, S_Expr.av_eq]; rfl) <| ai ⟨rfl, rfl, lb rfl⟩ <| ai ⟨rfl, rfl, lb rfl⟩ <| ai ⟨rfl, rfl, lb rfl⟩ ?_
     refine xi none (ai trivial ?_)
     refine ai ⟨rfl, rfl, rfl, lb rfl⟩ (xi [ii 7, ii 0, ss [], ss x8.1, AV.list 5 (([x7.1, x9.1] : List S_Expr).map S_Expr.avR)] (ai (fun _ => rfl) ?_))
     refine ai (by kernel_rfl) <| sn ?_
     replace h := oi h
     have h0 := (Prod.mk.inj h).1
     have h1 := (Prod.mk.inj h).2
     subst h0
     subst h1
     refine xi [⟨2, AV.ptr 1 0, none⟩] (xi [.cells 72 (S_expr_parser.cells x9.2) [], .cells 26 [ii 7, ii 0, ss [], ss x8.1, AV.list 5 (([x7.1, x9.1] : List S_Expr).map S_Expr.avR)] []] (ai rfl (ai (Gho.to _ _ _ [] ?_ ?_ ?_ rfl rfl ?_) (ai ?_ rfl))))
     ·exact ⟨⟨rfl, rfl, rfl⟩, ⟨⟨rfl, rfl, rfl⟩, trivial⟩⟩
     ·exact rfl
     ·exact rfl
     ·exact tr3 <| trivial
     ·refine ai ⟨lb rfl, lb rfl⟩ (xi (AV.agg [ii 7, ii 0, ss [], ss x8.1, AV.list 5 (([x7.1, x9.1] : List S_Expr).map S_Expr.avR)]) (ai rfl ?_))
      exact rfl
theorem expr_parser_one_r_ok (rec_expr_parser_any : S_expr_parser → Option (S_Expr × S_expr_parser)) (rec_expr_parser_any_ok : ∀ (E : Pm.Env) [LaidE E] (o0 : S_expr_parser) (r : S_Expr) (o0' : S_expr_parser) (h : rec_expr_parser_any o0 = some (r, o0')), FnW E Tryz.prog 42 [AV.ptr 0 0] [.cells 72 (S_expr_parser.cells o0) []] [] (S_Expr.av r) none [.cells 72 (S_expr_parser.cells o0') []] []) (n : Nat) : ∀ (E : Pm.Env) [LaidE E] (o0 : S_expr_parser) (r : S_Expr) (o0' : S_expr_parser) (h : expr_parser_one_r rec_expr_parser_any n o0 = some (r, o0')), FnW E Tryz.prog 66 [AV.ptr 0 0] [.cells 72 (S_expr_parser.cells o0) []] [] (S_Expr.av r) none [.cells 72 (S_expr_parser.cells o0') []] [] := by
 induction n with
 | zero => intro E _ o0 r o0' h; cases (show none = some _ from h)
 | succ n ih => intro E _ o0 r o0' h; exact expr_parser_one_s_ok E rec_expr_parser_any rec_expr_parser_any_ok (expr_parser_one_r rec_expr_parser_any n) ih o0 r o0' h
theorem expr_parser_one_ok (E : Pm.Env) [LaidE E] (rec_expr_parser_any : S_expr_parser → Option (S_Expr × S_expr_parser)) (rec_expr_parser_any_ok : ∀ (E : Pm.Env) [LaidE E] (o0 : S_expr_parser) (r : S_Expr) (o0' : S_expr_parser) (h : rec_expr_parser_any o0 = some (r, o0')), FnW E Tryz.prog 42 [AV.ptr 0 0] [.cells 72 (S_expr_parser.cells o0) []] [] (S_Expr.av r) none [.cells 72 (S_expr_parser.cells o0') []] []) (o0 : S_expr_parser) (r : S_Expr) (o0' : S_expr_parser) (h : expr_parser_one rec_expr_parser_any o0 = some (r, o0')) : FnW E Tryz.prog 66 [AV.ptr 0 0] [.cells 72 (S_expr_parser.cells o0) []] [] (S_Expr.av r) none [.cells 72 (S_expr_parser.cells o0') []] [] := expr_parser_one_r_ok rec_expr_parser_any rec_expr_parser_any_ok 1000000 E o0 r o0' h
theorem expr_parser_parts_expr_parser_one_ok (E : Pm.Env) [LaidE E] (rec_expr_parser_any : S_expr_parser → Option (S_Expr × S_expr_parser)) (rec_expr_parser_any_ok : ∀ (E : Pm.Env) [LaidE E] (o0 : S_expr_parser) (r : S_Expr) (o0' : S_expr_parser) (h : rec_expr_parser_any o0 = some (r, o0')), FnW E Tryz.prog 42 [AV.ptr 0 0] [.cells 72 (S_expr_parser.cells o0) []] [] (S_Expr.av r) none [.cells 72 (S_expr_parser.cells o0') []] []) (o0 : S_expr_parser) (a1 : Int) (a2 : Bytes) (r : S_Expr) (o0' : S_expr_parser) (h : expr_parser_parts_expr_parser_one rec_expr_parser_any o0 a1 a2 = some (r, o0')) : FnW E Tryz.prog 64 [AV.ptr 0 0, ii a1, ss a2, AV.fn 66 [AV.ptr 0 0] []] [.cells 72 (S_expr_parser.cells o0) []] [] (S_Expr.av r) none [.cells 72 (S_expr_parser.cells o0') []] [] := by
 refine FnW.of_evB (T := T) (rows := []) tOk mixed Tryz.func64 rfl (by kernel_rfl) (by kernel_rfl) rfl rfl fun hwf => ?_
 unfold expr_parser_parts_expr_parser_one at h
 refine sj <| ai rfl <| sn <| sj <| bind_elim h fun x1 hx1 h => CallH.ren [0] [] [.cells 72 (S_expr_parser.cells x1.2) [], .cells 26 [ii 0, ii 0, ss [], ss [], AV.list 5 (([] : List S_Expr).map S_Expr.avR)] [(4, 0)]] [2] (expr_parser_one_ok E rec_expr_parser_any rec_expr_parser_any_ok o0 x1.1 x1.2 hx1) rfl rfl rfl rfl rfl rfl rfl rfl rfl <| ai ⟨rfl, rfl, rfl, rfl⟩ <| ai ⟨rfl, rfl, rfl⟩ <| NormE.to (AV.list 5 (([x1.1] : List S_Expr).map S_Expr.avR)) (fun _ => by simp only [List.map, S_Expr.av_eq]; rfl) <| sn <| bind_elim h fun j2 hj2 h => ?_
 refine SeqJ.join (St.of [⟨1, ii a1, none⟩, ⟨8, AV.ptr 1 0, none⟩, ⟨9, AV.list 5 (j2.1.map S_Expr.avR), some 0⟩] [.cells 72 (S_expr_parser.cells j2.2) [], .cells 26 [ii 0, ii 0, ss [], ss [], AV.list 5 (([] : List S_Expr).map S_Expr.avR)] [(4, 1)]] [1, 1]) ?_ ?_
 ·clear h; have h := hj2; clear hj2
  refine LoopE.img (fun x : ((List S_Expr) × S_expr_parser) => St.of [⟨0, AV.ptr 0 0, none⟩, ⟨1, ii a1, none⟩, ⟨2, ss a2, none⟩, ⟨3, AV.fn 66 [AV.ptr 0 0] [], none⟩, ⟨8, AV.ptr 1 0, none⟩, ⟨9, AV.list 5 (x.1.map S_Expr.avR), some 0⟩] [.cells 72 (S_expr_parser.cells x.2) [], .cells 26 [ii 0, ii 0, ss [], ss [], AV.list 5 (([] : List S_Expr).map S_Expr.avR)] [(4, 1)]] [1, 1]) (expr_parser_parts_expr_parser_one_b1 rec_expr_parser_any a2) (([x1.1] : List S_Expr), x1.2) h ?_ ?_
  ·refine Gho.to _ _ _ [1, 0] ?_ ?_ ?_ rfl rfl ?_
   ·exact ⟨⟨rfl, rfl, rfl⟩, ⟨⟨rfl, rfl, rfl⟩, trivial⟩⟩
   ·exact rfl
   ·exact rfl
   ·exact ⟨rfl, rfl, trivial, rfl, rfl, trivial, rfl, rfl, trivial, rfl, rfl, trivial, rfl, rfl, trivial, rfl, rfl, ⟨rfl, rfl, rfl⟩, trivial⟩
  intro n1 x y1 h hl1 hr1
  obtain ⟨s3, s4⟩ := x
  unfold expr_parser_parts_expr_parser_one_b1 at h
  dsimp only at h
  refine sj <| sj <| bind_elim h fun x5 hx5 h => CallH.ren [0] [] [.cells 72 (S_expr_parser.cells x5.2) [], .cells 26 [ii 0, ii 0, ss [], ss [], AV.list 5 (([] : List S_Expr).map S_Expr.avR)] [(4, 1)]] [1, 1] (expr_parser_eat_ok E s4 a2 x5.1 x5.2 hx5) rfl rfl rfl rfl rfl rfl rfl rfl rfl <| sn ?_
  refine Br.of h (fun ht h => ?_) fun ht h => ?_
  ·refine sn <| bind_elim h fun x6 hx6 h => CallH.ren [0] [] [.cells 72 (S_expr_parser.cells x6.2) [], .cells 26 [ii 0, ii 0, ss [], ss [], AV.list 5 (([] : List S_Expr).map S_Expr.avR)] [(4, 1)]] [1, 1] (expr_parser_one_ok E rec_expr_parser_any rec_expr_parser_any_ok x5.2 x6.1 x6.2 hx6) rfl rfl rfl rfl rfl rfl rfl rfl rfl <| ai ⟨rfl, rfl, rfl, rfl⟩ <| ai ⟨rfl, rfl, rfl⟩ <| NormE.to (AV.list 5 (([x6.1] : List S_Expr).map S_Expr.avR)) (fun _ => by simp only [List.map, S_Expr.av_eq]; rfl) <| bind_elim h fun x7 hx7 h => ?_
   have qx7 := (app_some hx7).1
   have hx7e := (app_some hx7).2
   refine ai ⟨rfl, rfl, rfl⟩ <| ai rfl <| ai (app_cond S_Expr.avR qx7) <| NormE.to (AV.list 5 (x7.map S_Expr.avR)) (fun _ => (app_list 5 S_Expr.avR _ _).trans (congrArg (fun y => AV.list 5 (List.map S_Expr.avR y)) hx7e.symm)) ?_
   replace h := oi h
   refine xi ⟨(n1, (x7, x6.2)), hl1 _ h.symm⟩ (ai (Nat.lt_succ_self _) ?_)
   refine Gho.to _ _ _ [3, 1] ?_ ?_ ?_ rfl rfl ?_
   ·exact ⟨⟨rfl, rfl, rfl⟩, ⟨⟨rfl, rfl, rfl⟩, trivial⟩⟩
   ·exact rfl
   ·exact rfl
   ·exact ⟨rfl, rfl, trivial, rfl, rfl, trivial, rfl, rfl, trivial, rfl, rfl, trivial, rfl, rfl, trivial, rfl, rfl, ⟨rfl, rfl, rfl⟩, trivial⟩
  ·replace h := oi h
   replace h := hr1 _ h.symm
   subst h
   refine Gho.to _ _ _ [0, 1] ?_ ?_ ?_ rfl rfl ?_
   ·exact ⟨⟨rfl, rfl, rfl⟩, ⟨⟨rfl, rfl, rfl⟩, trivial⟩⟩
   ·exact rfl
   ·exact rfl
   ·exact ⟨rfl, rfl, trivial, rfl, rfl, trivial, rfl, rfl, ⟨rfl, rfl, rfl⟩, trivial⟩
 ·clear hj2
  refine sj <| sj <| NormE.to (ii (j2.1.length : Int)) (fun _ => len_list S_Expr.avR j2.1) <| sn ?_
  refine Br.of h (fun ht h => ?_) fun ht h => ?_
  ·refine sj <| bind_elim h fun x8 hx8 h => ?_
   refine ai rfl (xi (S_Expr.av x8) (ai (fun hg => S_Expr.av_eq x8 ▸ idx_map _ hx8) ?_))
   refine ai (lb rfl) <| NormE.to (S_Expr.av x8) (fun _ => rfl) ?_
   refine ai ⟨rfl, rfl, rfl, lb rfl⟩ (xi (S_Expr.cells x8) (ai (fun _ => rfl) ?_))
   refine sn ?_
   replace h := oi h
   have h0 := (Prod.mk.inj h).1
   have h1 := (Prod.mk.inj h).2
   subst h0
   subst h1
   refine xi [⟨8, AV.ptr 1 0, none⟩] (xi [.cells 72 (S_expr_parser.cells j2.2) [], .cells 26 (S_Expr.cells x8) []] (ai rfl (ai (Gho.to _ _ _ [] ?_ ?_ ?_ rfl rfl ?_) (ai ?_ rfl))))
   ·exact ⟨⟨rfl, rfl, rfl⟩, ⟨⟨rfl, rfl, rfl⟩, trivial⟩⟩
   ·exact rfl
   ·exact rfl
   ·exact tr3 <| trivial
   ·refine ai ⟨lb rfl, lb rfl⟩ (xi (S_Expr.av x8) (ai rfl ?_))
    exact rfl
  ·refine sn <| sj <| ai ⟨rfl, rfl, lb rfl⟩ <| ai ⟨rfl, rfl, lb rfl⟩ ?_
   refine xi none (ai trivial ?_)
   refine ai ⟨rfl, rfl, rfl, lb rfl⟩ (xi [ii a1, ii 0, ss [], ss [], AV.list 5 (j2.1.map S_Expr.avR)] (ai (fun _ => rfl) ?_))
   refine sn ?_
   replace h := oi h
   have h0 := (Prod.mk.inj h).1
   have h1 := (Prod.mk.inj h).2
   subst h0
   subst h1
   refine xi [⟨8, AV.ptr 1 0, none⟩] (xi [.cells 72 (S_expr_parser.cells j2.2) [], .cells 26 [ii a1, ii 0, ss [], ss [], AV.list 5 (j2.1.map S_Expr.avR)] []] (ai rfl (ai (Gho.to _ _ _ [] ?_ ?_ ?_ rfl rfl ?_) (ai ?_ rfl))))
   ·exact ⟨⟨rfl, rfl, rfl⟩, ⟨⟨rfl, rfl, rfl⟩, trivial⟩⟩
   ·exact rfl
   ·exact rfl
   ·exact tr3 <| trivial
   ·refine ai ⟨lb rfl, lb rfl⟩ (xi (AV.agg [ii a1, ii 0, ss [], ss [], AV.list 5 (j2.1.map S_Expr.avR)]) (ai rfl ?_))
    exact rfl
theorem expr_parser_any_1_ok (E : Pm.Env) [LaidE E] (rec_expr_parser_any : S_expr_parser → Option (S_Expr × S_expr_parser)) (rec_expr_parser_any_ok : ∀ (E : Pm.Env) [LaidE E] (o0 : S_expr_parser) (r : S_Expr) (o0' : S_expr_parser) (h : rec_expr_parser_any o0 = some (r, o0')), FnW E Tryz.prog 42 [AV.ptr 0 0] [.cells 72 (S_expr_parser.cells o0) []] [] (S_Expr.av r) none [.cells 72 (S_expr_parser.cells o0') []] []) (o0 : S_expr_parser) (r : S_Expr) (o0' : S_expr_parser) (h : expr_parser_any_1 rec_expr_parser_any o0 = some (r, o0')) : FnW E Tryz.prog 65 [AV.ptr 1 0] [.cells 72 (S_expr_parser.cells o0) [], .cells 70 [AV.ptr 0 0] []] [] (S_Expr.av r) none [.cells 72 (S_expr_parser.cells o0') [], .cells 70 [AV.ptr 0 0] []] [] := by
 refine FnW.of_evB (T := T) (rows := []) tOk mixed Tryz.func65 rfl (by kernel_rfl) (by kernel_rfl) rfl rfl fun hwf => ?_
 unfold expr_parser_any_1 at h
 refine sj <| ai rfl ?_
 refine SeqN.via (St.of [⟨0, AV.ptr 1 0, none⟩, ⟨1, AV.ptr 2 0, none⟩] [.cells 72 (S_expr_parser.cells o0) [], .cells 70 [AV.ptr 0 0] [], .cells 26 [ii 0, ii 0, ss [], ss [], AV.list 5 (([] : List S_Expr).map S_Expr.avR)] [(4, 0)]] [1]) ?_ ?_
 ·refine Gho.to _ _ _ [0] ?_ ?_ ?_ rfl rfl ?_
  ·exact W
  ·exact rfl
  ·exact rfl
  ·exact tr3 <| tr3 <| trivial
 refine sj <| bind_elim h fun x1 hx1 h => CallH.ren [0] [] [.cells 72 (S_expr_parser.cells x1.2) [], .cells 70 [AV.ptr 0 0] [], .cells 26 [ii 0, ii 0, ss [], ss [], AV.list 5 (([] : List S_Expr).map S_Expr.avR)] [(4, 0)]] [1] (expr_parser_parts_expr_parser_one_ok E rec_expr_parser_any rec_expr_parser_any_ok o0 (5 : Int) ([38] : Bytes) x1.1 x1.2 hx1) rfl rfl rfl rfl rfl rfl rfl rfl rfl ?_
 refine ai ⟨rfl, rfl, rfl, lb rfl⟩ (xi (S_Expr.cells x1.1) (ai (fun _ => rfl) ?_))
 refine sn ?_
 replace h := oi h
 have h0 := (Prod.mk.inj h).1
 have h1 := (Prod.mk.inj h).2
 subst h0
 subst h1
 refine xi [⟨1, AV.ptr 2 0, none⟩] (xi [.cells 72 (S_expr_parser.cells x1.2) [], .cells 70 [AV.ptr 0 0] [], .cells 26 (S_Expr.cells x1.1) []] (ai rfl (ai (Gho.to _ _ _ [] ?_ ?_ ?_ rfl rfl ?_) (ai ?_ rfl))))
 ·exact ⟨⟨rfl, rfl, rfl⟩, ⟨⟨rfl, rfl, rfl⟩, ⟨⟨rfl, rfl, rfl⟩, trivial⟩⟩⟩
 ·exact rfl
 ·exact rfl
 ·exact tr3 <| trivial
 ·refine ai ⟨lb rfl, lb rfl⟩ (xi (S_Expr.av x1.1) (ai rfl ?_))
  exact rfl
theorem expr_parser_parts_expr_parser_any_1_ok (E : Pm.Env) [LaidE E] (rec_expr_parser_any : S_expr_parser → Option (S_Expr × S_expr_parser)) (rec_expr_parser_any_ok : ∀ (E : Pm.Env) [LaidE E] (o0 : S_expr_parser) (r : S_Expr) (o0' : S_expr_parser) (h : rec_expr_parser_any o0 = some (r, o0')), FnW E Tryz.prog 42 [AV.ptr 0 0] [.cells 72 (S_expr_parser.cells o0) []] [] (S_Expr.av r) none [.cells 72 (S_expr_parser.cells o0') []] []) (o0 : S_expr_parser) (a1 : Int) (a2 : Bytes) (r : S_Expr) (o0' : S_expr_parser) (h : expr_parser_parts_expr_parser_any_1 rec_expr_parser_any o0 a1 a2 = some (r, o0')) : FnW E Tryz.prog 64 [AV.ptr 0 0, ii a1, ss a2, AV.fn 65 [] [AV.ptr 1 0]] [.cells 72 (S_expr_parser.cells o0) [], .cells 70 [AV.ptr 0 0] []] [] (S_Expr.av r) none [.cells 72 (S_expr_parser.cells o0') [], .cells 70 [AV.ptr 0 0] []] [] := by
 refine FnW.of_evB (T := T) (rows := []) tOk mixed Tryz.func64 rfl (by kernel_rfl) (by kernel_rfl) rfl rfl fun hwf => ?_
 unfold expr_parser_parts_expr_parser_any_1 at h
 refine sj <| ai rfl <| sn <| sj <| bind_elim h fun x1 hx1 h => CallH.ren [0, 1] [] [.cells 72 (S_expr_parser.cells x1.2) [], .cells 70 [AV.ptr 0 0] [], .cells 26 [ii 0, ii 0, ss [], ss [], AV.list 5 (([] : List S_Expr).map S_Expr.avR)] [(4, 0)]] [2] (expr_parser_any_1_ok E rec_expr_parser_any rec_expr_parser_any_ok o0 x1.1 x1.2 hx1) rfl rfl rfl rfl rfl rfl rfl rfl rfl <| ai ⟨rfl, rfl, rfl, rfl⟩ <| ai ⟨rfl, rfl, rfl⟩ <| NormE.to (AV.list 5 (([x1.1] : List S_Expr).map S_Expr.avR)) (fun _ => by simp only [List.map, S_Expr.av_eq]; rfl) <| sn <| bind_elim h fun j2 hj2 h => ?_
 refine SeqJ.join (St.of [⟨1, ii a1, none⟩, ⟨8, AV.ptr 2 0, none⟩, ⟨9, AV.list 5 (j2.1.map S_Expr.avR), some 0⟩] [.cells 72 (S_expr_parser.cells j2.2) [], .cells 70 [AV.ptr 0 0] [], .cells 26 [ii 0, ii 0, ss [], ss [], AV.list 5 (([] : List S_Expr).map S_Expr.avR)] [(4, 1)]] [1, 1]) ?_ ?_
 ·clear h; have h := hj2; clear hj2
  refine LoopE.img (fun x : ((List S_Expr) × S_expr_parser) => St.of [⟨0, AV.ptr 0 0, none⟩, ⟨1, ii a1, none⟩, ⟨2, ss a2, none⟩, ⟨3, AV.fn 65 [] [AV.ptr 1 0], none⟩, ⟨8, AV.ptr 2 0, none⟩, ⟨9, AV.list 5 (x.1.map S_Expr.avR), some 0⟩] [.cells 72 (S_expr_parser.cells x.2) [], .cells 70 [AV.ptr 0 0] [], .cells 26 [ii 0, ii 0, ss [], ss [], AV.list 5 (([] : List S_Expr).map S_Expr.avR)] [(4, 1)]] [1, 1]) (expr_parser_parts_expr_parser_any_1_b1 rec_expr_parser_any a2) (([x1.1] : List S_Expr), x1.2) h ?_ ?_
  ·refine Gho.to _ _ _ [1, 0] ?_ ?_ ?_ rfl rfl ?_
   ·exact ⟨⟨rfl, rfl, rfl⟩, ⟨⟨rfl, rfl, rfl⟩, ⟨⟨rfl, rfl, rfl⟩, trivial⟩⟩⟩
   ·exact rfl
   ·exact rfl
   ·exact ⟨rfl, rfl, trivial, rfl, rfl, trivial, rfl, rfl, trivial, rfl, rfl, trivial, rfl, rfl, trivial, rfl, rfl, ⟨rfl, rfl, rfl⟩, trivial⟩
  intro n1 x y1 h hl1 hr1
  obtain ⟨s3, s4⟩ := x
  unfold expr_parser_parts_expr_parser_any_1_b1 at h
  dsimp only at h
  refine sj <| sj <| bind_elim h fun x5 hx5 h => CallH.ren [0] [] [.cells 72 (S_expr_parser.cells x5.2) [], .cells 70 [AV.ptr 0 0] [], .cells 26 [ii 0, ii 0, ss [], ss [], AV.list 5 (([] : List S_Expr).map S_Expr.avR)] [(4, 1)]] [1, 1] (expr_parser_eat_ok E s4 a2 x5.1 x5.2 hx5) rfl rfl rfl rfl rfl rfl rfl rfl rfl <| sn ?_
  refine Br.of h (fun ht h => ?_) fun ht h => ?_
  ·refine sn <| bind_elim h fun x6 hx6 h => CallH.ren [0, 1] [] [.cells 72 (S_expr_parser.cells x6.2) [], .cells 70 [AV.ptr 0 0] [], .cells 26 [ii 0, ii 0, ss [], ss [], AV.list 5 (([] : List S_Expr).map S_Expr.avR)] [(4, 1)]] [1, 1] (expr_parser_any_1_ok E rec_expr_parser_any rec_expr_parser_any_ok x5.2 x6.1 x6.2 hx6) rfl rfl rfl rfl rfl rfl rfl rfl rfl <| ai ⟨rfl, rfl, rfl, rfl⟩ <| ai ⟨rfl, rfl, rfl⟩ <| NormE.to (AV.list 5 (([x6.1] : List S_Expr).map S_Expr.avR)) (fun _ => by simp only [List.map, S_Expr.av_eq]; rfl) <| bind_elim h fun x7 hx7 h => ?_
   have qx7 := (app_some hx7).1
   have hx7e := (app_some hx7).2
   refine ai ⟨rfl, rfl, rfl⟩ <| ai rfl <| ai (app_cond S_Expr.avR qx7) <| NormE.to (AV.list 5 (x7.map S_Expr.avR)) (fun _ => (app_list 5 S_Expr.avR _ _).trans (congrArg (fun y => AV.list 5 (List.map S_Expr.avR y)) hx7e.symm)) ?_
   replace h := oi h
   refine xi ⟨(n1, (x7, x6.2)), hl1 _ h.symm⟩ (ai (Nat.lt_succ_self _) ?_)
   refine Gho.to _ _ _ [3, 1] ?_ ?_ ?_ rfl rfl ?_
   ·exact ⟨⟨rfl, rfl, rfl⟩, ⟨⟨rfl, rfl, rfl⟩, ⟨⟨rfl, rfl, rfl⟩, trivial⟩⟩⟩
   ·exact rfl
   ·exact rfl
   ·exact ⟨rfl, rfl, trivial, rfl, rfl, trivial, rfl, rfl, trivial, rfl, rfl, trivial, rfl, rfl, trivial, rfl, rfl, ⟨rfl, rfl, rfl⟩, trivial⟩
  ·replace h := oi h
   replace h := hr1 _ h.symm
   subst h
   refine Gho.to _ _ _ [0, 1] ?_ ?_ ?_ rfl rfl ?_
   ·exact ⟨⟨rfl, rfl, rfl⟩, ⟨⟨rfl, rfl, rfl⟩, ⟨⟨rfl, rfl, rfl⟩, trivial⟩⟩⟩
   ·exact rfl
   ·exact rfl
   ·exact ⟨rfl, rfl, trivial, rfl, rfl, trivial, rfl, rfl, ⟨rfl, rfl, rfl⟩, trivial⟩
 ·clear hj2
  refine sj <| sj <| NormE.to (ii (j2.1.length : Int)) (fun _ => len_list S_Expr.avR j2.1) <| sn ?_
  refine Br.of h (fun ht h => ?_) fun ht h => ?_
  ·refine sj <| bind_elim h fun x8 hx8 h => ?_
   refine ai rfl (xi (S_Expr.av x8) (ai (fun hg => S_Expr.av_eq x8 ▸ idx_map _ hx8) ?_))
   refine ai (lb rfl) <| NormE.to (S_Expr.av x8) (fun _ => rfl) ?_
   refine ai ⟨rfl, rfl, rfl, lb rfl⟩ (xi (S_Expr.cells x8) (ai (fun _ => rfl) ?_))
   refine sn ?_
   replace h := oi h
   have h0 := (Prod.mk.inj h).1
   have h1 := (Prod.mk.inj h).2
   subst h0
   subst h1
   refine xi [⟨8, AV.ptr 2 0, none⟩] (xi [.cells 72 (S_expr_parser.cells j2.2) [], .cells 70 [AV.ptr 0 0] [], .cells 26 (S_Expr.cells x8) []] (ai rfl (ai (Gho.to _ _ _ [] ?_ ?_ ?_ rfl rfl ?_) (ai ?_ rfl))))
   ·exact ⟨⟨rfl, rfl, rfl⟩, ⟨⟨rfl, rfl, rfl⟩, ⟨⟨rfl, rfl, rfl⟩, trivial⟩⟩⟩
   ·exact rfl
   ·exact rfl
   ·exact tr3 <| trivial
   ·refine ai ⟨lb rfl, lb rfl⟩ (xi (S_Expr.av x8) (ai rfl ?_))
    exact rfl
  ·refine sn <| sj <| ai ⟨rfl, rfl, lb rfl⟩ <| ai ⟨rfl, rfl, lb rfl⟩ ?_
   refine xi none (ai trivial ?_)
   refine ai ⟨rfl, rfl, rfl, lb rfl⟩ (xi [ii a1, ii 0, ss [], ss [], AV.list 5 (j2.1.map S_Expr.avR)] (ai (fun _ => rfl) ?_))
   refine sn ?_
   replace h := oi h
   have h0 := (Prod.mk.inj h).1
   have h1 := (Prod.mk.inj h).2
   subst h0
   subst h1
   refine xi [⟨8, AV.ptr 2 0, none⟩] (xi [.cells 72 (S_expr_parser.cells j2.2) [], .cells 70 [AV.ptr 0 0] [], .cells 26 [ii a1, ii 0, ss [], ss [], AV.list 5 (j2.1.map S_Expr.avR)] []] (ai rfl (ai (Gho.to _ _ _ [] ?_ ?_ ?_ rfl rfl ?_) (ai ?_ rfl))))
   ·exact ⟨⟨rfl, rfl, rfl⟩, ⟨⟨rfl, rfl, rfl⟩, ⟨⟨rfl, rfl, rfl⟩, trivial⟩⟩⟩
   ·exact rfl
   ·exact rfl
   ·exact tr3 <| trivial
   ·refine ai ⟨lb rfl, lb rfl⟩ (xi (AV.agg [ii a1, ii 0, ss [], ss [], AV.list 5 (j2.1.map S_Expr.avR)]) (ai rfl ?_))
    exact rfl
theorem expr_parser_any_s_ok (E : Pm.Env) [LaidE E] (rec_expr_parser_any : S_expr_parser → Option (S_Expr × S_expr_parser)) (rec_expr_parser_any_ok : ∀ (E : Pm.Env) [LaidE E] (o0 : S_expr_parser) (r : S_Expr) (o0' : S_expr_parser) (h : rec_expr_parser_any o0 = some (r, o0')), FnW E Tryz.prog 42 [AV.ptr 0 0] [.cells 72 (S_expr_parser.cells o0) []] [] (S_Expr.av r) none [.cells 72 (S_expr_parser.cells o0') []] []) (o0 : S_expr_parser) (r : S_Expr) (o0' : S_expr_parser) (h : expr_parser_any_s rec_expr_parser_any o0 = some (r, o0')) : FnW E Tryz.prog 42 [AV.ptr 0 0] [.cells 72 (S_expr_parser.cells o0) []] [] (S_Expr.av r) none [.cells 72 (S_expr_parser.cells o0') []] [] := by
 refine FnW.of_evB (T := T) (rows := []) tOk mixed Tryz.func42 rfl (by kernel_rfl) (by kernel_rfl) rfl rfl fun hwf => ?_
 unfold expr_parser_any_s at h
 refine sj <| ai rfl <| ai rfl ?_
 refine SeqN.via (St.of [⟨1, AV.ptr 1 0, none⟩, ⟨2, AV.ptr 2 0, none⟩] [.cells 72 (S_expr_parser.cells o0) [], .cells 70 [AV.ptr 0 0] [], .cells 26 [ii 0, ii 0, ss [], ss [], AV.list 5 (([] : List S_Expr).map S_Expr.avR)] [(4, 0)]] [1]) ?_ ?_
 ·refine Gho.to _ _ _ [0] ?_ ?_ ?_ rfl rfl ?_
  ·exact W
  ·exact rfl
  ·exact rfl
  ·exact tr3 <| tr3 <| trivial
 refine sj <| bind_elim h fun x1 hx1 h => CallH.ren [0, 1] [] [.cells 72 (S_expr_parser.cells x1.2) [], .cells 70 [AV.ptr 0 0] [], .cells 26 [ii 0, ii 0, ss [], ss [], AV.list 5 (([] : List S_Expr).map S_Expr.avR)] [(4, 0)]] [1] (expr_parser_parts_expr_parser_any_1_ok E rec_expr_parser_any rec_expr_parser_any_ok o0 (6 : Int) ([124] : Bytes) x1.1 x1.2 hx1) rfl rfl rfl rfl rfl rfl rfl rfl rfl ?_
 refine ai ⟨rfl, rfl, rfl, lb rfl⟩ (xi (S_Expr.cells x1.1) (ai (fun _ => rfl) ?_))
 refine sn ?_
 replace h := oi h
 have h0 := (Prod.mk.inj h).1
 have h1 := (Prod.mk.inj h).2
 subst h0
 subst h1
 refine xi [⟨2, AV.ptr 2 0, none⟩] (xi [.cells 72 (S_expr_parser.cells x1.2) [], .dead, .cells 26 (S_Expr.cells x1.1) []] (ai rfl (ai (Gho.to _ _ _ [] ?_ ?_ ?_ rfl rfl ?_) (ai ?_ rfl))))
 ·exact ⟨⟨rfl, rfl, rfl⟩, ⟨trivial, ⟨⟨rfl, rfl, rfl⟩, trivial⟩⟩⟩
 ·exact rfl
 ·exact rfl
 ·exact tr3 <| trivial
 ·refine ai ⟨lb rfl, lb rfl⟩ (xi (S_Expr.av x1.1) (ai rfl ?_))
  exact rfl
theorem expr_parser_any_r_ok (n : Nat) : ∀ (E : Pm.Env) [LaidE E] (o0 : S_expr_parser) (r : S_Expr) (o0' : S_expr_parser) (h : expr_parser_any_r n o0 = some (r, o0')), FnW E Tryz.prog 42 [AV.ptr 0 0] [.cells 72 (S_expr_parser.cells o0) []] [] (S_Expr.av r) none [.cells 72 (S_expr_parser.cells o0') []] [] := by
 induction n with
 | zero => intro E _ o0 r o0' h; cases (show none = some _ from h)
 | succ n ih => intro E _ o0 r o0' h; exact expr_parser_any_s_ok E (expr_parser_any_r n) ih o0 r o0' h
theorem expr_parser_any_ok (E : Pm.Env) [LaidE E] (o0 : S_expr_parser) (r : S_Expr) (o0' : S_expr_parser) (h : expr_parser_any o0 = some (r, o0')) : FnW E Tryz.prog 42 [AV.ptr 0 0] [.cells 72 (S_expr_parser.cells o0) []] [] (S_Expr.av r) none [.cells 72 (S_expr_parser.cells o0') []] [] := expr_parser_any_r_ok 1000000 E o0 r o0' h
theorem expr_few_ok (E : Pm.Env) [LaidE E] (a0 : S_Expr) (r : Bool) (h : expr_few a0 = some r) : FnR E Tryz.prog 44 [S_Expr.av a0] (bb r) false := by
 refine FnR.of_ev (T := T) (rows := []) tOk mixed Tryz.func44 rfl (by kernel_rfl) (by kernel_rfl) rfl fun hwf => ?_
 unfold expr_few at h
 refine sj <| ai rfl <| sn <| sj <| ai ⟨lb rfl, lb rfl⟩ <| NormE.to (S_Expr.av a0) (fun _ => rfl) <| ai ⟨rfl, rfl, rfl, rfl⟩ <| ai ⟨rfl, rfl, rfl⟩ <| NormE.to (AV.list 5 (([a0] : List S_Expr).map S_Expr.avR)) (fun _ => by simp only [List.map, S_Expr.av_eq]; rfl) <| sn <| sj <| sj <| sn ?_
 refine LoopE.img (fun x : ((List S_Expr) × Int) => St.of [⟨3, AV.list 5 (x.1.map S_Expr.avR), some 0⟩, ⟨4, ii x.2, none⟩] [] [1]) expr_few_b1 (([a0] : List S_Expr), (0 : Int)) h ?_ ?_
 ·exact W
 intro n1 x y1 h hl1 hr1
 obtain ⟨s1, s2⟩ := x
 unfold expr_few_b1 at h
 dsimp only at h
 refine sj <| sj <| NormE.to (ii (s1.length : Int)) (fun _ => len_list S_Expr.avR s1) <| sn ?_
 refine Br.of h (fun ht h => ?_) fun ht h => ?_
 ·refine sn <| sj <| sj <| sj <| bind_elim h fun x3 hx3 h => ?_
  refine ai rfl (xi (S_Expr.av x3) (ai (fun hg => S_Expr.av_eq x3 ▸ idx_map _ hx3) ?_))
  refine NormE.to (ii (x3.Kids.length : Int)) (fun _ => len_list S_Expr.avR x3.Kids) <| NormE.to (ii (s1.length : Int)) (fun _ => len_list S_Expr.avR s1) <| sn ?_
  refine Br.of h (fun ht h => ?_) fun ht h => ?_
  ·exact W
  ·refine sn <| bind_elim h fun x4 hx4 h => ?_
   refine ai rfl (xi (S_Expr.av x4) (ai (fun hg => S_Expr.av_eq x4 ▸ idx_map _ hx4) ?_))
   exact W
 ·exact W
instance expr_few_ok_i (E : Pm.Env) [LaidE E] (a0 : S_Expr) : Ok E (expr_few a0) (fun r => FnR E Tryz.prog 44 [S_Expr.av a0] (bb r) false) := ⟨expr_few_ok E a0⟩
theorem expr_row_ok (E : Pm.Env) [LaidE E] (a0 : S_Expr) (r : Bool) (h : expr_row a0 = some r) : FnR E Tryz.prog 68 [S_Expr.av a0] (bb r) false := by
 refine FnR.of_ev (T := T) (rows := []) tOk mixed Tryz.func68 rfl (by kernel_rfl) (by kernel_rfl) rfl fun hwf => ?_
 unfold expr_row at h
 exact W
instance expr_row_ok_i (E : Pm.Env) [LaidE E] (a0 : S_Expr) : Ok E (expr_row a0) (fun r => FnR E Tryz.prog 68 [S_Expr.av a0] (bb r) false) := ⟨expr_row_ok E a0⟩
theorem expr_deep_s_ok (E : Pm.Env) [LaidE E] (rec_expr_deep : S_Expr → Option Int) (rec_expr_deep_ok : ∀ (E : Pm.Env) [LaidE E] (a0 : S_Expr) (r : Int) (h : rec_expr_deep a0 = some r), FnR E Tryz.prog 45 [S_Expr.av a0] (ii r) false) (a0 : S_Expr) (r : Int) (h : expr_deep_s rec_expr_deep a0 = some r) : FnR E Tryz.prog 45 [S_Expr.av a0] (ii r) false := by
 refine FnR.of_ev (T := T) (rows := []) tOk mixed Tryz.func45 rfl (by kernel_rfl) (by kernel_rfl) rfl fun hwf => ?_
 unfold expr_deep_s at h
 refine sj <| ai rfl <| sn <| sj <| sn <| bind_elim h fun j1 hj1 h => ?_
 refine SeqJ.join (St.of [⟨1, AV.ptr 0 0, none⟩, ⟨3, ii j1, none⟩] [.cells 26 (S_Expr.cells a0) []] []) ?_ ?_
 ·clear h; have h := hj1; clear hj1
  refine sj <| NormE.to (ii (a0.Kids.length : Int)) (fun _ => len_list S_Expr.avR a0.Kids) <| sn ?_
  refine LoopE.img (fun x : (Int × Int) => St.of [⟨1, AV.ptr 0 0, none⟩, ⟨3, ii x.1, none⟩, ⟨8, AV.list 5 (a0.Kids.map S_Expr.avR), none⟩, ⟨9, ii (a0.Kids.length : Int), none⟩, ⟨10, ii x.2, none⟩] [.cells 26 (S_Expr.cells a0) []] []) (expr_deep_b1 rec_expr_deep a0) ((0 : Int), (0 : Int)) h ?_ ?_
  ·exact W
  intro n1 x y1 h hl1 hr1
  obtain ⟨s2, s3⟩ := x
  unfold expr_deep_b1 at h
  dsimp only at h
  refine sj <| sn <| sj ?_
  refine Br.of h (fun ht h => ?_) fun ht h => ?_
  ·refine sn <| sj <| sj <| bind_elim h fun x4 hx4 h => ?_
   refine ai rfl (xi (S_Expr.av x4) (ai (fun hg => S_Expr.av_eq x4 ▸ idx_map _ hx4) ?_))
   refine ai (lb rfl) <| NormE.to (S_Expr.av x4) (fun _ => rfl) <| ai rfl ?_
   refine ai ⟨rfl, rfl, rfl, lb rfl⟩ (xi (S_Expr.cells x4) (ai (fun _ => rfl) ?_))
   refine sn <| sj <| ai ⟨lb rfl, lb rfl⟩ <| NormE.to (S_Expr.av x4) (fun _ => rfl) <| bind_elim h fun x5 hx5 h => CallH.data _ false rfl (rec_expr_deep_ok E x4 x5 hx5) <| sn <| sj <| sj <| ai ⟨lb rfl, lb rfl⟩ <| NormE.to (S_Expr.av x4) (fun _ => rfl) <| bind_elim h fun x6 hx6 h => CallH.data _ false rfl (expr_row_ok E x4 x6 hx6) <| sn ?_
   exact W
  ·exact W
 ·clear hj1
  exact W
theorem expr_deep_r_ok (n : Nat) : ∀ (E : Pm.Env) [LaidE E] (a0 : S_Expr) (r : Int) (h : expr_deep_r n a0 = some r), FnR E Tryz.prog 45 [S_Expr.av a0] (ii r) false := by
 induction n with
 | zero => intro E _ a0 r h; cases (show none = some _ from h)
 | succ n ih => intro E _ a0 r h; exact expr_deep_s_ok E (expr_deep_r n) ih a0 r h
theorem expr_deep_ok (E : Pm.Env) [LaidE E] (a0 : S_Expr) (r : Int) (h : expr_deep a0 = some r) : FnR E Tryz.prog 45 [S_Expr.av a0] (ii r) false := expr_deep_r_ok 1000000 E a0 r h
theorem expr_Parse_ok (E : Pm.Env) [LaidE E] (a0 : Bytes) (r : (S_Expr × Int)) (h : expr_Parse a0 = some r) : FnR E Tryz.prog 23 [ss a0] (AV.tup [S_Expr.av r.1, ii r.2]) false := by
 refine FnR.of_ev (T := T) (rows := []) tOk mixed Tryz.func23 rfl (by kernel_rfl) (by kernel_rfl) rfl fun hwf => ?_
 unfold expr_Parse at h
 refine sj <| ai rfl <| sn <| sj <| sj <| NormE.same <| sn ?_
 refine Br.of h (fun ht h => ?_) fun ht h => ?_
 ·refine sj ?_
  refine xi (some 31) (ai (okM.mk (show (31 : Nat) = freeM T _ _ _ from by kernel_rfl)) ?_)
  exact W
 ·refine sn <| sj <| ai ⟨rfl, rfl, lb rfl⟩ ?_
  refine xi none (ai trivial ?_)
  refine ai rfl <| sn <| sj <| bind_elim h fun x1 hx1 h => CallH.ren [1] [] [.cells 26 [ii 0, ii 0, ss [], ss [], AV.list 5 (([] : List S_Expr).map S_Expr.avR)] [(4, 0)], .cells 72 (S_expr_parser.cells x1.2) []] [2] (expr_parser_any_ok E (S_expr_parser.mk a0 false) x1.1 x1.2 hx1) rfl rfl rfl rfl rfl rfl rfl rfl rfl <| ai rfl ?_
  refine ai ⟨rfl, rfl, rfl, lb rfl⟩ (xi (S_Expr.cells x1.1) (ai (fun _ => rfl) ?_))
  refine sn <| sj <| bind_elim h fun x2 hx2 h => CallH.ren [1] [] [.cells 26 [ii 0, ii 0, ss [], ss [], AV.list 5 (([] : List S_Expr).map S_Expr.avR)] [(4, 0)], .cells 72 (S_expr_parser.cells x2.2) [], .cells 26 (S_Expr.cells x1.1) []] [2, 2] (expr_parser_blanks_ok E x1.2 x2.1 x2.2 hx2) rfl rfl rfl rfl rfl rfl rfl rfl rfl <| sn <| sj <| sj <| ai id <| ai id <| ai id <| ai id <| ai (fun hg => (and_r hg)) <| sn ?_
  refine Br.of h (fun ht h => ?_) fun ht h => ?_
  ·refine sj ?_
   refine xi (some 31) (ai (okM.mk (show (31 : Nat) = freeM T _ _ _ from by kernel_rfl)) ?_)
   exact W
  ·refine sj <| ai ⟨lb rfl, lb rfl⟩ <| NormE.to (S_Expr.av x1.1) (fun _ => rfl) <| bind_elim h fun x3 hx3 h => CallH.data _ false rfl (expr_few_ok E x1.1 x3 hx3) <| sn ?_
   refine Br.of h (fun ht h => ?_) fun ht h => ?_
   ·refine sj ?_
    refine xi (some 31) (ai (okM.mk (show (31 : Nat) = freeM T _ _ _ from by kernel_rfl)) ?_)
    exact W
   ·refine sj <| ai ⟨lb rfl, lb rfl⟩ <| NormE.to (S_Expr.av x1.1) (fun _ => rfl) <| bind_elim h fun x4 hx4 h => CallH.data _ false rfl (expr_deep_ok E x1.1 x4 hx4) <| sn ?_
    refine Br.of h (fun ht h => ?_) fun ht h => ?_
    ·refine sj ?_
     refine xi (some 31) (ai (okM.mk (show (31 : Nat) = freeM T _ _ _ from by kernel_rfl)) ?_)
     exact W
    ·exact W
instance expr_Parse_ok_i (E : Pm.Env) [LaidE E] (a0 : Bytes) : Ok E (expr_Parse a0) (fun r => FnR E Tryz.prog 23 [ss a0] (AV.tup [S_Expr.av r.1, ii r.2]) false) := ⟨expr_Parse_ok E a0⟩
theorem expr_simple_ok (E : Pm.Env) [LaidE E] (a0 : S_Expr) (r : Bool) (h : expr_simple a0 = some r) : FnR E Tryz.prog 70 [S_Expr.av a0] (bb r) false := by
 refine FnR.of_ev (T := T) (rows := []) tOk mixed Tryz.func70 rfl (by kernel_rfl) (by kernel_rfl) rfl fun hwf => ?_
 unfold expr_simple at h
 exact W
instance expr_simple_ok_i (E : Pm.Env) [LaidE E] (a0 : S_Expr) : Ok E (expr_simple a0) (fun r => FnR E Tryz.prog 70 [S_Expr.av a0] (bb r) false) := ⟨expr_simple_ok E a0⟩
theorem expr_leaf_ok (E : Pm.Env) [LaidE E] (a0 : S_Expr) (r : Bool) (h : expr_leaf a0 = some r) : FnR E Tryz.prog 71 [S_Expr.av a0] (bb r) false := by
 refine FnR.of_ev (T := T) (rows := []) tOk mixed Tryz.func71 rfl (by kernel_rfl) (by kernel_rfl) rfl fun hwf => ?_
 unfold expr_leaf at h
 exact W
instance expr_leaf_ok_i (E : Pm.Env) [LaidE E] (a0 : S_Expr) : Ok E (expr_leaf a0) (fun r => FnR E Tryz.prog 71 [S_Expr.av a0] (bb r) false) := ⟨expr_leaf_ok E a0⟩
theorem slices_IndexFunc__api_Expr_api_Expr_ok (E : Pm.Env) [LaidE E] (a0 : (List S_Expr)) (a1 : FuncId) (a1c : List AV) (a1i : S_Expr → Option Bool) (a1h : ∀ (x0 : S_Expr) (r : Bool), a1i x0 = some r → FnR E Tryz.prog a1 ([S_Expr.av x0] ++ a1c) (bb r) false) (a1p : a1c.all AV.puB = true) (r : Int) (h : slices_IndexFunc__api_Expr_api_Expr a0 a1i = some r) : FnR E Tryz.prog 81 [AV.list 5 (a0.map S_Expr.avR), AV.fn a1 [] a1c] (ii r) false := by
 refine FnR.of_ev (T := T) (rows := []) tOk mixed Tryz.func81 rfl (by kernel_rfl) (by kernel_rfl) rfl fun hwf => ?_
 unfold slices_IndexFunc__api_Expr_api_Expr at h
 refine sj <| sn <| sj <| sj <| NormE.to (ii (a0.length : Int)) (fun _ => len_list S_Expr.avR a0) <| sn ?_
 refine LoopE.img (fun x : Int => St.of [⟨0, AV.list 5 (a0.map S_Expr.avR), none⟩, ⟨1, AV.fn a1 [] a1c, none⟩, ⟨7, ii (a0.length : Int), none⟩, ⟨8, ii x, none⟩] [] []) (slices_IndexFunc__api_Expr_api_Expr_b1 a0 a1i) (0 : Int) h ?_ ?_
 ·refine Gho.to _ _ _ [] ?_ ?_ ?_ rfl rfl ?_
  ·exact trivial
  ·exact rfl
  ·exact rfl
  ·exact ⟨rfl, rfl, trivial, rfl, (noB_fn a1p _), trivial, rfl, rfl, trivial, rfl, rfl, trivial, trivial⟩
 intro n1 x y1 h hl1 hr1
 revert h; revert x; intro s1 h
 unfold slices_IndexFunc__api_Expr_api_Expr_b1 at h
 refine sj <| sn <| sj ?_
 refine Br.of h (fun ht h => ?_) fun ht h => ?_
 ·refine sn <| sj <| sj <| sn <| sj <| bind_elim h fun x2 hx2 h => ?_
  refine ai rfl (xi (S_Expr.av x2) (ai (fun hg => S_Expr.av_eq x2 ▸ idx_map _ hx2) ?_))
  refine ai (lb rfl) <| NormE.to (S_Expr.av x2) (fun _ => rfl) <| bind_elim h fun x3 hx3 h => CallH.data _ false (puD_app rfl (puD_of a1p)) (a1h x2 x3 hx3) <| sn ?_
  refine Br.of h (fun ht h => ?_) fun ht h => ?_
  ·exact W
  ·refine sn ?_
   replace h := oi h
   refine xi ⟨(n1, (IntKind.i64.wrap (s1 + (1 : Int)))), hl1 _ h.symm⟩ (ai (Nat.lt_succ_self _) ?_)
   refine Gho.to _ _ _ [] ?_ ?_ ?_ rfl rfl ?_
   ·exact W
   ·exact rfl
   ·exact rfl
   ·exact ⟨rfl, rfl, trivial, rfl, (noB_fn a1p _), trivial, rfl, rfl, trivial, rfl, rfl, trivial, trivial⟩
 ·exact W
theorem slices_ContainsFunc__api_Expr_api_Expr_ok (E : Pm.Env) [LaidE E] (a0 : (List S_Expr)) (a1 : FuncId) (a1c : List AV) (a1i : S_Expr → Option Bool) (a1h : ∀ (x0 : S_Expr) (r : Bool), a1i x0 = some r → FnR E Tryz.prog a1 ([S_Expr.av x0] ++ a1c) (bb r) false) (a1p : a1c.all AV.puB = true) (r : Bool) (h : slices_ContainsFunc__api_Expr_api_Expr a0 a1i = some r) : FnR E Tryz.prog 55 [AV.list 5 (a0.map S_Expr.avR), AV.fn a1 [] a1c] (bb r) false := by
 refine FnR.of_ev (T := T) (rows := []) tOk mixed Tryz.func55 rfl (by kernel_rfl) (by kernel_rfl) rfl fun hwf => ?_
 unfold slices_ContainsFunc__api_Expr_api_Expr at h
 refine sj <| sn <| sj <| bind_elim h fun x1 hx1 h => CallH.data _ false (and_tt' rfl (and_tt' (puD_fn a1p) rfl)) (slices_IndexFunc__api_Expr_api_Expr_ok E a0 a1 a1c a1i a1h a1p x1 hx1) <| sn ?_
 exact W
theorem expr_well_1_ok (E : Pm.Env) [LaidE E] (rec_expr_well : S_Expr → Option Bool) (rec_expr_well_ok : ∀ (E : Pm.Env) [LaidE E] (a0 : S_Expr) (r : Bool) (h : rec_expr_well a0 = some r), FnR E Tryz.prog 47 [S_Expr.av a0] (bb r) false) (a0 : S_Expr) (r : Bool) (h : expr_well_1 rec_expr_well a0 = some r) : FnR E Tryz.prog 72 [S_Expr.av a0] (bb r) false := by
 refine FnR.of_ev (T := T) (rows := []) tOk mixed Tryz.func72 rfl (by kernel_rfl) (by kernel_rfl) rfl fun hwf => ?_
 unfold expr_well_1 at h
 refine sj <| ai rfl <| sn <| sj <| ai ⟨lb rfl, lb rfl⟩ <| NormE.to (S_Expr.av a0) (fun _ => rfl) <| bind_elim h fun x1 hx1 h => CallH.data _ false rfl (rec_expr_well_ok E a0 x1 hx1) <| sn ?_
 exact W
theorem expr_well_s_ok (E : Pm.Env) [LaidE E] (rec_expr_well : S_Expr → Option Bool) (rec_expr_well_ok : ∀ (E : Pm.Env) [LaidE E] (a0 : S_Expr) (r : Bool) (h : rec_expr_well a0 = some r), FnR E Tryz.prog 47 [S_Expr.av a0] (bb r) false) (a0 : S_Expr) (r : Bool) (h : expr_well_s rec_expr_well a0 = some r) : FnR E Tryz.prog 47 [S_Expr.av a0] (bb r) false := by
 refine FnR.of_ev (T := T) (rows := []) tOk mixed Tryz.func47 rfl (by kernel_rfl) (by kernel_rfl) rfl fun hwf => ?_
 unfold expr_well_s at h
 refine sj <| ai rfl <| sn <| sj <| sj <| ai ⟨lb rfl, lb rfl⟩ <| NormE.to (S_Expr.av a0) (fun _ => rfl) <| bind_elim h fun x1 hx1 h => CallH.data _ false rfl (expr_simple_ok E a0 x1 hx1) <| sn ?_
 refine Br.of h (fun ht h => ?_) fun ht h => ?_
 ·exact W
 ·refine sn <| sj <| sj <| ai id <| ai id <| ai (fun hg => (and_r hg)) <| ai id <| bind_elim h fun x3 hx3 h => ai id <| ai rfl ?_
  refine CallF.mk _ false (fun hg => slices_ContainsFunc__api_Expr_api_Expr_ok E a0.Kids 72 [] (fun x0 => expr_well_1 rec_expr_well x0) (fun x0 r h => expr_well_1_ok E rec_expr_well rec_expr_well_ok x0 r h) rfl x3 (gcall_some hx3 hg)) (ai rfl ?_)
  refine ai (fun hg => (and_r hg)) <| sn ?_
  refine Br.of h (fun ht h => ?_) fun ht h => ?_
  ·exact W
  ·refine sn <| sj <| NormE.to (ii (a0.Kids.length : Int)) (fun _ => len_list S_Expr.avR a0.Kids) <| sn <| sj <| sj <| sn <| sj <| sn ?_
   refine Br.of h (fun ht h => ?_) fun ht h => ?_
   ·refine sj <| Or.inl <| bind_elim h fun x4 hx4 h => CallH.data _ true rfl (expr_signs_ok E  x4 hx4) <| bind_elim h fun x5 hx5 h => CallH.data _ false rfl (slices_Contains__string_string_ok E x4 a0.Sign x5 hx5) <| ai id <| ai (fun hg => (and_r hg)) <| ai id <| bind_elim h fun x6 hx6 h => ai id ?_
    refine ai rfl (xi (S_Expr.av x6) (ai (fun hg => S_Expr.av_eq x6 ▸ gidx_map _ hx6 hg) ?_))
    refine ai id <| ai (lb rfl) <| NormE.to (S_Expr.av x6) (fun _ => rfl) <| bind_elim h fun x7 hx7 h => ai id <| ai rfl ?_
    refine CallF.mk _ false (fun hg => expr_simple_ok E x6 x7 (gcall_some hx7 hg)) (ai rfl ?_)
    refine ai (fun hg => (and_r hg)) <| ai id <| bind_elim h fun x8 hx8 h => ai id ?_
    refine ai rfl (xi (S_Expr.av x8) (ai (fun hg => S_Expr.av_eq x8 ▸ gidx_map _ hx8 hg) ?_))
    exact W
   ·exact W
theorem expr_well_r_ok (n : Nat) : ∀ (E : Pm.Env) [LaidE E] (a0 : S_Expr) (r : Bool) (h : expr_well_r n a0 = some r), FnR E Tryz.prog 47 [S_Expr.av a0] (bb r) false := by
 induction n with
 | zero => intro E _ a0 r h; cases (show none = some _ from h)
 | succ n ih => intro E _ a0 r h; exact expr_well_s_ok E (expr_well_r n) ih a0 r h
theorem expr_well_ok (E : Pm.Env) [LaidE E] (a0 : S_Expr) (r : Bool) (h : expr_well a0 = some r) : FnR E Tryz.prog 47 [S_Expr.av a0] (bb r) false := expr_well_r_ok 1000000 E a0 r h
theorem expr_Right_ok (E : Pm.Env) [LaidE E] (a0 : S_Expr) (r : Bool) (h : expr_Right a0 = some r) : FnR E Tryz.prog 26 [S_Expr.av a0] (bb r) false := by
 refine FnR.of_ev (T := T) (rows := []) tOk mixed Tryz.func26 rfl (by kernel_rfl) (by kernel_rfl) rfl fun hwf => ?_
 unfold expr_Right at h
 refine sj <| ai rfl <| sn <| sj <| ai ⟨lb rfl, lb rfl⟩ <| NormE.to (S_Expr.av a0) (fun _ => rfl) <| bind_elim h fun x1 hx1 h => CallH.data _ false rfl (expr_few_ok E a0 x1 hx1) <| ai ⟨lb rfl, lb rfl⟩ <| NormE.to (S_Expr.av a0) (fun _ => rfl) <| bind_elim h fun x2 hx2 h => ai id <| ai rfl ?_
 refine CallF.mk _ false (fun hg => expr_well_ok E a0 x2 (gcall_some hx2 hg)) (ai rfl ?_)
 refine ai (fun hg => (and_r hg)) <| ai ⟨lb rfl, lb rfl⟩ <| NormE.to (S_Expr.av a0) (fun _ => rfl) <| bind_elim h fun x3 hx3 h => ai id <| ai rfl ?_
 refine CallF.mk _ false (fun hg => expr_deep_ok E a0 x3 (gcall_some hx3 hg)) (ai rfl ?_)
 refine ai id <| ai (fun hg => (and_r hg)) <| sn ?_
 replace h := oi h
 refine RetE.plain ?_
 subst h; exact ai rfl (ai rfl rfl)
instance expr_Right_ok_i (E : Pm.Env) [LaidE E] (a0 : S_Expr) : Ok E (expr_Right a0) (fun r => FnR E Tryz.prog 26 [S_Expr.av a0] (bb r) false) := ⟨expr_Right_ok E a0⟩
theorem expr_holds_2_ok (E : Pm.Env) [LaidE E] (rec_expr_holds : S_Env → S_Expr → Option Bool) (rec_expr_holds_ok : ∀ (E : Pm.Env) [LaidE E] (a0 : S_Env) (a1 : S_Expr) (r : Bool) (h : rec_expr_holds a0 a1 = some r), FnR E Tryz.prog 34 [S_Env.av a0, S_Expr.av a1] (bb r) false) (a0 : S_Expr) (c0 : S_Env) (r : Bool) (h : expr_holds_2 rec_expr_holds a0 c0 = some r) : FnR E Tryz.prog 54 [S_Expr.av a0, AV.iptr (S_Env.cells c0)] (bb r) false := by
 refine FnR.of_ev (T := T) (rows := []) tOk mixed Tryz.func54 rfl (by kernel_rfl) (by kernel_rfl) rfl fun hwf => ?_
 unfold expr_holds_2 at h
 refine sj <| ai rfl <| sn <| sj <| ai (lb rfl) <| NormE.to (S_Env.av c0) (fun _ => rfl) <| ai ⟨lb rfl, lb rfl⟩ <| NormE.to (S_Expr.av a0) (fun _ => rfl) <| bind_elim h fun x1 hx1 h => CallH.data _ false rfl (rec_expr_holds_ok E c0 a0 x1 hx1) <| sn ?_
 exact W
theorem expr_holds_1_ok (E : Pm.Env) [LaidE E] (rec_expr_holds : S_Env → S_Expr → Option Bool) (rec_expr_holds_ok : ∀ (E : Pm.Env) [LaidE E] (a0 : S_Env) (a1 : S_Expr) (r : Bool) (h : rec_expr_holds a0 a1 = some r), FnR E Tryz.prog 34 [S_Env.av a0, S_Expr.av a1] (bb r) false) (a0 : S_Expr) (c0 : S_Env) (r : Bool) (h : expr_holds_1 rec_expr_holds a0 c0 = some r) : FnR E Tryz.prog 53 [S_Expr.av a0, AV.iptr (S_Env.cells c0)] (bb r) false := by
 refine FnR.of_ev (T := T) (rows := []) tOk mixed Tryz.func53 rfl (by kernel_rfl) (by kernel_rfl) rfl fun hwf => ?_
 unfold expr_holds_1 at h
 refine sj <| ai rfl <| sn <| sj <| ai (lb rfl) <| NormE.to (S_Env.av c0) (fun _ => rfl) <| ai ⟨lb rfl, lb rfl⟩ <| NormE.to (S_Expr.av a0) (fun _ => rfl) <| bind_elim h fun x1 hx1 h => CallH.data _ false rfl (rec_expr_holds_ok E c0 a0 x1 hx1) <| sn ?_
 exact W
theorem number_Dec_ok (E : Pm.Env) [LaidE E] (a0 : Int) (r : Bytes) (h : number_Dec a0 = some r) : FnR E Tryz.prog 69 [AV.int .u64 a0] (ss r) false := by
 refine FnR.of_ev (T := T) (rows := []) tOk mixed Tryz.func69 rfl (by kernel_rfl) (by kernel_rfl) rfl fun hwf => ?_
 unfold number_Dec at h
 exact W
instance number_Dec_ok_i (E : Pm.Env) [LaidE E] (a0 : Int) : Ok E (number_Dec a0) (fun r => FnR E Tryz.prog 69 [AV.int .u64 a0] (ss r) false) := ⟨number_Dec_ok E a0⟩
theorem expr_write_s_ok (E : Pm.Env) [LaidE E] (rec_expr_write : S_Expr → Option Bytes) (rec_expr_write_ok : ∀ (E : Pm.Env) [LaidE E] (a0 : S_Expr) (r : Bytes) (h : rec_expr_write a0 = some r), FnR E Tryz.prog 46 [S_Expr.av a0] (ss r) false) (a0 : S_Expr) (r : Bytes) (h : expr_write_s rec_expr_write a0 = some r) : FnR E Tryz.prog 46 [S_Expr.av a0] (ss r) false := by
 refine FnR.of_ev (T := T) (rows := []) tOk mixed Tryz.func46 rfl (by kernel_rfl) (by kernel_rfl) rfl fun hwf => ?_
 unfold expr_write_s at h
 refine sj <| ai rfl <| sn <| sj <| sn <| bind_elim h fun j1 hj1 h => ?_
 refine SeqJ.join (St.of [⟨1, AV.ptr 0 0, none⟩, ⟨3, AV.list 1 (j1.map AV.str), some 0⟩] [.cells 26 (S_Expr.cells a0) []] [1]) ?_ ?_
 ·clear h; have h := hj1; clear hj1
  refine sj <| NormE.to (ii (a0.Kids.length : Int)) (fun _ => len_list S_Expr.avR a0.Kids) <| sn ?_
  refine LoopE.img (fun x : ((List Bytes) × Int) => St.of [⟨1, AV.ptr 0 0, none⟩, ⟨3, AV.list 1 (x.1.map AV.str), some 0⟩, ⟨8, AV.list 5 (a0.Kids.map S_Expr.avR), none⟩, ⟨9, ii (a0.Kids.length : Int), none⟩, ⟨10, ii x.2, none⟩] [.cells 26 (S_Expr.cells a0) []] [1]) (expr_write_b1 rec_expr_write a0) (([] : List Bytes), (0 : Int)) h ?_ ?_
  ·exact W
  intro n1 x y1 h hl1 hr1
  obtain ⟨s2, s3⟩ := x
  unfold expr_write_b1 at h
  dsimp only at h
  refine sj <| sn <| sj ?_
  refine Br.of h (fun ht h => ?_) fun ht h => ?_
  ·refine sn <| sj <| sj <| bind_elim h fun x4 hx4 h => ?_
   refine ai rfl (xi (S_Expr.av x4) (ai (fun hg => S_Expr.av_eq x4 ▸ idx_map _ hx4) ?_))
   refine ai (lb rfl) <| NormE.to (S_Expr.av x4) (fun _ => rfl) <| ai rfl ?_
   refine ai ⟨rfl, rfl, rfl, lb rfl⟩ (xi (S_Expr.cells x4) (ai (fun _ => rfl) ?_))
   refine sn <| sj <| ai ⟨lb rfl, lb rfl⟩ <| NormE.to (S_Expr.av x4) (fun _ => rfl) <| bind_elim h fun x5 hx5 h => CallH.data _ false rfl (rec_expr_write_ok E x4 x5 hx5) <| sn <| sj <| sj <| ai ⟨lb rfl, lb rfl⟩ <| NormE.to (S_Expr.av x4) (fun _ => rfl) <| bind_elim h fun x6 hx6 h => CallH.data _ false rfl (expr_row_ok E x4 x6 hx6) <| sn ?_
   exact W
  ·exact W
 ·clear hj1
  exact W
theorem expr_write_r_ok (n : Nat) : ∀ (E : Pm.Env) [LaidE E] (a0 : S_Expr) (r : Bytes) (h : expr_write_r n a0 = some r), FnR E Tryz.prog 46 [S_Expr.av a0] (ss r) false := by
 induction n with
 | zero => intro E _ a0 r h; cases (show none = some _ from h)
 | succ n ih => intro E _ a0 r h; exact expr_write_s_ok E (expr_write_r n) ih a0 r h
theorem expr_write_ok (E : Pm.Env) [LaidE E] (a0 : S_Expr) (r : Bytes) (h : expr_write a0 = some r) : FnR E Tryz.prog 46 [S_Expr.av a0] (ss r) false := expr_write_r_ok 1000000 E a0 r h
theorem expr_value_ok (E : Pm.Env) [LaidE E] (a0 : S_Env) (a1 : S_Expr) (r : Bytes) (h : expr_value a0 a1 = some r) : FnR E Tryz.prog 57 [S_Env.av a0, S_Expr.av a1] (ss r) false := by
 refine FnR.of_ev (T := T) (rows := []) tOk mixed Tryz.func57 rfl (by kernel_rfl) (by kernel_rfl) rfl fun hwf => ?_
 unfold expr_value at h
 refine sj <| ai rfl <| ai rfl <| sn <| sj <| sj <| sn <| sj <| sn ?_
 refine Br.of h (fun ht h => ?_) fun ht h => ?_
 ·exact W
 ·refine sj <| sn ?_
  refine Br.of h (fun ht h => ?_) fun ht h => ?_
  ·exact W
  ·refine sn <| sj <| ai ⟨lb rfl, lb rfl⟩ <| NormE.to (S_Expr.av a1) (fun _ => rfl) <| bind_elim h fun x2 hx2 h => CallH.data _ false rfl (expr_write_ok E a1 x2 hx2) <| sn ?_
   replace h := oi h
   refine RetE.plain ?_
   subst h; exact ai rfl (ai rfl rfl)
instance expr_value_ok_i (E : Pm.Env) [LaidE E] (a0 : S_Env) (a1 : S_Expr) : Ok E (expr_value a0 a1) (fun r => FnR E Tryz.prog 57 [S_Env.av a0, S_Expr.av a1] (ss r) false) := ⟨expr_value_ok E a0 a1⟩
theorem expr_against_ok (E : Pm.Env) [LaidE E] (a0 : Bytes) (a1 : Bytes) (r : Int) (h : expr_against a0 a1 = some r) : FnR E Tryz.prog 56 [ss a0, ss a1] (ii r) false := by
 refine FnR.of_ev (T := T) (rows := []) tOk mixed Tryz.func56 rfl (by kernel_rfl) (by kernel_rfl) rfl fun hwf => ?_
 unfold expr_against at h
 exact W
instance expr_against_ok_i (E : Pm.Env) [LaidE E] (a0 : Bytes) (a1 : Bytes) : Ok E (expr_against a0 a1) (fun r => FnR E Tryz.prog 56 [ss a0, ss a1] (ii r) false) := ⟨expr_against_ok E a0 a1⟩
theorem expr_holds_s_ok (E : Pm.Env) [LaidE E] (rec_expr_holds : S_Env → S_Expr → Option Bool) (rec_expr_holds_ok : ∀ (E : Pm.Env) [LaidE E] (a0 : S_Env) (a1 : S_Expr) (r : Bool) (h : rec_expr_holds a0 a1 = some r), FnR E Tryz.prog 34 [S_Env.av a0, S_Expr.av a1] (bb r) false) (a0 : S_Env) (a1 : S_Expr) (r : Bool) (h : expr_holds_s rec_expr_holds a0 a1 = some r) : FnR E Tryz.prog 34 [S_Env.av a0, S_Expr.av a1] (bb r) false := by
 refine FnR.of_ev (T := T) (rows := []) tOk mixed Tryz.func34 rfl (by kernel_rfl) (by kernel_rfl) rfl fun hwf => ?_
 unfold expr_holds_s at h
 refine sj <| ai rfl <| ai rfl ?_
 refine SeqN.via (St.of [⟨2, AV.iptr (S_Env.cells a0), none⟩, ⟨3, AV.ptr 1 0, none⟩] [.dead, .cells 26 (S_Expr.cells a1) []] []) ?_ ?_
 ·refine Gho.trans (Gho.fz [0] [(2, AV.iptr (S_Env.cells a0))] ⟨Frz.ptrD rfl rfl (lb rfl), trivial⟩) ?_
  exact W
 refine sj <| sn <| sj <| sn <| sj <| sj <| sn <| sj <| sn ?_
 refine Br.of h (fun ht h => ?_) fun ht h => ?_
 ·exact W
 ·refine sj <| sn ?_
  refine Br.of h (fun ht h => ?_) fun ht h => ?_
  ·refine sj <| bind_elim h fun x1 hx1 h => ?_
   refine ai rfl (xi (S_Expr.av x1) (ai (fun hg => S_Expr.av_eq x1 ▸ idx_map _ hx1) ?_))
   refine ai (lb rfl) <| NormE.to (S_Expr.av x1) (fun _ => rfl) <| bind_elim h fun x2 hx2 h => CallH.data _ false rfl (expr_holds_2_ok E rec_expr_holds rec_expr_holds_ok x1 a0 x2 hx2) <| sn ?_
   exact W
  ·refine sj <| sn ?_
   refine Br.of h (fun ht h => ?_) fun ht h => ?_
   ·refine sj <| bind_elim h fun x3 hx3 h => CallH.data _ false rfl (slices_ContainsFunc__api_Expr_api_Expr_ok E a1.Kids 54 [AV.iptr (S_Env.cells a0)] (fun x0 => expr_holds_2 rec_expr_holds x0 a0) (fun x0 r h => expr_holds_2_ok E rec_expr_holds rec_expr_holds_ok x0 a0 r h) rfl x3 hx3) <| sn ?_
    exact W
   ·refine sj <| sn ?_
    refine Br.of h (fun ht h => ?_) fun ht h => ?_
    ·refine sj <| bind_elim h fun x4 hx4 h => CallH.data _ false rfl (slices_ContainsFunc__api_Expr_api_Expr_ok E a1.Kids 53 [AV.iptr (S_Env.cells a0)] (fun x0 => expr_holds_1 rec_expr_holds x0 a0) (fun x0 r h => expr_holds_1_ok E rec_expr_holds rec_expr_holds_ok x0 a0 r h) rfl x4 hx4) <| sn ?_
     exact W
    ·refine sj <| sn ?_
     refine Br.of h (fun ht h => ?_) fun ht h => ?_
     ·refine sj <| Or.inl <| ai (lb rfl) <| NormE.to (S_Env.av a0) (fun _ => rfl) <| bind_elim h fun x5 hx5 h => ?_
      refine ai rfl (xi (S_Expr.av x5) (ai (fun hg => S_Expr.av_eq x5 ▸ idx_map _ hx5) ?_))
      refine ai (lb rfl) <| NormE.to (S_Expr.av x5) (fun _ => rfl) <| bind_elim h fun x6 hx6 h => CallH.data _ false rfl (expr_value_ok E a0 x5 x6 hx6) <| ai (lb rfl) <| NormE.to (S_Env.av a0) (fun _ => rfl) <| bind_elim h fun x7 hx7 h => ?_
      refine ai rfl (xi (S_Expr.av x7) (ai (fun hg => S_Expr.av_eq x7 ▸ idx_map _ hx7) ?_))
      exact W
     ·exact W
theorem expr_holds_r_ok (n : Nat) : ∀ (E : Pm.Env) [LaidE E] (a0 : S_Env) (a1 : S_Expr) (r : Bool) (h : expr_holds_r n a0 a1 = some r), FnR E Tryz.prog 34 [S_Env.av a0, S_Expr.av a1] (bb r) false := by
 induction n with
 | zero => intro E _ a0 a1 r h; cases (show none = some _ from h)
 | succ n ih => intro E _ a0 a1 r h; exact expr_holds_s_ok E (expr_holds_r n) ih a0 a1 r h
theorem expr_holds_ok (E : Pm.Env) [LaidE E] (a0 : S_Env) (a1 : S_Expr) (r : Bool) (h : expr_holds a0 a1 = some r) : FnR E Tryz.prog 34 [S_Env.av a0, S_Expr.av a1] (bb r) false := expr_holds_r_ok 1000000 E a0 a1 r h
theorem expr_Eval_ok (E : Pm.Env) [LaidE E] (a0 : S_Env) (a1 : S_Expr) (r : (Bool × Int)) (h : expr_Eval a0 a1 = some r) : FnR E Tryz.prog 15 [S_Env.av a0, S_Expr.av a1] (AV.tup [bb r.1, ii r.2]) false := by
 refine FnR.of_ev (T := T) (rows := []) tOk mixed Tryz.func15 rfl (by kernel_rfl) (by kernel_rfl) rfl fun hwf => ?_
 unfold expr_Eval at h
 refine sj <| ai rfl <| ai rfl <| sn <| sj <| sj <| ai ⟨lb rfl, lb rfl⟩ <| NormE.to (S_Expr.av a1) (fun _ => rfl) <| bind_elim h fun x1 hx1 h => CallH.data _ false rfl (expr_Right_ok E a1 x1 hx1) <| sn ?_
 refine Br.of h (fun ht h => ?_) fun ht h => ?_
 ·exact W
 ·refine sn <| sj <| ai ⟨lb rfl, lb rfl⟩ <| NormE.to (S_Env.av a0) (fun _ => rfl) <| ai ⟨lb rfl, lb rfl⟩ <| NormE.to (S_Expr.av a1) (fun _ => rfl) <| bind_elim h fun x2 hx2 h => CallH.data _ false rfl (expr_holds_ok E a0 a1 x2 hx2) <| sn ?_
  replace h := oi h
  refine RetE.plain ?_
  subst h; exact ai rfl (ai rfl rfl)
instance expr_Eval_ok_i (E : Pm.Env) [LaidE E] (a0 : S_Env) (a1 : S_Expr) : Ok E (expr_Eval a0 a1) (fun r => FnR E Tryz.prog 15 [S_Env.av a0, S_Expr.av a1] (AV.tup [bb r.1, ii r.2]) false) := ⟨expr_Eval_ok E a0 a1⟩
theorem expr_Test_ok (E : Pm.Env) [LaidE E] (a0 : S_Env) (a1 : Bytes) (r : (Bool × Int)) (h : expr_Test a0 a1 = some r) : FnR E Tryz.prog 12 [S_Env.av a0, ss a1] (AV.tup [bb r.1, ii r.2]) false := by
 refine FnR.of_ev (T := T) (rows := []) tOk mixed Tryz.func12 rfl (by kernel_rfl) (by kernel_rfl) rfl fun hwf => ?_
 unfold expr_Test at h
 exact W
instance expr_Test_ok_i (E : Pm.Env) [LaidE E] (a0 : S_Env) (a1 : Bytes) : Ok E (expr_Test a0 a1) (fun r => FnR E Tryz.prog 12 [S_Env.av a0, ss a1] (AV.tup [bb r.1, ii r.2]) false) := ⟨expr_Test_ok E a0 a1⟩
theorem intarsialaw18_alive_ok (E : Pm.Env) [LaidE E] (r : Bool) (h : intarsialaw18_alive = some r) : FnR E Tryz.prog 14 [] (bb r) false := by
 refine FnR.of_ev (T := T) (rows := []) tOk mixed Tryz.func14 rfl (by kernel_rfl) (by kernel_rfl) rfl fun hwf => ?_
 unfold intarsialaw18_alive at h
 exact W
instance intarsialaw18_alive_ok_i (E : Pm.Env) [LaidE E] : Ok E intarsialaw18_alive (fun r => FnR E Tryz.prog 14 [] (bb r) false) := ⟨intarsialaw18_alive_ok E⟩
end Go.Proofs.YtdobepgddhbncaaGreatDoor
