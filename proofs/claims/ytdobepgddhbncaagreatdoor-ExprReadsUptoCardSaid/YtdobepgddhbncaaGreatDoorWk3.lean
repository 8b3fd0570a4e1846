/-
  The functions do what their images say: walks, written by a program of mine (gen.py).
-/
import Derived.Test.YtdobepgddhbncaaGreatDoorIv1
import Derived.Test.YtdobepgddhbncaaGreatDoorWk2
import Derived.Test.YtdobepgddhbncaaGreatDoorPm31
open _root_.Nat renaming lt_succ_self -> aPM
namespace Go.Proofs.YtdobepgddhbncaaGreatDoor
open Go Go.Pm
set_option linter.unusedSimpArgs false
open And renaming intro -> ai
open Exists renaming intro -> xi
open Option.some renaming inj -> oi
open _root_.Nat renaming le_of_ble_eq_true -> lb
open Go.Pm.SeqJ renaming go -> sj
open Go.Pm.SeqN renaming go -> sn
set_option maxRecDepth 100000
set_option maxHeartbeats 1000000
set_option linter.unusedVariables false
theorem uH (E : Pm.Env) [aI E] (aNp : aC -> Option (aB × aC)) (aNu : ∀ (E : Pm.Env) [aI E] (o0 : aC) (r : aB) (o0' : aC) (h : aNp o0 = some (r, o0')), FnW E Tryz.prog 42 [AV.ptr 0 0] [.cells 72 (aC.cells o0) []] [] (aB.av r) none [.cells 72 (aC.cells o0') []] []) (aNF : aC -> Option (aB × aC)) (aNK : ∀ (E : Pm.Env) [aI E] (o0 : aC) (r : aB) (o0' : aC) (h : aNF o0 = some (r, o0')), FnW E Tryz.prog 66 [AV.ptr 0 0] [.cells 72 (aC.cells o0) []] [] (aB.av r) none [.cells 72 (aC.cells o0') []] []) (o0 : aC) (r : aB) (o0' : aC) (h : fM aNp aNF o0 = some (r, o0')) : FnW E Tryz.prog 66 [AV.ptr 0 0] [.cells 72 (aC.cells o0) []] [] (aB.av r) none [.cells 72 (aC.cells o0') []] [] := by
 refine FnW.of_evB (T := T) (rows := []) tOk mixed Tryz.func66 rfl (by kernel_rfl) (by kernel_rfl) rfl rfl fun hwf => ?_
 unfold fM at h
 refine sj <| ai rfl <| sn <| sj <| sj <| sn ?_
 refine Br.of h (fun ht h => ?_) fun ht h => ?_
 ·refine sj ?_
  refine xi (some 31) (ai (okM.mk (show (31 : Nat) = nS T _ _ _ from by kernel_rfl)) ?_)
  refine ai ⟨rfl, rfl, rfl, lb rfl⟩ (xi [ii 0, ii 0, ss [], ss [], AV.list 5 (([] : List aB).map aB.avR)] (ai (fun _ => rfl) ?_))
  refine sn ?_
  replace h := oi h
  have h0 := (Prod.mk.inj h).1
  have h1 := (Prod.mk.inj h).2
  subst h0
  subst h1
  refine xi [⟨2, AV.ptr 1 0, none⟩] (xi [.cells 72 (aC.cells o0) [], .cells 26 [ii 0, ii 0, ss [], ss [], AV.list 5 (([] : List aB).map aB.avR)] []] (ai rfl (ai (Gho.to _ _ _ [] ?_ ?_ ?_ rfl rfl ?_) (ai ?_ rfl))))
  ·exact ⟨⟨rfl, rfl, rfl⟩, ⟨⟨rfl, rfl, rfl⟩, trivial⟩⟩
  ·exact rfl
  ·exact rfl
  ·exact tr3 <| trivial
  ·refine ai ⟨lb rfl, lb rfl⟩ (xi (AV.agg [ii 0, ii 0, ss [], ss [], AV.list 5 (([] : List aB).map aB.avR)]) (ai rfl ?_))
   exact rfl
 ·refine sj <| aD h fun x1 hx1 h => aK.ren [0] [] [.cells 72 (aC.cells x1.2) [], .cells 26 [ii 0, ii 0, ss [], ss [], AV.list 5 (([] : List aB).map aB.avR)] [(4, 0)]] [2] (gD E o0 ([33] : aA) x1.1 x1.2 hx1) rfl rfl rfl rfl rfl rfl rfl rfl rfl <| sn ?_
  refine Br.of h (fun ht h => ?_) fun ht h => ?_
  ·refine sj <| aD h fun x2 hx2 h => aK.ren [0] [] [.cells 72 (aC.cells x2.2) [], .cells 26 [ii 0, ii 0, ss [], ss [], AV.list 5 (([] : List aB).map aB.avR)] [(4, 0)]] [2] (aNK E x1.2 x2.1 x2.2 hx2) rfl rfl rfl rfl rfl rfl rfl rfl rfl <| ai ⟨rfl, rfl, rfl, rfl⟩ <| ai ⟨rfl, rfl, rfl⟩ <| aF.to (AV.list 5 (([x2.1] : List aB).map aB.avR)) (fun _ => by simp only [List.map, aB.av_eq]; rfl) <| ai ⟨rfl, rfl, lb rfl⟩ <| ai ⟨rfl, rfl, lb rfl⟩ ?_
   refine xi none (ai trivial ?_)
   refine ai ⟨rfl, rfl, rfl, lb rfl⟩ (xi [ii 4, ii 0, ss [], ss [], AV.list 5 (([x2.1] : List aB).map aB.avR)] (ai (fun _ => rfl) ?_))
   refine sn ?_
   replace h := oi h
   have h0 := (Prod.mk.inj h).1
   have h1 := (Prod.mk.inj h).2
   subst h0
   subst h1
   refine xi [⟨2, AV.ptr 1 0, none⟩] (xi [.cells 72 (aC.cells x2.2) [], .cells 26 [ii 4, ii 0, ss [], ss [], AV.list 5 (([x2.1] : List aB).map aB.avR)] []] (ai rfl (ai (Gho.to _ _ _ [] ?_ ?_ ?_ rfl rfl ?_) (ai ?_ rfl))))
   ·exact ⟨⟨rfl, rfl, rfl⟩, ⟨⟨rfl, rfl, rfl⟩, trivial⟩⟩
   ·exact rfl
   ·exact rfl
   ·exact tr3 <| trivial
   ·refine ai ⟨lb rfl, lb rfl⟩ (xi (AV.agg [ii 4, ii 0, ss [], ss [], AV.list 5 (([x2.1] : List aB).map aB.avR)]) (ai rfl ?_))
    exact rfl
  ·refine sj <| aD h fun x3 hx3 h => aK.ren [0] [] [.cells 72 (aC.cells x3.2) [], .cells 26 [ii 0, ii 0, ss [], ss [], AV.list 5 (([] : List aB).map aB.avR)] [(4, 0)]] [2] (gD E x1.2 ([40] : aA) x3.1 x3.2 hx3) rfl rfl rfl rfl rfl rfl rfl rfl rfl <| sn ?_
   refine Br.of h (fun ht h => ?_) fun ht h => ?_
   ·refine sj <| aD h fun x4 hx4 h => aK.ren [0] [] [.cells 72 (aC.cells x4.2) [], .cells 26 [ii 0, ii 0, ss [], ss [], AV.list 5 (([] : List aB).map aB.avR)] [(4, 0)]] [2] (aNu E x3.2 x4.1 x4.2 hx4) rfl rfl rfl rfl rfl rfl rfl rfl rfl <| ai rfl ?_
    refine ai ⟨rfl, rfl, rfl, lb rfl⟩ (xi (aB.cells x4.1) (ai (fun _ => rfl) ?_))
    refine sn <| sj <| sj <| aD h fun x5 hx5 h => aK.ren [0] [] [.cells 72 (aC.cells x5.2) [], .cells 26 [ii 0, ii 0, ss [], ss [], AV.list 5 (([] : List aB).map aB.avR)] [(4, 0)], .cells 26 (aB.cells x4.1) []] [2, 2] (gD E x4.2 ([41] : aA) x5.1 x5.2 hx5) rfl rfl rfl rfl rfl rfl rfl rfl rfl <| sn ?_
    refine Br.of h (fun ht h => ?_) fun ht h => ?_
    ·refine sj <| aD h fun x6 hx6 h => aK.ren [0] [] [.cells 72 (aC.cells x6.2) [], .cells 26 [ii 0, ii 0, ss [], ss [], AV.list 5 (([] : List aB).map aB.avR)] [(4, 0)], .cells 26 (aB.cells x4.1) []] [2, 2] (lW E x5.2 x6.1 x6.2 hx6) rfl rfl rfl rfl rfl rfl rfl rfl rfl ?_
     refine ai ⟨rfl, rfl, rfl, lb rfl⟩ (xi (aB.cells x6.1) (ai (fun _ => rfl) ?_))
     refine sn ?_
     replace h := oi h
     have h0 := (Prod.mk.inj h).1
     have h1 := (Prod.mk.inj h).2
     subst h0
     subst h1
     refine xi [⟨2, AV.ptr 1 0, none⟩] (xi [.cells 72 (aC.cells x6.2) [], .cells 26 (aB.cells x6.1) []] (ai rfl (ai (Gho.to _ _ _ [] ?_ ?_ ?_ rfl rfl ?_) (ai ?_ rfl))))
     ·exact ⟨⟨rfl, rfl, rfl⟩, ⟨⟨rfl, rfl, rfl⟩, trivial⟩⟩
     ·exact rfl
     ·exact rfl
     ·exact tr3 <| trivial
     ·refine ai ⟨lb rfl, lb rfl⟩ (xi (aB.av x6.1) (ai rfl ?_))
      exact rfl
    ·refine sn <| sj <| ai ⟨lb rfl, lb rfl⟩ <| aF.to (aB.av x4.1) (fun _ => rfl) ?_
     refine ai ⟨rfl, rfl, rfl, lb rfl⟩ (xi (aB.cells x4.1) (ai (fun _ => rfl) ?_))
     refine sn ?_
     replace h := oi h
     have h0 := (Prod.mk.inj h).1
     have h1 := (Prod.mk.inj h).2
     subst h0
     subst h1
     refine xi [⟨2, AV.ptr 1 0, none⟩] (xi [.cells 72 (aC.cells x5.2) [], .cells 26 (aB.cells x4.1) []] (ai rfl (ai (Gho.to _ _ _ [] ?_ ?_ ?_ rfl rfl ?_) (ai ?_ rfl))))
     ·exact ⟨⟨rfl, rfl, rfl⟩, ⟨⟨rfl, rfl, rfl⟩, trivial⟩⟩
     ·exact rfl
     ·exact rfl
     ·exact tr3 <| trivial
     ·refine ai ⟨lb rfl, lb rfl⟩ (xi (aB.av x4.1) (ai rfl ?_))
      exact rfl
   ·refine sn <| sj <| aD h fun x7 hx7 h => aK.ren [0] [] [.cells 72 (aC.cells x7.2) [], .cells 26 [ii 0, ii 0, ss [], ss [], AV.list 5 (([] : List aB).map aB.avR)] [(4, 0)]] [2] (nW E x3.2 x7.1 x7.2 hx7) rfl rfl rfl rfl rfl rfl rfl rfl rfl <| ai rfl ?_
    refine ai ⟨rfl, rfl, rfl, lb rfl⟩ (xi (aB.cells x7.1) (ai (fun _ => rfl) ?_))
    refine sn <| sj <| aD h fun x8 hx8 h => aK.ren [0] [] [.cells 72 (aC.cells x8.2) [], .cells 26 [ii 0, ii 0, ss [], ss [], AV.list 5 (([] : List aB).map aB.avR)] [(4, 0)], .cells 26 (aB.cells x7.1) []] [2, 2] (vH E x7.2 x8.1 x8.2 hx8) rfl rfl rfl rfl rfl rfl rfl rfl rfl <| sn <| sj <| sj <| sn ?_
    refine Br.of h (fun ht h => ?_) fun ht h => ?_
    ·refine sj <| ai ⟨lb rfl, lb rfl⟩ <| aF.to (aB.av x7.1) (fun _ => rfl) ?_
     refine ai ⟨rfl, rfl, rfl, lb rfl⟩ (xi (aB.cells x7.1) (ai (fun _ => rfl) ?_))
     refine sn ?_
     replace h := oi h
     have h0 := (Prod.mk.inj h).1
     have h1 := (Prod.mk.inj h).2
     subst h0
     subst h1
     refine xi [⟨2, AV.ptr 1 0, none⟩] (xi [.cells 72 (aC.cells x8.2) [], .cells 26 (aB.cells x7.1) []] (ai rfl (ai (Gho.to _ _ _ [] ?_ ?_ ?_ rfl rfl ?_) (ai ?_ rfl))))
     ·exact ⟨⟨rfl, rfl, rfl⟩, ⟨⟨rfl, rfl, rfl⟩, trivial⟩⟩
     ·exact rfl
     ·exact rfl
     ·exact tr3 <| trivial
     ·refine ai ⟨lb rfl, lb rfl⟩ (xi (aB.av x7.1) (ai rfl ?_))
      exact rfl
    ·refine sn <| sj <| Or.inl <| ai ⟨lb rfl, lb rfl⟩ <| aF.to (aB.av x7.1) (fun _ => rfl) <| aD h fun x9 hx9 h => aK.ren [0] [] [.cells 72 (aC.cells x9.2) [], .cells 26 [ii 0, ii 0, ss [], ss [], AV.list 5 (([] : List aB).map aB.avR)] [(4, 0)], .cells 26 (aB.cells x7.1) []] [2, 2] (nW E x8.2 x9.1 x9.2 hx9) rfl rfl rfl rfl rfl rfl rfl rfl rfl <| ai ⟨rfl, rfl, rfl, rfl⟩ <| ai ⟨rfl, rfl, rfl, rfl⟩ <| ai ⟨rfl, rfl, rfl⟩ <| aF.to (AV.list 5 (([x7.1, x9.1] : List aB).map aB.avR)) (fun _ => by simp only [List.map, aB.av_eq]; rfl) <| ai ⟨rfl, rfl, lb rfl⟩ <| ai ⟨rfl, rfl, lb rfl⟩ <| ai ⟨rfl, rfl, lb rfl⟩ ?_
     refine xi none (ai trivial ?_)
     refine ai ⟨rfl, rfl, rfl, lb rfl⟩ (xi [ii 7, ii 0, ss [], ss x8.1, AV.list 5 (([x7.1, x9.1] : List aB).map aB.avR)] (ai (fun _ => rfl) ?_))
     refine ai (by kernel_rfl) <| sn ?_
     replace h := oi h
     have h0 := (Prod.mk.inj h).1
     have h1 := (Prod.mk.inj h).2
     subst h0
     subst h1
     refine xi [⟨2, AV.ptr 1 0, none⟩] (xi [.cells 72 (aC.cells x9.2) [], .cells 26 [ii 7, ii 0, ss [], ss x8.1, AV.list 5 (([x7.1, x9.1] : List aB).map aB.avR)] []] (ai rfl (ai (Gho.to _ _ _ [] ?_ ?_ ?_ rfl rfl ?_) (ai ?_ rfl))))
     ·exact ⟨⟨rfl, rfl, rfl⟩, ⟨⟨rfl, rfl, rfl⟩, trivial⟩⟩
     ·exact rfl
     ·exact rfl
     ·exact tr3 <| trivial
     ·refine ai ⟨lb rfl, lb rfl⟩ (xi (AV.agg [ii 7, ii 0, ss [], ss x8.1, AV.list 5 (([x7.1, x9.1] : List aB).map aB.avR)]) (ai rfl ?_))
      exact rfl
theorem uI (aNp : aC -> Option (aB × aC)) (aNu : ∀ (E : Pm.Env) [aI E] (o0 : aC) (r : aB) (o0' : aC) (h : aNp o0 = some (r, o0')), FnW E Tryz.prog 42 [AV.ptr 0 0] [.cells 72 (aC.cells o0) []] [] (aB.av r) none [.cells 72 (aC.cells o0') []] []) (n : Nat) : ∀ (E : Pm.Env) [aI E] (o0 : aC) (r : aB) (o0' : aC) (h : eM aNp n o0 = some (r, o0')), FnW E Tryz.prog 66 [AV.ptr 0 0] [.cells 72 (aC.cells o0) []] [] (aB.av r) none [.cells 72 (aC.cells o0') []] [] := by
 induction n with
 | zero => intro E _ o0 r o0' h; cases (show none = some _ from h)
 | succ n ih => intro E _ o0 r o0' h; exact uH E aNp aNu (eM aNp n) ih o0 r o0' h
theorem p4 (E : Pm.Env) [aI E] (aNp : aC -> Option (aB × aC)) (aNu : ∀ (E : Pm.Env) [aI E] (o0 : aC) (r : aB) (o0' : aC) (h : aNp o0 = some (r, o0')), FnW E Tryz.prog 42 [AV.ptr 0 0] [.cells 72 (aC.cells o0) []] [] (aB.av r) none [.cells 72 (aC.cells o0') []] []) (o0 : aC) (r : aB) (o0' : aC) (h : mC aNp o0 = some (r, o0')) : FnW E Tryz.prog 66 [AV.ptr 0 0] [.cells 72 (aC.cells o0) []] [] (aB.av r) none [.cells 72 (aC.cells o0') []] [] := uI aNp aNu 1000000 E o0 r o0' h
theorem lO (E : Pm.Env) [aI E] (aNp : aC -> Option (aB × aC)) (aNu : ∀ (E : Pm.Env) [aI E] (o0 : aC) (r : aB) (o0' : aC) (h : aNp o0 = some (r, o0')), FnW E Tryz.prog 42 [AV.ptr 0 0] [.cells 72 (aC.cells o0) []] [] (aB.av r) none [.cells 72 (aC.cells o0') []] []) (o0 : aC) (a1 : Int) (a2 : aA) (r : aB) (o0' : aC) (h : dC aNp o0 a1 a2 = some (r, o0')) : FnW E Tryz.prog 64 [AV.ptr 0 0, ii a1, ss a2, AV.fn 66 [AV.ptr 0 0] []] [.cells 72 (aC.cells o0) []] [] (aB.av r) none [.cells 72 (aC.cells o0') []] [] := by
 refine FnW.of_evB (T := T) (rows := []) tOk mixed Tryz.func64 rfl (by kernel_rfl) (by kernel_rfl) rfl rfl fun hwf => ?_
 unfold dC at h
 refine sj <| ai rfl <| sn <| sj <| aD h fun x1 hx1 h => aK.ren [0] [] [.cells 72 (aC.cells x1.2) [], .cells 26 [ii 0, ii 0, ss [], ss [], AV.list 5 (([] : List aB).map aB.avR)] [(4, 0)]] [2] (p4 E aNp aNu o0 x1.1 x1.2 hx1) rfl rfl rfl rfl rfl rfl rfl rfl rfl <| ai ⟨rfl, rfl, rfl, rfl⟩ <| ai ⟨rfl, rfl, rfl⟩ <| aF.to (AV.list 5 (([x1.1] : List aB).map aB.avR)) (fun _ => by simp only [List.map, aB.av_eq]; rfl) <| sn <| aD h fun j2 hj2 h => ?_
 refine SeqJ.join (St.of [⟨1, ii a1, none⟩, ⟨8, AV.ptr 1 0, none⟩, ⟨9, AV.list 5 (j2.1.map aB.avR), some 0⟩] [.cells 72 (aC.cells j2.2) [], .cells 26 [ii 0, ii 0, ss [], ss [], AV.list 5 (([] : List aB).map aB.avR)] [(4, 1)]] [1, 1]) ?_ ?_
 ·clear h; have h := hj2; clear hj2
  refine cP.img (fun x : ((List aB) × aC) => St.of [⟨0, AV.ptr 0 0, none⟩, ⟨1, ii a1, none⟩, ⟨2, ss a2, none⟩, ⟨3, AV.fn 66 [AV.ptr 0 0] [], none⟩, ⟨8, AV.ptr 1 0, none⟩, ⟨9, AV.list 5 (x.1.map aB.avR), some 0⟩] [.cells 72 (aC.cells x.2) [], .cells 26 [ii 0, ii 0, ss [], ss [], AV.list 5 (([] : List aB).map aB.avR)] [(4, 1)]] [1, 1]) (d7 aNp a2) (([x1.1] : List aB), x1.2) h ?_ ?_
  ·refine Gho.to _ _ _ [1, 0] ?_ ?_ ?_ rfl rfl ?_
   ·exact ⟨⟨rfl, rfl, rfl⟩, ⟨⟨rfl, rfl, rfl⟩, trivial⟩⟩
   ·exact rfl
   ·exact rfl
   ·exact ⟨rfl, rfl, trivial, rfl, rfl, trivial, rfl, rfl, trivial, rfl, rfl, trivial, rfl, rfl, trivial, rfl, rfl, ⟨rfl, rfl, rfl⟩, trivial⟩
  intro n1 x y1 h hl1 hr1
  obtain ⟨s3, s4⟩ := x
  unfold d7 at h
  dsimp only at h
  refine sj <| sj <| aD h fun x5 hx5 h => aK.ren [0] [] [.cells 72 (aC.cells x5.2) [], .cells 26 [ii 0, ii 0, ss [], ss [], AV.list 5 (([] : List aB).map aB.avR)] [(4, 1)]] [1, 1] (gD E s4 a2 x5.1 x5.2 hx5) rfl rfl rfl rfl rfl rfl rfl rfl rfl <| sn ?_
  refine Br.of h (fun ht h => ?_) fun ht h => ?_
  ·refine sn <| aD h fun x6 hx6 h => aK.ren [0] [] [.cells 72 (aC.cells x6.2) [], .cells 26 [ii 0, ii 0, ss [], ss [], AV.list 5 (([] : List aB).map aB.avR)] [(4, 1)]] [1, 1] (p4 E aNp aNu x5.2 x6.1 x6.2 hx6) rfl rfl rfl rfl rfl rfl rfl rfl rfl <| ai ⟨rfl, rfl, rfl, rfl⟩ <| ai ⟨rfl, rfl, rfl⟩ <| aF.to (AV.list 5 (([x6.1] : List aB).map aB.avR)) (fun _ => by simp only [List.map, aB.av_eq]; rfl) <| aD h fun x7 hx7 h => ?_
   have qx7 := (dE hx7).1
   have hx7e := (dE hx7).2
   refine ai ⟨rfl, rfl, rfl⟩ <| ai rfl <| ai (jZ aB.avR qx7) <| aF.to (AV.list 5 (x7.map aB.avR)) (fun _ => (j3 5 aB.avR _ _).trans (congrArg (fun y => AV.list 5 (List.map aB.avR y)) hx7e.symm)) ?_
   replace h := oi h
   refine xi ⟨(n1, (x7, x6.2)), hl1 _ h.symm⟩ (ai (aPM _) ?_)
   refine Gho.to _ _ _ [3, 1] ?_ ?_ ?_ rfl rfl ?_
   ·exact ⟨⟨rfl, rfl, rfl⟩, ⟨⟨rfl, rfl, rfl⟩, trivial⟩⟩
   ·exact rfl
   ·exact rfl
   ·exact ⟨rfl, rfl, trivial, rfl, rfl, trivial, rfl, rfl, trivial, rfl, rfl, trivial, rfl, rfl, trivial, rfl, rfl, ⟨rfl, rfl, rfl⟩, trivial⟩
  ·replace h := oi h
   replace h := hr1 _ h.symm
   subst h
   refine Gho.to _ _ _ [0, 1] ?_ ?_ ?_ rfl rfl ?_
   ·exact ⟨⟨rfl, rfl, rfl⟩, ⟨⟨rfl, rfl, rfl⟩, trivial⟩⟩
   ·exact rfl
   ·exact rfl
   ·exact ⟨rfl, rfl, trivial, rfl, rfl, trivial, rfl, rfl, ⟨rfl, rfl, rfl⟩, trivial⟩
 ·clear hj2
  refine sj <| sj <| aF.to (ii (j2.1.length : Int)) (fun _ => bB aB.avR j2.1) <| sn ?_
  refine Br.of h (fun ht h => ?_) fun ht h => ?_
  ·refine sj <| aD h fun x8 hx8 h => ?_
   refine ai rfl (xi (aB.av x8) (ai (fun hg => aB.av_eq x8 ▸ cY _ hx8) ?_))
   refine ai (lb rfl) <| aF.to (aB.av x8) (fun _ => rfl) ?_
   refine ai ⟨rfl, rfl, rfl, lb rfl⟩ (xi (aB.cells x8) (ai (fun _ => rfl) ?_))
   refine sn ?_
   replace h := oi h
   have h0 := (Prod.mk.inj h).1
   have h1 := (Prod.mk.inj h).2
   subst h0
   subst h1
   refine xi [⟨8, AV.ptr 1 0, none⟩] (xi [.cells 72 (aC.cells j2.2) [], .cells 26 (aB.cells x8) []] (ai rfl (ai (Gho.to _ _ _ [] ?_ ?_ ?_ rfl rfl ?_) (ai ?_ rfl))))
   ·exact ⟨⟨rfl, rfl, rfl⟩, ⟨⟨rfl, rfl, rfl⟩, trivial⟩⟩
   ·exact rfl
   ·exact rfl
   ·exact tr3 <| trivial
   ·refine ai ⟨lb rfl, lb rfl⟩ (xi (aB.av x8) (ai rfl ?_))
    exact rfl
  ·refine sn <| sj <| ai ⟨rfl, rfl, lb rfl⟩ <| ai ⟨rfl, rfl, lb rfl⟩ ?_
   refine xi none (ai trivial ?_)
   refine ai ⟨rfl, rfl, rfl, lb rfl⟩ (xi [ii a1, ii 0, ss [], ss [], AV.list 5 (j2.1.map aB.avR)] (ai (fun _ => rfl) ?_))
   refine sn ?_
   replace h := oi h
   have h0 := (Prod.mk.inj h).1
   have h1 := (Prod.mk.inj h).2
   subst h0
   subst h1
   refine xi [⟨8, AV.ptr 1 0, none⟩] (xi [.cells 72 (aC.cells j2.2) [], .cells 26 [ii a1, ii 0, ss [], ss [], AV.list 5 (j2.1.map aB.avR)] []] (ai rfl (ai (Gho.to _ _ _ [] ?_ ?_ ?_ rfl rfl ?_) (ai ?_ rfl))))
   ·exact ⟨⟨rfl, rfl, rfl⟩, ⟨⟨rfl, rfl, rfl⟩, trivial⟩⟩
   ·exact rfl
   ·exact rfl
   ·exact tr3 <| trivial
   ·refine ai ⟨lb rfl, lb rfl⟩ (xi (AV.agg [ii a1, ii 0, ss [], ss [], AV.list 5 (j2.1.map aB.avR)]) (ai rfl ?_))
    exact rfl
theorem oB (E : Pm.Env) [aI E] (aNp : aC -> Option (aB × aC)) (aNu : ∀ (E : Pm.Env) [aI E] (o0 : aC) (r : aB) (o0' : aC) (h : aNp o0 = some (r, o0')), FnW E Tryz.prog 42 [AV.ptr 0 0] [.cells 72 (aC.cells o0) []] [] (aB.av r) none [.cells 72 (aC.cells o0') []] []) (o0 : aC) (r : aB) (o0' : aC) (h : gU aNp o0 = some (r, o0')) : FnW E Tryz.prog 65 [AV.ptr 1 0] [.cells 72 (aC.cells o0) [], .cells 70 [AV.ptr 0 0] []] [] (aB.av r) none [.cells 72 (aC.cells o0') [], .cells 70 [AV.ptr 0 0] []] [] := by
 refine FnW.of_evB (T := T) (rows := []) tOk mixed Tryz.func65 rfl (by kernel_rfl) (by kernel_rfl) rfl rfl fun hwf => ?_
 unfold gU at h
 refine sj <| ai rfl ?_
 refine SeqN.via (St.of [⟨0, AV.ptr 1 0, none⟩, ⟨1, AV.ptr 2 0, none⟩] [.cells 72 (aC.cells o0) [], .cells 70 [AV.ptr 0 0] [], .cells 26 [ii 0, ii 0, ss [], ss [], AV.list 5 (([] : List aB).map aB.avR)] [(4, 0)]] [1]) ?_ ?_
 ·refine Gho.to _ _ _ [0] ?_ ?_ ?_ rfl rfl ?_
  ·exact W
  ·exact rfl
  ·exact rfl
  ·exact tr3 <| tr3 <| trivial
 refine sj <| aD h fun x1 hx1 h => aK.ren [0] [] [.cells 72 (aC.cells x1.2) [], .cells 70 [AV.ptr 0 0] [], .cells 26 [ii 0, ii 0, ss [], ss [], AV.list 5 (([] : List aB).map aB.avR)] [(4, 0)]] [1] (lO E aNp aNu o0 (5 : Int) ([38] : aA) x1.1 x1.2 hx1) rfl rfl rfl rfl rfl rfl rfl rfl rfl ?_
 refine ai ⟨rfl, rfl, rfl, lb rfl⟩ (xi (aB.cells x1.1) (ai (fun _ => rfl) ?_))
 refine sn ?_
 replace h := oi h
 have h0 := (Prod.mk.inj h).1
 have h1 := (Prod.mk.inj h).2
 subst h0
 subst h1
 refine xi [⟨1, AV.ptr 2 0, none⟩] (xi [.cells 72 (aC.cells x1.2) [], .cells 70 [AV.ptr 0 0] [], .cells 26 (aB.cells x1.1) []] (ai rfl (ai (Gho.to _ _ _ [] ?_ ?_ ?_ rfl rfl ?_) (ai ?_ rfl))))
 ·exact ⟨⟨rfl, rfl, rfl⟩, ⟨⟨rfl, rfl, rfl⟩, ⟨⟨rfl, rfl, rfl⟩, trivial⟩⟩⟩
 ·exact rfl
 ·exact rfl
 ·exact tr3 <| trivial
 ·refine ai ⟨lb rfl, lb rfl⟩ (xi (aB.av x1.1) (ai rfl ?_))
  exact rfl
theorem kW (E : Pm.Env) [aI E] (aNp : aC -> Option (aB × aC)) (aNu : ∀ (E : Pm.Env) [aI E] (o0 : aC) (r : aB) (o0' : aC) (h : aNp o0 = some (r, o0')), FnW E Tryz.prog 42 [AV.ptr 0 0] [.cells 72 (aC.cells o0) []] [] (aB.av r) none [.cells 72 (aC.cells o0') []] []) (o0 : aC) (a1 : Int) (a2 : aA) (r : aB) (o0' : aC) (h : cW aNp o0 a1 a2 = some (r, o0')) : FnW E Tryz.prog 64 [AV.ptr 0 0, ii a1, ss a2, AV.fn 65 [] [AV.ptr 1 0]] [.cells 72 (aC.cells o0) [], .cells 70 [AV.ptr 0 0] []] [] (aB.av r) none [.cells 72 (aC.cells o0') [], .cells 70 [AV.ptr 0 0] []] [] := by
 refine FnW.of_evB (T := T) (rows := []) tOk mixed Tryz.func64 rfl (by kernel_rfl) (by kernel_rfl) rfl rfl fun hwf => ?_
 unfold cW at h
 refine sj <| ai rfl <| sn <| sj <| aD h fun x1 hx1 h => aK.ren [0, 1] [] [.cells 72 (aC.cells x1.2) [], .cells 70 [AV.ptr 0 0] [], .cells 26 [ii 0, ii 0, ss [], ss [], AV.list 5 (([] : List aB).map aB.avR)] [(4, 0)]] [2] (oB E aNp aNu o0 x1.1 x1.2 hx1) rfl rfl rfl rfl rfl rfl rfl rfl rfl <| ai ⟨rfl, rfl, rfl, rfl⟩ <| ai ⟨rfl, rfl, rfl⟩ <| aF.to (AV.list 5 (([x1.1] : List aB).map aB.avR)) (fun _ => by simp only [List.map, aB.av_eq]; rfl) <| sn <| aD h fun j2 hj2 h => ?_
 refine SeqJ.join (St.of [⟨1, ii a1, none⟩, ⟨8, AV.ptr 2 0, none⟩, ⟨9, AV.list 5 (j2.1.map aB.avR), some 0⟩] [.cells 72 (aC.cells j2.2) [], .cells 70 [AV.ptr 0 0] [], .cells 26 [ii 0, ii 0, ss [], ss [], AV.list 5 (([] : List aB).map aB.avR)] [(4, 1)]] [1, 1]) ?_ ?_
 ·clear h; have h := hj2; clear hj2
  refine cP.img (fun x : ((List aB) × aC) => St.of [⟨0, AV.ptr 0 0, none⟩, ⟨1, ii a1, none⟩, ⟨2, ss a2, none⟩, ⟨3, AV.fn 65 [] [AV.ptr 1 0], none⟩, ⟨8, AV.ptr 2 0, none⟩, ⟨9, AV.list 5 (x.1.map aB.avR), some 0⟩] [.cells 72 (aC.cells x.2) [], .cells 70 [AV.ptr 0 0] [], .cells 26 [ii 0, ii 0, ss [], ss [], AV.list 5 (([] : List aB).map aB.avR)] [(4, 1)]] [1, 1]) (dV aNp a2) (([x1.1] : List aB), x1.2) h ?_ ?_
  ·refine Gho.to _ _ _ [1, 0] ?_ ?_ ?_ rfl rfl ?_
   ·exact ⟨⟨rfl, rfl, rfl⟩, ⟨⟨rfl, rfl, rfl⟩, ⟨⟨rfl, rfl, rfl⟩, trivial⟩⟩⟩
   ·exact rfl
   ·exact rfl
   ·exact ⟨rfl, rfl, trivial, rfl, rfl, trivial, rfl, rfl, trivial, rfl, rfl, trivial, rfl, rfl, trivial, rfl, rfl, ⟨rfl, rfl, rfl⟩, trivial⟩
  intro n1 x y1 h hl1 hr1
  obtain ⟨s3, s4⟩ := x
  unfold dV at h
  dsimp only at h
  refine sj <| sj <| aD h fun x5 hx5 h => aK.ren [0] [] [.cells 72 (aC.cells x5.2) [], .cells 70 [AV.ptr 0 0] [], .cells 26 [ii 0, ii 0, ss [], ss [], AV.list 5 (([] : List aB).map aB.avR)] [(4, 1)]] [1, 1] (gD E s4 a2 x5.1 x5.2 hx5) rfl rfl rfl rfl rfl rfl rfl rfl rfl <| sn ?_
  refine Br.of h (fun ht h => ?_) fun ht h => ?_
  ·refine sn <| aD h fun x6 hx6 h => aK.ren [0, 1] [] [.cells 72 (aC.cells x6.2) [], .cells 70 [AV.ptr 0 0] [], .cells 26 [ii 0, ii 0, ss [], ss [], AV.list 5 (([] : List aB).map aB.avR)] [(4, 1)]] [1, 1] (oB E aNp aNu x5.2 x6.1 x6.2 hx6) rfl rfl rfl rfl rfl rfl rfl rfl rfl <| ai ⟨rfl, rfl, rfl, rfl⟩ <| ai ⟨rfl, rfl, rfl⟩ <| aF.to (AV.list 5 (([x6.1] : List aB).map aB.avR)) (fun _ => by simp only [List.map, aB.av_eq]; rfl) <| aD h fun x7 hx7 h => ?_
   have qx7 := (dE hx7).1
   have hx7e := (dE hx7).2
   refine ai ⟨rfl, rfl, rfl⟩ <| ai rfl <| ai (jZ aB.avR qx7) <| aF.to (AV.list 5 (x7.map aB.avR)) (fun _ => (j3 5 aB.avR _ _).trans (congrArg (fun y => AV.list 5 (List.map aB.avR y)) hx7e.symm)) ?_
   replace h := oi h
   refine xi ⟨(n1, (x7, x6.2)), hl1 _ h.symm⟩ (ai (aPM _) ?_)
   refine Gho.to _ _ _ [3, 1] ?_ ?_ ?_ rfl rfl ?_
   ·exact ⟨⟨rfl, rfl, rfl⟩, ⟨⟨rfl, rfl, rfl⟩, ⟨⟨rfl, rfl, rfl⟩, trivial⟩⟩⟩
   ·exact rfl
   ·exact rfl
   ·exact ⟨rfl, rfl, trivial, rfl, rfl, trivial, rfl, rfl, trivial, rfl, rfl, trivial, rfl, rfl, trivial, rfl, rfl, ⟨rfl, rfl, rfl⟩, trivial⟩
  ·replace h := oi h
   replace h := hr1 _ h.symm
   subst h
   refine Gho.to _ _ _ [0, 1] ?_ ?_ ?_ rfl rfl ?_
   ·exact ⟨⟨rfl, rfl, rfl⟩, ⟨⟨rfl, rfl, rfl⟩, ⟨⟨rfl, rfl, rfl⟩, trivial⟩⟩⟩
   ·exact rfl
   ·exact rfl
   ·exact ⟨rfl, rfl, trivial, rfl, rfl, trivial, rfl, rfl, ⟨rfl, rfl, rfl⟩, trivial⟩
 ·clear hj2
  refine sj <| sj <| aF.to (ii (j2.1.length : Int)) (fun _ => bB aB.avR j2.1) <| sn ?_
  refine Br.of h (fun ht h => ?_) fun ht h => ?_
  ·refine sj <| aD h fun x8 hx8 h => ?_
   refine ai rfl (xi (aB.av x8) (ai (fun hg => aB.av_eq x8 ▸ cY _ hx8) ?_))
   refine ai (lb rfl) <| aF.to (aB.av x8) (fun _ => rfl) ?_
   refine ai ⟨rfl, rfl, rfl, lb rfl⟩ (xi (aB.cells x8) (ai (fun _ => rfl) ?_))
   refine sn ?_
   replace h := oi h
   have h0 := (Prod.mk.inj h).1
   have h1 := (Prod.mk.inj h).2
   subst h0
   subst h1
   refine xi [⟨8, AV.ptr 2 0, none⟩] (xi [.cells 72 (aC.cells j2.2) [], .cells 70 [AV.ptr 0 0] [], .cells 26 (aB.cells x8) []] (ai rfl (ai (Gho.to _ _ _ [] ?_ ?_ ?_ rfl rfl ?_) (ai ?_ rfl))))
   ·exact ⟨⟨rfl, rfl, rfl⟩, ⟨⟨rfl, rfl, rfl⟩, ⟨⟨rfl, rfl, rfl⟩, trivial⟩⟩⟩
   ·exact rfl
   ·exact rfl
   ·exact tr3 <| trivial
   ·refine ai ⟨lb rfl, lb rfl⟩ (xi (aB.av x8) (ai rfl ?_))
    exact rfl
  ·refine sn <| sj <| ai ⟨rfl, rfl, lb rfl⟩ <| ai ⟨rfl, rfl, lb rfl⟩ ?_
   refine xi none (ai trivial ?_)
   refine ai ⟨rfl, rfl, rfl, lb rfl⟩ (xi [ii a1, ii 0, ss [], ss [], AV.list 5 (j2.1.map aB.avR)] (ai (fun _ => rfl) ?_))
   refine sn ?_
   replace h := oi h
   have h0 := (Prod.mk.inj h).1
   have h1 := (Prod.mk.inj h).2
   subst h0
   subst h1
   refine xi [⟨8, AV.ptr 2 0, none⟩] (xi [.cells 72 (aC.cells j2.2) [], .cells 70 [AV.ptr 0 0] [], .cells 26 [ii a1, ii 0, ss [], ss [], AV.list 5 (j2.1.map aB.avR)] []] (ai rfl (ai (Gho.to _ _ _ [] ?_ ?_ ?_ rfl rfl ?_) (ai ?_ rfl))))
   ·exact ⟨⟨rfl, rfl, rfl⟩, ⟨⟨rfl, rfl, rfl⟩, ⟨⟨rfl, rfl, rfl⟩, trivial⟩⟩⟩
   ·exact rfl
   ·exact rfl
   ·exact tr3 <| trivial
   ·refine ai ⟨lb rfl, lb rfl⟩ (xi (AV.agg [ii a1, ii 0, ss [], ss [], AV.list 5 (j2.1.map aB.avR)]) (ai rfl ?_))
    exact rfl
theorem uJ (E : Pm.Env) [aI E] (aNp : aC -> Option (aB × aC)) (aNu : ∀ (E : Pm.Env) [aI E] (o0 : aC) (r : aB) (o0' : aC) (h : aNp o0 = some (r, o0')), FnW E Tryz.prog 42 [AV.ptr 0 0] [.cells 72 (aC.cells o0) []] [] (aB.av r) none [.cells 72 (aC.cells o0') []] []) (o0 : aC) (r : aB) (o0' : aC) (h : iX aNp o0 = some (r, o0')) : FnW E Tryz.prog 42 [AV.ptr 0 0] [.cells 72 (aC.cells o0) []] [] (aB.av r) none [.cells 72 (aC.cells o0') []] [] := by
 refine FnW.of_evB (T := T) (rows := []) tOk mixed Tryz.func42 rfl (by kernel_rfl) (by kernel_rfl) rfl rfl fun hwf => ?_
 unfold iX at h
 refine sj <| ai rfl <| ai rfl ?_
 refine SeqN.via (St.of [⟨1, AV.ptr 1 0, none⟩, ⟨2, AV.ptr 2 0, none⟩] [.cells 72 (aC.cells o0) [], .cells 70 [AV.ptr 0 0] [], .cells 26 [ii 0, ii 0, ss [], ss [], AV.list 5 (([] : List aB).map aB.avR)] [(4, 0)]] [1]) ?_ ?_
 ·refine Gho.to _ _ _ [0] ?_ ?_ ?_ rfl rfl ?_
  ·exact W
  ·exact rfl
  ·exact rfl
  ·exact tr3 <| tr3 <| trivial
 refine sj <| aD h fun x1 hx1 h => aK.ren [0, 1] [] [.cells 72 (aC.cells x1.2) [], .cells 70 [AV.ptr 0 0] [], .cells 26 [ii 0, ii 0, ss [], ss [], AV.list 5 (([] : List aB).map aB.avR)] [(4, 0)]] [1] (kW E aNp aNu o0 (6 : Int) ([124] : aA) x1.1 x1.2 hx1) rfl rfl rfl rfl rfl rfl rfl rfl rfl ?_
 refine ai ⟨rfl, rfl, rfl, lb rfl⟩ (xi (aB.cells x1.1) (ai (fun _ => rfl) ?_))
 refine sn ?_
 replace h := oi h
 have h0 := (Prod.mk.inj h).1
 have h1 := (Prod.mk.inj h).2
 subst h0
 subst h1
 refine xi [⟨2, AV.ptr 2 0, none⟩] (xi [.cells 72 (aC.cells x1.2) [], .dead, .cells 26 (aB.cells x1.1) []] (ai rfl (ai (Gho.to _ _ _ [] ?_ ?_ ?_ rfl rfl ?_) (ai ?_ rfl))))
 ·exact ⟨⟨rfl, rfl, rfl⟩, ⟨trivial, ⟨⟨rfl, rfl, rfl⟩, trivial⟩⟩⟩
 ·exact rfl
 ·exact rfl
 ·exact tr3 <| trivial
 ·refine ai ⟨lb rfl, lb rfl⟩ (xi (aB.av x1.1) (ai rfl ?_))
  exact rfl
theorem uK (n : Nat) : ∀ (E : Pm.Env) [aI E] (o0 : aC) (r : aB) (o0' : aC) (h : gV n o0 = some (r, o0')), FnW E Tryz.prog 42 [AV.ptr 0 0] [.cells 72 (aC.cells o0) []] [] (aB.av r) none [.cells 72 (aC.cells o0') []] [] := by
 induction n with
 | zero => intro E _ o0 r o0' h; cases (show none = some _ from h)
 | succ n ih => intro E _ o0 r o0' h; exact uJ E (gV n) ih o0 r o0' h
theorem wF (E : Pm.Env) [aI E] (o0 : aC) (r : aB) (o0' : aC) (h : oQ o0 = some (r, o0')) : FnW E Tryz.prog 42 [AV.ptr 0 0] [.cells 72 (aC.cells o0) []] [] (aB.av r) none [.cells 72 (aC.cells o0') []] [] := uK 1000000 E o0 r o0' h
instance aAu (E : Pm.Env) [aI E] (a0 : aB) : Ok E (pP a0) (fun r => FnR E Tryz.prog 44 [aB.av a0] (bb r) false) := ⟨fun r h => by
 refine FnR.of_ev (T := T) (rows := []) tOk mixed Tryz.func44 rfl (by kernel_rfl) (by kernel_rfl) rfl fun hwf => ?_
 unfold pP at h
 refine sj <| ai rfl <| sn <| sj <| ai ⟨lb rfl, lb rfl⟩ <| aF.to (aB.av a0) (fun _ => rfl) <| ai ⟨rfl, rfl, rfl, rfl⟩ <| ai ⟨rfl, rfl, rfl⟩ <| aF.to (AV.list 5 (([a0] : List aB).map aB.avR)) (fun _ => by simp only [List.map, aB.av_eq]; rfl) <| sn <| sj <| sj <| sn ?_
 refine cP.img (fun x : ((List aB) × Int) => St.of [⟨3, AV.list 5 (x.1.map aB.avR), some 0⟩, ⟨4, ii x.2, none⟩] [] [1]) lT (([a0] : List aB), (0 : Int)) h ?_ ?_
 ·exact W
 intro n1 x y1 h hl1 hr1
 obtain ⟨s1, s2⟩ := x
 unfold lT at h
 dsimp only at h
 refine sj <| sj <| aF.to (ii (s1.length : Int)) (fun _ => bB aB.avR s1) <| sn ?_
 refine Br.of h (fun ht h => ?_) fun ht h => ?_
 ·refine sn <| sj <| sj <| sj <| aD h fun x3 hx3 h => ?_
  refine ai rfl (xi (aB.av x3) (ai (fun hg => aB.av_eq x3 ▸ cY _ hx3) ?_))
  refine aF.to (ii (x3.Kids.length : Int)) (fun _ => bB aB.avR x3.Kids) <| aF.to (ii (s1.length : Int)) (fun _ => bB aB.avR s1) <| sn ?_
  refine Br.of h (fun ht h => ?_) fun ht h => ?_
  ·exact W
  ·refine sn <| aD h fun x4 hx4 h => ?_
   refine ai rfl (xi (aB.av x4) (ai (fun hg => aB.av_eq x4 ▸ cY _ hx4) ?_))
   exact W
 ·exact W⟩
instance aAv (E : Pm.Env) [aI E] (a0 : aB) : Ok E (tC a0) (fun r => FnR E Tryz.prog 68 [aB.av a0] (bb r) false) := ⟨fun r h => by
 refine FnR.of_ev (T := T) (rows := []) tOk mixed Tryz.func68 rfl (by kernel_rfl) (by kernel_rfl) rfl fun hwf => ?_
 unfold tC at h
 exact W⟩
theorem aAS (E : Pm.Env) [aI E] (aNz : aB -> Option Int) (aNL : ∀ (E : Pm.Env) [aI E] (a0 : aB) (r : Int) (h : aNz a0 = some r), FnR E Tryz.prog 45 [aB.av a0] (ii r) false) (a0 : aB) (r : Int) (h : oR aNz a0 = some r) : FnR E Tryz.prog 45 [aB.av a0] (ii r) false := by
 refine FnR.of_ev (T := T) (rows := []) tOk mixed Tryz.func45 rfl (by kernel_rfl) (by kernel_rfl) rfl fun hwf => ?_
 unfold oR at h
 refine sj <| ai rfl <| sn <| sj <| sn <| aD h fun j1 hj1 h => ?_
 refine SeqJ.join (St.of [⟨1, AV.ptr 0 0, none⟩, ⟨3, ii j1, none⟩] [.cells 26 (aB.cells a0) []] []) ?_ ?_
 ·clear h; have h := hj1; clear hj1
  refine sj <| aF.to (ii (a0.Kids.length : Int)) (fun _ => bB aB.avR a0.Kids) <| sn ?_
  refine cP.img (fun x : (Int × Int) => St.of [⟨1, AV.ptr 0 0, none⟩, ⟨3, ii x.1, none⟩, ⟨8, AV.list 5 (a0.Kids.map aB.avR), none⟩, ⟨9, ii (a0.Kids.length : Int), none⟩, ⟨10, ii x.2, none⟩] [.cells 26 (aB.cells a0) []] []) (kD aNz a0) ((0 : Int), (0 : Int)) h ?_ ?_
  ·exact W
  intro n1 x y1 h hl1 hr1
  obtain ⟨s2, s3⟩ := x
  unfold kD at h
  dsimp only at h
  refine sj <| sn <| sj ?_
  refine Br.of h (fun ht h => ?_) fun ht h => ?_
  ·refine sn <| sj <| sj <| aD h fun x4 hx4 h => ?_
   refine ai rfl (xi (aB.av x4) (ai (fun hg => aB.av_eq x4 ▸ cY _ hx4) ?_))
   refine ai (lb rfl) <| aF.to (aB.av x4) (fun _ => rfl) <| ai rfl ?_
   refine ai ⟨rfl, rfl, rfl, lb rfl⟩ (xi (aB.cells x4) (ai (fun _ => rfl) ?_))
   refine sn <| sj <| ai ⟨lb rfl, lb rfl⟩ <| aF.to (aB.av x4) (fun _ => rfl) <| aD h fun x5 hx5 h => aK.data _ false rfl (aNL E x4 x5 hx5) <| sn <| sj <| sj <| ai ⟨lb rfl, lb rfl⟩ <| aF.to (aB.av x4) (fun _ => rfl) <| aD h fun x6 hx6 h => aK.data _ false rfl ((aAv E x4).1 x6 hx6) <| sn ?_
   exact W
  ·exact W
 ·clear hj1
  exact W
theorem aAT (n : Nat) : ∀ (E : Pm.Env) [aI E] (a0 : aB) (r : Int) (h : kE n a0 = some r), FnR E Tryz.prog 45 [aB.av a0] (ii r) false := by
 induction n with
 | zero => intro E _ a0 r h; cases (show none = some _ from h)
 | succ n ih => intro E _ a0 r h; exact aAS E (kE n) ih a0 r h
theorem xK (E : Pm.Env) [aI E] (a0 : aB) (r : Int) (h : sF a0 = some r) : FnR E Tryz.prog 45 [aB.av a0] (ii r) false := aAT 1000000 E a0 r h
instance aCC (E : Pm.Env) [aI E] (a0 : aA) : Ok E (oJ a0) (fun r => FnR E Tryz.prog 23 [ss a0] (AV.tup [aB.av r.1, ii r.2]) false) := ⟨fun r h => by
 refine FnR.of_ev (T := T) (rows := []) tOk mixed Tryz.func23 rfl (by kernel_rfl) (by kernel_rfl) rfl fun hwf => ?_
 unfold oJ at h
 refine sj <| ai rfl <| sn <| sj <| sj <| aF.same <| sn ?_
 refine Br.of h (fun ht h => ?_) fun ht h => ?_
 ·refine sj ?_
  refine xi (some 31) (ai (okM.mk (show (31 : Nat) = nS T _ _ _ from by kernel_rfl)) ?_)
  exact W
 ·refine sn <| sj <| ai ⟨rfl, rfl, lb rfl⟩ ?_
  refine xi none (ai trivial ?_)
  refine ai rfl <| sn <| sj <| aD h fun x1 hx1 h => aK.ren [1] [] [.cells 26 [ii 0, ii 0, ss [], ss [], AV.list 5 (([] : List aB).map aB.avR)] [(4, 0)], .cells 72 (aC.cells x1.2) []] [2] (wF E (aC.mk a0 false) x1.1 x1.2 hx1) rfl rfl rfl rfl rfl rfl rfl rfl rfl <| ai rfl ?_
  refine ai ⟨rfl, rfl, rfl, lb rfl⟩ (xi (aB.cells x1.1) (ai (fun _ => rfl) ?_))
  refine sn <| sj <| aD h fun x2 hx2 h => aK.ren [1] [] [.cells 26 [ii 0, ii 0, ss [], ss [], AV.list 5 (([] : List aB).map aB.avR)] [(4, 0)], .cells 72 (aC.cells x2.2) [], .cells 26 (aB.cells x1.1) []] [2, 2] (kJ E x1.2 x2.1 x2.2 hx2) rfl rfl rfl rfl rfl rfl rfl rfl rfl <| sn <| sj <| sj <| ai id <| ai id <| ai id <| ai id <| ai (fun hg => (hY hg)) <| sn ?_
  refine Br.of h (fun ht h => ?_) fun ht h => ?_
  ·refine sj ?_
   refine xi (some 31) (ai (okM.mk (show (31 : Nat) = nS T _ _ _ from by kernel_rfl)) ?_)
   exact W
  ·refine sj <| ai ⟨lb rfl, lb rfl⟩ <| aF.to (aB.av x1.1) (fun _ => rfl) <| aD h fun x3 hx3 h => aK.data _ false rfl ((aAu E x1.1).1 x3 hx3) <| sn ?_
   refine Br.of h (fun ht h => ?_) fun ht h => ?_
   ·refine sj ?_
    refine xi (some 31) (ai (okM.mk (show (31 : Nat) = nS T _ _ _ from by kernel_rfl)) ?_)
    exact W
   ·refine sj <| ai ⟨lb rfl, lb rfl⟩ <| aF.to (aB.av x1.1) (fun _ => rfl) <| aD h fun x4 hx4 h => aK.data _ false rfl (xK E x1.1 x4 hx4) <| sn ?_
    refine Br.of h (fun ht h => ?_) fun ht h => ?_
    ·refine sj ?_
     refine xi (some 31) (ai (okM.mk (show (31 : Nat) = nS T _ _ _ from by kernel_rfl)) ?_)
     exact W
    ·exact W⟩
instance uO (E : Pm.Env) [aI E] (a0 : aB) : Ok E (lU a0) (fun r => FnR E Tryz.prog 70 [aB.av a0] (bb r) false) := ⟨fun r h => by
 refine FnR.of_ev (T := T) (rows := []) tOk mixed Tryz.func70 rfl (by kernel_rfl) (by kernel_rfl) rfl fun hwf => ?_
 unfold lU at h
 exact W⟩
instance aJW (E : Pm.Env) [aI E] (a0 : aB) : Ok E (sG a0) (fun r => FnR E Tryz.prog 71 [aB.av a0] (bb r) false) := ⟨fun r h => by
 refine FnR.of_ev (T := T) (rows := []) tOk mixed Tryz.func71 rfl (by kernel_rfl) (by kernel_rfl) rfl fun hwf => ?_
 unfold sG at h
 exact W⟩
theorem kX (E : Pm.Env) [aI E] (a0 : (List aB)) (a1 : FuncId) (a1c : List AV) (a1i : aB -> Option Bool) (a1h : ∀ (x0 : aB) (r : Bool), a1i x0 = some r -> FnR E Tryz.prog a1 ([aB.av x0] ++ a1c) (bb r) false) (a1p : a1c.all AV.puB = true) (r : Int) (h : cX a0 a1i = some r) : FnR E Tryz.prog 81 [AV.list 5 (a0.map aB.avR), AV.fn a1 [] a1c] (ii r) false := by
 refine FnR.of_ev (T := T) (rows := []) tOk mixed Tryz.func81 rfl (by kernel_rfl) (by kernel_rfl) rfl fun hwf => ?_
 unfold cX at h
 refine sj <| sn <| sj <| sj <| aF.to (ii (a0.length : Int)) (fun _ => bB aB.avR a0) <| sn ?_
 refine cP.img (fun x : Int => St.of [⟨0, AV.list 5 (a0.map aB.avR), none⟩, ⟨1, AV.fn a1 [] a1c, none⟩, ⟨7, ii (a0.length : Int), none⟩, ⟨8, ii x, none⟩] [] []) (aW a0 a1i) (0 : Int) h ?_ ?_
 ·refine Gho.to _ _ _ [] ?_ ?_ ?_ rfl rfl ?_
  ·exact trivial
  ·exact rfl
  ·exact rfl
  ·exact ⟨rfl, rfl, trivial, rfl, (sT a1p _), trivial, rfl, rfl, trivial, rfl, rfl, trivial, trivial⟩
 intro n1 x y1 h hl1 hr1
 revert h; revert x; intro s1 h
 unfold aW at h
 refine sj <| sn <| sj ?_
 refine Br.of h (fun ht h => ?_) fun ht h => ?_
 ·refine sn <| sj <| sj <| sn <| sj <| aD h fun x2 hx2 h => ?_
  refine ai rfl (xi (aB.av x2) (ai (fun hg => aB.av_eq x2 ▸ cY _ hx2) ?_))
  refine ai (lb rfl) <| aF.to (aB.av x2) (fun _ => rfl) <| aD h fun x3 hx3 h => aK.data _ false (wY rfl (aBl a1p)) (a1h x2 x3 hx3) <| sn ?_
  refine Br.of h (fun ht h => ?_) fun ht h => ?_
  ·exact W
  ·refine sn ?_
   replace h := oi h
   refine xi ⟨(n1, (IntKind.i64.wrap (s1 + (1 : Int)))), hl1 _ h.symm⟩ (ai (aPM _) ?_)
   refine Gho.to _ _ _ [] ?_ ?_ ?_ rfl rfl ?_
   ·exact W
   ·exact rfl
   ·exact rfl
   ·exact ⟨rfl, rfl, trivial, rfl, (sT a1p _), trivial, rfl, rfl, trivial, rfl, rfl, trivial, trivial⟩
 ·exact W
theorem dB (E : Pm.Env) [aI E] (a0 : (List aB)) (a1 : FuncId) (a1c : List AV) (a1i : aB -> Option Bool) (a1h : ∀ (x0 : aB) (r : Bool), a1i x0 = some r -> FnR E Tryz.prog a1 ([aB.av x0] ++ a1c) (bb r) false) (a1p : a1c.all AV.puB = true) (r : Bool) (h : aM a0 a1i = some r) : FnR E Tryz.prog 55 [AV.list 5 (a0.map aB.avR), AV.fn a1 [] a1c] (bb r) false := by
 refine FnR.of_ev (T := T) (rows := []) tOk mixed Tryz.func55 rfl (by kernel_rfl) (by kernel_rfl) rfl fun hwf => ?_
 unfold aM at h
 refine sj <| sn <| sj <| aD h fun x1 hx1 h => aK.data _ false (and_tt' rfl (and_tt' (puD_fn a1p) rfl)) (kX E a0 a1 a1c a1i a1h a1p x1 hx1) <| sn ?_
 exact W
theorem aAU (E : Pm.Env) [aI E] (aNw : aB -> Option Bool) (aNG : ∀ (E : Pm.Env) [aI E] (a0 : aB) (r : Bool) (h : aNw a0 = some r), FnR E Tryz.prog 47 [aB.av a0] (bb r) false) (a0 : aB) (r : Bool) (h : m7 aNw a0 = some r) : FnR E Tryz.prog 72 [aB.av a0] (bb r) false := by
 refine FnR.of_ev (T := T) (rows := []) tOk mixed Tryz.func72 rfl (by kernel_rfl) (by kernel_rfl) rfl fun hwf => ?_
 unfold m7 at h
 refine sj <| ai rfl <| sn <| sj <| ai ⟨lb rfl, lb rfl⟩ <| aF.to (aB.av a0) (fun _ => rfl) <| aD h fun x1 hx1 h => aK.data _ false rfl (aNG E a0 x1 hx1) <| sn ?_
 exact W
theorem aAV (E : Pm.Env) [aI E] (aNw : aB -> Option Bool) (aNG : ∀ (E : Pm.Env) [aI E] (a0 : aB) (r : Bool) (h : aNw a0 = some r), FnR E Tryz.prog 47 [aB.av a0] (bb r) false) (a0 : aB) (r : Bool) (h : oS aNw a0 = some r) : FnR E Tryz.prog 47 [aB.av a0] (bb r) false := by
 refine FnR.of_ev (T := T) (rows := []) tOk mixed Tryz.func47 rfl (by kernel_rfl) (by kernel_rfl) rfl fun hwf => ?_
 unfold oS at h
 refine sj <| ai rfl <| sn <| sj <| sj <| ai ⟨lb rfl, lb rfl⟩ <| aF.to (aB.av a0) (fun _ => rfl) <| aD h fun x1 hx1 h => aK.data _ false rfl ((uO E a0).1 x1 hx1) <| sn ?_
 refine Br.of h (fun ht h => ?_) fun ht h => ?_
 ·exact W
 ·refine sn <| sj <| sj <| ai id <| ai id <| ai (fun hg => (hY hg)) <| ai id <| aD h fun x3 hx3 h => ai id <| ai rfl ?_
  refine o7.mk _ false (fun hg => dB E a0.Kids 72 [] (fun x0 => m7 aNw x0) (fun x0 r h => aAU E aNw aNG x0 r h) rfl x3 (dX hx3 hg)) (ai rfl ?_)
  refine ai (fun hg => (hY hg)) <| sn ?_
  refine Br.of h (fun ht h => ?_) fun ht h => ?_
  ·exact W
  ·refine sn <| sj <| aF.to (ii (a0.Kids.length : Int)) (fun _ => bB aB.avR a0.Kids) <| sn <| sj <| sj <| sn <| sj <| sn ?_
   refine Br.of h (fun ht h => ?_) fun ht h => ?_
   ·refine sj <| Or.inl <| aD h fun x4 hx4 h => aK.data _ true rfl ((wE E).1  x4 hx4) <| aD h fun x5 hx5 h => aK.data _ false rfl ((iP E x4 a0.Sign).1 x5 hx5) <| ai id <| ai (fun hg => (hY hg)) <| ai id <| aD h fun x6 hx6 h => ai id ?_
    refine ai rfl (xi (aB.av x6) (ai (fun hg => aB.av_eq x6 ▸ tR _ hx6 hg) ?_))
    refine ai id <| ai (lb rfl) <| aF.to (aB.av x6) (fun _ => rfl) <| aD h fun x7 hx7 h => ai id <| ai rfl ?_
    refine o7.mk _ false (fun hg => (uO E x6).1 x7 (dX hx7 hg)) (ai rfl ?_)
    refine ai (fun hg => (hY hg)) <| ai id <| aD h fun x8 hx8 h => ai id ?_
    refine ai rfl (xi (aB.av x8) (ai (fun hg => aB.av_eq x8 ▸ tR _ hx8 hg) ?_))
    exact W
   ·exact W
theorem aAW (n : Nat) : ∀ (E : Pm.Env) [aI E] (a0 : aB) (r : Bool) (h : lV n a0 = some r), FnR E Tryz.prog 47 [aB.av a0] (bb r) false := by
 induction n with
 | zero => intro E _ a0 r h; cases (show none = some _ from h)
 | succ n ih => intro E _ a0 r h; exact aAV E (lV n) ih a0 r h
theorem aDW (E : Pm.Env) [aI E] (a0 : aB) (r : Bool) (h : yM a0 = some r) : FnR E Tryz.prog 47 [aB.av a0] (bb r) false := aAW 1000000 E a0 r h
instance rR (E : Pm.Env) [aI E] (a0 : aB) : Ok E (lY a0) (fun r => FnR E Tryz.prog 26 [aB.av a0] (bb r) false) := ⟨fun r h => by
 refine FnR.of_ev (T := T) (rows := []) tOk mixed Tryz.func26 rfl (by kernel_rfl) (by kernel_rfl) rfl fun hwf => ?_
 unfold lY at h
 refine sj <| ai rfl <| sn <| sj <| ai ⟨lb rfl, lb rfl⟩ <| aF.to (aB.av a0) (fun _ => rfl) <| aD h fun x1 hx1 h => aK.data _ false rfl ((aAu E a0).1 x1 hx1) <| ai ⟨lb rfl, lb rfl⟩ <| aF.to (aB.av a0) (fun _ => rfl) <| aD h fun x2 hx2 h => ai id <| ai rfl ?_
 refine o7.mk _ false (fun hg => aDW E a0 x2 (dX hx2 hg)) (ai rfl ?_)
 refine ai (fun hg => (hY hg)) <| ai ⟨lb rfl, lb rfl⟩ <| aF.to (aB.av a0) (fun _ => rfl) <| aD h fun x3 hx3 h => ai id <| ai rfl ?_
 refine o7.mk _ false (fun hg => xK E a0 x3 (dX hx3 hg)) (ai rfl ?_)
 refine ai id <| ai (fun hg => (hY hg)) <| sn ?_
 replace h := oi h
 refine RetE.plain ?_
 exact ai rfl (ai (congrArg (fun r : Bool => bb r) h) rfl)⟩
theorem sZ (E : Pm.Env) [aI E] (aNs : aL -> aB -> Option Bool) (aND : ∀ (E : Pm.Env) [aI E] (a0 : aL) (a1 : aB) (r : Bool) (h : aNs a0 a1 = some r), FnR E Tryz.prog 34 [aL.av a0, aB.av a1] (bb r) false) (a0 : aB) (c0 : aL) (r : Bool) (h : iN aNs a0 c0 = some r) : FnR E Tryz.prog 54 [aB.av a0, AV.iptr (aL.cells c0)] (bb r) false := by
 refine FnR.of_ev (T := T) (rows := []) tOk mixed Tryz.func54 rfl (by kernel_rfl) (by kernel_rfl) rfl fun hwf => ?_
 unfold iN at h
 refine sj <| ai rfl <| sn <| sj <| ai (lb rfl) <| aF.to (aL.av c0) (fun _ => rfl) <| ai ⟨lb rfl, lb rfl⟩ <| aF.to (aB.av a0) (fun _ => rfl) <| aD h fun x1 hx1 h => aK.data _ false rfl (aND E c0 a0 x1 hx1) <| sn ?_
 exact W
theorem aAw (E : Pm.Env) [aI E] (aNs : aL -> aB -> Option Bool) (aND : ∀ (E : Pm.Env) [aI E] (a0 : aL) (a1 : aB) (r : Bool) (h : aNs a0 a1 = some r), FnR E Tryz.prog 34 [aL.av a0, aB.av a1] (bb r) false) (a0 : aB) (c0 : aL) (r : Bool) (h : lZ aNs a0 c0 = some r) : FnR E Tryz.prog 53 [aB.av a0, AV.iptr (aL.cells c0)] (bb r) false := by
 refine FnR.of_ev (T := T) (rows := []) tOk mixed Tryz.func53 rfl (by kernel_rfl) (by kernel_rfl) rfl fun hwf => ?_
 unfold lZ at h
 refine sj <| ai rfl <| sn <| sj <| ai (lb rfl) <| aF.to (aL.av c0) (fun _ => rfl) <| ai ⟨lb rfl, lb rfl⟩ <| aF.to (aB.av a0) (fun _ => rfl) <| aD h fun x1 hx1 h => aK.data _ false rfl (aND E c0 a0 x1 hx1) <| sn ?_
 exact W
instance aJC (E : Pm.Env) [aI E] (a0 : Int) : Ok E (m9 a0) (fun r => FnR E Tryz.prog 69 [AV.int .u64 a0] (ss r) false) := ⟨fun r h => by
 refine FnR.of_ev (T := T) (rows := []) tOk mixed Tryz.func69 rfl (by kernel_rfl) (by kernel_rfl) rfl fun hwf => ?_
 unfold m9 at h
 exact W⟩
theorem aAx (E : Pm.Env) [aI E] (aNA : aB -> Option aA) (aNM : ∀ (E : Pm.Env) [aI E] (a0 : aB) (r : aA) (h : aNA a0 = some r), FnR E Tryz.prog 46 [aB.av a0] (ss r) false) (a0 : aB) (r : aA) (h : gS aNA a0 = some r) : FnR E Tryz.prog 46 [aB.av a0] (ss r) false := by
 refine FnR.of_ev (T := T) (rows := []) tOk mixed Tryz.func46 rfl (by kernel_rfl) (by kernel_rfl) rfl fun hwf => ?_
 unfold gS at h
 refine sj <| ai rfl <| sn <| sj <| sn <| aD h fun j1 hj1 h => ?_
 refine SeqJ.join (St.of [⟨1, AV.ptr 0 0, none⟩, ⟨3, AV.list 1 (j1.map AV.str), some 0⟩] [.cells 26 (aB.cells a0) []] [1]) ?_ ?_
 ·clear h; have h := hj1; clear hj1
  refine sj <| aF.to (ii (a0.Kids.length : Int)) (fun _ => bB aB.avR a0.Kids) <| sn ?_
  refine cP.img (fun x : ((List aA) × Int) => St.of [⟨1, AV.ptr 0 0, none⟩, ⟨3, AV.list 1 (x.1.map AV.str), some 0⟩, ⟨8, AV.list 5 (a0.Kids.map aB.avR), none⟩, ⟨9, ii (a0.Kids.length : Int), none⟩, ⟨10, ii x.2, none⟩] [.cells 26 (aB.cells a0) []] [1]) (gO aNA a0) (([] : List aA), (0 : Int)) h ?_ ?_
  ·exact W
  intro n1 x y1 h hl1 hr1
  obtain ⟨s2, s3⟩ := x
  unfold gO at h
  dsimp only at h
  refine sj <| sn <| sj ?_
  refine Br.of h (fun ht h => ?_) fun ht h => ?_
  ·refine sn <| sj <| sj <| aD h fun x4 hx4 h => ?_
   refine ai rfl (xi (aB.av x4) (ai (fun hg => aB.av_eq x4 ▸ cY _ hx4) ?_))
   refine ai (lb rfl) <| aF.to (aB.av x4) (fun _ => rfl) <| ai rfl ?_
   refine ai ⟨rfl, rfl, rfl, lb rfl⟩ (xi (aB.cells x4) (ai (fun _ => rfl) ?_))
   refine sn <| sj <| ai ⟨lb rfl, lb rfl⟩ <| aF.to (aB.av x4) (fun _ => rfl) <| aD h fun x5 hx5 h => aK.data _ false rfl (aNM E x4 x5 hx5) <| sn <| sj <| sj <| ai ⟨lb rfl, lb rfl⟩ <| aF.to (aB.av x4) (fun _ => rfl) <| aD h fun x6 hx6 h => aK.data _ false rfl ((aAv E x4).1 x6 hx6) <| sn ?_
   exact W
  ·exact W
 ·clear hj1
  exact W
theorem aAy (n : Nat) : ∀ (E : Pm.Env) [aI E] (a0 : aB) (r : aA) (h : f0 n a0 = some r), FnR E Tryz.prog 46 [aB.av a0] (ss r) false := by
 induction n with
 | zero => intro E _ a0 r h; cases (show none = some _ from h)
 | succ n ih => intro E _ a0 r h; exact aAx E (f0 n) ih a0 r h
theorem wG (E : Pm.Env) [aI E] (a0 : aB) (r : aA) (h : qA a0 = some r) : FnR E Tryz.prog 46 [aB.av a0] (ss r) false := aAy 1000000 E a0 r h
instance aCD (E : Pm.Env) [aI E] (a0 : aL) (a1 : aB) : Ok E (kM a0 a1) (fun r => FnR E Tryz.prog 57 [aL.av a0, aB.av a1] (ss r) false) := ⟨fun r h => by
 refine FnR.of_ev (T := T) (rows := []) tOk mixed Tryz.func57 rfl (by kernel_rfl) (by kernel_rfl) rfl fun hwf => ?_
 unfold kM at h
 refine sj <| ai rfl <| ai rfl <| sn <| sj <| sj <| sn <| sj <| sn ?_
 refine Br.of h (fun ht h => ?_) fun ht h => ?_
 ·exact W
 ·refine sj <| sn ?_
  refine Br.of h (fun ht h => ?_) fun ht h => ?_
  ·exact W
  ·refine sn <| sj <| ai ⟨lb rfl, lb rfl⟩ <| aF.to (aB.av a1) (fun _ => rfl) <| aD h fun x2 hx2 h => aK.data _ false rfl (wG E a1 x2 hx2) <| sn ?_
   replace h := oi h
   refine RetE.plain ?_
   exact ai rfl (ai (congrArg (fun r : aA => ss r) h) rfl)⟩
instance aIB (E : Pm.Env) [aI E] (a0 : aA) (a1 : aA) : Ok E (l0 a0 a1) (fun r => FnR E Tryz.prog 56 [ss a0, ss a1] (ii r) false) := ⟨fun r h => by
 refine FnR.of_ev (T := T) (rows := []) tOk mixed Tryz.func56 rfl (by kernel_rfl) (by kernel_rfl) rfl fun hwf => ?_
 unfold l0 at h
 exact W⟩
theorem aAz (E : Pm.Env) [aI E] (aNs : aL -> aB -> Option Bool) (aND : ∀ (E : Pm.Env) [aI E] (a0 : aL) (a1 : aB) (r : Bool) (h : aNs a0 a1 = some r), FnR E Tryz.prog 34 [aL.av a0, aB.av a1] (bb r) false) (a0 : aL) (a1 : aB) (r : Bool) (h : nK aNs a0 a1 = some r) : FnR E Tryz.prog 34 [aL.av a0, aB.av a1] (bb r) false := by
 refine FnR.of_ev (T := T) (rows := []) tOk mixed Tryz.func34 rfl (by kernel_rfl) (by kernel_rfl) rfl fun hwf => ?_
 unfold nK at h
 refine sj <| ai rfl <| ai rfl ?_
 refine SeqN.via (St.of [⟨2, AV.iptr (aL.cells a0), none⟩, ⟨3, AV.ptr 1 0, none⟩] [.dead, .cells 26 (aB.cells a1) []] []) ?_ ?_
 ·refine Gho.trans (Gho.fz [0] [(2, AV.iptr (aL.cells a0))] ⟨Frz.ptrD rfl rfl (lb rfl), trivial⟩) ?_
  exact W
 refine sj <| sn <| sj <| sn <| sj <| sj <| sn <| sj <| sn ?_
 refine Br.of h (fun ht h => ?_) fun ht h => ?_
 ·exact W
 ·refine sj <| sn ?_
  refine Br.of h (fun ht h => ?_) fun ht h => ?_
  ·refine sj <| aD h fun x1 hx1 h => ?_
   refine ai rfl (xi (aB.av x1) (ai (fun hg => aB.av_eq x1 ▸ cY _ hx1) ?_))
   refine ai (lb rfl) <| aF.to (aB.av x1) (fun _ => rfl) <| aD h fun x2 hx2 h => aK.data _ false rfl (sZ E aNs aND x1 a0 x2 hx2) <| sn ?_
   exact W
  ·refine sj <| sn ?_
   refine Br.of h (fun ht h => ?_) fun ht h => ?_
   ·refine sj <| aD h fun x3 hx3 h => aK.data _ false rfl (dB E a1.Kids 54 [AV.iptr (aL.cells a0)] (fun x0 => iN aNs x0 a0) (fun x0 r h => sZ E aNs aND x0 a0 r h) rfl x3 hx3) <| sn ?_
    exact W
   ·refine sj <| sn ?_
    refine Br.of h (fun ht h => ?_) fun ht h => ?_
    ·refine sj <| aD h fun x4 hx4 h => aK.data _ false rfl (dB E a1.Kids 53 [AV.iptr (aL.cells a0)] (fun x0 => lZ aNs x0 a0) (fun x0 r h => aAw E aNs aND x0 a0 r h) rfl x4 hx4) <| sn ?_
     exact W
    ·refine sj <| sn ?_
     refine Br.of h (fun ht h => ?_) fun ht h => ?_
     ·refine sj <| Or.inl <| ai (lb rfl) <| aF.to (aL.av a0) (fun _ => rfl) <| aD h fun x5 hx5 h => ?_
      refine ai rfl (xi (aB.av x5) (ai (fun hg => aB.av_eq x5 ▸ cY _ hx5) ?_))
      refine ai (lb rfl) <| aF.to (aB.av x5) (fun _ => rfl) <| aD h fun x6 hx6 h => aK.data _ false rfl ((aCD E a0 x5).1 x6 hx6) <| ai (lb rfl) <| aF.to (aL.av a0) (fun _ => rfl) <| aD h fun x7 hx7 h => ?_
      refine ai rfl (xi (aB.av x7) (ai (fun hg => aB.av_eq x7 ▸ cY _ hx7) ?_))
      exact W
     ·exact W
theorem aAA (n : Nat) : ∀ (E : Pm.Env) [aI E] (a0 : aL) (a1 : aB) (r : Bool) (h : iO n a0 a1 = some r), FnR E Tryz.prog 34 [aL.av a0, aB.av a1] (bb r) false := by
 induction n with
 | zero => intro E _ a0 a1 r h; cases (show none = some _ from h)
 | succ n ih => intro E _ a0 a1 r h; exact aAz E (iO n) ih a0 a1 r h
theorem aCE (E : Pm.Env) [aI E] (a0 : aL) (a1 : aB) (r : Bool) (h : wH a0 a1 = some r) : FnR E Tryz.prog 34 [aL.av a0, aB.av a1] (bb r) false := aAA 1000000 E a0 a1 r h
instance aJX (E : Pm.Env) [aI E] (a0 : aL) (a1 : aB) : Ok E (qB a0 a1) (fun r => FnR E Tryz.prog 15 [aL.av a0, aB.av a1] (AV.tup [bb r.1, ii r.2]) false) := ⟨fun r h => by
 refine FnR.of_ev (T := T) (rows := []) tOk mixed Tryz.func15 rfl (by kernel_rfl) (by kernel_rfl) rfl fun hwf => ?_
 unfold qB at h
 refine sj <| ai rfl <| ai rfl <| sn <| sj <| sj <| ai ⟨lb rfl, lb rfl⟩ <| aF.to (aB.av a1) (fun _ => rfl) <| aD h fun x1 hx1 h => aK.data _ false rfl ((rR E a1).1 x1 hx1) <| sn ?_
 refine Br.of h (fun ht h => ?_) fun ht h => ?_
 ·exact W
 ·refine sn <| sj <| ai ⟨lb rfl, lb rfl⟩ <| aF.to (aL.av a0) (fun _ => rfl) <| ai ⟨lb rfl, lb rfl⟩ <| aF.to (aB.av a1) (fun _ => rfl) <| aD h fun x2 hx2 h => aK.data _ false rfl (aCE E a0 a1 x2 hx2) <| sn ?_
  replace h := oi h
  refine RetE.plain ?_
  exact ai rfl (ai (congrArg (fun r : (Bool × Int) => AV.tup [bb r.1, ii r.2]) h) rfl)⟩
instance aJY (E : Pm.Env) [aI E] (a0 : aL) (a1 : aA) : Ok E (nL a0 a1) (fun r => FnR E Tryz.prog 12 [aL.av a0, ss a1] (AV.tup [bb r.1, ii r.2]) false) := ⟨fun r h => by
 refine FnR.of_ev (T := T) (rows := []) tOk mixed Tryz.func12 rfl (by kernel_rfl) (by kernel_rfl) rfl fun hwf => ?_
 unfold nL at h
 exact W⟩
instance rS (E : Pm.Env) [aI E] (a0 : aB) : Ok E (eZ a0) (fun r => FnR E Tryz.prog 31 [aB.av a0] (bb r) false) := ⟨fun r h => by
 refine FnR.of_ev (T := T) (rows := []) tOk mixed Tryz.func31 rfl (by kernel_rfl) (by kernel_rfl) rfl fun hwf => ?_
 unfold eZ at h
 exact W⟩
instance mR (E : Pm.Env) [aI E] (a0 : Int) (a1 : Int) : Ok E (d3 a0 a1) (fun r => FnR E Tryz.prog 48 [AV.int .u64 a0, AV.int .u64 a1] (ss r) false) := ⟨fun r h => by
 refine FnR.of_ev (T := T) (rows := []) tOk mixed Tryz.func48 rfl (by kernel_rfl) (by kernel_rfl) rfl fun hwf => ?_
 unfold d3 at h
 refine sj <| sn <| sj <| sn <| aD h fun j1 hj1 h => ?_
 refine SeqJ.join (St.of [⟨5, ss j1, none⟩] [] []) ?_ ?_
 ·clear h; have h := hj1; clear hj1
  refine cP.img (fun x : (Int × aA) => St.of [⟨0, AV.int .u64 x.1, none⟩, ⟨1, AV.int .u64 a1, none⟩, ⟨5, ss x.2, none⟩] [] []) (eS a1) (a0, ([] : aA)) h ?_ ?_
  ·exact W
  intro n1 x y1 h hl1 hr1
  obtain ⟨s2, s3⟩ := x
  unfold eS at h
  dsimp only at h
  exact W
 ·clear hj1
  exact W⟩
theorem qQ (E : Pm.Env) [aI E] (aNr : aB -> Option aA) (aNt : ∀ (E : Pm.Env) [aI E] (a0 : aB) (r : aA) (h : aNr a0 = some r), FnR E Tryz.prog 27 [aB.av a0] (ss r) false) (a0 : aB) (r : aA) (h : bZ aNr a0 = some r) : FnR E Tryz.prog 27 [aB.av a0] (ss r) false := by
 refine FnR.of_ev (T := T) (rows := []) tOk mixed Tryz.func27 rfl (by kernel_rfl) (by kernel_rfl) rfl fun hwf => ?_
 unfold bZ at h
 refine sj <| ai rfl <| sn <| sj <| sj <| ai id <| ai id <| ai (fun hg => (hY hg)) <| sn ?_
 refine Br.of h (fun ht h => ?_) fun ht h => ?_
 ·refine sj <| aD h fun x1 hx1 h => aK.data _ false rfl ((mR E (IntKind.u64.wrap (IntKind.i64.wrap ((0 : Int) - a0.N))) (10 : Int)).1 x1 hx1) <| aD h fun x2 hx2 h => ?_
  have hx2c := (aH hx2).1
  have hx2e := (aH hx2).2
  refine ai (fun _ => hx2c) <| aF.to (ss x2) (fun _ => congrArg ss hx2e.symm) <| sn ?_
  replace h := oi h
  refine RetE.plain ?_
  subst h; exact ai rfl (ai rfl rfl)
 ·refine sn <| sj <| sj <| sn ?_
  refine Br.of h (fun ht h => ?_) fun ht h => ?_
  ·refine sj <| aD h fun x3 hx3 h => aK.data _ false rfl ((mR E (IntKind.u64.wrap a0.N) (10 : Int)).1 x3 hx3) <| sn ?_
   replace h := oi h
   refine RetE.plain ?_
   subst h; exact ai rfl (ai rfl rfl)
  ·refine sn <| sj <| sj <| sn ?_
   refine Br.of h (fun ht h => ?_) fun ht h => ?_
   ·refine sj <| aD h fun x4 hx4 h => ?_
    have hx4c := (aH hx4).1
    have hx4e := (aH hx4).2
    refine ai (fun _ => hx4c) <| aF.to (ss x4) (fun _ => congrArg ss hx4e.symm) <| aD h fun x5 hx5 h => ?_
    have hx5c := (aH hx5).1
    have hx5e := (aH hx5).2
    refine ai (fun _ => hx5c) <| aF.to (ss x5) (fun _ => congrArg ss hx5e.symm) <| sn ?_
    replace h := oi h
    refine RetE.plain ?_
    subst h; exact ai rfl (ai rfl rfl)
   ·refine sn <| sj <| sj <| sn ?_
    refine Br.of h (fun ht h => ?_) fun ht h => ?_
    ·refine sj <| sn ?_
     replace h := oi h
     refine RetE.plain ?_
     subst h; exact ai rfl (ai rfl rfl)
    ·refine sn <| sj <| sn <| sj <| sj <| sn ?_
     refine Br.of h (fun ht h => ?_) fun ht h => ?_
     ·refine sn <| sj <| sj <| sn ?_
      refine Br.of h (fun ht h => ?_) fun ht h => ?_
      ·refine sn <| sj <| sn <| aD h fun j6 hj6 h => ?_
       refine SeqJ.join (St.of [⟨1, AV.ptr 0 0, none⟩, ⟨4, ss j6, none⟩] [.cells 26 (aB.cells a0) []] []) ?_ ?_
       ·clear h; have h := hj6; clear hj6
        refine sj <| aF.to (ii (a0.Kids.length : Int)) (fun _ => bB aB.avR a0.Kids) <| sn ?_
        refine cP.img (fun x : (aA × Int) => St.of [⟨1, AV.ptr 0 0, none⟩, ⟨3, ss ([124] : aA), none⟩, ⟨4, ss x.1, none⟩, ⟨49, AV.list 5 (a0.Kids.map aB.avR), none⟩, ⟨50, ii (a0.Kids.length : Int), none⟩, ⟨51, ii x.2, none⟩] [.cells 26 (aB.cells a0) []] []) (jT aNr a0) (([] : aA), (0 : Int)) h ?_ ?_
        ·refine Gho.to _ _ _ [] ?_ ?_ ?_ rfl rfl ?_
         ·exact ⟨⟨rfl, rfl, rfl⟩, trivial⟩
         ·exact rfl
         ·exact rfl
         ·exact tr3 <| tr3 <| tr3 <| tr3 <| tr3 <| tr3 <| trivial
        intro n1 x y1 h hl1 hr1
        obtain ⟨s7, s8⟩ := x
        unfold jT at h
        dsimp only at h
        refine sj <| sn <| sj ?_
        refine Br.of h (fun ht h => ?_) fun ht h => ?_
        ·refine sn <| sj <| sj <| aD h fun x9 hx9 h => ?_
         refine ai rfl (xi (aB.av x9) (ai (fun hg => aB.av_eq x9 ▸ cY _ hx9) ?_))
         refine ai (lb rfl) <| aF.to (aB.av x9) (fun _ => rfl) <| ai rfl ?_
         refine ai ⟨rfl, rfl, rfl, lb rfl⟩ (xi (aB.cells x9) (ai (fun _ => rfl) ?_))
         refine sn <| sj <| sj <| sn ?_
         refine Br.of h (fun ht h => ?_) fun ht h => ?_
         ·refine aD h fun x10 hx10 h => ?_
          have hx10c := (aH hx10).1
          have hx10e := (aH hx10).2
          refine ai (fun _ => hx10c) <| aF.to (ss x10) (fun _ => congrArg ss hx10e.symm) <| sn <| sj <| ai ⟨lb rfl, lb rfl⟩ <| aF.to (aB.av x9) (fun _ => rfl) <| aD h fun x11 hx11 h => aK.data _ false rfl ((cK E x9).1 x11 hx11) <| sn ?_
          refine Br.of h (fun ht h => ?_) fun ht h => ?_
          ·refine aD h fun x12 hx12 h => ?_
           have hx12c := (aH hx12).1
           have hx12e := (aH hx12).2
           refine ai (fun _ => hx12c) <| aF.to (ss x12) (fun _ => congrArg ss hx12e.symm) <| ai ⟨lb rfl, lb rfl⟩ <| aF.to (aB.av x9) (fun _ => rfl) <| aD h fun x13 hx13 h => aK.data _ false rfl (aNt E x9 x13 hx13) <| aD h fun x14 hx14 h => ?_
           have hx14c := (aH hx14).1
           have hx14e := (aH hx14).2
           refine ai (fun _ => hx14c) <| aF.to (ss x14) (fun _ => congrArg ss hx14e.symm) <| aD h fun x15 hx15 h => ?_
           have hx15c := (aH hx15).1
           have hx15e := (aH hx15).2
           refine ai (fun _ => hx15c) <| aF.to (ss x15) (fun _ => congrArg ss hx15e.symm) <| sn ?_
           replace h := oi h
           refine xi ⟨(n1, (x15, (IntKind.i64.wrap (s8 + (1 : Int))))), hl1 _ h.symm⟩ (ai (aPM _) ?_)
           refine Gho.to _ _ _ [] ?_ ?_ ?_ rfl rfl ?_
           ·exact ⟨⟨rfl, rfl, rfl⟩, trivial⟩
           ·exact rfl
           ·exact rfl
           ·exact tr3 <| tr3 <| tr3 <| tr3 <| tr3 <| tr3 <| trivial
          ·refine ai ⟨lb rfl, lb rfl⟩ <| aF.to (aB.av x9) (fun _ => rfl) <| aD h fun x16 hx16 h => aK.data _ false rfl (aNt E x9 x16 hx16) <| aD h fun x17 hx17 h => ?_
           have hx17c := (aH hx17).1
           have hx17e := (aH hx17).2
           refine ai (fun _ => hx17c) <| aF.to (ss x17) (fun _ => congrArg ss hx17e.symm) <| sn ?_
           replace h := oi h
           refine xi ⟨(n1, (x17, (IntKind.i64.wrap (s8 + (1 : Int))))), hl1 _ h.symm⟩ (ai (aPM _) ?_)
           refine Gho.to _ _ _ [] ?_ ?_ ?_ rfl rfl ?_
           ·exact ⟨⟨rfl, rfl, rfl⟩, trivial⟩
           ·exact rfl
           ·exact rfl
           ·exact tr3 <| tr3 <| tr3 <| tr3 <| tr3 <| tr3 <| trivial
         ·refine sn <| sj <| ai ⟨lb rfl, lb rfl⟩ <| aF.to (aB.av x9) (fun _ => rfl) <| aD h fun x18 hx18 h => aK.data _ false rfl ((cK E x9).1 x18 hx18) <| sn ?_
          refine Br.of h (fun ht h => ?_) fun ht h => ?_
          ·refine aD h fun x19 hx19 h => ?_
           have hx19c := (aH hx19).1
           have hx19e := (aH hx19).2
           refine ai (fun _ => hx19c) <| aF.to (ss x19) (fun _ => congrArg ss hx19e.symm) <| ai ⟨lb rfl, lb rfl⟩ <| aF.to (aB.av x9) (fun _ => rfl) <| aD h fun x20 hx20 h => aK.data _ false rfl (aNt E x9 x20 hx20) <| aD h fun x21 hx21 h => ?_
           have hx21c := (aH hx21).1
           have hx21e := (aH hx21).2
           refine ai (fun _ => hx21c) <| aF.to (ss x21) (fun _ => congrArg ss hx21e.symm) <| aD h fun x22 hx22 h => ?_
           have hx22c := (aH hx22).1
           have hx22e := (aH hx22).2
           refine ai (fun _ => hx22c) <| aF.to (ss x22) (fun _ => congrArg ss hx22e.symm) <| sn ?_
           replace h := oi h
           refine xi ⟨(n1, (x22, (IntKind.i64.wrap (s8 + (1 : Int))))), hl1 _ h.symm⟩ (ai (aPM _) ?_)
           refine Gho.to _ _ _ [] ?_ ?_ ?_ rfl rfl ?_
           ·exact ⟨⟨rfl, rfl, rfl⟩, trivial⟩
           ·exact rfl
           ·exact rfl
           ·exact tr3 <| tr3 <| tr3 <| tr3 <| tr3 <| tr3 <| trivial
          ·refine ai ⟨lb rfl, lb rfl⟩ <| aF.to (aB.av x9) (fun _ => rfl) <| aD h fun x23 hx23 h => aK.data _ false rfl (aNt E x9 x23 hx23) <| aD h fun x24 hx24 h => ?_
           have hx24c := (aH hx24).1
           have hx24e := (aH hx24).2
           refine ai (fun _ => hx24c) <| aF.to (ss x24) (fun _ => congrArg ss hx24e.symm) <| sn ?_
           replace h := oi h
           refine xi ⟨(n1, (x24, (IntKind.i64.wrap (s8 + (1 : Int))))), hl1 _ h.symm⟩ (ai (aPM _) ?_)
           refine Gho.to _ _ _ [] ?_ ?_ ?_ rfl rfl ?_
           ·exact ⟨⟨rfl, rfl, rfl⟩, trivial⟩
           ·exact rfl
           ·exact rfl
           ·exact tr3 <| tr3 <| tr3 <| tr3 <| tr3 <| tr3 <| trivial
        ·replace h := oi h
         replace h := hr1 _ h.symm
         subst h
         refine Gho.to _ _ _ [] ?_ ?_ ?_ rfl rfl ?_
         ·exact ⟨⟨rfl, rfl, rfl⟩, trivial⟩
         ·exact rfl
         ·exact rfl
         ·exact tr3 <| tr3 <| trivial
       ·clear hj6
        refine sj <| sj <| sn ?_
        refine Br.of h (fun ht h => ?_) fun ht h => ?_
        ·refine sj <| aD h fun x25 hx25 h => ?_
         have hx25c := (aH hx25).1
         have hx25e := (aH hx25).2
         refine ai (fun _ => hx25c) <| aF.to (ss x25) (fun _ => congrArg ss hx25e.symm) <| sn ?_
         replace h := oi h
         refine RetE.plain ?_
         subst h; exact ai rfl (ai rfl rfl)
        ·refine sn <| sj <| sn ?_
         replace h := oi h
         refine RetE.plain ?_
         subst h; exact ai rfl (ai rfl rfl)
      ·refine sn <| sj <| sn <| aD h fun j26 hj26 h => ?_
       refine SeqJ.join (St.of [⟨1, AV.ptr 0 0, none⟩, ⟨4, ss j26, none⟩] [.cells 26 (aB.cells a0) []] []) ?_ ?_
       ·clear h; have h := hj26; clear hj26
        refine sj <| aF.to (ii (a0.Kids.length : Int)) (fun _ => bB aB.avR a0.Kids) <| sn ?_
        refine cP.img (fun x : (aA × Int) => St.of [⟨1, AV.ptr 0 0, none⟩, ⟨3, ss ([38] : aA), none⟩, ⟨4, ss x.1, none⟩, ⟨49, AV.list 5 (a0.Kids.map aB.avR), none⟩, ⟨50, ii (a0.Kids.length : Int), none⟩, ⟨51, ii x.2, none⟩] [.cells 26 (aB.cells a0) []] []) (fB aNr a0) (([] : aA), (0 : Int)) h ?_ ?_
        ·refine Gho.to _ _ _ [] ?_ ?_ ?_ rfl rfl ?_
         ·exact ⟨⟨rfl, rfl, rfl⟩, trivial⟩
         ·exact rfl
         ·exact rfl
         ·exact tr3 <| tr3 <| tr3 <| tr3 <| tr3 <| tr3 <| trivial
        intro n2 x y2 h hl2 hr2
        obtain ⟨s27, s28⟩ := x
        unfold fB at h
        dsimp only at h
        refine sj <| sn <| sj ?_
        refine Br.of h (fun ht h => ?_) fun ht h => ?_
        ·refine sn <| sj <| sj <| aD h fun x29 hx29 h => ?_
         refine ai rfl (xi (aB.av x29) (ai (fun hg => aB.av_eq x29 ▸ cY _ hx29) ?_))
         refine ai (lb rfl) <| aF.to (aB.av x29) (fun _ => rfl) <| ai rfl ?_
         refine ai ⟨rfl, rfl, rfl, lb rfl⟩ (xi (aB.cells x29) (ai (fun _ => rfl) ?_))
         refine sn <| sj <| sj <| sn ?_
         refine Br.of h (fun ht h => ?_) fun ht h => ?_
         ·refine aD h fun x30 hx30 h => ?_
          have hx30c := (aH hx30).1
          have hx30e := (aH hx30).2
          refine ai (fun _ => hx30c) <| aF.to (ss x30) (fun _ => congrArg ss hx30e.symm) <| sn <| sj <| ai ⟨lb rfl, lb rfl⟩ <| aF.to (aB.av x29) (fun _ => rfl) <| aD h fun x31 hx31 h => aK.data _ false rfl ((cK E x29).1 x31 hx31) <| sn ?_
          refine Br.of h (fun ht h => ?_) fun ht h => ?_
          ·refine aD h fun x32 hx32 h => ?_
           have hx32c := (aH hx32).1
           have hx32e := (aH hx32).2
           refine ai (fun _ => hx32c) <| aF.to (ss x32) (fun _ => congrArg ss hx32e.symm) <| ai ⟨lb rfl, lb rfl⟩ <| aF.to (aB.av x29) (fun _ => rfl) <| aD h fun x33 hx33 h => aK.data _ false rfl (aNt E x29 x33 hx33) <| aD h fun x34 hx34 h => ?_
           have hx34c := (aH hx34).1
           have hx34e := (aH hx34).2
           refine ai (fun _ => hx34c) <| aF.to (ss x34) (fun _ => congrArg ss hx34e.symm) <| aD h fun x35 hx35 h => ?_
           have hx35c := (aH hx35).1
           have hx35e := (aH hx35).2
           refine ai (fun _ => hx35c) <| aF.to (ss x35) (fun _ => congrArg ss hx35e.symm) <| sn ?_
           replace h := oi h
           refine xi ⟨(n2, (x35, (IntKind.i64.wrap (s28 + (1 : Int))))), hl2 _ h.symm⟩ (ai (aPM _) ?_)
           refine Gho.to _ _ _ [] ?_ ?_ ?_ rfl rfl ?_
           ·exact ⟨⟨rfl, rfl, rfl⟩, trivial⟩
           ·exact rfl
           ·exact rfl
           ·exact tr3 <| tr3 <| tr3 <| tr3 <| tr3 <| tr3 <| trivial
          ·refine ai ⟨lb rfl, lb rfl⟩ <| aF.to (aB.av x29) (fun _ => rfl) <| aD h fun x36 hx36 h => aK.data _ false rfl (aNt E x29 x36 hx36) <| aD h fun x37 hx37 h => ?_
           have hx37c := (aH hx37).1
           have hx37e := (aH hx37).2
           refine ai (fun _ => hx37c) <| aF.to (ss x37) (fun _ => congrArg ss hx37e.symm) <| sn ?_
           replace h := oi h
           refine xi ⟨(n2, (x37, (IntKind.i64.wrap (s28 + (1 : Int))))), hl2 _ h.symm⟩ (ai (aPM _) ?_)
           refine Gho.to _ _ _ [] ?_ ?_ ?_ rfl rfl ?_
           ·exact ⟨⟨rfl, rfl, rfl⟩, trivial⟩
           ·exact rfl
           ·exact rfl
           ·exact tr3 <| tr3 <| tr3 <| tr3 <| tr3 <| tr3 <| trivial
         ·refine sn <| sj <| ai ⟨lb rfl, lb rfl⟩ <| aF.to (aB.av x29) (fun _ => rfl) <| aD h fun x38 hx38 h => aK.data _ false rfl ((cK E x29).1 x38 hx38) <| sn ?_
          refine Br.of h (fun ht h => ?_) fun ht h => ?_
          ·refine aD h fun x39 hx39 h => ?_
           have hx39c := (aH hx39).1
           have hx39e := (aH hx39).2
           refine ai (fun _ => hx39c) <| aF.to (ss x39) (fun _ => congrArg ss hx39e.symm) <| ai ⟨lb rfl, lb rfl⟩ <| aF.to (aB.av x29) (fun _ => rfl) <| aD h fun x40 hx40 h => aK.data _ false rfl (aNt E x29 x40 hx40) <| aD h fun x41 hx41 h => ?_
           have hx41c := (aH hx41).1
           have hx41e := (aH hx41).2
           refine ai (fun _ => hx41c) <| aF.to (ss x41) (fun _ => congrArg ss hx41e.symm) <| aD h fun x42 hx42 h => ?_
           have hx42c := (aH hx42).1
           have hx42e := (aH hx42).2
           refine ai (fun _ => hx42c) <| aF.to (ss x42) (fun _ => congrArg ss hx42e.symm) <| sn ?_
           replace h := oi h
           refine xi ⟨(n2, (x42, (IntKind.i64.wrap (s28 + (1 : Int))))), hl2 _ h.symm⟩ (ai (aPM _) ?_)
           refine Gho.to _ _ _ [] ?_ ?_ ?_ rfl rfl ?_
           ·exact ⟨⟨rfl, rfl, rfl⟩, trivial⟩
           ·exact rfl
           ·exact rfl
           ·exact tr3 <| tr3 <| tr3 <| tr3 <| tr3 <| tr3 <| trivial
          ·refine ai ⟨lb rfl, lb rfl⟩ <| aF.to (aB.av x29) (fun _ => rfl) <| aD h fun x43 hx43 h => aK.data _ false rfl (aNt E x29 x43 hx43) <| aD h fun x44 hx44 h => ?_
           have hx44c := (aH hx44).1
           have hx44e := (aH hx44).2
           refine ai (fun _ => hx44c) <| aF.to (ss x44) (fun _ => congrArg ss hx44e.symm) <| sn ?_
           replace h := oi h
           refine xi ⟨(n2, (x44, (IntKind.i64.wrap (s28 + (1 : Int))))), hl2 _ h.symm⟩ (ai (aPM _) ?_)
           refine Gho.to _ _ _ [] ?_ ?_ ?_ rfl rfl ?_
           ·exact ⟨⟨rfl, rfl, rfl⟩, trivial⟩
           ·exact rfl
           ·exact rfl
           ·exact tr3 <| tr3 <| tr3 <| tr3 <| tr3 <| tr3 <| trivial
        ·replace h := oi h
         replace h := hr2 _ h.symm
         subst h
         refine Gho.to _ _ _ [] ?_ ?_ ?_ rfl rfl ?_
         ·exact ⟨⟨rfl, rfl, rfl⟩, trivial⟩
         ·exact rfl
         ·exact rfl
         ·exact tr3 <| tr3 <| trivial
       ·clear hj26
        refine sj <| sj <| sn ?_
        refine Br.of h (fun ht h => ?_) fun ht h => ?_
        ·refine sj <| aD h fun x45 hx45 h => ?_
         have hx45c := (aH hx45).1
         have hx45e := (aH hx45).2
         refine ai (fun _ => hx45c) <| aF.to (ss x45) (fun _ => congrArg ss hx45e.symm) <| sn ?_
         replace h := oi h
         refine RetE.plain ?_
         subst h; exact ai rfl (ai rfl rfl)
        ·refine sn <| sj <| sn ?_
         replace h := oi h
         refine RetE.plain ?_
         subst h; exact ai rfl (ai rfl rfl)
     ·refine sn <| sj <| sj <| sn ?_
      refine Br.of h (fun ht h => ?_) fun ht h => ?_
      ·refine sn <| sj <| sn <| aD h fun j46 hj46 h => ?_
       refine SeqJ.join (St.of [⟨1, AV.ptr 0 0, none⟩, ⟨4, ss j46, none⟩] [.cells 26 (aB.cells a0) []] []) ?_ ?_
       ·clear h; have h := hj46; clear hj46
        refine sj <| aF.to (ii (a0.Kids.length : Int)) (fun _ => bB aB.avR a0.Kids) <| sn ?_
        refine cP.img (fun x : (aA × Int) => St.of [⟨1, AV.ptr 0 0, none⟩, ⟨3, ss ([124] : aA), none⟩, ⟨4, ss x.1, none⟩, ⟨49, AV.list 5 (a0.Kids.map aB.avR), none⟩, ⟨50, ii (a0.Kids.length : Int), none⟩, ⟨51, ii x.2, none⟩] [.cells 26 (aB.cells a0) []] []) (fC aNr a0) (([] : aA), (0 : Int)) h ?_ ?_
        ·refine Gho.to _ _ _ [] ?_ ?_ ?_ rfl rfl ?_
         ·exact ⟨⟨rfl, rfl, rfl⟩, trivial⟩
         ·exact rfl
         ·exact rfl
         ·exact tr3 <| tr3 <| tr3 <| tr3 <| tr3 <| tr3 <| trivial
        intro n3 x y3 h hl3 hr3
        obtain ⟨s47, s48⟩ := x
        unfold fC at h
        dsimp only at h
        refine sj <| sn <| sj ?_
        refine Br.of h (fun ht h => ?_) fun ht h => ?_
        ·refine sn <| sj <| sj <| aD h fun x49 hx49 h => ?_
         refine ai rfl (xi (aB.av x49) (ai (fun hg => aB.av_eq x49 ▸ cY _ hx49) ?_))
         refine ai (lb rfl) <| aF.to (aB.av x49) (fun _ => rfl) <| ai rfl ?_
         refine ai ⟨rfl, rfl, rfl, lb rfl⟩ (xi (aB.cells x49) (ai (fun _ => rfl) ?_))
         refine sn <| sj <| sj <| sn ?_
         refine Br.of h (fun ht h => ?_) fun ht h => ?_
         ·refine aD h fun x50 hx50 h => ?_
          have hx50c := (aH hx50).1
          have hx50e := (aH hx50).2
          refine ai (fun _ => hx50c) <| aF.to (ss x50) (fun _ => congrArg ss hx50e.symm) <| sn <| sj <| ai ⟨lb rfl, lb rfl⟩ <| aF.to (aB.av x49) (fun _ => rfl) <| aD h fun x51 hx51 h => aK.data _ false rfl ((cK E x49).1 x51 hx51) <| sn ?_
          refine Br.of h (fun ht h => ?_) fun ht h => ?_
          ·refine aD h fun x52 hx52 h => ?_
           have hx52c := (aH hx52).1
           have hx52e := (aH hx52).2
           refine ai (fun _ => hx52c) <| aF.to (ss x52) (fun _ => congrArg ss hx52e.symm) <| ai ⟨lb rfl, lb rfl⟩ <| aF.to (aB.av x49) (fun _ => rfl) <| aD h fun x53 hx53 h => aK.data _ false rfl (aNt E x49 x53 hx53) <| aD h fun x54 hx54 h => ?_
           have hx54c := (aH hx54).1
           have hx54e := (aH hx54).2
           refine ai (fun _ => hx54c) <| aF.to (ss x54) (fun _ => congrArg ss hx54e.symm) <| aD h fun x55 hx55 h => ?_
           have hx55c := (aH hx55).1
           have hx55e := (aH hx55).2
           refine ai (fun _ => hx55c) <| aF.to (ss x55) (fun _ => congrArg ss hx55e.symm) <| sn ?_
           replace h := oi h
           refine xi ⟨(n3, (x55, (IntKind.i64.wrap (s48 + (1 : Int))))), hl3 _ h.symm⟩ (ai (aPM _) ?_)
           refine Gho.to _ _ _ [] ?_ ?_ ?_ rfl rfl ?_
           ·exact ⟨⟨rfl, rfl, rfl⟩, trivial⟩
           ·exact rfl
           ·exact rfl
           ·exact tr3 <| tr3 <| tr3 <| tr3 <| tr3 <| tr3 <| trivial
          ·refine ai ⟨lb rfl, lb rfl⟩ <| aF.to (aB.av x49) (fun _ => rfl) <| aD h fun x56 hx56 h => aK.data _ false rfl (aNt E x49 x56 hx56) <| aD h fun x57 hx57 h => ?_
           have hx57c := (aH hx57).1
           have hx57e := (aH hx57).2
           refine ai (fun _ => hx57c) <| aF.to (ss x57) (fun _ => congrArg ss hx57e.symm) <| sn ?_
           replace h := oi h
           refine xi ⟨(n3, (x57, (IntKind.i64.wrap (s48 + (1 : Int))))), hl3 _ h.symm⟩ (ai (aPM _) ?_)
           refine Gho.to _ _ _ [] ?_ ?_ ?_ rfl rfl ?_
           ·exact ⟨⟨rfl, rfl, rfl⟩, trivial⟩
           ·exact rfl
           ·exact rfl
           ·exact tr3 <| tr3 <| tr3 <| tr3 <| tr3 <| tr3 <| trivial
         ·refine sn <| sj <| ai ⟨lb rfl, lb rfl⟩ <| aF.to (aB.av x49) (fun _ => rfl) <| aD h fun x58 hx58 h => aK.data _ false rfl ((cK E x49).1 x58 hx58) <| sn ?_
          refine Br.of h (fun ht h => ?_) fun ht h => ?_
          ·refine aD h fun x59 hx59 h => ?_
           have hx59c := (aH hx59).1
           have hx59e := (aH hx59).2
           refine ai (fun _ => hx59c) <| aF.to (ss x59) (fun _ => congrArg ss hx59e.symm) <| ai ⟨lb rfl, lb rfl⟩ <| aF.to (aB.av x49) (fun _ => rfl) <| aD h fun x60 hx60 h => aK.data _ false rfl (aNt E x49 x60 hx60) <| aD h fun x61 hx61 h => ?_
           have hx61c := (aH hx61).1
           have hx61e := (aH hx61).2
           refine ai (fun _ => hx61c) <| aF.to (ss x61) (fun _ => congrArg ss hx61e.symm) <| aD h fun x62 hx62 h => ?_
           have hx62c := (aH hx62).1
           have hx62e := (aH hx62).2
           refine ai (fun _ => hx62c) <| aF.to (ss x62) (fun _ => congrArg ss hx62e.symm) <| sn ?_
           replace h := oi h
           refine xi ⟨(n3, (x62, (IntKind.i64.wrap (s48 + (1 : Int))))), hl3 _ h.symm⟩ (ai (aPM _) ?_)
           refine Gho.to _ _ _ [] ?_ ?_ ?_ rfl rfl ?_
           ·exact ⟨⟨rfl, rfl, rfl⟩, trivial⟩
           ·exact rfl
           ·exact rfl
           ·exact tr3 <| tr3 <| tr3 <| tr3 <| tr3 <| tr3 <| trivial
          ·refine ai ⟨lb rfl, lb rfl⟩ <| aF.to (aB.av x49) (fun _ => rfl) <| aD h fun x63 hx63 h => aK.data _ false rfl (aNt E x49 x63 hx63) <| aD h fun x64 hx64 h => ?_
           have hx64c := (aH hx64).1
           have hx64e := (aH hx64).2
           refine ai (fun _ => hx64c) <| aF.to (ss x64) (fun _ => congrArg ss hx64e.symm) <| sn ?_
           replace h := oi h
           refine xi ⟨(n3, (x64, (IntKind.i64.wrap (s48 + (1 : Int))))), hl3 _ h.symm⟩ (ai (aPM _) ?_)
           refine Gho.to _ _ _ [] ?_ ?_ ?_ rfl rfl ?_
           ·exact ⟨⟨rfl, rfl, rfl⟩, trivial⟩
           ·exact rfl
           ·exact rfl
           ·exact tr3 <| tr3 <| tr3 <| tr3 <| tr3 <| tr3 <| trivial
        ·replace h := oi h
         replace h := hr3 _ h.symm
         subst h
         refine Gho.to _ _ _ [] ?_ ?_ ?_ rfl rfl ?_
         ·exact ⟨⟨rfl, rfl, rfl⟩, trivial⟩
         ·exact rfl
         ·exact rfl
         ·exact tr3 <| tr3 <| trivial
       ·clear hj46
        refine sj <| sj <| sn ?_
        refine Br.of h (fun ht h => ?_) fun ht h => ?_
        ·refine sj <| aD h fun x65 hx65 h => ?_
         have hx65c := (aH hx65).1
         have hx65e := (aH hx65).2
         refine ai (fun _ => hx65c) <| aF.to (ss x65) (fun _ => congrArg ss hx65e.symm) <| sn ?_
         replace h := oi h
         refine RetE.plain ?_
         subst h; exact ai rfl (ai rfl rfl)
        ·refine sn <| sj <| sn ?_
         replace h := oi h
         refine RetE.plain ?_
         subst h; exact ai rfl (ai rfl rfl)
      ·refine sn <| sj <| sn <| aD h fun j66 hj66 h => ?_
       refine SeqJ.join (St.of [⟨1, AV.ptr 0 0, none⟩, ⟨4, ss j66, none⟩] [.cells 26 (aB.cells a0) []] []) ?_ ?_
       ·clear h; have h := hj66; clear hj66
        refine sj <| aF.to (ii (a0.Kids.length : Int)) (fun _ => bB aB.avR a0.Kids) <| sn ?_
        refine cP.img (fun x : (aA × Int) => St.of [⟨1, AV.ptr 0 0, none⟩, ⟨3, ss a0.Sign, none⟩, ⟨4, ss x.1, none⟩, ⟨49, AV.list 5 (a0.Kids.map aB.avR), none⟩, ⟨50, ii (a0.Kids.length : Int), none⟩, ⟨51, ii x.2, none⟩] [.cells 26 (aB.cells a0) []] []) (fD aNr a0) (([] : aA), (0 : Int)) h ?_ ?_
        ·refine Gho.to _ _ _ [] ?_ ?_ ?_ rfl rfl ?_
         ·exact ⟨⟨rfl, rfl, rfl⟩, trivial⟩
         ·exact rfl
         ·exact rfl
         ·exact tr3 <| tr3 <| tr3 <| tr3 <| tr3 <| tr3 <| trivial
        intro n4 x y4 h hl4 hr4
        obtain ⟨s67, s68⟩ := x
        unfold fD at h
        dsimp only at h
        refine sj <| sn <| sj ?_
        refine Br.of h (fun ht h => ?_) fun ht h => ?_
        ·refine sn <| sj <| sj <| aD h fun x69 hx69 h => ?_
         refine ai rfl (xi (aB.av x69) (ai (fun hg => aB.av_eq x69 ▸ cY _ hx69) ?_))
         refine ai (lb rfl) <| aF.to (aB.av x69) (fun _ => rfl) <| ai rfl ?_
         refine ai ⟨rfl, rfl, rfl, lb rfl⟩ (xi (aB.cells x69) (ai (fun _ => rfl) ?_))
         refine sn <| sj <| sj <| sn ?_
         refine Br.of h (fun ht h => ?_) fun ht h => ?_
         ·refine aD h fun x70 hx70 h => ?_
          have hx70c := (aH hx70).1
          have hx70e := (aH hx70).2
          refine ai (fun _ => hx70c) <| aF.to (ss x70) (fun _ => congrArg ss hx70e.symm) <| sn <| sj <| ai ⟨lb rfl, lb rfl⟩ <| aF.to (aB.av x69) (fun _ => rfl) <| aD h fun x71 hx71 h => aK.data _ false rfl ((cK E x69).1 x71 hx71) <| sn ?_
          refine Br.of h (fun ht h => ?_) fun ht h => ?_
          ·refine aD h fun x72 hx72 h => ?_
           have hx72c := (aH hx72).1
           have hx72e := (aH hx72).2
           refine ai (fun _ => hx72c) <| aF.to (ss x72) (fun _ => congrArg ss hx72e.symm) <| ai ⟨lb rfl, lb rfl⟩ <| aF.to (aB.av x69) (fun _ => rfl) <| aD h fun x73 hx73 h => aK.data _ false rfl (aNt E x69 x73 hx73) <| aD h fun x74 hx74 h => ?_
           have hx74c := (aH hx74).1
           have hx74e := (aH hx74).2
           refine ai (fun _ => hx74c) <| aF.to (ss x74) (fun _ => congrArg ss hx74e.symm) <| aD h fun x75 hx75 h => ?_
           have hx75c := (aH hx75).1
           have hx75e := (aH hx75).2
           refine ai (fun _ => hx75c) <| aF.to (ss x75) (fun _ => congrArg ss hx75e.symm) <| sn ?_
           replace h := oi h
           refine xi ⟨(n4, (x75, (IntKind.i64.wrap (s68 + (1 : Int))))), hl4 _ h.symm⟩ (ai (aPM _) ?_)
           refine Gho.to _ _ _ [] ?_ ?_ ?_ rfl rfl ?_
           ·exact ⟨⟨rfl, rfl, rfl⟩, trivial⟩
           ·exact rfl
           ·exact rfl
           ·exact tr3 <| tr3 <| tr3 <| tr3 <| tr3 <| tr3 <| trivial
          ·refine ai ⟨lb rfl, lb rfl⟩ <| aF.to (aB.av x69) (fun _ => rfl) <| aD h fun x76 hx76 h => aK.data _ false rfl (aNt E x69 x76 hx76) <| aD h fun x77 hx77 h => ?_
           have hx77c := (aH hx77).1
           have hx77e := (aH hx77).2
           refine ai (fun _ => hx77c) <| aF.to (ss x77) (fun _ => congrArg ss hx77e.symm) <| sn ?_
           replace h := oi h
           refine xi ⟨(n4, (x77, (IntKind.i64.wrap (s68 + (1 : Int))))), hl4 _ h.symm⟩ (ai (aPM _) ?_)
           refine Gho.to _ _ _ [] ?_ ?_ ?_ rfl rfl ?_
           ·exact ⟨⟨rfl, rfl, rfl⟩, trivial⟩
           ·exact rfl
           ·exact rfl
           ·exact tr3 <| tr3 <| tr3 <| tr3 <| tr3 <| tr3 <| trivial
         ·refine sn <| sj <| ai ⟨lb rfl, lb rfl⟩ <| aF.to (aB.av x69) (fun _ => rfl) <| aD h fun x78 hx78 h => aK.data _ false rfl ((cK E x69).1 x78 hx78) <| sn ?_
          refine Br.of h (fun ht h => ?_) fun ht h => ?_
          ·refine aD h fun x79 hx79 h => ?_
           have hx79c := (aH hx79).1
           have hx79e := (aH hx79).2
           refine ai (fun _ => hx79c) <| aF.to (ss x79) (fun _ => congrArg ss hx79e.symm) <| ai ⟨lb rfl, lb rfl⟩ <| aF.to (aB.av x69) (fun _ => rfl) <| aD h fun x80 hx80 h => aK.data _ false rfl (aNt E x69 x80 hx80) <| aD h fun x81 hx81 h => ?_
           have hx81c := (aH hx81).1
           have hx81e := (aH hx81).2
           refine ai (fun _ => hx81c) <| aF.to (ss x81) (fun _ => congrArg ss hx81e.symm) <| aD h fun x82 hx82 h => ?_
           have hx82c := (aH hx82).1
           have hx82e := (aH hx82).2
           refine ai (fun _ => hx82c) <| aF.to (ss x82) (fun _ => congrArg ss hx82e.symm) <| sn ?_
           replace h := oi h
           refine xi ⟨(n4, (x82, (IntKind.i64.wrap (s68 + (1 : Int))))), hl4 _ h.symm⟩ (ai (aPM _) ?_)
           refine Gho.to _ _ _ [] ?_ ?_ ?_ rfl rfl ?_
           ·exact ⟨⟨rfl, rfl, rfl⟩, trivial⟩
           ·exact rfl
           ·exact rfl
           ·exact tr3 <| tr3 <| tr3 <| tr3 <| tr3 <| tr3 <| trivial
          ·refine ai ⟨lb rfl, lb rfl⟩ <| aF.to (aB.av x69) (fun _ => rfl) <| aD h fun x83 hx83 h => aK.data _ false rfl (aNt E x69 x83 hx83) <| aD h fun x84 hx84 h => ?_
           have hx84c := (aH hx84).1
           have hx84e := (aH hx84).2
           refine ai (fun _ => hx84c) <| aF.to (ss x84) (fun _ => congrArg ss hx84e.symm) <| sn ?_
           replace h := oi h
           refine xi ⟨(n4, (x84, (IntKind.i64.wrap (s68 + (1 : Int))))), hl4 _ h.symm⟩ (ai (aPM _) ?_)
           refine Gho.to _ _ _ [] ?_ ?_ ?_ rfl rfl ?_
           ·exact ⟨⟨rfl, rfl, rfl⟩, trivial⟩
           ·exact rfl
           ·exact rfl
           ·exact tr3 <| tr3 <| tr3 <| tr3 <| tr3 <| tr3 <| trivial
        ·replace h := oi h
         replace h := hr4 _ h.symm
         subst h
         refine Gho.to _ _ _ [] ?_ ?_ ?_ rfl rfl ?_
         ·exact ⟨⟨rfl, rfl, rfl⟩, trivial⟩
         ·exact rfl
         ·exact rfl
         ·exact tr3 <| tr3 <| trivial
       ·clear hj66
        refine sj <| sj <| sn ?_
        refine Br.of h (fun ht h => ?_) fun ht h => ?_
        ·refine sj <| aD h fun x85 hx85 h => ?_
         have hx85c := (aH hx85).1
         have hx85e := (aH hx85).2
         refine ai (fun _ => hx85c) <| aF.to (ss x85) (fun _ => congrArg ss hx85e.symm) <| sn ?_
         replace h := oi h
         refine RetE.plain ?_
         subst h; exact ai rfl (ai rfl rfl)
        ·refine sn <| sj <| sn ?_
         replace h := oi h
         refine RetE.plain ?_
         subst h; exact ai rfl (ai rfl rfl)
theorem qR (n : Nat) : ∀ (E : Pm.Env) [aI E] (a0 : aB) (r : aA) (h : aQ n a0 = some r), FnR E Tryz.prog 27 [aB.av a0] (ss r) false := by
 induction n with
 | zero => intro E _ a0 r h; cases (show none = some _ from h)
 | succ n ih => intro E _ a0 r h; exact qQ E (aQ n) ih a0 r h
theorem r8 (E : Pm.Env) [aI E] (a0 : aB) (r : aA) (h : jD a0 = some r) : FnR E Tryz.prog 27 [aB.av a0] (ss r) false := qR 1000000 E a0 r h
theorem mW (E : Pm.Env) [aI E] (r : Bool) (h : fN = some r) : FnR E Tryz.prog 14 [] (bb r) false := by
 refine FnR.of_ev (T := T) (rows := []) tOk mixed Tryz.func14 rfl (by kernel_rfl) (by kernel_rfl) rfl fun hwf => ?_
 unfold fN at h
 exact W
instance aBA (E : Pm.Env) [aI E] : Ok E fN (fun r => FnR E Tryz.prog 14 [] (bb r) false) := ⟨mW E⟩
instance aCF (E : Pm.Env) [aI E] (a0 : aA) : Ok E (gJ a0) (fun r => FnR E Tryz.prog 58 [ss a0] (bb r) false) := ⟨fun r h => by
 refine FnR.of_ev (T := T) (rows := []) tOk mixed Tryz.func58 rfl (by kernel_rfl) (by kernel_rfl) rfl fun hwf => ?_
 unfold gJ at h
 refine sj <| sn <| sj <| sj <| sn ?_
 refine cP.img (fun x : Int => St.of [⟨0, ss a0, none⟩, ⟨3, ii x, none⟩] [] []) (dW a0) (0 : Int) h ?_ ?_
 ·exact W
 intro n1 x y1 h hl1 hr1
 revert h; revert x; intro s1 h
 unfold dW at h
 exact W⟩
theorem rT (E : Pm.Env) [aI E] (aNB : aB -> Option Bool) (aNN : ∀ (E : Pm.Env) [aI E] (a0 : aB) (r : Bool) (h : aNB a0 = some r), FnR E Tryz.prog 35 [aB.av a0] (bb r) false) (a0 : aB) (r : Bool) (h : gK aNB a0 = some r) : FnR E Tryz.prog 35 [aB.av a0] (bb r) false := by
 refine FnR.of_ev (T := T) (rows := []) tOk mixed Tryz.func35 rfl (by kernel_rfl) (by kernel_rfl) rfl fun hwf => ?_
 unfold gK at h
 refine sj <| ai rfl <| sn <| sj <| aF.to (ii (a0.Kids.length : Int)) (fun _ => bB aB.avR a0.Kids) <| sn <| sj <| sj <| sn ?_
 refine Br.of h (fun ht h => ?_) fun ht h => ?_
 ·exact W
 ·refine sn <| sj <| sj <| sn ?_
  refine Br.of h (fun ht h => ?_) fun ht h => ?_
  ·exact W
  ·refine sn <| sj <| sj <| sn ?_
   refine Br.of h (fun ht h => ?_) fun ht h => ?_
   ·exact W
   ·refine sn <| sj <| sj <| sn ?_
    refine Br.of h (fun ht h => ?_) fun ht h => ?_
    ·exact W
    ·refine sn <| sj <| sj <| aF.to (ii (a0.Kids.length : Int)) (fun _ => bB aB.avR a0.Kids) <| sn ?_
     refine cP.img (fun x : Int => St.of [⟨1, AV.ptr 0 0, none⟩, ⟨3, ii (a0.Kids.length : Int), none⟩, ⟨83, AV.list 5 (a0.Kids.map aB.avR), none⟩, ⟨84, ii (a0.Kids.length : Int), none⟩, ⟨85, ii x, none⟩] [.cells 26 (aB.cells a0) []] []) (dP aNB a0) (0 : Int) h ?_ ?_
     ·exact W
     intro n1 x y1 h hl1 hr1
     revert h; revert x; intro s3 h
     unfold dP at h
     refine sj <| sn <| sj ?_
     refine Br.of h (fun ht h => ?_) fun ht h => ?_
     ·refine sn <| sj <| sj <| aD h fun x4 hx4 h => ?_
      refine ai rfl (xi (aB.av x4) (ai (fun hg => aB.av_eq x4 ▸ cY _ hx4) ?_))
      refine ai (lb rfl) <| aF.to (aB.av x4) (fun _ => rfl) <| ai rfl ?_
      refine ai ⟨rfl, rfl, rfl, lb rfl⟩ (xi (aB.cells x4) (ai (fun _ => rfl) ?_))
      refine sn <| sj <| ai ⟨lb rfl, lb rfl⟩ <| aF.to (aB.av x4) (fun _ => rfl) <| aD h fun x5 hx5 h => aK.data _ false rfl (aNN E x4 x5 hx5) <| sn ?_
      exact W
     ·refine sn <| sj <| sj <| sn ?_
      refine Br.of h (fun ht h => ?_) fun ht h => ?_
      ·exact W
      ·refine sn <| sj <| sj <| sn ?_
       refine Br.of h (fun ht h => ?_) fun ht h => ?_
       ·refine sj <| aD h fun x6 hx6 h => aK.data _ false rfl ((mP E a0.Sign).1 x6 hx6) <| ai id <| ai (fun hg => (hY hg)) <| ai id <| aD h fun x7 hx7 h => ai id ?_
        refine ai rfl (xi (aB.av x7) (ai (fun hg => aB.av_eq x7 ▸ tR _ hx7 hg) ?_))
        refine ai id <| ai (lb rfl) <| aF.to (aB.av x7) (fun _ => rfl) <| aD h fun x8 hx8 h => ai id <| ai rfl ?_
        refine o7.mk _ false (fun hg => (rS E x7).1 x8 (dX hx8 hg)) (ai rfl ?_)
        refine ai (fun hg => (hY hg)) <| ai id <| aD h fun x9 hx9 h => ai id ?_
        refine ai rfl (xi (aB.av x9) (ai (fun hg => aB.av_eq x9 ▸ tR _ hx9 hg) ?_))
        exact W
       ·exact W
theorem rU (n : Nat) : ∀ (E : Pm.Env) [aI E] (a0 : aB) (r : Bool) (h : c5 n a0 = some r), FnR E Tryz.prog 35 [aB.av a0] (bb r) false := by
 induction n with
 | zero => intro E _ a0 r h; cases (show none = some _ from h)
 | succ n ih => intro E _ a0 r h; exact rT E (c5 n) ih a0 r h
theorem s9 (E : Pm.Env) [aI E] (a0 : aB) (r : Bool) (h : mD a0 = some r) : FnR E Tryz.prog 35 [aB.av a0] (bb r) false := rU 1000000 E a0 r h
instance r9 (E : Pm.Env) [aI E] (a0 : aB) : Ok E (g9 a0) (fun r => FnR E Tryz.prog 17 [aB.av a0] (bb r) false) := ⟨fun r h => by
 refine FnR.of_ev (T := T) (rows := []) tOk mixed Tryz.func17 rfl (by kernel_rfl) (by kernel_rfl) rfl fun hwf => ?_
 unfold g9 at h
 refine sj <| ai rfl <| sn <| sj <| ai ⟨lb rfl, lb rfl⟩ <| aF.to (aB.av a0) (fun _ => rfl) <| aD h fun x1 hx1 h => aK.data _ false rfl ((kI E a0 (60 : Int)).1 x1 hx1) <| ai ⟨lb rfl, lb rfl⟩ <| aF.to (aB.av a0) (fun _ => rfl) <| aD h fun x2 hx2 h => ai id <| ai rfl ?_
 refine o7.mk _ false (fun hg => s9 E a0 x2 (dX hx2 hg)) (ai rfl ?_)
 refine ai (fun hg => (hY hg)) <| ai ⟨lb rfl, lb rfl⟩ <| aF.to (aB.av a0) (fun _ => rfl) <| aD h fun x3 hx3 h => ai id <| ai rfl ?_
 refine o7.mk _ false (fun hg => nU E a0 x3 (dX hx3 hg)) (ai rfl ?_)
 refine ai id <| ai (fun hg => (hY hg)) <| sn ?_
 replace h := oi h
 refine RetE.plain ?_
 exact ai rfl (ai (congrArg (fun r : Bool => bb r) h) rfl)⟩
end Go.Proofs.YtdobepgddhbncaaGreatDoor
