/-
  The functions do what their images say: walks, written by a program of mine (gen.py).
-/
import Derived.Test.YtdobepgddhbncaaGreatDoorIv1
import Derived.Test.YtdobepgddhbncaaGreatDoorWk2
import Derived.Test.YtdobepgddhbncaaGreatDoorPm31
open _root_.Nat renaming lt_succ_self -> aPu
namespace Go.Proofs.YtdobepgddhbncaaGreatDoor
open Go Go.Pm
set_option linter.unusedSimpArgs false
open And renaming intro -> ai
open Exists renaming intro -> xi
open Option.some renaming inj -> oi
open _root_.Nat renaming le_of_ble_eq_true -> lb
open Go.Pm.SeqJ renaming go -> sj
open Go.Pm.SeqN renaming go -> sn
set_option maxRecDepth 100000
set_option maxHeartbeats 1000000
set_option linter.unusedVariables false
theorem uG (E : Pm.Env) [aJ E] (aNa : aC -> Option (aB × aC)) (aNf : ∀ (E : Pm.Env) [aJ E] (o0 : aC) (r : aB) (o0' : aC) (h : aNa o0 = some (r, o0')), FnW E Tryz.prog 42 [AV.ptr 0 0] [.cells 72 (aC.cells o0) []] [] (aB.av r) none [.cells 72 (aC.cells o0') []] []) (aNq : aC -> Option (aB × aC)) (aNv : ∀ (E : Pm.Env) [aJ E] (o0 : aC) (r : aB) (o0' : aC) (h : aNq o0 = some (r, o0')), FnW E Tryz.prog 66 [AV.ptr 0 0] [.cells 72 (aC.cells o0) []] [] (aB.av r) none [.cells 72 (aC.cells o0') []] []) (o0 : aC) (r : aB) (o0' : aC) (h : fM aNa aNq o0 = some (r, o0')) : FnW E Tryz.prog 66 [AV.ptr 0 0] [.cells 72 (aC.cells o0) []] [] (aB.av r) none [.cells 72 (aC.cells o0') []] [] := by
 refine FnW.of_evB (T := T) (rows := []) tOk mixed Tryz.func66 rfl (by kernel_rfl) (by kernel_rfl) rfl rfl fun hwf => ?_
 unfold fM at h
 refine sj <| ai rfl <| sn <| sj <| sj <| sn ?_
 refine Br.of h (fun ht h => ?_) fun ht h => ?_
 ·refine sj ?_
  refine xi (some 31) (ai (okM.mk (show (31 : Nat) = nV T _ _ _ from by kernel_rfl)) ?_)
  refine ai ⟨rfl, rfl, rfl, lb rfl⟩ (xi [ii 0, ii 0, ss [], ss [], AV.list 5 (([] : List aB).map aB.avR)] (ai (fun _ => rfl) ?_))
  refine sn ?_
  replace h := oi h
  have h0 := (Prod.mk.inj h).1
  have h1 := (Prod.mk.inj h).2
  subst h0
  subst h1
  refine xi [⟨2, AV.ptr 1 0, none⟩] (xi [.cells 72 (aC.cells o0) [], .cells 26 [ii 0, ii 0, ss [], ss [], AV.list 5 (([] : List aB).map aB.avR)] []] (ai rfl (ai (Gho.to _ _ _ [] ?_ ?_ ?_ rfl rfl ?_) (ai ?_ rfl))))
  ·exact ⟨⟨rfl, rfl, rfl⟩, ⟨⟨rfl, rfl, rfl⟩, trivial⟩⟩
  ·exact rfl
  ·exact rfl
  ·exact tr3 <| trivial
  ·refine ai ⟨lb rfl, lb rfl⟩ (xi (AV.agg [ii 0, ii 0, ss [], ss [], AV.list 5 (([] : List aB).map aB.avR)]) (ai rfl ?_))
   exact rfl
 ·refine sj <| aD h fun x1 hx1 h => aL.ren [0] [] [.cells 72 (aC.cells x1.2) [], .cells 26 [ii 0, ii 0, ss [], ss [], AV.list 5 (([] : List aB).map aB.avR)] [(4, 0)]] [2] (gD E o0 ([33] : aA) x1.1 x1.2 hx1) rfl rfl rfl rfl rfl rfl rfl rfl rfl <| sn ?_
  refine Br.of h (fun ht h => ?_) fun ht h => ?_
  ·refine sj <| aD h fun x2 hx2 h => aL.ren [0] [] [.cells 72 (aC.cells x2.2) [], .cells 26 [ii 0, ii 0, ss [], ss [], AV.list 5 (([] : List aB).map aB.avR)] [(4, 0)]] [2] (aNv E x1.2 x2.1 x2.2 hx2) rfl rfl rfl rfl rfl rfl rfl rfl rfl <| ai ⟨rfl, rfl, rfl, rfl⟩ <| ai ⟨rfl, rfl, rfl⟩ <| aF.to (AV.list 5 (([x2.1] : List aB).map aB.avR)) (fun _ => by simp only [List.map, aB.av_eq]; rfl) <| ai ⟨rfl, rfl, lb rfl⟩ <| ai ⟨rfl, rfl, lb rfl⟩ ?_
   refine xi none (ai trivial ?_)
   refine ai ⟨rfl, rfl, rfl, lb rfl⟩ (xi [ii 4, ii 0, ss [], ss [], AV.list 5 (([x2.1] : List aB).map aB.avR)] (ai (fun _ => rfl) ?_))
   refine sn ?_
   replace h := oi h
   have h0 := (Prod.mk.inj h).1
   have h1 := (Prod.mk.inj h).2
   subst h0
   subst h1
   refine xi [⟨2, AV.ptr 1 0, none⟩] (xi [.cells 72 (aC.cells x2.2) [], .cells 26 [ii 4, ii 0, ss [], ss [], AV.list 5 (([x2.1] : List aB).map aB.avR)] []] (ai rfl (ai (Gho.to _ _ _ [] ?_ ?_ ?_ rfl rfl ?_) (ai ?_ rfl))))
   ·exact ⟨⟨rfl, rfl, rfl⟩, ⟨⟨rfl, rfl, rfl⟩, trivial⟩⟩
   ·exact rfl
   ·exact rfl
   ·exact tr3 <| trivial
   ·refine ai ⟨lb rfl, lb rfl⟩ (xi (AV.agg [ii 4, ii 0, ss [], ss [], AV.list 5 (([x2.1] : List aB).map aB.avR)]) (ai rfl ?_))
    exact rfl
  ·refine sj <| aD h fun x3 hx3 h => aL.ren [0] [] [.cells 72 (aC.cells x3.2) [], .cells 26 [ii 0, ii 0, ss [], ss [], AV.list 5 (([] : List aB).map aB.avR)] [(4, 0)]] [2] (gD E x1.2 ([40] : aA) x3.1 x3.2 hx3) rfl rfl rfl rfl rfl rfl rfl rfl rfl <| sn ?_
   refine Br.of h (fun ht h => ?_) fun ht h => ?_
   ·refine sj <| aD h fun x4 hx4 h => aL.ren [0] [] [.cells 72 (aC.cells x4.2) [], .cells 26 [ii 0, ii 0, ss [], ss [], AV.list 5 (([] : List aB).map aB.avR)] [(4, 0)]] [2] (aNf E x3.2 x4.1 x4.2 hx4) rfl rfl rfl rfl rfl rfl rfl rfl rfl <| ai rfl ?_
    refine ai ⟨rfl, rfl, rfl, lb rfl⟩ (xi (aB.cells x4.1) (ai (fun _ => rfl) ?_))
    refine sn <| sj <| sj <| aD h fun x5 hx5 h => aL.ren [0] [] [.cells 72 (aC.cells x5.2) [], .cells 26 [ii 0, ii 0, ss [], ss [], AV.list 5 (([] : List aB).map aB.avR)] [(4, 0)], .cells 26 (aB.cells x4.1) []] [2, 2] (gD E x4.2 ([41] : aA) x5.1 x5.2 hx5) rfl rfl rfl rfl rfl rfl rfl rfl rfl <| sn ?_
    refine Br.of h (fun ht h => ?_) fun ht h => ?_
    ·refine sj <| aD h fun x6 hx6 h => aL.ren [0] [] [.cells 72 (aC.cells x6.2) [], .cells 26 [ii 0, ii 0, ss [], ss [], AV.list 5 (([] : List aB).map aB.avR)] [(4, 0)], .cells 26 (aB.cells x4.1) []] [2, 2] (lX E x5.2 x6.1 x6.2 hx6) rfl rfl rfl rfl rfl rfl rfl rfl rfl ?_
     refine ai ⟨rfl, rfl, rfl, lb rfl⟩ (xi (aB.cells x6.1) (ai (fun _ => rfl) ?_))
     refine sn ?_
     replace h := oi h
     have h0 := (Prod.mk.inj h).1
     have h1 := (Prod.mk.inj h).2
     subst h0
     subst h1
     refine xi [⟨2, AV.ptr 1 0, none⟩] (xi [.cells 72 (aC.cells x6.2) [], .cells 26 (aB.cells x6.1) []] (ai rfl (ai (Gho.to _ _ _ [] ?_ ?_ ?_ rfl rfl ?_) (ai ?_ rfl))))
     ·exact ⟨⟨rfl, rfl, rfl⟩, ⟨⟨rfl, rfl, rfl⟩, trivial⟩⟩
     ·exact rfl
     ·exact rfl
     ·exact tr3 <| trivial
     ·refine ai ⟨lb rfl, lb rfl⟩ (xi (aB.av x6.1) (ai rfl ?_))
      exact rfl
    ·refine sn <| sj <| ai ⟨lb rfl, lb rfl⟩ <| aF.to (aB.av x4.1) (fun _ => rfl) ?_
     refine ai ⟨rfl, rfl, rfl, lb rfl⟩ (xi (aB.cells x4.1) (ai (fun _ => rfl) ?_))
     refine sn ?_
     replace h := oi h
     have h0 := (Prod.mk.inj h).1
     have h1 := (Prod.mk.inj h).2
     subst h0
     subst h1
     refine xi [⟨2, AV.ptr 1 0, none⟩] (xi [.cells 72 (aC.cells x5.2) [], .cells 26 (aB.cells x4.1) []] (ai rfl (ai (Gho.to _ _ _ [] ?_ ?_ ?_ rfl rfl ?_) (ai ?_ rfl))))
     ·exact ⟨⟨rfl, rfl, rfl⟩, ⟨⟨rfl, rfl, rfl⟩, trivial⟩⟩
     ·exact rfl
     ·exact rfl
     ·exact tr3 <| trivial
     ·refine ai ⟨lb rfl, lb rfl⟩ (xi (aB.av x4.1) (ai rfl ?_))
      exact rfl
   ·refine sn <| sj <| aD h fun x7 hx7 h => aL.ren [0] [] [.cells 72 (aC.cells x7.2) [], .cells 26 [ii 0, ii 0, ss [], ss [], AV.list 5 (([] : List aB).map aB.avR)] [(4, 0)]] [2] (nZ E x3.2 x7.1 x7.2 hx7) rfl rfl rfl rfl rfl rfl rfl rfl rfl <| ai rfl ?_
    refine ai ⟨rfl, rfl, rfl, lb rfl⟩ (xi (aB.cells x7.1) (ai (fun _ => rfl) ?_))
    refine sn <| sj <| aD h fun x8 hx8 h => aL.ren [0] [] [.cells 72 (aC.cells x8.2) [], .cells 26 [ii 0, ii 0, ss [], ss [], AV.list 5 (([] : List aB).map aB.avR)] [(4, 0)], .cells 26 (aB.cells x7.1) []] [2, 2] (vF E x7.2 x8.1 x8.2 hx8) rfl rfl rfl rfl rfl rfl rfl rfl rfl <| sn <| sj <| sj <| sn ?_
    refine Br.of h (fun ht h => ?_) fun ht h => ?_
    ·refine sj <| ai ⟨lb rfl, lb rfl⟩ <| aF.to (aB.av x7.1) (fun _ => rfl) ?_
     refine ai ⟨rfl, rfl, rfl, lb rfl⟩ (xi (aB.cells x7.1) (ai (fun _ => rfl) ?_))
     refine sn ?_
     replace h := oi h
     have h0 := (Prod.mk.inj h).1
     have h1 := (Prod.mk.inj h).2
     subst h0
     subst h1
     refine xi [⟨2, AV.ptr 1 0, none⟩] (xi [.cells 72 (aC.cells x8.2) [], .cells 26 (aB.cells x7.1) []] (ai rfl (ai (Gho.to _ _ _ [] ?_ ?_ ?_ rfl rfl ?_) (ai ?_ rfl))))
     ·exact ⟨⟨rfl, rfl, rfl⟩, ⟨⟨rfl, rfl, rfl⟩, trivial⟩⟩
     ·exact rfl
     ·exact rfl
     ·exact tr3 <| trivial
     ·refine ai ⟨lb rfl, lb rfl⟩ (xi (aB.av x7.1) (ai rfl ?_))
      exact rfl
    ·refine sn <| sj <| Or.inl <| ai ⟨lb rfl, lb rfl⟩ <| aF.to (aB.av x7.1) (fun _ => rfl) <| aD h fun x9 hx9 h => aL.ren [0] [] [.cells 72 (aC.cells x9.2) [], .cells 26 [ii 0, ii 0, ss [], ss [], AV.list 5 (([] : List aB).map aB.avR)] [(4, 0)], .cells 26 (aB.cells x7.1) []] [2, 2] (nZ E x8.2 x9.1 x9.2 hx9) rfl rfl rfl rfl rfl rfl rfl rfl rfl <| ai ⟨rfl, rfl, rfl, rfl⟩ <| ai ⟨rfl, rfl, rfl, rfl⟩ <| ai ⟨rfl, rfl, rfl⟩ <| aF.to (AV.list 5 (([x7.1, x9.1] : List aB).map aB.avR)) (fun _ => by simp only [List.map, aB.av_eq]; rfl) <| ai ⟨rfl, rfl, lb rfl⟩ <| ai ⟨rfl, rfl, lb rfl⟩ <| ai ⟨rfl, rfl, lb rfl⟩ ?_
     refine xi none (ai trivial ?_)
     refine ai ⟨rfl, rfl, rfl, lb rfl⟩ (xi [ii 7, ii 0, ss [], ss x8.1, AV.list 5 (([x7.1, x9.1] : List aB).map aB.avR)] (ai (fun _ => rfl) ?_))
     refine ai (by kernel_rfl) <| sn ?_
     replace h := oi h
     have h0 := (Prod.mk.inj h).1
     have h1 := (Prod.mk.inj h).2
     subst h0
     subst h1
     refine xi [⟨2, AV.ptr 1 0, none⟩] (xi [.cells 72 (aC.cells x9.2) [], .cells 26 [ii 7, ii 0, ss [], ss x8.1, AV.list 5 (([x7.1, x9.1] : List aB).map aB.avR)] []] (ai rfl (ai (Gho.to _ _ _ [] ?_ ?_ ?_ rfl rfl ?_) (ai ?_ rfl))))
     ·exact ⟨⟨rfl, rfl, rfl⟩, ⟨⟨rfl, rfl, rfl⟩, trivial⟩⟩
     ·exact rfl
     ·exact rfl
     ·exact tr3 <| trivial
     ·refine ai ⟨lb rfl, lb rfl⟩ (xi (AV.agg [ii 7, ii 0, ss [], ss x8.1, AV.list 5 (([x7.1, x9.1] : List aB).map aB.avR)]) (ai rfl ?_))
      exact rfl
theorem uH (aNa : aC -> Option (aB × aC)) (aNf : ∀ (E : Pm.Env) [aJ E] (o0 : aC) (r : aB) (o0' : aC) (h : aNa o0 = some (r, o0')), FnW E Tryz.prog 42 [AV.ptr 0 0] [.cells 72 (aC.cells o0) []] [] (aB.av r) none [.cells 72 (aC.cells o0') []] []) (n : Nat) : ∀ (E : Pm.Env) [aJ E] (o0 : aC) (r : aB) (o0' : aC) (h : eP aNa n o0 = some (r, o0')), FnW E Tryz.prog 66 [AV.ptr 0 0] [.cells 72 (aC.cells o0) []] [] (aB.av r) none [.cells 72 (aC.cells o0') []] [] := by
 induction n with
 | zero => intro E _ o0 r o0' h; cases (show none = some _ from h)
 | succ n ih => intro E _ o0 r o0' h; exact uG E aNa aNf (eP aNa n) ih o0 r o0' h
theorem p5 (E : Pm.Env) [aJ E] (aNa : aC -> Option (aB × aC)) (aNf : ∀ (E : Pm.Env) [aJ E] (o0 : aC) (r : aB) (o0' : aC) (h : aNa o0 = some (r, o0')), FnW E Tryz.prog 42 [AV.ptr 0 0] [.cells 72 (aC.cells o0) []] [] (aB.av r) none [.cells 72 (aC.cells o0') []] []) (o0 : aC) (r : aB) (o0' : aC) (h : mB aNa o0 = some (r, o0')) : FnW E Tryz.prog 66 [AV.ptr 0 0] [.cells 72 (aC.cells o0) []] [] (aB.av r) none [.cells 72 (aC.cells o0') []] [] := uH aNa aNf 1000000 E o0 r o0' h
theorem lO (E : Pm.Env) [aJ E] (aNa : aC -> Option (aB × aC)) (aNf : ∀ (E : Pm.Env) [aJ E] (o0 : aC) (r : aB) (o0' : aC) (h : aNa o0 = some (r, o0')), FnW E Tryz.prog 42 [AV.ptr 0 0] [.cells 72 (aC.cells o0) []] [] (aB.av r) none [.cells 72 (aC.cells o0') []] []) (o0 : aC) (a1 : Int) (a2 : aA) (r : aB) (o0' : aC) (h : dD aNa o0 a1 a2 = some (r, o0')) : FnW E Tryz.prog 64 [AV.ptr 0 0, ii a1, ss a2, AV.fn 66 [AV.ptr 0 0] []] [.cells 72 (aC.cells o0) []] [] (aB.av r) none [.cells 72 (aC.cells o0') []] [] := by
 refine FnW.of_evB (T := T) (rows := []) tOk mixed Tryz.func64 rfl (by kernel_rfl) (by kernel_rfl) rfl rfl fun hwf => ?_
 unfold dD at h
 refine sj <| ai rfl <| sn <| sj <| aD h fun x1 hx1 h => aL.ren [0] [] [.cells 72 (aC.cells x1.2) [], .cells 26 [ii 0, ii 0, ss [], ss [], AV.list 5 (([] : List aB).map aB.avR)] [(4, 0)]] [2] (p5 E aNa aNf o0 x1.1 x1.2 hx1) rfl rfl rfl rfl rfl rfl rfl rfl rfl <| ai ⟨rfl, rfl, rfl, rfl⟩ <| ai ⟨rfl, rfl, rfl⟩ <| aF.to (AV.list 5 (([x1.1] : List aB).map aB.avR)) (fun _ => by simp only [List.map, aB.av_eq]; rfl) <| sn <| aD h fun j2 hj2 h => ?_
 refine SeqJ.join (St.of [⟨1, ii a1, none⟩, ⟨8, AV.ptr 1 0, none⟩, ⟨9, AV.list 5 (j2.1.map aB.avR), some 0⟩] [.cells 72 (aC.cells j2.2) [], .cells 26 [ii 0, ii 0, ss [], ss [], AV.list 5 (([] : List aB).map aB.avR)] [(4, 1)]] [1, 1]) ?_ ?_
 ·clear h; have h := hj2; clear hj2
  refine cQ.img (fun x : ((List aB) × aC) => St.of [⟨0, AV.ptr 0 0, none⟩, ⟨1, ii a1, none⟩, ⟨2, ss a2, none⟩, ⟨3, AV.fn 66 [AV.ptr 0 0] [], none⟩, ⟨8, AV.ptr 1 0, none⟩, ⟨9, AV.list 5 (x.1.map aB.avR), some 0⟩] [.cells 72 (aC.cells x.2) [], .cells 26 [ii 0, ii 0, ss [], ss [], AV.list 5 (([] : List aB).map aB.avR)] [(4, 1)]] [1, 1]) (eB aNa a2) (([x1.1] : List aB), x1.2) h ?_ ?_
  ·refine Gho.to _ _ _ [1, 0] ?_ ?_ ?_ rfl rfl ?_
   ·exact ⟨⟨rfl, rfl, rfl⟩, ⟨⟨rfl, rfl, rfl⟩, trivial⟩⟩
   ·exact rfl
   ·exact rfl
   ·exact ⟨rfl, rfl, trivial, rfl, rfl, trivial, rfl, rfl, trivial, rfl, rfl, trivial, rfl, rfl, trivial, rfl, rfl, ⟨rfl, rfl, rfl⟩, trivial⟩
  intro n1 x y1 h hl1 hr1
  obtain ⟨s3, s4⟩ := x
  unfold eB at h
  dsimp only at h
  refine sj <| sj <| aD h fun x5 hx5 h => aL.ren [0] [] [.cells 72 (aC.cells x5.2) [], .cells 26 [ii 0, ii 0, ss [], ss [], AV.list 5 (([] : List aB).map aB.avR)] [(4, 1)]] [1, 1] (gD E s4 a2 x5.1 x5.2 hx5) rfl rfl rfl rfl rfl rfl rfl rfl rfl <| sn ?_
  refine Br.of h (fun ht h => ?_) fun ht h => ?_
  ·refine sn <| aD h fun x6 hx6 h => aL.ren [0] [] [.cells 72 (aC.cells x6.2) [], .cells 26 [ii 0, ii 0, ss [], ss [], AV.list 5 (([] : List aB).map aB.avR)] [(4, 1)]] [1, 1] (p5 E aNa aNf x5.2 x6.1 x6.2 hx6) rfl rfl rfl rfl rfl rfl rfl rfl rfl <| ai ⟨rfl, rfl, rfl, rfl⟩ <| ai ⟨rfl, rfl, rfl⟩ <| aF.to (AV.list 5 (([x6.1] : List aB).map aB.avR)) (fun _ => by simp only [List.map, aB.av_eq]; rfl) <| aD h fun x7 hx7 h => ?_
   have qx7 := (dG hx7).1
   have hx7e := (dG hx7).2
   refine ai ⟨rfl, rfl, rfl⟩ <| ai rfl <| ai (jX aB.avR qx7) <| aF.to (AV.list 5 (x7.map aB.avR)) (fun _ => (jY 5 aB.avR _ _).trans (congrArg (fun y => AV.list 5 (List.map aB.avR y)) hx7e.symm)) ?_
   replace h := oi h
   refine xi ⟨(n1, (x7, x6.2)), hl1 _ h.symm⟩ (ai (aPu _) ?_)
   refine Gho.to _ _ _ [3, 1] ?_ ?_ ?_ rfl rfl ?_
   ·exact ⟨⟨rfl, rfl, rfl⟩, ⟨⟨rfl, rfl, rfl⟩, trivial⟩⟩
   ·exact rfl
   ·exact rfl
   ·exact ⟨rfl, rfl, trivial, rfl, rfl, trivial, rfl, rfl, trivial, rfl, rfl, trivial, rfl, rfl, trivial, rfl, rfl, ⟨rfl, rfl, rfl⟩, trivial⟩
  ·replace h := oi h
   replace h := hr1 _ h.symm
   subst h
   refine Gho.to _ _ _ [0, 1] ?_ ?_ ?_ rfl rfl ?_
   ·exact ⟨⟨rfl, rfl, rfl⟩, ⟨⟨rfl, rfl, rfl⟩, trivial⟩⟩
   ·exact rfl
   ·exact rfl
   ·exact ⟨rfl, rfl, trivial, rfl, rfl, trivial, rfl, rfl, ⟨rfl, rfl, rfl⟩, trivial⟩
 ·clear hj2
  refine sj <| sj <| aF.to (ii (j2.1.length : Int)) (fun _ => bD aB.avR j2.1) <| sn ?_
  refine Br.of h (fun ht h => ?_) fun ht h => ?_
  ·refine sj <| aD h fun x8 hx8 h => ?_
   refine ai rfl (xi (aB.av x8) (ai (fun hg => aB.av_eq x8 ▸ c4 _ hx8) ?_))
   refine ai (lb rfl) <| aF.to (aB.av x8) (fun _ => rfl) ?_
   refine ai ⟨rfl, rfl, rfl, lb rfl⟩ (xi (aB.cells x8) (ai (fun _ => rfl) ?_))
   refine sn ?_
   replace h := oi h
   have h0 := (Prod.mk.inj h).1
   have h1 := (Prod.mk.inj h).2
   subst h0
   subst h1
   refine xi [⟨8, AV.ptr 1 0, none⟩] (xi [.cells 72 (aC.cells j2.2) [], .cells 26 (aB.cells x8) []] (ai rfl (ai (Gho.to _ _ _ [] ?_ ?_ ?_ rfl rfl ?_) (ai ?_ rfl))))
   ·exact ⟨⟨rfl, rfl, rfl⟩, ⟨⟨rfl, rfl, rfl⟩, trivial⟩⟩
   ·exact rfl
   ·exact rfl
   ·exact tr3 <| trivial
   ·refine ai ⟨lb rfl, lb rfl⟩ (xi (aB.av x8) (ai rfl ?_))
    exact rfl
  ·refine sn <| sj <| ai ⟨rfl, rfl, lb rfl⟩ <| ai ⟨rfl, rfl, lb rfl⟩ ?_
   refine xi none (ai trivial ?_)
   refine ai ⟨rfl, rfl, rfl, lb rfl⟩ (xi [ii a1, ii 0, ss [], ss [], AV.list 5 (j2.1.map aB.avR)] (ai (fun _ => rfl) ?_))
   refine sn ?_
   replace h := oi h
   have h0 := (Prod.mk.inj h).1
   have h1 := (Prod.mk.inj h).2
   subst h0
   subst h1
   refine xi [⟨8, AV.ptr 1 0, none⟩] (xi [.cells 72 (aC.cells j2.2) [], .cells 26 [ii a1, ii 0, ss [], ss [], AV.list 5 (j2.1.map aB.avR)] []] (ai rfl (ai (Gho.to _ _ _ [] ?_ ?_ ?_ rfl rfl ?_) (ai ?_ rfl))))
   ·exact ⟨⟨rfl, rfl, rfl⟩, ⟨⟨rfl, rfl, rfl⟩, trivial⟩⟩
   ·exact rfl
   ·exact rfl
   ·exact tr3 <| trivial
   ·refine ai ⟨lb rfl, lb rfl⟩ (xi (AV.agg [ii a1, ii 0, ss [], ss [], AV.list 5 (j2.1.map aB.avR)]) (ai rfl ?_))
    exact rfl
theorem oD (E : Pm.Env) [aJ E] (aNa : aC -> Option (aB × aC)) (aNf : ∀ (E : Pm.Env) [aJ E] (o0 : aC) (r : aB) (o0' : aC) (h : aNa o0 = some (r, o0')), FnW E Tryz.prog 42 [AV.ptr 0 0] [.cells 72 (aC.cells o0) []] [] (aB.av r) none [.cells 72 (aC.cells o0') []] []) (o0 : aC) (r : aB) (o0' : aC) (h : gS aNa o0 = some (r, o0')) : FnW E Tryz.prog 65 [AV.ptr 1 0] [.cells 72 (aC.cells o0) [], .cells 70 [AV.ptr 0 0] []] [] (aB.av r) none [.cells 72 (aC.cells o0') [], .cells 70 [AV.ptr 0 0] []] [] := by
 refine FnW.of_evB (T := T) (rows := []) tOk mixed Tryz.func65 rfl (by kernel_rfl) (by kernel_rfl) rfl rfl fun hwf => ?_
 unfold gS at h
 refine sj <| ai rfl ?_
 refine SeqN.via (St.of [⟨0, AV.ptr 1 0, none⟩, ⟨1, AV.ptr 2 0, none⟩] [.cells 72 (aC.cells o0) [], .cells 70 [AV.ptr 0 0] [], .cells 26 [ii 0, ii 0, ss [], ss [], AV.list 5 (([] : List aB).map aB.avR)] [(4, 0)]] [1]) ?_ ?_
 ·refine Gho.to _ _ _ [0] ?_ ?_ ?_ rfl rfl ?_
  ·exact W
  ·exact rfl
  ·exact rfl
  ·exact tr3 <| tr3 <| trivial
 refine sj <| aD h fun x1 hx1 h => aL.ren [0] [] [.cells 72 (aC.cells x1.2) [], .cells 70 [AV.ptr 0 0] [], .cells 26 [ii 0, ii 0, ss [], ss [], AV.list 5 (([] : List aB).map aB.avR)] [(4, 0)]] [1] (lO E aNa aNf o0 (5 : Int) ([38] : aA) x1.1 x1.2 hx1) rfl rfl rfl rfl rfl rfl rfl rfl rfl ?_
 refine ai ⟨rfl, rfl, rfl, lb rfl⟩ (xi (aB.cells x1.1) (ai (fun _ => rfl) ?_))
 refine sn ?_
 replace h := oi h
 have h0 := (Prod.mk.inj h).1
 have h1 := (Prod.mk.inj h).2
 subst h0
 subst h1
 refine xi [⟨1, AV.ptr 2 0, none⟩] (xi [.cells 72 (aC.cells x1.2) [], .cells 70 [AV.ptr 0 0] [], .cells 26 (aB.cells x1.1) []] (ai rfl (ai (Gho.to _ _ _ [] ?_ ?_ ?_ rfl rfl ?_) (ai ?_ rfl))))
 ·exact ⟨⟨rfl, rfl, rfl⟩, ⟨⟨rfl, rfl, rfl⟩, ⟨⟨rfl, rfl, rfl⟩, trivial⟩⟩⟩
 ·exact rfl
 ·exact rfl
 ·exact tr3 <| trivial
 ·refine ai ⟨lb rfl, lb rfl⟩ (xi (aB.av x1.1) (ai rfl ?_))
  exact rfl
theorem kX (E : Pm.Env) [aJ E] (aNa : aC -> Option (aB × aC)) (aNf : ∀ (E : Pm.Env) [aJ E] (o0 : aC) (r : aB) (o0' : aC) (h : aNa o0 = some (r, o0')), FnW E Tryz.prog 42 [AV.ptr 0 0] [.cells 72 (aC.cells o0) []] [] (aB.av r) none [.cells 72 (aC.cells o0') []] []) (o0 : aC) (a1 : Int) (a2 : aA) (r : aB) (o0' : aC) (h : cX aNa o0 a1 a2 = some (r, o0')) : FnW E Tryz.prog 64 [AV.ptr 0 0, ii a1, ss a2, AV.fn 65 [] [AV.ptr 1 0]] [.cells 72 (aC.cells o0) [], .cells 70 [AV.ptr 0 0] []] [] (aB.av r) none [.cells 72 (aC.cells o0') [], .cells 70 [AV.ptr 0 0] []] [] := by
 refine FnW.of_evB (T := T) (rows := []) tOk mixed Tryz.func64 rfl (by kernel_rfl) (by kernel_rfl) rfl rfl fun hwf => ?_
 unfold cX at h
 refine sj <| ai rfl <| sn <| sj <| aD h fun x1 hx1 h => aL.ren [0, 1] [] [.cells 72 (aC.cells x1.2) [], .cells 70 [AV.ptr 0 0] [], .cells 26 [ii 0, ii 0, ss [], ss [], AV.list 5 (([] : List aB).map aB.avR)] [(4, 0)]] [2] (oD E aNa aNf o0 x1.1 x1.2 hx1) rfl rfl rfl rfl rfl rfl rfl rfl rfl <| ai ⟨rfl, rfl, rfl, rfl⟩ <| ai ⟨rfl, rfl, rfl⟩ <| aF.to (AV.list 5 (([x1.1] : List aB).map aB.avR)) (fun _ => by simp only [List.map, aB.av_eq]; rfl) <| sn <| aD h fun j2 hj2 h => ?_
 refine SeqJ.join (St.of [⟨1, ii a1, none⟩, ⟨8, AV.ptr 2 0, none⟩, ⟨9, AV.list 5 (j2.1.map aB.avR), some 0⟩] [.cells 72 (aC.cells j2.2) [], .cells 70 [AV.ptr 0 0] [], .cells 26 [ii 0, ii 0, ss [], ss [], AV.list 5 (([] : List aB).map aB.avR)] [(4, 1)]] [1, 1]) ?_ ?_
 ·clear h; have h := hj2; clear hj2
  refine cQ.img (fun x : ((List aB) × aC) => St.of [⟨0, AV.ptr 0 0, none⟩, ⟨1, ii a1, none⟩, ⟨2, ss a2, none⟩, ⟨3, AV.fn 65 [] [AV.ptr 1 0], none⟩, ⟨8, AV.ptr 2 0, none⟩, ⟨9, AV.list 5 (x.1.map aB.avR), some 0⟩] [.cells 72 (aC.cells x.2) [], .cells 70 [AV.ptr 0 0] [], .cells 26 [ii 0, ii 0, ss [], ss [], AV.list 5 (([] : List aB).map aB.avR)] [(4, 1)]] [1, 1]) (dW aNa a2) (([x1.1] : List aB), x1.2) h ?_ ?_
  ·refine Gho.to _ _ _ [1, 0] ?_ ?_ ?_ rfl rfl ?_
   ·exact ⟨⟨rfl, rfl, rfl⟩, ⟨⟨rfl, rfl, rfl⟩, ⟨⟨rfl, rfl, rfl⟩, trivial⟩⟩⟩
   ·exact rfl
   ·exact rfl
   ·exact ⟨rfl, rfl, trivial, rfl, rfl, trivial, rfl, rfl, trivial, rfl, rfl, trivial, rfl, rfl, trivial, rfl, rfl, ⟨rfl, rfl, rfl⟩, trivial⟩
  intro n1 x y1 h hl1 hr1
  obtain ⟨s3, s4⟩ := x
  unfold dW at h
  dsimp only at h
  refine sj <| sj <| aD h fun x5 hx5 h => aL.ren [0] [] [.cells 72 (aC.cells x5.2) [], .cells 70 [AV.ptr 0 0] [], .cells 26 [ii 0, ii 0, ss [], ss [], AV.list 5 (([] : List aB).map aB.avR)] [(4, 1)]] [1, 1] (gD E s4 a2 x5.1 x5.2 hx5) rfl rfl rfl rfl rfl rfl rfl rfl rfl <| sn ?_
  refine Br.of h (fun ht h => ?_) fun ht h => ?_
  ·refine sn <| aD h fun x6 hx6 h => aL.ren [0, 1] [] [.cells 72 (aC.cells x6.2) [], .cells 70 [AV.ptr 0 0] [], .cells 26 [ii 0, ii 0, ss [], ss [], AV.list 5 (([] : List aB).map aB.avR)] [(4, 1)]] [1, 1] (oD E aNa aNf x5.2 x6.1 x6.2 hx6) rfl rfl rfl rfl rfl rfl rfl rfl rfl <| ai ⟨rfl, rfl, rfl, rfl⟩ <| ai ⟨rfl, rfl, rfl⟩ <| aF.to (AV.list 5 (([x6.1] : List aB).map aB.avR)) (fun _ => by simp only [List.map, aB.av_eq]; rfl) <| aD h fun x7 hx7 h => ?_
   have qx7 := (dG hx7).1
   have hx7e := (dG hx7).2
   refine ai ⟨rfl, rfl, rfl⟩ <| ai rfl <| ai (jX aB.avR qx7) <| aF.to (AV.list 5 (x7.map aB.avR)) (fun _ => (jY 5 aB.avR _ _).trans (congrArg (fun y => AV.list 5 (List.map aB.avR y)) hx7e.symm)) ?_
   replace h := oi h
   refine xi ⟨(n1, (x7, x6.2)), hl1 _ h.symm⟩ (ai (aPu _) ?_)
   refine Gho.to _ _ _ [3, 1] ?_ ?_ ?_ rfl rfl ?_
   ·exact ⟨⟨rfl, rfl, rfl⟩, ⟨⟨rfl, rfl, rfl⟩, ⟨⟨rfl, rfl, rfl⟩, trivial⟩⟩⟩
   ·exact rfl
   ·exact rfl
   ·exact ⟨rfl, rfl, trivial, rfl, rfl, trivial, rfl, rfl, trivial, rfl, rfl, trivial, rfl, rfl, trivial, rfl, rfl, ⟨rfl, rfl, rfl⟩, trivial⟩
  ·replace h := oi h
   replace h := hr1 _ h.symm
   subst h
   refine Gho.to _ _ _ [0, 1] ?_ ?_ ?_ rfl rfl ?_
   ·exact ⟨⟨rfl, rfl, rfl⟩, ⟨⟨rfl, rfl, rfl⟩, ⟨⟨rfl, rfl, rfl⟩, trivial⟩⟩⟩
   ·exact rfl
   ·exact rfl
   ·exact ⟨rfl, rfl, trivial, rfl, rfl, trivial, rfl, rfl, ⟨rfl, rfl, rfl⟩, trivial⟩
 ·clear hj2
  refine sj <| sj <| aF.to (ii (j2.1.length : Int)) (fun _ => bD aB.avR j2.1) <| sn ?_
  refine Br.of h (fun ht h => ?_) fun ht h => ?_
  ·refine sj <| aD h fun x8 hx8 h => ?_
   refine ai rfl (xi (aB.av x8) (ai (fun hg => aB.av_eq x8 ▸ c4 _ hx8) ?_))
   refine ai (lb rfl) <| aF.to (aB.av x8) (fun _ => rfl) ?_
   refine ai ⟨rfl, rfl, rfl, lb rfl⟩ (xi (aB.cells x8) (ai (fun _ => rfl) ?_))
   refine sn ?_
   replace h := oi h
   have h0 := (Prod.mk.inj h).1
   have h1 := (Prod.mk.inj h).2
   subst h0
   subst h1
   refine xi [⟨8, AV.ptr 2 0, none⟩] (xi [.cells 72 (aC.cells j2.2) [], .cells 70 [AV.ptr 0 0] [], .cells 26 (aB.cells x8) []] (ai rfl (ai (Gho.to _ _ _ [] ?_ ?_ ?_ rfl rfl ?_) (ai ?_ rfl))))
   ·exact ⟨⟨rfl, rfl, rfl⟩, ⟨⟨rfl, rfl, rfl⟩, ⟨⟨rfl, rfl, rfl⟩, trivial⟩⟩⟩
   ·exact rfl
   ·exact rfl
   ·exact tr3 <| trivial
   ·refine ai ⟨lb rfl, lb rfl⟩ (xi (aB.av x8) (ai rfl ?_))
    exact rfl
  ·refine sn <| sj <| ai ⟨rfl, rfl, lb rfl⟩ <| ai ⟨rfl, rfl, lb rfl⟩ ?_
   refine xi none (ai trivial ?_)
   refine ai ⟨rfl, rfl, rfl, lb rfl⟩ (xi [ii a1, ii 0, ss [], ss [], AV.list 5 (j2.1.map aB.avR)] (ai (fun _ => rfl) ?_))
   refine sn ?_
   replace h := oi h
   have h0 := (Prod.mk.inj h).1
   have h1 := (Prod.mk.inj h).2
   subst h0
   subst h1
   refine xi [⟨8, AV.ptr 2 0, none⟩] (xi [.cells 72 (aC.cells j2.2) [], .cells 70 [AV.ptr 0 0] [], .cells 26 [ii a1, ii 0, ss [], ss [], AV.list 5 (j2.1.map aB.avR)] []] (ai rfl (ai (Gho.to _ _ _ [] ?_ ?_ ?_ rfl rfl ?_) (ai ?_ rfl))))
   ·exact ⟨⟨rfl, rfl, rfl⟩, ⟨⟨rfl, rfl, rfl⟩, ⟨⟨rfl, rfl, rfl⟩, trivial⟩⟩⟩
   ·exact rfl
   ·exact rfl
   ·exact tr3 <| trivial
   ·refine ai ⟨lb rfl, lb rfl⟩ (xi (AV.agg [ii a1, ii 0, ss [], ss [], AV.list 5 (j2.1.map aB.avR)]) (ai rfl ?_))
    exact rfl
theorem uI (E : Pm.Env) [aJ E] (aNa : aC -> Option (aB × aC)) (aNf : ∀ (E : Pm.Env) [aJ E] (o0 : aC) (r : aB) (o0' : aC) (h : aNa o0 = some (r, o0')), FnW E Tryz.prog 42 [AV.ptr 0 0] [.cells 72 (aC.cells o0) []] [] (aB.av r) none [.cells 72 (aC.cells o0') []] []) (o0 : aC) (r : aB) (o0' : aC) (h : iV aNa o0 = some (r, o0')) : FnW E Tryz.prog 42 [AV.ptr 0 0] [.cells 72 (aC.cells o0) []] [] (aB.av r) none [.cells 72 (aC.cells o0') []] [] := by
 refine FnW.of_evB (T := T) (rows := []) tOk mixed Tryz.func42 rfl (by kernel_rfl) (by kernel_rfl) rfl rfl fun hwf => ?_
 unfold iV at h
 refine sj <| ai rfl <| ai rfl ?_
 refine SeqN.via (St.of [⟨1, AV.ptr 1 0, none⟩, ⟨2, AV.ptr 2 0, none⟩] [.cells 72 (aC.cells o0) [], .cells 70 [AV.ptr 0 0] [], .cells 26 [ii 0, ii 0, ss [], ss [], AV.list 5 (([] : List aB).map aB.avR)] [(4, 0)]] [1]) ?_ ?_
 ·refine Gho.to _ _ _ [0] ?_ ?_ ?_ rfl rfl ?_
  ·exact W
  ·exact rfl
  ·exact rfl
  ·exact tr3 <| tr3 <| trivial
 refine sj <| aD h fun x1 hx1 h => aL.ren [0, 1] [] [.cells 72 (aC.cells x1.2) [], .cells 70 [AV.ptr 0 0] [], .cells 26 [ii 0, ii 0, ss [], ss [], AV.list 5 (([] : List aB).map aB.avR)] [(4, 0)]] [1] (kX E aNa aNf o0 (6 : Int) ([124] : aA) x1.1 x1.2 hx1) rfl rfl rfl rfl rfl rfl rfl rfl rfl ?_
 refine ai ⟨rfl, rfl, rfl, lb rfl⟩ (xi (aB.cells x1.1) (ai (fun _ => rfl) ?_))
 refine sn ?_
 replace h := oi h
 have h0 := (Prod.mk.inj h).1
 have h1 := (Prod.mk.inj h).2
 subst h0
 subst h1
 refine xi [⟨2, AV.ptr 2 0, none⟩] (xi [.cells 72 (aC.cells x1.2) [], .dead, .cells 26 (aB.cells x1.1) []] (ai rfl (ai (Gho.to _ _ _ [] ?_ ?_ ?_ rfl rfl ?_) (ai ?_ rfl))))
 ·exact ⟨⟨rfl, rfl, rfl⟩, ⟨trivial, ⟨⟨rfl, rfl, rfl⟩, trivial⟩⟩⟩
 ·exact rfl
 ·exact rfl
 ·exact tr3 <| trivial
 ·refine ai ⟨lb rfl, lb rfl⟩ (xi (aB.av x1.1) (ai rfl ?_))
  exact rfl
theorem uJ (n : Nat) : ∀ (E : Pm.Env) [aJ E] (o0 : aC) (r : aB) (o0' : aC) (h : gT n o0 = some (r, o0')), FnW E Tryz.prog 42 [AV.ptr 0 0] [.cells 72 (aC.cells o0) []] [] (aB.av r) none [.cells 72 (aC.cells o0') []] [] := by
 induction n with
 | zero => intro E _ o0 r o0' h; cases (show none = some _ from h)
 | succ n ih => intro E _ o0 r o0' h; exact uI E (gT n) ih o0 r o0' h
theorem wC (E : Pm.Env) [aJ E] (o0 : aC) (r : aB) (o0' : aC) (h : oQ o0 = some (r, o0')) : FnW E Tryz.prog 42 [AV.ptr 0 0] [.cells 72 (aC.cells o0) []] [] (aB.av r) none [.cells 72 (aC.cells o0') []] [] := uJ 1000000 E o0 r o0' h
instance aAo (E : Pm.Env) [aJ E] (a0 : aB) : Ok E (pN a0) (fun r => FnR E Tryz.prog 44 [aB.av a0] (bb r) false) := ⟨fun r h => by
 refine FnR.of_ev (T := T) (rows := []) tOk mixed Tryz.func44 rfl (by kernel_rfl) (by kernel_rfl) rfl fun hwf => ?_
 unfold pN at h
 refine sj <| ai rfl <| sn <| sj <| ai ⟨lb rfl, lb rfl⟩ <| aF.to (aB.av a0) (fun _ => rfl) <| ai ⟨rfl, rfl, rfl, rfl⟩ <| ai ⟨rfl, rfl, rfl⟩ <| aF.to (AV.list 5 (([a0] : List aB).map aB.avR)) (fun _ => by simp only [List.map, aB.av_eq]; rfl) <| sn <| sj <| sj <| sn ?_
 refine cQ.img (fun x : ((List aB) × Int) => St.of [⟨3, AV.list 5 (x.1.map aB.avR), some 0⟩, ⟨4, ii x.2, none⟩] [] [1]) lT (([a0] : List aB), (0 : Int)) h ?_ ?_
 ·exact W
 intro n1 x y1 h hl1 hr1
 obtain ⟨s1, s2⟩ := x
 unfold lT at h
 dsimp only at h
 refine sj <| sj <| aF.to (ii (s1.length : Int)) (fun _ => bD aB.avR s1) <| sn ?_
 refine Br.of h (fun ht h => ?_) fun ht h => ?_
 ·refine sn <| sj <| sj <| sj <| aD h fun x3 hx3 h => ?_
  refine ai rfl (xi (aB.av x3) (ai (fun hg => aB.av_eq x3 ▸ c4 _ hx3) ?_))
  refine aF.to (ii (x3.Kids.length : Int)) (fun _ => bD aB.avR x3.Kids) <| aF.to (ii (s1.length : Int)) (fun _ => bD aB.avR s1) <| sn ?_
  refine Br.of h (fun ht h => ?_) fun ht h => ?_
  ·exact W
  ·refine sn <| aD h fun x4 hx4 h => ?_
   refine ai rfl (xi (aB.av x4) (ai (fun hg => aB.av_eq x4 ▸ c4 _ hx4) ?_))
   exact W
 ·exact W⟩
instance aAp (E : Pm.Env) [aJ E] (a0 : aB) : Ok E (tB a0) (fun r => FnR E Tryz.prog 68 [aB.av a0] (bb r) false) := ⟨fun r h => by
 refine FnR.of_ev (T := T) (rows := []) tOk mixed Tryz.func68 rfl (by kernel_rfl) (by kernel_rfl) rfl fun hwf => ?_
 unfold tB at h
 exact W⟩
theorem aAN (E : Pm.Env) [aJ E] (aNk : aB -> Option Int) (aNw : ∀ (E : Pm.Env) [aJ E] (a0 : aB) (r : Int) (h : aNk a0 = some r), FnR E Tryz.prog 45 [aB.av a0] (ii r) false) (a0 : aB) (r : Int) (h : oR aNk a0 = some r) : FnR E Tryz.prog 45 [aB.av a0] (ii r) false := by
 refine FnR.of_ev (T := T) (rows := []) tOk mixed Tryz.func45 rfl (by kernel_rfl) (by kernel_rfl) rfl fun hwf => ?_
 unfold oR at h
 refine sj <| ai rfl <| sn <| sj <| sn <| aD h fun j1 hj1 h => ?_
 refine SeqJ.join (St.of [⟨1, AV.ptr 0 0, none⟩, ⟨3, ii j1, none⟩] [.cells 26 (aB.cells a0) []] []) ?_ ?_
 ·clear h; have h := hj1; clear hj1
  refine sj <| aF.to (ii (a0.Kids.length : Int)) (fun _ => bD aB.avR a0.Kids) <| sn ?_
  refine cQ.img (fun x : (Int × Int) => St.of [⟨1, AV.ptr 0 0, none⟩, ⟨3, ii x.1, none⟩, ⟨8, AV.list 5 (a0.Kids.map aB.avR), none⟩, ⟨9, ii (a0.Kids.length : Int), none⟩, ⟨10, ii x.2, none⟩] [.cells 26 (aB.cells a0) []] []) (kB aNk a0) ((0 : Int), (0 : Int)) h ?_ ?_
  ·exact W
  intro n1 x y1 h hl1 hr1
  obtain ⟨s2, s3⟩ := x
  unfold kB at h
  dsimp only at h
  refine sj <| sn <| sj ?_
  refine Br.of h (fun ht h => ?_) fun ht h => ?_
  ·refine sn <| sj <| sj <| aD h fun x4 hx4 h => ?_
   refine ai rfl (xi (aB.av x4) (ai (fun hg => aB.av_eq x4 ▸ c4 _ hx4) ?_))
   refine ai (lb rfl) <| aF.to (aB.av x4) (fun _ => rfl) <| ai rfl ?_
   refine ai ⟨rfl, rfl, rfl, lb rfl⟩ (xi (aB.cells x4) (ai (fun _ => rfl) ?_))
   refine sn <| sj <| ai ⟨lb rfl, lb rfl⟩ <| aF.to (aB.av x4) (fun _ => rfl) <| aD h fun x5 hx5 h => aL.data _ false rfl (aNw E x4 x5 hx5) <| sn <| sj <| sj <| ai ⟨lb rfl, lb rfl⟩ <| aF.to (aB.av x4) (fun _ => rfl) <| aD h fun x6 hx6 h => aL.data _ false rfl ((aAp E x4).1 x6 hx6) <| sn ?_
   exact W
  ·exact W
 ·clear hj1
  exact W
theorem aAO (n : Nat) : ∀ (E : Pm.Env) [aJ E] (a0 : aB) (r : Int) (h : kC n a0 = some r), FnR E Tryz.prog 45 [aB.av a0] (ii r) false := by
 induction n with
 | zero => intro E _ a0 r h; cases (show none = some _ from h)
 | succ n ih => intro E _ a0 r h; exact aAN E (kC n) ih a0 r h
theorem xG (E : Pm.Env) [aJ E] (a0 : aB) (r : Int) (h : sG a0 = some r) : FnR E Tryz.prog 45 [aB.av a0] (ii r) false := aAO 1000000 E a0 r h
instance aJp (E : Pm.Env) [aJ E] (a0 : aA) : Ok E (p9 a0) (fun r => FnR E Tryz.prog 23 [ss a0] (AV.tup [aB.av r.1, ii r.2]) false) := ⟨fun r h => by
 refine FnR.of_ev (T := T) (rows := []) tOk mixed Tryz.func23 rfl (by kernel_rfl) (by kernel_rfl) rfl fun hwf => ?_
 unfold p9 at h
 refine sj <| ai rfl <| sn <| sj <| sj <| aF.same <| sn ?_
 refine Br.of h (fun ht h => ?_) fun ht h => ?_
 ·refine sj ?_
  refine xi (some 31) (ai (okM.mk (show (31 : Nat) = nV T _ _ _ from by kernel_rfl)) ?_)
  exact W
 ·refine sn <| sj <| ai ⟨rfl, rfl, lb rfl⟩ ?_
  refine xi none (ai trivial ?_)
  refine ai rfl <| sn <| sj <| aD h fun x1 hx1 h => aL.ren [1] [] [.cells 26 [ii 0, ii 0, ss [], ss [], AV.list 5 (([] : List aB).map aB.avR)] [(4, 0)], .cells 72 (aC.cells x1.2) []] [2] (wC E (aC.mk a0 false) x1.1 x1.2 hx1) rfl rfl rfl rfl rfl rfl rfl rfl rfl <| ai rfl ?_
  refine ai ⟨rfl, rfl, rfl, lb rfl⟩ (xi (aB.cells x1.1) (ai (fun _ => rfl) ?_))
  refine sn <| sj <| aD h fun x2 hx2 h => aL.ren [1] [] [.cells 26 [ii 0, ii 0, ss [], ss [], AV.list 5 (([] : List aB).map aB.avR)] [(4, 0)], .cells 72 (aC.cells x2.2) [], .cells 26 (aB.cells x1.1) []] [2, 2] (kJ E x1.2 x2.1 x2.2 hx2) rfl rfl rfl rfl rfl rfl rfl rfl rfl <| sn <| sj <| sj <| ai id <| ai id <| ai id <| ai id <| ai (fun hg => (iP hg)) <| sn ?_
  refine Br.of h (fun ht h => ?_) fun ht h => ?_
  ·refine sj ?_
   refine xi (some 31) (ai (okM.mk (show (31 : Nat) = nV T _ _ _ from by kernel_rfl)) ?_)
   exact W
  ·refine sj <| ai ⟨lb rfl, lb rfl⟩ <| aF.to (aB.av x1.1) (fun _ => rfl) <| aD h fun x3 hx3 h => aL.data _ false rfl ((aAo E x1.1).1 x3 hx3) <| sn ?_
   refine Br.of h (fun ht h => ?_) fun ht h => ?_
   ·refine sj ?_
    refine xi (some 31) (ai (okM.mk (show (31 : Nat) = nV T _ _ _ from by kernel_rfl)) ?_)
    exact W
   ·refine sj <| ai ⟨lb rfl, lb rfl⟩ <| aF.to (aB.av x1.1) (fun _ => rfl) <| aD h fun x4 hx4 h => aL.data _ false rfl (xG E x1.1 x4 hx4) <| sn ?_
    refine Br.of h (fun ht h => ?_) fun ht h => ?_
    ·refine sj ?_
     refine xi (some 31) (ai (okM.mk (show (31 : Nat) = nV T _ _ _ from by kernel_rfl)) ?_)
     exact W
    ·exact W⟩
instance uO (E : Pm.Env) [aJ E] (a0 : aB) : Ok E (lU a0) (fun r => FnR E Tryz.prog 70 [aB.av a0] (bb r) false) := ⟨fun r h => by
 refine FnR.of_ev (T := T) (rows := []) tOk mixed Tryz.func70 rfl (by kernel_rfl) (by kernel_rfl) rfl fun hwf => ?_
 unfold lU at h
 exact W⟩
instance aJJ (E : Pm.Env) [aJ E] (a0 : aB) : Ok E (sH a0) (fun r => FnR E Tryz.prog 71 [aB.av a0] (bb r) false) := ⟨fun r h => by
 refine FnR.of_ev (T := T) (rows := []) tOk mixed Tryz.func71 rfl (by kernel_rfl) (by kernel_rfl) rfl fun hwf => ?_
 unfold sH at h
 exact W⟩
theorem kY (E : Pm.Env) [aJ E] (a0 : (List aB)) (a1 : FuncId) (a1c : List AV) (a1i : aB -> Option Bool) (a1h : ∀ (x0 : aB) (r : Bool), a1i x0 = some r -> FnR E Tryz.prog a1 ([aB.av x0] ++ a1c) (bb r) false) (a1p : a1c.all AV.puB = true) (r : Int) (h : cY a0 a1i = some r) : FnR E Tryz.prog 81 [AV.list 5 (a0.map aB.avR), AV.fn a1 [] a1c] (ii r) false := by
 refine FnR.of_ev (T := T) (rows := []) tOk mixed Tryz.func81 rfl (by kernel_rfl) (by kernel_rfl) rfl fun hwf => ?_
 unfold cY at h
 refine sj <| sn <| sj <| sj <| aF.to (ii (a0.length : Int)) (fun _ => bD aB.avR a0) <| sn ?_
 refine cQ.img (fun x : Int => St.of [⟨0, AV.list 5 (a0.map aB.avR), none⟩, ⟨1, AV.fn a1 [] a1c, none⟩, ⟨7, ii (a0.length : Int), none⟩, ⟨8, ii x, none⟩] [] []) (aV a0 a1i) (0 : Int) h ?_ ?_
 ·refine Gho.to _ _ _ [] ?_ ?_ ?_ rfl rfl ?_
  ·exact trivial
  ·exact rfl
  ·exact rfl
  ·exact ⟨rfl, rfl, trivial, rfl, (sT a1p _), trivial, rfl, rfl, trivial, rfl, rfl, trivial, trivial⟩
 intro n1 x y1 h hl1 hr1
 revert h; revert x; intro s1 h
 unfold aV at h
 refine sj <| sn <| sj ?_
 refine Br.of h (fun ht h => ?_) fun ht h => ?_
 ·refine sn <| sj <| sj <| sn <| sj <| aD h fun x2 hx2 h => ?_
  refine ai rfl (xi (aB.av x2) (ai (fun hg => aB.av_eq x2 ▸ c4 _ hx2) ?_))
  refine ai (lb rfl) <| aF.to (aB.av x2) (fun _ => rfl) <| aD h fun x3 hx3 h => aL.data _ false (wW rfl (aBh a1p)) (a1h x2 x3 hx3) <| sn ?_
  refine Br.of h (fun ht h => ?_) fun ht h => ?_
  ·exact W
  ·refine sn ?_
   replace h := oi h
   refine xi ⟨(n1, (IntKind.i64.wrap (s1 + (1 : Int)))), hl1 _ h.symm⟩ (ai (aPu _) ?_)
   refine Gho.to _ _ _ [] ?_ ?_ ?_ rfl rfl ?_
   ·exact W
   ·exact rfl
   ·exact rfl
   ·exact ⟨rfl, rfl, trivial, rfl, (sT a1p _), trivial, rfl, rfl, trivial, rfl, rfl, trivial, trivial⟩
 ·exact W
theorem dC (E : Pm.Env) [aJ E] (a0 : (List aB)) (a1 : FuncId) (a1c : List AV) (a1i : aB -> Option Bool) (a1h : ∀ (x0 : aB) (r : Bool), a1i x0 = some r -> FnR E Tryz.prog a1 ([aB.av x0] ++ a1c) (bb r) false) (a1p : a1c.all AV.puB = true) (r : Bool) (h : aM a0 a1i = some r) : FnR E Tryz.prog 55 [AV.list 5 (a0.map aB.avR), AV.fn a1 [] a1c] (bb r) false := by
 refine FnR.of_ev (T := T) (rows := []) tOk mixed Tryz.func55 rfl (by kernel_rfl) (by kernel_rfl) rfl fun hwf => ?_
 unfold aM at h
 refine sj <| sn <| sj <| aD h fun x1 hx1 h => aL.data _ false (and_tt' rfl (and_tt' (puD_fn a1p) rfl)) (kY E a0 a1 a1c a1i a1h a1p x1 hx1) <| sn ?_
 exact W
theorem aAP (E : Pm.Env) [aJ E] (aNh : aB -> Option Bool) (aNr : ∀ (E : Pm.Env) [aJ E] (a0 : aB) (r : Bool) (h : aNh a0 = some r), FnR E Tryz.prog 47 [aB.av a0] (bb r) false) (a0 : aB) (r : Bool) (h : nA aNh a0 = some r) : FnR E Tryz.prog 72 [aB.av a0] (bb r) false := by
 refine FnR.of_ev (T := T) (rows := []) tOk mixed Tryz.func72 rfl (by kernel_rfl) (by kernel_rfl) rfl fun hwf => ?_
 unfold nA at h
 refine sj <| ai rfl <| sn <| sj <| ai ⟨lb rfl, lb rfl⟩ <| aF.to (aB.av a0) (fun _ => rfl) <| aD h fun x1 hx1 h => aL.data _ false rfl (aNr E a0 x1 hx1) <| sn ?_
 exact W
theorem aAQ (E : Pm.Env) [aJ E] (aNh : aB -> Option Bool) (aNr : ∀ (E : Pm.Env) [aJ E] (a0 : aB) (r : Bool) (h : aNh a0 = some r), FnR E Tryz.prog 47 [aB.av a0] (bb r) false) (a0 : aB) (r : Bool) (h : oS aNh a0 = some r) : FnR E Tryz.prog 47 [aB.av a0] (bb r) false := by
 refine FnR.of_ev (T := T) (rows := []) tOk mixed Tryz.func47 rfl (by kernel_rfl) (by kernel_rfl) rfl fun hwf => ?_
 unfold oS at h
 refine sj <| ai rfl <| sn <| sj <| sj <| ai ⟨lb rfl, lb rfl⟩ <| aF.to (aB.av a0) (fun _ => rfl) <| aD h fun x1 hx1 h => aL.data _ false rfl ((uO E a0).1 x1 hx1) <| sn ?_
 refine Br.of h (fun ht h => ?_) fun ht h => ?_
 ·exact W
 ·refine sn <| sj <| sj <| ai id <| ai id <| ai (fun hg => (iP hg)) <| ai id <| aD h fun x3 hx3 h => ai id <| ai rfl ?_
  refine oG.mk _ false (fun hg => dC E a0.Kids 72 [] (fun x0 => nA aNh x0) (fun x0 r h => aAP E aNh aNr x0 r h) rfl x3 (dF hx3 hg)) (ai rfl ?_)
  refine ai (fun hg => (iP hg)) <| sn ?_
  refine Br.of h (fun ht h => ?_) fun ht h => ?_
  ·exact W
  ·refine sn <| sj <| aF.to (ii (a0.Kids.length : Int)) (fun _ => bD aB.avR a0.Kids) <| sn <| sj <| sj <| sn <| sj <| sn ?_
   refine Br.of h (fun ht h => ?_) fun ht h => ?_
   ·refine sj <| Or.inl <| aD h fun x4 hx4 h => aL.data _ true rfl ((wB E).1  x4 hx4) <| aD h fun x5 hx5 h => aL.data _ false rfl ((iM E x4 a0.Sign).1 x5 hx5) <| ai id <| ai (fun hg => (iP hg)) <| ai id <| aD h fun x6 hx6 h => ai id ?_
    refine ai rfl (xi (aB.av x6) (ai (fun hg => aB.av_eq x6 ▸ tQ _ hx6 hg) ?_))
    refine ai id <| ai (lb rfl) <| aF.to (aB.av x6) (fun _ => rfl) <| aD h fun x7 hx7 h => ai id <| ai rfl ?_
    refine oG.mk _ false (fun hg => (uO E x6).1 x7 (dF hx7 hg)) (ai rfl ?_)
    refine ai (fun hg => (iP hg)) <| ai id <| aD h fun x8 hx8 h => ai id ?_
    refine ai rfl (xi (aB.av x8) (ai (fun hg => aB.av_eq x8 ▸ tQ _ hx8 hg) ?_))
    exact W
   ·exact W
theorem aAR (n : Nat) : ∀ (E : Pm.Env) [aJ E] (a0 : aB) (r : Bool) (h : lV n a0 = some r), FnR E Tryz.prog 47 [aB.av a0] (bb r) false := by
 induction n with
 | zero => intro E _ a0 r h; cases (show none = some _ from h)
 | succ n ih => intro E _ a0 r h; exact aAQ E (lV n) ih a0 r h
theorem aDP (E : Pm.Env) [aJ E] (a0 : aB) (r : Bool) (h : yH a0 = some r) : FnR E Tryz.prog 47 [aB.av a0] (bb r) false := aAR 1000000 E a0 r h
instance aCA (E : Pm.Env) [aJ E] (a0 : aB) : Ok E (qA a0) (fun r => FnR E Tryz.prog 26 [aB.av a0] (bb r) false) := ⟨fun r h => by
 refine FnR.of_ev (T := T) (rows := []) tOk mixed Tryz.func26 rfl (by kernel_rfl) (by kernel_rfl) rfl fun hwf => ?_
 unfold qA at h
 refine sj <| ai rfl <| sn <| sj <| ai ⟨lb rfl, lb rfl⟩ <| aF.to (aB.av a0) (fun _ => rfl) <| aD h fun x1 hx1 h => aL.data _ false rfl ((aAo E a0).1 x1 hx1) <| ai ⟨lb rfl, lb rfl⟩ <| aF.to (aB.av a0) (fun _ => rfl) <| aD h fun x2 hx2 h => ai id <| ai rfl ?_
 refine oG.mk _ false (fun hg => aDP E a0 x2 (dF hx2 hg)) (ai rfl ?_)
 refine ai (fun hg => (iP hg)) <| ai ⟨lb rfl, lb rfl⟩ <| aF.to (aB.av a0) (fun _ => rfl) <| aD h fun x3 hx3 h => ai id <| ai rfl ?_
 refine oG.mk _ false (fun hg => xG E a0 x3 (dF hx3 hg)) (ai rfl ?_)
 refine ai id <| ai (fun hg => (iP hg)) <| sn ?_
 replace h := oi h
 refine RetE.plain ?_
 exact ai rfl (ai (congrArg (fun r : Bool => bb r) h) rfl)⟩
theorem sZ (E : Pm.Env) [aJ E] (aNd : aG -> aB -> Option Bool) (aNo : ∀ (E : Pm.Env) [aJ E] (a0 : aG) (a1 : aB) (r : Bool) (h : aNd a0 a1 = some r), FnR E Tryz.prog 34 [aG.av a0, aB.av a1] (bb r) false) (a0 : aB) (c0 : aG) (r : Bool) (h : iK aNd a0 c0 = some r) : FnR E Tryz.prog 54 [aB.av a0, AV.iptr (aG.cells c0)] (bb r) false := by
 refine FnR.of_ev (T := T) (rows := []) tOk mixed Tryz.func54 rfl (by kernel_rfl) (by kernel_rfl) rfl fun hwf => ?_
 unfold iK at h
 refine sj <| ai rfl <| sn <| sj <| ai (lb rfl) <| aF.to (aG.av c0) (fun _ => rfl) <| ai ⟨lb rfl, lb rfl⟩ <| aF.to (aB.av a0) (fun _ => rfl) <| aD h fun x1 hx1 h => aL.data _ false rfl (aNo E c0 a0 x1 hx1) <| sn ?_
 exact W
theorem aAq (E : Pm.Env) [aJ E] (aNd : aG -> aB -> Option Bool) (aNo : ∀ (E : Pm.Env) [aJ E] (a0 : aG) (a1 : aB) (r : Bool) (h : aNd a0 a1 = some r), FnR E Tryz.prog 34 [aG.av a0, aB.av a1] (bb r) false) (a0 : aB) (c0 : aG) (r : Bool) (h : lZ aNd a0 c0 = some r) : FnR E Tryz.prog 53 [aB.av a0, AV.iptr (aG.cells c0)] (bb r) false := by
 refine FnR.of_ev (T := T) (rows := []) tOk mixed Tryz.func53 rfl (by kernel_rfl) (by kernel_rfl) rfl fun hwf => ?_
 unfold lZ at h
 refine sj <| ai rfl <| sn <| sj <| ai (lb rfl) <| aF.to (aG.av c0) (fun _ => rfl) <| ai ⟨lb rfl, lb rfl⟩ <| aF.to (aB.av a0) (fun _ => rfl) <| aD h fun x1 hx1 h => aL.data _ false rfl (aNo E c0 a0 x1 hx1) <| sn ?_
 exact W
instance aJq (E : Pm.Env) [aJ E] (a0 : Int) : Ok E (nC a0) (fun r => FnR E Tryz.prog 69 [AV.int .u64 a0] (ss r) false) := ⟨fun r h => by
 refine FnR.of_ev (T := T) (rows := []) tOk mixed Tryz.func69 rfl (by kernel_rfl) (by kernel_rfl) rfl fun hwf => ?_
 unfold nC at h
 exact W⟩
theorem aAr (E : Pm.Env) [aJ E] (aNl : aB -> Option aA) (aNx : ∀ (E : Pm.Env) [aJ E] (a0 : aB) (r : aA) (h : aNl a0 = some r), FnR E Tryz.prog 46 [aB.av a0] (ss r) false) (a0 : aB) (r : aA) (h : nM aNl a0 = some r) : FnR E Tryz.prog 46 [aB.av a0] (ss r) false := by
 refine FnR.of_ev (T := T) (rows := []) tOk mixed Tryz.func46 rfl (by kernel_rfl) (by kernel_rfl) rfl fun hwf => ?_
 unfold nM at h
 refine sj <| ai rfl <| sn <| sj <| sn <| aD h fun j1 hj1 h => ?_
 refine SeqJ.join (St.of [⟨1, AV.ptr 0 0, none⟩, ⟨3, AV.list 1 (j1.map AV.str), some 0⟩] [.cells 26 (aB.cells a0) []] [1]) ?_ ?_
 ·clear h; have h := hj1; clear hj1
  refine sj <| aF.to (ii (a0.Kids.length : Int)) (fun _ => bD aB.avR a0.Kids) <| sn ?_
  refine cQ.img (fun x : ((List aA) × Int) => St.of [⟨1, AV.ptr 0 0, none⟩, ⟨3, AV.list 1 (x.1.map AV.str), some 0⟩, ⟨8, AV.list 5 (a0.Kids.map aB.avR), none⟩, ⟨9, ii (a0.Kids.length : Int), none⟩, ⟨10, ii x.2, none⟩] [.cells 26 (aB.cells a0) []] [1]) (mC aNl a0) (([] : List aA), (0 : Int)) h ?_ ?_
  ·exact W
  intro n1 x y1 h hl1 hr1
  obtain ⟨s2, s3⟩ := x
  unfold mC at h
  dsimp only at h
  refine sj <| sn <| sj ?_
  refine Br.of h (fun ht h => ?_) fun ht h => ?_
  ·refine sn <| sj <| sj <| aD h fun x4 hx4 h => ?_
   refine ai rfl (xi (aB.av x4) (ai (fun hg => aB.av_eq x4 ▸ c4 _ hx4) ?_))
   refine ai (lb rfl) <| aF.to (aB.av x4) (fun _ => rfl) <| ai rfl ?_
   refine ai ⟨rfl, rfl, rfl, lb rfl⟩ (xi (aB.cells x4) (ai (fun _ => rfl) ?_))
   refine sn <| sj <| ai ⟨lb rfl, lb rfl⟩ <| aF.to (aB.av x4) (fun _ => rfl) <| aD h fun x5 hx5 h => aL.data _ false rfl (aNx E x4 x5 hx5) <| sn <| sj <| sj <| ai ⟨lb rfl, lb rfl⟩ <| aF.to (aB.av x4) (fun _ => rfl) <| aD h fun x6 hx6 h => aL.data _ false rfl ((aAp E x4).1 x6 hx6) <| sn ?_
   exact W
  ·exact W
 ·clear hj1
  exact W
theorem aAs (n : Nat) : ∀ (E : Pm.Env) [aJ E] (a0 : aB) (r : aA) (h : kD n a0 = some r), FnR E Tryz.prog 46 [aB.av a0] (ss r) false := by
 induction n with
 | zero => intro E _ a0 r h; cases (show none = some _ from h)
 | succ n ih => intro E _ a0 r h; exact aAr E (kD n) ih a0 r h
theorem aCB (E : Pm.Env) [aJ E] (a0 : aB) (r : aA) (h : wD a0 = some r) : FnR E Tryz.prog 46 [aB.av a0] (ss r) false := aAs 1000000 E a0 r h
instance aCC (E : Pm.Env) [aJ E] (a0 : aG) (a1 : aB) : Ok E (kM a0 a1) (fun r => FnR E Tryz.prog 57 [aG.av a0, aB.av a1] (ss r) false) := ⟨fun r h => by
 refine FnR.of_ev (T := T) (rows := []) tOk mixed Tryz.func57 rfl (by kernel_rfl) (by kernel_rfl) rfl fun hwf => ?_
 unfold kM at h
 refine sj <| ai rfl <| ai rfl <| sn <| sj <| sj <| sn <| sj <| sn ?_
 refine Br.of h (fun ht h => ?_) fun ht h => ?_
 ·exact W
 ·refine sj <| sn ?_
  refine Br.of h (fun ht h => ?_) fun ht h => ?_
  ·exact W
  ·refine sn <| sj <| ai ⟨lb rfl, lb rfl⟩ <| aF.to (aB.av a1) (fun _ => rfl) <| aD h fun x2 hx2 h => aL.data _ false rfl (aCB E a1 x2 hx2) <| sn ?_
   replace h := oi h
   refine RetE.plain ?_
   exact ai rfl (ai (congrArg (fun r : aA => ss r) h) rfl)⟩
instance aIq (E : Pm.Env) [aJ E] (a0 : aA) (a1 : aA) : Ok E (l0 a0 a1) (fun r => FnR E Tryz.prog 56 [ss a0, ss a1] (ii r) false) := ⟨fun r h => by
 refine FnR.of_ev (T := T) (rows := []) tOk mixed Tryz.func56 rfl (by kernel_rfl) (by kernel_rfl) rfl fun hwf => ?_
 unfold l0 at h
 exact W⟩
theorem aAt (E : Pm.Env) [aJ E] (aNd : aG -> aB -> Option Bool) (aNo : ∀ (E : Pm.Env) [aJ E] (a0 : aG) (a1 : aB) (r : Bool) (h : aNd a0 a1 = some r), FnR E Tryz.prog 34 [aG.av a0, aB.av a1] (bb r) false) (a0 : aG) (a1 : aB) (r : Bool) (h : nN aNd a0 a1 = some r) : FnR E Tryz.prog 34 [aG.av a0, aB.av a1] (bb r) false := by
 refine FnR.of_ev (T := T) (rows := []) tOk mixed Tryz.func34 rfl (by kernel_rfl) (by kernel_rfl) rfl fun hwf => ?_
 unfold nN at h
 refine sj <| ai rfl <| ai rfl ?_
 refine SeqN.via (St.of [⟨2, AV.iptr (aG.cells a0), none⟩, ⟨3, AV.ptr 1 0, none⟩] [.dead, .cells 26 (aB.cells a1) []] []) ?_ ?_
 ·refine Gho.trans (Gho.fz [0] [(2, AV.iptr (aG.cells a0))] ⟨Frz.ptrD rfl rfl (lb rfl), trivial⟩) ?_
  exact W
 refine sj <| sn <| sj <| sn <| sj <| sj <| sn <| sj <| sn ?_
 refine Br.of h (fun ht h => ?_) fun ht h => ?_
 ·exact W
 ·refine sj <| sn ?_
  refine Br.of h (fun ht h => ?_) fun ht h => ?_
  ·refine sj <| aD h fun x1 hx1 h => ?_
   refine ai rfl (xi (aB.av x1) (ai (fun hg => aB.av_eq x1 ▸ c4 _ hx1) ?_))
   refine ai (lb rfl) <| aF.to (aB.av x1) (fun _ => rfl) <| aD h fun x2 hx2 h => aL.data _ false rfl (sZ E aNd aNo x1 a0 x2 hx2) <| sn ?_
   exact W
  ·refine sj <| sn ?_
   refine Br.of h (fun ht h => ?_) fun ht h => ?_
   ·refine sj <| aD h fun x3 hx3 h => aL.data _ false rfl (dC E a1.Kids 54 [AV.iptr (aG.cells a0)] (fun x0 => iK aNd x0 a0) (fun x0 r h => sZ E aNd aNo x0 a0 r h) rfl x3 hx3) <| sn ?_
    exact W
   ·refine sj <| sn ?_
    refine Br.of h (fun ht h => ?_) fun ht h => ?_
    ·refine sj <| aD h fun x4 hx4 h => aL.data _ false rfl (dC E a1.Kids 53 [AV.iptr (aG.cells a0)] (fun x0 => lZ aNd x0 a0) (fun x0 r h => aAq E aNd aNo x0 a0 r h) rfl x4 hx4) <| sn ?_
     exact W
    ·refine sj <| sn ?_
     refine Br.of h (fun ht h => ?_) fun ht h => ?_
     ·refine sj <| Or.inl <| ai (lb rfl) <| aF.to (aG.av a0) (fun _ => rfl) <| aD h fun x5 hx5 h => ?_
      refine ai rfl (xi (aB.av x5) (ai (fun hg => aB.av_eq x5 ▸ c4 _ hx5) ?_))
      refine ai (lb rfl) <| aF.to (aB.av x5) (fun _ => rfl) <| aD h fun x6 hx6 h => aL.data _ false rfl ((aCC E a0 x5).1 x6 hx6) <| ai (lb rfl) <| aF.to (aG.av a0) (fun _ => rfl) <| aD h fun x7 hx7 h => ?_
      refine ai rfl (xi (aB.av x7) (ai (fun hg => aB.av_eq x7 ▸ c4 _ hx7) ?_))
      exact W
     ·exact W
theorem aAu (n : Nat) : ∀ (E : Pm.Env) [aJ E] (a0 : aG) (a1 : aB) (r : Bool) (h : iL n a0 a1 = some r), FnR E Tryz.prog 34 [aG.av a0, aB.av a1] (bb r) false := by
 induction n with
 | zero => intro E _ a0 a1 r h; cases (show none = some _ from h)
 | succ n ih => intro E _ a0 a1 r h; exact aAt E (iL n) ih a0 a1 r h
theorem aCD (E : Pm.Env) [aJ E] (a0 : aG) (a1 : aB) (r : Bool) (h : wE a0 a1 = some r) : FnR E Tryz.prog 34 [aG.av a0, aB.av a1] (bb r) false := aAu 1000000 E a0 a1 r h
instance aDQ (E : Pm.Env) [aJ E] (a0 : aG) (a1 : aB) : Ok E (nO a0 a1) (fun r => FnR E Tryz.prog 15 [aG.av a0, aB.av a1] (AV.tup [bb r.1, ii r.2]) false) := ⟨fun r h => by
 refine FnR.of_ev (T := T) (rows := []) tOk mixed Tryz.func15 rfl (by kernel_rfl) (by kernel_rfl) rfl fun hwf => ?_
 unfold nO at h
 refine sj <| ai rfl <| ai rfl <| sn <| sj <| sj <| ai ⟨lb rfl, lb rfl⟩ <| aF.to (aB.av a1) (fun _ => rfl) <| aD h fun x1 hx1 h => aL.data _ false rfl ((aCA E a1).1 x1 hx1) <| sn ?_
 refine Br.of h (fun ht h => ?_) fun ht h => ?_
 ·exact W
 ·refine sn <| sj <| ai ⟨lb rfl, lb rfl⟩ <| aF.to (aG.av a0) (fun _ => rfl) <| ai ⟨lb rfl, lb rfl⟩ <| aF.to (aB.av a1) (fun _ => rfl) <| aD h fun x2 hx2 h => aL.data _ false rfl (aCD E a0 a1 x2 hx2) <| sn ?_
  replace h := oi h
  refine RetE.plain ?_
  exact ai rfl (ai (congrArg (fun r : (Bool × Int) => AV.tup [bb r.1, ii r.2]) h) rfl)⟩
instance aDR (E : Pm.Env) [aJ E] (a0 : aG) (a1 : aA) : Ok E (mD a0 a1) (fun r => FnR E Tryz.prog 12 [aG.av a0, ss a1] (AV.tup [bb r.1, ii r.2]) false) := ⟨fun r h => by
 refine FnR.of_ev (T := T) (rows := []) tOk mixed Tryz.func12 rfl (by kernel_rfl) (by kernel_rfl) rfl fun hwf => ?_
 unfold mD at h
 exact W⟩
instance mR (E : Pm.Env) [aJ E] (a0 : aB) : Ok E (d4 a0) (fun r => FnR E Tryz.prog 31 [aB.av a0] (bb r) false) := ⟨fun r h => by
 refine FnR.of_ev (T := T) (rows := []) tOk mixed Tryz.func31 rfl (by kernel_rfl) (by kernel_rfl) rfl fun hwf => ?_
 unfold d4 at h
 exact W⟩
instance mS (E : Pm.Env) [aJ E] (a0 : Int) (a1 : Int) : Ok E (d5 a0 a1) (fun r => FnR E Tryz.prog 48 [AV.int .u64 a0, AV.int .u64 a1] (ss r) false) := ⟨fun r h => by
 refine FnR.of_ev (T := T) (rows := []) tOk mixed Tryz.func48 rfl (by kernel_rfl) (by kernel_rfl) rfl fun hwf => ?_
 unfold d5 at h
 refine sj <| sn <| sj <| sn <| aD h fun j1 hj1 h => ?_
 refine SeqJ.join (St.of [⟨5, ss j1, none⟩] [] []) ?_ ?_
 ·clear h; have h := hj1; clear hj1
  refine cQ.img (fun x : (Int × aA) => St.of [⟨0, AV.int .u64 x.1, none⟩, ⟨1, AV.int .u64 a1, none⟩, ⟨5, ss x.2, none⟩] [] []) (eX a1) (a0, ([] : aA)) h ?_ ?_
  ·exact W
  intro n1 x y1 h hl1 hr1
  obtain ⟨s2, s3⟩ := x
  unfold eX at h
  dsimp only at h
  exact W
 ·clear hj1
  exact W⟩
theorem qQ (E : Pm.Env) [aJ E] (aNc : aB -> Option aA) (aNe : ∀ (E : Pm.Env) [aJ E] (a0 : aB) (r : aA) (h : aNc a0 = some r), FnR E Tryz.prog 27 [aB.av a0] (ss r) false) (a0 : aB) (r : aA) (h : f5 aNc a0 = some r) : FnR E Tryz.prog 27 [aB.av a0] (ss r) false := by
 refine FnR.of_ev (T := T) (rows := []) tOk mixed Tryz.func27 rfl (by kernel_rfl) (by kernel_rfl) rfl fun hwf => ?_
 unfold f5 at h
 refine sj <| ai rfl <| sn <| sj <| sj <| ai id <| ai id <| ai (fun hg => (iP hg)) <| sn ?_
 refine Br.of h (fun ht h => ?_) fun ht h => ?_
 ·refine sj <| aD h fun x1 hx1 h => aL.data _ false rfl ((mS E (IntKind.u64.wrap (IntKind.i64.wrap ((0 : Int) - a0.N))) (10 : Int)).1 x1 hx1) <| aD h fun x2 hx2 h => ?_
  have hx2c := (aI hx2).1
  have hx2e := (aI hx2).2
  refine ai (fun _ => hx2c) <| aF.to (ss x2) (fun _ => congrArg ss hx2e.symm) <| sn ?_
  replace h := oi h
  refine RetE.plain ?_
  subst h; exact ai rfl (ai rfl rfl)
 ·refine sn <| sj <| sj <| sn ?_
  refine Br.of h (fun ht h => ?_) fun ht h => ?_
  ·refine sj <| aD h fun x3 hx3 h => aL.data _ false rfl ((mS E (IntKind.u64.wrap a0.N) (10 : Int)).1 x3 hx3) <| sn ?_
   replace h := oi h
   refine RetE.plain ?_
   subst h; exact ai rfl (ai rfl rfl)
  ·refine sn <| sj <| sj <| sn ?_
   refine Br.of h (fun ht h => ?_) fun ht h => ?_
   ·refine sj <| aD h fun x4 hx4 h => ?_
    have hx4c := (aI hx4).1
    have hx4e := (aI hx4).2
    refine ai (fun _ => hx4c) <| aF.to (ss x4) (fun _ => congrArg ss hx4e.symm) <| aD h fun x5 hx5 h => ?_
    have hx5c := (aI hx5).1
    have hx5e := (aI hx5).2
    refine ai (fun _ => hx5c) <| aF.to (ss x5) (fun _ => congrArg ss hx5e.symm) <| sn ?_
    replace h := oi h
    refine RetE.plain ?_
    subst h; exact ai rfl (ai rfl rfl)
   ·refine sn <| sj <| sj <| sn ?_
    refine Br.of h (fun ht h => ?_) fun ht h => ?_
    ·refine sj <| sn ?_
     replace h := oi h
     refine RetE.plain ?_
     subst h; exact ai rfl (ai rfl rfl)
    ·refine sn <| sj <| sn <| sj <| sj <| sn ?_
     refine Br.of h (fun ht h => ?_) fun ht h => ?_
     ·refine sn <| sj <| sj <| sn ?_
      refine Br.of h (fun ht h => ?_) fun ht h => ?_
      ·refine sn <| sj <| sn <| aD h fun j6 hj6 h => ?_
       refine SeqJ.join (St.of [⟨1, AV.ptr 0 0, none⟩, ⟨4, ss j6, none⟩] [.cells 26 (aB.cells a0) []] []) ?_ ?_
       ·clear h; have h := hj6; clear hj6
        refine sj <| aF.to (ii (a0.Kids.length : Int)) (fun _ => bD aB.avR a0.Kids) <| sn ?_
        refine cQ.img (fun x : (aA × Int) => St.of [⟨1, AV.ptr 0 0, none⟩, ⟨3, ss ([124] : aA), none⟩, ⟨4, ss x.1, none⟩, ⟨49, AV.list 5 (a0.Kids.map aB.avR), none⟩, ⟨50, ii (a0.Kids.length : Int), none⟩, ⟨51, ii x.2, none⟩] [.cells 26 (aB.cells a0) []] []) (jO aNc a0) (([] : aA), (0 : Int)) h ?_ ?_
        ·refine Gho.to _ _ _ [] ?_ ?_ ?_ rfl rfl ?_
         ·exact ⟨⟨rfl, rfl, rfl⟩, trivial⟩
         ·exact rfl
         ·exact rfl
         ·exact tr3 <| tr3 <| tr3 <| tr3 <| tr3 <| tr3 <| trivial
        intro n1 x y1 h hl1 hr1
        obtain ⟨s7, s8⟩ := x
        unfold jO at h
        dsimp only at h
        refine sj <| sn <| sj ?_
        refine Br.of h (fun ht h => ?_) fun ht h => ?_
        ·refine sn <| sj <| sj <| aD h fun x9 hx9 h => ?_
         refine ai rfl (xi (aB.av x9) (ai (fun hg => aB.av_eq x9 ▸ c4 _ hx9) ?_))
         refine ai (lb rfl) <| aF.to (aB.av x9) (fun _ => rfl) <| ai rfl ?_
         refine ai ⟨rfl, rfl, rfl, lb rfl⟩ (xi (aB.cells x9) (ai (fun _ => rfl) ?_))
         refine sn <| sj <| sj <| sn ?_
         refine Br.of h (fun ht h => ?_) fun ht h => ?_
         ·refine aD h fun x10 hx10 h => ?_
          have hx10c := (aI hx10).1
          have hx10e := (aI hx10).2
          refine ai (fun _ => hx10c) <| aF.to (ss x10) (fun _ => congrArg ss hx10e.symm) <| sn <| sj <| ai ⟨lb rfl, lb rfl⟩ <| aF.to (aB.av x9) (fun _ => rfl) <| aD h fun x11 hx11 h => aL.data _ false rfl ((cM E x9).1 x11 hx11) <| sn ?_
          refine Br.of h (fun ht h => ?_) fun ht h => ?_
          ·refine aD h fun x12 hx12 h => ?_
           have hx12c := (aI hx12).1
           have hx12e := (aI hx12).2
           refine ai (fun _ => hx12c) <| aF.to (ss x12) (fun _ => congrArg ss hx12e.symm) <| ai ⟨lb rfl, lb rfl⟩ <| aF.to (aB.av x9) (fun _ => rfl) <| aD h fun x13 hx13 h => aL.data _ false rfl (aNe E x9 x13 hx13) <| aD h fun x14 hx14 h => ?_
           have hx14c := (aI hx14).1
           have hx14e := (aI hx14).2
           refine ai (fun _ => hx14c) <| aF.to (ss x14) (fun _ => congrArg ss hx14e.symm) <| aD h fun x15 hx15 h => ?_
           have hx15c := (aI hx15).1
           have hx15e := (aI hx15).2
           refine ai (fun _ => hx15c) <| aF.to (ss x15) (fun _ => congrArg ss hx15e.symm) <| sn ?_
           replace h := oi h
           refine xi ⟨(n1, (x15, (IntKind.i64.wrap (s8 + (1 : Int))))), hl1 _ h.symm⟩ (ai (aPu _) ?_)
           refine Gho.to _ _ _ [] ?_ ?_ ?_ rfl rfl ?_
           ·exact ⟨⟨rfl, rfl, rfl⟩, trivial⟩
           ·exact rfl
           ·exact rfl
           ·exact tr3 <| tr3 <| tr3 <| tr3 <| tr3 <| tr3 <| trivial
          ·refine ai ⟨lb rfl, lb rfl⟩ <| aF.to (aB.av x9) (fun _ => rfl) <| aD h fun x16 hx16 h => aL.data _ false rfl (aNe E x9 x16 hx16) <| aD h fun x17 hx17 h => ?_
           have hx17c := (aI hx17).1
           have hx17e := (aI hx17).2
           refine ai (fun _ => hx17c) <| aF.to (ss x17) (fun _ => congrArg ss hx17e.symm) <| sn ?_
           replace h := oi h
           refine xi ⟨(n1, (x17, (IntKind.i64.wrap (s8 + (1 : Int))))), hl1 _ h.symm⟩ (ai (aPu _) ?_)
           refine Gho.to _ _ _ [] ?_ ?_ ?_ rfl rfl ?_
           ·exact ⟨⟨rfl, rfl, rfl⟩, trivial⟩
           ·exact rfl
           ·exact rfl
           ·exact tr3 <| tr3 <| tr3 <| tr3 <| tr3 <| tr3 <| trivial
         ·refine sn <| sj <| ai ⟨lb rfl, lb rfl⟩ <| aF.to (aB.av x9) (fun _ => rfl) <| aD h fun x18 hx18 h => aL.data _ false rfl ((cM E x9).1 x18 hx18) <| sn ?_
          refine Br.of h (fun ht h => ?_) fun ht h => ?_
          ·refine aD h fun x19 hx19 h => ?_
           have hx19c := (aI hx19).1
           have hx19e := (aI hx19).2
           refine ai (fun _ => hx19c) <| aF.to (ss x19) (fun _ => congrArg ss hx19e.symm) <| ai ⟨lb rfl, lb rfl⟩ <| aF.to (aB.av x9) (fun _ => rfl) <| aD h fun x20 hx20 h => aL.data _ false rfl (aNe E x9 x20 hx20) <| aD h fun x21 hx21 h => ?_
           have hx21c := (aI hx21).1
           have hx21e := (aI hx21).2
           refine ai (fun _ => hx21c) <| aF.to (ss x21) (fun _ => congrArg ss hx21e.symm) <| aD h fun x22 hx22 h => ?_
           have hx22c := (aI hx22).1
           have hx22e := (aI hx22).2
           refine ai (fun _ => hx22c) <| aF.to (ss x22) (fun _ => congrArg ss hx22e.symm) <| sn ?_
           replace h := oi h
           refine xi ⟨(n1, (x22, (IntKind.i64.wrap (s8 + (1 : Int))))), hl1 _ h.symm⟩ (ai (aPu _) ?_)
           refine Gho.to _ _ _ [] ?_ ?_ ?_ rfl rfl ?_
           ·exact ⟨⟨rfl, rfl, rfl⟩, trivial⟩
           ·exact rfl
           ·exact rfl
           ·exact tr3 <| tr3 <| tr3 <| tr3 <| tr3 <| tr3 <| trivial
          ·refine ai ⟨lb rfl, lb rfl⟩ <| aF.to (aB.av x9) (fun _ => rfl) <| aD h fun x23 hx23 h => aL.data _ false rfl (aNe E x9 x23 hx23) <| aD h fun x24 hx24 h => ?_
           have hx24c := (aI hx24).1
           have hx24e := (aI hx24).2
           refine ai (fun _ => hx24c) <| aF.to (ss x24) (fun _ => congrArg ss hx24e.symm) <| sn ?_
           replace h := oi h
           refine xi ⟨(n1, (x24, (IntKind.i64.wrap (s8 + (1 : Int))))), hl1 _ h.symm⟩ (ai (aPu _) ?_)
           refine Gho.to _ _ _ [] ?_ ?_ ?_ rfl rfl ?_
           ·exact ⟨⟨rfl, rfl, rfl⟩, trivial⟩
           ·exact rfl
           ·exact rfl
           ·exact tr3 <| tr3 <| tr3 <| tr3 <| tr3 <| tr3 <| trivial
        ·replace h := oi h
         replace h := hr1 _ h.symm
         subst h
         refine Gho.to _ _ _ [] ?_ ?_ ?_ rfl rfl ?_
         ·exact ⟨⟨rfl, rfl, rfl⟩, trivial⟩
         ·exact rfl
         ·exact rfl
         ·exact tr3 <| tr3 <| trivial
       ·clear hj6
        refine sj <| sj <| sn ?_
        refine Br.of h (fun ht h => ?_) fun ht h => ?_
        ·refine sj <| aD h fun x25 hx25 h => ?_
         have hx25c := (aI hx25).1
         have hx25e := (aI hx25).2
         refine ai (fun _ => hx25c) <| aF.to (ss x25) (fun _ => congrArg ss hx25e.symm) <| sn ?_
         replace h := oi h
         refine RetE.plain ?_
         subst h; exact ai rfl (ai rfl rfl)
        ·refine sn <| sj <| sn ?_
         replace h := oi h
         refine RetE.plain ?_
         subst h; exact ai rfl (ai rfl rfl)
      ·refine sn <| sj <| sn <| aD h fun j26 hj26 h => ?_
       refine SeqJ.join (St.of [⟨1, AV.ptr 0 0, none⟩, ⟨4, ss j26, none⟩] [.cells 26 (aB.cells a0) []] []) ?_ ?_
       ·clear h; have h := hj26; clear hj26
        refine sj <| aF.to (ii (a0.Kids.length : Int)) (fun _ => bD aB.avR a0.Kids) <| sn ?_
        refine cQ.img (fun x : (aA × Int) => St.of [⟨1, AV.ptr 0 0, none⟩, ⟨3, ss ([38] : aA), none⟩, ⟨4, ss x.1, none⟩, ⟨49, AV.list 5 (a0.Kids.map aB.avR), none⟩, ⟨50, ii (a0.Kids.length : Int), none⟩, ⟨51, ii x.2, none⟩] [.cells 26 (aB.cells a0) []] []) (jP aNc a0) (([] : aA), (0 : Int)) h ?_ ?_
        ·refine Gho.to _ _ _ [] ?_ ?_ ?_ rfl rfl ?_
         ·exact ⟨⟨rfl, rfl, rfl⟩, trivial⟩
         ·exact rfl
         ·exact rfl
         ·exact tr3 <| tr3 <| tr3 <| tr3 <| tr3 <| tr3 <| trivial
        intro n2 x y2 h hl2 hr2
        obtain ⟨s27, s28⟩ := x
        unfold jP at h
        dsimp only at h
        refine sj <| sn <| sj ?_
        refine Br.of h (fun ht h => ?_) fun ht h => ?_
        ·refine sn <| sj <| sj <| aD h fun x29 hx29 h => ?_
         refine ai rfl (xi (aB.av x29) (ai (fun hg => aB.av_eq x29 ▸ c4 _ hx29) ?_))
         refine ai (lb rfl) <| aF.to (aB.av x29) (fun _ => rfl) <| ai rfl ?_
         refine ai ⟨rfl, rfl, rfl, lb rfl⟩ (xi (aB.cells x29) (ai (fun _ => rfl) ?_))
         refine sn <| sj <| sj <| sn ?_
         refine Br.of h (fun ht h => ?_) fun ht h => ?_
         ·refine aD h fun x30 hx30 h => ?_
          have hx30c := (aI hx30).1
          have hx30e := (aI hx30).2
          refine ai (fun _ => hx30c) <| aF.to (ss x30) (fun _ => congrArg ss hx30e.symm) <| sn <| sj <| ai ⟨lb rfl, lb rfl⟩ <| aF.to (aB.av x29) (fun _ => rfl) <| aD h fun x31 hx31 h => aL.data _ false rfl ((cM E x29).1 x31 hx31) <| sn ?_
          refine Br.of h (fun ht h => ?_) fun ht h => ?_
          ·refine aD h fun x32 hx32 h => ?_
           have hx32c := (aI hx32).1
           have hx32e := (aI hx32).2
           refine ai (fun _ => hx32c) <| aF.to (ss x32) (fun _ => congrArg ss hx32e.symm) <| ai ⟨lb rfl, lb rfl⟩ <| aF.to (aB.av x29) (fun _ => rfl) <| aD h fun x33 hx33 h => aL.data _ false rfl (aNe E x29 x33 hx33) <| aD h fun x34 hx34 h => ?_
           have hx34c := (aI hx34).1
           have hx34e := (aI hx34).2
           refine ai (fun _ => hx34c) <| aF.to (ss x34) (fun _ => congrArg ss hx34e.symm) <| aD h fun x35 hx35 h => ?_
           have hx35c := (aI hx35).1
           have hx35e := (aI hx35).2
           refine ai (fun _ => hx35c) <| aF.to (ss x35) (fun _ => congrArg ss hx35e.symm) <| sn ?_
           replace h := oi h
           refine xi ⟨(n2, (x35, (IntKind.i64.wrap (s28 + (1 : Int))))), hl2 _ h.symm⟩ (ai (aPu _) ?_)
           refine Gho.to _ _ _ [] ?_ ?_ ?_ rfl rfl ?_
           ·exact ⟨⟨rfl, rfl, rfl⟩, trivial⟩
           ·exact rfl
           ·exact rfl
           ·exact tr3 <| tr3 <| tr3 <| tr3 <| tr3 <| tr3 <| trivial
          ·refine ai ⟨lb rfl, lb rfl⟩ <| aF.to (aB.av x29) (fun _ => rfl) <| aD h fun x36 hx36 h => aL.data _ false rfl (aNe E x29 x36 hx36) <| aD h fun x37 hx37 h => ?_
           have hx37c := (aI hx37).1
           have hx37e := (aI hx37).2
           refine ai (fun _ => hx37c) <| aF.to (ss x37) (fun _ => congrArg ss hx37e.symm) <| sn ?_
           replace h := oi h
           refine xi ⟨(n2, (x37, (IntKind.i64.wrap (s28 + (1 : Int))))), hl2 _ h.symm⟩ (ai (aPu _) ?_)
           refine Gho.to _ _ _ [] ?_ ?_ ?_ rfl rfl ?_
           ·exact ⟨⟨rfl, rfl, rfl⟩, trivial⟩
           ·exact rfl
           ·exact rfl
           ·exact tr3 <| tr3 <| tr3 <| tr3 <| tr3 <| tr3 <| trivial
         ·refine sn <| sj <| ai ⟨lb rfl, lb rfl⟩ <| aF.to (aB.av x29) (fun _ => rfl) <| aD h fun x38 hx38 h => aL.data _ false rfl ((cM E x29).1 x38 hx38) <| sn ?_
          refine Br.of h (fun ht h => ?_) fun ht h => ?_
          ·refine aD h fun x39 hx39 h => ?_
           have hx39c := (aI hx39).1
           have hx39e := (aI hx39).2
           refine ai (fun _ => hx39c) <| aF.to (ss x39) (fun _ => congrArg ss hx39e.symm) <| ai ⟨lb rfl, lb rfl⟩ <| aF.to (aB.av x29) (fun _ => rfl) <| aD h fun x40 hx40 h => aL.data _ false rfl (aNe E x29 x40 hx40) <| aD h fun x41 hx41 h => ?_
           have hx41c := (aI hx41).1
           have hx41e := (aI hx41).2
           refine ai (fun _ => hx41c) <| aF.to (ss x41) (fun _ => congrArg ss hx41e.symm) <| aD h fun x42 hx42 h => ?_
           have hx42c := (aI hx42).1
           have hx42e := (aI hx42).2
           refine ai (fun _ => hx42c) <| aF.to (ss x42) (fun _ => congrArg ss hx42e.symm) <| sn ?_
           replace h := oi h
           refine xi ⟨(n2, (x42, (IntKind.i64.wrap (s28 + (1 : Int))))), hl2 _ h.symm⟩ (ai (aPu _) ?_)
           refine Gho.to _ _ _ [] ?_ ?_ ?_ rfl rfl ?_
           ·exact ⟨⟨rfl, rfl, rfl⟩, trivial⟩
           ·exact rfl
           ·exact rfl
           ·exact tr3 <| tr3 <| tr3 <| tr3 <| tr3 <| tr3 <| trivial
          ·refine ai ⟨lb rfl, lb rfl⟩ <| aF.to (aB.av x29) (fun _ => rfl) <| aD h fun x43 hx43 h => aL.data _ false rfl (aNe E x29 x43 hx43) <| aD h fun x44 hx44 h => ?_
           have hx44c := (aI hx44).1
           have hx44e := (aI hx44).2
           refine ai (fun _ => hx44c) <| aF.to (ss x44) (fun _ => congrArg ss hx44e.symm) <| sn ?_
           replace h := oi h
           refine xi ⟨(n2, (x44, (IntKind.i64.wrap (s28 + (1 : Int))))), hl2 _ h.symm⟩ (ai (aPu _) ?_)
           refine Gho.to _ _ _ [] ?_ ?_ ?_ rfl rfl ?_
           ·exact ⟨⟨rfl, rfl, rfl⟩, trivial⟩
           ·exact rfl
           ·exact rfl
           ·exact tr3 <| tr3 <| tr3 <| tr3 <| tr3 <| tr3 <| trivial
        ·replace h := oi h
         replace h := hr2 _ h.symm
         subst h
         refine Gho.to _ _ _ [] ?_ ?_ ?_ rfl rfl ?_
         ·exact ⟨⟨rfl, rfl, rfl⟩, trivial⟩
         ·exact rfl
         ·exact rfl
         ·exact tr3 <| tr3 <| trivial
       ·clear hj26
        refine sj <| sj <| sn ?_
        refine Br.of h (fun ht h => ?_) fun ht h => ?_
        ·refine sj <| aD h fun x45 hx45 h => ?_
         have hx45c := (aI hx45).1
         have hx45e := (aI hx45).2
         refine ai (fun _ => hx45c) <| aF.to (ss x45) (fun _ => congrArg ss hx45e.symm) <| sn ?_
         replace h := oi h
         refine RetE.plain ?_
         subst h; exact ai rfl (ai rfl rfl)
        ·refine sn <| sj <| sn ?_
         replace h := oi h
         refine RetE.plain ?_
         subst h; exact ai rfl (ai rfl rfl)
     ·refine sn <| sj <| sj <| sn ?_
      refine Br.of h (fun ht h => ?_) fun ht h => ?_
      ·refine sn <| sj <| sn <| aD h fun j46 hj46 h => ?_
       refine SeqJ.join (St.of [⟨1, AV.ptr 0 0, none⟩, ⟨4, ss j46, none⟩] [.cells 26 (aB.cells a0) []] []) ?_ ?_
       ·clear h; have h := hj46; clear hj46
        refine sj <| aF.to (ii (a0.Kids.length : Int)) (fun _ => bD aB.avR a0.Kids) <| sn ?_
        refine cQ.img (fun x : (aA × Int) => St.of [⟨1, AV.ptr 0 0, none⟩, ⟨3, ss ([124] : aA), none⟩, ⟨4, ss x.1, none⟩, ⟨49, AV.list 5 (a0.Kids.map aB.avR), none⟩, ⟨50, ii (a0.Kids.length : Int), none⟩, ⟨51, ii x.2, none⟩] [.cells 26 (aB.cells a0) []] []) (jQ aNc a0) (([] : aA), (0 : Int)) h ?_ ?_
        ·refine Gho.to _ _ _ [] ?_ ?_ ?_ rfl rfl ?_
         ·exact ⟨⟨rfl, rfl, rfl⟩, trivial⟩
         ·exact rfl
         ·exact rfl
         ·exact tr3 <| tr3 <| tr3 <| tr3 <| tr3 <| tr3 <| trivial
        intro n3 x y3 h hl3 hr3
        obtain ⟨s47, s48⟩ := x
        unfold jQ at h
        dsimp only at h
        refine sj <| sn <| sj ?_
        refine Br.of h (fun ht h => ?_) fun ht h => ?_
        ·refine sn <| sj <| sj <| aD h fun x49 hx49 h => ?_
         refine ai rfl (xi (aB.av x49) (ai (fun hg => aB.av_eq x49 ▸ c4 _ hx49) ?_))
         refine ai (lb rfl) <| aF.to (aB.av x49) (fun _ => rfl) <| ai rfl ?_
         refine ai ⟨rfl, rfl, rfl, lb rfl⟩ (xi (aB.cells x49) (ai (fun _ => rfl) ?_))
         refine sn <| sj <| sj <| sn ?_
         refine Br.of h (fun ht h => ?_) fun ht h => ?_
         ·refine aD h fun x50 hx50 h => ?_
          have hx50c := (aI hx50).1
          have hx50e := (aI hx50).2
          refine ai (fun _ => hx50c) <| aF.to (ss x50) (fun _ => congrArg ss hx50e.symm) <| sn <| sj <| ai ⟨lb rfl, lb rfl⟩ <| aF.to (aB.av x49) (fun _ => rfl) <| aD h fun x51 hx51 h => aL.data _ false rfl ((cM E x49).1 x51 hx51) <| sn ?_
          refine Br.of h (fun ht h => ?_) fun ht h => ?_
          ·refine aD h fun x52 hx52 h => ?_
           have hx52c := (aI hx52).1
           have hx52e := (aI hx52).2
           refine ai (fun _ => hx52c) <| aF.to (ss x52) (fun _ => congrArg ss hx52e.symm) <| ai ⟨lb rfl, lb rfl⟩ <| aF.to (aB.av x49) (fun _ => rfl) <| aD h fun x53 hx53 h => aL.data _ false rfl (aNe E x49 x53 hx53) <| aD h fun x54 hx54 h => ?_
           have hx54c := (aI hx54).1
           have hx54e := (aI hx54).2
           refine ai (fun _ => hx54c) <| aF.to (ss x54) (fun _ => congrArg ss hx54e.symm) <| aD h fun x55 hx55 h => ?_
           have hx55c := (aI hx55).1
           have hx55e := (aI hx55).2
           refine ai (fun _ => hx55c) <| aF.to (ss x55) (fun _ => congrArg ss hx55e.symm) <| sn ?_
           replace h := oi h
           refine xi ⟨(n3, (x55, (IntKind.i64.wrap (s48 + (1 : Int))))), hl3 _ h.symm⟩ (ai (aPu _) ?_)
           refine Gho.to _ _ _ [] ?_ ?_ ?_ rfl rfl ?_
           ·exact ⟨⟨rfl, rfl, rfl⟩, trivial⟩
           ·exact rfl
           ·exact rfl
           ·exact tr3 <| tr3 <| tr3 <| tr3 <| tr3 <| tr3 <| trivial
          ·refine ai ⟨lb rfl, lb rfl⟩ <| aF.to (aB.av x49) (fun _ => rfl) <| aD h fun x56 hx56 h => aL.data _ false rfl (aNe E x49 x56 hx56) <| aD h fun x57 hx57 h => ?_
           have hx57c := (aI hx57).1
           have hx57e := (aI hx57).2
           refine ai (fun _ => hx57c) <| aF.to (ss x57) (fun _ => congrArg ss hx57e.symm) <| sn ?_
           replace h := oi h
           refine xi ⟨(n3, (x57, (IntKind.i64.wrap (s48 + (1 : Int))))), hl3 _ h.symm⟩ (ai (aPu _) ?_)
           refine Gho.to _ _ _ [] ?_ ?_ ?_ rfl rfl ?_
           ·exact ⟨⟨rfl, rfl, rfl⟩, trivial⟩
           ·exact rfl
           ·exact rfl
           ·exact tr3 <| tr3 <| tr3 <| tr3 <| tr3 <| tr3 <| trivial
         ·refine sn <| sj <| ai ⟨lb rfl, lb rfl⟩ <| aF.to (aB.av x49) (fun _ => rfl) <| aD h fun x58 hx58 h => aL.data _ false rfl ((cM E x49).1 x58 hx58) <| sn ?_
          refine Br.of h (fun ht h => ?_) fun ht h => ?_
          ·refine aD h fun x59 hx59 h => ?_
           have hx59c := (aI hx59).1
           have hx59e := (aI hx59).2
           refine ai (fun _ => hx59c) <| aF.to (ss x59) (fun _ => congrArg ss hx59e.symm) <| ai ⟨lb rfl, lb rfl⟩ <| aF.to (aB.av x49) (fun _ => rfl) <| aD h fun x60 hx60 h => aL.data _ false rfl (aNe E x49 x60 hx60) <| aD h fun x61 hx61 h => ?_
           have hx61c := (aI hx61).1
           have hx61e := (aI hx61).2
           refine ai (fun _ => hx61c) <| aF.to (ss x61) (fun _ => congrArg ss hx61e.symm) <| aD h fun x62 hx62 h => ?_
           have hx62c := (aI hx62).1
           have hx62e := (aI hx62).2
           refine ai (fun _ => hx62c) <| aF.to (ss x62) (fun _ => congrArg ss hx62e.symm) <| sn ?_
           replace h := oi h
           refine xi ⟨(n3, (x62, (IntKind.i64.wrap (s48 + (1 : Int))))), hl3 _ h.symm⟩ (ai (aPu _) ?_)
           refine Gho.to _ _ _ [] ?_ ?_ ?_ rfl rfl ?_
           ·exact ⟨⟨rfl, rfl, rfl⟩, trivial⟩
           ·exact rfl
           ·exact rfl
           ·exact tr3 <| tr3 <| tr3 <| tr3 <| tr3 <| tr3 <| trivial
          ·refine ai ⟨lb rfl, lb rfl⟩ <| aF.to (aB.av x49) (fun _ => rfl) <| aD h fun x63 hx63 h => aL.data _ false rfl (aNe E x49 x63 hx63) <| aD h fun x64 hx64 h => ?_
           have hx64c := (aI hx64).1
           have hx64e := (aI hx64).2
           refine ai (fun _ => hx64c) <| aF.to (ss x64) (fun _ => congrArg ss hx64e.symm) <| sn ?_
           replace h := oi h
           refine xi ⟨(n3, (x64, (IntKind.i64.wrap (s48 + (1 : Int))))), hl3 _ h.symm⟩ (ai (aPu _) ?_)
           refine Gho.to _ _ _ [] ?_ ?_ ?_ rfl rfl ?_
           ·exact ⟨⟨rfl, rfl, rfl⟩, trivial⟩
           ·exact rfl
           ·exact rfl
           ·exact tr3 <| tr3 <| tr3 <| tr3 <| tr3 <| tr3 <| trivial
        ·replace h := oi h
         replace h := hr3 _ h.symm
         subst h
         refine Gho.to _ _ _ [] ?_ ?_ ?_ rfl rfl ?_
         ·exact ⟨⟨rfl, rfl, rfl⟩, trivial⟩
         ·exact rfl
         ·exact rfl
         ·exact tr3 <| tr3 <| trivial
       ·clear hj46
        refine sj <| sj <| sn ?_
        refine Br.of h (fun ht h => ?_) fun ht h => ?_
        ·refine sj <| aD h fun x65 hx65 h => ?_
         have hx65c := (aI hx65).1
         have hx65e := (aI hx65).2
         refine ai (fun _ => hx65c) <| aF.to (ss x65) (fun _ => congrArg ss hx65e.symm) <| sn ?_
         replace h := oi h
         refine RetE.plain ?_
         subst h; exact ai rfl (ai rfl rfl)
        ·refine sn <| sj <| sn ?_
         replace h := oi h
         refine RetE.plain ?_
         subst h; exact ai rfl (ai rfl rfl)
      ·refine sn <| sj <| sn <| aD h fun j66 hj66 h => ?_
       refine SeqJ.join (St.of [⟨1, AV.ptr 0 0, none⟩, ⟨4, ss j66, none⟩] [.cells 26 (aB.cells a0) []] []) ?_ ?_
       ·clear h; have h := hj66; clear hj66
        refine sj <| aF.to (ii (a0.Kids.length : Int)) (fun _ => bD aB.avR a0.Kids) <| sn ?_
        refine cQ.img (fun x : (aA × Int) => St.of [⟨1, AV.ptr 0 0, none⟩, ⟨3, ss a0.Sign, none⟩, ⟨4, ss x.1, none⟩, ⟨49, AV.list 5 (a0.Kids.map aB.avR), none⟩, ⟨50, ii (a0.Kids.length : Int), none⟩, ⟨51, ii x.2, none⟩] [.cells 26 (aB.cells a0) []] []) (jR aNc a0) (([] : aA), (0 : Int)) h ?_ ?_
        ·refine Gho.to _ _ _ [] ?_ ?_ ?_ rfl rfl ?_
         ·exact ⟨⟨rfl, rfl, rfl⟩, trivial⟩
         ·exact rfl
         ·exact rfl
         ·exact tr3 <| tr3 <| tr3 <| tr3 <| tr3 <| tr3 <| trivial
        intro n4 x y4 h hl4 hr4
        obtain ⟨s67, s68⟩ := x
        unfold jR at h
        dsimp only at h
        refine sj <| sn <| sj ?_
        refine Br.of h (fun ht h => ?_) fun ht h => ?_
        ·refine sn <| sj <| sj <| aD h fun x69 hx69 h => ?_
         refine ai rfl (xi (aB.av x69) (ai (fun hg => aB.av_eq x69 ▸ c4 _ hx69) ?_))
         refine ai (lb rfl) <| aF.to (aB.av x69) (fun _ => rfl) <| ai rfl ?_
         refine ai ⟨rfl, rfl, rfl, lb rfl⟩ (xi (aB.cells x69) (ai (fun _ => rfl) ?_))
         refine sn <| sj <| sj <| sn ?_
         refine Br.of h (fun ht h => ?_) fun ht h => ?_
         ·refine aD h fun x70 hx70 h => ?_
          have hx70c := (aI hx70).1
          have hx70e := (aI hx70).2
          refine ai (fun _ => hx70c) <| aF.to (ss x70) (fun _ => congrArg ss hx70e.symm) <| sn <| sj <| ai ⟨lb rfl, lb rfl⟩ <| aF.to (aB.av x69) (fun _ => rfl) <| aD h fun x71 hx71 h => aL.data _ false rfl ((cM E x69).1 x71 hx71) <| sn ?_
          refine Br.of h (fun ht h => ?_) fun ht h => ?_
          ·refine aD h fun x72 hx72 h => ?_
           have hx72c := (aI hx72).1
           have hx72e := (aI hx72).2
           refine ai (fun _ => hx72c) <| aF.to (ss x72) (fun _ => congrArg ss hx72e.symm) <| ai ⟨lb rfl, lb rfl⟩ <| aF.to (aB.av x69) (fun _ => rfl) <| aD h fun x73 hx73 h => aL.data _ false rfl (aNe E x69 x73 hx73) <| aD h fun x74 hx74 h => ?_
           have hx74c := (aI hx74).1
           have hx74e := (aI hx74).2
           refine ai (fun _ => hx74c) <| aF.to (ss x74) (fun _ => congrArg ss hx74e.symm) <| aD h fun x75 hx75 h => ?_
           have hx75c := (aI hx75).1
           have hx75e := (aI hx75).2
           refine ai (fun _ => hx75c) <| aF.to (ss x75) (fun _ => congrArg ss hx75e.symm) <| sn ?_
           replace h := oi h
           refine xi ⟨(n4, (x75, (IntKind.i64.wrap (s68 + (1 : Int))))), hl4 _ h.symm⟩ (ai (aPu _) ?_)
           refine Gho.to _ _ _ [] ?_ ?_ ?_ rfl rfl ?_
           ·exact ⟨⟨rfl, rfl, rfl⟩, trivial⟩
           ·exact rfl
           ·exact rfl
           ·exact tr3 <| tr3 <| tr3 <| tr3 <| tr3 <| tr3 <| trivial
          ·refine ai ⟨lb rfl, lb rfl⟩ <| aF.to (aB.av x69) (fun _ => rfl) <| aD h fun x76 hx76 h => aL.data _ false rfl (aNe E x69 x76 hx76) <| aD h fun x77 hx77 h => ?_
           have hx77c := (aI hx77).1
           have hx77e := (aI hx77).2
           refine ai (fun _ => hx77c) <| aF.to (ss x77) (fun _ => congrArg ss hx77e.symm) <| sn ?_
           replace h := oi h
           refine xi ⟨(n4, (x77, (IntKind.i64.wrap (s68 + (1 : Int))))), hl4 _ h.symm⟩ (ai (aPu _) ?_)
           refine Gho.to _ _ _ [] ?_ ?_ ?_ rfl rfl ?_
           ·exact ⟨⟨rfl, rfl, rfl⟩, trivial⟩
           ·exact rfl
           ·exact rfl
           ·exact tr3 <| tr3 <| tr3 <| tr3 <| tr3 <| tr3 <| trivial
         ·refine sn <| sj <| ai ⟨lb rfl, lb rfl⟩ <| aF.to (aB.av x69) (fun _ => rfl) <| aD h fun x78 hx78 h => aL.data _ false rfl ((cM E x69).1 x78 hx78) <| sn ?_
          refine Br.of h (fun ht h => ?_) fun ht h => ?_
          ·refine aD h fun x79 hx79 h => ?_
           have hx79c := (aI hx79).1
           have hx79e := (aI hx79).2
           refine ai (fun _ => hx79c) <| aF.to (ss x79) (fun _ => congrArg ss hx79e.symm) <| ai ⟨lb rfl, lb rfl⟩ <| aF.to (aB.av x69) (fun _ => rfl) <| aD h fun x80 hx80 h => aL.data _ false rfl (aNe E x69 x80 hx80) <| aD h fun x81 hx81 h => ?_
           have hx81c := (aI hx81).1
           have hx81e := (aI hx81).2
           refine ai (fun _ => hx81c) <| aF.to (ss x81) (fun _ => congrArg ss hx81e.symm) <| aD h fun x82 hx82 h => ?_
           have hx82c := (aI hx82).1
           have hx82e := (aI hx82).2
           refine ai (fun _ => hx82c) <| aF.to (ss x82) (fun _ => congrArg ss hx82e.symm) <| sn ?_
           replace h := oi h
           refine xi ⟨(n4, (x82, (IntKind.i64.wrap (s68 + (1 : Int))))), hl4 _ h.symm⟩ (ai (aPu _) ?_)
           refine Gho.to _ _ _ [] ?_ ?_ ?_ rfl rfl ?_
           ·exact ⟨⟨rfl, rfl, rfl⟩, trivial⟩
           ·exact rfl
           ·exact rfl
           ·exact tr3 <| tr3 <| tr3 <| tr3 <| tr3 <| tr3 <| trivial
          ·refine ai ⟨lb rfl, lb rfl⟩ <| aF.to (aB.av x69) (fun _ => rfl) <| aD h fun x83 hx83 h => aL.data _ false rfl (aNe E x69 x83 hx83) <| aD h fun x84 hx84 h => ?_
           have hx84c := (aI hx84).1
           have hx84e := (aI hx84).2
           refine ai (fun _ => hx84c) <| aF.to (ss x84) (fun _ => congrArg ss hx84e.symm) <| sn ?_
           replace h := oi h
           refine xi ⟨(n4, (x84, (IntKind.i64.wrap (s68 + (1 : Int))))), hl4 _ h.symm⟩ (ai (aPu _) ?_)
           refine Gho.to _ _ _ [] ?_ ?_ ?_ rfl rfl ?_
           ·exact ⟨⟨rfl, rfl, rfl⟩, trivial⟩
           ·exact rfl
           ·exact rfl
           ·exact tr3 <| tr3 <| tr3 <| tr3 <| tr3 <| tr3 <| trivial
        ·replace h := oi h
         replace h := hr4 _ h.symm
         subst h
         refine Gho.to _ _ _ [] ?_ ?_ ?_ rfl rfl ?_
         ·exact ⟨⟨rfl, rfl, rfl⟩, trivial⟩
         ·exact rfl
         ·exact rfl
         ·exact tr3 <| tr3 <| trivial
       ·clear hj66
        refine sj <| sj <| sn ?_
        refine Br.of h (fun ht h => ?_) fun ht h => ?_
        ·refine sj <| aD h fun x85 hx85 h => ?_
         have hx85c := (aI hx85).1
         have hx85e := (aI hx85).2
         refine ai (fun _ => hx85c) <| aF.to (ss x85) (fun _ => congrArg ss hx85e.symm) <| sn ?_
         replace h := oi h
         refine RetE.plain ?_
         subst h; exact ai rfl (ai rfl rfl)
        ·refine sn <| sj <| sn ?_
         replace h := oi h
         refine RetE.plain ?_
         subst h; exact ai rfl (ai rfl rfl)
theorem qR (n : Nat) : ∀ (E : Pm.Env) [aJ E] (a0 : aB) (r : aA) (h : eQ n a0 = some r), FnR E Tryz.prog 27 [aB.av a0] (ss r) false := by
 induction n with
 | zero => intro E _ a0 r h; cases (show none = some _ from h)
 | succ n ih => intro E _ a0 r h; exact qQ E (eQ n) ih a0 r h
theorem r8 (E : Pm.Env) [aJ E] (a0 : aB) (r : aA) (h : lW a0 = some r) : FnR E Tryz.prog 27 [aB.av a0] (ss r) false := qR 1000000 E a0 r h
instance r9 (E : Pm.Env) [aJ E] (a0 : aG) (a1 : aB) : Ok E (cZ a0 a1) (fun r => FnR E Tryz.prog 32 [aG.av a0, aB.av a1] (ss r) false) := ⟨fun r h => by
 refine FnR.of_ev (T := T) (rows := []) tOk mixed Tryz.func32 rfl (by kernel_rfl) (by kernel_rfl) rfl fun hwf => ?_
 unfold cZ at h
 refine sj <| ai rfl <| ai rfl <| sn <| sj <| sj <| sn ?_
 refine Br.of h (fun ht h => ?_) fun ht h => ?_
 ·exact W
 ·refine sn <| sj <| sj <| sn ?_
  refine Br.of h (fun ht h => ?_) fun ht h => ?_
  ·exact W
  ·refine sn <| sj <| ai ⟨lb rfl, lb rfl⟩ <| aF.to (aB.av a1) (fun _ => rfl) <| aD h fun x2 hx2 h => aL.data _ false rfl (r8 E a1 x2 hx2) <| sn ?_
   replace h := oi h
   refine RetE.plain ?_
   exact ai rfl (ai (congrArg (fun r : aA => ss r) h) rfl)⟩
instance aDS (E : Pm.Env) [aJ E] (a0 : aA) (a1 : aA) : Ok E (d7 a0 a1) (fun r => FnR E Tryz.prog 33 [ss a0, ss a1] (bb r) false) := ⟨fun r h => by
 refine FnR.of_ev (T := T) (rows := []) tOk mixed Tryz.func33 rfl (by kernel_rfl) (by kernel_rfl) rfl fun hwf => ?_
 unfold d7 at h
 exact W⟩
theorem qS (E : Pm.Env) [aJ E] (aNm : aG -> aB -> Option Bool) (aNy : ∀ (E : Pm.Env) [aJ E] (a0 : aG) (a1 : aB) (r : Bool) (h : aNm a0 a1 = some r), FnR E Tryz.prog 13 [aG.av a0, aB.av a1] (bb r) false) (a0 : aG) (a1 : aB) (r : Bool) (h : f6 aNm a0 a1 = some r) : FnR E Tryz.prog 13 [aG.av a0, aB.av a1] (bb r) false := by
 refine FnR.of_ev (T := T) (rows := []) tOk mixed Tryz.func13 rfl (by kernel_rfl) (by kernel_rfl) rfl fun hwf => ?_
 unfold f6 at h
 refine sj <| ai rfl <| ai rfl <| sn <| sj <| sj <| sn ?_
 refine Br.of h (fun ht h => ?_) fun ht h => ?_
 ·exact W
 ·refine sn <| sj <| sj <| ai ⟨lb rfl, lb rfl⟩ <| aF.to (aB.av a1) (fun _ => rfl) <| aD h fun x1 hx1 h => aL.data _ false rfl ((mR E a1).1 x1 hx1) <| sn ?_
  refine Br.of h (fun ht h => ?_) fun ht h => ?_
  ·exact W
  ·refine sn <| sj <| sj <| sn ?_
   refine Br.of h (fun ht h => ?_) fun ht h => ?_
   ·refine sj <| Or.inl <| ai ⟨lb rfl, lb rfl⟩ <| aF.to (aG.av a0) (fun _ => rfl) <| aD h fun x3 hx3 h => ?_
    refine ai rfl (xi (aB.av x3) (ai (fun hg => aB.av_eq x3 ▸ c4 _ hx3) ?_))
    refine ai (lb rfl) <| aF.to (aB.av x3) (fun _ => rfl) <| aD h fun x4 hx4 h => aL.data _ false rfl ((r9 E a0 x3).1 x4 hx4) <| ai (by kernel_rfl) <| sn <| sj <| Or.inl <| ai ⟨lb rfl, lb rfl⟩ <| aF.to (aG.av a0) (fun _ => rfl) <| aD h fun x5 hx5 h => ?_
    refine ai rfl (xi (aB.av x5) (ai (fun hg => aB.av_eq x5 ▸ c4 _ hx5) ?_))
    exact W
   ·refine sn <| sj <| sn <| sj <| sn <| aD h fun j9 hj9 h => ?_
    refine SeqJ.join (St.of [⟨3, AV.ptr 1 0, none⟩, ⟨9, bb j9.1, none⟩, ⟨10, bb j9.2, none⟩] [.dead, .cells 26 (aB.cells a1) []] []) ?_ ?_
    ·clear h; have h := hj9; clear hj9
     refine sj <| aF.to (ii (a1.Kids.length : Int)) (fun _ => bD aB.avR a1.Kids) <| sn ?_
     refine cQ.img (fun x : (Bool × Bool × Int) => St.of [⟨2, AV.ptr 0 0, none⟩, ⟨3, AV.ptr 1 0, none⟩, ⟨9, bb x.1, none⟩, ⟨10, bb x.2.1, none⟩, ⟨76, AV.list 5 (a1.Kids.map aB.avR), none⟩, ⟨77, ii (a1.Kids.length : Int), none⟩, ⟨78, ii x.2.2, none⟩] [.cells 23 (aG.cells a0) [], .cells 26 (aB.cells a1) []] []) (bP aNm a0 a1) (true, false, (0 : Int)) h ?_ ?_
     ·exact W
     intro n1 x y1 h hl1 hr1
     obtain ⟨s10, s11, s12⟩ := x
     unfold bP at h
     dsimp only at h
     refine sj <| sn <| sj ?_
     refine Br.of h (fun ht h => ?_) fun ht h => ?_
     ·refine sn <| sj <| sj <| aD h fun x13 hx13 h => ?_
      refine ai rfl (xi (aB.av x13) (ai (fun hg => aB.av_eq x13 ▸ c4 _ hx13) ?_))
      refine ai (lb rfl) <| aF.to (aB.av x13) (fun _ => rfl) <| ai rfl ?_
      refine ai ⟨rfl, rfl, rfl, lb rfl⟩ (xi (aB.cells x13) (ai (fun _ => rfl) ?_))
      refine sn <| sj <| ai ⟨lb rfl, lb rfl⟩ <| aF.to (aG.av a0) (fun _ => rfl) <| ai ⟨lb rfl, lb rfl⟩ <| aF.to (aB.av x13) (fun _ => rfl) <| aD h fun x14 hx14 h => aL.data _ false rfl (aNy E a0 x13 x14 hx14) <| sn <| sj <| ai (fun hg => (iP hg)) <| sn <| ai (fun hg => (iP hg)) <| sn ?_
      exact W
     ·exact W
    ·clear hj9
     exact W
theorem qT (n : Nat) : ∀ (E : Pm.Env) [aJ E] (a0 : aG) (a1 : aB) (r : Bool) (h : bM n a0 a1 = some r), FnR E Tryz.prog 13 [aG.av a0, aB.av a1] (bb r) false := by
 induction n with
 | zero => intro E _ a0 a1 r h; cases (show none = some _ from h)
 | succ n ih => intro E _ a0 a1 r h; exact qS E (bM n) ih a0 a1 r h
theorem mX (E : Pm.Env) [aJ E] (a0 : aG) (a1 : aB) (r : Bool) (h : fN a0 a1 = some r) : FnR E Tryz.prog 13 [aG.av a0, aB.av a1] (bb r) false := qT 1000000 E a0 a1 r h
theorem mY (E : Pm.Env) [aJ E] (r : Bool) (h : fO = some r) : FnR E Tryz.prog 14 [] (bb r) false := by
 refine FnR.of_ev (T := T) (rows := []) tOk mixed Tryz.func14 rfl (by kernel_rfl) (by kernel_rfl) rfl fun hwf => ?_
 unfold fO at h
 exact W
instance aBx (E : Pm.Env) [aJ E] : Ok E fO (fun r => FnR E Tryz.prog 14 [] (bb r) false) := ⟨mY E⟩
instance aCE (E : Pm.Env) [aJ E] (a0 : aA) : Ok E (gJ a0) (fun r => FnR E Tryz.prog 58 [ss a0] (bb r) false) := ⟨fun r h => by
 refine FnR.of_ev (T := T) (rows := []) tOk mixed Tryz.func58 rfl (by kernel_rfl) (by kernel_rfl) rfl fun hwf => ?_
 unfold gJ at h
 refine sj <| sn <| sj <| sj <| sn ?_
 refine cQ.img (fun x : Int => St.of [⟨0, ss a0, none⟩, ⟨3, ii x, none⟩] [] []) (dX a0) (0 : Int) h ?_ ?_
 ·exact W
 intro n1 x y1 h hl1 hr1
 revert h; revert x; intro s1 h
 unfold dX at h
 exact W⟩
theorem rU (E : Pm.Env) [aJ E] (aNn : aB -> Option Bool) (aNz : ∀ (E : Pm.Env) [aJ E] (a0 : aB) (r : Bool) (h : aNn a0 = some r), FnR E Tryz.prog 35 [aB.av a0] (bb r) false) (a0 : aB) (r : Bool) (h : gK aNn a0 = some r) : FnR E Tryz.prog 35 [aB.av a0] (bb r) false := by
 refine FnR.of_ev (T := T) (rows := []) tOk mixed Tryz.func35 rfl (by kernel_rfl) (by kernel_rfl) rfl fun hwf => ?_
 unfold gK at h
 refine sj <| ai rfl <| sn <| sj <| aF.to (ii (a0.Kids.length : Int)) (fun _ => bD aB.avR a0.Kids) <| sn <| sj <| sj <| sn ?_
 refine Br.of h (fun ht h => ?_) fun ht h => ?_
 ·exact W
 ·refine sn <| sj <| sj <| sn ?_
  refine Br.of h (fun ht h => ?_) fun ht h => ?_
  ·exact W
  ·refine sn <| sj <| sj <| sn ?_
   refine Br.of h (fun ht h => ?_) fun ht h => ?_
   ·exact W
   ·refine sn <| sj <| sj <| sn ?_
    refine Br.of h (fun ht h => ?_) fun ht h => ?_
    ·exact W
    ·refine sn <| sj <| sj <| aF.to (ii (a0.Kids.length : Int)) (fun _ => bD aB.avR a0.Kids) <| sn ?_
     refine cQ.img (fun x : Int => St.of [⟨1, AV.ptr 0 0, none⟩, ⟨3, ii (a0.Kids.length : Int), none⟩, ⟨83, AV.list 5 (a0.Kids.map aB.avR), none⟩, ⟨84, ii (a0.Kids.length : Int), none⟩, ⟨85, ii x, none⟩] [.cells 26 (aB.cells a0) []] []) (dR aNn a0) (0 : Int) h ?_ ?_
     ·exact W
     intro n1 x y1 h hl1 hr1
     revert h; revert x; intro s3 h
     unfold dR at h
     refine sj <| sn <| sj ?_
     refine Br.of h (fun ht h => ?_) fun ht h => ?_
     ·refine sn <| sj <| sj <| aD h fun x4 hx4 h => ?_
      refine ai rfl (xi (aB.av x4) (ai (fun hg => aB.av_eq x4 ▸ c4 _ hx4) ?_))
      refine ai (lb rfl) <| aF.to (aB.av x4) (fun _ => rfl) <| ai rfl ?_
      refine ai ⟨rfl, rfl, rfl, lb rfl⟩ (xi (aB.cells x4) (ai (fun _ => rfl) ?_))
      refine sn <| sj <| ai ⟨lb rfl, lb rfl⟩ <| aF.to (aB.av x4) (fun _ => rfl) <| aD h fun x5 hx5 h => aL.data _ false rfl (aNz E x4 x5 hx5) <| sn ?_
      exact W
     ·refine sn <| sj <| sj <| sn ?_
      refine Br.of h (fun ht h => ?_) fun ht h => ?_
      ·exact W
      ·refine sn <| sj <| sj <| sn ?_
       refine Br.of h (fun ht h => ?_) fun ht h => ?_
       ·refine sj <| aD h fun x6 hx6 h => aL.data _ false rfl ((mP E a0.Sign).1 x6 hx6) <| ai id <| ai (fun hg => (iP hg)) <| ai id <| aD h fun x7 hx7 h => ai id ?_
        refine ai rfl (xi (aB.av x7) (ai (fun hg => aB.av_eq x7 ▸ tQ _ hx7 hg) ?_))
        refine ai id <| ai (lb rfl) <| aF.to (aB.av x7) (fun _ => rfl) <| aD h fun x8 hx8 h => ai id <| ai rfl ?_
        refine oG.mk _ false (fun hg => (mR E x7).1 x8 (dF hx8 hg)) (ai rfl ?_)
        refine ai (fun hg => (iP hg)) <| ai id <| aD h fun x9 hx9 h => ai id ?_
        refine ai rfl (xi (aB.av x9) (ai (fun hg => aB.av_eq x9 ▸ tQ _ hx9 hg) ?_))
        exact W
       ·exact W
theorem rV (n : Nat) : ∀ (E : Pm.Env) [aJ E] (a0 : aB) (r : Bool) (h : c7 n a0 = some r), FnR E Tryz.prog 35 [aB.av a0] (bb r) false := by
 induction n with
 | zero => intro E _ a0 r h; cases (show none = some _ from h)
 | succ n ih => intro E _ a0 r h; exact rU E (c7 n) ih a0 r h
theorem s9 (E : Pm.Env) [aJ E] (a0 : aB) (r : Bool) (h : mE a0 = some r) : FnR E Tryz.prog 35 [aB.av a0] (bb r) false := rV 1000000 E a0 r h
instance sA (E : Pm.Env) [aJ E] (a0 : aB) : Ok E (g7 a0) (fun r => FnR E Tryz.prog 17 [aB.av a0] (bb r) false) := ⟨fun r h => by
 refine FnR.of_ev (T := T) (rows := []) tOk mixed Tryz.func17 rfl (by kernel_rfl) (by kernel_rfl) rfl fun hwf => ?_
 unfold g7 at h
 refine sj <| ai rfl <| sn <| sj <| ai ⟨lb rfl, lb rfl⟩ <| aF.to (aB.av a0) (fun _ => rfl) <| aD h fun x1 hx1 h => aL.data _ false rfl ((kI E a0 (60 : Int)).1 x1 hx1) <| ai ⟨lb rfl, lb rfl⟩ <| aF.to (aB.av a0) (fun _ => rfl) <| aD h fun x2 hx2 h => ai id <| ai rfl ?_
 refine oG.mk _ false (fun hg => s9 E a0 x2 (dF hx2 hg)) (ai rfl ?_)
 refine ai (fun hg => (iP hg)) <| ai ⟨lb rfl, lb rfl⟩ <| aF.to (aB.av a0) (fun _ => rfl) <| aD h fun x3 hx3 h => ai id <| ai rfl ?_
 refine oG.mk _ false (fun hg => nX E a0 x3 (dF hx3 hg)) (ai rfl ?_)
 refine ai id <| ai (fun hg => (iP hg)) <| sn ?_
 replace h := oi h
 refine RetE.plain ?_
 exact ai rfl (ai (congrArg (fun r : Bool => bb r) h) rfl)⟩
theorem kZ (E : Pm.Env) [aJ E] (a0 : aG) (a1 : aB) (a2 : aA) (r : Bool) (h : eY a0 a1 a2 = some r) : FnR E Tryz.prog 3 [aG.av a0, aB.av a1, ss a2] (bb r) false := by
 refine FnR.of_ev (T := T) (rows := []) tOk mixed Tryz.func3 rfl (by kernel_rfl) (by kernel_rfl) rfl fun hwf => ?_
 unfold eY at h
 refine sj <| ai rfl <| ai rfl <| sn <| sj <| Or.inl <| ai ⟨lb rfl, lb rfl⟩ <| aF.to (aG.av a0) (fun _ => rfl) <| aD h fun x1 hx1 h => aL.data _ false rfl (oB E a0 x1 hx1) <| aF.same <| ai rfl <| aD h fun x2 hx2 h => ?_
 have qx2 := (bH hx2).1
 have hx2e := (bH hx2).2
 refine ai (fun _ => qx2) <| aF.to (ss x2) (fun _ => congrArg ss hx2e.symm) ?_
 refine ai ⟨rfl, rfl, rfl, lb rfl⟩ (xi (aG.cells x1) (ai (fun _ => rfl) ?_))
 refine ai (by kernel_rfl) <| sn <| sj <| aD h fun x3 hx3 h => aL.data _ false rfl ((r7 E x2).1 x3 hx3) <| ai rfl ?_
 refine ai ⟨rfl, rfl, rfl, lb rfl⟩ (xi (aB.cells x3.1) (ai (fun _ => rfl) ?_))
 refine sn <| sj <| ai ⟨lb rfl, lb rfl⟩ <| aF.to (aG.av x1) (fun _ => rfl) <| aD h fun x4 hx4 h => aL.data _ false rfl ((aDR E x1 x2).1 x4 hx4) <| sn <| sj <| sj <| ai id <| ai id <| ai ⟨lb rfl, lb rfl⟩ <| aF.to (aG.av x1) (fun _ => rfl) <| ai ⟨lb rfl, lb rfl⟩ <| aF.to (aB.av x3.1) (fun _ => rfl) <| aD h fun x5 hx5 h => ai id <| ai id <| ai rfl ?_
 refine oG.mk _ false (fun hg => mX E x1 x3.1 x5 (dF hx5 hg)) (ai rfl ?_)
 refine ai id <| ai id <| ai id <| ai id <| ai rfl <| ai (fun hg => (iP hg)) <| aD h fun x6 hx6 h => ai rfl ?_
 refine oG.mk _ false (fun hg => mY E  x6 (dF hx6 hg)) (ai rfl ?_)
 refine ai id <| ai (fun hg => (iP hg)) <| sn ?_
 refine Br.of h (fun ht h => ?_) fun ht h => ?_
 ·exact W
 ·refine sn <| sj <| ai ⟨lb rfl, lb rfl⟩ <| aF.to (aG.av x1) (fun _ => rfl) <| ai ⟨lb rfl, lb rfl⟩ <| aF.to (aB.av a1) (fun _ => rfl) <| aD h fun x7 hx7 h => aL.data _ false rfl ((aDQ E x1 a1).1 x7 hx7) <| sn <| sj <| sj <| ai ⟨lb rfl, lb rfl⟩ <| aF.to (aB.av a1) (fun _ => rfl) <| aD h fun x8 hx8 h => aL.data _ false rfl ((kI E a1 (60 : Int)).1 x8 hx8) <| ai ⟨lb rfl, lb rfl⟩ <| aF.to (aB.av a1) (fun _ => rfl) <| aD h fun x9 hx9 h => ai id <| ai rfl ?_
  refine oG.mk _ false (fun hg => (sA E a1).1 x9 (dF hx9 hg)) (ai rfl ?_)
  refine ai id <| ai (fun hg => (iP hg)) <| sn ?_
  refine Br.of h (fun ht h => ?_) fun ht h => ?_
  ·exact W
  ·refine sn <| sj <| ai ⟨lb rfl, lb rfl⟩ <| aF.to (aG.av x1) (fun _ => rfl) <| ai ⟨lb rfl, lb rfl⟩ <| aF.to (aB.av a1) (fun _ => rfl) <| aD h fun x10 hx10 h => ai id <| ai id <| ai rfl ?_
   refine oG.mk _ false (fun hg => mX E x1 a1 x10 (dF hx10 hg)) (ai rfl ?_)
   refine ai id <| ai id <| ai rfl <| ai (fun hg => (iP hg)) <| sn ?_
   replace h := oi h
   refine RetE.plain ?_
   subst h; exact ai rfl (ai rfl rfl)
instance yC (E : Pm.Env) [aJ E] (a0 : aG) (a1 : aB) (a2 : aA) : Ok E (eY a0 a1 a2) (fun r => FnR E Tryz.prog 3 [aG.av a0, aB.av a1, ss a2] (bb r) false) := ⟨kZ E a0 a1 a2⟩
end Go.Proofs.YtdobepgddhbncaaGreatDoor
