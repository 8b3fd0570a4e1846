/-
  The functions do what their images say: walks, written by a program of mine (gen.py).
-/
import Derived.Test.YtdobepgddhbncaaGreatDoorIv1
import Derived.Test.YtdobepgddhbncaaGreatDoorGh6
import Derived.Test.YtdobepgddhbncaaGreatDoorPm31
open _root_.Nat renaming lt_succ_self -> aPJ
open _root_.List renaming map -> aPK
namespace Go.Proofs.YtdobepgddhbncaaGreatDoor
open Go Go.Pm
set_option linter.unusedSimpArgs false
open And renaming intro -> ai
open Exists renaming intro -> xi
open Option.some renaming inj -> oi
open _root_.Nat renaming le_of_ble_eq_true -> lb
open Go.Pm.SeqJ renaming go -> sj
open Go.Pm.SeqN renaming go -> sn
set_option maxRecDepth 100000
set_option maxHeartbeats 1000000
set_option linter.unusedVariables false
instance aFJ (E : Pm.Env) [yJ E] (a0 a1 : aA) : Ok E (strings_Index a0 a1) (fun r => FnR E Tryz.prog 123 [ss a0, ss a1] (ii r) false) := ⟨xL E a0 a1⟩
instance aDX (E : Pm.Env) [yJ E] (a0 a1 : aA) : Ok E (strings_Compare a0 a1) (fun r => FnR E Tryz.prog 83 [ss a0, ss a1] (ii r) false) := ⟨vJ E a0 a1⟩
instance aCH (E : Pm.Env) [yJ E] (a0 a1 : aA) : Ok E (gT a0 a1) (fun r => FnR E Tryz.prog 143 [ss a0, ss a1] (ii r) false) := ⟨t8 E a0 a1⟩
instance yF (E : Pm.Env) (a0 : aA) (a1 : Int) : Ok E (i8 a0 a1) (fun r => FnR E Tryz.prog 60 [ss a0, AV.int .u8 a1] (ii r) false) := ⟨pL E a0 a1⟩
instance aGD (E : Pm.Env) (a0 : List aA) (a1 : aA) : Ok E (strings_Join a0 a1) (fun r => FnR E Tryz.prog 22 [AV.list 1 (a0.map AV.str), ss a1] (ss r) false) := ⟨yK E a0 a1⟩
instance aCv (E : Pm.Env) [aI E] (a0 a1 : Int) : Ok E (jV a0 a1) (fun r => FnR E Tryz.prog 95 [AV.int .u64 a0, ii a1] (ss r) false) := ⟨sC E a0 a1⟩
instance aFK (E : Pm.Env) [yJ E] (a0 a1 : aA) : Ok E (strings_Split a0 a1) (fun r => FnR E Tryz.prog 186 [ss a0, ss a1] (AV.list 1 (r.map AV.str)) false) := ⟨lP E a0 a1⟩
instance : Enc aL aL.av := ⟨trivial⟩
instance : Enc aB aB.avR := ⟨trivial⟩
instance : Enc aE aE.av := ⟨trivial⟩
instance : Enc aC aC.av := ⟨trivial⟩
instance : Enc bW bW.av := ⟨trivial⟩
instance : Enc bD bD.av := ⟨trivial⟩
instance aCI (E : Pm.Env) [aI E] (a0 : Int) : Ok E (gW a0) (fun r => FnR E Tryz.prog 37 [AV.int .u8 a0] (bb r) false) := ⟨fun r h => by
 refine FnR.of_ev (T := T) (rows := []) tOk mixed Tryz.func37 rfl (by kernel_rfl) (by kernel_rfl) rfl fun hwf => ?_
 unfold gW at h
 exact W⟩
instance aEM (E : Pm.Env) [aI E] (a0 : aA) (a1 : Int) : Ok E (aG a0 a1) (fun r => FnR E Tryz.prog 77 [ss a0, ii a1] (AV.int .u8 r) false) := ⟨fun r h => by
 refine FnR.of_ev (T := T) (rows := []) tOk mixed Tryz.func77 rfl (by kernel_rfl) (by kernel_rfl) rfl fun hwf => ?_
 unfold aG at h
 exact W⟩
instance aEN (E : Pm.Env) [aI E] (a0 : aA) (a1 : Int) (a2 : aA) : Ok E (cA a0 a1 a2) (fun r => FnR E Tryz.prog 78 [ss a0, ii a1, ss a2] (ii r) false) := ⟨fun r h => by
 refine FnR.of_ev (T := T) (rows := []) tOk mixed Tryz.func78 rfl (by kernel_rfl) (by kernel_rfl) rfl fun hwf => ?_
 unfold cA at h
 refine sj <| sn <| sj ?_
 refine cP.img (fun x : Int => St.of [⟨0, ss a0, none⟩, ⟨1, ii x, none⟩, ⟨2, ss a2, none⟩] [] []) (fE a0 a2) a1 h ?_ ?_
 ·exact W
 intro n1 x y1 h hl1 hr1
 revert h; revert x; intro s1 h
 unfold fE at h
 refine sj <| sj <| aF.same <| sn ?_
 refine Br.of h (fun ht h => ?_) fun ht h => ?_
 ·refine sn <| sj <| sj <| sn ?_
  refine cP.img (fun x : Int => St.of [⟨0, ss a0, none⟩, ⟨1, ii s1, none⟩, ⟨2, ss a2, none⟩, ⟨7, ii x, none⟩] [] []) (eD a0 a2 s1) (0 : Int) h ?_ ?_
  ·exact W
  intro n2 x y2 h hl2 hr2
  revert h; revert x; intro s2 h
  unfold eD at h
  exact W
 ·exact W⟩
instance vF (E : Pm.Env) [aI E] (a0 : aA) (a1 : aA) : Ok E (bK a0 a1) (fun r => FnR E Tryz.prog 144 [ss a0, ss a1] (ii r) false) := ⟨fun r h => by
 refine FnR.of_ev (T := T) (rows := []) tOk mixed Tryz.func144 rfl (by kernel_rfl) (by kernel_rfl) rfl fun hwf => ?_
 unfold bK at h
 refine sj <| sn <| sj <| sj <| sn ?_
 refine cP.img (fun x : Int => St.of [⟨0, ss a0, none⟩, ⟨1, ss a1, none⟩, ⟨5, ii x, none⟩] [] []) (fF a0 a1) (0 : Int) h ?_ ?_
 ·exact W
 intro n1 x y1 h hl1 hr1
 revert h; revert x; intro s1 h
 unfold fF at h
 exact W⟩
instance aCw (E : Pm.Env) [aI E] (a0 : aA) (a1 : aA) : Ok E (bF a0 a1) (fun r => FnR E Tryz.prog 145 [ss a0, ss a1] (ss r) false) := ⟨fun r h => by
 refine FnR.of_ev (T := T) (rows := []) tOk mixed Tryz.func145 rfl (by kernel_rfl) (by kernel_rfl) rfl fun hwf => ?_
 unfold bF at h
 refine sj <| sn <| sj <| aD h fun x1 hx1 h => aK.data _ false rfl ((vF E a0 a1).1 x1 hx1) <| sn <| sj <| sj <| sn ?_
 refine Br.of h (fun ht h => ?_) fun ht h => ?_
 ·exact W
 ·refine sn <| sj <| aF.same <| sn <| sj <| sn <| aD h fun j2 hj2 h => ?_
  refine SeqJ.join (St.of [⟨0, ss a0, none⟩, ⟨6, ii (IntKind.i64.wrap (x1 + (a1.length : Int))), none⟩, ⟨7, ii j2, none⟩] [] []) ?_ ?_
  ·clear h; have h := hj2; clear hj2
   refine cP.img (fun x : Int => St.of [⟨0, ss a0, none⟩, ⟨6, ii (IntKind.i64.wrap (x1 + (a1.length : Int))), none⟩, ⟨7, ii x, none⟩] [] []) (dS a0) (IntKind.i64.wrap (x1 + (a1.length : Int))) h ?_ ?_
   ·exact W
   intro n1 x y1 h hl1 hr1
   revert h; revert x; intro s3 h
   unfold dS at h
   exact W
  ·clear hj2
   exact W⟩
instance aCJ (E : Pm.Env) [aI E] (a0 : aA) : Ok E (gX a0) (fun r => FnR E Tryz.prog 124 [ss a0] (AV.tup [ss r.1, ss r.2.1, ss r.2.2]) false) := ⟨fun r h => by
 refine FnR.of_ev (T := T) (rows := []) tOk mixed Tryz.func124 rfl (by kernel_rfl) (by kernel_rfl) rfl fun hwf => ?_
 unfold gX at h
 exact W⟩
instance aCK (E : Pm.Env) [aI E] (a0 : aA) (a1 : aA) : Ok E (bQ a0 a1) (fun r => FnR E Tryz.prog 100 [ss a0, ss a1] (ss r) false) := ⟨fun r h => by
 refine FnR.of_ev (T := T) (rows := []) tOk mixed Tryz.func100 rfl (by kernel_rfl) (by kernel_rfl) rfl fun hwf => ?_
 unfold bQ at h
 exact W⟩
instance lG (E : Pm.Env) [aI E] (a0 : aA) (a1 : Int) : Ok E (cM a0 a1) (fun r => FnR E Tryz.prog 126 [ss a0, AV.int .u8 a1] (AV.tup [ss r.1, ss r.2.1, bb r.2.2]) false) := ⟨fun r h => by
 refine FnR.of_ev (T := T) (rows := []) tOk mixed Tryz.func126 rfl (by kernel_rfl) (by kernel_rfl) rfl fun hwf => ?_
 unfold cM at h
 refine sj <| sn <| sj <| sj <| sn ?_
 refine cP.img (fun x : Int => St.of [⟨0, ss a0, none⟩, ⟨1, AV.int .u8 a1, none⟩, ⟨7, ii x, none⟩] [] []) (eW a0 a1) (0 : Int) h ?_ ?_
 ·exact W
 intro n1 x y1 h hl1 hr1
 revert h; revert x; intro s1 h
 unfold eW at h
 exact W⟩
instance jU (E : Pm.Env) [aI E] (a0 : aA) (a1 : Int) : Ok E (eE a0 a1) (fun r => FnR E Tryz.prog 125 [ss a0, AV.int .u8 a1] (AV.list 1 (r.map AV.str)) true) := ⟨fun r h => by
 refine FnR.of_ev (T := T) (rows := []) tOk mixed Tryz.func125 rfl (by kernel_rfl) (by kernel_rfl) rfl fun hwf => ?_
 unfold eE at h
 refine sj <| sn <| sj <| ai ⟨rfl, rfl, rfl⟩ <| aF.to (AV.list 1 (([] : List aA).map AV.str)) (fun _ => rfl) <| sn ?_
 refine cP.img (fun x : (aA × (List aA)) => St.of [⟨0, ss x.1, none⟩, ⟨1, AV.int .u8 a1, none⟩, ⟨5, AV.list 1 (x.2.map AV.str), some 0⟩] [] [1]) (e8 a1) (a0, ([] : List aA)) h ?_ ?_
 ·exact W
 intro n1 x y1 h hl1 hr1
 obtain ⟨s1, s2⟩ := x
 unfold e8 at h
 dsimp only at h
 exact W⟩
instance aCL (E : Pm.Env) [aI E] (a0 : Int) : Ok E (fG a0) (fun r => FnR E Tryz.prog 146 [AV.int .u8 a0] (bb r) false) := ⟨fun r h => by
 refine FnR.of_ev (T := T) (rows := []) tOk mixed Tryz.func146 rfl (by kernel_rfl) (by kernel_rfl) rfl fun hwf => ?_
 unfold fG at h
 exact W⟩
instance kH (E : Pm.Env) [aI E] (a0 : aA) : Ok E (eO a0) (fun r => FnR E Tryz.prog 127 [ss a0] (ss r) false) := ⟨fun r h => by
 refine FnR.of_ev (T := T) (rows := []) tOk mixed Tryz.func127 rfl (by kernel_rfl) (by kernel_rfl) rfl fun hwf => ?_
 unfold eO at h
 refine sj <| sn <| aD h fun j1 hj1 h => ?_
 refine SeqJ.join (St.of [⟨0, ss j1, none⟩] [] []) ?_ ?_
 ·clear h; have h := hj1; clear hj1
  refine cP.img (fun x : aA => St.of [⟨0, ss x, none⟩] [] []) iD a0 h ?_ ?_
  ·exact W
  intro n1 x y1 h hl1 hr1
  revert h; revert x; intro s2 h
  unfold iD at h
  exact W
 ·clear hj1
  refine aD h fun j6 hj6 h => ?_
  refine SeqJ.join (St.of [⟨0, ss j6, none⟩] [] []) ?_ ?_
  ·clear h; have h := hj6; clear hj6
   refine cP.img (fun x : aA => St.of [⟨0, ss x, none⟩] [] []) iE j1 h ?_ ?_
   ·exact W
   intro n2 x y2 h hl2 hr2
   revert h; revert x; intro s7 h
   unfold iE at h
   exact W
  ·clear hj6
   exact W⟩
instance uD (E : Pm.Env) [aI E] (a0 : aA) (a1 : Int) : Ok E (iU a0 a1) (fun r => FnR E Tryz.prog 147 [ss a0, ii a1] (ii r) false) := ⟨fun r h => by
 refine FnR.of_ev (T := T) (rows := []) tOk mixed Tryz.func147 rfl (by kernel_rfl) (by kernel_rfl) rfl fun hwf => ?_
 unfold iU at h
 refine sj <| sn <| sj <| sn <| aD h fun j1 hj1 h => ?_
 refine SeqJ.join (St.of [⟨0, ss a0, none⟩, ⟨5, ii j1, none⟩] [] []) ?_ ?_
 ·clear h; have h := hj1; clear hj1
  refine cP.img (fun x : Int => St.of [⟨0, ss a0, none⟩, ⟨5, ii x, none⟩] [] []) (cZ a0) (IntKind.i64.wrap (a1 + (1 : Int))) h ?_ ?_
  ·exact W
  intro n1 x y1 h hl1 hr1
  revert h; revert x; intro s2 h
  unfold cZ at h
  exact W
 ·clear hj1
  exact W⟩
instance aBt (E : Pm.Env) [aI E] (a0 : Int) : Ok E (fU a0) (fun r => FnR E Tryz.prog 148 [AV.int .u8 a0] (bb r) false) := ⟨fun r h => by
 refine FnR.of_ev (T := T) (rows := []) tOk mixed Tryz.func148 rfl (by kernel_rfl) (by kernel_rfl) rfl fun hwf => ?_
 unfold fU at h
 exact W⟩
instance qJ (E : Pm.Env) [aI E] (a0 : aA) : Ok E (fV a0) (fun r => FnR E Tryz.prog 128 [ss a0] (AV.tup [ss r.1, ii r.2]) false) := ⟨fun r h => by
 refine FnR.of_ev (T := T) (rows := []) tOk mixed Tryz.func128 rfl (by kernel_rfl) (by kernel_rfl) rfl fun hwf => ?_
 unfold fV at h
 refine sj <| sn <| sj <| sj <| aD h fun x1 hx1 h => ai id ?_
 refine xi x1 (ai (fun hg => pB hx1 hg) ?_)
 refine ai id <| ai (fun hg => (hY hg)) <| aD h fun x2 hx2 h => ai id <| ai rfl ?_
 refine o7.mk _ false (fun hg => (uD E a0 (0 : Int)).1 x2 (dX hx2 hg)) (ai rfl ?_)
 refine ai id <| aF.same <| ai id <| ai id <| ai (fun hg => (hY hg)) <| sn ?_
 refine Br.of h (fun ht h => ?_) fun ht h => ?_
 ·exact W
 ·refine sn <| sj <| sn <| sj <| sn <| sj ?_
  refine cP.img (fun x : (aA × Int) => St.of [⟨0, ss a0, none⟩, ⟨4, ss x.1, none⟩, ⟨5, ii x.2, none⟩] [] []) (bL a0) (([] : aA), (1 : Int)) h ?_ ?_
  ·exact W
  intro n1 x y1 h hl1 hr1
  obtain ⟨s3, s4⟩ := x
  unfold bL at h
  dsimp only at h
  exact W⟩
instance aBu (E : Pm.Env) [aI E] (a0 : aA) : Ok E (aZ a0) (fun r => FnR E Tryz.prog 102 [ss a0] (AV.list 2 (r.map aE.av)) true) := ⟨fun r h => by
 refine FnR.of_ev (T := T) (rows := []) tOk mixed Tryz.func102 rfl (by kernel_rfl) (by kernel_rfl) rfl fun hwf => ?_
 unfold aZ at h
 refine sj <| sn <| sj <| ai ⟨rfl, rfl, rfl⟩ <| aF.to (AV.list 2 (([] : List aE).map aE.av)) (fun _ => rfl) <| sn <| aD h fun j1 hj1 h => ?_
 refine SeqJ.join (St.of [⟨3, AV.list 2 (j1.map aE.av), some 0⟩] [] [1]) ?_ ?_
 ·clear h; have h := hj1; clear hj1
  refine sj <| aD h fun x2 hx2 h => aK.data _ true rfl ((jU E a0 (59 : Int)).1 x2 hx2) <| aF.to (ii (x2.length : Int)) (fun _ => bB ss x2) <| sn ?_
  refine cP.img (fun x : ((List aE) × Int) => St.of [⟨3, AV.list 2 (x.1.map aE.av), some 0⟩, ⟨15, AV.list 1 (x2.map AV.str), some 1⟩, ⟨16, ii (x2.length : Int), none⟩, ⟨17, ii x.2, none⟩] [] [1, 1]) (dD x2) (([] : List aE), (0 : Int)) h ?_ ?_
  ·refine Gho.to _ _ _ [1, 2] ?_ ?_ ?_ rfl rfl ?_
   ·exact trivial
   ·exact rfl
   ·exact rfl
   ·exact ⟨rfl, rfl, ⟨rfl, rfl, rfl⟩, rfl, rfl, ⟨rfl, rfl, rfl⟩, rfl, rfl, trivial, rfl, rfl, trivial, trivial⟩
  intro n1 x y1 h hl1 hr1
  obtain ⟨s3, s4⟩ := x
  unfold dD at h
  dsimp only at h
  refine sj <| sn <| sj ?_
  refine Br.of h (fun ht h => ?_) fun ht h => ?_
  ·refine sn <| sj <| sj <| aD h fun x5 hx5 h => ?_
   refine ai rfl (xi (ss x5) (ai (fun hg => cY _ hx5) ?_))
   refine sn <| sj <| aD h fun x6 hx6 h => aK.data _ false rfl ((lG E x5 (61 : Int)).1 x6 hx6) <| sn <| sj <| aD h fun x7 hx7 h => aK.data _ false rfl ((kH E x6.1).1 x7 hx7) <| sn <| sj <| aD h fun x8 hx8 h => aK.data _ false rfl ((kH E x6.2.1).1 x8 hx8) <| sn <| sj <| aD h fun x9 hx9 h => aK.data _ false rfl ((qJ E x8).1 x9 hx9) <| sn <| sj <| sj <| sn ?_
   refine Br.of h (fun ht h => ?_) fun ht h => ?_
   ·refine sn <| sj <| ai id <| ai (fun hg => (hY hg)) <| sn ?_
    refine Br.of h (fun ht h => ?_) fun ht h => ?_
    ·refine ai ⟨rfl, rfl, lb rfl⟩ <| ai ⟨rfl, rfl, lb rfl⟩ ?_
     refine xi none (ai trivial ?_)
     refine ai ⟨rfl, rfl, rfl, rfl⟩ <| ai ⟨rfl, rfl, rfl⟩ <| aF.to (AV.list 2 (([(aE.mk x7 x9.1)] : List aE).map aE.av)) (fun _ => rfl) <| aD h fun x10 hx10 h => ?_
     have qx10 := (dE hx10).1
     have hx10e := (dE hx10).2
     refine ai ⟨rfl, rfl, rfl⟩ <| ai rfl <| ai (jZ aE.av qx10) <| aF.to (AV.list 2 (x10.map aE.av)) (fun _ => (j3 2 aE.av _ _).trans (congrArg (fun y => AV.list 2 (aPK aE.av y)) hx10e.symm)) <| sn ?_
     replace h := oi h
     refine xi ⟨(n1, (x10, (IntKind.i64.wrap (s4 + (1 : Int))))), hl1 _ h.symm⟩ (ai (aPJ _) ?_)
     refine Gho.to _ _ _ [3, 1] ?_ ?_ ?_ rfl rfl ?_
     ·exact trivial
     ·exact rfl
     ·exact rfl
     ·exact ⟨rfl, rfl, ⟨rfl, rfl, rfl⟩, rfl, rfl, ⟨rfl, rfl, rfl⟩, rfl, rfl, trivial, rfl, rfl, trivial, trivial⟩
    ·refine sn ?_
     replace h := oi h
     refine xi ⟨(n1, (s3, (IntKind.i64.wrap (s4 + (1 : Int))))), hl1 _ h.symm⟩ (ai (aPJ _) ?_)
     refine Gho.to _ _ _ [0, 1] ?_ ?_ ?_ rfl rfl ?_
     ·exact trivial
     ·exact rfl
     ·exact rfl
     ·exact ⟨rfl, rfl, ⟨rfl, rfl, rfl⟩, rfl, rfl, ⟨rfl, rfl, rfl⟩, rfl, rfl, trivial, rfl, rfl, trivial, trivial⟩
   ·refine sn <| sj <| ai id <| ai (fun hg => (hY hg)) <| sn ?_
    refine Br.of h (fun ht h => ?_) fun ht h => ?_
    ·refine ai ⟨rfl, rfl, lb rfl⟩ <| ai ⟨rfl, rfl, lb rfl⟩ ?_
     refine xi none (ai trivial ?_)
     refine ai ⟨rfl, rfl, rfl, rfl⟩ <| ai ⟨rfl, rfl, rfl⟩ <| aF.to (AV.list 2 (([(aE.mk x7 x8)] : List aE).map aE.av)) (fun _ => rfl) <| aD h fun x11 hx11 h => ?_
     have qx11 := (dE hx11).1
     have hx11e := (dE hx11).2
     refine ai ⟨rfl, rfl, rfl⟩ <| ai rfl <| ai (jZ aE.av qx11) <| aF.to (AV.list 2 (x11.map aE.av)) (fun _ => (j3 2 aE.av _ _).trans (congrArg (fun y => AV.list 2 (aPK aE.av y)) hx11e.symm)) <| sn ?_
     replace h := oi h
     refine xi ⟨(n1, (x11, (IntKind.i64.wrap (s4 + (1 : Int))))), hl1 _ h.symm⟩ (ai (aPJ _) ?_)
     refine Gho.to _ _ _ [3, 1] ?_ ?_ ?_ rfl rfl ?_
     ·exact trivial
     ·exact rfl
     ·exact rfl
     ·exact ⟨rfl, rfl, ⟨rfl, rfl, rfl⟩, rfl, rfl, ⟨rfl, rfl, rfl⟩, rfl, rfl, trivial, rfl, rfl, trivial, trivial⟩
    ·refine sn ?_
     replace h := oi h
     refine xi ⟨(n1, (s3, (IntKind.i64.wrap (s4 + (1 : Int))))), hl1 _ h.symm⟩ (ai (aPJ _) ?_)
     refine Gho.to _ _ _ [0, 1] ?_ ?_ ?_ rfl rfl ?_
     ·exact trivial
     ·exact rfl
     ·exact rfl
     ·exact ⟨rfl, rfl, ⟨rfl, rfl, rfl⟩, rfl, rfl, ⟨rfl, rfl, rfl⟩, rfl, rfl, trivial, rfl, rfl, trivial, trivial⟩
  ·exact W
 ·clear hj1
  exact W⟩
instance aDS (E : Pm.Env) [aI E] (a0 : (List aE)) (a1 : aA) : Ok E (aV a0 a1) (fun r => FnR E Tryz.prog 101 [AV.list 2 (a0.map aE.av), ss a1] (AV.tup [ss r.1, bb r.2]) false) := ⟨fun r h => by
 refine FnR.of_ev (T := T) (rows := []) tOk mixed Tryz.func101 rfl (by kernel_rfl) (by kernel_rfl) rfl fun hwf => ?_
 unfold aV at h
 refine sj <| sn <| sj <| sj <| aF.to (ii (a0.length : Int)) (fun _ => bB aE.av a0) <| sn ?_
 refine cP.img (fun x : Int => St.of [⟨1, ss a1, none⟩, ⟨8, AV.list 2 (a0.map aE.av), none⟩, ⟨9, ii (a0.length : Int), none⟩, ⟨10, ii x, none⟩] [] []) (cG a0 a1) (0 : Int) h ?_ ?_
 ·exact W
 intro n1 x y1 h hl1 hr1
 revert h; revert x; intro s1 h
 unfold cG at h
 exact W⟩
instance aCM (E : Pm.Env) [aI E] (a0 : Int) : Ok E (cT a0) (fun r => FnR E Tryz.prog 149 [AV.int .u8 a0] (ii r) false) := ⟨fun r h => by
 refine FnR.of_ev (T := T) (rows := []) tOk mixed Tryz.func149 rfl (by kernel_rfl) (by kernel_rfl) rfl fun hwf => ?_
 unfold cT at h
 exact W⟩
instance mV (E : Pm.Env) [aI E] (a0 : aA) : Ok E (fH a0) (fun r => FnR E Tryz.prog 129 [ss a0] (ss r) false) := ⟨fun r h => by
 refine FnR.of_ev (T := T) (rows := []) tOk mixed Tryz.func129 rfl (by kernel_rfl) (by kernel_rfl) rfl fun hwf => ?_
 unfold fH at h
 refine sj <| sn <| sj <| sn <| aD h fun j1 hj1 h => ?_
 refine SeqJ.join (St.of [⟨3, ss j1, none⟩] [] []) ?_ ?_
 ·clear h; have h := hj1; clear hj1
  refine cP.img (fun x : (aA × aA) => St.of [⟨0, ss x.1, none⟩, ⟨3, ss x.2, none⟩] [] []) c8 (a0, ([] : aA)) h ?_ ?_
  ·exact W
  intro n1 x y1 h hl1 hr1
  obtain ⟨s2, s3⟩ := x
  unfold c8 at h
  dsimp only at h
  exact W
 ·clear hj1
  exact W⟩
instance aCN (E : Pm.Env) [aI E] (a0 : aA) : Ok E (bE a0) (fun r => FnR E Tryz.prog 103 [ss a0] (AV.list 2 (r.map aE.av)) true) := ⟨fun r h => by
 refine FnR.of_ev (T := T) (rows := []) tOk mixed Tryz.func103 rfl (by kernel_rfl) (by kernel_rfl) rfl fun hwf => ?_
 unfold bE at h
 refine sj <| sn <| sj <| ai ⟨rfl, rfl, rfl⟩ <| aF.to (AV.list 2 (([] : List aE).map aE.av)) (fun _ => rfl) <| sn <| aD h fun j1 hj1 h => ?_
 refine SeqJ.join (St.of [⟨3, AV.list 2 (j1.map aE.av), some 0⟩] [] [1]) ?_ ?_
 ·clear h; have h := hj1; clear hj1
  refine sj <| aD h fun x2 hx2 h => aK.data _ true rfl ((jU E a0 (38 : Int)).1 x2 hx2) <| aF.to (ii (x2.length : Int)) (fun _ => bB ss x2) <| sn ?_
  refine cP.img (fun x : ((List aE) × Int) => St.of [⟨3, AV.list 2 (x.1.map aE.av), some 0⟩, ⟨11, AV.list 1 (x2.map AV.str), some 1⟩, ⟨12, ii (x2.length : Int), none⟩, ⟨13, ii x.2, none⟩] [] [1, 1]) (d5 x2) (([] : List aE), (0 : Int)) h ?_ ?_
  ·refine Gho.to _ _ _ [1, 2] ?_ ?_ ?_ rfl rfl ?_
   ·exact trivial
   ·exact rfl
   ·exact rfl
   ·exact ⟨rfl, rfl, ⟨rfl, rfl, rfl⟩, rfl, rfl, ⟨rfl, rfl, rfl⟩, rfl, rfl, trivial, rfl, rfl, trivial, trivial⟩
  intro n1 x y1 h hl1 hr1
  obtain ⟨s3, s4⟩ := x
  unfold d5 at h
  dsimp only at h
  refine sj <| sn <| sj ?_
  refine Br.of h (fun ht h => ?_) fun ht h => ?_
  ·refine sn <| sj <| sj <| aD h fun x5 hx5 h => ?_
   refine ai rfl (xi (ss x5) (ai (fun hg => cY _ hx5) ?_))
   refine sn <| sj <| sn ?_
   refine Br.of h (fun ht h => ?_) fun ht h => ?_
   ·refine sj <| aD h fun x6 hx6 h => aK.data _ false rfl ((lG E x5 (61 : Int)).1 x6 hx6) <| sn <| aD h fun x7 hx7 h => aK.data _ false rfl ((mV E x6.1).1 x7 hx7) <| aD h fun x8 hx8 h => aK.data _ false rfl ((mV E x6.2.1).1 x8 hx8) <| ai ⟨rfl, rfl, lb rfl⟩ <| ai ⟨rfl, rfl, lb rfl⟩ ?_
    refine xi none (ai trivial ?_)
    refine ai ⟨rfl, rfl, rfl, rfl⟩ <| ai ⟨rfl, rfl, rfl⟩ <| aF.to (AV.list 2 (([(aE.mk x7 x8)] : List aE).map aE.av)) (fun _ => rfl) <| aD h fun x9 hx9 h => ?_
    have qx9 := (dE hx9).1
    have hx9e := (dE hx9).2
    refine ai ⟨rfl, rfl, rfl⟩ <| ai rfl <| ai (jZ aE.av qx9) <| aF.to (AV.list 2 (x9.map aE.av)) (fun _ => (j3 2 aE.av _ _).trans (congrArg (fun y => AV.list 2 (aPK aE.av y)) hx9e.symm)) <| sn ?_
    replace h := oi h
    refine xi ⟨(n1, (x9, (IntKind.i64.wrap (s4 + (1 : Int))))), hl1 _ h.symm⟩ (ai (aPJ _) ?_)
    refine Gho.to _ _ _ [3, 1] ?_ ?_ ?_ rfl rfl ?_
    ·exact trivial
    ·exact rfl
    ·exact rfl
    ·exact ⟨rfl, rfl, ⟨rfl, rfl, rfl⟩, rfl, rfl, ⟨rfl, rfl, rfl⟩, rfl, rfl, trivial, rfl, rfl, trivial, trivial⟩
   ·refine sn ?_
    replace h := oi h
    refine xi ⟨(n1, (s3, (IntKind.i64.wrap (s4 + (1 : Int))))), hl1 _ h.symm⟩ (ai (aPJ _) ?_)
    refine Gho.to _ _ _ [0, 1] ?_ ?_ ?_ rfl rfl ?_
    ·exact trivial
    ·exact rfl
    ·exact rfl
    ·exact ⟨rfl, rfl, ⟨rfl, rfl, rfl⟩, rfl, rfl, ⟨rfl, rfl, rfl⟩, rfl, rfl, trivial, rfl, rfl, trivial, trivial⟩
  ·exact W
 ·clear hj1
  exact W⟩
instance rX (E : Pm.Env) [aI E] (a0 : aA) : Ok E (bR a0) (fun r => FnR E Tryz.prog 105 [ss a0] (ss r) false) := ⟨fun r h => by
 refine FnR.of_ev (T := T) (rows := []) tOk mixed Tryz.func105 rfl (by kernel_rfl) (by kernel_rfl) rfl fun hwf => ?_
 unfold bR at h
 refine sj <| sn <| sj <| sn <| aD h fun j1 hj1 h => ?_
 refine SeqJ.join (St.of [⟨3, ss j1, none⟩] [] []) ?_ ?_
 ·clear h; have h := hj1; clear hj1
  refine sj <| sn ?_
  refine cP.img (fun x : (aA × Int) => St.of [⟨0, ss a0, none⟩, ⟨3, ss x.1, none⟩, ⟨4, ii x.2, none⟩] [] []) (d6 a0) (([] : aA), (0 : Int)) h ?_ ?_
  ·exact W
  intro n1 x y1 h hl1 hr1
  obtain ⟨s2, s3⟩ := x
  unfold d6 at h
  dsimp only at h
  exact W
 ·clear hj1
  exact W⟩
instance cF (E : Pm.Env) [aI E] (a0 : aA) : Ok E (aT a0) (fun r => FnR E Tryz.prog 104 [ss a0] (AV.list 1 (r.map AV.str)) true) := ⟨fun r h => by
 refine FnR.of_ev (T := T) (rows := []) tOk mixed Tryz.func104 rfl (by kernel_rfl) (by kernel_rfl) rfl fun hwf => ?_
 unfold aT at h
 refine sj <| sn <| sj <| ai ⟨rfl, rfl, rfl⟩ <| aF.to (AV.list 1 (([] : List aA).map AV.str)) (fun _ => rfl) <| sn <| aD h fun j1 hj1 h => ?_
 refine SeqJ.join (St.of [⟨3, AV.list 1 (j1.map AV.str), some 0⟩] [] [1]) ?_ ?_
 ·clear h; have h := hj1; clear hj1
  refine sj <| aD h fun x2 hx2 h => aK.data _ true rfl ((jU E a0 (44 : Int)).1 x2 hx2) <| aF.to (ii (x2.length : Int)) (fun _ => bB ss x2) <| sn ?_
  refine cP.img (fun x : ((List aA) × Int) => St.of [⟨3, AV.list 1 (x.1.map AV.str), some 0⟩, ⟨15, AV.list 1 (x2.map AV.str), some 1⟩, ⟨16, ii (x2.length : Int), none⟩, ⟨17, ii x.2, none⟩] [] [1, 1]) (cS x2) (([] : List aA), (0 : Int)) h ?_ ?_
  ·refine Gho.to _ _ _ [1, 2] ?_ ?_ ?_ rfl rfl ?_
   ·exact trivial
   ·exact rfl
   ·exact rfl
   ·exact ⟨rfl, rfl, ⟨rfl, rfl, rfl⟩, rfl, rfl, ⟨rfl, rfl, rfl⟩, rfl, rfl, trivial, rfl, rfl, trivial, trivial⟩
  intro n1 x y1 h hl1 hr1
  obtain ⟨s3, s4⟩ := x
  unfold cS at h
  dsimp only at h
  refine sj <| sn <| sj ?_
  refine Br.of h (fun ht h => ?_) fun ht h => ?_
  ·refine sn <| aD h fun j5 hj5 h => ?_
   refine SeqJ.join (St.of [⟨3, AV.list 1 (j5.map AV.str), some 0⟩, ⟨15, AV.list 1 (x2.map AV.str), some 1⟩, ⟨16, ii (x2.length : Int), none⟩, ⟨17, ii s4, none⟩] [] [1, 1]) ?_ ?_
   ·clear h; have h := hj5; clear hj5
    refine sj <| aD h fun x6 hx6 h => ?_
    refine ai rfl (xi (ss x6) (ai (fun hg => cY _ hx6) ?_))
    refine sn <| sj <| aD h fun x7 hx7 h => aK.data _ false rfl ((lG E x6 (59 : Int)).1 x7 hx7) <| sn <| sj <| aD h fun x8 hx8 h => aK.data _ false rfl ((kH E x7.1).1 x8 hx8) <| aD h fun x9 hx9 h => aK.data _ false rfl ((rX E x8).1 x9 hx9) <| sn <| sj <| sn <| aD h fun j10 hj10 h => ?_
    refine SeqJ.join (St.of [⟨3, AV.list 1 (s3.map AV.str), some 0⟩, ⟨9, ss x9, none⟩, ⟨10, bb j10, none⟩, ⟨15, AV.list 1 (x2.map AV.str), some 1⟩, ⟨16, ii (x2.length : Int), none⟩, ⟨17, ii s4, none⟩] [] [1, 1]) ?_ ?_
    ·clear h; have h := hj10; clear hj10
     refine sj <| aF.to (ii (s3.length : Int)) (fun _ => bB ss s3) <| sn ?_
     refine cP.img (fun x : (Bool × Int) => St.of [⟨3, AV.list 1 (s3.map AV.str), some 0⟩, ⟨9, ss x9, none⟩, ⟨10, bb x.1, none⟩, ⟨15, AV.list 1 (x2.map AV.str), some 1⟩, ⟨16, ii (x2.length : Int), none⟩, ⟨17, ii s4, none⟩, ⟨32, AV.list 1 (s3.map AV.str), none⟩, ⟨33, ii (s3.length : Int), none⟩, ⟨34, ii x.2, none⟩] [] [1, 1]) (cE s3 x9) ((x9 == ([] : aA)), (0 : Int)) h ?_ ?_
     ·refine Gho.to _ _ _ [0, 1] ?_ ?_ ?_ rfl rfl ?_
      ·exact trivial
      ·exact rfl
      ·exact rfl
      ·exact ⟨rfl, rfl, ⟨rfl, rfl, rfl⟩, rfl, rfl, trivial, rfl, rfl, trivial, rfl, rfl, ⟨rfl, rfl, rfl⟩, rfl, rfl, trivial, rfl, rfl, trivial, rfl, rfl, trivial, rfl, rfl, trivial, rfl, rfl, trivial, trivial⟩
     intro n2 x y2 h hl2 hr2
     obtain ⟨s11, s12⟩ := x
     unfold cE at h
     dsimp only at h
     refine sj <| sn <| sj ?_
     refine Br.of h (fun ht h => ?_) fun ht h => ?_
     ·refine sn <| sj <| sj <| aD h fun x13 hx13 h => ?_
      refine ai rfl (xi (ss x13) (ai (fun hg => cY _ hx13) ?_))
      refine sn <| ai id <| ai id <| ai (fun hg => (hY hg)) <| sn ?_
      replace h := oi h
      refine xi ⟨(n2, ((bif s11 then true else (x13 == x9)), (IntKind.i64.wrap (s12 + (1 : Int))))), hl2 _ h.symm⟩ (ai (aPJ _) ?_)
      refine Gho.to _ _ _ [0, 1] ?_ ?_ ?_ rfl rfl ?_
      ·exact trivial
      ·exact rfl
      ·exact rfl
      ·exact ⟨rfl, rfl, ⟨rfl, rfl, rfl⟩, rfl, rfl, trivial, rfl, rfl, trivial, rfl, rfl, ⟨rfl, rfl, rfl⟩, rfl, rfl, trivial, rfl, rfl, trivial, rfl, rfl, trivial, rfl, rfl, trivial, rfl, rfl, trivial, trivial⟩
     ·replace h := oi h
      replace h := hr2 _ h.symm
      subst h
      refine Gho.to _ _ _ [0, 1] ?_ ?_ ?_ rfl rfl ?_
      ·exact trivial
      ·exact rfl
      ·exact rfl
      ·exact ⟨rfl, rfl, ⟨rfl, rfl, rfl⟩, rfl, rfl, trivial, rfl, rfl, trivial, rfl, rfl, ⟨rfl, rfl, rfl⟩, rfl, rfl, trivial, rfl, rfl, trivial, trivial⟩
    ·clear hj10
     refine sj <| sn ?_
     refine Br.of h (fun ht h => ?_) fun ht h => ?_
     ·refine ai ⟨rfl, rfl, rfl, rfl⟩ <| ai ⟨rfl, rfl, rfl⟩ <| aF.to (AV.list 1 (([x9] : List aA).map AV.str)) (fun _ => rfl) <| aD h fun x14 hx14 h => ?_
      have qx14 := (dE hx14).1
      have hx14e := (dE hx14).2
      refine ai ⟨rfl, rfl, rfl⟩ <| ai rfl <| ai (jZ ss qx14) <| aF.to (AV.list 1 (x14.map AV.str)) (fun _ => (j3 1 ss _ _).trans (congrArg (fun y => AV.list 1 (aPK ss y)) hx14e.symm)) ?_
      replace h := oi h
      subst h
      refine Gho.to _ _ _ [3, 1] ?_ ?_ ?_ rfl rfl ?_
      ·exact trivial
      ·exact rfl
      ·exact rfl
      ·exact ⟨rfl, rfl, ⟨rfl, rfl, rfl⟩, rfl, rfl, ⟨rfl, rfl, rfl⟩, rfl, rfl, trivial, rfl, rfl, trivial, trivial⟩
     ·replace h := oi h
      subst h
      refine Gho.to _ _ _ [0, 1] ?_ ?_ ?_ rfl rfl ?_
      ·exact trivial
      ·exact rfl
      ·exact rfl
      ·exact ⟨rfl, rfl, ⟨rfl, rfl, rfl⟩, rfl, rfl, ⟨rfl, rfl, rfl⟩, rfl, rfl, trivial, rfl, rfl, trivial, trivial⟩
   ·clear hj5
    replace h := oi h
    refine xi ⟨(n1, (j5, (IntKind.i64.wrap (s4 + (1 : Int))))), hl1 _ h.symm⟩ (ai (aPJ _) ?_)
    refine Gho.to _ _ _ [0, 1] ?_ ?_ ?_ rfl rfl ?_
    ·exact trivial
    ·exact rfl
    ·exact rfl
    ·exact ⟨rfl, rfl, ⟨rfl, rfl, rfl⟩, rfl, rfl, ⟨rfl, rfl, rfl⟩, rfl, rfl, trivial, rfl, rfl, trivial, trivial⟩
  ·exact W
 ·clear hj1
  exact W⟩
instance aCO (E : Pm.Env) [aI E] (a0 : aL) (a1 : aA) (a2 : aA) : Ok E (bS a0 a1 a2) (fun r => FnR E Tryz.prog 79 [aL.av a0, ss a1, ss a2] (AV.tup [ss r.1, bb r.2]) false) := ⟨fun r h => by
 refine FnR.of_ev (T := T) (rows := []) tOk mixed Tryz.func79 rfl (by kernel_rfl) (by kernel_rfl) rfl fun hwf => ?_
 unfold bS at h
 refine sj <| ai rfl <| sn <| sj <| sn <| sj <| sj <| sn <| sj <| sn ?_
 refine Br.of h (fun ht h => ?_) fun ht h => ?_
 ·refine sn <| sj <| sj <| sn ?_
  refine Br.of h (fun ht h => ?_) fun ht h => ?_
  ·exact W
  ·refine sn <| sj <| sj <| sn <| sj <| sn ?_
   refine Br.of h (fun ht h => ?_) fun ht h => ?_
   ·exact W
   ·refine sj <| sn ?_
    refine Br.of h (fun ht h => ?_) fun ht h => ?_
    ·exact W
    ·refine sj <| sn ?_
     refine Br.of h (fun ht h => ?_) fun ht h => ?_
     ·exact W
     ·refine sj <| sn ?_
      refine Br.of h (fun ht h => ?_) fun ht h => ?_
      ·refine sj <| sj <| aD h fun x6 hx6 h => aK.data _ true rfl ((cF E a0.Language).1 x6 hx6) <| aF.to (ii (x6.length : Int)) (fun _ => bB ss x6) <| sn ?_
       refine cP.img (fun x : Int => St.of [⟨2, ss a2, none⟩, ⟨74, AV.list 1 (x6.map AV.str), some 0⟩, ⟨75, ii (x6.length : Int), none⟩, ⟨76, ii x, none⟩] [] [1]) (cC a2 x6) (0 : Int) h ?_ ?_
       ·exact W
       intro n1 x y1 h hl1 hr1
       revert h; revert x; intro s7 h
       unfold cC at h
       exact W
      ·exact W
 ·refine sj <| sn ?_
  refine Br.of h (fun ht h => ?_) fun ht h => ?_
  ·refine sn <| sj <| sj <| sn ?_
   refine Br.of h (fun ht h => ?_) fun ht h => ?_
   ·exact W
   ·refine sn <| sj <| sj <| sn <| sj <| sn ?_
    refine Br.of h (fun ht h => ?_) fun ht h => ?_
    ·exact W
    ·refine sj <| sn ?_
     refine Br.of h (fun ht h => ?_) fun ht h => ?_
     ·exact W
     ·refine sj <| sn ?_
      refine Br.of h (fun ht h => ?_) fun ht h => ?_
      ·exact W
      ·refine sj <| sn ?_
       refine Br.of h (fun ht h => ?_) fun ht h => ?_
       ·refine sj <| sj <| aD h fun x15 hx15 h => aK.data _ true rfl ((cF E a0.Language).1 x15 hx15) <| aF.to (ii (x15.length : Int)) (fun _ => bB ss x15) <| sn ?_
        refine cP.img (fun x : Int => St.of [⟨2, ss a2, none⟩, ⟨74, AV.list 1 (x15.map AV.str), some 0⟩, ⟨75, ii (x15.length : Int), none⟩, ⟨76, ii x, none⟩] [] [1]) (jL a2 x15) (0 : Int) h ?_ ?_
        ·exact W
        intro n2 x y2 h hl2 hr2
        revert h; revert x; intro s16 h
        unfold jL at h
        exact W
       ·exact W
  ·refine sj <| sn ?_
   refine Br.of h (fun ht h => ?_) fun ht h => ?_
   ·refine sn <| sj <| sj <| sn ?_
    refine Br.of h (fun ht h => ?_) fun ht h => ?_
    ·exact W
    ·refine sn <| sj <| sj <| sn <| sj <| sn ?_
     refine Br.of h (fun ht h => ?_) fun ht h => ?_
     ·exact W
     ·refine sj <| sn ?_
      refine Br.of h (fun ht h => ?_) fun ht h => ?_
      ·exact W
      ·refine sj <| sn ?_
       refine Br.of h (fun ht h => ?_) fun ht h => ?_
       ·exact W
       ·refine sj <| sn ?_
        refine Br.of h (fun ht h => ?_) fun ht h => ?_
        ·refine sj <| sj <| aD h fun x24 hx24 h => aK.data _ true rfl ((cF E a0.Language).1 x24 hx24) <| aF.to (ii (x24.length : Int)) (fun _ => bB ss x24) <| sn ?_
         refine cP.img (fun x : Int => St.of [⟨2, ss a2, none⟩, ⟨74, AV.list 1 (x24.map AV.str), some 0⟩, ⟨75, ii (x24.length : Int), none⟩, ⟨76, ii x, none⟩] [] [1]) (jM a2 x24) (0 : Int) h ?_ ?_
         ·exact W
         intro n3 x y3 h hl3 hr3
         revert h; revert x; intro s25 h
         unfold jM at h
         exact W
        ·exact W
   ·refine sj <| sn ?_
    refine Br.of h (fun ht h => ?_) fun ht h => ?_
    ·refine sn <| sj <| sj <| sn ?_
     refine Br.of h (fun ht h => ?_) fun ht h => ?_
     ·exact W
     ·refine sn <| sj <| sj <| sn <| sj <| sn ?_
      refine Br.of h (fun ht h => ?_) fun ht h => ?_
      ·exact W
      ·refine sj <| sn ?_
       refine Br.of h (fun ht h => ?_) fun ht h => ?_
       ·exact W
       ·refine sj <| sn ?_
        refine Br.of h (fun ht h => ?_) fun ht h => ?_
        ·exact W
        ·refine sj <| sn ?_
         refine Br.of h (fun ht h => ?_) fun ht h => ?_
         ·refine sj <| sj <| aD h fun x33 hx33 h => aK.data _ true rfl ((cF E a0.Language).1 x33 hx33) <| aF.to (ii (x33.length : Int)) (fun _ => bB ss x33) <| sn ?_
          refine cP.img (fun x : Int => St.of [⟨2, ss a2, none⟩, ⟨74, AV.list 1 (x33.map AV.str), some 0⟩, ⟨75, ii (x33.length : Int), none⟩, ⟨76, ii x, none⟩] [] [1]) (jN a2 x33) (0 : Int) h ?_ ?_
          ·exact W
          intro n4 x y4 h hl4 hr4
          revert h; revert x; intro s34 h
          unfold jN at h
          exact W
         ·exact W
    ·refine sj <| sn ?_
     refine Br.of h (fun ht h => ?_) fun ht h => ?_
     ·refine sn <| sj <| sj <| sn ?_
      refine Br.of h (fun ht h => ?_) fun ht h => ?_
      ·exact W
      ·refine sn <| sj <| sj <| sn <| sj <| sn ?_
       refine Br.of h (fun ht h => ?_) fun ht h => ?_
       ·exact W
       ·refine sj <| sn ?_
        refine Br.of h (fun ht h => ?_) fun ht h => ?_
        ·exact W
        ·refine sj <| sn ?_
         refine Br.of h (fun ht h => ?_) fun ht h => ?_
         ·exact W
         ·refine sj <| sn ?_
          refine Br.of h (fun ht h => ?_) fun ht h => ?_
          ·refine sj <| sj <| aD h fun x42 hx42 h => aK.data _ true rfl ((cF E a0.Language).1 x42 hx42) <| aF.to (ii (x42.length : Int)) (fun _ => bB ss x42) <| sn ?_
           refine cP.img (fun x : Int => St.of [⟨2, ss a2, none⟩, ⟨74, AV.list 1 (x42.map AV.str), some 0⟩, ⟨75, ii (x42.length : Int), none⟩, ⟨76, ii x, none⟩] [] [1]) (jO a2 x42) (0 : Int) h ?_ ?_
           ·exact W
           intro n5 x y5 h hl5 hr5
           revert h; revert x; intro s43 h
           unfold jO at h
           exact W
          ·exact W
     ·refine sj <| sn ?_
      refine Br.of h (fun ht h => ?_) fun ht h => ?_
      ·refine sn <| sj <| sj <| sn ?_
       refine Br.of h (fun ht h => ?_) fun ht h => ?_
       ·exact W
       ·refine sn <| sj <| sj <| sn <| sj <| sn ?_
        refine Br.of h (fun ht h => ?_) fun ht h => ?_
        ·exact W
        ·refine sj <| sn ?_
         refine Br.of h (fun ht h => ?_) fun ht h => ?_
         ·exact W
         ·refine sj <| sn ?_
          refine Br.of h (fun ht h => ?_) fun ht h => ?_
          ·exact W
          ·refine sj <| sn ?_
           refine Br.of h (fun ht h => ?_) fun ht h => ?_
           ·refine sj <| sj <| aD h fun x51 hx51 h => aK.data _ true rfl ((cF E a0.Language).1 x51 hx51) <| aF.to (ii (x51.length : Int)) (fun _ => bB ss x51) <| sn ?_
            refine cP.img (fun x : Int => St.of [⟨2, ss a2, none⟩, ⟨74, AV.list 1 (x51.map AV.str), some 0⟩, ⟨75, ii (x51.length : Int), none⟩, ⟨76, ii x, none⟩] [] [1]) (jP a2 x51) (0 : Int) h ?_ ?_
            ·exact W
            intro n6 x y6 h hl6 hr6
            revert h; revert x; intro s52 h
            unfold jP at h
            exact W
           ·exact W
      ·refine sn <| sj <| sj <| sn ?_
       refine Br.of h (fun ht h => ?_) fun ht h => ?_
       ·exact W
       ·refine sn <| sj <| sj <| sn <| sj <| sn ?_
        refine Br.of h (fun ht h => ?_) fun ht h => ?_
        ·exact W
        ·refine sj <| sn ?_
         refine Br.of h (fun ht h => ?_) fun ht h => ?_
         ·exact W
         ·refine sj <| sn ?_
          refine Br.of h (fun ht h => ?_) fun ht h => ?_
          ·exact W
          ·refine sj <| sn ?_
           refine Br.of h (fun ht h => ?_) fun ht h => ?_
           ·refine sj <| sj <| aD h fun x60 hx60 h => aK.data _ true rfl ((cF E a0.Language).1 x60 hx60) <| aF.to (ii (x60.length : Int)) (fun _ => bB ss x60) <| sn ?_
            refine cP.img (fun x : Int => St.of [⟨2, ss a2, none⟩, ⟨74, AV.list 1 (x60.map AV.str), some 0⟩, ⟨75, ii (x60.length : Int), none⟩, ⟨76, ii x, none⟩] [] [1]) (jQ a2 x60) (0 : Int) h ?_ ?_
            ·exact W
            intro n7 x y7 h hl7 hr7
            revert h; revert x; intro s61 h
            unfold jQ at h
            exact W
           ·exact W⟩
instance oA (E : Pm.Env) [aI E] (a0 : aL) (a1 : aA) : Ok E (cN a0 a1) (fun r => FnR E Tryz.prog 51 [aL.av a0, ss a1] (AV.tup [ss r.1, ii r.2]) false) := ⟨fun r h => by
 refine FnR.of_ev (T := T) (rows := []) tOk mixed Tryz.func51 rfl (by kernel_rfl) (by kernel_rfl) rfl fun hwf => ?_
 unfold cN at h
 refine sj <| ai rfl <| sn <| sj <| sn <| aD h fun j1 hj1 h => ?_
 refine SeqJ.join (St.of [⟨1, ss a1, none⟩, ⟨2, AV.ptr 0 0, none⟩, ⟨6, ii j1, none⟩] [.cells 23 (aL.cells a0) []] []) ?_ ?_
 ·clear h; have h := hj1; clear hj1
  refine cP.img (fun x : Int => St.of [⟨1, ss a1, none⟩, ⟨2, AV.ptr 0 0, none⟩, ⟨6, ii x, none⟩] [.cells 23 (aL.cells a0) []] []) (bN a1) (2 : Int) h ?_ ?_
  ·exact W
  intro n1 x y1 h hl1 hr1
  revert h; revert x; intro s2 h
  unfold bN at h
  exact W
 ·clear hj1
  exact W⟩
instance rY (E : Pm.Env) [aI E] (a0 : Int) : Ok E (fI a0) (fun r => FnR E Tryz.prog 61 [AV.int .u8 a0] (bb r) false) := ⟨fun r h => by
 refine FnR.of_ev (T := T) (rows := []) tOk mixed Tryz.func61 rfl (by kernel_rfl) (by kernel_rfl) rfl fun hwf => ?_
 unfold fI at h
 exact W⟩
instance aDT (E : Pm.Env) [aI E] (a0 : aA) : Ok E (iF a0) (fun r => FnR E Tryz.prog 38 [ss a0] (ii r) false) := ⟨fun r h => by
 refine FnR.of_ev (T := T) (rows := []) tOk mixed Tryz.func38 rfl (by kernel_rfl) (by kernel_rfl) rfl fun hwf => ?_
 unfold iF at h
 refine sj <| sn <| sj <| aD h fun x1 hx1 h => ?_
 refine xi x1 (ai (fun hg => jY hx1) ?_)
 refine sn <| sj <| sj <| sn ?_
 refine Br.of h (fun ht h => ?_) fun ht h => ?_
 ·refine sj <| sj <| sn ?_
  refine cP.img (fun x : Int => St.of [⟨0, ss a0, none⟩, ⟨4, ii x, none⟩] [] []) (dF a0) (1 : Int) h ?_ ?_
  ·exact W
  intro n1 x y1 h hl1 hr1
  revert h; revert x; intro s2 h
  unfold dF at h
  exact W
 ·refine sn <| sj ?_
  refine xi none (ai trivial ?_)
  refine aD h fun x4 hx4 h => aK.data _ false rfl ((oA E (aL.mk ([] : aA) ([] : aA) ([] : aA) ([] : aA) ([] : aA) ([] : aA)) a0).1 x4 hx4) <| sn <| sj <| sj <| sn ?_
  refine Br.of h (fun ht h => ?_) fun ht h => ?_
  ·exact W
  ·refine sn <| sj <| sj <| aD h fun x5 hx5 h => aK.data _ false rfl ((rY E (x1.toNat : Int)).1 x5 hx5) <| ai id <| ai (fun hg => (hY hg)) <| sn ?_
   refine Br.of h (fun ht h => ?_) fun ht h => ?_
   ·refine sj <| sn <| aD h fun j6 hj6 h => ?_
    refine SeqJ.join (St.of [⟨7, ii j6, none⟩] [] []) ?_ ?_
    ·clear h; have h := hj6; clear hj6
     refine cP.img (fun x : Int => St.of [⟨0, ss a0, none⟩, ⟨7, ii x, none⟩] [] []) (dG a0) (1 : Int) h ?_ ?_
     ·exact W
     intro n2 x y2 h hl2 hr2
     revert h; revert x; intro s7 h
     unfold dG at h
     exact W
    ·clear hj6
     exact W
   ·exact W⟩
instance rZ (E : Pm.Env) [aI E] (a0 : aA) : Ok E (gY a0) (fun r => FnR E Tryz.prog 21 [ss a0] (AV.tup [AV.list 1 (r.1.map AV.str), bb r.2]) false) := ⟨fun r h => by
 refine FnR.of_ev (T := T) (rows := []) tOk mixed Tryz.func21 rfl (by kernel_rfl) (by kernel_rfl) rfl fun hwf => ?_
 unfold gY at h
 refine sj <| sn <| sj <| ai ⟨rfl, rfl, rfl⟩ <| aF.to (AV.list 1 (([] : List aA).map AV.str)) (fun _ => rfl) <| sn <| sj ?_
 refine cP.img (fun x : (aA × (List aA)) => St.of [⟨0, ss x.1, none⟩, ⟨4, AV.list 1 (x.2.map AV.str), some 0⟩] [] [1]) c9 (a0, ([] : List aA)) h ?_ ?_
 ·exact W
 intro n1 x y1 h hl1 hr1
 obtain ⟨s1, s2⟩ := x
 unfold c9 at h
 dsimp only at h
 exact W⟩
instance sX (E : Pm.Env) [aI E] (a0 : (List aA)) (a1 : aA) : Ok E (iG a0 a1) (fun r => FnR E Tryz.prog 75 [AV.list 1 (a0.map AV.str), ss a1] (AV.list 1 (r.map (fun x : (List aA) => AV.list 1 (x.map AV.str)))) true) := ⟨fun r h => by
 refine FnR.of_ev (T := T) (rows := []) tOk mixed Tryz.func75 rfl (by kernel_rfl) (by kernel_rfl) rfl fun hwf => ?_
 unfold iG at h
 refine sj <| sn <| sj <| ai ⟨rfl, rfl, rfl⟩ <| aF.to (AV.list 1 (([] : List (List aA)).map (fun x : (List aA) => AV.list 1 (x.map AV.str)))) (fun _ => rfl) <| sn <| sj <| sn <| sj <| sn <| aD h fun j1 hj1 h => ?_
 refine SeqJ.join (St.of [⟨0, AV.list 1 (a0.map AV.str), none⟩, ⟨5, AV.list 1 (j1.1.map (fun x : (List aA) => AV.list 1 (x.map AV.str))), some 0⟩, ⟨6, ii j1.2, none⟩] [] [1]) ?_ ?_
 ·clear h; have h := hj1; clear hj1
  refine sj <| aF.to (ii (a0.length : Int)) (fun _ => bB ss a0) <| sn ?_
  refine cP.img (fun x : ((List (List aA)) × Int × Int × Int) => St.of [⟨0, AV.list 1 (a0.map AV.str), none⟩, ⟨1, ss a1, none⟩, ⟨5, AV.list 1 (x.1.map (fun x : (List aA) => AV.list 1 (x.map AV.str))), some 0⟩, ⟨6, ii x.2.1, none⟩, ⟨7, ii x.2.2.1, none⟩, ⟨11, AV.list 1 (a0.map AV.str), none⟩, ⟨12, ii (a0.length : Int), none⟩, ⟨13, ii x.2.2.2, none⟩] [] [1]) (dH a0 a1) (([] : List (List aA)), (0 : Int), (0 : Int), (0 : Int)) h ?_ ?_
  ·exact W
  intro n1 x y1 h hl1 hr1
  obtain ⟨s2, s3, s4, s5⟩ := x
  unfold dH at h
  dsimp only at h
  exact W
 ·clear hj1
  exact W⟩
instance rH (E : Pm.Env) [aI E] (a0 : (List aA)) : Ok E (gF a0) (fun r => FnR E Tryz.prog 98 [AV.list 1 (a0.map AV.str)] (bb r) false) := ⟨fun r h => by
 refine FnR.of_ev (T := T) (rows := []) tOk mixed Tryz.func98 rfl (by kernel_rfl) (by kernel_rfl) rfl fun hwf => ?_
 unfold gF at h
 refine sj <| sn <| sj <| sn <| sj <| sj <| aF.to (ii (a0.length : Int)) (fun _ => bB ss a0) <| sn ?_
 refine cP.img (fun x : (Int × Int) => St.of [⟨0, AV.list 1 (a0.map AV.str), none⟩, ⟨3, ii x.1, none⟩, ⟨6, AV.list 1 (a0.map AV.str), none⟩, ⟨7, ii (a0.length : Int), none⟩, ⟨8, ii x.2, none⟩] [] []) (cU a0) ((0 : Int), (0 : Int)) h ?_ ?_
 ·exact W
 intro n1 x y1 h hl1 hr1
 obtain ⟨s1, s2⟩ := x
 unfold cU at h
 dsimp only at h
 exact W⟩
instance aCP (E : Pm.Env) [aI E] (a0 : Int) : Ok E (eF a0) (fun r => FnR E Tryz.prog 106 [AV.int .u8 a0] (AV.int .u64 r) false) := ⟨fun r h => by
 refine FnR.of_ev (T := T) (rows := []) tOk mixed Tryz.func106 rfl (by kernel_rfl) (by kernel_rfl) rfl fun hwf => ?_
 unfold eF at h
 exact W⟩
instance aDU (E : Pm.Env) [aI E] (a0 : aA) (a1 : Int) : Ok E (f7 a0 a1) (fun r => FnR E Tryz.prog 80 [ss a0, AV.int .u64 a1] (AV.tup [AV.int .u64 r.1, ii r.2]) false) := ⟨fun r h => by
 refine FnR.of_ev (T := T) (rows := []) tOk mixed Tryz.func80 rfl (by kernel_rfl) (by kernel_rfl) rfl fun hwf => ?_
 unfold f7 at h
 refine sj <| sn <| sj <| sj <| sn ?_
 refine Br.of h (fun ht h => ?_) fun ht h => ?_
 ·exact W
 ·refine sn <| sj <| sj <| sn ?_
  refine cP.img (fun x : Int => St.of [⟨0, ss a0, none⟩, ⟨1, AV.int .u64 a1, none⟩, ⟨6, ii x, none⟩] [] []) (cH a0 a1) (0 : Int) h ?_ ?_
  ·exact W
  intro n1 x y1 h hl1 hr1
  revert h; revert x; intro s1 h
  unfold cH at h
  refine sj <| sj <| aF.same <| sn ?_
  refine Br.of h (fun ht h => ?_) fun ht h => ?_
  ·exact W
  ·refine sn <| sj <| sn <| sj <| sj <| sn ?_
   refine cP.img (fun x : (Int × Int) => St.of [⟨0, ss a0, none⟩, ⟨1, AV.int .u64 a1, none⟩, ⟨7, AV.int .u64 x.1, none⟩, ⟨8, ii x.2, none⟩] [] []) (dI a0 a1) ((0 : Int), (0 : Int)) h ?_ ?_
   ·exact W
   intro n2 x y2 h hl2 hr2
   obtain ⟨s4, s5⟩ := x
   unfold dI at h
   dsimp only at h
   exact W⟩
instance rI (E : Pm.Env) [aI E] (a0 : aA) : Ok E (gG a0) (fun r => FnR E Tryz.prog 52 [ss a0] (AV.tup [ii r.1, ii r.2]) false) := ⟨fun r h => by
 refine FnR.of_ev (T := T) (rows := []) tOk mixed Tryz.func52 rfl (by kernel_rfl) (by kernel_rfl) rfl fun hwf => ?_
 unfold gG at h
 exact W⟩
instance nT (E : Pm.Env) [aI E] (a0 : aA) : Ok E (cQ a0) (fun r => FnR E Tryz.prog 99 [ss a0] (aB.av r) false) := ⟨fun r h => by
 refine FnR.of_ev (T := T) (rows := []) tOk mixed Tryz.func99 rfl (by kernel_rfl) (by kernel_rfl) rfl fun hwf => ?_
 unfold cQ at h
 refine sj <| ai rfl <| sn <| sj <| sj <| aD h fun x1 hx1 h => ?_
 refine xi x1 (ai (fun hg => jY hx1) ?_)
 refine sn ?_
 refine Br.of h (fun ht h => ?_) fun ht h => ?_
 ·refine sj <| aF.same <| aD h fun x2 hx2 h => ?_
  have qx2 := (bJ hx2).1
  have hx2e := (bJ hx2).2
  refine ai (fun _ => qx2) <| aF.to (ss x2) (fun _ => congrArg ss hx2e.symm) <| ai ⟨rfl, rfl, lb rfl⟩ <| ai ⟨rfl, rfl, lb rfl⟩ ?_
  refine xi (some 26) (ai (okM.mk (show (26 : Nat) = nS T _ _ _ from by kernel_rfl)) ?_)
  exact W
 ·refine sn <| sj ?_
  refine xi none (ai trivial ?_)
  refine aD h fun x3 hx3 h => aK.data _ false rfl ((oA E (aL.mk ([] : aA) ([] : aA) ([] : aA) ([] : aA) ([] : aA) ([] : aA)) a0).1 x3 hx3) <| sn <| sj <| sj <| sn ?_
  refine Br.of h (fun ht h => ?_) fun ht h => ?_
  ·refine sj <| ai ⟨rfl, rfl, lb rfl⟩ <| ai ⟨rfl, rfl, lb rfl⟩ ?_
   refine xi (some 26) (ai (okM.mk (show (26 : Nat) = nS T _ _ _ from by kernel_rfl)) ?_)
   exact W
  ·refine sn <| sj <| aD h fun x4 hx4 h => aK.data _ false rfl ((rI E a0).1 x4 hx4) <| sn <| sj <| sj <| sn ?_
   refine Br.of h (fun ht h => ?_) fun ht h => ?_
   ·refine sj <| ai ⟨rfl, rfl, lb rfl⟩ <| ai ⟨rfl, rfl, lb rfl⟩ ?_
    refine xi (some 28) (ai (okM.mk (show (28 : Nat) = nS T _ _ _ from by kernel_rfl)) ?_)
    exact W
   ·refine sn <| sj ?_
    refine xi (some 31) (ai (okM.mk (show (31 : Nat) = nS T _ _ _ from by kernel_rfl)) ?_)
    exact W⟩
instance mP (E : Pm.Env) [aI E] (a0 : aA) : Ok E (dZ a0) (fun r => FnR E Tryz.prog 59 [ss a0] (bb r) false) := ⟨fun r h => by
 refine FnR.of_ev (T := T) (rows := []) tOk mixed Tryz.func59 rfl (by kernel_rfl) (by kernel_rfl) rfl fun hwf => ?_
 unfold dZ at h
 exact W⟩
theorem qK (E : Pm.Env) [aI E] (aNq : (List aA) -> Option aB) (aNv : ∀ (E : Pm.Env) [aI E] (a0 : (List aA)) (r : aB) (h : aNq a0 = some r), FnR E Tryz.prog 29 [AV.list 1 (a0.map AV.str)] (aB.av r) false) (aNE : (List aA) -> Option aB) (aNH : ∀ (E : Pm.Env) [aI E] (a0 : (List aA)) (r : aB) (h : aNE a0 = some r), FnR E Tryz.prog 76 [AV.list 1 (a0.map AV.str)] (aB.av r) false) (a0 : (List aA)) (r : aB) (h : fW aNq aNE a0 = some r) : FnR E Tryz.prog 76 [AV.list 1 (a0.map AV.str)] (aB.av r) false := by
 refine FnR.of_ev (T := T) (rows := []) tOk mixed Tryz.func76 rfl (by kernel_rfl) (by kernel_rfl) rfl fun hwf => ?_
 unfold fW at h
 refine sj <| ai rfl <| sn <| sj <| aF.to (ii (a0.length : Int)) (fun _ => bB ss a0) <| sn <| sj <| sj <| sn ?_
 refine Br.of h (fun ht h => ?_) fun ht h => ?_
 ·refine sj ?_
  refine xi (some 31) (ai (okM.mk (show (31 : Nat) = nS T _ _ _ from by kernel_rfl)) ?_)
  exact W
 ·refine sn <| sj <| sj <| aD h fun x1 hx1 h => ?_
  refine ai rfl (xi (ss x1) (ai (fun hg => cY _ hx1) ?_))
  refine sn ?_
  refine Br.of h (fun ht h => ?_) fun ht h => ?_
  ·refine sj <| aD h fun x2 hx2 h => ?_
   have qx2 := (bJ hx2).1
   have hx2e := (bJ hx2).2
   refine ai ⟨(fun hg => slc_cond' ss qx2), rfl⟩ <| aF.to (AV.list 1 (x2.map AV.str)) (fun _ => (slc_list' 1 ss _ _).trans (congrArg (fun y => AV.list 1 (aPK ss y)) hx2e.symm)) <| aD h fun x3 hx3 h => aK.data _ false rfl (aNH E x2 x3 hx3) <| ai rfl ?_
   refine ai ⟨rfl, rfl, rfl, lb rfl⟩ (xi (aB.cells x3) (ai (fun _ => rfl) ?_))
   refine sn <| sj <| sj <| sn ?_
   refine Br.of h (fun ht h => ?_) fun ht h => ?_
   ·exact W
   ·refine sn <| sj <| ai ⟨lb rfl, lb rfl⟩ <| aF.to (aB.av x3) (fun _ => rfl) <| ai ⟨rfl, rfl, rfl, rfl⟩ <| ai ⟨rfl, rfl, rfl⟩ <| aF.to (AV.list 5 (([x3] : List aB).map aB.avR)) (fun _ => by simp only [aPK, aB.av_eq]; rfl) <| ai ⟨rfl, rfl, lb rfl⟩ <| ai ⟨rfl, rfl, lb rfl⟩ ?_
    exact W
  ·refine sn <| sj <| sj <| aD h fun x4 hx4 h => ?_
   refine ai rfl (xi (ss x4) (ai (fun hg => cY _ hx4) ?_))
   refine sn ?_
   refine Br.of h (fun ht h => ?_) fun ht h => ?_
   ·refine sj <| sj <| aD h fun x5 hx5 h => ai id <| ai rfl ?_
    refine o7.mk _ false (fun hg => (rH E a0).1 x5 (dX hx5 hg)) (ai rfl ?_)
    refine ai (fun hg => (hY hg)) <| sn ?_
    refine Br.of h (fun ht h => ?_) fun ht h => ?_
    ·refine sj <| aD h fun x6 hx6 h => ?_
     have qx6 := (bJ hx6).1
     have hx6e := (bJ hx6).2
     refine ai ⟨(fun hg => aFu ss qx6), rfl⟩ <| aF.to (AV.list 1 (x6.map AV.str)) (fun _ => (aFv 1 ss _ _ _).trans (congrArg (fun y => AV.list 1 (aPK ss y)) hx6e.symm)) <| aD h fun x7 hx7 h => aK.data _ false rfl (aNv E x6 x7 hx7) ?_
     exact W
    ·refine sn <| sj ?_
     refine xi (some 31) (ai (okM.mk (show (31 : Nat) = nS T _ _ _ from by kernel_rfl)) ?_)
     exact W
   ·refine sn <| sj <| sj <| sn ?_
    refine Br.of h (fun ht h => ?_) fun ht h => ?_
    ·exact W
    ·refine sn <| sj <| sj <| aD h fun x10 hx10 h => ai id ?_
     refine ai rfl (xi (ss x10) (ai (fun hg => tR _ hx10 hg) ?_))
     refine ai id <| aD h fun x11 hx11 h => ai id <| ai rfl ?_
     refine o7.mk _ false (fun hg => (mP E x10).1 x11 (dX hx11 hg)) (ai rfl ?_)
     refine ai id <| ai (fun hg => (hY hg)) <| sn ?_
     refine Br.of h (fun ht h => ?_) fun ht h => ?_
     ·refine sj ?_
      refine xi (some 31) (ai (okM.mk (show (31 : Nat) = nS T _ _ _ from by kernel_rfl)) ?_)
      exact W
     ·refine sn <| sj <| aD h fun x12 hx12 h => ?_
      refine ai rfl (xi (ss x12) (ai (fun hg => cY _ hx12) ?_))
      refine aD h fun x13 hx13 h => aK.data _ false rfl ((nT E x12).1 x13 hx13) <| ai rfl ?_
      refine ai ⟨rfl, rfl, rfl, lb rfl⟩ (xi (aB.cells x13) (ai (fun _ => rfl) ?_))
      refine sn <| sj <| aD h fun x14 hx14 h => ?_
      refine ai rfl (xi (ss x14) (ai (fun hg => cY _ hx14) ?_))
      refine aD h fun x15 hx15 h => aK.data _ false rfl ((nT E x14).1 x15 hx15) <| ai rfl ?_
      refine ai ⟨rfl, rfl, rfl, lb rfl⟩ (xi (aB.cells x15) (ai (fun _ => rfl) ?_))
      refine sn <| sj <| sj <| ai id <| ai id <| ai (fun hg => (hY hg)) <| sn ?_
      refine Br.of h (fun ht h => ?_) fun ht h => ?_
      ·refine sj ?_
       refine xi (some 31) (ai (okM.mk (show (31 : Nat) = nS T _ _ _ from by kernel_rfl)) ?_)
       exact W
      ·refine sn <| sj <| Or.inl <| aD h fun x16 hx16 h => ?_
       refine ai rfl (xi (ss x16) (ai (fun hg => cY _ hx16) ?_))
       refine ai ⟨lb rfl, lb rfl⟩ <| aF.to (aB.av x13) (fun _ => rfl) <| ai ⟨lb rfl, lb rfl⟩ <| aF.to (aB.av x15) (fun _ => rfl) <| ai ⟨rfl, rfl, rfl, rfl⟩ <| ai ⟨rfl, rfl, rfl, rfl⟩ <| ai ⟨rfl, rfl, rfl⟩ <| aF.to (AV.list 5 (([x13, x15] : List aB).map aB.avR)) (fun _ => by simp only [aPK, aB.av_eq]; rfl) <| ai ⟨rfl, rfl, lb rfl⟩ <| ai ⟨rfl, rfl, lb rfl⟩ <| ai ⟨rfl, rfl, lb rfl⟩ ?_
       exact W
theorem qL (aNq : (List aA) -> Option aB) (aNv : ∀ (E : Pm.Env) [aI E] (a0 : (List aA)) (r : aB) (h : aNq a0 = some r), FnR E Tryz.prog 29 [AV.list 1 (a0.map AV.str)] (aB.av r) false) (n : Nat) : ∀ (E : Pm.Env) [aI E] (a0 : (List aA)) (r : aB) (h : dJ aNq n a0 = some r), FnR E Tryz.prog 76 [AV.list 1 (a0.map AV.str)] (aB.av r) false := by
 induction n with
 | zero => intro E _ a0 r h; cases (show none = some _ from h)
 | succ n ih => intro E _ a0 r h; exact qK E aNq aNv (dJ aNq n) ih a0 r h
theorem r4 (E : Pm.Env) [aI E] (aNq : (List aA) -> Option aB) (aNv : ∀ (E : Pm.Env) [aI E] (a0 : (List aA)) (r : aB) (h : aNq a0 = some r), FnR E Tryz.prog 29 [AV.list 1 (a0.map AV.str)] (aB.av r) false) (a0 : (List aA)) (r : aB) (h : oN aNq a0 = some r) : FnR E Tryz.prog 76 [AV.list 1 (a0.map AV.str)] (aB.av r) false := qL aNq aNv 1000000 E a0 r h
theorem qM (E : Pm.Env) [aI E] (aNq : (List aA) -> Option aB) (aNv : ∀ (E : Pm.Env) [aI E] (a0 : (List aA)) (r : aB) (h : aNq a0 = some r), FnR E Tryz.prog 29 [AV.list 1 (a0.map AV.str)] (aB.av r) false) (aNx : (List aA) -> aA -> Int -> Option aB) (aNI : ∀ (E : Pm.Env) [aI E] (a0 : (List aA)) (a1 : aA) (a2 : Int) (r : aB) (h : aNx a0 a1 a2 = some r), FnR E Tryz.prog 50 [AV.list 1 (a0.map AV.str), ss a1, ii a2] (aB.av r) false) (a0 : (List aA)) (a1 : aA) (a2 : Int) (r : aB) (h : dK aNq aNx a0 a1 a2 = some r) : FnR E Tryz.prog 50 [AV.list 1 (a0.map AV.str), ss a1, ii a2] (aB.av r) false := by
 refine FnR.of_ev (T := T) (rows := []) tOk mixed Tryz.func50 rfl (by kernel_rfl) (by kernel_rfl) rfl fun hwf => ?_
 unfold dK at h
 refine sj <| ai rfl <| sn <| sj <| aD h fun x1 hx1 h => aK.data _ true rfl ((sX E a0 a1).1 x1 hx1) <| sn <| sj <| ai ⟨rfl, rfl, lb rfl⟩ ?_
 refine xi (some 30) (ai (okM.mk (show (30 : Nat) = nS T _ _ _ from by kernel_rfl)) ?_)
 refine ai rfl ?_
 refine ai ⟨rfl, rfl, rfl, lb rfl⟩ (xi [ii a2, ii 0, ss [], ss [], AV.list 5 (([] : List aB).map aB.avR)] (ai (fun _ => rfl) ?_))
 refine sn <| sj <| sj <| aF.to (ii (x1.length : Int)) (fun _ => bB (fun x : (List aA) => AV.list 1 (x.map AV.str)) x1) <| sn ?_
 refine cP.img (fun x : (Int × aB) => St.of [⟨1, ss a1, none⟩, ⟨6, AV.ptr 0 0, none⟩, ⟨7, AV.list 1 (x1.map (fun x : (List aA) => AV.list 1 (x.map AV.str))), some 0⟩, ⟨8, AV.ptr 1 0, none⟩, ⟨17, AV.list 1 (x1.map (fun x : (List aA) => AV.list 1 (x.map AV.str))), none⟩, ⟨18, ii (x1.length : Int), none⟩, ⟨19, ii x.1, none⟩] [.cells 26 [ii 0, ii 0, ss [], ss [], AV.list 5 (([] : List aB).map aB.avR)] [(4, 1)], .cells 26 [ii x.2.Kind, ii x.2.N, ss x.2.Text, ss x.2.Sign, AV.list 5 (x.2.Kids.map aB.avR)] [(4, 2)]] [1, 1, 1]) (dA aNq aNx a1 x1) ((0 : Int), (aB.mk a2 (0 : Int) ([] : aA) ([] : aA) ([] : List aB))) h ?_ ?_
 ·refine Gho.to _ _ _ [1, 0, 3] ?_ ?_ ?_ rfl rfl ?_
  ·exact ⟨⟨rfl, rfl, rfl⟩, ⟨⟨rfl, rfl, rfl⟩, trivial⟩⟩
  ·exact rfl
  ·exact rfl
  ·exact ⟨rfl, rfl, trivial, rfl, rfl, trivial, rfl, rfl, ⟨rfl, rfl, rfl⟩, rfl, rfl, trivial, rfl, rfl, trivial, rfl, rfl, trivial, rfl, rfl, trivial, trivial⟩
 intro n1 x y1 h hl1 hr1
 obtain ⟨s2, s3⟩ := x
 unfold dA at h
 dsimp only at h
 refine sj <| sn <| sj ?_
 refine Br.of h (fun ht h => ?_) fun ht h => ?_
 ·refine sn <| sj <| sj <| aD h fun x4 hx4 h => ?_
  refine ai rfl (xi (AV.list 1 (x4.map AV.str)) (ai (fun hg => cY _ hx4) ?_))
  refine sn <| sj ?_
  refine xi (some 31) (ai (okM.mk (show (31 : Nat) = nS T _ _ _ from by kernel_rfl)) ?_)
  refine ai rfl ?_
  refine ai ⟨rfl, rfl, rfl, lb rfl⟩ (xi [ii 0, ii 0, ss [], ss [], AV.list 5 (([] : List aB).map aB.avR)] (ai (fun _ => rfl) ?_))
  refine sn <| sj <| sj <| sn ?_
  refine Br.of h (fun ht h => ?_) fun ht h => ?_
  ·refine aD h fun x5 hx5 h => aK.data _ false rfl (aNI E x4 ([38] : aA) (5 : Int) x5 hx5) ?_
   refine ai ⟨rfl, rfl, rfl, lb rfl⟩ (xi (aB.cells x5) (ai (fun _ => rfl) ?_))
   refine sn <| sj <| sj <| sn ?_
   refine Br.of h (fun ht h => ?_) fun ht h => ?_
   ·exact W
   ·refine sn <| ai ⟨lb rfl, lb rfl⟩ <| aF.to (aB.av x5) (fun _ => rfl) <| ai ⟨rfl, rfl, rfl, rfl⟩ <| ai ⟨rfl, rfl, rfl⟩ <| aF.to (AV.list 5 (([x5] : List aB).map aB.avR)) (fun _ => by simp only [aPK, aB.av_eq]; rfl) <| aD h fun x6 hx6 h => ?_
    have qx6 := (dE hx6).1
    have hx6e := (dE hx6).2
    refine ai ⟨rfl, rfl, rfl⟩ <| ai rfl <| ai (jZ aB.avR qx6) <| aF.to (AV.list 5 (x6.map aB.avR)) (fun _ => (j3 5 aB.avR _ _).trans (congrArg (fun y => AV.list 5 (aPK aB.avR y)) hx6e.symm)) ?_
    refine ai ⟨rfl, rfl, rfl, lb rfl⟩ (xi [ii s3.Kind, ii s3.N, ss s3.Text, ss s3.Sign, AV.list 5 (x6.map aB.avR)] (ai (fun _ => rfl) ?_))
    refine sn ?_
    replace h := oi h
    refine xi ⟨(n1, ((IntKind.i64.wrap (s2 + (1 : Int))), (aB.mk s3.Kind s3.N s3.Text s3.Sign x6))), hl1 _ h.symm⟩ (ai (aPJ _) ?_)
    refine Gho.to _ _ _ [0, 1, 6] ?_ ?_ ?_ rfl rfl ?_
    ·exact ⟨⟨rfl, rfl, rfl⟩, ⟨⟨rfl, rfl, rfl⟩, trivial⟩⟩
    ·exact rfl
    ·exact rfl
    ·exact ⟨rfl, rfl, trivial, rfl, rfl, trivial, rfl, rfl, ⟨rfl, rfl, rfl⟩, rfl, rfl, trivial, rfl, rfl, trivial, rfl, rfl, trivial, rfl, rfl, trivial, trivial⟩
  ·refine aD h fun x7 hx7 h => aK.data _ false rfl (r4 E aNq aNv x4 x7 hx7) ?_
   refine ai ⟨rfl, rfl, rfl, lb rfl⟩ (xi (aB.cells x7) (ai (fun _ => rfl) ?_))
   refine sn <| sj <| sj <| sn ?_
   refine Br.of h (fun ht h => ?_) fun ht h => ?_
   ·exact W
   ·refine sn <| ai ⟨lb rfl, lb rfl⟩ <| aF.to (aB.av x7) (fun _ => rfl) <| ai ⟨rfl, rfl, rfl, rfl⟩ <| ai ⟨rfl, rfl, rfl⟩ <| aF.to (AV.list 5 (([x7] : List aB).map aB.avR)) (fun _ => by simp only [aPK, aB.av_eq]; rfl) <| aD h fun x8 hx8 h => ?_
    have qx8 := (dE hx8).1
    have hx8e := (dE hx8).2
    refine ai ⟨rfl, rfl, rfl⟩ <| ai rfl <| ai (jZ aB.avR qx8) <| aF.to (AV.list 5 (x8.map aB.avR)) (fun _ => (j3 5 aB.avR _ _).trans (congrArg (fun y => AV.list 5 (aPK aB.avR y)) hx8e.symm)) ?_
    refine ai ⟨rfl, rfl, rfl, lb rfl⟩ (xi [ii s3.Kind, ii s3.N, ss s3.Text, ss s3.Sign, AV.list 5 (x8.map aB.avR)] (ai (fun _ => rfl) ?_))
    refine sn ?_
    replace h := oi h
    refine xi ⟨(n1, ((IntKind.i64.wrap (s2 + (1 : Int))), (aB.mk s3.Kind s3.N s3.Text s3.Sign x8))), hl1 _ h.symm⟩ (ai (aPJ _) ?_)
    refine Gho.to _ _ _ [0, 1, 6] ?_ ?_ ?_ rfl rfl ?_
    ·exact ⟨⟨rfl, rfl, rfl⟩, ⟨⟨rfl, rfl, rfl⟩, trivial⟩⟩
    ·exact rfl
    ·exact rfl
    ·exact ⟨rfl, rfl, trivial, rfl, rfl, trivial, rfl, rfl, ⟨rfl, rfl, rfl⟩, rfl, rfl, trivial, rfl, rfl, trivial, rfl, rfl, trivial, rfl, rfl, trivial, trivial⟩
 ·refine sn <| sj <| sj <| aF.to (ii (x1.length : Int)) (fun _ => bB (fun x : (List aA) => AV.list 1 (x.map AV.str)) x1) <| sn ?_
  refine Br.of h (fun ht h => ?_) fun ht h => ?_
  ·refine sj <| aD h fun x9 hx9 h => ?_
   refine ai rfl (xi (aB.av x9) (ai (fun hg => aB.av_eq x9 ▸ cY _ hx9) ?_))
   exact W
  ·exact W
theorem qN (aNq : (List aA) -> Option aB) (aNv : ∀ (E : Pm.Env) [aI E] (a0 : (List aA)) (r : aB) (h : aNq a0 = some r), FnR E Tryz.prog 29 [AV.list 1 (a0.map AV.str)] (aB.av r) false) (n : Nat) : ∀ (E : Pm.Env) [aI E] (a0 : (List aA)) (a1 : aA) (a2 : Int) (r : aB) (h : dL aNq n a0 a1 a2 = some r), FnR E Tryz.prog 50 [AV.list 1 (a0.map AV.str), ss a1, ii a2] (aB.av r) false := by
 induction n with
 | zero => intro E _ a0 a1 a2 r h; cases (show none = some _ from h)
 | succ n ih => intro E _ a0 a1 a2 r h; exact qM E aNq aNv (dL aNq n) ih a0 a1 a2 r h
theorem r5 (E : Pm.Env) [aI E] (aNq : (List aA) -> Option aB) (aNv : ∀ (E : Pm.Env) [aI E] (a0 : (List aA)) (r : aB) (h : aNq a0 = some r), FnR E Tryz.prog 29 [AV.list 1 (a0.map AV.str)] (aB.av r) false) (a0 : (List aA)) (a1 : aA) (a2 : Int) (r : aB) (h : oO aNq a0 a1 a2 = some r) : FnR E Tryz.prog 50 [AV.list 1 (a0.map AV.str), ss a1, ii a2] (aB.av r) false := qN aNq aNv 1000000 E a0 a1 a2 r h
theorem qO (E : Pm.Env) [aI E] (aNq : (List aA) -> Option aB) (aNv : ∀ (E : Pm.Env) [aI E] (a0 : (List aA)) (r : aB) (h : aNq a0 = some r), FnR E Tryz.prog 29 [AV.list 1 (a0.map AV.str)] (aB.av r) false) (a0 : (List aA)) (r : aB) (h : fX aNq a0 = some r) : FnR E Tryz.prog 29 [AV.list 1 (a0.map AV.str)] (aB.av r) false := by
 refine FnR.of_ev (T := T) (rows := []) tOk mixed Tryz.func29 rfl (by kernel_rfl) (by kernel_rfl) rfl fun hwf => ?_
 unfold fX at h
 refine sj <| ai rfl <| sn <| sj <| aD h fun x1 hx1 h => aK.data _ false rfl (r5 E aNq aNv a0 ([124] : aA) (6 : Int) x1 hx1) ?_
 exact W
theorem qP (n : Nat) : ∀ (E : Pm.Env) [aI E] (a0 : (List aA)) (r : aB) (h : bA n a0 = some r), FnR E Tryz.prog 29 [AV.list 1 (a0.map AV.str)] (aB.av r) false := by
 induction n with
 | zero => intro E _ a0 r h; cases (show none = some _ from h)
 | succ n ih => intro E _ a0 r h; exact qO E (bA n) ih a0 r h
theorem r6 (E : Pm.Env) [aI E] (a0 : (List aA)) (r : aB) (h : lR a0 = some r) : FnR E Tryz.prog 29 [AV.list 1 (a0.map AV.str)] (aB.av r) false := qP 1000000 E a0 r h
instance kI (E : Pm.Env) [aI E] (a0 : aB) (a1 : Int) : Ok E (d4 a0 a1) (fun r => FnR E Tryz.prog 16 [aB.av a0, ii a1] (ii r) false) := ⟨fun r h => by
 refine FnR.of_ev (T := T) (rows := []) tOk mixed Tryz.func16 rfl (by kernel_rfl) (by kernel_rfl) rfl fun hwf => ?_
 unfold d4 at h
 refine sj <| ai rfl <| sn <| sj <| ai ⟨lb rfl, lb rfl⟩ <| aF.to (aB.av a0) (fun _ => rfl) <| ai ⟨rfl, rfl, rfl, rfl⟩ <| ai ⟨rfl, rfl, rfl⟩ <| aF.to (AV.list 5 (([a0] : List aB).map aB.avR)) (fun _ => by simp only [aPK, aB.av_eq]; rfl) <| sn <| aD h fun j1 hj1 h => ?_
 refine SeqJ.join (St.of [⟨5, AV.list 5 (j1.map aB.avR), some 0⟩] [] [1]) ?_ ?_
 ·clear h; have h := hj1; clear hj1
  refine sj <| sn ?_
  refine cP.img (fun x : ((List aB) × Int) => St.of [⟨1, ii a1, none⟩, ⟨5, AV.list 5 (x.1.map aB.avR), some 0⟩, ⟨6, ii x.2, none⟩] [] [1]) (bO a1) (([a0] : List aB), (0 : Int)) h ?_ ?_
  ·exact W
  intro n1 x y1 h hl1 hr1
  obtain ⟨s2, s3⟩ := x
  unfold bO at h
  dsimp only at h
  refine sj <| sj <| aF.to (ii (s2.length : Int)) (fun _ => bB aB.avR s2) <| ai id <| aF.to (ii (s2.length : Int)) (fun _ => bB aB.avR s2) <| ai id <| ai id <| ai (fun hg => (hY hg)) <| sn ?_
  refine Br.of h (fun ht h => ?_) fun ht h => ?_
  ·refine sn <| aD h fun j4 hj4 h => ?_
   refine SeqJ.join (St.of [⟨1, ii a1, none⟩, ⟨5, AV.list 5 (j4.map aB.avR), some 0⟩, ⟨6, ii s3, none⟩] [] [1]) ?_ ?_
   ·clear h; have h := hj4; clear hj4
    refine sj <| aD h fun x5 hx5 h => ?_
    refine ai rfl (xi (aB.av x5) (ai (fun hg => aB.av_eq x5 ▸ cY _ hx5) ?_))
    refine aF.to (ii (x5.Kids.length : Int)) (fun _ => bB aB.avR x5.Kids) <| sn ?_
    refine cP.img (fun x : ((List aB) × Int) => St.of [⟨1, ii a1, none⟩, ⟨5, AV.list 5 (x.1.map aB.avR), some 0⟩, ⟨6, ii s3, none⟩, ⟨27, AV.list 5 (x5.Kids.map aB.avR), none⟩, ⟨28, ii (x5.Kids.length : Int), none⟩, ⟨29, ii x.2, none⟩] [] [1]) (dM a1 x5) (s2, (0 : Int)) h ?_ ?_
    ·exact W
    intro n2 x y2 h hl2 hr2
    obtain ⟨s6, s7⟩ := x
    unfold dM at h
    dsimp only at h
    refine sj <| sn <| sj ?_
    refine Br.of h (fun ht h => ?_) fun ht h => ?_
    ·refine sn <| sj <| sj <| aD h fun x8 hx8 h => ?_
     refine ai rfl (xi (aB.av x8) (ai (fun hg => aB.av_eq x8 ▸ cY _ hx8) ?_))
     refine ai (lb rfl) <| aF.to (aB.av x8) (fun _ => rfl) <| ai rfl ?_
     refine ai ⟨rfl, rfl, rfl, lb rfl⟩ (xi (aB.cells x8) (ai (fun _ => rfl) ?_))
     refine sn <| sj <| aF.to (ii (s6.length : Int)) (fun _ => bB aB.avR s6) <| sn ?_
     refine Br.of h (fun ht h => ?_) fun ht h => ?_
     ·refine ai ⟨lb rfl, lb rfl⟩ <| aF.to (aB.av x8) (fun _ => rfl) <| ai ⟨rfl, rfl, rfl, rfl⟩ <| ai ⟨rfl, rfl, rfl⟩ <| aF.to (AV.list 5 (([x8] : List aB).map aB.avR)) (fun _ => by simp only [aPK, aB.av_eq]; rfl) <| aD h fun x9 hx9 h => ?_
      have qx9 := (dE hx9).1
      have hx9e := (dE hx9).2
      refine ai ⟨rfl, rfl, rfl⟩ <| ai rfl <| ai (jZ aB.avR qx9) <| aF.to (AV.list 5 (x9.map aB.avR)) (fun _ => (j3 5 aB.avR _ _).trans (congrArg (fun y => AV.list 5 (aPK aB.avR y)) hx9e.symm)) <| sn ?_
      replace h := oi h
      refine xi ⟨(n2, (x9, (IntKind.i64.wrap (s7 + (1 : Int))))), hl2 _ h.symm⟩ (ai (aPJ _) ?_)
      refine Gho.to _ _ _ [3] ?_ ?_ ?_ rfl rfl ?_
      ·exact W
      ·exact rfl
      ·exact rfl
      ·exact ⟨rfl, rfl, trivial, rfl, rfl, ⟨rfl, rfl, rfl⟩, rfl, rfl, trivial, rfl, rfl, trivial, rfl, rfl, trivial, rfl, rfl, trivial, trivial⟩
     ·exact W
    ·exact W
   ·clear hj4
    exact W
  ·exact W
 ·clear hj1
  exact W⟩
instance cK (E : Pm.Env) [aI E] (a0 : aB) : Ok E (bG a0) (fun r => FnR E Tryz.prog 49 [aB.av a0] (bb r) false) := ⟨fun r h => by
 refine FnR.of_ev (T := T) (rows := []) tOk mixed Tryz.func49 rfl (by kernel_rfl) (by kernel_rfl) rfl fun hwf => ?_
 unfold bG at h
 exact W⟩
end Go.Proofs.YtdobepgddhbncaaGreatDoor
