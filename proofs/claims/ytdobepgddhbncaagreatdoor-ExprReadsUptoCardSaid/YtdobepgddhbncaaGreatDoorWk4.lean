/-
  The functions do what their images say: walks, written by a program of mine (gen.py).
-/
import Derived.Test.YtdobepgddhbncaaGreatDoorIv1
import Derived.Test.YtdobepgddhbncaaGreatDoorWk3
import Derived.Test.YtdobepgddhbncaaGreatDoorPm31
namespace Go.Proofs.YtdobepgddhbncaaGreatDoor
open Go Go.Pm
set_option linter.unusedSimpArgs false
open And renaming intro -> ai
open Exists renaming intro -> xi
open Option.some renaming inj -> oi
open _root_.Nat renaming le_of_ble_eq_true -> lb
open Go.Pm.SeqJ renaming go -> sj
open Go.Pm.SeqN renaming go -> sn
set_option maxRecDepth 100000
set_option maxHeartbeats 1000000
set_option linter.unusedVariables false
theorem rV (E : Pm.Env) [aI E] (aNC : aB -> aB -> Option Bool) (aNO : ∀ (E : Pm.Env) [aI E] (a0 : aB) (a1 : aB) (r : Bool) (h : aNC a0 a1 = some r), FnR E Tryz.prog 24 [aB.av a0, aB.av a1] (bb r) false) (a0 : aB) (a1 : aB) (r : Bool) (h : gL aNC a0 a1 = some r) : FnR E Tryz.prog 24 [aB.av a0, aB.av a1] (bb r) false := by
 refine FnR.of_ev (T := T) (rows := []) tOk mixed Tryz.func24 rfl (by kernel_rfl) (by kernel_rfl) rfl fun hwf => ?_
 unfold gL at h
 refine sj <| ai rfl <| ai rfl <| sn <| sj <| sj <| ai id <| ai id <| ai id <| ai id <| ai (fun hg => (hY hg)) <| ai id <| ai id <| ai id <| ai id <| ai (fun hg => (hY hg)) <| ai id <| ai id <| ai id <| ai id <| ai (fun hg => (hY hg)) <| ai id <| ai id <| aF.to (ii (a0.Kids.length : Int)) (fun _ => bB aB.avR a0.Kids) <| ai id <| ai id <| aF.to (ii (a1.Kids.length : Int)) (fun _ => bB aB.avR a1.Kids) <| ai id <| ai id <| ai (fun hg => (hY hg)) <| sn ?_
 refine Br.of h (fun ht h => ?_) fun ht h => ?_
 ·exact W
 ·refine sn <| sj <| sj <| aF.to (ii (a0.Kids.length : Int)) (fun _ => bB aB.avR a0.Kids) <| sn ?_
  refine cP.img (fun x : Int => St.of [⟨2, AV.ptr 0 0, none⟩, ⟨3, AV.ptr 1 0, none⟩, ⟨43, ii (a0.Kids.length : Int), none⟩, ⟨44, ii x, none⟩] [.cells 26 (aB.cells a0) [], .cells 26 (aB.cells a1) []] []) (dQ aNC a0 a1) (0 : Int) h ?_ ?_
  ·exact W
  intro n1 x y1 h hl1 hr1
  revert h; revert x; intro s1 h
  unfold dQ at h
  refine sj <| sn <| sj ?_
  refine Br.of h (fun ht h => ?_) fun ht h => ?_
  ·refine sn <| sj <| sj <| sn <| sj <| Or.inl <| aD h fun x2 hx2 h => ?_
   refine ai rfl (xi (aB.av x2) (ai (fun hg => aB.av_eq x2 ▸ cY _ hx2) ?_))
   refine ai (lb rfl) <| aF.to (aB.av x2) (fun _ => rfl) <| aD h fun x3 hx3 h => ?_
   refine ai rfl (xi (aB.av x3) (ai (fun hg => aB.av_eq x3 ▸ cY _ hx3) ?_))
   refine ai (lb rfl) <| aF.to (aB.av x3) (fun _ => rfl) <| aD h fun x4 hx4 h => aK.data _ false rfl (aNO E x2 x3 x4 hx4) <| ai (by kernel_rfl) <| sn ?_
   exact W
  ·exact W
theorem rW (n : Nat) : ∀ (E : Pm.Env) [aI E] (a0 : aB) (a1 : aB) (r : Bool) (h : c6 n a0 a1 = some r), FnR E Tryz.prog 24 [aB.av a0, aB.av a1] (bb r) false := by
 induction n with
 | zero => intro E _ a0 a1 r h; cases (show none = some _ from h)
 | succ n ih => intro E _ a0 a1 r h; exact rV E (c6 n) ih a0 a1 r h
theorem tA (E : Pm.Env) [aI E] (a0 : aB) (a1 : aB) (r : Bool) (h : mE a0 a1 = some r) : FnR E Tryz.prog 24 [aB.av a0, aB.av a1] (bb r) false := rW 1000000 E a0 a1 r h
instance aCG (E : Pm.Env) [aI E] (a0 : aB) : Ok E (oK a0) (fun r => FnR E Tryz.prog 25 [aB.av a0] (AV.tup [ss r.1, ii r.2]) false) := ⟨fun r h => by
 refine FnR.of_ev (T := T) (rows := []) tOk mixed Tryz.func25 rfl (by kernel_rfl) (by kernel_rfl) rfl fun hwf => ?_
 unfold oK at h
 refine sj <| ai rfl <| sn <| sj <| sj <| ai ⟨lb rfl, lb rfl⟩ <| aF.to (aB.av a0) (fun _ => rfl) <| aD h fun x1 hx1 h => aK.data _ false rfl ((rR E a0).1 x1 hx1) <| sn ?_
 refine Br.of h (fun ht h => ?_) fun ht h => ?_
 ·exact W
 ·refine sn <| sj <| ai ⟨lb rfl, lb rfl⟩ <| aF.to (aB.av a0) (fun _ => rfl) <| aD h fun x2 hx2 h => aK.data _ false rfl (wG E a0 x2 hx2) <| sn ?_
  replace h := oi h
  refine RetE.plain ?_
  exact ai rfl (ai (congrArg (fun r : (aA × Int) => AV.tup [ss r.1, ii r.2]) h) rfl)⟩
theorem kY (E : Pm.Env) [aI E] (a0 : aB) (a1 : aA) (r : Bool) (h : eT a0 a1 = some r) : FnR E Tryz.prog 8 [aB.av a0, ss a1] (bb r) false := by
 refine FnR.of_ev (T := T) (rows := []) tOk mixed Tryz.func8 rfl (by kernel_rfl) (by kernel_rfl) rfl fun hwf => ?_
 unfold eT at h
 refine sj <| ai rfl <| sn <| sj <| aF.same <| ai rfl <| aD h fun x1 hx1 h => ?_
 have qx1 := (bJ hx1).1
 have hx1e := (bJ hx1).2
 refine ai (fun _ => qx1) <| aF.to (ss x1) (fun _ => congrArg ss hx1e.symm) <| sn <| sj <| aD h fun x2 hx2 h => aK.data _ false rfl ((aCC E x1).1 x2 hx2) <| ai rfl ?_
 refine ai ⟨rfl, rfl, rfl, lb rfl⟩ (xi (aB.cells x2.1) (ai (fun _ => rfl) ?_))
 refine sn <| sj <| aD h fun x3 hx3 h => aK.data _ false rfl ((r7 E x1).1 x3 hx3) <| ai rfl ?_
 refine ai ⟨rfl, rfl, rfl, lb rfl⟩ (xi (aB.cells x3.1) (ai (fun _ => rfl) ?_))
 refine sn <| sj <| sj <| ai ⟨lb rfl, lb rfl⟩ <| aF.to (aB.av x2.1) (fun _ => rfl) <| ai ⟨lb rfl, lb rfl⟩ <| aF.to (aB.av x3.1) (fun _ => rfl) <| aD h fun x4 hx4 h => aK.data _ false rfl (tA E x2.1 x3.1 x4 hx4) <| ai id <| ai id <| ai (fun hg => (hY hg)) <| aD h fun x5 hx5 h => ai rfl ?_
 refine o7.mk _ false (fun hg => mW E  x5 (dX hx5 hg)) (ai rfl ?_)
 refine ai id <| ai (fun hg => (hY hg)) <| sn ?_
 refine Br.of h (fun ht h => ?_) fun ht h => ?_
 ·exact W
 ·refine sn <| sj <| ai ⟨lb rfl, lb rfl⟩ <| aF.to (aB.av a0) (fun _ => rfl) <| aD h fun x6 hx6 h => aK.data _ false rfl ((aCG E a0).1 x6 hx6) <| sn <| sj <| sj <| ai ⟨lb rfl, lb rfl⟩ <| aF.to (aB.av a0) (fun _ => rfl) <| aD h fun x7 hx7 h => aK.data _ false rfl ((kI E a0 (60 : Int)).1 x7 hx7) <| ai ⟨lb rfl, lb rfl⟩ <| aF.to (aB.av a0) (fun _ => rfl) <| aD h fun x8 hx8 h => ai id <| ai rfl ?_
  refine o7.mk _ false (fun hg => (r9 E a0).1 x8 (dX hx8 hg)) (ai rfl ?_)
  refine ai id <| ai (fun hg => (hY hg)) <| sn ?_
  refine Br.of h (fun ht h => ?_) fun ht h => ?_
  ·exact W
  ·refine sn <| sj <| ai ⟨lb rfl, lb rfl⟩ <| aF.to (aB.av a0) (fun _ => rfl) <| aD h fun x10 hx10 h => aK.data _ false rfl ((rR E a0).1 x10 hx10) <| ai id <| ai (fun hg => (hY hg)) <| ai ⟨lb rfl, lb rfl⟩ <| aF.to (aB.av a0) (fun _ => rfl) <| aD h fun x11 hx11 h => ai id <| ai rfl ?_
   refine o7.mk _ false (fun hg => r8 E a0 x11 (dX hx11 hg)) (ai rfl ?_)
   refine ai id <| ai id <| ai (fun hg => (hY hg)) <| sn ?_
   replace h := oi h
   refine RetE.plain ?_
   subst h; exact ai rfl (ai rfl rfl)
instance yH (E : Pm.Env) [aI E] (a0 : aB) (a1 : aA) : Ok E (eT a0 a1) (fun r => FnR E Tryz.prog 8 [aB.av a0, ss a1] (bb r) false) := ⟨kY E a0 a1⟩
end Go.Proofs.YtdobepgddhbncaaGreatDoor
