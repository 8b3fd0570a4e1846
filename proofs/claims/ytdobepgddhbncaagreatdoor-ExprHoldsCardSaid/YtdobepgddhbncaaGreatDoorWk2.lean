/-
  The functions do what their images say: walks, written by a program of mine (gen.py).
-/
import Derived.Test.YtdobepgddhbncaaGreatDoorIv1
import Derived.Test.YtdobepgddhbncaaGreatDoorWk1
import Derived.Test.YtdobepgddhbncaaGreatDoorPm31
open _root_.Nat renaming lt_succ_self -> aPt
namespace Go.Proofs.YtdobepgddhbncaaGreatDoor
open Go Go.Pm
set_option linter.unusedSimpArgs false
open And renaming intro -> ai
open Exists renaming intro -> xi
open Option.some renaming inj -> oi
open _root_.Nat renaming le_of_ble_eq_true -> lb
open Go.Pm.SeqJ renaming go -> sj
open Go.Pm.SeqN renaming go -> sn
set_option maxRecDepth 100000
set_option maxHeartbeats 1000000
set_option linter.unusedVariables false
theorem rM (E : Pm.Env) [aJ E] (aNj : aB -> Option Int) (aNu : ∀ (E : Pm.Env) [aJ E] (a0 : aB) (r : Int) (h : aNj a0 = some r), FnR E Tryz.prog 30 [aB.av a0] (ii r) false) (a0 : aB) (r : Int) (h : gH aNj a0 = some r) : FnR E Tryz.prog 30 [aB.av a0] (ii r) false := by
 refine FnR.of_ev (T := T) (rows := []) tOk mixed Tryz.func30 rfl (by kernel_rfl) (by kernel_rfl) rfl fun hwf => ?_
 unfold gH at h
 refine sj <| ai rfl <| sn <| sj <| sn <| aD h fun j1 hj1 h => ?_
 refine SeqJ.join (St.of [⟨3, ii j1, none⟩] [] []) ?_ ?_
 ·clear h; have h := hj1; clear hj1
  refine sj <| aF.to (ii (a0.Kids.length : Int)) (fun _ => bD aB.avR a0.Kids) <| sn ?_
  refine cQ.img (fun x : (Int × Int) => St.of [⟨1, AV.ptr 0 0, none⟩, ⟨3, ii x.1, none⟩, ⟨8, AV.list 5 (a0.Kids.map aB.avR), none⟩, ⟨9, ii (a0.Kids.length : Int), none⟩, ⟨10, ii x.2, none⟩] [.cells 26 (aB.cells a0) []] []) (dP aNj a0) ((0 : Int), (0 : Int)) h ?_ ?_
  ·exact W
  intro n1 x y1 h hl1 hr1
  obtain ⟨s2, s3⟩ := x
  unfold dP at h
  dsimp only at h
  refine sj <| sn <| sj ?_
  refine Br.of h (fun ht h => ?_) fun ht h => ?_
  ·refine sn <| sj <| sj <| aD h fun x4 hx4 h => ?_
   refine ai rfl (xi (aB.av x4) (ai (fun hg => aB.av_eq x4 ▸ c4 _ hx4) ?_))
   refine ai (lb rfl) <| aF.to (aB.av x4) (fun _ => rfl) <| ai rfl ?_
   refine ai ⟨rfl, rfl, rfl, lb rfl⟩ (xi (aB.cells x4) (ai (fun _ => rfl) ?_))
   refine sn <| sj <| ai ⟨lb rfl, lb rfl⟩ <| aF.to (aB.av x4) (fun _ => rfl) <| aD h fun x5 hx5 h => aL.data _ false rfl (aNu E x4 x5 hx5) <| sn <| sj <| sj <| ai ⟨lb rfl, lb rfl⟩ <| aF.to (aB.av x4) (fun _ => rfl) <| aD h fun x6 hx6 h => aL.data _ false rfl ((cM E x4).1 x6 hx6) <| sn ?_
   exact W
  ·exact W
 ·clear hj1
  exact W
theorem rN (n : Nat) : ∀ (E : Pm.Env) [aJ E] (a0 : aB) (r : Int) (h : c6 n a0 = some r), FnR E Tryz.prog 30 [aB.av a0] (ii r) false := by
 induction n with
 | zero => intro E _ a0 r h; cases (show none = some _ from h)
 | succ n ih => intro E _ a0 r h; exact rM E (c6 n) ih a0 r h
theorem nX (E : Pm.Env) [aJ E] (a0 : aB) (r : Int) (h : jU a0 = some r) : FnR E Tryz.prog 30 [aB.av a0] (ii r) false := rN 1000000 E a0 r h
instance r7 (E : Pm.Env) [aJ E] (a0 : aA) : Ok E (gX a0) (fun r => FnR E Tryz.prog 11 [ss a0] (AV.tup [aB.av r.1, ii r.2]) false) := ⟨fun r h => by
 refine FnR.of_ev (T := T) (rows := []) tOk mixed Tryz.func11 rfl (by kernel_rfl) (by kernel_rfl) rfl fun hwf => ?_
 unfold gX at h
 refine sj <| ai rfl <| sn <| sj <| sj <| aF.same <| sn ?_
 refine Br.of h (fun ht h => ?_) fun ht h => ?_
 ·refine sj ?_
  refine xi (some 31) (ai (okM.mk (show (31 : Nat) = nV T _ _ _ from by kernel_rfl)) ?_)
  exact W
 ·refine sn <| sj <| aD h fun x1 hx1 h => aL.data _ false rfl ((rZ E a0).1 x1 hx1) <| sn <| sj <| aD h fun x2 hx2 h => aL.data _ false rfl (r6 E x1.1 x2 hx2) <| ai rfl ?_
  refine ai ⟨rfl, rfl, rfl, lb rfl⟩ (xi (aB.cells x2) (ai (fun _ => rfl) ?_))
  refine sn <| sj <| sj <| ai id <| ai id <| ai (fun hg => (iP hg)) <| sn ?_
  refine Br.of h (fun ht h => ?_) fun ht h => ?_
  ·refine sj ?_
   refine xi (some 31) (ai (okM.mk (show (31 : Nat) = nV T _ _ _ from by kernel_rfl)) ?_)
   exact W
  ·refine sn <| sj <| sj <| ai ⟨lb rfl, lb rfl⟩ <| aF.to (aB.av x2) (fun _ => rfl) <| aD h fun x3 hx3 h => aL.data _ false rfl ((kI E x2 (60 : Int)).1 x3 hx3) <| sn ?_
   refine Br.of h (fun ht h => ?_) fun ht h => ?_
   ·refine sj ?_
    refine xi (some 31) (ai (okM.mk (show (31 : Nat) = nV T _ _ _ from by kernel_rfl)) ?_)
    exact W
   ·refine sn <| sj <| sj <| ai ⟨lb rfl, lb rfl⟩ <| aF.to (aB.av x2) (fun _ => rfl) <| aD h fun x4 hx4 h => aL.data _ false rfl (nX E x2 x4 hx4) <| sn ?_
    refine Br.of h (fun ht h => ?_) fun ht h => ?_
    ·refine sj ?_
     refine xi (some 31) (ai (okM.mk (show (31 : Nat) = nV T _ _ _ from by kernel_rfl)) ?_)
     exact W
    ·exact W⟩
instance aCv (E : Pm.Env) [aJ E] (a0 : aA) (a1 : Int) : Ok E (iQ a0 a1) (fun r => FnR E Tryz.prog 91 [ss a0, AV.int .u8 a1] (ss r) false) := ⟨fun r h => by
 refine FnR.of_ev (T := T) (rows := []) tOk mixed Tryz.func91 rfl (by kernel_rfl) (by kernel_rfl) rfl fun hwf => ?_
 unfold iQ at h
 refine sj <| sn <| aD h fun j1 hj1 h => ?_
 refine SeqJ.join (St.of [⟨0, ss j1, none⟩] [] []) ?_ ?_
 ·clear h; have h := hj1; clear hj1
  refine cQ.img (fun x : aA => St.of [⟨0, ss x, none⟩, ⟨1, AV.int .u8 a1, none⟩] [] []) (iY a1) a0 h ?_ ?_
  ·exact W
  intro n1 x y1 h hl1 hr1
  revert h; revert x; intro s2 h
  unfold iY at h
  exact W
 ·clear hj1
  exact W⟩
instance mQ (E : Pm.Env) [aJ E] (a0 : aA) : Ok E (bF a0) (fun r => FnR E Tryz.prog 92 [ss a0] (AV.tup [AV.agg (r.1.map AV.bool), bb r.2]) false) := ⟨fun r h => by
 refine FnR.of_ev (T := T) (rows := []) tOk mixed Tryz.func92 rfl (by kernel_rfl) (by kernel_rfl) rfl fun hwf => ?_
 unfold bF at h
 refine sj <| ai rfl <| sn <| sj <| sj <| sn ?_
 refine cQ.img (fun x : (Int × (List Bool)) => St.of [⟨0, ss a0, none⟩, ⟨2, AV.ptr 0 0, none⟩, ⟨4, ii x.1, none⟩] [.cells 103 (x.2.map AV.bool) []] []) (iZ a0) ((0 : Int), (List.replicate 256 false)) h ?_ ?_
 ·exact W
 intro n1 x y1 h hl1 hr1
 obtain ⟨s1, s2⟩ := x
 unfold iZ at h
 dsimp only at h
 refine sj <| sj <| aF.same <| sn ?_
 refine Br.of h (fun ht h => ?_) fun ht h => ?_
 ·refine sn <| sj <| sj <| aD h fun x3 hx3 h => ?_
  refine xi x3 (ai (fun hg => jW hx3) ?_)
  refine sn <| sj <| sj <| sn ?_
  refine Br.of h (fun ht h => ?_) fun ht h => ?_
  ·refine sj <| kV h fun q4 h => ai ⟨lb rfl, rH _ q4⟩ <| aF.to (AV.agg (s2.map AV.bool)) (fun _ => vW _ q4) <| kV h fun q5 h => ?_
   refine ai ⟨rfl, aCk _ q5.1, rfl, rH _ q5.2⟩ (xi (s2.map AV.bool) (ai (fun _ => vX _ _ q5.1 (by rw [List.length_map]; exact q5.2)) ?_))
   refine sn <| kV h fun hd1 h => ?_
   replace h := oi h
   replace h := hr1 _ h.symm
   refine RetE.plain ?_
   refine ai ⟨lb rfl, rH _ hd1⟩ (xi (AV.agg (s2.map AV.bool)) (ai (vW _ hd1) ?_))
   exact ai (and_tt' (wX _ (fun _ => rfl) _) (and_tt' rfl rfl)) (ai (congrArg (fun r : ((List Bool) × Bool) => AV.tup [AV.agg (r.1.map AV.bool), bb r.2]) h) rfl)
  ·exact W
 ·refine sn <| sj <| kV h fun q8 h => ai ⟨lb rfl, rH _ q8⟩ <| aF.to (AV.agg (s2.map AV.bool)) (fun _ => vW _ q8) <| kV h fun q9 h => ?_
  refine ai ⟨rfl, aCk _ q9.1, rfl, rH _ q9.2⟩ (xi (s2.map AV.bool) (ai (fun _ => vX _ _ q9.1 (by rw [List.length_map]; exact q9.2)) ?_))
  refine sn <| kV h fun hd1 h => ?_
  replace h := oi h
  replace h := hr1 _ h.symm
  refine RetE.plain ?_
  refine ai ⟨lb rfl, rH _ hd1⟩ (xi (AV.agg (s2.map AV.bool)) (ai (vW _ hd1) ?_))
  exact ai (and_tt' (wX _ (fun _ => rfl) _) (and_tt' rfl rfl)) (ai (congrArg (fun r : ((List Bool) × Bool) => AV.tup [AV.agg (r.1.map AV.bool), bb r.2]) h) rfl)⟩
instance yB (E : Pm.Env) [aJ E] (a0 : (List Bool)) (a1 : Int) : Ok E (bW a0 a1) (fun r => FnR E Tryz.prog 119 [AV.iptr (a0.map AV.bool), AV.int .u8 a1] (bb r) false) := ⟨fun r h => by
 refine FnR.of_ev (T := T) (rows := []) tOk mixed Tryz.func119 rfl (by kernel_rfl) (by kernel_rfl) rfl fun hwf => ?_
 unfold bW at h
 exact W⟩
instance aBs (E : Pm.Env) [aJ E] (a0 : aA) (a1 : (List Bool)) : Ok E (cS a0 a1) (fun r => FnR E Tryz.prog 93 [ss a0, AV.iptr (a1.map AV.bool)] (ss r) false) := ⟨fun r h => by
 refine FnR.of_ev (T := T) (rows := []) tOk mixed Tryz.func93 rfl (by kernel_rfl) (by kernel_rfl) rfl fun hwf => ?_
 unfold cS at h
 refine sj <| sn <| aD h fun j1 hj1 h => ?_
 refine SeqJ.join (St.of [⟨0, ss j1, none⟩] [] []) ?_ ?_
 ·clear h; have h := hj1; clear hj1
  refine cQ.img (fun x : aA => St.of [⟨0, ss x, none⟩, ⟨1, AV.iptr (a1.map AV.bool), none⟩] [] []) (eO a1) a0 h ?_ ?_
  ·exact W
  intro n1 x y1 h hl1 hr1
  revert h; revert x; intro s2 h
  unfold eO at h
  exact W
 ·clear hj1
  exact W⟩
instance tX (E : Pm.Env) [aJ E] (a0 : aA) : Ok E (eJ a0) (fun r => FnR E Tryz.prog 137 [ss a0] (AV.tup [AV.int .i32 r.1, ii r.2]) false) := ⟨fun r h => by
 refine FnR.of_ev (T := T) (rows := []) tOk mixed Tryz.func137 rfl (by kernel_rfl) (by kernel_rfl) rfl fun hwf => ?_
 unfold eJ at h
 exact W⟩
instance vG (E : Pm.Env) [aJ E] (a0 : aA) : Ok E (cP a0) (fun r => FnR E Tryz.prog 120 [ss a0] (AV.tup [AV.int .i32 r.1, ii r.2]) false) := ⟨fun r h => by
 refine FnR.of_ev (T := T) (rows := []) tOk mixed Tryz.func120 rfl (by kernel_rfl) (by kernel_rfl) rfl fun hwf => ?_
 unfold cP at h
 exact W⟩
instance aBt (E : Pm.Env) [aJ E] (a0 : aA) (a1 : Int) : Ok E (j3 a0 a1) (fun r => FnR E Tryz.prog 36 [ss a0, AV.int .u8 a1] (ii r) false) := ⟨fun r h => by
 refine FnR.of_ev (T := T) (rows := []) tOk mixed Tryz.func36 rfl (by kernel_rfl) (by kernel_rfl) rfl fun hwf => ?_
 unfold j3 at h
 exact W⟩
instance uD (E : Pm.Env) [aJ E] (a0 : aA) (a1 : Int) : Ok E (fJ a0 a1) (fun r => FnR E Tryz.prog 20 [ss a0, AV.int .u8 a1] (ii r) false) := ⟨fun r h => by
 refine FnR.of_ev (T := T) (rows := []) tOk mixed Tryz.func20 rfl (by kernel_rfl) (by kernel_rfl) rfl fun hwf => ?_
 unfold fJ at h
 exact W⟩
instance p8 (E : Pm.Env) [aJ E] (a0 : Int) : Ok E (jM a0) (fun r => FnR E Tryz.prog 163 [AV.int .i32 a0] (bb r) false) := ⟨fun r h => by
 refine FnR.of_ev (T := T) (rows := []) tOk mixed Tryz.func163 rfl (by kernel_rfl) (by kernel_rfl) rfl fun hwf => ?_
 unfold jM at h
 exact W⟩
instance aDU (E : Pm.Env) [aJ E] (a0 : aA) (a1 : Int) : Ok E (mZ a0 a1) (fun r => FnR E Tryz.prog 138 [ss a0, AV.int .i32 a1] (ii r) false) := ⟨fun r h => by
 refine FnR.of_ev (T := T) (rows := []) tOk mixed Tryz.func138 rfl (by kernel_rfl) (by kernel_rfl) rfl fun hwf => ?_
 unfold mZ at h
 refine sj <| sn <| sj <| ai id <| ai (fun hg => (iP hg)) <| sn ?_
 refine Br.of h (fun ht h => ?_) fun ht h => ?_
 ·exact W
 ·refine sj <| sn ?_
  refine Br.of h (fun ht h => ?_) fun ht h => ?_
  ·refine sj <| sj <| sn ?_
   refine cQ.img (fun x : Nat => St.of [⟨175, AV.ptr 0 0, none⟩] [.mp (.iter a0 x)] []) (k8 a0) 0 h ?_ ?_
   ·exact W
   intro n1 x y1 h hl1 hr1
   revert h; revert x; intro s2 h
   unfold k8 at h
   refine sj ?_
   refine and_of h (fun ht h => ?_) fun ht h => ?_
   ·refine sn <| sj ?_
    refine Br.mk (fun _ => ?_) (fun hf => absurd hf (by decide))
    exact W
   ·refine sn <| sj ?_
    refine Br.mk (fun hf => absurd hf (by decide)) (fun _ => ?_)
    exact W
  ·refine sj <| aD h fun x3 hx3 h => aL.data _ false rfl ((p8 E a1).1 x3 hx3) <| sn ?_
   refine Br.of h (fun ht h => ?_) fun ht h => ?_
   ·exact W
   ·refine sj <| sn <| sj <| aF.same <| sn <| sj <| sn <| sj <| sn <| sj ?_
    refine cQ.img (fun x : Int => St.of [⟨0, ss a0, none⟩, ⟨7, ss (encB a1), none⟩, ⟨8, ii (IntKind.i64.wrap (((encB a1).length : Int) - (1 : Int))), none⟩, ⟨9, ii x, none⟩] [] []) (lB a0 a1) (IntKind.i64.wrap (((encB a1).length : Int) - (1 : Int))) h ?_ ?_
    ·exact W
    intro n2 x y2 h hl2 hr2
    revert h; revert x; intro s4 h
    unfold lB at h
    refine sj <| sj <| aF.same <| sn ?_
    refine Br.of h (fun ht h => ?_) fun ht h => ?_
    ·refine sn <| sj <| sj <| Or.inl <| aD h fun x5 hx5 h => ?_
     refine xi x5 (ai (fun hg => jW hx5) ?_)
     refine aD h fun x6 hx6 h => ?_
     refine xi x6 (ai (fun hg => jW hx6) ?_)
     refine ai (by kernel_rfl) <| sn ?_
     refine Br.of h (fun ht h => ?_) fun ht h => ?_
     ·refine sj <| Or.inl <| aD h fun x7 hx7 h => ?_
      have qx7 := (bH hx7).1
      have hx7e := (bH hx7).2
      refine ai (fun _ => qx7) <| aF.to (ss x7) (fun _ => congrArg ss hx7e.symm) <| aD h fun x8 hx8 h => ?_
      refine xi x8 (ai (fun hg => jW hx8) ?_)
      refine aD h fun x9 hx9 h => aL.data _ false rfl ((uD E x7 (x8.toNat : Int)).1 x9 hx9) <| ai (by kernel_rfl) <| sn <| sj <| sj <| sn ?_
      refine Br.of h (fun ht h => ?_) fun ht h => ?_
      ·exact W
      ·refine sn <| sn <| sj <| sj <| sn ?_
       refine cQ.img (fun x : Int => St.of [⟨0, ss a0, none⟩, ⟨7, ss (encB a1), none⟩, ⟨8, ii (IntKind.i64.wrap (((encB a1).length : Int) - (1 : Int))), none⟩, ⟨9, ii (IntKind.i64.wrap (s4 + (IntKind.i64.wrap (x9 + (1 : Int))))), none⟩, ⟨12, ii x, none⟩] [] []) (k9 a0 a1 s4 x9) (1 : Int) h ?_ ?_
       ·exact W
       intro n3 x y3 h hl3 hr3
       revert h; revert x; intro s10 h
       unfold k9 at h
       exact W
     ·refine sn <| sj <| sj <| sn ?_
      refine cQ.img (fun x : Int => St.of [⟨0, ss a0, none⟩, ⟨7, ss (encB a1), none⟩, ⟨8, ii (IntKind.i64.wrap (((encB a1).length : Int) - (1 : Int))), none⟩, ⟨9, ii s4, none⟩, ⟨12, ii x, none⟩] [] []) (lA a0 a1 s4) (1 : Int) h ?_ ?_
      ·exact W
      intro n4 x y4 h hl4 hr4
      revert h; revert x; intro s13 h
      unfold lA at h
      exact W
    ·exact W⟩
instance aCw (E : Pm.Env) [aJ E] (a0 : aA) (a1 : Int) : Ok E (gI a0 a1) (fun r => FnR E Tryz.prog 121 [ss a0, AV.int .i32 a1] (bb r) false) := ⟨fun r h => by
 refine FnR.of_ev (T := T) (rows := []) tOk mixed Tryz.func121 rfl (by kernel_rfl) (by kernel_rfl) rfl fun hwf => ?_
 unfold gI at h
 exact W⟩
instance aAv (E : Pm.Env) [aJ E] (a0 : aA) (a1 : aA) : Ok E (gM a0 a1) (fun r => FnR E Tryz.prog 94 [ss a0, ss a1] (ss r) false) := ⟨fun r h => by
 refine FnR.of_ev (T := T) (rows := []) tOk mixed Tryz.func94 rfl (by kernel_rfl) (by kernel_rfl) rfl fun hwf => ?_
 unfold gM at h
 refine sj <| sn <| aD h fun j1 hj1 h => ?_
 refine SeqJ.join (St.of [⟨0, ss j1, none⟩] [] []) ?_ ?_
 ·clear h; have h := hj1; clear hj1
  refine cQ.img (fun x : aA => St.of [⟨0, ss x, none⟩, ⟨1, ss a1, none⟩] [] []) (hP a1) a0 h ?_ ?_
  ·exact W
  intro n1 x y1 h hl1 hr1
  revert h; revert x; intro s2 h
  unfold hP at h
  exact W
 ·clear hj1
  exact W⟩
instance pI (E : Pm.Env) [aJ E] (a0 : aA) (a1 : aA) : Ok E (cN a0 a1) (fun r => FnR E Tryz.prog 67 [ss a0, ss a1] (ss r) false) := ⟨fun r h => by
 refine FnR.of_ev (T := T) (rows := []) tOk mixed Tryz.func67 rfl (by kernel_rfl) (by kernel_rfl) rfl fun hwf => ?_
 unfold cN at h
 refine sj <| sn <| sj <| sj <| ai id <| ai (fun hg => (iP hg)) <| sn ?_
 refine Br.of h (fun ht h => ?_) fun ht h => ?_
 ·exact W
 ·refine sn <| sj <| sj <| aF.same <| aD h fun x1 hx1 h => ai id ?_
  refine xi x1 (ai (fun hg => o9 hx1 hg) ?_)
  refine ai id <| ai (fun hg => (iP hg)) <| sn ?_
  refine Br.of h (fun ht h => ?_) fun ht h => ?_
  ·exact W
  ·refine sn <| sj <| sj <| aD h fun x4 hx4 h => aL.data _ false rfl ((mQ E a1).1 x4 hx4) <| ai rfl <| kV h fun q5 h => ?_
   refine ai ⟨rfl, aCk _ q5, rfl, aFs rfl⟩ (xi (x4.1.map AV.bool) (ai (fun _ => vX _ _ q5 rfl) ?_))
   refine sn <| sj <| kV h fun hc1 h => ?_
   refine SeqN.via (St.of [⟨0, ss a0, none⟩, ⟨1, ss a1, none⟩, ⟨5, AV.iptr (x4.1.map AV.bool), none⟩, ⟨31, bb x4.2, none⟩] [] []) ?_ ?_
   ·refine Gho.trans (Gho.fz [0] [(5, AV.iptr (x4.1.map AV.bool))] ⟨Frz.ptr0 rfl (wX _ (fun _ => rfl) _) (by rw [List.length_map]; exact hc1), trivial⟩) ?_
    exact W
   exact W⟩
theorem kJ (E : Pm.Env) [aJ E] (o0 : aC) (r : Unit) (o0' : aC) (h : eU o0 = some (r, o0')) : FnW E Tryz.prog 43 [AV.ptr 0 0] [.cells 72 (aC.cells o0) []] [] (AV.tup []) none [.cells 72 (aC.cells o0') []] [] := by
 refine FnW.of_evB (T := T) (rows := []) tOk mixed Tryz.func43 rfl (by kernel_rfl) (by kernel_rfl) rfl rfl fun hwf => ?_
 unfold eU at h
 refine aD h fun x1 hx1 h => aL.data _ false rfl ((pI E o0.s ([32, 9, 10, 13] : aA)).1 x1 hx1) ?_
 refine ai ⟨rfl, rfl, rfl, lb rfl⟩ (xi [ss x1, bb o0.bad] (ai (fun _ => rfl) ?_))
 replace h := oi h
 have h0 := (Prod.mk.inj h).1
 have h1 := (Prod.mk.inj h).2
 subst h0
 subst h1
 refine xi [] (xi [.cells 72 [ss x1, bb o0.bad] []] (ai rfl (ai (Gho.to _ _ _ [] ?_ ?_ ?_ rfl rfl ?_) (ai ?_ rfl))))
 ·exact W
 ·exact rfl
 ·exact rfl
 ·exact W
 ·exact rfl
instance aBu (E : Pm.Env) [aJ E] (a0 : aA) (a1 : aA) : Ok E (bX a0 a1) (fun r => FnR E Tryz.prog 132 [ss a0, ss a1] (bb r) false) := ⟨fun r h => by
 refine FnR.of_ev (T := T) (rows := []) tOk mixed Tryz.func132 rfl (by kernel_rfl) (by kernel_rfl) rfl fun hwf => ?_
 unfold bX at h
 exact W⟩
instance aBv (E : Pm.Env) [aJ E] (a0 : aA) (a1 : aA) : Ok E (iE a0 a1) (fun r => FnR E Tryz.prog 130 [ss a0, ss a1] (AV.tup [ss r.1, bb r.2]) false) := ⟨fun r h => by
 refine FnR.of_ev (T := T) (rows := []) tOk mixed Tryz.func130 rfl (by kernel_rfl) (by kernel_rfl) rfl fun hwf => ?_
 unfold iE at h
 exact W⟩
instance iR (E : Pm.Env) [aJ E] (a0 : aA) (a1 : aA) : Ok E (dU a0 a1) (fun r => FnR E Tryz.prog 107 [ss a0, ss a1] (AV.tup [ss r.1, bb r.2]) false) := ⟨fun r h => by
 refine FnR.of_ev (T := T) (rows := []) tOk mixed Tryz.func107 rfl (by kernel_rfl) (by kernel_rfl) rfl fun hwf => ?_
 unfold dU at h
 exact W⟩
theorem gD (E : Pm.Env) [aJ E] (o0 : aC) (a1 : aA) (r : Bool) (o0' : aC) (h : a7 o0 a1 = some (r, o0')) : FnW E Tryz.prog 87 [AV.ptr 0 0, ss a1] [.cells 72 (aC.cells o0) []] [] (bb r) none [.cells 72 (aC.cells o0') []] [] := by
 refine FnW.of_evB (T := T) (rows := []) tOk mixed Tryz.func87 rfl (by kernel_rfl) (by kernel_rfl) rfl rfl fun hwf => ?_
 unfold a7 at h
 refine sj <| sn <| sj <| aD h fun x1 hx1 h => aL.ren [0] [] [.cells 72 (aC.cells x1.2) []] [] (kJ E o0 x1.1 x1.2 hx1) rfl rfl rfl rfl rfl rfl rfl rfl rfl <| sn <| sj <| aD h fun x2 hx2 h => aL.data _ false rfl ((iR E x1.2.s a1).1 x2 hx2) <| sn <| sj ?_
 refine ai ⟨rfl, rfl, rfl, lb rfl⟩ (xi [ss x2.1, bb x1.2.bad] (ai (fun _ => rfl) ?_))
 refine sn <| sj <| sn ?_
 replace h := oi h
 have h0 := (Prod.mk.inj h).1
 have h1 := (Prod.mk.inj h).2
 subst h0
 subst h1
 refine xi [⟨4, bb x2.2, none⟩] (xi [.cells 72 [ss x2.1, bb x1.2.bad] []] (ai rfl (ai (Gho.to _ _ _ [] ?_ ?_ ?_ rfl rfl ?_) (ai ?_ rfl))))
 ·exact ⟨⟨rfl, rfl, rfl⟩, trivial⟩
 ·exact rfl
 ·exact rfl
 ·exact tr3 <| trivial
 ·exact rfl
theorem lX (E : Pm.Env) [aJ E] (o0 : aC) (r : aB) (o0' : aC) (h : hR o0 = some (r, o0')) : FnW E Tryz.prog 88 [AV.ptr 0 0] [.cells 72 (aC.cells o0) []] [] (aB.av r) none [.cells 72 (aC.cells o0') []] [] := by
 refine FnW.of_evB (T := T) (rows := []) tOk mixed Tryz.func88 rfl (by kernel_rfl) (by kernel_rfl) rfl rfl fun hwf => ?_
 unfold hR at h
 refine sj <| ai rfl <| sn <| sj ?_
 refine ai ⟨rfl, rfl, rfl, lb rfl⟩ (xi [ss o0.s, bb true] (ai (fun _ => rfl) ?_))
 refine sn <| sj ?_
 refine ai ⟨rfl, rfl, rfl, lb rfl⟩ (xi [ss [], bb true] (ai (fun _ => rfl) ?_))
 refine sn <| sj ?_
 refine xi (some 31) (ai (okM.mk (show (31 : Nat) = nV T _ _ _ from by kernel_rfl)) ?_)
 refine ai ⟨rfl, rfl, rfl, lb rfl⟩ (xi [ii 0, ii 0, ss [], ss [], AV.list 5 (([] : List aB).map aB.avR)] (ai (fun _ => rfl) ?_))
 refine sn ?_
 replace h := oi h
 have h0 := (Prod.mk.inj h).1
 have h1 := (Prod.mk.inj h).2
 subst h0
 subst h1
 refine xi [⟨2, AV.ptr 1 0, none⟩] (xi [.cells 72 [ss [], bb true] [], .cells 26 [ii 0, ii 0, ss [], ss [], AV.list 5 (([] : List aB).map aB.avR)] []] (ai rfl (ai (Gho.to _ _ _ [] ?_ ?_ ?_ rfl rfl ?_) (ai ?_ rfl))))
 ·exact ⟨⟨rfl, rfl, rfl⟩, ⟨⟨rfl, rfl, rfl⟩, trivial⟩⟩
 ·exact rfl
 ·exact rfl
 ·exact tr3 <| trivial
 ·refine ai ⟨lb rfl, lb rfl⟩ (xi (AV.agg [ii 0, ii 0, ss [], ss [], AV.list 5 (([] : List aB).map aB.avR)]) (ai rfl ?_))
  exact rfl
instance aFF (E : Pm.Env) [aJ E] (a0 : aA) (a1 : aA) : Ok E (j7 a0 a1) (fun r => FnR E Tryz.prog 134 [ss a0, ss a1] (AV.tup [ss r.1, ss r.2.1, bb r.2.2]) false) := ⟨fun r h => by
 refine FnR.of_ev (T := T) (rows := []) tOk mixed Tryz.func134 rfl (by kernel_rfl) (by kernel_rfl) rfl fun hwf => ?_
 unfold j7 at h
 exact W⟩
instance lN (E : Pm.Env) [aJ E] (a0 : aA) (a1 : aA) : Ok E (dQ a0 a1) (fun r => FnR E Tryz.prog 116 [ss a0, ss a1] (AV.tup [ss r.1, ss r.2.1, bb r.2.2]) false) := ⟨fun r h => by
 refine FnR.of_ev (T := T) (rows := []) tOk mixed Tryz.func116 rfl (by kernel_rfl) (by kernel_rfl) rfl fun hwf => ?_
 unfold dQ at h
 exact W⟩
theorem rO (E : Pm.Env) [aJ E] (a0 : aA) (a1 : FuncId) (a1c : List AV) (a1i : Int -> Option Bool) (a1h : ∀ (x0 : Int) (r : Bool), a1i x0 = some r -> FnR E Tryz.prog a1 ([AV.int .u8 x0] ++ a1c) (bb r) false) (a1p : a1c.all AV.puB = true) (r : Int) (h : kK a0 a1i = some r) : FnR E Tryz.prog 112 [ss a0, AV.fn a1 [] a1c] (ii r) false := by
 refine FnR.of_ev (T := T) (rows := []) tOk mixed Tryz.func112 rfl (by kernel_rfl) (by kernel_rfl) rfl fun hwf => ?_
 unfold kK at h
 refine sj <| sn <| sj <| sn <| aD h fun j1 hj1 h => ?_
 refine SeqJ.join (St.of [⟨5, ii j1, none⟩] [] []) ?_ ?_
 ·clear h; have h := hj1; clear hj1
  refine cQ.img (fun x : Int => St.of [⟨0, ss a0, none⟩, ⟨1, AV.fn a1 [] a1c, none⟩, ⟨5, ii x, none⟩] [] []) (m0 a0 a1i) (0 : Int) h ?_ ?_
  ·refine Gho.to _ _ _ [] ?_ ?_ ?_ rfl rfl ?_
   ·exact trivial
   ·exact rfl
   ·exact rfl
   ·exact ⟨rfl, rfl, trivial, rfl, (sT a1p _), trivial, rfl, rfl, trivial, trivial⟩
  intro n1 x y1 h hl1 hr1
  revert h; revert x; intro s2 h
  unfold m0 at h
  refine sj <| sj <| aF.same <| aD h fun x3 hx3 h => ai id <| ai id ?_
  refine xi x3 (ai (fun hg => o9 hx3 hg) ?_)
  refine aD h fun x4 hx4 h => ai id <| ai id <| ai (wW rfl (aBh a1p)) ?_
  refine oG.mk _ false (fun hg => a1h (x3.toNat : Int) x4 (dF hx4 hg)) (ai rfl ?_)
  refine ai (fun hg => (iP hg)) <| sn ?_
  refine Br.of h (fun ht h => ?_) fun ht h => ?_
  ·refine sn ?_
   replace h := oi h
   refine xi ⟨(n1, (IntKind.i64.wrap (s2 + (1 : Int)))), hl1 _ h.symm⟩ (ai (aPt _) ?_)
   refine Gho.to _ _ _ [] ?_ ?_ ?_ rfl rfl ?_
   ·exact W
   ·exact rfl
   ·exact rfl
   ·exact ⟨rfl, rfl, trivial, rfl, (sT a1p _), trivial, rfl, rfl, trivial, trivial⟩
  ·exact W
 ·clear hj1
  exact W
instance aAI (E : Pm.Env) [aJ E] (a0 : Int) : Ok E (lS a0) (fun r => FnR E Tryz.prog 113 [AV.int .u8 a0] (bb r) false) := ⟨fun r h => by
 refine FnR.of_ev (T := T) (rows := []) tOk mixed Tryz.func113 rfl (by kernel_rfl) (by kernel_rfl) rfl fun hwf => ?_
 unfold lS at h
 exact W⟩
instance aCx (E : Pm.Env) [aJ E] : Ok E fA (fun r => FnR E Tryz.prog 111 [] (AV.tup [ss r.1, ii r.2]) false) := ⟨fun r h => by
 refine FnR.of_ev (T := T) (rows := []) tOk mixed Tryz.func111 rfl (by kernel_rfl) (by kernel_rfl) rfl fun hwf => ?_
 unfold fA at h
 exact W⟩
instance c8 (E : Pm.Env) [aJ E] (a0 : aA) (a1 : aA) : Ok E (aO a0 a1) (fun r => FnR E Tryz.prog 114 [ss a0, ss a1] (bb r) false) := ⟨fun r h => by
 refine FnR.of_ev (T := T) (rows := []) tOk mixed Tryz.func114 rfl (by kernel_rfl) (by kernel_rfl) rfl fun hwf => ?_
 unfold aO at h
 exact W⟩
instance vE (E : Pm.Env) [aJ E] (a0 : aA) : Ok E (qU a0) (fun r => FnR E Tryz.prog 115 [ss a0] (AV.fn 133 [] [AV.iptr [ss r]]) false) := ⟨fun r h => by
 refine FnR.of_ev (T := T) (rows := []) tOk mixed Tryz.func115 rfl (by kernel_rfl) (by kernel_rfl) rfl fun hwf => ?_
 unfold qU at h
 refine sj <| ai rfl ?_
 refine SeqN.via (St.of [⟨1, AV.iptr [ss a0], none⟩] [] []) ?_ ?_
 ·refine Gho.trans (Gho.fz [0] [(1, AV.iptr [ss a0])] ⟨Frz.ptrD rfl rfl (lb rfl), trivial⟩) ?_
  exact W
 exact W⟩
instance rP (E : Pm.Env) [aJ E] (a0 : Int) (c0 : aA) : Ok E (f9 a0 c0) (fun r => FnR E Tryz.prog 133 [AV.int .u8 a0, AV.iptr [ss c0]] (bb r) false) := ⟨fun r h => by
 refine FnR.of_ev (T := T) (rows := []) tOk mixed Tryz.func133 rfl (by kernel_rfl) (by kernel_rfl) rfl fun hwf => ?_
 unfold f9 at h
 exact W⟩
instance xE (E : Pm.Env) [aJ E] (a0 : aA) : Ok E (vI a0) (fun r => FnR E Tryz.prog 153 [ss a0] (AV.fn 172 [] [AV.iptr [ss r]]) false) := ⟨fun r h => by
 refine FnR.of_ev (T := T) (rows := []) tOk mixed Tryz.func153 rfl (by kernel_rfl) (by kernel_rfl) rfl fun hwf => ?_
 unfold vI at h
 refine sj <| ai rfl ?_
 refine SeqN.via (St.of [⟨1, AV.iptr [ss a0], none⟩] [] []) ?_ ?_
 ·refine Gho.trans (Gho.fz [0] [(1, AV.iptr [ss a0])] ⟨Frz.ptrD rfl rfl (lb rfl), trivial⟩) ?_
  exact W
 exact W⟩
instance rQ (E : Pm.Env) [aJ E] (a0 : aA) (a1k0 : aG) : Ok E (lC a0 a1k0) (fun r => FnR E Tryz.prog 154 [ss a0, AV.fn 150 [] [AV.iptr (aG.cells a1k0)]] (AV.fn 173 [] [AV.iptr [ss r.1], AV.iptr [AV.fn 150 [] [AV.iptr (aG.cells r.2)]]]) false) := ⟨fun r h => by
 refine FnR.of_ev (T := T) (rows := []) tOk mixed Tryz.func154 rfl (by kernel_rfl) (by kernel_rfl) rfl fun hwf => ?_
 unfold lC at h
 refine sj <| ai rfl <| ai rfl ?_
 refine SeqN.via (St.of [⟨2, AV.iptr [ss a0], none⟩, ⟨3, AV.iptr [AV.fn 150 [] [AV.iptr (aG.cells a1k0)]], none⟩] [] []) ?_ ?_
 ·refine Gho.trans (Gho.fz [0, 1] [(2, AV.iptr [ss a0]), (3, AV.iptr [AV.fn 150 [] [AV.iptr (aG.cells a1k0)]])] ⟨Frz.ptrD rfl rfl (lb rfl), Frz.ptrD rfl rfl (lb rfl), trivial⟩) ?_
  exact W
 exact W⟩
instance rR (E : Pm.Env) [aJ E] (a0 : aA) (a1k0 : aG) : Ok E (lD a0 a1k0) (fun r => FnR E Tryz.prog 154 [ss a0, AV.fn 155 [] [AV.iptr (aG.cells a1k0)]] (AV.fn 173 [] [AV.iptr [ss r.1], AV.iptr [AV.fn 155 [] [AV.iptr (aG.cells r.2)]]]) false) := ⟨fun r h => by
 refine FnR.of_ev (T := T) (rows := []) tOk mixed Tryz.func154 rfl (by kernel_rfl) (by kernel_rfl) rfl fun hwf => ?_
 unfold lD at h
 refine sj <| ai rfl <| ai rfl ?_
 refine SeqN.via (St.of [⟨2, AV.iptr [ss a0], none⟩, ⟨3, AV.iptr [AV.fn 155 [] [AV.iptr (aG.cells a1k0)]], none⟩] [] []) ?_ ?_
 ·refine Gho.trans (Gho.fz [0, 1] [(2, AV.iptr [ss a0]), (3, AV.iptr [AV.fn 155 [] [AV.iptr (aG.cells a1k0)]])] ⟨Frz.ptrD rfl rfl (lb rfl), Frz.ptrD rfl rfl (lb rfl), trivial⟩) ?_
  exact W
 exact W⟩
instance rS (E : Pm.Env) [aJ E] (a0 : aA) (a1k0 : aG) : Ok E (lE a0 a1k0) (fun r => FnR E Tryz.prog 154 [ss a0, AV.fn 158 [] [AV.iptr (aG.cells a1k0)]] (AV.fn 173 [] [AV.iptr [ss r.1], AV.iptr [AV.fn 158 [] [AV.iptr (aG.cells r.2)]]]) false) := ⟨fun r h => by
 refine FnR.of_ev (T := T) (rows := []) tOk mixed Tryz.func154 rfl (by kernel_rfl) (by kernel_rfl) rfl fun hwf => ?_
 unfold lE at h
 refine sj <| ai rfl <| ai rfl ?_
 refine SeqN.via (St.of [⟨2, AV.iptr [ss a0], none⟩, ⟨3, AV.iptr [AV.fn 158 [] [AV.iptr (aG.cells a1k0)]], none⟩] [] []) ?_ ?_
 ·refine Gho.trans (Gho.fz [0, 1] [(2, AV.iptr [ss a0]), (3, AV.iptr [AV.fn 158 [] [AV.iptr (aG.cells a1k0)]])] ⟨Frz.ptrD rfl rfl (lb rfl), Frz.ptrD rfl rfl (lb rfl), trivial⟩) ?_
  exact W
 exact W⟩
instance rT (E : Pm.Env) [aJ E] (a0 : aA) (a1k0 : aG) : Ok E (lF a0 a1k0) (fun r => FnR E Tryz.prog 154 [ss a0, AV.fn 160 [] [AV.iptr (aG.cells a1k0)]] (AV.fn 173 [] [AV.iptr [ss r.1], AV.iptr [AV.fn 160 [] [AV.iptr (aG.cells r.2)]]]) false) := ⟨fun r h => by
 refine FnR.of_ev (T := T) (rows := []) tOk mixed Tryz.func154 rfl (by kernel_rfl) (by kernel_rfl) rfl fun hwf => ?_
 unfold lF at h
 refine sj <| ai rfl <| ai rfl ?_
 refine SeqN.via (St.of [⟨2, AV.iptr [ss a0], none⟩, ⟨3, AV.iptr [AV.fn 160 [] [AV.iptr (aG.cells a1k0)]], none⟩] [] []) ?_ ?_
 ·refine Gho.trans (Gho.fz [0, 1] [(2, AV.iptr [ss a0]), (3, AV.iptr [AV.fn 160 [] [AV.iptr (aG.cells a1k0)]])] ⟨Frz.ptrD rfl rfl (lb rfl), Frz.ptrD rfl rfl (lb rfl), trivial⟩) ?_
  exact W
 exact W⟩
theorem aCy (E : Pm.Env) [aJ E] (a0 : aG) (r : (aA × aA × (aA × aG) × (aA × aG) × (aA × aG) × (aA × aG))) (h : tA a0 = some r) : FnM E Tryz.prog 135 [aG.av a0] [(ss ([72, 84, 84, 80, 95, 72, 79, 83, 84] : aA), AV.fn 172 [] [AV.iptr [ss r.1]]), (ss ([72, 84, 84, 80, 95, 82, 69, 70, 69, 82, 69, 82] : aA), AV.fn 172 [] [AV.iptr [ss r.2.1]]), (ss ([72, 84, 84, 80, 95, 85, 83, 69, 82, 95, 65, 71, 69, 78, 84] : aA), AV.fn 173 [] [AV.iptr [ss r.2.2.1.1], AV.iptr [AV.fn 150 [] [AV.iptr (aG.cells r.2.2.1.2)]]]), (ss ([72, 84, 84, 80, 95, 67, 79, 79, 75, 73, 69] : aA), AV.fn 173 [] [AV.iptr [ss r.2.2.2.1.1], AV.iptr [AV.fn 155 [] [AV.iptr (aG.cells r.2.2.2.1.2)]]]), (ss ([81, 85, 69, 82, 89, 95, 83, 84, 82, 73, 78, 71] : aA), AV.fn 173 [] [AV.iptr [ss r.2.2.2.2.1.1], AV.iptr [AV.fn 158 [] [AV.iptr (aG.cells r.2.2.2.2.1.2)]]]), (ss ([72, 84, 84, 80, 95, 65, 67, 67, 69, 80, 84, 95, 76, 65, 78, 71, 85, 65, 71, 69] : aA), AV.fn 173 [] [AV.iptr [ss r.2.2.2.2.2.1], AV.iptr [AV.fn 160 [] [AV.iptr (aG.cells r.2.2.2.2.2.2)]]])] := by
 refine FnM.of_ev (T := T) (rows := []) tOk mixed Tryz.func135 rfl (by kernel_rfl) (by kernel_rfl) rfl fun hwf => ?_
 unfold tA at h
 refine sj <| ai rfl ?_
 refine SeqN.via (St.of [⟨1, AV.iptr (aG.cells a0), none⟩] [] []) ?_ ?_
 ·refine Gho.trans (Gho.fz [0] [(1, AV.iptr (aG.cells a0))] ⟨Frz.ptrD rfl rfl (lb rfl), trivial⟩) ?_
  exact W
 refine sj <| sn <| sj ?_
 refine Or.inr (xi 0 (xi 0 ?_))
 refine aD h fun x1 hx1 h => aL.data _ false rfl ((xE E a0.Host).1 x1 hx1) ?_
 refine xi (ss ([72, 84, 84, 80, 95, 72, 79, 83, 84] : aA), AV.fn 172 [] [AV.iptr [ss x1]]) (ai (fun es hk => ?_) ?_)
 ·exact ai ⟨rfl, rfl, rfl⟩ (xi (es ++ [(ss ([72, 84, 84, 80, 95, 72, 79, 83, 84] : aA), AV.fn 172 [] [AV.iptr [ss x1]])]) (ai (uZ hk) ⟨rfl, rfl, rfl⟩))
 refine aD h fun x2 hx2 h => aL.data _ false rfl ((xE E a0.Referer).1 x2 hx2) ?_
 refine xi (ss ([72, 84, 84, 80, 95, 82, 69, 70, 69, 82, 69, 82] : aA), AV.fn 172 [] [AV.iptr [ss x2]]) (ai (fun es hk => ?_) ?_)
 ·exact ai ⟨rfl, rfl, rfl⟩ (xi (es ++ [(ss ([72, 84, 84, 80, 95, 82, 69, 70, 69, 82, 69, 82] : aA), AV.fn 172 [] [AV.iptr [ss x2]])]) (ai (uZ hk) ⟨rfl, rfl, rfl⟩))
 refine aD h fun x3 hx3 h => aL.data _ false rfl ((rQ E a0.Agent a0).1 x3 hx3) ?_
 refine xi (ss ([72, 84, 84, 80, 95, 85, 83, 69, 82, 95, 65, 71, 69, 78, 84] : aA), AV.fn 173 [] [AV.iptr [ss x3.1], AV.iptr [AV.fn 150 [] [AV.iptr (aG.cells x3.2)]]]) (ai (fun es hk => ?_) ?_)
 ·exact ai ⟨rfl, rfl, rfl⟩ (xi (es ++ [(ss ([72, 84, 84, 80, 95, 85, 83, 69, 82, 95, 65, 71, 69, 78, 84] : aA), AV.fn 173 [] [AV.iptr [ss x3.1], AV.iptr [AV.fn 150 [] [AV.iptr (aG.cells x3.2)]]])]) (ai (uZ hk) ⟨rfl, rfl, rfl⟩))
 refine aD h fun x4 hx4 h => aL.data _ false rfl ((rR E a0.Cookie a0).1 x4 hx4) ?_
 refine xi (ss ([72, 84, 84, 80, 95, 67, 79, 79, 75, 73, 69] : aA), AV.fn 173 [] [AV.iptr [ss x4.1], AV.iptr [AV.fn 155 [] [AV.iptr (aG.cells x4.2)]]]) (ai (fun es hk => ?_) ?_)
 ·exact ai ⟨rfl, rfl, rfl⟩ (xi (es ++ [(ss ([72, 84, 84, 80, 95, 67, 79, 79, 75, 73, 69] : aA), AV.fn 173 [] [AV.iptr [ss x4.1], AV.iptr [AV.fn 155 [] [AV.iptr (aG.cells x4.2)]]])]) (ai (uZ hk) ⟨rfl, rfl, rfl⟩))
 refine aD h fun x5 hx5 h => aL.data _ false rfl ((rS E a0.Query a0).1 x5 hx5) ?_
 refine xi (ss ([81, 85, 69, 82, 89, 95, 83, 84, 82, 73, 78, 71] : aA), AV.fn 173 [] [AV.iptr [ss x5.1], AV.iptr [AV.fn 158 [] [AV.iptr (aG.cells x5.2)]]]) (ai (fun es hk => ?_) ?_)
 ·exact ai ⟨rfl, rfl, rfl⟩ (xi (es ++ [(ss ([81, 85, 69, 82, 89, 95, 83, 84, 82, 73, 78, 71] : aA), AV.fn 173 [] [AV.iptr [ss x5.1], AV.iptr [AV.fn 158 [] [AV.iptr (aG.cells x5.2)]]])]) (ai (uZ hk) ⟨rfl, rfl, rfl⟩))
 refine aD h fun x6 hx6 h => aL.data _ false rfl ((rT E a0.Language a0).1 x6 hx6) ?_
 refine xi (ss ([72, 84, 84, 80, 95, 65, 67, 67, 69, 80, 84, 95, 76, 65, 78, 71, 85, 65, 71, 69] : aA), AV.fn 173 [] [AV.iptr [ss x6.1], AV.iptr [AV.fn 160 [] [AV.iptr (aG.cells x6.2)]]]) (ai (fun es hk => ?_) ?_)
 ·exact ai ⟨rfl, rfl, rfl⟩ (xi (es ++ [(ss ([72, 84, 84, 80, 95, 65, 67, 67, 69, 80, 84, 95, 76, 65, 78, 71, 85, 65, 71, 69] : aA), AV.fn 173 [] [AV.iptr [ss x6.1], AV.iptr [AV.fn 160 [] [AV.iptr (aG.cells x6.2)]]])]) (ai (uZ hk) ⟨rfl, rfl, rfl⟩))
 refine ai ⟨by kernel_rfl, by kernel_rfl, rfl⟩ (xi [(ss ([72, 84, 84, 80, 95, 72, 79, 83, 84] : aA), AV.fn 172 [] [AV.iptr [ss x1]]), (ss ([72, 84, 84, 80, 95, 82, 69, 70, 69, 82, 69, 82] : aA), AV.fn 172 [] [AV.iptr [ss x2]]), (ss ([72, 84, 84, 80, 95, 85, 83, 69, 82, 95, 65, 71, 69, 78, 84] : aA), AV.fn 173 [] [AV.iptr [ss x3.1], AV.iptr [AV.fn 150 [] [AV.iptr (aG.cells x3.2)]]]), (ss ([72, 84, 84, 80, 95, 67, 79, 79, 75, 73, 69] : aA), AV.fn 173 [] [AV.iptr [ss x4.1], AV.iptr [AV.fn 155 [] [AV.iptr (aG.cells x4.2)]]]), (ss ([81, 85, 69, 82, 89, 95, 83, 84, 82, 73, 78, 71] : aA), AV.fn 173 [] [AV.iptr [ss x5.1], AV.iptr [AV.fn 158 [] [AV.iptr (aG.cells x5.2)]]]), (ss ([72, 84, 84, 80, 95, 65, 67, 67, 69, 80, 84, 95, 76, 65, 78, 71, 85, 65, 71, 69] : aA), AV.fn 173 [] [AV.iptr [ss x6.1], AV.iptr [AV.fn 160 [] [AV.iptr (aG.cells x6.2)]]])] (ai (by kernel_rfl) ?_))
 refine sn ?_
 replace h := oi h
 subst h
 exact xi 0 (ai rfl rfl)
instance aJH (E : Pm.Env) [aJ E] (a0 : aA) : Ok E (sE a0) (fun r => FnR E Tryz.prog 152 [ss a0] (AV.tup [ss r.1, bb r.2]) false) := ⟨fun r h => by
 refine FnR.of_ev (T := T) (rows := []) tOk mixed Tryz.func152 rfl (by kernel_rfl) (by kernel_rfl) rfl fun hwf => ?_
 unfold sE at h
 exact W⟩
instance uM (E : Pm.Env) [aJ E] (a0 : aA) (c0 : aA) : Ok E (m5 a0 c0) (fun r => FnR E Tryz.prog 172 [ss a0, AV.iptr [ss c0]] (AV.tup [ss r.1, bb r.2]) false) := ⟨fun r h => by
 refine FnR.of_ev (T := T) (rows := []) tOk mixed Tryz.func172 rfl (by kernel_rfl) (by kernel_rfl) rfl fun hwf => ?_
 unfold m5 at h
 exact W⟩
theorem pZ (E : Pm.Env) [aJ E] (a0 : aA) (c0 : aA) (c1 : FuncId) (c1c : List AV) (c1i : aA -> Option (aA × Bool)) (c1h : ∀ (x0 : aA) (r : (aA × Bool)), c1i x0 = some r -> FnR E Tryz.prog c1 ([ss x0] ++ c1c) (AV.tup [ss r.1, bb r.2]) false) (c1p : c1c.all AV.puB = true) (r : (aA × Bool)) (h : iF a0 c0 c1i = some r) : FnR E Tryz.prog 173 [ss a0, AV.iptr [ss c0], AV.iptr [AV.fn c1 [] c1c]] (AV.tup [ss r.1, bb r.2]) false := by
 refine FnR.of_ev (T := T) (rows := []) tOk mixed Tryz.func173 rfl (by kernel_rfl) (by kernel_rfl) rfl fun hwf => ?_
 unfold iF at h
 refine sj <| sn <| sj <| sj <| sn ?_
 refine Br.of h (fun ht h => ?_) fun ht h => ?_
 ·exact W
 ·refine sn <| sj <| aD h fun x2 hx2 h => aL.data _ false (wW rfl (aBh c1p)) (c1h a0 x2 hx2) <| sn ?_
  replace h := oi h
  refine RetE.plain ?_
  subst h; exact ai rfl (ai rfl rfl)
instance aEJ (E : Pm.Env) [aJ E] (a0 : aA) (a1 : aA) : Ok E (bT a0 a1) (fun r => FnR E Tryz.prog 96 [ss a0, ss a1] (bb r) false) := ⟨fun r h => by
 refine FnR.of_ev (T := T) (rows := []) tOk mixed Tryz.func96 rfl (by kernel_rfl) (by kernel_rfl) rfl fun hwf => ?_
 unfold bT at h
 exact W⟩
instance aAJ (E : Pm.Env) [aJ E] (a0 : aA) : Ok E (oP a0) (fun r => FnR E Tryz.prog 151 [ss a0] (AV.tup [ss r.1, ss r.2.1, ss r.2.2]) false) := ⟨fun r h => by
 refine FnR.of_ev (T := T) (rows := []) tOk mixed Tryz.func151 rfl (by kernel_rfl) (by kernel_rfl) rfl fun hwf => ?_
 unfold oP at h
 refine sj <| sn <| sj <| sn <| aD h fun j1 hj1 h => ?_
 refine SeqJ.join (St.of [⟨0, ss a0, none⟩, ⟨5, ss j1.1, none⟩, ⟨6, ss j1.2, none⟩, ⟨7, ss ([79, 84, 72, 69, 82] : aA), none⟩] [] []) ?_ ?_
 ·clear h; have h := hj1; clear hj1
  refine sj <| ai ⟨rfl, rfl, lb rfl⟩ <| ai ⟨rfl, rfl, lb rfl⟩ <| ai ⟨rfl, rfl, lb rfl⟩ ?_
  refine xi none (ai rfl ?_)
  refine ai ⟨rfl, rfl, lb rfl⟩ <| ai ⟨rfl, rfl, lb rfl⟩ <| ai ⟨rfl, rfl, lb rfl⟩ ?_
  refine xi none (ai rfl ?_)
  refine ai ⟨rfl, rfl, rfl, rfl⟩ <| ai ⟨rfl, rfl, rfl, rfl⟩ <| ai ⟨rfl, rfl, rfl⟩ <| aF.to (AV.list 3 (([(bV.mk ([77, 83, 73, 69] : aA) ([77, 83, 73, 69] : aA) ([77, 83, 73, 69, 32] : aA)), (bV.mk ([77, 111, 122, 105, 108, 108, 97] : aA) ([77, 79, 90, 73, 76, 76, 65] : aA) ([77, 111, 122, 105, 108, 108, 97, 47] : aA))] : List bV).map bV.av)) (fun _ => rfl) <| aF.to (ii (([(bV.mk ([77, 83, 73, 69] : aA) ([77, 83, 73, 69] : aA) ([77, 83, 73, 69, 32] : aA)), (bV.mk ([77, 111, 122, 105, 108, 108, 97] : aA) ([77, 79, 90, 73, 76, 76, 65] : aA) ([77, 111, 122, 105, 108, 108, 97, 47] : aA))] : List bV).length : Int)) (fun _ => bD bV.av ([(bV.mk ([77, 83, 73, 69] : aA) ([77, 83, 73, 69] : aA) ([77, 83, 73, 69, 32] : aA)), (bV.mk ([77, 111, 122, 105, 108, 108, 97] : aA) ([77, 79, 90, 73, 76, 76, 65] : aA) ([77, 111, 122, 105, 108, 108, 97, 47] : aA))] : List bV)) <| sn ?_
  refine cQ.img (fun x : (aA × aA × Int) => St.of [⟨0, ss a0, none⟩, ⟨5, ss x.1, none⟩, ⟨6, ss x.2.1, none⟩, ⟨7, ss ([79, 84, 72, 69, 82] : aA), none⟩, ⟨17, AV.list 3 (([(bV.mk ([77, 83, 73, 69] : aA) ([77, 83, 73, 69] : aA) ([77, 83, 73, 69, 32] : aA)), (bV.mk ([77, 111, 122, 105, 108, 108, 97] : aA) ([77, 79, 90, 73, 76, 76, 65] : aA) ([77, 111, 122, 105, 108, 108, 97, 47] : aA))] : List bV).map bV.av), some 0⟩, ⟨18, ii (([(bV.mk ([77, 83, 73, 69] : aA) ([77, 83, 73, 69] : aA) ([77, 83, 73, 69, 32] : aA)), (bV.mk ([77, 111, 122, 105, 108, 108, 97] : aA) ([77, 79, 90, 73, 76, 76, 65] : aA) ([77, 111, 122, 105, 108, 108, 97, 47] : aA))] : List bV).length : Int), none⟩, ⟨19, ii x.2.2, none⟩] [] [2]) (iN a0) (([79, 84, 72, 69, 82] : aA), ([] : aA), (0 : Int)) h ?_ ?_
  ·exact W
  intro n1 x y1 h hl1 hr1
  obtain ⟨s2, s3, s4⟩ := x
  unfold iN at h
  dsimp only at h
  exact W
 ·clear hj1
  refine aD h fun j10 hj10 h => ?_
  refine SeqJ.join (St.of [⟨5, ss j1.1, none⟩, ⟨6, ss j1.2, none⟩, ⟨7, ss j10, none⟩] [] []) ?_ ?_
  ·clear h; have h := hj10; clear hj10
   refine sj <| ai ⟨rfl, rfl, lb rfl⟩ <| ai ⟨rfl, rfl, lb rfl⟩ ?_
   refine xi none (ai rfl ?_)
   refine ai ⟨rfl, rfl, lb rfl⟩ <| ai ⟨rfl, rfl, lb rfl⟩ ?_
   refine xi none (ai rfl ?_)
   refine ai ⟨rfl, rfl, lb rfl⟩ <| ai ⟨rfl, rfl, lb rfl⟩ ?_
   refine xi none (ai rfl ?_)
   refine ai ⟨rfl, rfl, rfl, rfl⟩ <| ai ⟨rfl, rfl, rfl, rfl⟩ <| ai ⟨rfl, rfl, rfl, rfl⟩ <| ai ⟨rfl, rfl, rfl⟩ <| aF.to (AV.list 2 (([(bB.mk ([87, 105, 110, 100, 111, 119, 115] : aA) ([87, 73, 78] : aA)), (bB.mk ([77, 97, 99] : aA) ([77, 65, 67] : aA)), (bB.mk ([88, 49, 49] : aA) ([85, 78, 73, 88] : aA))] : List bB).map bB.av)) (fun _ => rfl) <| aF.to (ii (([(bB.mk ([87, 105, 110, 100, 111, 119, 115] : aA) ([87, 73, 78] : aA)), (bB.mk ([77, 97, 99] : aA) ([77, 65, 67] : aA)), (bB.mk ([88, 49, 49] : aA) ([85, 78, 73, 88] : aA))] : List bB).length : Int)) (fun _ => bD bB.av ([(bB.mk ([87, 105, 110, 100, 111, 119, 115] : aA) ([87, 73, 78] : aA)), (bB.mk ([77, 97, 99] : aA) ([77, 65, 67] : aA)), (bB.mk ([88, 49, 49] : aA) ([85, 78, 73, 88] : aA))] : List bB)) <| sn ?_
   refine cQ.img (fun x : (aA × Int) => St.of [⟨0, ss a0, none⟩, ⟨5, ss j1.1, none⟩, ⟨6, ss j1.2, none⟩, ⟨7, ss x.1, none⟩, ⟨50, AV.list 2 (([(bB.mk ([87, 105, 110, 100, 111, 119, 115] : aA) ([87, 73, 78] : aA)), (bB.mk ([77, 97, 99] : aA) ([77, 65, 67] : aA)), (bB.mk ([88, 49, 49] : aA) ([85, 78, 73, 88] : aA))] : List bB).map bB.av), some 0⟩, ⟨51, ii (([(bB.mk ([87, 105, 110, 100, 111, 119, 115] : aA) ([87, 73, 78] : aA)), (bB.mk ([77, 97, 99] : aA) ([77, 65, 67] : aA)), (bB.mk ([88, 49, 49] : aA) ([85, 78, 73, 88] : aA))] : List bB).length : Int), none⟩, ⟨52, ii x.2, none⟩] [] [2]) (gP a0) (([79, 84, 72, 69, 82] : aA), (0 : Int)) h ?_ ?_
   ·exact W
   intro n2 x y2 h hl2 hr2
   obtain ⟨s11, s12⟩ := x
   unfold gP at h
   dsimp only at h
   exact W
  ·clear hj10
   exact W⟩
instance aAg (E : Pm.Env) [aJ E] (a0 : aA) (c0 : aG) : Ok E (nF a0 c0) (fun r => FnR E Tryz.prog 150 [ss a0, AV.iptr (aG.cells c0)] (AV.tup [ss r.1, bb r.2]) false) := ⟨fun r h => by
 refine FnR.of_ev (T := T) (rows := []) tOk mixed Tryz.func150 rfl (by kernel_rfl) (by kernel_rfl) rfl fun hwf => ?_
 unfold nF at h
 refine sj <| sn <| sj <| aD h fun x1 hx1 h => aL.data _ false rfl ((aAJ E c0.Agent).1 x1 hx1) <| sn <| sj ?_
 refine ai ⟨rfl, rfl, rfl⟩ (xi (menc ss ss (mins ([] : List (aA × aA)) ([98, 114, 111, 119, 115, 101, 114] : aA) x1.1)) (ai (vS [] ss ss xU ([98, 114, 111, 119, 115, 101, 114] : aA) x1.1 ([] : List (aA × aA))) ?_))
 refine ai ⟨rfl, rfl, rfl⟩ (xi (menc ss ss (mins (mins ([] : List (aA × aA)) ([98, 114, 111, 119, 115, 101, 114] : aA) x1.1) ([118, 101, 114, 115, 105, 111, 110] : aA) x1.2.1)) (ai (vS [] ss ss xU ([118, 101, 114, 115, 105, 111, 110] : aA) x1.2.1 (mins ([] : List (aA × aA)) ([98, 114, 111, 119, 115, 101, 114] : aA) x1.1)) ?_))
 refine ai ⟨rfl, rfl, rfl⟩ (xi (menc ss ss (mins (mins (mins ([] : List (aA × aA)) ([98, 114, 111, 119, 115, 101, 114] : aA) x1.1) ([118, 101, 114, 115, 105, 111, 110] : aA) x1.2.1) ([111, 115] : aA) x1.2.2)) (ai (vS [] ss ss xU ([111, 115] : aA) x1.2.2 (mins (mins ([] : List (aA × aA)) ([98, 114, 111, 119, 115, 101, 114] : aA) x1.1) ([118, 101, 114, 115, 105, 111, 110] : aA) x1.2.1)) ?_))
 refine ai rfl (xi (ss (mget ([] : aA) (mins (mins (mins ([] : List (aA × aA)) ([98, 114, 111, 119, 115, 101, 114] : aA) x1.1) ([118, 101, 114, 115, 105, 111, 110] : aA) x1.2.1) ([111, 115] : aA) x1.2.2) a0)) (xi (mhas (mins (mins (mins ([] : List (aA × aA)) ([98, 114, 111, 119, 115, 101, 114] : aA) x1.1) ([118, 101, 114, 115, 105, 111, 110] : aA) x1.2.1) ([111, 115] : aA) x1.2.2) a0) (ai (aFi [] ss ss xU ([] : aA) rfl a0 (mins (mins (mins ([] : List (aA × aA)) ([98, 114, 111, 119, 115, 101, 114] : aA) x1.1) ([118, 101, 114, 115, 105, 111, 110] : aA) x1.2.1) ([111, 115] : aA) x1.2.2)) ?_)))
 exact W⟩
instance aBw (E : Pm.Env) [aJ E] (a0 : aA) (a1 : Int) : Ok E (j8 a0 a1) (fun r => FnR E Tryz.prog 193 [ss a0, AV.int .u8 a1] (ss r) false) := ⟨fun r h => by
 refine FnR.of_ev (T := T) (rows := []) tOk mixed Tryz.func193 rfl (by kernel_rfl) (by kernel_rfl) rfl fun hwf => ?_
 unfold j8 at h
 refine sj <| sn <| aD h fun j1 hj1 h => ?_
 refine SeqJ.join (St.of [⟨0, ss j1, none⟩] [] []) ?_ ?_
 ·clear h; have h := hj1; clear hj1
  refine cQ.img (fun x : aA => St.of [⟨0, ss x, none⟩, ⟨1, AV.int .u8 a1, none⟩] [] []) (iT a1) a0 h ?_ ?_
  ·exact W
  intro n1 x y1 h hl1 hr1
  revert h; revert x; intro s2 h
  unfold iT at h
  exact W
 ·clear hj1
  exact W⟩
instance aAK (E : Pm.Env) [aJ E] (a0 : aA) (a1 : (List Bool)) : Ok E (fD a0 a1) (fun r => FnR E Tryz.prog 194 [ss a0, AV.iptr (a1.map AV.bool)] (ss r) false) := ⟨fun r h => by
 refine FnR.of_ev (T := T) (rows := []) tOk mixed Tryz.func194 rfl (by kernel_rfl) (by kernel_rfl) rfl fun hwf => ?_
 unfold fD at h
 refine sj <| sn <| aD h fun j1 hj1 h => ?_
 refine SeqJ.join (St.of [⟨0, ss j1, none⟩] [] []) ?_ ?_
 ·clear h; have h := hj1; clear hj1
  refine cQ.img (fun x : aA => St.of [⟨0, ss x, none⟩, ⟨1, AV.iptr (a1.map AV.bool), none⟩] [] []) (fR a1) a0 h ?_ ?_
  ·exact W
  intro n1 x y1 h hl1 hr1
  revert h; revert x; intro s2 h
  unfold fR at h
  exact W
 ·clear hj1
  exact W⟩
instance aAL (E : Pm.Env) [aJ E] (a0 : Int) : Ok E (jN a0) (fun r => FnR E Tryz.prog 201 [AV.int .u8 a0] (bb r) false) := ⟨fun r h => by
 refine FnR.of_ev (T := T) (rows := []) tOk mixed Tryz.func201 rfl (by kernel_rfl) (by kernel_rfl) rfl fun hwf => ?_
 unfold jN at h
 exact W⟩
instance tY (E : Pm.Env) [aJ E] (a0 : aA) : Ok E (eL a0) (fun r => FnR E Tryz.prog 198 [ss a0] (AV.tup [AV.int .i32 r.1, ii r.2]) false) := ⟨fun r h => by
 refine FnR.of_ev (T := T) (rows := []) tOk mixed Tryz.func198 rfl (by kernel_rfl) (by kernel_rfl) rfl fun hwf => ?_
 unfold eL at h
 refine sj <| sn <| sj <| aF.same <| sn <| sj <| sj <| sn ?_
 refine Br.of h (fun ht h => ?_) fun ht h => ?_
 ·exact W
 ·refine sn <| sj <| sn <| sj <| aD h fun x1 hx1 h => ?_
  refine xi x1 (ai (fun hg => jW hx1) ?_)
  refine sn <| sj <| sj <| sn ?_
  refine Br.of h (fun ht h => ?_) fun ht h => ?_
  ·exact W
  ·refine sn <| sj <| ai rfl <| sn <| aD h fun j2 hj2 h => ?_
   refine SeqJ.join (St.of [⟨0, ss a0, none⟩, ⟨4, ii (a0.length : Int), none⟩, ⟨5, ii j2, none⟩] [] []) ?_ ?_
   ·clear h; have h := hj2; clear hj2
    refine sj <| sn ?_
    refine cQ.img (fun x : Int => St.of [⟨0, ss a0, none⟩, ⟨4, ii (a0.length : Int), none⟩, ⟨5, ii x, none⟩, ⟨6, ii (imax (IntKind.i64.wrap ((a0.length : Int) - (4 : Int))) (0 : Int)), none⟩] [] []) (dV a0) (IntKind.i64.wrap ((IntKind.i64.wrap ((a0.length : Int) - (1 : Int))) - (1 : Int))) h ?_ ?_
    ·exact W
    intro n1 x y1 h hl1 hr1
    revert h; revert x; intro s3 h
    unfold dV at h
    exact W
   ·clear hj2
    exact W⟩
instance aAh (E : Pm.Env) [aJ E] (a0 : aA) (a1 : aA) : Ok E (iU a0 a1) (fun r => FnR E Tryz.prog 195 [ss a0, ss a1] (ss r) false) := ⟨fun r h => by
 refine FnR.of_ev (T := T) (rows := []) tOk mixed Tryz.func195 rfl (by kernel_rfl) (by kernel_rfl) rfl fun hwf => ?_
 unfold iU at h
 refine sj <| sn <| aD h fun j1 hj1 h => ?_
 refine SeqJ.join (St.of [⟨0, ss j1, none⟩] [] []) ?_ ?_
 ·clear h; have h := hj1; clear hj1
  refine cQ.img (fun x : aA => St.of [⟨0, ss x, none⟩, ⟨1, ss a1, none⟩] [] []) (gY a1) a0 h ?_ ?_
  ·exact W
  intro n1 x y1 h hl1 hr1
  revert h; revert x; intro s2 h
  unfold gY at h
  exact W
 ·clear hj1
  exact W⟩
instance aIp (E : Pm.Env) [aJ E] (a0 : aA) (a1 : aA) : Ok E (pM a0 a1) (fun r => FnR E Tryz.prog 187 [ss a0, ss a1] (ss r) false) := ⟨fun r h => by
 refine FnR.of_ev (T := T) (rows := []) tOk mixed Tryz.func187 rfl (by kernel_rfl) (by kernel_rfl) rfl fun hwf => ?_
 unfold pM at h
 refine sj <| sn <| sj <| sj <| ai id <| ai (fun hg => (iP hg)) <| sn ?_
 refine Br.of h (fun ht h => ?_) fun ht h => ?_
 ·exact W
 ·refine sn <| sj <| sj <| aF.same <| aD h fun x1 hx1 h => ai id ?_
  refine xi x1 (ai (fun hg => o9 hx1 hg) ?_)
  refine ai id <| ai (fun hg => (iP hg)) <| sn ?_
  refine Br.of h (fun ht h => ?_) fun ht h => ?_
  ·exact W
  ·refine sn <| sj <| sj <| aD h fun x6 hx6 h => aL.data _ false rfl ((mQ E a1).1 x6 hx6) <| ai rfl <| kV h fun q7 h => ?_
   refine ai ⟨rfl, aCk _ q7, rfl, aFs rfl⟩ (xi (x6.1.map AV.bool) (ai (fun _ => vX _ _ q7 rfl) ?_))
   refine sn <| sj <| kV h fun hc1 h => ?_
   refine SeqN.via (St.of [⟨0, ss a0, none⟩, ⟨1, ss a1, none⟩, ⟨5, AV.iptr (x6.1.map AV.bool), none⟩, ⟨34, bb x6.2, none⟩] [] []) ?_ ?_
   ·refine Gho.trans (Gho.fz [0] [(5, AV.iptr (x6.1.map AV.bool))] ⟨Frz.ptr0 rfl (wX _ (fun _ => rfl) _) (by rw [List.length_map]; exact hc1), trivial⟩) ?_
    exact W
   exact W⟩
instance p4 (E : Pm.Env) [aJ E] (a0 : aA) : Ok E (nG a0) (fun r => FnR E Tryz.prog 178 [ss a0] (ss r) false) := ⟨fun r h => by
 refine FnR.of_ev (T := T) (rows := []) tOk mixed Tryz.func178 rfl (by kernel_rfl) (by kernel_rfl) rfl fun hwf => ?_
 unfold nG at h
 exact W⟩
instance xL (E : Pm.Env) [aJ E] : Ok E l8 (fun r => FnR E Tryz.prog 189 [] (AV.iptr (r.map AV.bool)) false) := ⟨fun r h => by
 refine FnR.of_ev (T := T) (rows := []) tOk mixed Tryz.func189 rfl (by kernel_rfl) (by kernel_rfl) rfl fun hwf => ?_
 unfold l8 at h
 refine sj <| sn <| sj <| ai rfl <| sn <| aD h fun j1 hj1 h => ?_
 refine SeqJ.join (St.of [⟨1, AV.ptr 0 0, none⟩] [.cells 183 (j1.map AV.bool) []] []) ?_ ?_
 ·clear h; have h := hj1; clear hj1
  refine sj <| sn ?_
  refine cQ.img (fun x : (Int × (List Bool)) => St.of [⟨1, AV.ptr 0 0, none⟩, ⟨3, ii x.1, none⟩] [.cells 183 (x.2.map AV.bool) []] []) lQ ((0 : Int), (List.replicate 256 false)) h ?_ ?_
  ·exact W
  intro n1 x y1 h hl1 hr1
  obtain ⟨s2, s3⟩ := x
  unfold lQ at h
  dsimp only at h
  exact W
 ·clear hj1
  refine sj <| sn <| kV h fun hc1 h => ?_
  replace h := oi h
  refine RetE.frz ?_
  exact xi (AV.iptr (j1.map AV.bool)) (ai (Frz.ptr0 rfl (wX _ (fun _ => rfl) _) (by rw [List.length_map]; exact hc1)) (ai (congrArg (fun r : (List Bool) => AV.iptr (r.map AV.bool)) h) rfl))⟩
theorem aDO (E : Pm.Env) [aJ E] (a0 : aA) (a1 : (List Bool)) (a2 : FuncId) (a2c : List AV) (a2i : (List Bool) -> Int -> Option Bool) (a2h : ∀ (x0 : (List Bool)) (x1 : Int) (r : Bool), a2i x0 x1 = some r -> FnR E Tryz.prog a2 ([AV.iptr (x0.map AV.bool), AV.int .u8 x1] ++ a2c) (bb r) false) (a2p : a2c.all AV.puB = true) (r : Bool) (h : sF a0 a1 a2i = some r) : FnR E Tryz.prog 188 [ss a0, AV.iptr (a1.map AV.bool), AV.fn a2 [] a2c] (bb r) false := by
 refine FnR.of_ev (T := T) (rows := []) tOk mixed Tryz.func188 rfl (by kernel_rfl) (by kernel_rfl) rfl fun hwf => ?_
 unfold sF at h
 refine sj <| sn <| sj <| sj <| aF.same <| sn ?_
 refine cQ.img (fun x : Int => St.of [⟨0, ss a0, none⟩, ⟨1, AV.iptr (a1.map AV.bool), none⟩, ⟨2, AV.fn a2 [] a2c, none⟩, ⟨9, ii (a0.length : Int), none⟩, ⟨10, ii x, none⟩] [] []) (lY a0 a1 a2i) (0 : Int) h ?_ ?_
 ·refine Gho.to _ _ _ [] ?_ ?_ ?_ rfl rfl ?_
  ·exact trivial
  ·exact rfl
  ·exact rfl
  ·exact ⟨rfl, rfl, trivial, rfl, rfl, trivial, rfl, (sT a2p _), trivial, rfl, rfl, trivial, rfl, rfl, trivial, trivial⟩
 intro n1 x y1 h hl1 hr1
 revert h; revert x; intro s1 h
 unfold lY at h
 refine sj <| sn <| sj ?_
 refine Br.of h (fun ht h => ?_) fun ht h => ?_
 ·refine sn <| sj <| sj <| sn <| sj <| aD h fun x2 hx2 h => ?_
  refine xi x2 (ai (fun hg => jW hx2) ?_)
  refine aD h fun x3 hx3 h => aL.data _ false (wW rfl (aBh a2p)) (a2h a1 (x2.toNat : Int) x3 hx3) <| sn ?_
  refine Br.of h (fun ht h => ?_) fun ht h => ?_
  ·exact W
  ·refine sn ?_
   replace h := oi h
   refine xi ⟨(n1, (IntKind.i64.wrap (s1 + (1 : Int)))), hl1 _ h.symm⟩ (ai (aPt _) ?_)
   refine Gho.to _ _ _ [] ?_ ?_ ?_ rfl rfl ?_
   ·exact W
   ·exact rfl
   ·exact rfl
   ·exact ⟨rfl, rfl, trivial, rfl, rfl, trivial, rfl, (sT a2p _), trivial, rfl, rfl, trivial, rfl, rfl, trivial, trivial⟩
 ·exact W
instance aAi (E : Pm.Env) [aJ E] (a0 : (List Bool)) (a1 : Int) : Ok E (iW a0 a1) (fun r => FnR E Tryz.prog 190 [AV.iptr (a0.map AV.bool), AV.int .u8 a1] (bb r) false) := ⟨fun r h => by
 refine FnR.of_ev (T := T) (rows := []) tOk mixed Tryz.func190 rfl (by kernel_rfl) (by kernel_rfl) rfl fun hwf => ?_
 unfold iW at h
 exact W⟩
instance aAj (E : Pm.Env) [aJ E] (a0 : aA) : Ok E (nH a0) (fun r => FnR E Tryz.prog 179 [ss a0] (AV.tup [ss r.1, ii r.2]) false) := ⟨fun r h => by
 refine FnR.of_ev (T := T) (rows := []) tOk mixed Tryz.func179 rfl (by kernel_rfl) (by kernel_rfl) rfl fun hwf => ?_
 unfold nH at h
 refine sj <| sn <| sj <| aF.same <| sn <| sj <| sj <| aD h fun x1 hx1 h => ai id ?_
 refine xi x1 (ai (fun hg => o9 hx1 hg) ?_)
 refine ai id <| ai (fun hg => (iP hg)) <| ai id <| aD h fun x2 hx2 h => ai id <| ai id ?_
 refine xi x2 (ai (fun hg => o9 hx2 hg) ?_)
 refine ai id <| ai (fun hg => (iP hg)) <| aD h fun x3 hx3 h => ai rfl ?_
 refine oG.mk _ false (fun hg => (xL E).1  x3 (dF hx3 hg)) (ai rfl ?_)
 refine aD h fun x4 hx4 h => ai id <| ai id <| ai rfl ?_
 refine oG.mk _ false (fun hg => aDO E a0 x3 190 [] (fun x0 x1 => iW x0 x1) (fun x0 x1 r h => (aAi E x0 x1).1 r h) rfl x4 (dF hx4 hg)) (ai rfl ?_)
 refine ai (fun hg => (iP hg)) <| sn ?_
 refine Br.of h (fun ht h => ?_) fun ht h => ?_
 ·exact W
 ·refine sn <| sj <| sn <| sj <| sj <| sn ?_
  refine cQ.img (fun x : ((List UInt8) × Int) => St.of [⟨0, ss a0, none⟩, ⟨4, ii (a0.length : Int), none⟩, ⟨5, AV.list 1 (x.1.map dY), some 0⟩, ⟨6, ii x.2, none⟩] [] [1]) (fZ a0) (([] : List UInt8), (1 : Int)) h ?_ ?_
  ·exact W
  intro n1 x y1 h hl1 hr1
  obtain ⟨s5, s6⟩ := x
  unfold fZ at h
  dsimp only at h
  exact W⟩
theorem v8 (E : Pm.Env) [aJ E] (a0 : aA) (oc0 : (List aE)) (r : Unit) (oc0' : (List aE)) (h : l9 a0 oc0 = some (r, oc0')) : FnW E Tryz.prog 177 [ss a0, AV.ptr 0 0] [.cells 113 [AV.list 2 (oc0.map aE.av)] [(0, 0)]] [1] (AV.tup []) none [.cells 113 [AV.list 2 (oc0'.map aE.av)] [(0, 1)]] [0, 1] := by
 refine FnW.of_evB (T := T) (rows := []) tOk mixed Tryz.func177 rfl (by kernel_rfl) (by kernel_rfl) rfl rfl fun hwf => ?_
 unfold l9 at h
 refine sj <| aD h fun x1 hx1 h => aL.data _ false rfl ((p4 E a0).1 x1 hx1) <| aD h fun x2 hx2 h => aL.data _ false rfl ((lN E x1 ([61] : aA)).1 x2 hx2) <| sn <| sj <| aD h fun x3 hx3 h => aL.data _ false rfl ((p4 E x2.1).1 x3 hx3) <| aD h fun x4 hx4 h => aL.data _ false rfl ((p4 E x2.2.1).1 x4 hx4) <| sn <| sj <| sj <| ai id <| ai (fun hg => (iP hg)) <| sn ?_
 refine Br.of h (fun ht h => ?_) fun ht h => ?_
 ·replace h := oi h
  have h0 := (Prod.mk.inj h).1
  have h1 := (Prod.mk.inj h).2
  subst h0
  subst h1
  refine xi [] (xi [.cells 113 [AV.list 2 (oc0.map aE.av)] [(0, 1)]] (ai rfl (ai (Gho.to _ _ _ [0, 0] ?_ ?_ ?_ rfl rfl ?_) (ai ?_ rfl))))
  ·exact ⟨⟨rfl, rfl, rfl⟩, trivial⟩
  ·exact rfl
  ·exact rfl
  ·exact trivial
  ·exact rfl
 ·refine sn <| sj <| sj <| aD h fun x5 hx5 h => aL.data _ false rfl ((aAj E x4).1 x5 hx5) <| sn <| sj <| sn ?_
  refine Br.of h (fun ht h => ?_) fun ht h => ?_
  ·refine sn <| ai ⟨rfl, rfl, lb rfl⟩ <| ai ⟨rfl, rfl, lb rfl⟩ ?_
   refine xi none (ai trivial ?_)
   refine ai ⟨rfl, rfl, rfl, rfl⟩ <| ai ⟨rfl, rfl, rfl⟩ <| aF.to (AV.list 2 (([(aE.mk x3 x5.1)] : List aE).map aE.av)) (fun _ => rfl) <| aD h fun x6 hx6 h => ?_
   have qx6 := (dG hx6).1
   have hx6e := (dG hx6).2
   refine ai ⟨rfl, rfl, rfl⟩ <| ai rfl <| ai (jX aE.av qx6) <| aF.to (AV.list 2 (x6.map aE.av)) (fun _ => (jY 2 aE.av _ _).trans (congrArg (fun y => AV.list 2 (List.map aE.av y)) hx6e.symm)) ?_
   refine ai ⟨rfl, rfl, rfl, lb rfl⟩ (xi [AV.list 2 (x6.map aE.av)] (ai (fun _ => rfl) ?_))
   replace h := oi h
   have h0 := (Prod.mk.inj h).1
   have h1 := (Prod.mk.inj h).2
   subst h0
   subst h1
   refine xi [] (xi [.cells 113 [AV.list 2 (x6.map aE.av)] [(0, 1)]] (ai rfl (ai (Gho.to _ _ _ [0, 2] ?_ ?_ ?_ rfl rfl ?_) (ai ?_ rfl))))
   ·exact ⟨⟨rfl, rfl, rfl⟩, trivial⟩
   ·exact rfl
   ·exact rfl
   ·exact trivial
   ·exact rfl
  ·refine sn <| ai ⟨rfl, rfl, lb rfl⟩ <| ai ⟨rfl, rfl, lb rfl⟩ ?_
   refine xi none (ai trivial ?_)
   refine ai ⟨rfl, rfl, rfl, rfl⟩ <| ai ⟨rfl, rfl, rfl⟩ <| aF.to (AV.list 2 (([(aE.mk x3 x4)] : List aE).map aE.av)) (fun _ => rfl) <| aD h fun x7 hx7 h => ?_
   have qx7 := (dG hx7).1
   have hx7e := (dG hx7).2
   refine ai ⟨rfl, rfl, rfl⟩ <| ai rfl <| ai (jX aE.av qx7) <| aF.to (AV.list 2 (x7.map aE.av)) (fun _ => (jY 2 aE.av _ _).trans (congrArg (fun y => AV.list 2 (List.map aE.av y)) hx7e.symm)) ?_
   refine ai ⟨rfl, rfl, rfl, lb rfl⟩ (xi [AV.list 2 (x7.map aE.av)] (ai (fun _ => rfl) ?_))
   replace h := oi h
   have h0 := (Prod.mk.inj h).1
   have h1 := (Prod.mk.inj h).2
   subst h0
   subst h1
   refine xi [] (xi [.cells 113 [AV.list 2 (x7.map aE.av)] [(0, 1)]] (ai rfl (ai (Gho.to _ _ _ [0, 2] ?_ ?_ ?_ rfl rfl ?_) (ai ?_ rfl))))
   ·exact ⟨⟨rfl, rfl, rfl⟩, trivial⟩
   ·exact rfl
   ·exact rfl
   ·exact trivial
   ·exact rfl
theorem nY (E : Pm.Env) [aJ E] (a0 : aA) (a1 : aA) (oa20 : (List aE)) (r : Unit) (oa20' : (List aE)) (h : eV a0 a1 oa20 = some (r, oa20')) : FnW E Tryz.prog 176 [ss a0, ss a1, AV.fn 177 [] [AV.ptr 0 0]] [.cells 113 [AV.list 2 (oa20.map aE.av)] [(0, 0)]] [1] (AV.tup []) none [.cells 113 [AV.list 2 (oa20'.map aE.av)] [(0, 1)]] [0, 1] := by
 refine FnW.of_evB (T := T) (rows := []) tOk mixed Tryz.func176 rfl (by kernel_rfl) (by kernel_rfl) rfl rfl fun hwf => ?_
 unfold eV at h
 refine sj <| aD h fun x1 hx1 h => aL.data _ false rfl (lP E a0 a1 x1 hx1) <| aF.to (ii (x1.length : Int)) (fun _ => bD ss x1) <| sn ?_
 refine cQ.img (fun x : (Int × (List aE)) => St.of [⟨2, AV.fn 177 [] [AV.ptr 0 0], none⟩, ⟨10, AV.list 1 (x1.map AV.str), none⟩, ⟨11, ii (x1.length : Int), none⟩, ⟨12, ii x.1, none⟩] [.cells 113 [AV.list 2 (x.2.map aE.av)] [(0, 1)]] [0, 1]) (cE x1) ((0 : Int), oa20) h ?_ ?_
 ·refine Gho.to _ _ _ [0, 0] ?_ ?_ ?_ rfl rfl ?_
  ·exact ⟨⟨rfl, rfl, rfl⟩, trivial⟩
  ·exact rfl
  ·exact rfl
  ·exact tr3 <| tr3 <| tr3 <| tr3 <| trivial
 intro n1 x y1 h hl1 hr1
 obtain ⟨s2, s3⟩ := x
 unfold cE at h
 dsimp only at h
 refine sj <| sn <| sj ?_
 refine Br.of h (fun ht h => ?_) fun ht h => ?_
 ·refine sn <| sj <| sj <| aD h fun x4 hx4 h => ?_
  refine ai rfl (xi (ss x4) (ai (fun hg => c4 _ hx4) ?_))
  refine sn <| sj <| sn ?_
  refine Br.of h (fun ht h => ?_) fun ht h => ?_
  ·refine aD h fun x5 hx5 h => aL.ren [0] [1] [.cells 113 [AV.list 2 (x5.2.map aE.av)] [(0, 2)]] [0, 0, 1] (v8 E x4 s3 x5.1 x5.2 hx5) rfl rfl rfl rfl rfl rfl rfl rfl rfl <| sn ?_
   replace h := oi h
   refine xi ⟨(n1, ((IntKind.i64.wrap (s2 + (1 : Int))), x5.2)), hl1 _ h.symm⟩ (ai (aPt _) ?_)
   refine Gho.to _ _ _ [0, 2] ?_ ?_ ?_ rfl rfl ?_
   ·exact ⟨⟨rfl, rfl, rfl⟩, trivial⟩
   ·exact rfl
   ·exact rfl
   ·exact tr3 <| tr3 <| tr3 <| tr3 <| trivial
  ·refine sn ?_
   replace h := oi h
   refine xi ⟨(n1, ((IntKind.i64.wrap (s2 + (1 : Int))), s3)), hl1 _ h.symm⟩ (ai (aPt _) ?_)
   refine Gho.to _ _ _ [0, 1] ?_ ?_ ?_ rfl rfl ?_
   ·exact ⟨⟨rfl, rfl, rfl⟩, trivial⟩
   ·exact rfl
   ·exact rfl
   ·exact tr3 <| tr3 <| tr3 <| tr3 <| trivial
 ·replace h := oi h
  replace h := hr1 _ h.symm
  have h0 := (Prod.mk.inj h).1
  have h1 := (Prod.mk.inj h).2
  subst h0
  subst h1
  refine xi [] (xi [.cells 113 [AV.list 2 (s3.map aE.av)] [(0, 1)]] (ai rfl (ai (Gho.to _ _ _ [0, 1] ?_ ?_ ?_ rfl rfl ?_) (ai ?_ rfl))))
  ·exact ⟨⟨rfl, rfl, rfl⟩, trivial⟩
  ·exact rfl
  ·exact rfl
  ·exact trivial
  ·exact rfl
instance aGv (E : Pm.Env) [aJ E] (a0 : aA) : Ok E (iG a0) (fun r => FnR E Tryz.prog 157 [ss a0] (AV.list 2 (r.map aE.av)) true) := ⟨fun r h => by
 refine FnR.of_ev (T := T) (rows := []) tOk mixed Tryz.func157 rfl (by kernel_rfl) (by kernel_rfl) rfl fun hwf => ?_
 unfold iG at h
 refine sj <| sn <| sj <| ai rfl ?_
 refine SeqN.via (St.of [⟨0, ss a0, none⟩, ⟨3, AV.ptr 0 0, none⟩] [.cells 113 [AV.list 2 (([] : List aE).map aE.av)] [(0, 0)]] [1]) ?_ ?_
 ·refine Gho.to _ _ _ [1] ?_ ?_ ?_ rfl rfl ?_
  ·exact W
  ·exact rfl
  ·exact rfl
  ·exact tr3 <| tr3 <| trivial
 refine sj <| aD h fun x1 hx1 h => aL.ren [0] [0] [.cells 113 [AV.list 2 (x1.2.map aE.av)] [(0, 1)]] [0, 1] (nY E a0 ([59] : aA) ([] : List aE) x1.1 x1.2 hx1) rfl rfl rfl rfl rfl rfl rfl rfl rfl <| sn <| sj <| sn ?_
 exact W⟩
theorem kW (E : Pm.Env) [aJ E] (a0 : (List aE)) (a1 : FuncId) (a1c : List AV) (a1i : aE -> Option Bool) (a1h : ∀ (x0 : aE) (r : Bool), a1i x0 = some r -> FnR E Tryz.prog a1 ([aE.av x0] ++ a1c) (bb r) false) (a1p : a1c.all AV.puB = true) (r : Int) (h : cW a0 a1i = some r) : FnR E Tryz.prog 174 [AV.list 2 (a0.map aE.av), AV.fn a1 [] a1c] (ii r) false := by
 refine FnR.of_ev (T := T) (rows := []) tOk mixed Tryz.func174 rfl (by kernel_rfl) (by kernel_rfl) rfl fun hwf => ?_
 unfold cW at h
 refine sj <| sn <| sj <| sj <| aF.to (ii (a0.length : Int)) (fun _ => bD aE.av a0) <| sn ?_
 refine cQ.img (fun x : Int => St.of [⟨0, AV.list 2 (a0.map aE.av), none⟩, ⟨1, AV.fn a1 [] a1c, none⟩, ⟨7, ii (a0.length : Int), none⟩, ⟨8, ii x, none⟩] [] []) (aN a0 a1i) (0 : Int) h ?_ ?_
 ·refine Gho.to _ _ _ [] ?_ ?_ ?_ rfl rfl ?_
  ·exact trivial
  ·exact rfl
  ·exact rfl
  ·exact ⟨rfl, rfl, trivial, rfl, (sT a1p _), trivial, rfl, rfl, trivial, rfl, rfl, trivial, trivial⟩
 intro n1 x y1 h hl1 hr1
 revert h; revert x; intro s1 h
 unfold aN at h
 refine sj <| sn <| sj ?_
 refine Br.of h (fun ht h => ?_) fun ht h => ?_
 ·refine sn <| sj <| sj <| sn <| sj <| aD h fun x2 hx2 h => ?_
  refine ai rfl (xi (aE.av x2) (ai (fun hg => c4 _ hx2) ?_))
  refine ai (lb rfl) <| aF.to (aE.av x2) (fun _ => rfl) <| aD h fun x3 hx3 h => aL.data _ false (wW rfl (aBh a1p)) (a1h x2 x3 hx3) <| sn ?_
  refine Br.of h (fun ht h => ?_) fun ht h => ?_
  ·exact W
  ·refine sn ?_
   replace h := oi h
   refine xi ⟨(n1, (IntKind.i64.wrap (s1 + (1 : Int)))), hl1 _ h.symm⟩ (ai (aPt _) ?_)
   refine Gho.to _ _ _ [] ?_ ?_ ?_ rfl rfl ?_
   ·exact W
   ·exact rfl
   ·exact rfl
   ·exact ⟨rfl, rfl, trivial, rfl, (sT a1p _), trivial, rfl, rfl, trivial, rfl, rfl, trivial, trivial⟩
 ·exact W
instance aAk (E : Pm.Env) [aJ E] (a0 : aE) (c0 : aA) : Ok E (iH a0 c0) (fun r => FnR E Tryz.prog 175 [aE.av a0, AV.iptr [ss c0]] (bb r) false) := ⟨fun r h => by
 refine FnR.of_ev (T := T) (rows := []) tOk mixed Tryz.func175 rfl (by kernel_rfl) (by kernel_rfl) rfl fun hwf => ?_
 unfold iH at h
 exact W⟩
instance aJn (E : Pm.Env) [aJ E] (a0 : (List aE)) (a1 : aA) : Ok E (oK a0 a1) (fun r => FnR E Tryz.prog 156 [AV.list 2 (a0.map aE.av), ss a1] (AV.tup [ss r.1, bb r.2]) false) := ⟨fun r h => by
 refine FnR.of_ev (T := T) (rows := []) tOk mixed Tryz.func156 rfl (by kernel_rfl) (by kernel_rfl) rfl fun hwf => ?_
 unfold oK at h
 refine sj <| ai rfl ?_
 refine SeqN.via (St.of [⟨0, AV.list 2 (a0.map aE.av), none⟩, ⟨3, AV.iptr [ss a1], none⟩] [] []) ?_ ?_
 ·refine Gho.trans (Gho.fz [0] [(3, AV.iptr [ss a1])] ⟨Frz.ptrD rfl rfl (lb rfl), trivial⟩) ?_
  exact W
 refine sj <| sj <| aD h fun x1 hx1 h => aL.data _ false rfl (kW E a0 175 [AV.iptr [ss a1]] (fun x0 => iH x0 a1) (fun x0 r h => (aAk E x0 a1).1 r h) rfl x1 hx1) <| sn <| sj <| sn ?_
 refine Br.of h (fun ht h => ?_) fun ht h => ?_
 ·exact W
 ·exact W⟩
instance aAl (E : Pm.Env) [aJ E] (a0 : aA) (c0 : aG) : Ok E (nI a0 c0) (fun r => FnR E Tryz.prog 155 [ss a0, AV.iptr (aG.cells c0)] (AV.tup [ss r.1, bb r.2]) false) := ⟨fun r h => by
 refine FnR.of_ev (T := T) (rows := []) tOk mixed Tryz.func155 rfl (by kernel_rfl) (by kernel_rfl) rfl fun hwf => ?_
 unfold nI at h
 exact W⟩
instance aCz (E : Pm.Env) [aJ E] (a0 : aA) : Ok E (m7 a0) (fun r => FnR E Tryz.prog 162 [ss a0] (ss r) false) := ⟨fun r h => by
 refine FnR.of_ev (T := T) (rows := [7]) tOk mixed Tryz.func162 rfl (by kernel_rfl) (by kernel_rfl) rfl fun hwf => ?_
 unfold m7 at h
 refine sj <| sn <| sj <| ai ⟨rfl, rfl⟩ <| sn <| aD h fun j1 hj1 h => ?_
 refine SeqJ.join (St.of [⟨3, AV.row 0 0 a0.length, none⟩] [.cells 5 (j1.map dY) []] []) ?_ ?_
 ·clear h; have h := hj1; clear hj1
  refine sj <| aF.same <| sn ?_
  refine cQ.img (fun x : (Int × (List UInt8)) => St.of [⟨3, AV.row 0 0 a0.length, none⟩, ⟨8, AV.row 0 0 a0.length, none⟩, ⟨9, ii ((a0.length : Nat) : Int), none⟩, ⟨10, ii x.1, none⟩] [.cells 5 (x.2.map dY) []] []) (i8 a0) ((0 : Int), a0) h ?_ ?_
  ·exact W
  intro n1 x y1 h hl1 hr1
  obtain ⟨s2, s3⟩ := x
  unfold i8 at h
  dsimp only at h
  exact W
 ·clear hj1
  refine sj <| kV h fun q8 h => ?_
  refine ai rfl (xi (j1.take a0.length) (ai (aJa q8) ?_))
  exact W⟩
instance aJI (E : Pm.Env) [aJ E] (a0 : Int) : Ok E (nJ a0) (fun r => FnR E Tryz.prog 191 [AV.int .u8 a0] (ii r) false) := ⟨fun r h => by
 refine FnR.of_ev (T := T) (rows := []) tOk mixed Tryz.func191 rfl (by kernel_rfl) (by kernel_rfl) rfl fun hwf => ?_
 unfold nJ at h
 exact W⟩
instance uN (E : Pm.Env) [aJ E] (a0 : aA) : Ok E (m9 a0) (fun r => FnR E Tryz.prog 181 [ss a0] (ss r) false) := ⟨fun r h => by
 refine FnR.of_ev (T := T) (rows := []) tOk mixed Tryz.func181 rfl (by kernel_rfl) (by kernel_rfl) rfl fun hwf => ?_
 unfold m9 at h
 refine sj <| sn <| sj <| sn <| aD h fun j1 hj1 h => ?_
 refine SeqJ.join (St.of [⟨3, AV.list 1 (j1.map dY), some 0⟩] [] [1]) ?_ ?_
 ·clear h; have h := hj1; clear hj1
  refine sj <| sn ?_
  refine cQ.img (fun x : ((List UInt8) × Int) => St.of [⟨0, ss a0, none⟩, ⟨3, AV.list 1 (x.1.map dY), some 0⟩, ⟨4, ii x.2, none⟩] [] [1]) (iO a0) (([] : List UInt8), (0 : Int)) h ?_ ?_
  ·exact W
  intro n1 x y1 h hl1 hr1
  obtain ⟨s2, s3⟩ := x
  unfold iO at h
  dsimp only at h
  exact W
 ·clear hj1
  exact W⟩
theorem xM (E : Pm.Env) [aJ E] (a0 : aA) (oc0 : (List aE)) (r : Unit) (oc0' : (List aE)) (h : oE a0 oc0 = some (r, oc0')) : FnW E Tryz.prog 180 [ss a0, AV.ptr 0 0] [.cells 113 [AV.list 2 (oc0.map aE.av)] [(0, 0)]] [1] (AV.tup []) none [.cells 113 [AV.list 2 (oc0'.map aE.av)] [(0, 1)]] [0, 1] := by
 refine FnW.of_evB (T := T) (rows := []) tOk mixed Tryz.func180 rfl (by kernel_rfl) (by kernel_rfl) rfl rfl fun hwf => ?_
 unfold oE at h
 refine sj <| aD h fun x1 hx1 h => aL.data _ false rfl ((lN E a0 ([61] : aA)).1 x1 hx1) <| sn <| Or.inl <| aD h fun x2 hx2 h => aL.data _ false rfl ((uN E x1.1).1 x2 hx2) <| aD h fun x3 hx3 h => aL.data _ false rfl ((uN E x1.2.1).1 x3 hx3) <| ai ⟨rfl, rfl, lb rfl⟩ <| ai ⟨rfl, rfl, lb rfl⟩ ?_
 refine xi none (ai trivial ?_)
 refine ai ⟨rfl, rfl, rfl, rfl⟩ <| ai ⟨rfl, rfl, rfl⟩ <| aF.to (AV.list 2 (([(aE.mk x2 x3)] : List aE).map aE.av)) (fun _ => rfl) <| aD h fun x4 hx4 h => ?_
 have qx4 := (dG hx4).1
 have hx4e := (dG hx4).2
 refine ai ⟨rfl, rfl, rfl⟩ <| ai rfl <| ai (jX aE.av qx4) <| aF.to (AV.list 2 (x4.map aE.av)) (fun _ => (jY 2 aE.av _ _).trans (congrArg (fun y => AV.list 2 (List.map aE.av y)) hx4e.symm)) ?_
 refine ai ⟨rfl, rfl, rfl, lb rfl⟩ (xi [AV.list 2 (x4.map aE.av)] (ai (fun _ => rfl) ?_))
 refine ai (by kernel_rfl) ?_
 replace h := oi h
 have h0 := (Prod.mk.inj h).1
 have h1 := (Prod.mk.inj h).2
 subst h0
 subst h1
 refine xi [] (xi [.cells 113 [AV.list 2 (x4.map aE.av)] [(0, 1)]] (ai rfl (ai (Gho.to _ _ _ [0, 2] ?_ ?_ ?_ rfl rfl ?_) (ai ?_ rfl))))
 ·exact ⟨⟨rfl, rfl, rfl⟩, trivial⟩
 ·exact rfl
 ·exact rfl
 ·exact trivial
 ·exact rfl
theorem oJ (E : Pm.Env) [aJ E] (a0 : aA) (a1 : aA) (oa20 : (List aE)) (r : Unit) (oa20' : (List aE)) (h : fS a0 a1 oa20 = some (r, oa20')) : FnW E Tryz.prog 176 [ss a0, ss a1, AV.fn 180 [] [AV.ptr 0 0]] [.cells 113 [AV.list 2 (oa20.map aE.av)] [(0, 0)]] [1] (AV.tup []) none [.cells 113 [AV.list 2 (oa20'.map aE.av)] [(0, 1)]] [0, 1] := by
 refine FnW.of_evB (T := T) (rows := []) tOk mixed Tryz.func176 rfl (by kernel_rfl) (by kernel_rfl) rfl rfl fun hwf => ?_
 unfold fS at h
 refine sj <| aD h fun x1 hx1 h => aL.data _ false rfl (lP E a0 a1 x1 hx1) <| aF.to (ii (x1.length : Int)) (fun _ => bD ss x1) <| sn ?_
 refine cQ.img (fun x : (Int × (List aE)) => St.of [⟨2, AV.fn 180 [] [AV.ptr 0 0], none⟩, ⟨10, AV.list 1 (x1.map AV.str), none⟩, ⟨11, ii (x1.length : Int), none⟩, ⟨12, ii x.1, none⟩] [.cells 113 [AV.list 2 (x.2.map aE.av)] [(0, 1)]] [0, 1]) (cK x1) ((0 : Int), oa20) h ?_ ?_
 ·refine Gho.to _ _ _ [0, 0] ?_ ?_ ?_ rfl rfl ?_
  ·exact ⟨⟨rfl, rfl, rfl⟩, trivial⟩
  ·exact rfl
  ·exact rfl
  ·exact tr3 <| tr3 <| tr3 <| tr3 <| trivial
 intro n1 x y1 h hl1 hr1
 obtain ⟨s2, s3⟩ := x
 unfold cK at h
 dsimp only at h
 refine sj <| sn <| sj ?_
 refine Br.of h (fun ht h => ?_) fun ht h => ?_
 ·refine sn <| sj <| sj <| aD h fun x4 hx4 h => ?_
  refine ai rfl (xi (ss x4) (ai (fun hg => c4 _ hx4) ?_))
  refine sn <| sj <| sn ?_
  refine Br.of h (fun ht h => ?_) fun ht h => ?_
  ·refine aD h fun x5 hx5 h => aL.ren [0] [1] [.cells 113 [AV.list 2 (x5.2.map aE.av)] [(0, 2)]] [0, 0, 1] (xM E x4 s3 x5.1 x5.2 hx5) rfl rfl rfl rfl rfl rfl rfl rfl rfl <| sn ?_
   replace h := oi h
   refine xi ⟨(n1, ((IntKind.i64.wrap (s2 + (1 : Int))), x5.2)), hl1 _ h.symm⟩ (ai (aPt _) ?_)
   refine Gho.to _ _ _ [0, 2] ?_ ?_ ?_ rfl rfl ?_
   ·exact ⟨⟨rfl, rfl, rfl⟩, trivial⟩
   ·exact rfl
   ·exact rfl
   ·exact tr3 <| tr3 <| tr3 <| tr3 <| trivial
  ·refine sn ?_
   replace h := oi h
   refine xi ⟨(n1, ((IntKind.i64.wrap (s2 + (1 : Int))), s3)), hl1 _ h.symm⟩ (ai (aPt _) ?_)
   refine Gho.to _ _ _ [0, 1] ?_ ?_ ?_ rfl rfl ?_
   ·exact ⟨⟨rfl, rfl, rfl⟩, trivial⟩
   ·exact rfl
   ·exact rfl
   ·exact tr3 <| tr3 <| tr3 <| tr3 <| trivial
 ·replace h := oi h
  replace h := hr1 _ h.symm
  have h0 := (Prod.mk.inj h).1
  have h1 := (Prod.mk.inj h).2
  subst h0
  subst h1
  refine xi [] (xi [.cells 113 [AV.list 2 (s3.map aE.av)] [(0, 1)]] (ai rfl (ai (Gho.to _ _ _ [0, 1] ?_ ?_ ?_ rfl rfl ?_) (ai ?_ rfl))))
  ·exact ⟨⟨rfl, rfl, rfl⟩, trivial⟩
  ·exact rfl
  ·exact rfl
  ·exact trivial
  ·exact rfl
instance aIr (E : Pm.Env) [aJ E] (a0 : aA) : Ok E (kA a0) (fun r => FnR E Tryz.prog 159 [ss a0] (AV.list 2 (r.map aE.av)) true) := ⟨fun r h => by
 refine FnR.of_ev (T := T) (rows := []) tOk mixed Tryz.func159 rfl (by kernel_rfl) (by kernel_rfl) rfl fun hwf => ?_
 unfold kA at h
 refine sj <| sn <| sj <| ai rfl ?_
 refine SeqN.via (St.of [⟨0, ss a0, none⟩, ⟨3, AV.ptr 0 0, none⟩] [.cells 113 [AV.list 2 (([] : List aE).map aE.av)] [(0, 0)]] [1]) ?_ ?_
 ·refine Gho.to _ _ _ [1] ?_ ?_ ?_ rfl rfl ?_
  ·exact W
  ·exact rfl
  ·exact rfl
  ·exact tr3 <| tr3 <| trivial
 refine sj <| aD h fun x1 hx1 h => aL.ren [0] [0] [.cells 113 [AV.list 2 (x1.2.map aE.av)] [(0, 1)]] [0, 1] (oJ E a0 ([38] : aA) ([] : List aE) x1.1 x1.2 hx1) rfl rfl rfl rfl rfl rfl rfl rfl rfl <| sn <| sj <| sn ?_
 exact W⟩
instance aAm (E : Pm.Env) [aJ E] (a0 : aA) (c0 : aG) : Ok E (nK a0 c0) (fun r => FnR E Tryz.prog 158 [ss a0, AV.iptr (aG.cells c0)] (AV.tup [ss r.1, bb r.2]) false) := ⟨fun r h => by
 refine FnR.of_ev (T := T) (rows := []) tOk mixed Tryz.func158 rfl (by kernel_rfl) (by kernel_rfl) rfl fun hwf => ?_
 unfold nK at h
 exact W⟩
instance xF (E : Pm.Env) [aJ E] (a0 : (List aA)) (a1 : aA) : Ok E (eW a0 a1) (fun r => FnR E Tryz.prog 97 [AV.list 1 (a0.map AV.str), ss a1] (ii r) false) := ⟨fun r h => by
 refine FnR.of_ev (T := T) (rows := []) tOk mixed Tryz.func97 rfl (by kernel_rfl) (by kernel_rfl) rfl fun hwf => ?_
 unfold eW at h
 refine sj <| sn <| sj <| sj <| aF.to (ii (a0.length : Int)) (fun _ => bD ss a0) <| sn ?_
 refine cQ.img (fun x : Int => St.of [⟨0, AV.list 1 (a0.map AV.str), none⟩, ⟨1, ss a1, none⟩, ⟨7, ii (a0.length : Int), none⟩, ⟨8, ii x, none⟩] [] []) (aY a0 a1) (0 : Int) h ?_ ?_
 ·exact W
 intro n1 x y1 h hl1 hr1
 revert h; revert x; intro s1 h
 unfold aY at h
 exact W⟩
instance iM (E : Pm.Env) [aJ E] (a0 : (List aA)) (a1 : aA) : Ok E (bA a0 a1) (fun r => FnR E Tryz.prog 73 [AV.list 1 (a0.map AV.str), ss a1] (bb r) false) := ⟨fun r h => by
 refine FnR.of_ev (T := T) (rows := []) tOk mixed Tryz.func73 rfl (by kernel_rfl) (by kernel_rfl) rfl fun hwf => ?_
 unfold bA at h
 exact W⟩
theorem uE (E : Pm.Env) [aJ E] (a0 : aA) (oc0 : (List aA)) (r : Unit) (oc0' : (List aA)) (h : kL a0 oc0 = some (r, oc0')) : FnW E Tryz.prog 182 [ss a0, AV.ptr 0 0] [.cells 45 [AV.list 1 (oc0.map AV.str)] [(0, 0)]] [1] (AV.tup []) none [.cells 45 [AV.list 1 (oc0'.map AV.str)] [(0, 1)]] [0, 1] := by
 refine FnW.of_evB (T := T) (rows := []) tOk mixed Tryz.func182 rfl (by kernel_rfl) (by kernel_rfl) rfl rfl fun hwf => ?_
 unfold kL at h
 refine sj <| aD h fun x1 hx1 h => aL.data _ false rfl ((lN E a0 ([59] : aA)).1 x1 hx1) <| sn <| sj <| aD h fun x2 hx2 h => aL.data _ false rfl ((p4 E x1.1).1 x2 hx2) <| aD h fun x3 hx3 h => aL.data _ false rfl ((aCz E x2).1 x3 hx3) <| sn <| sj <| aD h fun x4 hx4 h => ai id <| ai id <| ai rfl ?_
 refine oG.mk _ false (fun hg => (iM E oc0 x3).1 x4 (dF hx4 hg)) (ai rfl ?_)
 refine ai id <| ai (fun hg => (iP hg)) <| sn ?_
 refine Br.of h (fun ht h => ?_) fun ht h => ?_
 ·refine ai ⟨rfl, rfl, rfl, rfl⟩ <| ai ⟨rfl, rfl, rfl⟩ <| aF.to (AV.list 1 (([x3] : List aA).map AV.str)) (fun _ => rfl) <| aD h fun x5 hx5 h => ?_
  have qx5 := (dG hx5).1
  have hx5e := (dG hx5).2
  refine ai ⟨rfl, rfl, rfl⟩ <| ai rfl <| ai (jX ss qx5) <| aF.to (AV.list 1 (x5.map AV.str)) (fun _ => (jY 1 ss _ _).trans (congrArg (fun y => AV.list 1 (List.map ss y)) hx5e.symm)) ?_
  refine ai ⟨rfl, rfl, rfl, lb rfl⟩ (xi [AV.list 1 (x5.map AV.str)] (ai (fun _ => rfl) ?_))
  replace h := oi h
  have h0 := (Prod.mk.inj h).1
  have h1 := (Prod.mk.inj h).2
  subst h0
  subst h1
  refine xi [] (xi [.cells 45 [AV.list 1 (x5.map AV.str)] [(0, 1)]] (ai rfl (ai (Gho.to _ _ _ [0, 2] ?_ ?_ ?_ rfl rfl ?_) (ai ?_ rfl))))
  ·exact ⟨⟨rfl, rfl, rfl⟩, trivial⟩
  ·exact rfl
  ·exact rfl
  ·exact trivial
  ·exact rfl
 ·replace h := oi h
  have h0 := (Prod.mk.inj h).1
  have h1 := (Prod.mk.inj h).2
  subst h0
  subst h1
  refine xi [] (xi [.cells 45 [AV.list 1 (oc0.map AV.str)] [(0, 1)]] (ai rfl (ai (Gho.to _ _ _ [0, 0] ?_ ?_ ?_ rfl rfl ?_) (ai ?_ rfl))))
  ·exact ⟨⟨rfl, rfl, rfl⟩, trivial⟩
  ·exact rfl
  ·exact rfl
  ·exact trivial
  ·exact rfl
theorem mU (E : Pm.Env) [aJ E] (a0 : aA) (a1 : aA) (oa20 : (List aA)) (r : Unit) (oa20' : (List aA)) (h : eE a0 a1 oa20 = some (r, oa20')) : FnW E Tryz.prog 176 [ss a0, ss a1, AV.fn 182 [] [AV.ptr 0 0]] [.cells 45 [AV.list 1 (oa20.map AV.str)] [(0, 0)]] [1] (AV.tup []) none [.cells 45 [AV.list 1 (oa20'.map AV.str)] [(0, 1)]] [0, 1] := by
 refine FnW.of_evB (T := T) (rows := []) tOk mixed Tryz.func176 rfl (by kernel_rfl) (by kernel_rfl) rfl rfl fun hwf => ?_
 unfold eE at h
 refine sj <| aD h fun x1 hx1 h => aL.data _ false rfl (lP E a0 a1 x1 hx1) <| aF.to (ii (x1.length : Int)) (fun _ => bD ss x1) <| sn ?_
 refine cQ.img (fun x : (Int × (List aA)) => St.of [⟨2, AV.fn 182 [] [AV.ptr 0 0], none⟩, ⟨10, AV.list 1 (x1.map AV.str), none⟩, ⟨11, ii (x1.length : Int), none⟩, ⟨12, ii x.1, none⟩] [.cells 45 [AV.list 1 (x.2.map AV.str)] [(0, 1)]] [0, 1]) (bU x1) ((0 : Int), oa20) h ?_ ?_
 ·refine Gho.to _ _ _ [0, 0] ?_ ?_ ?_ rfl rfl ?_
  ·exact ⟨⟨rfl, rfl, rfl⟩, trivial⟩
  ·exact rfl
  ·exact rfl
  ·exact tr3 <| tr3 <| tr3 <| tr3 <| trivial
 intro n1 x y1 h hl1 hr1
 obtain ⟨s2, s3⟩ := x
 unfold bU at h
 dsimp only at h
 refine sj <| sn <| sj ?_
 refine Br.of h (fun ht h => ?_) fun ht h => ?_
 ·refine sn <| sj <| sj <| aD h fun x4 hx4 h => ?_
  refine ai rfl (xi (ss x4) (ai (fun hg => c4 _ hx4) ?_))
  refine sn <| sj <| sn ?_
  refine Br.of h (fun ht h => ?_) fun ht h => ?_
  ·refine aD h fun x5 hx5 h => aL.ren [0] [1] [.cells 45 [AV.list 1 (x5.2.map AV.str)] [(0, 2)]] [0, 0, 1] (uE E x4 s3 x5.1 x5.2 hx5) rfl rfl rfl rfl rfl rfl rfl rfl rfl <| sn ?_
   replace h := oi h
   refine xi ⟨(n1, ((IntKind.i64.wrap (s2 + (1 : Int))), x5.2)), hl1 _ h.symm⟩ (ai (aPt _) ?_)
   refine Gho.to _ _ _ [0, 2] ?_ ?_ ?_ rfl rfl ?_
   ·exact ⟨⟨rfl, rfl, rfl⟩, trivial⟩
   ·exact rfl
   ·exact rfl
   ·exact tr3 <| tr3 <| tr3 <| tr3 <| trivial
  ·refine sn ?_
   replace h := oi h
   refine xi ⟨(n1, ((IntKind.i64.wrap (s2 + (1 : Int))), s3)), hl1 _ h.symm⟩ (ai (aPt _) ?_)
   refine Gho.to _ _ _ [0, 1] ?_ ?_ ?_ rfl rfl ?_
   ·exact ⟨⟨rfl, rfl, rfl⟩, trivial⟩
   ·exact rfl
   ·exact rfl
   ·exact tr3 <| tr3 <| tr3 <| tr3 <| trivial
 ·replace h := oi h
  replace h := hr1 _ h.symm
  have h0 := (Prod.mk.inj h).1
  have h1 := (Prod.mk.inj h).2
  subst h0
  subst h1
  refine xi [] (xi [.cells 45 [AV.list 1 (s3.map AV.str)] [(0, 1)]] (ai rfl (ai (Gho.to _ _ _ [0, 1] ?_ ?_ ?_ rfl rfl ?_) (ai ?_ rfl))))
  ·exact ⟨⟨rfl, rfl, rfl⟩, trivial⟩
  ·exact rfl
  ·exact rfl
  ·exact trivial
  ·exact rfl
instance aFG (E : Pm.Env) [aJ E] (a0 : aA) : Ok E (f0 a0) (fun r => FnR E Tryz.prog 161 [ss a0] (AV.list 1 (r.map AV.str)) true) := ⟨fun r h => by
 refine FnR.of_ev (T := T) (rows := []) tOk mixed Tryz.func161 rfl (by kernel_rfl) (by kernel_rfl) rfl fun hwf => ?_
 unfold f0 at h
 refine sj <| sn <| sj <| ai rfl ?_
 refine SeqN.via (St.of [⟨0, ss a0, none⟩, ⟨3, AV.ptr 0 0, none⟩] [.cells 45 [AV.list 1 (([] : List aA).map AV.str)] [(0, 0)]] [1]) ?_ ?_
 ·refine Gho.to _ _ _ [1] ?_ ?_ ?_ rfl rfl ?_
  ·exact W
  ·exact rfl
  ·exact rfl
  ·exact tr3 <| tr3 <| trivial
 refine sj <| aD h fun x1 hx1 h => aL.ren [0] [0] [.cells 45 [AV.list 1 (x1.2.map AV.str)] [(0, 1)]] [0, 1] (mU E a0 ([44] : aA) ([] : List aA) x1.1 x1.2 hx1) rfl rfl rfl rfl rfl rfl rfl rfl rfl <| sn <| sj <| sn ?_
 exact W⟩
instance aAn (E : Pm.Env) [aJ E] (a0 : aA) (c0 : aG) : Ok E (nL a0 c0) (fun r => FnR E Tryz.prog 160 [ss a0, AV.iptr (aG.cells c0)] (AV.tup [ss r.1, bb r.2]) false) := ⟨fun r h => by
 refine FnR.of_ev (T := T) (rows := []) tOk mixed Tryz.func160 rfl (by kernel_rfl) (by kernel_rfl) rfl fun hwf => ?_
 unfold nL at h
 exact W⟩
instance aJo (E : Pm.Env) [aJ E] (a0 : aG) (a1 : aA) (a2 : aA) : Ok E (hY a0 a1 a2) (fun r => FnR E Tryz.prog 117 [aG.av a0, ss a1, ss a2] (AV.tup [ss r.1, bb r.2]) false) := ⟨fun r h => by
 refine FnR.of_ev (T := T) (rows := []) tOk mixed Tryz.func117 rfl (by kernel_rfl) (by kernel_rfl) rfl fun hwf => ?_
 unfold hY at h
 refine sj <| ai rfl <| sn <| sj <| ai ⟨lb rfl, lb rfl⟩ <| aF.to (aG.av a0) (fun _ => rfl) <| aD h fun x1 hx1 h => aL.map _ rfl (aCy E a0 x1 hx1) ?_
 refine aBi h (fun m2 h => ?_) fun m2 h => ?_
 ·refine ai ⟨rfl, by kernel_rfl, rfl⟩ (xi (AV.fn 172 [] [AV.iptr [ss x1.1]]) (xi true (ai (tR m2) ?_)))
  refine sn <| sj <| sj <| sn ?_
  refine Br.of h (fun ht h => ?_) fun ht h => ?_
  ·refine sj <| sn ?_
   replace h := oi h
   refine RetE.plain ?_
   subst h; exact ai rfl (ai rfl rfl)
  ·refine sn <| sj <| aD h fun x3 hx3 h => aL.data _ false rfl ((uM E a2 x1.1).1 x3 hx3) <| sn ?_
   replace h := oi h
   refine RetE.plain ?_
   subst h; exact ai rfl (ai rfl rfl)
 ·refine aBi h (fun m4 h => ?_) fun m4 h => ?_
  ·refine ai ⟨rfl, by kernel_rfl, rfl⟩ (xi (AV.fn 172 [] [AV.iptr [ss x1.2.1]]) (xi true (ai (eD m2 (tR m4)) ?_)))
   refine sn <| sj <| sj <| sn ?_
   refine Br.of h (fun ht h => ?_) fun ht h => ?_
   ·refine sj <| sn ?_
    replace h := oi h
    refine RetE.plain ?_
    subst h; exact ai rfl (ai rfl rfl)
   ·refine sn <| sj <| aD h fun x5 hx5 h => aL.data _ false rfl ((uM E a2 x1.2.1).1 x5 hx5) <| sn ?_
    replace h := oi h
    refine RetE.plain ?_
    subst h; exact ai rfl (ai rfl rfl)
  ·refine aBi h (fun m6 h => ?_) fun m6 h => ?_
   ·refine ai ⟨rfl, by kernel_rfl, rfl⟩ (xi (AV.fn 173 [] [AV.iptr [ss x1.2.2.1.1], AV.iptr [AV.fn 150 [] [AV.iptr (aG.cells x1.2.2.1.2)]]]) (xi true (ai (eD m2 (eD m4 (tR m6))) ?_)))
    refine sn <| sj <| sj <| sn ?_
    refine Br.of h (fun ht h => ?_) fun ht h => ?_
    ·exact W
    ·refine sn <| sj <| aD h fun x7 hx7 h => aL.data _ false rfl (pZ E a2 x1.2.2.1.1 150 [AV.iptr (aG.cells x1.2.2.1.2)] (fun x0 => nF x0 x1.2.2.1.2) (fun x0 r h => (aAg E x0 x1.2.2.1.2).1 r h) rfl x7 hx7) <| sn ?_
     replace h := oi h
     refine RetE.plain ?_
     subst h; exact ai rfl (ai rfl rfl)
   ·refine aBi h (fun m8 h => ?_) fun m8 h => ?_
    ·refine ai ⟨rfl, by kernel_rfl, rfl⟩ (xi (AV.fn 173 [] [AV.iptr [ss x1.2.2.2.1.1], AV.iptr [AV.fn 155 [] [AV.iptr (aG.cells x1.2.2.2.1.2)]]]) (xi true (ai (eD m2 (eD m4 (eD m6 (tR m8)))) ?_)))
     refine sn <| sj <| sj <| sn ?_
     refine Br.of h (fun ht h => ?_) fun ht h => ?_
     ·refine sj <| sn ?_
      replace h := oi h
      refine RetE.plain ?_
      subst h; exact ai rfl (ai rfl rfl)
     ·refine sn <| sj <| aD h fun x9 hx9 h => aL.data _ false rfl (pZ E a2 x1.2.2.2.1.1 155 [AV.iptr (aG.cells x1.2.2.2.1.2)] (fun x0 => nI x0 x1.2.2.2.1.2) (fun x0 r h => (aAl E x0 x1.2.2.2.1.2).1 r h) rfl x9 hx9) <| sn ?_
      replace h := oi h
      refine RetE.plain ?_
      subst h; exact ai rfl (ai rfl rfl)
    ·refine aBi h (fun m10 h => ?_) fun m10 h => ?_
     ·refine ai ⟨rfl, by kernel_rfl, rfl⟩ (xi (AV.fn 173 [] [AV.iptr [ss x1.2.2.2.2.1.1], AV.iptr [AV.fn 158 [] [AV.iptr (aG.cells x1.2.2.2.2.1.2)]]]) (xi true (ai (eD m2 (eD m4 (eD m6 (eD m8 (tR m10))))) ?_)))
      refine sn <| sj <| sj <| sn ?_
      refine Br.of h (fun ht h => ?_) fun ht h => ?_
      ·exact W
      ·refine sn <| sj <| aD h fun x11 hx11 h => aL.data _ false rfl (pZ E a2 x1.2.2.2.2.1.1 158 [AV.iptr (aG.cells x1.2.2.2.2.1.2)] (fun x0 => nK x0 x1.2.2.2.2.1.2) (fun x0 r h => (aAm E x0 x1.2.2.2.2.1.2).1 r h) rfl x11 hx11) <| sn ?_
       replace h := oi h
       refine RetE.plain ?_
       subst h; exact ai rfl (ai rfl rfl)
     ·refine aBi h (fun m12 h => ?_) fun m12 h => ?_
      ·refine ai ⟨rfl, by kernel_rfl, rfl⟩ (xi (AV.fn 173 [] [AV.iptr [ss x1.2.2.2.2.2.1], AV.iptr [AV.fn 160 [] [AV.iptr (aG.cells x1.2.2.2.2.2.2)]]]) (xi true (ai (eD m2 (eD m4 (eD m6 (eD m8 (eD m10 (tR m12)))))) ?_)))
       refine sn <| sj <| sj <| sn ?_
       refine Br.of h (fun ht h => ?_) fun ht h => ?_
       ·refine sj <| sn ?_
        replace h := oi h
        refine RetE.plain ?_
        subst h; exact ai rfl (ai rfl rfl)
       ·refine sn <| sj <| aD h fun x13 hx13 h => aL.data _ false rfl (pZ E a2 x1.2.2.2.2.2.1 160 [AV.iptr (aG.cells x1.2.2.2.2.2.2)] (fun x0 => nL x0 x1.2.2.2.2.2.2) (fun x0 r h => (aAn E x0 x1.2.2.2.2.2.2).1 r h) rfl x13 hx13) <| sn ?_
        replace h := oi h
        refine RetE.plain ?_
        subst h; exact ai rfl (ai rfl rfl)
      ·refine ai ⟨rfl, by kernel_rfl, rfl⟩ (xi AV.nilf (xi false (ai (eD m2 (eD m4 (eD m6 (eD m8 (eD m10 (eD m12 aJb)))))) ?_)))
       refine sn <| sj <| sj <| sn ?_
       refine Br.of h (fun ht h => ?_) fun ht h => ?_
       ·exact W
       ·exact W⟩
instance aEK (E : Pm.Env) [aJ E] (a0 : aG) (a1 : aA) : Ok E (mA a0 a1) (fun r => FnR E Tryz.prog 84 [aG.av a0, ss a1] (AV.tup [ss r.1, ii r.2]) false) := ⟨fun r h => by
 refine FnR.of_ev (T := T) (rows := []) tOk mixed Tryz.func84 rfl (by kernel_rfl) (by kernel_rfl) rfl fun hwf => ?_
 unfold mA at h
 refine sj <| ai rfl <| sn <| sj <| sn <| sj <| aD h fun x1 hx1 h => aL.data _ false rfl ((iR E a1 ([36, 40] : aA)).1 x1 hx1) <| sn <| sj <| aD h fun x2 hx2 h => aL.data _ false rfl (rO E x1.1 113 [] (fun x0 => lS x0) (fun x0 r h => (aAI E x0).1 r h) rfl x2 hx2) <| sn <| sj <| sj <| ai id <| ai (fun hg => (iP hg)) <| sn ?_
 refine Br.of h (fun ht h => ?_) fun ht h => ?_
 ·exact W
 ·refine sn <| sj <| aD h fun x4 hx4 h => ?_
  have qx4 := (bH hx4).1
  have hx4e := (bH hx4).2
  refine ai (fun _ => qx4) <| aF.to (ss x4) (fun _ => congrArg ss hx4e.symm) <| sn <| sj <| aD h fun x5 hx5 h => ?_
  have qx5 := (bH hx5).1
  have hx5e := (bH hx5).2
  refine ai (fun _ => qx5) <| aF.to (ss x5) (fun _ => congrArg ss hx5e.symm) <| sn <| sj <| sj <| aD h fun x6 hx6 h => aL.data _ false rfl ((c8 E x5 ([123] : aA)).1 x6 hx6) <| sn ?_
  refine Br.of h (fun ht h => ?_) fun ht h => ?_
  ·refine sj <| Or.inl <| aD h fun x7 hx7 h => ?_
   have qx7 := (bH hx7).1
   have hx7e := (bH hx7).2
   refine ai (fun _ => qx7) <| aF.to (ss x7) (fun _ => congrArg ss hx7e.symm) <| aD h fun x8 hx8 h => aL.data _ false rfl ((vE E ([125, 41, 124, 39, 10, 13] : aA)).1 x8 hx8) <| aD h fun x9 hx9 h => aL.data _ false rfl (rO E x7 133 [AV.iptr [ss x8]] (fun x0 => f9 x0 x8) (fun x0 r h => (rP E x0 x8).1 r h) rfl x9 hx9) <| ai (by kernel_rfl) <| sn <| sj <| sj <| aD h fun x10 hx10 h => ?_
   have qx10 := (bH hx10).1
   have hx10e := (bH hx10).2
   refine ai (fun _ => qx10) <| aF.to (ss x10) (fun _ => congrArg ss hx10e.symm) <| sn <| sj <| ai id <| aD h fun x11 hx11 h => ?_
   have qx11 := (vU hx11).1
   have hx11e := (vU hx11).2
   refine ai id <| ai id <| ai qx11 <| aF.to (ss x11) (fun _ => congrArg ss hx11e.symm) <| aD h fun x12 hx12 h => ai id <| ai rfl ?_
   refine oG.mk _ false (fun hg => (c8 E x11 ([125] : aA)).1 x12 (dF hx12 hg)) (ai rfl ?_)
   refine ai id <| ai (fun hg => (iP hg)) <| sn ?_
   refine Br.of h (fun ht h => ?_) fun ht h => ?_
   ·refine sj <| aD h fun x13 hx13 h => aL.data _ false rfl ((aCx E).1  x13 hx13) <| sn ?_
    replace h := oi h
    refine RetE.plain ?_
    subst h; exact ai rfl (ai rfl rfl)
   ·refine sn <| aD h fun x14 hx14 h => ?_
    have qx14 := (bH hx14).1
    have hx14e := (bH hx14).2
    refine ai (fun _ => qx14) <| aF.to (ss x14) (fun _ => congrArg ss hx14e.symm) <| sn <| sj <| sj <| aD h fun x15 hx15 h => aL.data _ false rfl ((c8 E x14 ([124, 39] : aA)).1 x15 hx15) <| sn ?_
    refine Br.of h (fun ht h => ?_) fun ht h => ?_
    ·refine sj <| aD h fun x16 hx16 h => ?_
     have qx16 := (bH hx16).1
     have hx16e := (bH hx16).2
     refine ai (fun _ => qx16) <| aF.to (ss x16) (fun _ => congrArg ss hx16e.symm) <| aD h fun x17 hx17 h => aL.data _ false rfl ((lN E x16 ([39] : aA)).1 x17 hx17) <| sn <| sj <| sn ?_
     refine Br.of h (fun ht h => ?_) fun ht h => ?_
     ·exact W
     ·exact W
    ·refine sj <| aD h fun x22 hx22 h => aL.data _ false rfl ((c8 E x14 ([124] : aA)).1 x22 hx22) <| sn ?_
     refine Br.of h (fun ht h => ?_) fun ht h => ?_
     ·refine sj <| Or.inl <| aD h fun x23 hx23 h => ?_
      have qx23 := (bH hx23).1
      have hx23e := (bH hx23).2
      refine ai (fun _ => qx23) <| aF.to (ss x23) (fun _ => congrArg ss hx23e.symm) <| aD h fun x24 hx24 h => aL.data _ false rfl ((vE E ([39, 41, 124, 10, 13] : aA)).1 x24 hx24) <| aD h fun x25 hx25 h => aL.data _ false rfl (rO E x23 133 [AV.iptr [ss x24]] (fun x0 => f9 x0 x24) (fun x0 r h => (rP E x0 x24).1 r h) rfl x25 hx25) <| ai (by kernel_rfl) <| sn <| Or.inl <| aD h fun x26 hx26 h => ?_
      have qx26 := (bH hx26).1
      have hx26e := (bH hx26).2
      refine ai (fun _ => qx26) <| aF.to (ss x26) (fun _ => congrArg ss hx26e.symm) <| aD h fun x27 hx27 h => ?_
      have qx27 := (bH hx27).1
      have hx27e := (bH hx27).2
      refine ai (fun _ => qx27) <| aF.to (ss x27) (fun _ => congrArg ss hx27e.symm) <| ai (by kernel_rfl) <| sn <| sj <| sj <| aD h fun x28 hx28 h => aL.data _ false rfl ((c8 E x27 ([41] : aA)).1 x28 hx28) <| sn ?_
      refine Br.of h (fun ht h => ?_) fun ht h => ?_
      ·exact W
      ·exact W
     ·exact W
  ·refine sn <| sj <| sj <| aD h fun x34 hx34 h => aL.data _ false rfl ((c8 E x5 ([124, 39] : aA)).1 x34 hx34) <| sn ?_
   refine Br.of h (fun ht h => ?_) fun ht h => ?_
   ·exact W
   ·refine sj <| aD h fun x41 hx41 h => aL.data _ false rfl ((c8 E x5 ([124] : aA)).1 x41 hx41) <| sn ?_
    refine Br.of h (fun ht h => ?_) fun ht h => ?_
    ·refine sj <| Or.inl <| aD h fun x42 hx42 h => ?_
     have qx42 := (bH hx42).1
     have hx42e := (bH hx42).2
     refine ai (fun _ => qx42) <| aF.to (ss x42) (fun _ => congrArg ss hx42e.symm) <| aD h fun x43 hx43 h => aL.data _ false rfl ((vE E ([39, 41, 124, 10, 13] : aA)).1 x43 hx43) <| aD h fun x44 hx44 h => aL.data _ false rfl (rO E x42 133 [AV.iptr [ss x43]] (fun x0 => f9 x0 x43) (fun x0 r h => (rP E x0 x43).1 r h) rfl x44 hx44) <| ai (by kernel_rfl) <| sn <| Or.inl <| aD h fun x45 hx45 h => ?_
     have qx45 := (bH hx45).1
     have hx45e := (bH hx45).2
     refine ai (fun _ => qx45) <| aF.to (ss x45) (fun _ => congrArg ss hx45e.symm) <| aD h fun x46 hx46 h => ?_
     have qx46 := (bH hx46).1
     have hx46e := (bH hx46).2
     refine ai (fun _ => qx46) <| aF.to (ss x46) (fun _ => congrArg ss hx46e.symm) <| ai (by kernel_rfl) <| sn <| sj <| sj <| aD h fun x47 hx47 h => aL.data _ false rfl ((c8 E x46 ([41] : aA)).1 x47 hx47) <| sn ?_
     refine Br.of h (fun ht h => ?_) fun ht h => ?_
     ·exact W
     ·exact W
    ·exact W⟩
instance aAM (E : Pm.Env) [aJ E] (a0 : aA) (a1 : aA) : Ok E (hG a0 a1) (fun r => FnR E Tryz.prog 136 [ss a0, ss a1] (ss r) false) := ⟨fun r h => by
 refine FnR.of_ev (T := T) (rows := []) tOk mixed Tryz.func136 rfl (by kernel_rfl) (by kernel_rfl) rfl fun hwf => ?_
 unfold hG at h
 exact W⟩
instance sY (E : Pm.Env) [aJ E] (a0 : aA) (a1 : aA) : Ok E (iI a0 a1) (fun r => FnR E Tryz.prog 118 [ss a0, ss a1] (ss r) false) := ⟨fun r h => by
 refine FnR.of_ev (T := T) (rows := []) tOk mixed Tryz.func118 rfl (by kernel_rfl) (by kernel_rfl) rfl fun hwf => ?_
 unfold iI at h
 exact W⟩
theorem uF (E : Pm.Env) [aJ E] (a0 : aA) (a1 : Int) (a2 : FuncId) (a2c : List AV) (a2i : Int -> Option Int) (a2h : ∀ (x0 : Int) (r : Int), a2i x0 = some r -> FnR E Tryz.prog a2 ([AV.int .u8 x0] ++ a2c) (ii r) false) (a2p : a2c.all AV.puB = true) (r : (Int × Int)) (h : fK a0 a1 a2i = some r) : FnR E Tryz.prog 108 [ss a0, ii a1, AV.fn a2 [] a2c] (AV.tup [ii r.1, ii r.2]) false := by
 refine FnR.of_ev (T := T) (rows := []) tOk mixed Tryz.func108 rfl (by kernel_rfl) (by kernel_rfl) rfl fun hwf => ?_
 unfold fK at h
 refine sj <| sn <| sj <| sj <| sn ?_
 refine Br.of h (fun ht h => ?_) fun ht h => ?_
 ·exact W
 ·refine sn <| sj <| sn <| sj <| sj <| aF.same <| sn ?_
  refine cQ.img (fun x : (Int × Bool × Int) => St.of [⟨0, ss a0, none⟩, ⟨1, ii a1, none⟩, ⟨2, AV.fn a2 [] a2c, none⟩, ⟨8, ii x.1, none⟩, ⟨9, bb x.2.1, none⟩, ⟨16, ii (a0.length : Int), none⟩, ⟨17, ii x.2.2, none⟩] [] []) (fB a0 a1 a2i) ((0 : Int), false, (0 : Int)) h ?_ ?_
  ·refine Gho.to _ _ _ [] ?_ ?_ ?_ rfl rfl ?_
   ·exact trivial
   ·exact rfl
   ·exact rfl
   ·exact ⟨rfl, rfl, trivial, rfl, rfl, trivial, rfl, (sT a2p _), trivial, rfl, rfl, trivial, rfl, rfl, trivial, rfl, rfl, trivial, rfl, rfl, trivial, trivial⟩
  intro n1 x y1 h hl1 hr1
  obtain ⟨s1, s2, s3⟩ := x
  unfold fB at h
  dsimp only at h
  refine sj <| sn <| sj ?_
  refine Br.of h (fun ht h => ?_) fun ht h => ?_
  ·refine sn <| sj <| sj <| sn <| sj <| aD h fun x4 hx4 h => ?_
   refine xi x4 (ai (fun hg => jW hx4) ?_)
   refine aD h fun x5 hx5 h => aL.data _ false (wW rfl (aBh a2p)) (a2h (x4.toNat : Int) x5 hx5) <| sn <| sj <| sj <| sn ?_
   refine Br.of h (fun ht h => ?_) fun ht h => ?_
   ·exact W
   ·refine sn <| sj <| sn <| sj <| sn ?_
    refine Br.of h (fun ht h => ?_) fun ht h => ?_
    ·refine sn ?_
     replace h := oi h
     refine xi ⟨(n1, ((0 : Int), true, (IntKind.i64.wrap (s3 + (1 : Int))))), hl1 _ h.symm⟩ (ai (aPt _) ?_)
     refine Gho.to _ _ _ [] ?_ ?_ ?_ rfl rfl ?_
     ·exact trivial
     ·exact rfl
     ·exact rfl
     ·exact ⟨rfl, rfl, trivial, rfl, rfl, trivial, rfl, (sT a2p _), trivial, rfl, rfl, trivial, rfl, rfl, trivial, rfl, rfl, trivial, rfl, rfl, trivial, trivial⟩
    ·refine sn ?_
     replace h := oi h
     refine xi ⟨(n1, ((IntKind.i64.wrap ((IntKind.i64.wrap (s1 * a1)) + x5)), s2, (IntKind.i64.wrap (s3 + (1 : Int))))), hl1 _ h.symm⟩ (ai (aPt _) ?_)
     refine Gho.to _ _ _ [] ?_ ?_ ?_ rfl rfl ?_
     ·exact W
     ·exact rfl
     ·exact rfl
     ·exact ⟨rfl, rfl, trivial, rfl, rfl, trivial, rfl, (sT a2p _), trivial, rfl, rfl, trivial, rfl, rfl, trivial, rfl, rfl, trivial, rfl, rfl, trivial, trivial⟩
  ·exact W
instance wA (E : Pm.Env) [aJ E] (a0 : Int) : Ok E (gZ a0) (fun r => FnR E Tryz.prog 109 [AV.int .u8 a0] (ii r) false) := ⟨fun r h => by
 refine FnR.of_ev (T := T) (rows := []) tOk mixed Tryz.func109 rfl (by kernel_rfl) (by kernel_rfl) rfl fun hwf => ?_
 unfold gZ at h
 exact W⟩
instance xN (E : Pm.Env) [aJ E] (a0 : aA) : Ok E (iJ a0) (fun r => FnR E Tryz.prog 82 [ss a0] (AV.tup [ii r.1, ii r.2]) false) := ⟨fun r h => by
 refine FnR.of_ev (T := T) (rows := []) tOk mixed Tryz.func82 rfl (by kernel_rfl) (by kernel_rfl) rfl fun hwf => ?_
 unfold iJ at h
 refine sj <| sn <| sj <| aD h fun x1 hx1 h => aL.data _ false rfl ((iR E a0 ([45] : aA)).1 x1 hx1) <| sn <| sj <| aD h fun x2 hx2 h => aL.data _ false rfl (uF E x1.1 (10 : Int) 109 [] (fun x0 => gZ x0) (fun x0 r h => (wA E x0).1 r h) rfl x2 hx2) <| sn <| sj <| sj <| sn ?_
 refine Br.of h (fun ht h => ?_) fun ht h => ?_
 ·exact W
 ·exact W⟩
theorem nZ (E : Pm.Env) [aJ E] (o0 : aC) (r : aB) (o0' : aC) (h : gA o0 = some (r, o0')) : FnW E Tryz.prog 89 [AV.ptr 0 0] [.cells 72 (aC.cells o0) []] [] (aB.av r) none [.cells 72 (aC.cells o0') []] [] := by
 refine FnW.of_evB (T := T) (rows := []) tOk mixed Tryz.func89 rfl (by kernel_rfl) (by kernel_rfl) rfl rfl fun hwf => ?_
 unfold gA at h
 refine sj <| ai rfl <| sn <| sj <| aD h fun x1 hx1 h => aL.ren [0] [] [.cells 72 (aC.cells x1.2) [], .cells 26 [ii 0, ii 0, ss [], ss [], AV.list 5 (([] : List aB).map aB.avR)] [(4, 0)]] [2] (kJ E o0 x1.1 x1.2 hx1) rfl rfl rfl rfl rfl rfl rfl rfl rfl <| sn <| sj <| sj <| aD h fun x2 hx2 h => aL.data _ false rfl ((iR E x1.2.s ([39] : aA)).1 x2 hx2) <| sn <| sj <| sn ?_
 refine Br.of h (fun ht h => ?_) fun ht h => ?_
 ·refine sj <| aD h fun x3 hx3 h => aL.data _ false rfl ((lN E x2.1 ([39] : aA)).1 x3 hx3) <| sn <| sj <| sj <| sn ?_
  refine Br.of h (fun ht h => ?_) fun ht h => ?_
  ·refine sj <| aD h fun x4 hx4 h => aL.ren [0] [] [.cells 72 (aC.cells x4.2) [], .cells 26 [ii 0, ii 0, ss [], ss [], AV.list 5 (([] : List aB).map aB.avR)] [(4, 0)]] [2] (lX E x1.2 x4.1 x4.2 hx4) rfl rfl rfl rfl rfl rfl rfl rfl rfl ?_
   refine ai ⟨rfl, rfl, rfl, lb rfl⟩ (xi (aB.cells x4.1) (ai (fun _ => rfl) ?_))
   refine sn ?_
   replace h := oi h
   have h0 := (Prod.mk.inj h).1
   have h1 := (Prod.mk.inj h).2
   subst h0
   subst h1
   refine xi [⟨2, AV.ptr 1 0, none⟩] (xi [.cells 72 (aC.cells x4.2) [], .cells 26 (aB.cells x4.1) []] (ai rfl (ai (Gho.to _ _ _ [] ?_ ?_ ?_ rfl rfl ?_) (ai ?_ rfl))))
   ·exact ⟨⟨rfl, rfl, rfl⟩, ⟨⟨rfl, rfl, rfl⟩, trivial⟩⟩
   ·exact rfl
   ·exact rfl
   ·exact tr3 <| trivial
   ·refine ai ⟨lb rfl, lb rfl⟩ (xi (aB.av x4.1) (ai rfl ?_))
    exact rfl
  ·refine sn <| sj ?_
   refine ai ⟨rfl, rfl, rfl, lb rfl⟩ (xi [ss x3.2.1, bb x1.2.bad] (ai (fun _ => rfl) ?_))
   refine sn <| sj <| ai ⟨rfl, rfl, lb rfl⟩ <| ai ⟨rfl, rfl, lb rfl⟩ ?_
   refine xi (some 26) (ai (okM.mk (show (26 : Nat) = nV T _ _ _ from by kernel_rfl)) ?_)
   refine ai ⟨rfl, rfl, rfl, lb rfl⟩ (xi [ii 2, ii 0, ss x3.1, ss [], AV.list 5 (([] : List aB).map aB.avR)] (ai (fun _ => rfl) ?_))
   refine sn ?_
   replace h := oi h
   have h0 := (Prod.mk.inj h).1
   have h1 := (Prod.mk.inj h).2
   subst h0
   subst h1
   refine xi [⟨2, AV.ptr 1 0, none⟩] (xi [.cells 72 [ss x3.2.1, bb x1.2.bad] [], .cells 26 [ii 2, ii 0, ss x3.1, ss [], AV.list 5 (([] : List aB).map aB.avR)] []] (ai rfl (ai (Gho.to _ _ _ [] ?_ ?_ ?_ rfl rfl ?_) (ai ?_ rfl))))
   ·exact ⟨⟨rfl, rfl, rfl⟩, ⟨⟨rfl, rfl, rfl⟩, trivial⟩⟩
   ·exact rfl
   ·exact rfl
   ·exact tr3 <| trivial
   ·refine ai ⟨lb rfl, lb rfl⟩ (xi (AV.agg [ii 2, ii 0, ss x3.1, ss [], AV.list 5 (([] : List aB).map aB.avR)]) (ai rfl ?_))
    exact rfl
 ·refine sn <| sj <| sj ?_
  refine xi none (ai trivial ?_)
  refine aD h fun x5 hx5 h => aL.data _ false rfl ((aEK E (aG.mk ([] : aA) ([] : aA) ([] : aA) ([] : aA) ([] : aA) ([] : aA)) x1.2.s).1 x5 hx5) <| sn <| sj <| sn ?_
  refine Br.of h (fun ht h => ?_) fun ht h => ?_
  ·refine sj <| aD h fun x6 hx6 h => ?_
   have qx6 := (bH hx6).1
   have hx6e := (bH hx6).2
   refine ai (fun _ => qx6) <| aF.to (ss x6) (fun _ => congrArg ss hx6e.symm) <| ai ⟨rfl, rfl, lb rfl⟩ <| ai ⟨rfl, rfl, lb rfl⟩ ?_
   refine xi (some 26) (ai (okM.mk (show (26 : Nat) = nV T _ _ _ from by kernel_rfl)) ?_)
   refine ai rfl ?_
   refine ai ⟨rfl, rfl, rfl, lb rfl⟩ (xi [ii 3, ii 0, ss x6, ss [], AV.list 5 (([] : List aB).map aB.avR)] (ai (fun _ => rfl) ?_))
   refine sn <| sj <| aD h fun x7 hx7 h => ?_
   have qx7 := (bH hx7).1
   have hx7e := (bH hx7).2
   refine ai (fun _ => qx7) <| aF.to (ss x7) (fun _ => congrArg ss hx7e.symm) ?_
   refine ai ⟨rfl, rfl, rfl, lb rfl⟩ (xi [ss x7, bb x1.2.bad] (ai (fun _ => rfl) ?_))
   refine sn <| sj <| ai ⟨lb rfl, lb rfl⟩ <| aF.to (AV.agg [ii 3, ii 0, ss x6, ss [], AV.list 5 (([] : List aB).map aB.avR)]) (fun _ => rfl) ?_
   refine ai ⟨rfl, rfl, rfl, lb rfl⟩ (xi [ii 3, ii 0, ss x6, ss [], AV.list 5 (([] : List aB).map aB.avR)] (ai (fun _ => rfl) ?_))
   refine sn ?_
   replace h := oi h
   have h0 := (Prod.mk.inj h).1
   have h1 := (Prod.mk.inj h).2
   subst h0
   subst h1
   refine xi [⟨2, AV.ptr 1 0, none⟩] (xi [.cells 72 [ss x7, bb x1.2.bad] [], .cells 26 [ii 3, ii 0, ss x6, ss [], AV.list 5 (([] : List aB).map aB.avR)] []] (ai rfl (ai (Gho.to _ _ _ [] ?_ ?_ ?_ rfl rfl ?_) (ai ?_ rfl))))
   ·exact ⟨⟨rfl, rfl, rfl⟩, ⟨⟨rfl, rfl, rfl⟩, trivial⟩⟩
   ·exact rfl
   ·exact rfl
   ·exact tr3 <| trivial
   ·refine ai ⟨lb rfl, lb rfl⟩ (xi (AV.agg [ii 3, ii 0, ss x6, ss [], AV.list 5 (([] : List aB).map aB.avR)]) (ai rfl ?_))
    exact rfl
  ·refine sn <| sj <| aD h fun x8 hx8 h => aL.data _ false rfl ((sY E x1.2.s ([45] : aA)).1 x8 hx8) <| sn <| sj <| aD h fun x9 hx9 h => aL.data _ false rfl ((pI E x8 ([48, 49, 50, 51, 52, 53, 54, 55, 56, 57] : aA)).1 x9 hx9) <| sn <| sj <| Or.inl <| aF.same <| aF.same <| aD h fun x10 hx10 h => ?_
   have qx10 := (bH hx10).1
   have hx10e := (bH hx10).2
   refine ai (fun _ => qx10) <| aF.to (ss x10) (fun _ => congrArg ss hx10e.symm) <| aD h fun x11 hx11 h => aL.data _ false rfl ((xN E x10).1 x11 hx11) <| ai (by kernel_rfl) <| sn <| sj <| sj <| sn ?_
   refine Br.of h (fun ht h => ?_) fun ht h => ?_
   ·refine sj <| aD h fun x12 hx12 h => aL.ren [0] [] [.cells 72 (aC.cells x12.2) [], .cells 26 [ii 0, ii 0, ss [], ss [], AV.list 5 (([] : List aB).map aB.avR)] [(4, 0)]] [2] (lX E x1.2 x12.1 x12.2 hx12) rfl rfl rfl rfl rfl rfl rfl rfl rfl ?_
    refine ai ⟨rfl, rfl, rfl, lb rfl⟩ (xi (aB.cells x12.1) (ai (fun _ => rfl) ?_))
    refine sn ?_
    replace h := oi h
    have h0 := (Prod.mk.inj h).1
    have h1 := (Prod.mk.inj h).2
    subst h0
    subst h1
    refine xi [⟨2, AV.ptr 1 0, none⟩] (xi [.cells 72 (aC.cells x12.2) [], .cells 26 (aB.cells x12.1) []] (ai rfl (ai (Gho.to _ _ _ [] ?_ ?_ ?_ rfl rfl ?_) (ai ?_ rfl))))
    ·exact ⟨⟨rfl, rfl, rfl⟩, ⟨⟨rfl, rfl, rfl⟩, trivial⟩⟩
    ·exact rfl
    ·exact rfl
    ·exact tr3 <| trivial
    ·refine ai ⟨lb rfl, lb rfl⟩ (xi (aB.av x12.1) (ai rfl ?_))
     exact rfl
   ·refine sn <| sj ?_
    refine ai ⟨rfl, rfl, rfl, lb rfl⟩ (xi [ss x9, bb x1.2.bad] (ai (fun _ => rfl) ?_))
    refine sn <| sj <| ai ⟨rfl, rfl, lb rfl⟩ <| ai ⟨rfl, rfl, lb rfl⟩ ?_
    refine xi (some 28) (ai (okM.mk (show (28 : Nat) = nV T _ _ _ from by kernel_rfl)) ?_)
    refine ai ⟨rfl, rfl, rfl, lb rfl⟩ (xi [ii 1, ii x11.1, ss [], ss [], AV.list 5 (([] : List aB).map aB.avR)] (ai (fun _ => rfl) ?_))
    refine sn ?_
    replace h := oi h
    have h0 := (Prod.mk.inj h).1
    have h1 := (Prod.mk.inj h).2
    subst h0
    subst h1
    refine xi [⟨2, AV.ptr 1 0, none⟩] (xi [.cells 72 [ss x9, bb x1.2.bad] [], .cells 26 [ii 1, ii x11.1, ss [], ss [], AV.list 5 (([] : List aB).map aB.avR)] []] (ai rfl (ai (Gho.to _ _ _ [] ?_ ?_ ?_ rfl rfl ?_) (ai ?_ rfl))))
    ·exact ⟨⟨rfl, rfl, rfl⟩, ⟨⟨rfl, rfl, rfl⟩, trivial⟩⟩
    ·exact rfl
    ·exact rfl
    ·exact tr3 <| trivial
    ·refine ai ⟨lb rfl, lb rfl⟩ (xi (AV.agg [ii 1, ii x11.1, ss [], ss [], AV.list 5 (([] : List aB).map aB.avR)]) (ai rfl ?_))
     exact rfl
instance wB (E : Pm.Env) [aJ E] : Ok E oL (fun r => FnR E Tryz.prog 74 [] (AV.list 1 (r.map AV.str)) true) := ⟨fun r h => by
 refine FnR.of_ev (T := T) (rows := []) tOk mixed Tryz.func74 rfl (by kernel_rfl) (by kernel_rfl) rfl fun hwf => ?_
 unfold oL at h
 exact W⟩
theorem vF (E : Pm.Env) [aJ E] (o0 : aC) (r : aA) (o0' : aC) (h : jA o0 = some (r, o0')) : FnW E Tryz.prog 90 [AV.ptr 0 0] [.cells 72 (aC.cells o0) []] [] (ss r) none [.cells 72 (aC.cells o0') []] [] := by
 refine FnW.of_evB (T := T) (rows := []) tOk mixed Tryz.func90 rfl (by kernel_rfl) (by kernel_rfl) rfl rfl fun hwf => ?_
 unfold jA at h
 refine sj <| sn <| sj <| sj <| aD h fun x1 hx1 h => aL.data _ true rfl ((wB E).1  x1 hx1) <| aF.to (ii (x1.length : Int)) (fun _ => bD ss x1) <| sn ?_
 refine cQ.img (fun x : (Int × aC) => St.of [⟨0, AV.ptr 0 0, none⟩, ⟨5, AV.list 1 (x1.map AV.str), some 0⟩, ⟨6, ii (x1.length : Int), none⟩, ⟨7, ii x.1, none⟩] [.cells 72 (aC.cells x.2) []] [1]) (fL x1) ((0 : Int), o0) h ?_ ?_
 ·exact W
 intro n1 x y1 h hl1 hr1
 obtain ⟨s2, s3⟩ := x
 unfold fL at h
 dsimp only at h
 refine sj <| sn <| sj ?_
 refine Br.of h (fun ht h => ?_) fun ht h => ?_
 ·refine sn <| sj <| sj <| aD h fun x4 hx4 h => ?_
  refine ai rfl (xi (ss x4) (ai (fun hg => c4 _ hx4) ?_))
  refine sn <| sj <| aD h fun x5 hx5 h => aL.ren [0] [] [.cells 72 (aC.cells x5.2) []] [1] (gD E s3 x4 x5.1 x5.2 hx5) rfl rfl rfl rfl rfl rfl rfl rfl rfl <| sn ?_
  refine Br.of h (fun ht h => ?_) fun ht h => ?_
  ·refine sj <| sn ?_
   replace h := oi h
   replace h := hr1 _ h.symm
   have h0 := (Prod.mk.inj h).1
   have h1 := (Prod.mk.inj h).2
   subst h0
   subst h1
   refine xi [⟨2, ss x4, none⟩] (xi [.cells 72 (aC.cells x5.2) []] (ai rfl (ai (Gho.to _ _ _ [] ?_ ?_ ?_ rfl rfl ?_) (ai ?_ rfl))))
   ·exact ⟨⟨rfl, rfl, rfl⟩, trivial⟩
   ·exact rfl
   ·exact rfl
   ·exact tr3 <| trivial
   ·exact rfl
  ·exact W
 ·refine sn <| sj <| sn ?_
  replace h := oi h
  replace h := hr1 _ h.symm
  have h0 := (Prod.mk.inj h).1
  have h1 := (Prod.mk.inj h).2
  subst h0
  subst h1
  refine xi [⟨2, ss [], none⟩] (xi [.cells 72 (aC.cells s3) []] (ai rfl (ai (Gho.to _ _ _ [] ?_ ?_ ?_ rfl rfl ?_) (ai ?_ rfl))))
  ·exact ⟨⟨rfl, rfl, rfl⟩, trivial⟩
  ·exact rfl
  ·exact rfl
  ·exact tr3 <| trivial
  ·exact rfl
end Go.Proofs.YtdobepgddhbncaaGreatDoor
