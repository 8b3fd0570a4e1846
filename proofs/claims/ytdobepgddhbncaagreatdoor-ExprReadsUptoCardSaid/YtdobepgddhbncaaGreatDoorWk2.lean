/-
  The functions do what their images say: walks, written by a program of mine (gen.py).
-/
import Derived.Test.YtdobepgddhbncaaGreatDoorIv1
import Derived.Test.YtdobepgddhbncaaGreatDoorWk1
import Derived.Test.YtdobepgddhbncaaGreatDoorPm31
open _root_.Nat renaming lt_succ_self -> aPL
namespace Go.Proofs.YtdobepgddhbncaaGreatDoor
open Go Go.Pm
set_option linter.unusedSimpArgs false
open And renaming intro -> ai
open Exists renaming intro -> xi
open Option.some renaming inj -> oi
open _root_.Nat renaming le_of_ble_eq_true -> lb
open Go.Pm.SeqJ renaming go -> sj
open Go.Pm.SeqN renaming go -> sn
set_option maxRecDepth 100000
set_option maxHeartbeats 1000000
set_option linter.unusedVariables false
theorem rJ (E : Pm.Env) [aI E] (aNy : aB -> Option Int) (aNJ : ∀ (E : Pm.Env) [aI E] (a0 : aB) (r : Int) (h : aNy a0 = some r), FnR E Tryz.prog 30 [aB.av a0] (ii r) false) (a0 : aB) (r : Int) (h : gH aNy a0 = some r) : FnR E Tryz.prog 30 [aB.av a0] (ii r) false := by
 refine FnR.of_ev (T := T) (rows := []) tOk mixed Tryz.func30 rfl (by kernel_rfl) (by kernel_rfl) rfl fun hwf => ?_
 unfold gH at h
 refine sj <| ai rfl <| sn <| sj <| sn <| aD h fun j1 hj1 h => ?_
 refine SeqJ.join (St.of [⟨3, ii j1, none⟩] [] []) ?_ ?_
 ·clear h; have h := hj1; clear hj1
  refine sj <| aF.to (ii (a0.Kids.length : Int)) (fun _ => bB aB.avR a0.Kids) <| sn ?_
  refine cP.img (fun x : (Int × Int) => St.of [⟨1, AV.ptr 0 0, none⟩, ⟨3, ii x.1, none⟩, ⟨8, AV.list 5 (a0.Kids.map aB.avR), none⟩, ⟨9, ii (a0.Kids.length : Int), none⟩, ⟨10, ii x.2, none⟩] [.cells 26 (aB.cells a0) []] []) (dN aNy a0) ((0 : Int), (0 : Int)) h ?_ ?_
  ·exact W
  intro n1 x y1 h hl1 hr1
  obtain ⟨s2, s3⟩ := x
  unfold dN at h
  dsimp only at h
  refine sj <| sn <| sj ?_
  refine Br.of h (fun ht h => ?_) fun ht h => ?_
  ·refine sn <| sj <| sj <| aD h fun x4 hx4 h => ?_
   refine ai rfl (xi (aB.av x4) (ai (fun hg => aB.av_eq x4 ▸ cY _ hx4) ?_))
   refine ai (lb rfl) <| aF.to (aB.av x4) (fun _ => rfl) <| ai rfl ?_
   refine ai ⟨rfl, rfl, rfl, lb rfl⟩ (xi (aB.cells x4) (ai (fun _ => rfl) ?_))
   refine sn <| sj <| ai ⟨lb rfl, lb rfl⟩ <| aF.to (aB.av x4) (fun _ => rfl) <| aD h fun x5 hx5 h => aK.data _ false rfl (aNJ E x4 x5 hx5) <| sn <| sj <| sj <| ai ⟨lb rfl, lb rfl⟩ <| aF.to (aB.av x4) (fun _ => rfl) <| aD h fun x6 hx6 h => aK.data _ false rfl ((cK E x4).1 x6 hx6) <| sn ?_
   exact W
  ·exact W
 ·clear hj1
  exact W
theorem rK (n : Nat) : ∀ (E : Pm.Env) [aI E] (a0 : aB) (r : Int) (h : c4 n a0 = some r), FnR E Tryz.prog 30 [aB.av a0] (ii r) false := by
 induction n with
 | zero => intro E _ a0 r h; cases (show none = some _ from h)
 | succ n ih => intro E _ a0 r h; exact rJ E (c4 n) ih a0 r h
theorem nU (E : Pm.Env) [aI E] (a0 : aB) (r : Int) (h : jW a0 = some r) : FnR E Tryz.prog 30 [aB.av a0] (ii r) false := rK 1000000 E a0 r h
instance r7 (E : Pm.Env) [aI E] (a0 : aA) : Ok E (gZ a0) (fun r => FnR E Tryz.prog 11 [ss a0] (AV.tup [aB.av r.1, ii r.2]) false) := ⟨fun r h => by
 refine FnR.of_ev (T := T) (rows := []) tOk mixed Tryz.func11 rfl (by kernel_rfl) (by kernel_rfl) rfl fun hwf => ?_
 unfold gZ at h
 refine sj <| ai rfl <| sn <| sj <| sj <| aF.same <| sn ?_
 refine Br.of h (fun ht h => ?_) fun ht h => ?_
 ·refine sj ?_
  refine xi (some 31) (ai (okM.mk (show (31 : Nat) = nS T _ _ _ from by kernel_rfl)) ?_)
  exact W
 ·refine sn <| sj <| aD h fun x1 hx1 h => aK.data _ false rfl ((rZ E a0).1 x1 hx1) <| sn <| sj <| aD h fun x2 hx2 h => aK.data _ false rfl (r6 E x1.1 x2 hx2) <| ai rfl ?_
  refine ai ⟨rfl, rfl, rfl, lb rfl⟩ (xi (aB.cells x2) (ai (fun _ => rfl) ?_))
  refine sn <| sj <| sj <| ai id <| ai id <| ai (fun hg => (hY hg)) <| sn ?_
  refine Br.of h (fun ht h => ?_) fun ht h => ?_
  ·refine sj ?_
   refine xi (some 31) (ai (okM.mk (show (31 : Nat) = nS T _ _ _ from by kernel_rfl)) ?_)
   exact W
  ·refine sn <| sj <| sj <| ai ⟨lb rfl, lb rfl⟩ <| aF.to (aB.av x2) (fun _ => rfl) <| aD h fun x3 hx3 h => aK.data _ false rfl ((kI E x2 (60 : Int)).1 x3 hx3) <| sn ?_
   refine Br.of h (fun ht h => ?_) fun ht h => ?_
   ·refine sj ?_
    refine xi (some 31) (ai (okM.mk (show (31 : Nat) = nS T _ _ _ from by kernel_rfl)) ?_)
    exact W
   ·refine sn <| sj <| sj <| ai ⟨lb rfl, lb rfl⟩ <| aF.to (aB.av x2) (fun _ => rfl) <| aD h fun x4 hx4 h => aK.data _ false rfl (nU E x2 x4 hx4) <| sn ?_
    refine Br.of h (fun ht h => ?_) fun ht h => ?_
    ·refine sj ?_
     refine xi (some 31) (ai (okM.mk (show (31 : Nat) = nS T _ _ _ from by kernel_rfl)) ?_)
     exact W
    ·exact W⟩
instance aCx (E : Pm.Env) [aI E] (a0 : aA) (a1 : Int) : Ok E (iS a0 a1) (fun r => FnR E Tryz.prog 91 [ss a0, AV.int .u8 a1] (ss r) false) := ⟨fun r h => by
 refine FnR.of_ev (T := T) (rows := []) tOk mixed Tryz.func91 rfl (by kernel_rfl) (by kernel_rfl) rfl fun hwf => ?_
 unfold iS at h
 refine sj <| sn <| aD h fun j1 hj1 h => ?_
 refine SeqJ.join (St.of [⟨0, ss j1, none⟩] [] []) ?_ ?_
 ·clear h; have h := hj1; clear hj1
  refine cP.img (fun x : aA => St.of [⟨0, ss x, none⟩, ⟨1, AV.int .u8 a1, none⟩] [] []) (jA a1) a0 h ?_ ?_
  ·exact W
  intro n1 x y1 h hl1 hr1
  revert h; revert x; intro s2 h
  unfold jA at h
  exact W
 ·clear hj1
  exact W⟩
instance mQ (E : Pm.Env) [aI E] (a0 : aA) : Ok E (bH a0) (fun r => FnR E Tryz.prog 92 [ss a0] (AV.tup [AV.agg (r.1.map AV.bool), bb r.2]) false) := ⟨fun r h => by
 refine FnR.of_ev (T := T) (rows := []) tOk mixed Tryz.func92 rfl (by kernel_rfl) (by kernel_rfl) rfl fun hwf => ?_
 unfold bH at h
 refine sj <| ai rfl <| sn <| sj <| sj <| sn ?_
 refine cP.img (fun x : (Int × (List Bool)) => St.of [⟨0, ss a0, none⟩, ⟨2, AV.ptr 0 0, none⟩, ⟨4, ii x.1, none⟩] [.cells 103 (x.2.map AV.bool) []] []) (jB a0) ((0 : Int), (List.replicate 256 false)) h ?_ ?_
 ·exact W
 intro n1 x y1 h hl1 hr1
 obtain ⟨s1, s2⟩ := x
 unfold jB at h
 dsimp only at h
 refine sj <| sj <| aF.same <| sn ?_
 refine Br.of h (fun ht h => ?_) fun ht h => ?_
 ·refine sn <| sj <| sj <| aD h fun x3 hx3 h => ?_
  refine xi x3 (ai (fun hg => jY hx3) ?_)
  refine sn <| sj <| sj <| sn ?_
  refine Br.of h (fun ht h => ?_) fun ht h => ?_
  ·refine sj <| kU h fun q4 h => ai ⟨lb rfl, rE _ q4⟩ <| aF.to (AV.agg (s2.map AV.bool)) (fun _ => vZ _ q4) <| kU h fun q5 h => ?_
   refine ai ⟨rfl, aCm _ q5.1, rfl, rE _ q5.2⟩ (xi (s2.map AV.bool) (ai (fun _ => v6 _ _ q5.1 (by rw [List.length_map]; exact q5.2)) ?_))
   refine sn <| kU h fun hd1 h => ?_
   replace h := oi h
   replace h := hr1 _ h.symm
   refine RetE.plain ?_
   refine ai ⟨lb rfl, rE _ hd1⟩ (xi (AV.agg (s2.map AV.bool)) (ai (vZ _ hd1) ?_))
   exact ai (and_tt' (wZ _ (fun _ => rfl) _) (and_tt' rfl rfl)) (ai (congrArg (fun r : ((List Bool) × Bool) => AV.tup [AV.agg (r.1.map AV.bool), bb r.2]) h) rfl)
  ·exact W
 ·refine sn <| sj <| kU h fun q8 h => ai ⟨lb rfl, rE _ q8⟩ <| aF.to (AV.agg (s2.map AV.bool)) (fun _ => vZ _ q8) <| kU h fun q9 h => ?_
  refine ai ⟨rfl, aCm _ q9.1, rfl, rE _ q9.2⟩ (xi (s2.map AV.bool) (ai (fun _ => v6 _ _ q9.1 (by rw [List.length_map]; exact q9.2)) ?_))
  refine sn <| kU h fun hd1 h => ?_
  replace h := oi h
  replace h := hr1 _ h.symm
  refine RetE.plain ?_
  refine ai ⟨lb rfl, rE _ hd1⟩ (xi (AV.agg (s2.map AV.bool)) (ai (vZ _ hd1) ?_))
  exact ai (and_tt' (wZ _ (fun _ => rfl) _) (and_tt' rfl rfl)) (ai (congrArg (fun r : ((List Bool) × Bool) => AV.tup [AV.agg (r.1.map AV.bool), bb r.2]) h) rfl)⟩
instance yG (E : Pm.Env) [aI E] (a0 : (List Bool)) (a1 : Int) : Ok E (bX a0 a1) (fun r => FnR E Tryz.prog 119 [AV.iptr (a0.map AV.bool), AV.int .u8 a1] (bb r) false) := ⟨fun r h => by
 refine FnR.of_ev (T := T) (rows := []) tOk mixed Tryz.func119 rfl (by kernel_rfl) (by kernel_rfl) rfl fun hwf => ?_
 unfold bX at h
 exact W⟩
instance aBv (E : Pm.Env) [aI E] (a0 : aA) (a1 : (List Bool)) : Ok E (cR a0 a1) (fun r => FnR E Tryz.prog 93 [ss a0, AV.iptr (a1.map AV.bool)] (ss r) false) := ⟨fun r h => by
 refine FnR.of_ev (T := T) (rows := []) tOk mixed Tryz.func93 rfl (by kernel_rfl) (by kernel_rfl) rfl fun hwf => ?_
 unfold cR at h
 refine sj <| sn <| aD h fun j1 hj1 h => ?_
 refine SeqJ.join (St.of [⟨0, ss j1, none⟩] [] []) ?_ ?_
 ·clear h; have h := hj1; clear hj1
  refine cP.img (fun x : aA => St.of [⟨0, ss x, none⟩, ⟨1, AV.iptr (a1.map AV.bool), none⟩] [] []) (eL a1) a0 h ?_ ?_
  ·exact W
  intro n1 x y1 h hl1 hr1
  revert h; revert x; intro s2 h
  unfold eL at h
  exact W
 ·clear hj1
  exact W⟩
instance tY (E : Pm.Env) [aI E] (a0 : aA) : Ok E (eG a0) (fun r => FnR E Tryz.prog 137 [ss a0] (AV.tup [AV.int .i32 r.1, ii r.2]) false) := ⟨fun r h => by
 refine FnR.of_ev (T := T) (rows := []) tOk mixed Tryz.func137 rfl (by kernel_rfl) (by kernel_rfl) rfl fun hwf => ?_
 unfold eG at h
 exact W⟩
instance vI (E : Pm.Env) [aI E] (a0 : aA) : Ok E (cO a0) (fun r => FnR E Tryz.prog 120 [ss a0] (AV.tup [AV.int .i32 r.1, ii r.2]) false) := ⟨fun r h => by
 refine FnR.of_ev (T := T) (rows := []) tOk mixed Tryz.func120 rfl (by kernel_rfl) (by kernel_rfl) rfl fun hwf => ?_
 unfold cO at h
 exact W⟩
instance aBw (E : Pm.Env) [aI E] (a0 : aA) (a1 : Int) : Ok E (j9 a0 a1) (fun r => FnR E Tryz.prog 36 [ss a0, AV.int .u8 a1] (ii r) false) := ⟨fun r h => by
 refine FnR.of_ev (T := T) (rows := []) tOk mixed Tryz.func36 rfl (by kernel_rfl) (by kernel_rfl) rfl fun hwf => ?_
 unfold j9 at h
 exact W⟩
instance uE (E : Pm.Env) [aI E] (a0 : aA) (a1 : Int) : Ok E (fJ a0 a1) (fun r => FnR E Tryz.prog 20 [ss a0, AV.int .u8 a1] (ii r) false) := ⟨fun r h => by
 refine FnR.of_ev (T := T) (rows := []) tOk mixed Tryz.func20 rfl (by kernel_rfl) (by kernel_rfl) rfl fun hwf => ?_
 unfold fJ at h
 exact W⟩
instance p9 (E : Pm.Env) [aI E] (a0 : Int) : Ok E (jR a0) (fun r => FnR E Tryz.prog 163 [AV.int .i32 a0] (bb r) false) := ⟨fun r h => by
 refine FnR.of_ev (T := T) (rows := []) tOk mixed Tryz.func163 rfl (by kernel_rfl) (by kernel_rfl) rfl fun hwf => ?_
 unfold jR at h
 exact W⟩
instance aDY (E : Pm.Env) [aI E] (a0 : aA) (a1 : Int) : Ok E (mX a0 a1) (fun r => FnR E Tryz.prog 138 [ss a0, AV.int .i32 a1] (ii r) false) := ⟨fun r h => by
 refine FnR.of_ev (T := T) (rows := []) tOk mixed Tryz.func138 rfl (by kernel_rfl) (by kernel_rfl) rfl fun hwf => ?_
 unfold mX at h
 refine sj <| sn <| sj <| ai id <| ai (fun hg => (hY hg)) <| sn ?_
 refine Br.of h (fun ht h => ?_) fun ht h => ?_
 ·exact W
 ·refine sj <| sn ?_
  refine Br.of h (fun ht h => ?_) fun ht h => ?_
  ·refine sj <| sj <| sn ?_
   refine cP.img (fun x : Nat => St.of [⟨175, AV.ptr 0 0, none⟩] [.mp (.iter a0 x)] []) (kZ a0) 0 h ?_ ?_
   ·exact W
   intro n1 x y1 h hl1 hr1
   revert h; revert x; intro s2 h
   unfold kZ at h
   refine sj ?_
   refine and_of h (fun ht h => ?_) fun ht h => ?_
   ·refine sn <| sj ?_
    refine Br.mk (fun _ => ?_) (fun hf => absurd hf (by decide))
    exact W
   ·refine sn <| sj ?_
    refine Br.mk (fun hf => absurd hf (by decide)) (fun _ => ?_)
    exact W
  ·refine sj <| aD h fun x3 hx3 h => aK.data _ false rfl ((p9 E a1).1 x3 hx3) <| sn ?_
   refine Br.of h (fun ht h => ?_) fun ht h => ?_
   ·exact W
   ·refine sj <| sn <| sj <| aF.same <| sn <| sj <| sn <| sj <| sn <| sj ?_
    refine cP.img (fun x : Int => St.of [⟨0, ss a0, none⟩, ⟨7, ss (encB a1), none⟩, ⟨8, ii (IntKind.i64.wrap (((encB a1).length : Int) - (1 : Int))), none⟩, ⟨9, ii x, none⟩] [] []) (lA a0 a1) (IntKind.i64.wrap (((encB a1).length : Int) - (1 : Int))) h ?_ ?_
    ·exact W
    intro n2 x y2 h hl2 hr2
    revert h; revert x; intro s4 h
    unfold lA at h
    refine sj <| sj <| aF.same <| sn ?_
    refine Br.of h (fun ht h => ?_) fun ht h => ?_
    ·refine sn <| sj <| sj <| Or.inl <| aD h fun x5 hx5 h => ?_
     refine xi x5 (ai (fun hg => jY hx5) ?_)
     refine aD h fun x6 hx6 h => ?_
     refine xi x6 (ai (fun hg => jY hx6) ?_)
     refine ai (by kernel_rfl) <| sn ?_
     refine Br.of h (fun ht h => ?_) fun ht h => ?_
     ·refine sj <| Or.inl <| aD h fun x7 hx7 h => ?_
      have qx7 := (bJ hx7).1
      have hx7e := (bJ hx7).2
      refine ai (fun _ => qx7) <| aF.to (ss x7) (fun _ => congrArg ss hx7e.symm) <| aD h fun x8 hx8 h => ?_
      refine xi x8 (ai (fun hg => jY hx8) ?_)
      refine aD h fun x9 hx9 h => aK.data _ false rfl ((uE E x7 (x8.toNat : Int)).1 x9 hx9) <| ai (by kernel_rfl) <| sn <| sj <| sj <| sn ?_
      refine Br.of h (fun ht h => ?_) fun ht h => ?_
      ·exact W
      ·refine sn <| sn <| sj <| sj <| sn ?_
       refine cP.img (fun x : Int => St.of [⟨0, ss a0, none⟩, ⟨7, ss (encB a1), none⟩, ⟨8, ii (IntKind.i64.wrap (((encB a1).length : Int) - (1 : Int))), none⟩, ⟨9, ii (IntKind.i64.wrap (s4 + (IntKind.i64.wrap (x9 + (1 : Int))))), none⟩, ⟨12, ii x, none⟩] [] []) (k8 a0 a1 s4 x9) (1 : Int) h ?_ ?_
       ·exact W
       intro n3 x y3 h hl3 hr3
       revert h; revert x; intro s10 h
       unfold k8 at h
       exact W
     ·refine sn <| sj <| sj <| sn ?_
      refine cP.img (fun x : Int => St.of [⟨0, ss a0, none⟩, ⟨7, ss (encB a1), none⟩, ⟨8, ii (IntKind.i64.wrap (((encB a1).length : Int) - (1 : Int))), none⟩, ⟨9, ii s4, none⟩, ⟨12, ii x, none⟩] [] []) (k9 a0 a1 s4) (1 : Int) h ?_ ?_
      ·exact W
      intro n4 x y4 h hl4 hr4
      revert h; revert x; intro s13 h
      unfold k9 at h
      exact W
    ·exact W⟩
instance aCy (E : Pm.Env) [aI E] (a0 : aA) (a1 : Int) : Ok E (gI a0 a1) (fun r => FnR E Tryz.prog 121 [ss a0, AV.int .i32 a1] (bb r) false) := ⟨fun r h => by
 refine FnR.of_ev (T := T) (rows := []) tOk mixed Tryz.func121 rfl (by kernel_rfl) (by kernel_rfl) rfl fun hwf => ?_
 unfold gI at h
 exact W⟩
instance aAB (E : Pm.Env) [aI E] (a0 : aA) (a1 : aA) : Ok E (gN a0 a1) (fun r => FnR E Tryz.prog 94 [ss a0, ss a1] (ss r) false) := ⟨fun r h => by
 refine FnR.of_ev (T := T) (rows := []) tOk mixed Tryz.func94 rfl (by kernel_rfl) (by kernel_rfl) rfl fun hwf => ?_
 unfold gN at h
 refine sj <| sn <| aD h fun j1 hj1 h => ?_
 refine SeqJ.join (St.of [⟨0, ss j1, none⟩] [] []) ?_ ?_
 ·clear h; have h := hj1; clear hj1
  refine cP.img (fun x : aA => St.of [⟨0, ss x, none⟩, ⟨1, ss a1, none⟩] [] []) (iA a1) a0 h ?_ ?_
  ·exact W
  intro n1 x y1 h hl1 hr1
  revert h; revert x; intro s2 h
  unfold iA at h
  exact W
 ·clear hj1
  exact W⟩
instance pK (E : Pm.Env) [aI E] (a0 : aA) (a1 : aA) : Ok E (cL a0 a1) (fun r => FnR E Tryz.prog 67 [ss a0, ss a1] (ss r) false) := ⟨fun r h => by
 refine FnR.of_ev (T := T) (rows := []) tOk mixed Tryz.func67 rfl (by kernel_rfl) (by kernel_rfl) rfl fun hwf => ?_
 unfold cL at h
 refine sj <| sn <| sj <| sj <| ai id <| ai (fun hg => (hY hg)) <| sn ?_
 refine Br.of h (fun ht h => ?_) fun ht h => ?_
 ·exact W
 ·refine sn <| sj <| sj <| aF.same <| aD h fun x1 hx1 h => ai id ?_
  refine xi x1 (ai (fun hg => pB hx1 hg) ?_)
  refine ai id <| ai (fun hg => (hY hg)) <| sn ?_
  refine Br.of h (fun ht h => ?_) fun ht h => ?_
  ·exact W
  ·refine sn <| sj <| sj <| aD h fun x4 hx4 h => aK.data _ false rfl ((mQ E a1).1 x4 hx4) <| ai rfl <| kU h fun q5 h => ?_
   refine ai ⟨rfl, aCm _ q5, rfl, aFy rfl⟩ (xi (x4.1.map AV.bool) (ai (fun _ => v6 _ _ q5 rfl) ?_))
   refine sn <| sj <| kU h fun hc1 h => ?_
   refine SeqN.via (St.of [⟨0, ss a0, none⟩, ⟨1, ss a1, none⟩, ⟨5, AV.iptr (x4.1.map AV.bool), none⟩, ⟨31, bb x4.2, none⟩] [] []) ?_ ?_
   ·refine Gho.trans (Gho.fz [0] [(5, AV.iptr (x4.1.map AV.bool))] ⟨Frz.ptr0 rfl (wZ _ (fun _ => rfl) _) (by rw [List.length_map]; exact hc1), trivial⟩) ?_
    exact W
   exact W⟩
theorem kJ (E : Pm.Env) [aI E] (o0 : aC) (r : Unit) (o0' : aC) (h : eP o0 = some (r, o0')) : FnW E Tryz.prog 43 [AV.ptr 0 0] [.cells 72 (aC.cells o0) []] [] (AV.tup []) none [.cells 72 (aC.cells o0') []] [] := by
 refine FnW.of_evB (T := T) (rows := []) tOk mixed Tryz.func43 rfl (by kernel_rfl) (by kernel_rfl) rfl rfl fun hwf => ?_
 unfold eP at h
 refine aD h fun x1 hx1 h => aK.data _ false rfl ((pK E o0.s ([32, 9, 10, 13] : aA)).1 x1 hx1) ?_
 refine ai ⟨rfl, rfl, rfl, lb rfl⟩ (xi [ss x1, bb o0.bad] (ai (fun _ => rfl) ?_))
 replace h := oi h
 have h0 := (Prod.mk.inj h).1
 have h1 := (Prod.mk.inj h).2
 subst h0
 subst h1
 refine xi [] (xi [.cells 72 [ss x1, bb o0.bad] []] (ai rfl (ai (Gho.to _ _ _ [] ?_ ?_ ?_ rfl rfl ?_) (ai ?_ rfl))))
 ·exact W
 ·exact rfl
 ·exact rfl
 ·exact W
 ·exact rfl
instance aBx (E : Pm.Env) [aI E] (a0 : aA) (a1 : aA) : Ok E (bY a0 a1) (fun r => FnR E Tryz.prog 132 [ss a0, ss a1] (bb r) false) := ⟨fun r h => by
 refine FnR.of_ev (T := T) (rows := []) tOk mixed Tryz.func132 rfl (by kernel_rfl) (by kernel_rfl) rfl fun hwf => ?_
 unfold bY at h
 exact W⟩
instance aBy (E : Pm.Env) [aI E] (a0 : aA) (a1 : aA) : Ok E (iH a0 a1) (fun r => FnR E Tryz.prog 130 [ss a0, ss a1] (AV.tup [ss r.1, bb r.2]) false) := ⟨fun r h => by
 refine FnR.of_ev (T := T) (rows := []) tOk mixed Tryz.func130 rfl (by kernel_rfl) (by kernel_rfl) rfl fun hwf => ?_
 unfold iH at h
 exact W⟩
instance iT (E : Pm.Env) [aI E] (a0 : aA) (a1 : aA) : Ok E (dT a0 a1) (fun r => FnR E Tryz.prog 107 [ss a0, ss a1] (AV.tup [ss r.1, bb r.2]) false) := ⟨fun r h => by
 refine FnR.of_ev (T := T) (rows := []) tOk mixed Tryz.func107 rfl (by kernel_rfl) (by kernel_rfl) rfl fun hwf => ?_
 unfold dT at h
 exact W⟩
theorem gD (E : Pm.Env) [aI E] (o0 : aC) (a1 : aA) (r : Bool) (o0' : aC) (h : a8 o0 a1 = some (r, o0')) : FnW E Tryz.prog 87 [AV.ptr 0 0, ss a1] [.cells 72 (aC.cells o0) []] [] (bb r) none [.cells 72 (aC.cells o0') []] [] := by
 refine FnW.of_evB (T := T) (rows := []) tOk mixed Tryz.func87 rfl (by kernel_rfl) (by kernel_rfl) rfl rfl fun hwf => ?_
 unfold a8 at h
 refine sj <| sn <| sj <| aD h fun x1 hx1 h => aK.ren [0] [] [.cells 72 (aC.cells x1.2) []] [] (kJ E o0 x1.1 x1.2 hx1) rfl rfl rfl rfl rfl rfl rfl rfl rfl <| sn <| sj <| aD h fun x2 hx2 h => aK.data _ false rfl ((iT E x1.2.s a1).1 x2 hx2) <| sn <| sj ?_
 refine ai ⟨rfl, rfl, rfl, lb rfl⟩ (xi [ss x2.1, bb x1.2.bad] (ai (fun _ => rfl) ?_))
 refine sn <| sj <| sn ?_
 replace h := oi h
 have h0 := (Prod.mk.inj h).1
 have h1 := (Prod.mk.inj h).2
 subst h0
 subst h1
 refine xi [⟨4, bb x2.2, none⟩] (xi [.cells 72 [ss x2.1, bb x1.2.bad] []] (ai rfl (ai (Gho.to _ _ _ [] ?_ ?_ ?_ rfl rfl ?_) (ai ?_ rfl))))
 ·exact ⟨⟨rfl, rfl, rfl⟩, trivial⟩
 ·exact rfl
 ·exact rfl
 ·exact tr3 <| trivial
 ·exact rfl
theorem lW (E : Pm.Env) [aI E] (o0 : aC) (r : aB) (o0' : aC) (h : iB o0 = some (r, o0')) : FnW E Tryz.prog 88 [AV.ptr 0 0] [.cells 72 (aC.cells o0) []] [] (aB.av r) none [.cells 72 (aC.cells o0') []] [] := by
 refine FnW.of_evB (T := T) (rows := []) tOk mixed Tryz.func88 rfl (by kernel_rfl) (by kernel_rfl) rfl rfl fun hwf => ?_
 unfold iB at h
 refine sj <| ai rfl <| sn <| sj ?_
 refine ai ⟨rfl, rfl, rfl, lb rfl⟩ (xi [ss o0.s, bb true] (ai (fun _ => rfl) ?_))
 refine sn <| sj ?_
 refine ai ⟨rfl, rfl, rfl, lb rfl⟩ (xi [ss [], bb true] (ai (fun _ => rfl) ?_))
 refine sn <| sj ?_
 refine xi (some 31) (ai (okM.mk (show (31 : Nat) = nS T _ _ _ from by kernel_rfl)) ?_)
 refine ai ⟨rfl, rfl, rfl, lb rfl⟩ (xi [ii 0, ii 0, ss [], ss [], AV.list 5 (([] : List aB).map aB.avR)] (ai (fun _ => rfl) ?_))
 refine sn ?_
 replace h := oi h
 have h0 := (Prod.mk.inj h).1
 have h1 := (Prod.mk.inj h).2
 subst h0
 subst h1
 refine xi [⟨2, AV.ptr 1 0, none⟩] (xi [.cells 72 [ss [], bb true] [], .cells 26 [ii 0, ii 0, ss [], ss [], AV.list 5 (([] : List aB).map aB.avR)] []] (ai rfl (ai (Gho.to _ _ _ [] ?_ ?_ ?_ rfl rfl ?_) (ai ?_ rfl))))
 ·exact ⟨⟨rfl, rfl, rfl⟩, ⟨⟨rfl, rfl, rfl⟩, trivial⟩⟩
 ·exact rfl
 ·exact rfl
 ·exact tr3 <| trivial
 ·refine ai ⟨lb rfl, lb rfl⟩ (xi (AV.agg [ii 0, ii 0, ss [], ss [], AV.list 5 (([] : List aB).map aB.avR)]) (ai rfl ?_))
  exact rfl
instance aFL (E : Pm.Env) [aI E] (a0 : aA) (a1 : aA) : Ok E (kA a0 a1) (fun r => FnR E Tryz.prog 134 [ss a0, ss a1] (AV.tup [ss r.1, ss r.2.1, bb r.2.2]) false) := ⟨fun r h => by
 refine FnR.of_ev (T := T) (rows := []) tOk mixed Tryz.func134 rfl (by kernel_rfl) (by kernel_rfl) rfl fun hwf => ?_
 unfold kA at h
 exact W⟩
instance lN (E : Pm.Env) [aI E] (a0 : aA) (a1 : aA) : Ok E (dO a0 a1) (fun r => FnR E Tryz.prog 116 [ss a0, ss a1] (AV.tup [ss r.1, ss r.2.1, bb r.2.2]) false) := ⟨fun r h => by
 refine FnR.of_ev (T := T) (rows := []) tOk mixed Tryz.func116 rfl (by kernel_rfl) (by kernel_rfl) rfl fun hwf => ?_
 unfold dO at h
 exact W⟩
theorem rL (E : Pm.Env) [aI E] (a0 : aA) (a1 : FuncId) (a1c : List AV) (a1i : Int -> Option Bool) (a1h : ∀ (x0 : Int) (r : Bool), a1i x0 = some r -> FnR E Tryz.prog a1 ([AV.int .u8 x0] ++ a1c) (bb r) false) (a1p : a1c.all AV.puB = true) (r : Int) (h : kK a0 a1i = some r) : FnR E Tryz.prog 112 [ss a0, AV.fn a1 [] a1c] (ii r) false := by
 refine FnR.of_ev (T := T) (rows := []) tOk mixed Tryz.func112 rfl (by kernel_rfl) (by kernel_rfl) rfl fun hwf => ?_
 unfold kK at h
 refine sj <| sn <| sj <| sn <| aD h fun j1 hj1 h => ?_
 refine SeqJ.join (St.of [⟨5, ii j1, none⟩] [] []) ?_ ?_
 ·clear h; have h := hj1; clear hj1
  refine cP.img (fun x : Int => St.of [⟨0, ss a0, none⟩, ⟨1, AV.fn a1 [] a1c, none⟩, ⟨5, ii x, none⟩] [] []) (mY a0 a1i) (0 : Int) h ?_ ?_
  ·refine Gho.to _ _ _ [] ?_ ?_ ?_ rfl rfl ?_
   ·exact trivial
   ·exact rfl
   ·exact rfl
   ·exact ⟨rfl, rfl, trivial, rfl, (sT a1p _), trivial, rfl, rfl, trivial, trivial⟩
  intro n1 x y1 h hl1 hr1
  revert h; revert x; intro s2 h
  unfold mY at h
  refine sj <| sj <| aF.same <| aD h fun x3 hx3 h => ai id <| ai id ?_
  refine xi x3 (ai (fun hg => pB hx3 hg) ?_)
  refine aD h fun x4 hx4 h => ai id <| ai id <| ai (wY rfl (aBl a1p)) ?_
  refine o7.mk _ false (fun hg => a1h (x3.toNat : Int) x4 (dX hx4 hg)) (ai rfl ?_)
  refine ai (fun hg => (hY hg)) <| sn ?_
  refine Br.of h (fun ht h => ?_) fun ht h => ?_
  ·refine sn ?_
   replace h := oi h
   refine xi ⟨(n1, (IntKind.i64.wrap (s2 + (1 : Int)))), hl1 _ h.symm⟩ (ai (aPL _) ?_)
   refine Gho.to _ _ _ [] ?_ ?_ ?_ rfl rfl ?_
   ·exact W
   ·exact rfl
   ·exact rfl
   ·exact ⟨rfl, rfl, trivial, rfl, (sT a1p _), trivial, rfl, rfl, trivial, trivial⟩
  ·exact W
 ·clear hj1
  exact W
instance aAN (E : Pm.Env) [aI E] (a0 : Int) : Ok E (lS a0) (fun r => FnR E Tryz.prog 113 [AV.int .u8 a0] (bb r) false) := ⟨fun r h => by
 refine FnR.of_ev (T := T) (rows := []) tOk mixed Tryz.func113 rfl (by kernel_rfl) (by kernel_rfl) rfl fun hwf => ?_
 unfold lS at h
 exact W⟩
instance aCz (E : Pm.Env) [aI E] : Ok E eX (fun r => FnR E Tryz.prog 111 [] (AV.tup [ss r.1, ii r.2]) false) := ⟨fun r h => by
 refine FnR.of_ev (T := T) (rows := []) tOk mixed Tryz.func111 rfl (by kernel_rfl) (by kernel_rfl) rfl fun hwf => ?_
 unfold eX at h
 exact W⟩
instance c7 (E : Pm.Env) [aI E] (a0 : aA) (a1 : aA) : Ok E (aP a0 a1) (fun r => FnR E Tryz.prog 114 [ss a0, ss a1] (bb r) false) := ⟨fun r h => by
 refine FnR.of_ev (T := T) (rows := []) tOk mixed Tryz.func114 rfl (by kernel_rfl) (by kernel_rfl) rfl fun hwf => ?_
 unfold aP at h
 exact W⟩
instance vG (E : Pm.Env) [aI E] (a0 : aA) : Ok E (qS a0) (fun r => FnR E Tryz.prog 115 [ss a0] (AV.fn 133 [] [AV.iptr [ss r]]) false) := ⟨fun r h => by
 refine FnR.of_ev (T := T) (rows := []) tOk mixed Tryz.func115 rfl (by kernel_rfl) (by kernel_rfl) rfl fun hwf => ?_
 unfold qS at h
 refine sj <| ai rfl ?_
 refine SeqN.via (St.of [⟨1, AV.iptr [ss a0], none⟩] [] []) ?_ ?_
 ·refine Gho.trans (Gho.fz [0] [(1, AV.iptr [ss a0])] ⟨Frz.ptrD rfl rfl (lb rfl), trivial⟩) ?_
  exact W
 exact W⟩
instance rM (E : Pm.Env) [aI E] (a0 : Int) (c0 : aA) : Ok E (f9 a0 c0) (fun r => FnR E Tryz.prog 133 [AV.int .u8 a0, AV.iptr [ss c0]] (bb r) false) := ⟨fun r h => by
 refine FnR.of_ev (T := T) (rows := []) tOk mixed Tryz.func133 rfl (by kernel_rfl) (by kernel_rfl) rfl fun hwf => ?_
 unfold f9 at h
 exact W⟩
instance xI (E : Pm.Env) [aI E] (a0 : aA) : Ok E (vK a0) (fun r => FnR E Tryz.prog 153 [ss a0] (AV.fn 172 [] [AV.iptr [ss r]]) false) := ⟨fun r h => by
 refine FnR.of_ev (T := T) (rows := []) tOk mixed Tryz.func153 rfl (by kernel_rfl) (by kernel_rfl) rfl fun hwf => ?_
 unfold vK at h
 refine sj <| ai rfl ?_
 refine SeqN.via (St.of [⟨1, AV.iptr [ss a0], none⟩] [] []) ?_ ?_
 ·refine Gho.trans (Gho.fz [0] [(1, AV.iptr [ss a0])] ⟨Frz.ptrD rfl rfl (lb rfl), trivial⟩) ?_
  exact W
 exact W⟩
instance rN (E : Pm.Env) [aI E] (a0 : aA) (a1k0 : aL) : Ok E (lB a0 a1k0) (fun r => FnR E Tryz.prog 154 [ss a0, AV.fn 150 [] [AV.iptr (aL.cells a1k0)]] (AV.fn 173 [] [AV.iptr [ss r.1], AV.iptr [AV.fn 150 [] [AV.iptr (aL.cells r.2)]]]) false) := ⟨fun r h => by
 refine FnR.of_ev (T := T) (rows := []) tOk mixed Tryz.func154 rfl (by kernel_rfl) (by kernel_rfl) rfl fun hwf => ?_
 unfold lB at h
 refine sj <| ai rfl <| ai rfl ?_
 refine SeqN.via (St.of [⟨2, AV.iptr [ss a0], none⟩, ⟨3, AV.iptr [AV.fn 150 [] [AV.iptr (aL.cells a1k0)]], none⟩] [] []) ?_ ?_
 ·refine Gho.trans (Gho.fz [0, 1] [(2, AV.iptr [ss a0]), (3, AV.iptr [AV.fn 150 [] [AV.iptr (aL.cells a1k0)]])] ⟨Frz.ptrD rfl rfl (lb rfl), Frz.ptrD rfl rfl (lb rfl), trivial⟩) ?_
  exact W
 exact W⟩
instance rO (E : Pm.Env) [aI E] (a0 : aA) (a1k0 : aL) : Ok E (lC a0 a1k0) (fun r => FnR E Tryz.prog 154 [ss a0, AV.fn 155 [] [AV.iptr (aL.cells a1k0)]] (AV.fn 173 [] [AV.iptr [ss r.1], AV.iptr [AV.fn 155 [] [AV.iptr (aL.cells r.2)]]]) false) := ⟨fun r h => by
 refine FnR.of_ev (T := T) (rows := []) tOk mixed Tryz.func154 rfl (by kernel_rfl) (by kernel_rfl) rfl fun hwf => ?_
 unfold lC at h
 refine sj <| ai rfl <| ai rfl ?_
 refine SeqN.via (St.of [⟨2, AV.iptr [ss a0], none⟩, ⟨3, AV.iptr [AV.fn 155 [] [AV.iptr (aL.cells a1k0)]], none⟩] [] []) ?_ ?_
 ·refine Gho.trans (Gho.fz [0, 1] [(2, AV.iptr [ss a0]), (3, AV.iptr [AV.fn 155 [] [AV.iptr (aL.cells a1k0)]])] ⟨Frz.ptrD rfl rfl (lb rfl), Frz.ptrD rfl rfl (lb rfl), trivial⟩) ?_
  exact W
 exact W⟩
instance rP (E : Pm.Env) [aI E] (a0 : aA) (a1k0 : aL) : Ok E (lD a0 a1k0) (fun r => FnR E Tryz.prog 154 [ss a0, AV.fn 158 [] [AV.iptr (aL.cells a1k0)]] (AV.fn 173 [] [AV.iptr [ss r.1], AV.iptr [AV.fn 158 [] [AV.iptr (aL.cells r.2)]]]) false) := ⟨fun r h => by
 refine FnR.of_ev (T := T) (rows := []) tOk mixed Tryz.func154 rfl (by kernel_rfl) (by kernel_rfl) rfl fun hwf => ?_
 unfold lD at h
 refine sj <| ai rfl <| ai rfl ?_
 refine SeqN.via (St.of [⟨2, AV.iptr [ss a0], none⟩, ⟨3, AV.iptr [AV.fn 158 [] [AV.iptr (aL.cells a1k0)]], none⟩] [] []) ?_ ?_
 ·refine Gho.trans (Gho.fz [0, 1] [(2, AV.iptr [ss a0]), (3, AV.iptr [AV.fn 158 [] [AV.iptr (aL.cells a1k0)]])] ⟨Frz.ptrD rfl rfl (lb rfl), Frz.ptrD rfl rfl (lb rfl), trivial⟩) ?_
  exact W
 exact W⟩
instance rQ (E : Pm.Env) [aI E] (a0 : aA) (a1k0 : aL) : Ok E (lE a0 a1k0) (fun r => FnR E Tryz.prog 154 [ss a0, AV.fn 160 [] [AV.iptr (aL.cells a1k0)]] (AV.fn 173 [] [AV.iptr [ss r.1], AV.iptr [AV.fn 160 [] [AV.iptr (aL.cells r.2)]]]) false) := ⟨fun r h => by
 refine FnR.of_ev (T := T) (rows := []) tOk mixed Tryz.func154 rfl (by kernel_rfl) (by kernel_rfl) rfl fun hwf => ?_
 unfold lE at h
 refine sj <| ai rfl <| ai rfl ?_
 refine SeqN.via (St.of [⟨2, AV.iptr [ss a0], none⟩, ⟨3, AV.iptr [AV.fn 160 [] [AV.iptr (aL.cells a1k0)]], none⟩] [] []) ?_ ?_
 ·refine Gho.trans (Gho.fz [0, 1] [(2, AV.iptr [ss a0]), (3, AV.iptr [AV.fn 160 [] [AV.iptr (aL.cells a1k0)]])] ⟨Frz.ptrD rfl rfl (lb rfl), Frz.ptrD rfl rfl (lb rfl), trivial⟩) ?_
  exact W
 exact W⟩
theorem aCA (E : Pm.Env) [aI E] (a0 : aL) (r : (aA × aA × (aA × aL) × (aA × aL) × (aA × aL) × (aA × aL))) (h : tB a0 = some r) : FnM E Tryz.prog 135 [aL.av a0] [(ss ([72, 84, 84, 80, 95, 72, 79, 83, 84] : aA), AV.fn 172 [] [AV.iptr [ss r.1]]), (ss ([72, 84, 84, 80, 95, 82, 69, 70, 69, 82, 69, 82] : aA), AV.fn 172 [] [AV.iptr [ss r.2.1]]), (ss ([72, 84, 84, 80, 95, 85, 83, 69, 82, 95, 65, 71, 69, 78, 84] : aA), AV.fn 173 [] [AV.iptr [ss r.2.2.1.1], AV.iptr [AV.fn 150 [] [AV.iptr (aL.cells r.2.2.1.2)]]]), (ss ([72, 84, 84, 80, 95, 67, 79, 79, 75, 73, 69] : aA), AV.fn 173 [] [AV.iptr [ss r.2.2.2.1.1], AV.iptr [AV.fn 155 [] [AV.iptr (aL.cells r.2.2.2.1.2)]]]), (ss ([81, 85, 69, 82, 89, 95, 83, 84, 82, 73, 78, 71] : aA), AV.fn 173 [] [AV.iptr [ss r.2.2.2.2.1.1], AV.iptr [AV.fn 158 [] [AV.iptr (aL.cells r.2.2.2.2.1.2)]]]), (ss ([72, 84, 84, 80, 95, 65, 67, 67, 69, 80, 84, 95, 76, 65, 78, 71, 85, 65, 71, 69] : aA), AV.fn 173 [] [AV.iptr [ss r.2.2.2.2.2.1], AV.iptr [AV.fn 160 [] [AV.iptr (aL.cells r.2.2.2.2.2.2)]]])] := by
 refine FnM.of_ev (T := T) (rows := []) tOk mixed Tryz.func135 rfl (by kernel_rfl) (by kernel_rfl) rfl fun hwf => ?_
 unfold tB at h
 refine sj <| ai rfl ?_
 refine SeqN.via (St.of [⟨1, AV.iptr (aL.cells a0), none⟩] [] []) ?_ ?_
 ·refine Gho.trans (Gho.fz [0] [(1, AV.iptr (aL.cells a0))] ⟨Frz.ptrD rfl rfl (lb rfl), trivial⟩) ?_
  exact W
 refine sj <| sn <| sj ?_
 refine Or.inr (xi 0 (xi 0 ?_))
 refine aD h fun x1 hx1 h => aK.data _ false rfl ((xI E a0.Host).1 x1 hx1) ?_
 refine xi (ss ([72, 84, 84, 80, 95, 72, 79, 83, 84] : aA), AV.fn 172 [] [AV.iptr [ss x1]]) (ai (fun es hk => ?_) ?_)
 ·exact ai ⟨rfl, rfl, rfl⟩ (xi (es ++ [(ss ([72, 84, 84, 80, 95, 72, 79, 83, 84] : aA), AV.fn 172 [] [AV.iptr [ss x1]])]) (ai (u5 hk) ⟨rfl, rfl, rfl⟩))
 refine aD h fun x2 hx2 h => aK.data _ false rfl ((xI E a0.Referer).1 x2 hx2) ?_
 refine xi (ss ([72, 84, 84, 80, 95, 82, 69, 70, 69, 82, 69, 82] : aA), AV.fn 172 [] [AV.iptr [ss x2]]) (ai (fun es hk => ?_) ?_)
 ·exact ai ⟨rfl, rfl, rfl⟩ (xi (es ++ [(ss ([72, 84, 84, 80, 95, 82, 69, 70, 69, 82, 69, 82] : aA), AV.fn 172 [] [AV.iptr [ss x2]])]) (ai (u5 hk) ⟨rfl, rfl, rfl⟩))
 refine aD h fun x3 hx3 h => aK.data _ false rfl ((rN E a0.Agent a0).1 x3 hx3) ?_
 refine xi (ss ([72, 84, 84, 80, 95, 85, 83, 69, 82, 95, 65, 71, 69, 78, 84] : aA), AV.fn 173 [] [AV.iptr [ss x3.1], AV.iptr [AV.fn 150 [] [AV.iptr (aL.cells x3.2)]]]) (ai (fun es hk => ?_) ?_)
 ·exact ai ⟨rfl, rfl, rfl⟩ (xi (es ++ [(ss ([72, 84, 84, 80, 95, 85, 83, 69, 82, 95, 65, 71, 69, 78, 84] : aA), AV.fn 173 [] [AV.iptr [ss x3.1], AV.iptr [AV.fn 150 [] [AV.iptr (aL.cells x3.2)]]])]) (ai (u5 hk) ⟨rfl, rfl, rfl⟩))
 refine aD h fun x4 hx4 h => aK.data _ false rfl ((rO E a0.Cookie a0).1 x4 hx4) ?_
 refine xi (ss ([72, 84, 84, 80, 95, 67, 79, 79, 75, 73, 69] : aA), AV.fn 173 [] [AV.iptr [ss x4.1], AV.iptr [AV.fn 155 [] [AV.iptr (aL.cells x4.2)]]]) (ai (fun es hk => ?_) ?_)
 ·exact ai ⟨rfl, rfl, rfl⟩ (xi (es ++ [(ss ([72, 84, 84, 80, 95, 67, 79, 79, 75, 73, 69] : aA), AV.fn 173 [] [AV.iptr [ss x4.1], AV.iptr [AV.fn 155 [] [AV.iptr (aL.cells x4.2)]]])]) (ai (u5 hk) ⟨rfl, rfl, rfl⟩))
 refine aD h fun x5 hx5 h => aK.data _ false rfl ((rP E a0.Query a0).1 x5 hx5) ?_
 refine xi (ss ([81, 85, 69, 82, 89, 95, 83, 84, 82, 73, 78, 71] : aA), AV.fn 173 [] [AV.iptr [ss x5.1], AV.iptr [AV.fn 158 [] [AV.iptr (aL.cells x5.2)]]]) (ai (fun es hk => ?_) ?_)
 ·exact ai ⟨rfl, rfl, rfl⟩ (xi (es ++ [(ss ([81, 85, 69, 82, 89, 95, 83, 84, 82, 73, 78, 71] : aA), AV.fn 173 [] [AV.iptr [ss x5.1], AV.iptr [AV.fn 158 [] [AV.iptr (aL.cells x5.2)]]])]) (ai (u5 hk) ⟨rfl, rfl, rfl⟩))
 refine aD h fun x6 hx6 h => aK.data _ false rfl ((rQ E a0.Language a0).1 x6 hx6) ?_
 refine xi (ss ([72, 84, 84, 80, 95, 65, 67, 67, 69, 80, 84, 95, 76, 65, 78, 71, 85, 65, 71, 69] : aA), AV.fn 173 [] [AV.iptr [ss x6.1], AV.iptr [AV.fn 160 [] [AV.iptr (aL.cells x6.2)]]]) (ai (fun es hk => ?_) ?_)
 ·exact ai ⟨rfl, rfl, rfl⟩ (xi (es ++ [(ss ([72, 84, 84, 80, 95, 65, 67, 67, 69, 80, 84, 95, 76, 65, 78, 71, 85, 65, 71, 69] : aA), AV.fn 173 [] [AV.iptr [ss x6.1], AV.iptr [AV.fn 160 [] [AV.iptr (aL.cells x6.2)]]])]) (ai (u5 hk) ⟨rfl, rfl, rfl⟩))
 refine ai ⟨by kernel_rfl, by kernel_rfl, rfl⟩ (xi [(ss ([72, 84, 84, 80, 95, 72, 79, 83, 84] : aA), AV.fn 172 [] [AV.iptr [ss x1]]), (ss ([72, 84, 84, 80, 95, 82, 69, 70, 69, 82, 69, 82] : aA), AV.fn 172 [] [AV.iptr [ss x2]]), (ss ([72, 84, 84, 80, 95, 85, 83, 69, 82, 95, 65, 71, 69, 78, 84] : aA), AV.fn 173 [] [AV.iptr [ss x3.1], AV.iptr [AV.fn 150 [] [AV.iptr (aL.cells x3.2)]]]), (ss ([72, 84, 84, 80, 95, 67, 79, 79, 75, 73, 69] : aA), AV.fn 173 [] [AV.iptr [ss x4.1], AV.iptr [AV.fn 155 [] [AV.iptr (aL.cells x4.2)]]]), (ss ([81, 85, 69, 82, 89, 95, 83, 84, 82, 73, 78, 71] : aA), AV.fn 173 [] [AV.iptr [ss x5.1], AV.iptr [AV.fn 158 [] [AV.iptr (aL.cells x5.2)]]]), (ss ([72, 84, 84, 80, 95, 65, 67, 67, 69, 80, 84, 95, 76, 65, 78, 71, 85, 65, 71, 69] : aA), AV.fn 173 [] [AV.iptr [ss x6.1], AV.iptr [AV.fn 160 [] [AV.iptr (aL.cells x6.2)]]])] (ai (by kernel_rfl) ?_))
 refine sn ?_
 replace h := oi h
 subst h
 exact xi 0 (ai rfl rfl)
instance aJU (E : Pm.Env) [aI E] (a0 : aA) : Ok E (sD a0) (fun r => FnR E Tryz.prog 152 [ss a0] (AV.tup [ss r.1, bb r.2]) false) := ⟨fun r h => by
 refine FnR.of_ev (T := T) (rows := []) tOk mixed Tryz.func152 rfl (by kernel_rfl) (by kernel_rfl) rfl fun hwf => ?_
 unfold sD at h
 exact W⟩
instance uM (E : Pm.Env) [aI E] (a0 : aA) (c0 : aA) : Ok E (mZ a0 c0) (fun r => FnR E Tryz.prog 172 [ss a0, AV.iptr [ss c0]] (AV.tup [ss r.1, bb r.2]) false) := ⟨fun r h => by
 refine FnR.of_ev (T := T) (rows := []) tOk mixed Tryz.func172 rfl (by kernel_rfl) (by kernel_rfl) rfl fun hwf => ?_
 unfold mZ at h
 exact W⟩
theorem pZ (E : Pm.Env) [aI E] (a0 : aA) (c0 : aA) (c1 : FuncId) (c1c : List AV) (c1i : aA -> Option (aA × Bool)) (c1h : ∀ (x0 : aA) (r : (aA × Bool)), c1i x0 = some r -> FnR E Tryz.prog c1 ([ss x0] ++ c1c) (AV.tup [ss r.1, bb r.2]) false) (c1p : c1c.all AV.puB = true) (r : (aA × Bool)) (h : iI a0 c0 c1i = some r) : FnR E Tryz.prog 173 [ss a0, AV.iptr [ss c0], AV.iptr [AV.fn c1 [] c1c]] (AV.tup [ss r.1, bb r.2]) false := by
 refine FnR.of_ev (T := T) (rows := []) tOk mixed Tryz.func173 rfl (by kernel_rfl) (by kernel_rfl) rfl fun hwf => ?_
 unfold iI at h
 refine sj <| sn <| sj <| sj <| sn ?_
 refine Br.of h (fun ht h => ?_) fun ht h => ?_
 ·exact W
 ·refine sn <| sj <| aD h fun x2 hx2 h => aK.data _ false (wY rfl (aBl c1p)) (c1h a0 x2 hx2) <| sn ?_
  replace h := oi h
  refine RetE.plain ?_
  subst h; exact ai rfl (ai rfl rfl)
instance aEO (E : Pm.Env) [aI E] (a0 : aA) (a1 : aA) : Ok E (bT a0 a1) (fun r => FnR E Tryz.prog 96 [ss a0, ss a1] (bb r) false) := ⟨fun r h => by
 refine FnR.of_ev (T := T) (rows := []) tOk mixed Tryz.func96 rfl (by kernel_rfl) (by kernel_rfl) rfl fun hwf => ?_
 unfold bT at h
 exact W⟩
instance aAO (E : Pm.Env) [aI E] (a0 : aA) : Ok E (oP a0) (fun r => FnR E Tryz.prog 151 [ss a0] (AV.tup [ss r.1, ss r.2.1, ss r.2.2]) false) := ⟨fun r h => by
 refine FnR.of_ev (T := T) (rows := []) tOk mixed Tryz.func151 rfl (by kernel_rfl) (by kernel_rfl) rfl fun hwf => ?_
 unfold oP at h
 refine sj <| sn <| sj <| sn <| aD h fun j1 hj1 h => ?_
 refine SeqJ.join (St.of [⟨0, ss a0, none⟩, ⟨5, ss j1.1, none⟩, ⟨6, ss j1.2, none⟩, ⟨7, ss ([79, 84, 72, 69, 82] : aA), none⟩] [] []) ?_ ?_
 ·clear h; have h := hj1; clear hj1
  refine sj <| ai ⟨rfl, rfl, lb rfl⟩ <| ai ⟨rfl, rfl, lb rfl⟩ <| ai ⟨rfl, rfl, lb rfl⟩ ?_
  refine xi none (ai rfl ?_)
  refine ai ⟨rfl, rfl, lb rfl⟩ <| ai ⟨rfl, rfl, lb rfl⟩ <| ai ⟨rfl, rfl, lb rfl⟩ ?_
  refine xi none (ai rfl ?_)
  refine ai ⟨rfl, rfl, rfl, rfl⟩ <| ai ⟨rfl, rfl, rfl, rfl⟩ <| ai ⟨rfl, rfl, rfl⟩ <| aF.to (AV.list 3 (([(bW.mk ([77, 83, 73, 69] : aA) ([77, 83, 73, 69] : aA) ([77, 83, 73, 69, 32] : aA)), (bW.mk ([77, 111, 122, 105, 108, 108, 97] : aA) ([77, 79, 90, 73, 76, 76, 65] : aA) ([77, 111, 122, 105, 108, 108, 97, 47] : aA))] : List bW).map bW.av)) (fun _ => rfl) <| aF.to (ii (([(bW.mk ([77, 83, 73, 69] : aA) ([77, 83, 73, 69] : aA) ([77, 83, 73, 69, 32] : aA)), (bW.mk ([77, 111, 122, 105, 108, 108, 97] : aA) ([77, 79, 90, 73, 76, 76, 65] : aA) ([77, 111, 122, 105, 108, 108, 97, 47] : aA))] : List bW).length : Int)) (fun _ => bB bW.av ([(bW.mk ([77, 83, 73, 69] : aA) ([77, 83, 73, 69] : aA) ([77, 83, 73, 69, 32] : aA)), (bW.mk ([77, 111, 122, 105, 108, 108, 97] : aA) ([77, 79, 90, 73, 76, 76, 65] : aA) ([77, 111, 122, 105, 108, 108, 97, 47] : aA))] : List bW)) <| sn ?_
  refine cP.img (fun x : (aA × aA × Int) => St.of [⟨0, ss a0, none⟩, ⟨5, ss x.1, none⟩, ⟨6, ss x.2.1, none⟩, ⟨7, ss ([79, 84, 72, 69, 82] : aA), none⟩, ⟨17, AV.list 3 (([(bW.mk ([77, 83, 73, 69] : aA) ([77, 83, 73, 69] : aA) ([77, 83, 73, 69, 32] : aA)), (bW.mk ([77, 111, 122, 105, 108, 108, 97] : aA) ([77, 79, 90, 73, 76, 76, 65] : aA) ([77, 111, 122, 105, 108, 108, 97, 47] : aA))] : List bW).map bW.av), some 0⟩, ⟨18, ii (([(bW.mk ([77, 83, 73, 69] : aA) ([77, 83, 73, 69] : aA) ([77, 83, 73, 69, 32] : aA)), (bW.mk ([77, 111, 122, 105, 108, 108, 97] : aA) ([77, 79, 90, 73, 76, 76, 65] : aA) ([77, 111, 122, 105, 108, 108, 97, 47] : aA))] : List bW).length : Int), none⟩, ⟨19, ii x.2.2, none⟩] [] [2]) (iQ a0) (([79, 84, 72, 69, 82] : aA), ([] : aA), (0 : Int)) h ?_ ?_
  ·exact W
  intro n1 x y1 h hl1 hr1
  obtain ⟨s2, s3, s4⟩ := x
  unfold iQ at h
  dsimp only at h
  exact W
 ·clear hj1
  refine aD h fun j10 hj10 h => ?_
  refine SeqJ.join (St.of [⟨5, ss j1.1, none⟩, ⟨6, ss j1.2, none⟩, ⟨7, ss j10, none⟩] [] []) ?_ ?_
  ·clear h; have h := hj10; clear hj10
   refine sj <| ai ⟨rfl, rfl, lb rfl⟩ <| ai ⟨rfl, rfl, lb rfl⟩ ?_
   refine xi none (ai rfl ?_)
   refine ai ⟨rfl, rfl, lb rfl⟩ <| ai ⟨rfl, rfl, lb rfl⟩ ?_
   refine xi none (ai rfl ?_)
   refine ai ⟨rfl, rfl, lb rfl⟩ <| ai ⟨rfl, rfl, lb rfl⟩ ?_
   refine xi none (ai rfl ?_)
   refine ai ⟨rfl, rfl, rfl, rfl⟩ <| ai ⟨rfl, rfl, rfl, rfl⟩ <| ai ⟨rfl, rfl, rfl, rfl⟩ <| ai ⟨rfl, rfl, rfl⟩ <| aF.to (AV.list 2 (([(bD.mk ([87, 105, 110, 100, 111, 119, 115] : aA) ([87, 73, 78] : aA)), (bD.mk ([77, 97, 99] : aA) ([77, 65, 67] : aA)), (bD.mk ([88, 49, 49] : aA) ([85, 78, 73, 88] : aA))] : List bD).map bD.av)) (fun _ => rfl) <| aF.to (ii (([(bD.mk ([87, 105, 110, 100, 111, 119, 115] : aA) ([87, 73, 78] : aA)), (bD.mk ([77, 97, 99] : aA) ([77, 65, 67] : aA)), (bD.mk ([88, 49, 49] : aA) ([85, 78, 73, 88] : aA))] : List bD).length : Int)) (fun _ => bB bD.av ([(bD.mk ([87, 105, 110, 100, 111, 119, 115] : aA) ([87, 73, 78] : aA)), (bD.mk ([77, 97, 99] : aA) ([77, 65, 67] : aA)), (bD.mk ([88, 49, 49] : aA) ([85, 78, 73, 88] : aA))] : List bD)) <| sn ?_
   refine cP.img (fun x : (aA × Int) => St.of [⟨0, ss a0, none⟩, ⟨5, ss j1.1, none⟩, ⟨6, ss j1.2, none⟩, ⟨7, ss x.1, none⟩, ⟨50, AV.list 2 (([(bD.mk ([87, 105, 110, 100, 111, 119, 115] : aA) ([87, 73, 78] : aA)), (bD.mk ([77, 97, 99] : aA) ([77, 65, 67] : aA)), (bD.mk ([88, 49, 49] : aA) ([85, 78, 73, 88] : aA))] : List bD).map bD.av), some 0⟩, ⟨51, ii (([(bD.mk ([87, 105, 110, 100, 111, 119, 115] : aA) ([87, 73, 78] : aA)), (bD.mk ([77, 97, 99] : aA) ([77, 65, 67] : aA)), (bD.mk ([88, 49, 49] : aA) ([85, 78, 73, 88] : aA))] : List bD).length : Int), none⟩, ⟨52, ii x.2, none⟩] [] [2]) (gR a0) (([79, 84, 72, 69, 82] : aA), (0 : Int)) h ?_ ?_
   ·exact W
   intro n2 x y2 h hl2 hr2
   obtain ⟨s11, s12⟩ := x
   unfold gR at h
   dsimp only at h
   exact W
  ·clear hj10
   exact W⟩
instance aAm (E : Pm.Env) [aI E] (a0 : aA) (c0 : aL) : Ok E (nD a0 c0) (fun r => FnR E Tryz.prog 150 [ss a0, AV.iptr (aL.cells c0)] (AV.tup [ss r.1, bb r.2]) false) := ⟨fun r h => by
 refine FnR.of_ev (T := T) (rows := []) tOk mixed Tryz.func150 rfl (by kernel_rfl) (by kernel_rfl) rfl fun hwf => ?_
 unfold nD at h
 refine sj <| sn <| sj <| aD h fun x1 hx1 h => aK.data _ false rfl ((aAO E c0.Agent).1 x1 hx1) <| sn <| sj ?_
 refine ai ⟨rfl, rfl, rfl⟩ (xi (menc ss ss (mins ([] : List (aA × aA)) ([98, 114, 111, 119, 115, 101, 114] : aA) x1.1)) (ai (vV [] ss ss xZ ([98, 114, 111, 119, 115, 101, 114] : aA) x1.1 ([] : List (aA × aA))) ?_))
 refine ai ⟨rfl, rfl, rfl⟩ (xi (menc ss ss (mins (mins ([] : List (aA × aA)) ([98, 114, 111, 119, 115, 101, 114] : aA) x1.1) ([118, 101, 114, 115, 105, 111, 110] : aA) x1.2.1)) (ai (vV [] ss ss xZ ([118, 101, 114, 115, 105, 111, 110] : aA) x1.2.1 (mins ([] : List (aA × aA)) ([98, 114, 111, 119, 115, 101, 114] : aA) x1.1)) ?_))
 refine ai ⟨rfl, rfl, rfl⟩ (xi (menc ss ss (mins (mins (mins ([] : List (aA × aA)) ([98, 114, 111, 119, 115, 101, 114] : aA) x1.1) ([118, 101, 114, 115, 105, 111, 110] : aA) x1.2.1) ([111, 115] : aA) x1.2.2)) (ai (vV [] ss ss xZ ([111, 115] : aA) x1.2.2 (mins (mins ([] : List (aA × aA)) ([98, 114, 111, 119, 115, 101, 114] : aA) x1.1) ([118, 101, 114, 115, 105, 111, 110] : aA) x1.2.1)) ?_))
 refine ai rfl (xi (ss (mget ([] : aA) (mins (mins (mins ([] : List (aA × aA)) ([98, 114, 111, 119, 115, 101, 114] : aA) x1.1) ([118, 101, 114, 115, 105, 111, 110] : aA) x1.2.1) ([111, 115] : aA) x1.2.2) a0)) (xi (mhas (mins (mins (mins ([] : List (aA × aA)) ([98, 114, 111, 119, 115, 101, 114] : aA) x1.1) ([118, 101, 114, 115, 105, 111, 110] : aA) x1.2.1) ([111, 115] : aA) x1.2.2) a0) (ai (aFo [] ss ss xZ ([] : aA) rfl a0 (mins (mins (mins ([] : List (aA × aA)) ([98, 114, 111, 119, 115, 101, 114] : aA) x1.1) ([118, 101, 114, 115, 105, 111, 110] : aA) x1.2.1) ([111, 115] : aA) x1.2.2)) ?_)))
 exact W⟩
instance aBz (E : Pm.Env) [aI E] (a0 : aA) (a1 : Int) : Ok E (kB a0 a1) (fun r => FnR E Tryz.prog 193 [ss a0, AV.int .u8 a1] (ss r) false) := ⟨fun r h => by
 refine FnR.of_ev (T := T) (rows := []) tOk mixed Tryz.func193 rfl (by kernel_rfl) (by kernel_rfl) rfl fun hwf => ?_
 unfold kB at h
 refine sj <| sn <| aD h fun j1 hj1 h => ?_
 refine SeqJ.join (St.of [⟨0, ss j1, none⟩] [] []) ?_ ?_
 ·clear h; have h := hj1; clear hj1
  refine cP.img (fun x : aA => St.of [⟨0, ss x, none⟩, ⟨1, AV.int .u8 a1, none⟩] [] []) (iV a1) a0 h ?_ ?_
  ·exact W
  intro n1 x y1 h hl1 hr1
  revert h; revert x; intro s2 h
  unfold iV at h
  exact W
 ·clear hj1
  exact W⟩
instance aAP (E : Pm.Env) [aI E] (a0 : aA) (a1 : (List Bool)) : Ok E (fA a0 a1) (fun r => FnR E Tryz.prog 194 [ss a0, AV.iptr (a1.map AV.bool)] (ss r) false) := ⟨fun r h => by
 refine FnR.of_ev (T := T) (rows := []) tOk mixed Tryz.func194 rfl (by kernel_rfl) (by kernel_rfl) rfl fun hwf => ?_
 unfold fA at h
 refine sj <| sn <| aD h fun j1 hj1 h => ?_
 refine SeqJ.join (St.of [⟨0, ss j1, none⟩] [] []) ?_ ?_
 ·clear h; have h := hj1; clear hj1
  refine cP.img (fun x : aA => St.of [⟨0, ss x, none⟩, ⟨1, AV.iptr (a1.map AV.bool), none⟩] [] []) (fS a1) a0 h ?_ ?_
  ·exact W
  intro n1 x y1 h hl1 hr1
  revert h; revert x; intro s2 h
  unfold fS at h
  exact W
 ·clear hj1
  exact W⟩
instance aAQ (E : Pm.Env) [aI E] (a0 : Int) : Ok E (jS a0) (fun r => FnR E Tryz.prog 201 [AV.int .u8 a0] (bb r) false) := ⟨fun r h => by
 refine FnR.of_ev (T := T) (rows := []) tOk mixed Tryz.func201 rfl (by kernel_rfl) (by kernel_rfl) rfl fun hwf => ?_
 unfold jS at h
 exact W⟩
instance tZ (E : Pm.Env) [aI E] (a0 : aA) : Ok E (eI a0) (fun r => FnR E Tryz.prog 198 [ss a0] (AV.tup [AV.int .i32 r.1, ii r.2]) false) := ⟨fun r h => by
 refine FnR.of_ev (T := T) (rows := []) tOk mixed Tryz.func198 rfl (by kernel_rfl) (by kernel_rfl) rfl fun hwf => ?_
 unfold eI at h
 refine sj <| sn <| sj <| aF.same <| sn <| sj <| sj <| sn ?_
 refine Br.of h (fun ht h => ?_) fun ht h => ?_
 ·exact W
 ·refine sn <| sj <| sn <| sj <| aD h fun x1 hx1 h => ?_
  refine xi x1 (ai (fun hg => jY hx1) ?_)
  refine sn <| sj <| sj <| sn ?_
  refine Br.of h (fun ht h => ?_) fun ht h => ?_
  ·exact W
  ·refine sn <| sj <| ai rfl <| sn <| aD h fun j2 hj2 h => ?_
   refine SeqJ.join (St.of [⟨0, ss a0, none⟩, ⟨4, ii (a0.length : Int), none⟩, ⟨5, ii j2, none⟩] [] []) ?_ ?_
   ·clear h; have h := hj2; clear hj2
    refine sj <| sn ?_
    refine cP.img (fun x : Int => St.of [⟨0, ss a0, none⟩, ⟨4, ii (a0.length : Int), none⟩, ⟨5, ii x, none⟩, ⟨6, ii (imax (IntKind.i64.wrap ((a0.length : Int) - (4 : Int))) (0 : Int)), none⟩] [] []) (dU a0) (IntKind.i64.wrap ((IntKind.i64.wrap ((a0.length : Int) - (1 : Int))) - (1 : Int))) h ?_ ?_
    ·exact W
    intro n1 x y1 h hl1 hr1
    revert h; revert x; intro s3 h
    unfold dU at h
    exact W
   ·clear hj2
    exact W⟩
instance aAn (E : Pm.Env) [aI E] (a0 : aA) (a1 : aA) : Ok E (iW a0 a1) (fun r => FnR E Tryz.prog 195 [ss a0, ss a1] (ss r) false) := ⟨fun r h => by
 refine FnR.of_ev (T := T) (rows := []) tOk mixed Tryz.func195 rfl (by kernel_rfl) (by kernel_rfl) rfl fun hwf => ?_
 unfold iW at h
 refine sj <| sn <| aD h fun j1 hj1 h => ?_
 refine SeqJ.join (St.of [⟨0, ss j1, none⟩] [] []) ?_ ?_
 ·clear h; have h := hj1; clear hj1
  refine cP.img (fun x : aA => St.of [⟨0, ss x, none⟩, ⟨1, ss a1, none⟩] [] []) (g7 a1) a0 h ?_ ?_
  ·exact W
  intro n1 x y1 h hl1 hr1
  revert h; revert x; intro s2 h
  unfold g7 at h
  exact W
 ·clear hj1
  exact W⟩
instance aIA (E : Pm.Env) [aI E] (a0 : aA) (a1 : aA) : Ok E (pO a0 a1) (fun r => FnR E Tryz.prog 187 [ss a0, ss a1] (ss r) false) := ⟨fun r h => by
 refine FnR.of_ev (T := T) (rows := []) tOk mixed Tryz.func187 rfl (by kernel_rfl) (by kernel_rfl) rfl fun hwf => ?_
 unfold pO at h
 refine sj <| sn <| sj <| sj <| ai id <| ai (fun hg => (hY hg)) <| sn ?_
 refine Br.of h (fun ht h => ?_) fun ht h => ?_
 ·exact W
 ·refine sn <| sj <| sj <| aF.same <| aD h fun x1 hx1 h => ai id ?_
  refine xi x1 (ai (fun hg => pB hx1 hg) ?_)
  refine ai id <| ai (fun hg => (hY hg)) <| sn ?_
  refine Br.of h (fun ht h => ?_) fun ht h => ?_
  ·exact W
  ·refine sn <| sj <| sj <| aD h fun x6 hx6 h => aK.data _ false rfl ((mQ E a1).1 x6 hx6) <| ai rfl <| kU h fun q7 h => ?_
   refine ai ⟨rfl, aCm _ q7, rfl, aFy rfl⟩ (xi (x6.1.map AV.bool) (ai (fun _ => v6 _ _ q7 rfl) ?_))
   refine sn <| sj <| kU h fun hc1 h => ?_
   refine SeqN.via (St.of [⟨0, ss a0, none⟩, ⟨1, ss a1, none⟩, ⟨5, AV.iptr (x6.1.map AV.bool), none⟩, ⟨34, bb x6.2, none⟩] [] []) ?_ ?_
   ·refine Gho.trans (Gho.fz [0] [(5, AV.iptr (x6.1.map AV.bool))] ⟨Frz.ptr0 rfl (wZ _ (fun _ => rfl) _) (by rw [List.length_map]; exact hc1), trivial⟩) ?_
    exact W
   exact W⟩
instance p3 (E : Pm.Env) [aI E] (a0 : aA) : Ok E (nE a0) (fun r => FnR E Tryz.prog 178 [ss a0] (ss r) false) := ⟨fun r h => by
 refine FnR.of_ev (T := T) (rows := []) tOk mixed Tryz.func178 rfl (by kernel_rfl) (by kernel_rfl) rfl fun hwf => ?_
 unfold nE at h
 exact W⟩
instance xP (E : Pm.Env) [aI E] : Ok E l9 (fun r => FnR E Tryz.prog 189 [] (AV.iptr (r.map AV.bool)) false) := ⟨fun r h => by
 refine FnR.of_ev (T := T) (rows := []) tOk mixed Tryz.func189 rfl (by kernel_rfl) (by kernel_rfl) rfl fun hwf => ?_
 unfold l9 at h
 refine sj <| sn <| sj <| ai rfl <| sn <| aD h fun j1 hj1 h => ?_
 refine SeqJ.join (St.of [⟨1, AV.ptr 0 0, none⟩] [.cells 183 (j1.map AV.bool) []] []) ?_ ?_
 ·clear h; have h := hj1; clear hj1
  refine sj <| sn ?_
  refine cP.img (fun x : (Int × (List Bool)) => St.of [⟨1, AV.ptr 0 0, none⟩, ⟨3, ii x.1, none⟩] [.cells 183 (x.2.map AV.bool) []] []) lQ ((0 : Int), (List.replicate 256 false)) h ?_ ?_
  ·exact W
  intro n1 x y1 h hl1 hr1
  obtain ⟨s2, s3⟩ := x
  unfold lQ at h
  dsimp only at h
  exact W
 ·clear hj1
  refine sj <| sn <| kU h fun hc1 h => ?_
  replace h := oi h
  refine RetE.frz ?_
  exact xi (AV.iptr (j1.map AV.bool)) (ai (Frz.ptr0 rfl (wZ _ (fun _ => rfl) _) (by rw [List.length_map]; exact hc1)) (ai (congrArg (fun r : (List Bool) => AV.iptr (r.map AV.bool)) h) rfl))⟩
theorem aDV (E : Pm.Env) [aI E] (a0 : aA) (a1 : (List Bool)) (a2 : FuncId) (a2c : List AV) (a2i : (List Bool) -> Int -> Option Bool) (a2h : ∀ (x0 : (List Bool)) (x1 : Int) (r : Bool), a2i x0 x1 = some r -> FnR E Tryz.prog a2 ([AV.iptr (x0.map AV.bool), AV.int .u8 x1] ++ a2c) (bb r) false) (a2p : a2c.all AV.puB = true) (r : Bool) (h : sE a0 a1 a2i = some r) : FnR E Tryz.prog 188 [ss a0, AV.iptr (a1.map AV.bool), AV.fn a2 [] a2c] (bb r) false := by
 refine FnR.of_ev (T := T) (rows := []) tOk mixed Tryz.func188 rfl (by kernel_rfl) (by kernel_rfl) rfl fun hwf => ?_
 unfold sE at h
 refine sj <| sn <| sj <| sj <| aF.same <| sn ?_
 refine cP.img (fun x : Int => St.of [⟨0, ss a0, none⟩, ⟨1, AV.iptr (a1.map AV.bool), none⟩, ⟨2, AV.fn a2 [] a2c, none⟩, ⟨9, ii (a0.length : Int), none⟩, ⟨10, ii x, none⟩] [] []) (lX a0 a1 a2i) (0 : Int) h ?_ ?_
 ·refine Gho.to _ _ _ [] ?_ ?_ ?_ rfl rfl ?_
  ·exact trivial
  ·exact rfl
  ·exact rfl
  ·exact ⟨rfl, rfl, trivial, rfl, rfl, trivial, rfl, (sT a2p _), trivial, rfl, rfl, trivial, rfl, rfl, trivial, trivial⟩
 intro n1 x y1 h hl1 hr1
 revert h; revert x; intro s1 h
 unfold lX at h
 refine sj <| sn <| sj ?_
 refine Br.of h (fun ht h => ?_) fun ht h => ?_
 ·refine sn <| sj <| sj <| sn <| sj <| aD h fun x2 hx2 h => ?_
  refine xi x2 (ai (fun hg => jY hx2) ?_)
  refine aD h fun x3 hx3 h => aK.data _ false (wY rfl (aBl a2p)) (a2h a1 (x2.toNat : Int) x3 hx3) <| sn ?_
  refine Br.of h (fun ht h => ?_) fun ht h => ?_
  ·exact W
  ·refine sn ?_
   replace h := oi h
   refine xi ⟨(n1, (IntKind.i64.wrap (s1 + (1 : Int)))), hl1 _ h.symm⟩ (ai (aPL _) ?_)
   refine Gho.to _ _ _ [] ?_ ?_ ?_ rfl rfl ?_
   ·exact W
   ·exact rfl
   ·exact rfl
   ·exact ⟨rfl, rfl, trivial, rfl, rfl, trivial, rfl, (sT a2p _), trivial, rfl, rfl, trivial, rfl, rfl, trivial, trivial⟩
 ·exact W
instance aAo (E : Pm.Env) [aI E] (a0 : (List Bool)) (a1 : Int) : Ok E (iZ a0 a1) (fun r => FnR E Tryz.prog 190 [AV.iptr (a0.map AV.bool), AV.int .u8 a1] (bb r) false) := ⟨fun r h => by
 refine FnR.of_ev (T := T) (rows := []) tOk mixed Tryz.func190 rfl (by kernel_rfl) (by kernel_rfl) rfl fun hwf => ?_
 unfold iZ at h
 exact W⟩
instance aAp (E : Pm.Env) [aI E] (a0 : aA) : Ok E (nF a0) (fun r => FnR E Tryz.prog 179 [ss a0] (AV.tup [ss r.1, ii r.2]) false) := ⟨fun r h => by
 refine FnR.of_ev (T := T) (rows := []) tOk mixed Tryz.func179 rfl (by kernel_rfl) (by kernel_rfl) rfl fun hwf => ?_
 unfold nF at h
 refine sj <| sn <| sj <| aF.same <| sn <| sj <| sj <| aD h fun x1 hx1 h => ai id ?_
 refine xi x1 (ai (fun hg => pB hx1 hg) ?_)
 refine ai id <| ai (fun hg => (hY hg)) <| ai id <| aD h fun x2 hx2 h => ai id <| ai id ?_
 refine xi x2 (ai (fun hg => pB hx2 hg) ?_)
 refine ai id <| ai (fun hg => (hY hg)) <| aD h fun x3 hx3 h => ai rfl ?_
 refine o7.mk _ false (fun hg => (xP E).1  x3 (dX hx3 hg)) (ai rfl ?_)
 refine aD h fun x4 hx4 h => ai id <| ai id <| ai rfl ?_
 refine o7.mk _ false (fun hg => aDV E a0 x3 190 [] (fun x0 x1 => iZ x0 x1) (fun x0 x1 r h => (aAo E x0 x1).1 r h) rfl x4 (dX hx4 hg)) (ai rfl ?_)
 refine ai (fun hg => (hY hg)) <| sn ?_
 refine Br.of h (fun ht h => ?_) fun ht h => ?_
 ·exact W
 ·refine sn <| sj <| sn <| sj <| sj <| sn ?_
  refine cP.img (fun x : ((List UInt8) × Int) => St.of [⟨0, ss a0, none⟩, ⟨4, ii (a0.length : Int), none⟩, ⟨5, AV.list 1 (x.1.map dY), some 0⟩, ⟨6, ii x.2, none⟩] [] [1]) (fY a0) (([] : List UInt8), (1 : Int)) h ?_ ?_
  ·exact W
  intro n1 x y1 h hl1 hr1
  obtain ⟨s5, s6⟩ := x
  unfold fY at h
  dsimp only at h
  exact W⟩
theorem wC (E : Pm.Env) [aI E] (a0 : aA) (oc0 : (List aE)) (r : Unit) (oc0' : (List aE)) (h : mA a0 oc0 = some (r, oc0')) : FnW E Tryz.prog 177 [ss a0, AV.ptr 0 0] [.cells 113 [AV.list 2 (oc0.map aE.av)] [(0, 0)]] [1] (AV.tup []) none [.cells 113 [AV.list 2 (oc0'.map aE.av)] [(0, 1)]] [0, 1] := by
 refine FnW.of_evB (T := T) (rows := []) tOk mixed Tryz.func177 rfl (by kernel_rfl) (by kernel_rfl) rfl rfl fun hwf => ?_
 unfold mA at h
 refine sj <| aD h fun x1 hx1 h => aK.data _ false rfl ((p3 E a0).1 x1 hx1) <| aD h fun x2 hx2 h => aK.data _ false rfl ((lN E x1 ([61] : aA)).1 x2 hx2) <| sn <| sj <| aD h fun x3 hx3 h => aK.data _ false rfl ((p3 E x2.1).1 x3 hx3) <| aD h fun x4 hx4 h => aK.data _ false rfl ((p3 E x2.2.1).1 x4 hx4) <| sn <| sj <| sj <| ai id <| ai (fun hg => (hY hg)) <| sn ?_
 refine Br.of h (fun ht h => ?_) fun ht h => ?_
 ·replace h := oi h
  have h0 := (Prod.mk.inj h).1
  have h1 := (Prod.mk.inj h).2
  subst h0
  subst h1
  refine xi [] (xi [.cells 113 [AV.list 2 (oc0.map aE.av)] [(0, 1)]] (ai rfl (ai (Gho.to _ _ _ [0, 0] ?_ ?_ ?_ rfl rfl ?_) (ai ?_ rfl))))
  ·exact ⟨⟨rfl, rfl, rfl⟩, trivial⟩
  ·exact rfl
  ·exact rfl
  ·exact trivial
  ·exact rfl
 ·refine sn <| sj <| sj <| aD h fun x5 hx5 h => aK.data _ false rfl ((aAp E x4).1 x5 hx5) <| sn <| sj <| sn ?_
  refine Br.of h (fun ht h => ?_) fun ht h => ?_
  ·refine sn <| ai ⟨rfl, rfl, lb rfl⟩ <| ai ⟨rfl, rfl, lb rfl⟩ ?_
   refine xi none (ai trivial ?_)
   refine ai ⟨rfl, rfl, rfl, rfl⟩ <| ai ⟨rfl, rfl, rfl⟩ <| aF.to (AV.list 2 (([(aE.mk x3 x5.1)] : List aE).map aE.av)) (fun _ => rfl) <| aD h fun x6 hx6 h => ?_
   have qx6 := (dE hx6).1
   have hx6e := (dE hx6).2
   refine ai ⟨rfl, rfl, rfl⟩ <| ai rfl <| ai (jZ aE.av qx6) <| aF.to (AV.list 2 (x6.map aE.av)) (fun _ => (j3 2 aE.av _ _).trans (congrArg (fun y => AV.list 2 (List.map aE.av y)) hx6e.symm)) ?_
   refine ai ⟨rfl, rfl, rfl, lb rfl⟩ (xi [AV.list 2 (x6.map aE.av)] (ai (fun _ => rfl) ?_))
   replace h := oi h
   have h0 := (Prod.mk.inj h).1
   have h1 := (Prod.mk.inj h).2
   subst h0
   subst h1
   refine xi [] (xi [.cells 113 [AV.list 2 (x6.map aE.av)] [(0, 1)]] (ai rfl (ai (Gho.to _ _ _ [0, 2] ?_ ?_ ?_ rfl rfl ?_) (ai ?_ rfl))))
   ·exact ⟨⟨rfl, rfl, rfl⟩, trivial⟩
   ·exact rfl
   ·exact rfl
   ·exact trivial
   ·exact rfl
  ·refine sn <| ai ⟨rfl, rfl, lb rfl⟩ <| ai ⟨rfl, rfl, lb rfl⟩ ?_
   refine xi none (ai trivial ?_)
   refine ai ⟨rfl, rfl, rfl, rfl⟩ <| ai ⟨rfl, rfl, rfl⟩ <| aF.to (AV.list 2 (([(aE.mk x3 x4)] : List aE).map aE.av)) (fun _ => rfl) <| aD h fun x7 hx7 h => ?_
   have qx7 := (dE hx7).1
   have hx7e := (dE hx7).2
   refine ai ⟨rfl, rfl, rfl⟩ <| ai rfl <| ai (jZ aE.av qx7) <| aF.to (AV.list 2 (x7.map aE.av)) (fun _ => (j3 2 aE.av _ _).trans (congrArg (fun y => AV.list 2 (List.map aE.av y)) hx7e.symm)) ?_
   refine ai ⟨rfl, rfl, rfl, lb rfl⟩ (xi [AV.list 2 (x7.map aE.av)] (ai (fun _ => rfl) ?_))
   replace h := oi h
   have h0 := (Prod.mk.inj h).1
   have h1 := (Prod.mk.inj h).2
   subst h0
   subst h1
   refine xi [] (xi [.cells 113 [AV.list 2 (x7.map aE.av)] [(0, 1)]] (ai rfl (ai (Gho.to _ _ _ [0, 2] ?_ ?_ ?_ rfl rfl ?_) (ai ?_ rfl))))
   ·exact ⟨⟨rfl, rfl, rfl⟩, trivial⟩
   ·exact rfl
   ·exact rfl
   ·exact trivial
   ·exact rfl
theorem nV (E : Pm.Env) [aI E] (a0 : aA) (a1 : aA) (oa20 : (List aE)) (r : Unit) (oa20' : (List aE)) (h : eQ a0 a1 oa20 = some (r, oa20')) : FnW E Tryz.prog 176 [ss a0, ss a1, AV.fn 177 [] [AV.ptr 0 0]] [.cells 113 [AV.list 2 (oa20.map aE.av)] [(0, 0)]] [1] (AV.tup []) none [.cells 113 [AV.list 2 (oa20'.map aE.av)] [(0, 1)]] [0, 1] := by
 refine FnW.of_evB (T := T) (rows := []) tOk mixed Tryz.func176 rfl (by kernel_rfl) (by kernel_rfl) rfl rfl fun hwf => ?_
 unfold eQ at h
 refine sj <| aD h fun x1 hx1 h => aK.data _ false rfl (lP E a0 a1 x1 hx1) <| aF.to (ii (x1.length : Int)) (fun _ => bB ss x1) <| sn ?_
 refine cP.img (fun x : (Int × (List aE)) => St.of [⟨2, AV.fn 177 [] [AV.ptr 0 0], none⟩, ⟨10, AV.list 1 (x1.map AV.str), none⟩, ⟨11, ii (x1.length : Int), none⟩, ⟨12, ii x.1, none⟩] [.cells 113 [AV.list 2 (x.2.map aE.av)] [(0, 1)]] [0, 1]) (cD x1) ((0 : Int), oa20) h ?_ ?_
 ·refine Gho.to _ _ _ [0, 0] ?_ ?_ ?_ rfl rfl ?_
  ·exact ⟨⟨rfl, rfl, rfl⟩, trivial⟩
  ·exact rfl
  ·exact rfl
  ·exact tr3 <| tr3 <| tr3 <| tr3 <| trivial
 intro n1 x y1 h hl1 hr1
 obtain ⟨s2, s3⟩ := x
 unfold cD at h
 dsimp only at h
 refine sj <| sn <| sj ?_
 refine Br.of h (fun ht h => ?_) fun ht h => ?_
 ·refine sn <| sj <| sj <| aD h fun x4 hx4 h => ?_
  refine ai rfl (xi (ss x4) (ai (fun hg => cY _ hx4) ?_))
  refine sn <| sj <| sn ?_
  refine Br.of h (fun ht h => ?_) fun ht h => ?_
  ·refine aD h fun x5 hx5 h => aK.ren [0] [1] [.cells 113 [AV.list 2 (x5.2.map aE.av)] [(0, 2)]] [0, 0, 1] (wC E x4 s3 x5.1 x5.2 hx5) rfl rfl rfl rfl rfl rfl rfl rfl rfl <| sn ?_
   replace h := oi h
   refine xi ⟨(n1, ((IntKind.i64.wrap (s2 + (1 : Int))), x5.2)), hl1 _ h.symm⟩ (ai (aPL _) ?_)
   refine Gho.to _ _ _ [0, 2] ?_ ?_ ?_ rfl rfl ?_
   ·exact ⟨⟨rfl, rfl, rfl⟩, trivial⟩
   ·exact rfl
   ·exact rfl
   ·exact tr3 <| tr3 <| tr3 <| tr3 <| trivial
  ·refine sn ?_
   replace h := oi h
   refine xi ⟨(n1, ((IntKind.i64.wrap (s2 + (1 : Int))), s3)), hl1 _ h.symm⟩ (ai (aPL _) ?_)
   refine Gho.to _ _ _ [0, 1] ?_ ?_ ?_ rfl rfl ?_
   ·exact ⟨⟨rfl, rfl, rfl⟩, trivial⟩
   ·exact rfl
   ·exact rfl
   ·exact tr3 <| tr3 <| tr3 <| tr3 <| trivial
 ·replace h := oi h
  replace h := hr1 _ h.symm
  have h0 := (Prod.mk.inj h).1
  have h1 := (Prod.mk.inj h).2
  subst h0
  subst h1
  refine xi [] (xi [.cells 113 [AV.list 2 (s3.map aE.av)] [(0, 1)]] (ai rfl (ai (Gho.to _ _ _ [0, 1] ?_ ?_ ?_ rfl rfl ?_) (ai ?_ rfl))))
  ·exact ⟨⟨rfl, rfl, rfl⟩, trivial⟩
  ·exact rfl
  ·exact rfl
  ·exact trivial
  ·exact rfl
instance aGE (E : Pm.Env) [aI E] (a0 : aA) : Ok E (iJ a0) (fun r => FnR E Tryz.prog 157 [ss a0] (AV.list 2 (r.map aE.av)) true) := ⟨fun r h => by
 refine FnR.of_ev (T := T) (rows := []) tOk mixed Tryz.func157 rfl (by kernel_rfl) (by kernel_rfl) rfl fun hwf => ?_
 unfold iJ at h
 refine sj <| sn <| sj <| ai rfl ?_
 refine SeqN.via (St.of [⟨0, ss a0, none⟩, ⟨3, AV.ptr 0 0, none⟩] [.cells 113 [AV.list 2 (([] : List aE).map aE.av)] [(0, 0)]] [1]) ?_ ?_
 ·refine Gho.to _ _ _ [1] ?_ ?_ ?_ rfl rfl ?_
  ·exact W
  ·exact rfl
  ·exact rfl
  ·exact tr3 <| tr3 <| trivial
 refine sj <| aD h fun x1 hx1 h => aK.ren [0] [0] [.cells 113 [AV.list 2 (x1.2.map aE.av)] [(0, 1)]] [0, 1] (nV E a0 ([59] : aA) ([] : List aE) x1.1 x1.2 hx1) rfl rfl rfl rfl rfl rfl rfl rfl rfl <| sn <| sj <| sn ?_
 exact W⟩
theorem kV (E : Pm.Env) [aI E] (a0 : (List aE)) (a1 : FuncId) (a1c : List AV) (a1i : aE -> Option Bool) (a1h : ∀ (x0 : aE) (r : Bool), a1i x0 = some r -> FnR E Tryz.prog a1 ([aE.av x0] ++ a1c) (bb r) false) (a1p : a1c.all AV.puB = true) (r : Int) (h : cV a0 a1i = some r) : FnR E Tryz.prog 174 [AV.list 2 (a0.map aE.av), AV.fn a1 [] a1c] (ii r) false := by
 refine FnR.of_ev (T := T) (rows := []) tOk mixed Tryz.func174 rfl (by kernel_rfl) (by kernel_rfl) rfl fun hwf => ?_
 unfold cV at h
 refine sj <| sn <| sj <| sj <| aF.to (ii (a0.length : Int)) (fun _ => bB aE.av a0) <| sn ?_
 refine cP.img (fun x : Int => St.of [⟨0, AV.list 2 (a0.map aE.av), none⟩, ⟨1, AV.fn a1 [] a1c, none⟩, ⟨7, ii (a0.length : Int), none⟩, ⟨8, ii x, none⟩] [] []) (aN a0 a1i) (0 : Int) h ?_ ?_
 ·refine Gho.to _ _ _ [] ?_ ?_ ?_ rfl rfl ?_
  ·exact trivial
  ·exact rfl
  ·exact rfl
  ·exact ⟨rfl, rfl, trivial, rfl, (sT a1p _), trivial, rfl, rfl, trivial, rfl, rfl, trivial, trivial⟩
 intro n1 x y1 h hl1 hr1
 revert h; revert x; intro s1 h
 unfold aN at h
 refine sj <| sn <| sj ?_
 refine Br.of h (fun ht h => ?_) fun ht h => ?_
 ·refine sn <| sj <| sj <| sn <| sj <| aD h fun x2 hx2 h => ?_
  refine ai rfl (xi (aE.av x2) (ai (fun hg => cY _ hx2) ?_))
  refine ai (lb rfl) <| aF.to (aE.av x2) (fun _ => rfl) <| aD h fun x3 hx3 h => aK.data _ false (wY rfl (aBl a1p)) (a1h x2 x3 hx3) <| sn ?_
  refine Br.of h (fun ht h => ?_) fun ht h => ?_
  ·exact W
  ·refine sn ?_
   replace h := oi h
   refine xi ⟨(n1, (IntKind.i64.wrap (s1 + (1 : Int)))), hl1 _ h.symm⟩ (ai (aPL _) ?_)
   refine Gho.to _ _ _ [] ?_ ?_ ?_ rfl rfl ?_
   ·exact W
   ·exact rfl
   ·exact rfl
   ·exact ⟨rfl, rfl, trivial, rfl, (sT a1p _), trivial, rfl, rfl, trivial, rfl, rfl, trivial, trivial⟩
 ·exact W
instance aAq (E : Pm.Env) [aI E] (a0 : aE) (c0 : aA) : Ok E (iK a0 c0) (fun r => FnR E Tryz.prog 175 [aE.av a0, AV.iptr [ss c0]] (bb r) false) := ⟨fun r h => by
 refine FnR.of_ev (T := T) (rows := []) tOk mixed Tryz.func175 rfl (by kernel_rfl) (by kernel_rfl) rfl fun hwf => ?_
 unfold iK at h
 exact W⟩
instance aJA (E : Pm.Env) [aI E] (a0 : (List aE)) (a1 : aA) : Ok E (oH a0 a1) (fun r => FnR E Tryz.prog 156 [AV.list 2 (a0.map aE.av), ss a1] (AV.tup [ss r.1, bb r.2]) false) := ⟨fun r h => by
 refine FnR.of_ev (T := T) (rows := []) tOk mixed Tryz.func156 rfl (by kernel_rfl) (by kernel_rfl) rfl fun hwf => ?_
 unfold oH at h
 refine sj <| ai rfl ?_
 refine SeqN.via (St.of [⟨0, AV.list 2 (a0.map aE.av), none⟩, ⟨3, AV.iptr [ss a1], none⟩] [] []) ?_ ?_
 ·refine Gho.trans (Gho.fz [0] [(3, AV.iptr [ss a1])] ⟨Frz.ptrD rfl rfl (lb rfl), trivial⟩) ?_
  exact W
 refine sj <| sj <| aD h fun x1 hx1 h => aK.data _ false rfl (kV E a0 175 [AV.iptr [ss a1]] (fun x0 => iK x0 a1) (fun x0 r h => (aAq E x0 a1).1 r h) rfl x1 hx1) <| sn <| sj <| sn ?_
 refine Br.of h (fun ht h => ?_) fun ht h => ?_
 ·exact W
 ·exact W⟩
instance aAr (E : Pm.Env) [aI E] (a0 : aA) (c0 : aL) : Ok E (nG a0 c0) (fun r => FnR E Tryz.prog 155 [ss a0, AV.iptr (aL.cells c0)] (AV.tup [ss r.1, bb r.2]) false) := ⟨fun r h => by
 refine FnR.of_ev (T := T) (rows := []) tOk mixed Tryz.func155 rfl (by kernel_rfl) (by kernel_rfl) rfl fun hwf => ?_
 unfold nG at h
 exact W⟩
instance aCB (E : Pm.Env) [aI E] (a0 : aA) : Ok E (m0 a0) (fun r => FnR E Tryz.prog 162 [ss a0] (ss r) false) := ⟨fun r h => by
 refine FnR.of_ev (T := T) (rows := [7]) tOk mixed Tryz.func162 rfl (by kernel_rfl) (by kernel_rfl) rfl fun hwf => ?_
 unfold m0 at h
 refine sj <| sn <| sj <| ai ⟨rfl, rfl⟩ <| sn <| aD h fun j1 hj1 h => ?_
 refine SeqJ.join (St.of [⟨3, AV.row 0 0 a0.length, none⟩] [.cells 5 (j1.map dY) []] []) ?_ ?_
 ·clear h; have h := hj1; clear hj1
  refine sj <| aF.same <| sn ?_
  refine cP.img (fun x : (Int × (List UInt8)) => St.of [⟨3, AV.row 0 0 a0.length, none⟩, ⟨8, AV.row 0 0 a0.length, none⟩, ⟨9, ii ((a0.length : Nat) : Int), none⟩, ⟨10, ii x.1, none⟩] [.cells 5 (x.2.map dY) []] []) (jC a0) ((0 : Int), a0) h ?_ ?_
  ·exact W
  intro n1 x y1 h hl1 hr1
  obtain ⟨s2, s3⟩ := x
  unfold jC at h
  dsimp only at h
  exact W
 ·clear hj1
  refine sj <| kU h fun q8 h => ?_
  refine ai rfl (xi (j1.take a0.length) (ai (aJn q8) ?_))
  exact W⟩
instance aJV (E : Pm.Env) [aI E] (a0 : Int) : Ok E (nH a0) (fun r => FnR E Tryz.prog 191 [AV.int .u8 a0] (ii r) false) := ⟨fun r h => by
 refine FnR.of_ev (T := T) (rows := []) tOk mixed Tryz.func191 rfl (by kernel_rfl) (by kernel_rfl) rfl fun hwf => ?_
 unfold nH at h
 exact W⟩
instance uN (E : Pm.Env) [aI E] (a0 : aA) : Ok E (m5 a0) (fun r => FnR E Tryz.prog 181 [ss a0] (ss r) false) := ⟨fun r h => by
 refine FnR.of_ev (T := T) (rows := []) tOk mixed Tryz.func181 rfl (by kernel_rfl) (by kernel_rfl) rfl fun hwf => ?_
 unfold m5 at h
 refine sj <| sn <| sj <| sn <| aD h fun j1 hj1 h => ?_
 refine SeqJ.join (St.of [⟨3, AV.list 1 (j1.map dY), some 0⟩] [] [1]) ?_ ?_
 ·clear h; have h := hj1; clear hj1
  refine sj <| sn ?_
  refine cP.img (fun x : ((List UInt8) × Int) => St.of [⟨0, ss a0, none⟩, ⟨3, AV.list 1 (x.1.map dY), some 0⟩, ⟨4, ii x.2, none⟩] [] [1]) (iR a0) (([] : List UInt8), (0 : Int)) h ?_ ?_
  ·exact W
  intro n1 x y1 h hl1 hr1
  obtain ⟨s2, s3⟩ := x
  unfold iR at h
  dsimp only at h
  exact W
 ·clear hj1
  exact W⟩
theorem xQ (E : Pm.Env) [aI E] (a0 : aA) (oc0 : (List aE)) (r : Unit) (oc0' : (List aE)) (h : oC a0 oc0 = some (r, oc0')) : FnW E Tryz.prog 180 [ss a0, AV.ptr 0 0] [.cells 113 [AV.list 2 (oc0.map aE.av)] [(0, 0)]] [1] (AV.tup []) none [.cells 113 [AV.list 2 (oc0'.map aE.av)] [(0, 1)]] [0, 1] := by
 refine FnW.of_evB (T := T) (rows := []) tOk mixed Tryz.func180 rfl (by kernel_rfl) (by kernel_rfl) rfl rfl fun hwf => ?_
 unfold oC at h
 refine sj <| aD h fun x1 hx1 h => aK.data _ false rfl ((lN E a0 ([61] : aA)).1 x1 hx1) <| sn <| Or.inl <| aD h fun x2 hx2 h => aK.data _ false rfl ((uN E x1.1).1 x2 hx2) <| aD h fun x3 hx3 h => aK.data _ false rfl ((uN E x1.2.1).1 x3 hx3) <| ai ⟨rfl, rfl, lb rfl⟩ <| ai ⟨rfl, rfl, lb rfl⟩ ?_
 refine xi none (ai trivial ?_)
 refine ai ⟨rfl, rfl, rfl, rfl⟩ <| ai ⟨rfl, rfl, rfl⟩ <| aF.to (AV.list 2 (([(aE.mk x2 x3)] : List aE).map aE.av)) (fun _ => rfl) <| aD h fun x4 hx4 h => ?_
 have qx4 := (dE hx4).1
 have hx4e := (dE hx4).2
 refine ai ⟨rfl, rfl, rfl⟩ <| ai rfl <| ai (jZ aE.av qx4) <| aF.to (AV.list 2 (x4.map aE.av)) (fun _ => (j3 2 aE.av _ _).trans (congrArg (fun y => AV.list 2 (List.map aE.av y)) hx4e.symm)) ?_
 refine ai ⟨rfl, rfl, rfl, lb rfl⟩ (xi [AV.list 2 (x4.map aE.av)] (ai (fun _ => rfl) ?_))
 refine ai (by kernel_rfl) ?_
 replace h := oi h
 have h0 := (Prod.mk.inj h).1
 have h1 := (Prod.mk.inj h).2
 subst h0
 subst h1
 refine xi [] (xi [.cells 113 [AV.list 2 (x4.map aE.av)] [(0, 1)]] (ai rfl (ai (Gho.to _ _ _ [0, 2] ?_ ?_ ?_ rfl rfl ?_) (ai ?_ rfl))))
 ·exact ⟨⟨rfl, rfl, rfl⟩, trivial⟩
 ·exact rfl
 ·exact rfl
 ·exact trivial
 ·exact rfl
theorem oG (E : Pm.Env) [aI E] (a0 : aA) (a1 : aA) (oa20 : (List aE)) (r : Unit) (oa20' : (List aE)) (h : fT a0 a1 oa20 = some (r, oa20')) : FnW E Tryz.prog 176 [ss a0, ss a1, AV.fn 180 [] [AV.ptr 0 0]] [.cells 113 [AV.list 2 (oa20.map aE.av)] [(0, 0)]] [1] (AV.tup []) none [.cells 113 [AV.list 2 (oa20'.map aE.av)] [(0, 1)]] [0, 1] := by
 refine FnW.of_evB (T := T) (rows := []) tOk mixed Tryz.func176 rfl (by kernel_rfl) (by kernel_rfl) rfl rfl fun hwf => ?_
 unfold fT at h
 refine sj <| aD h fun x1 hx1 h => aK.data _ false rfl (lP E a0 a1 x1 hx1) <| aF.to (ii (x1.length : Int)) (fun _ => bB ss x1) <| sn ?_
 refine cP.img (fun x : (Int × (List aE)) => St.of [⟨2, AV.fn 180 [] [AV.ptr 0 0], none⟩, ⟨10, AV.list 1 (x1.map AV.str), none⟩, ⟨11, ii (x1.length : Int), none⟩, ⟨12, ii x.1, none⟩] [.cells 113 [AV.list 2 (x.2.map aE.av)] [(0, 1)]] [0, 1]) (cI x1) ((0 : Int), oa20) h ?_ ?_
 ·refine Gho.to _ _ _ [0, 0] ?_ ?_ ?_ rfl rfl ?_
  ·exact ⟨⟨rfl, rfl, rfl⟩, trivial⟩
  ·exact rfl
  ·exact rfl
  ·exact tr3 <| tr3 <| tr3 <| tr3 <| trivial
 intro n1 x y1 h hl1 hr1
 obtain ⟨s2, s3⟩ := x
 unfold cI at h
 dsimp only at h
 refine sj <| sn <| sj ?_
 refine Br.of h (fun ht h => ?_) fun ht h => ?_
 ·refine sn <| sj <| sj <| aD h fun x4 hx4 h => ?_
  refine ai rfl (xi (ss x4) (ai (fun hg => cY _ hx4) ?_))
  refine sn <| sj <| sn ?_
  refine Br.of h (fun ht h => ?_) fun ht h => ?_
  ·refine aD h fun x5 hx5 h => aK.ren [0] [1] [.cells 113 [AV.list 2 (x5.2.map aE.av)] [(0, 2)]] [0, 0, 1] (xQ E x4 s3 x5.1 x5.2 hx5) rfl rfl rfl rfl rfl rfl rfl rfl rfl <| sn ?_
   replace h := oi h
   refine xi ⟨(n1, ((IntKind.i64.wrap (s2 + (1 : Int))), x5.2)), hl1 _ h.symm⟩ (ai (aPL _) ?_)
   refine Gho.to _ _ _ [0, 2] ?_ ?_ ?_ rfl rfl ?_
   ·exact ⟨⟨rfl, rfl, rfl⟩, trivial⟩
   ·exact rfl
   ·exact rfl
   ·exact tr3 <| tr3 <| tr3 <| tr3 <| trivial
  ·refine sn ?_
   replace h := oi h
   refine xi ⟨(n1, ((IntKind.i64.wrap (s2 + (1 : Int))), s3)), hl1 _ h.symm⟩ (ai (aPL _) ?_)
   refine Gho.to _ _ _ [0, 1] ?_ ?_ ?_ rfl rfl ?_
   ·exact ⟨⟨rfl, rfl, rfl⟩, trivial⟩
   ·exact rfl
   ·exact rfl
   ·exact tr3 <| tr3 <| tr3 <| tr3 <| trivial
 ·replace h := oi h
  replace h := hr1 _ h.symm
  have h0 := (Prod.mk.inj h).1
  have h1 := (Prod.mk.inj h).2
  subst h0
  subst h1
  refine xi [] (xi [.cells 113 [AV.list 2 (s3.map aE.av)] [(0, 1)]] (ai rfl (ai (Gho.to _ _ _ [0, 1] ?_ ?_ ?_ rfl rfl ?_) (ai ?_ rfl))))
  ·exact ⟨⟨rfl, rfl, rfl⟩, trivial⟩
  ·exact rfl
  ·exact rfl
  ·exact trivial
  ·exact rfl
instance aIC (E : Pm.Env) [aI E] (a0 : aA) : Ok E (kC a0) (fun r => FnR E Tryz.prog 159 [ss a0] (AV.list 2 (r.map aE.av)) true) := ⟨fun r h => by
 refine FnR.of_ev (T := T) (rows := []) tOk mixed Tryz.func159 rfl (by kernel_rfl) (by kernel_rfl) rfl fun hwf => ?_
 unfold kC at h
 refine sj <| sn <| sj <| ai rfl ?_
 refine SeqN.via (St.of [⟨0, ss a0, none⟩, ⟨3, AV.ptr 0 0, none⟩] [.cells 113 [AV.list 2 (([] : List aE).map aE.av)] [(0, 0)]] [1]) ?_ ?_
 ·refine Gho.to _ _ _ [1] ?_ ?_ ?_ rfl rfl ?_
  ·exact W
  ·exact rfl
  ·exact rfl
  ·exact tr3 <| tr3 <| trivial
 refine sj <| aD h fun x1 hx1 h => aK.ren [0] [0] [.cells 113 [AV.list 2 (x1.2.map aE.av)] [(0, 1)]] [0, 1] (oG E a0 ([38] : aA) ([] : List aE) x1.1 x1.2 hx1) rfl rfl rfl rfl rfl rfl rfl rfl rfl <| sn <| sj <| sn ?_
 exact W⟩
instance aAs (E : Pm.Env) [aI E] (a0 : aA) (c0 : aL) : Ok E (nI a0 c0) (fun r => FnR E Tryz.prog 158 [ss a0, AV.iptr (aL.cells c0)] (AV.tup [ss r.1, bb r.2]) false) := ⟨fun r h => by
 refine FnR.of_ev (T := T) (rows := []) tOk mixed Tryz.func158 rfl (by kernel_rfl) (by kernel_rfl) rfl fun hwf => ?_
 unfold nI at h
 exact W⟩
instance xJ (E : Pm.Env) [aI E] (a0 : (List aA)) (a1 : aA) : Ok E (eR a0 a1) (fun r => FnR E Tryz.prog 97 [AV.list 1 (a0.map AV.str), ss a1] (ii r) false) := ⟨fun r h => by
 refine FnR.of_ev (T := T) (rows := []) tOk mixed Tryz.func97 rfl (by kernel_rfl) (by kernel_rfl) rfl fun hwf => ?_
 unfold eR at h
 refine sj <| sn <| sj <| sj <| aF.to (ii (a0.length : Int)) (fun _ => bB ss a0) <| sn ?_
 refine cP.img (fun x : Int => St.of [⟨0, AV.list 1 (a0.map AV.str), none⟩, ⟨1, ss a1, none⟩, ⟨7, ii (a0.length : Int), none⟩, ⟨8, ii x, none⟩] [] []) (a7 a0 a1) (0 : Int) h ?_ ?_
 ·exact W
 intro n1 x y1 h hl1 hr1
 revert h; revert x; intro s1 h
 unfold a7 at h
 exact W⟩
instance iP (E : Pm.Env) [aI E] (a0 : (List aA)) (a1 : aA) : Ok E (bC a0 a1) (fun r => FnR E Tryz.prog 73 [AV.list 1 (a0.map AV.str), ss a1] (bb r) false) := ⟨fun r h => by
 refine FnR.of_ev (T := T) (rows := []) tOk mixed Tryz.func73 rfl (by kernel_rfl) (by kernel_rfl) rfl fun hwf => ?_
 unfold bC at h
 exact W⟩
theorem uF (E : Pm.Env) [aI E] (a0 : aA) (oc0 : (List aA)) (r : Unit) (oc0' : (List aA)) (h : kL a0 oc0 = some (r, oc0')) : FnW E Tryz.prog 182 [ss a0, AV.ptr 0 0] [.cells 45 [AV.list 1 (oc0.map AV.str)] [(0, 0)]] [1] (AV.tup []) none [.cells 45 [AV.list 1 (oc0'.map AV.str)] [(0, 1)]] [0, 1] := by
 refine FnW.of_evB (T := T) (rows := []) tOk mixed Tryz.func182 rfl (by kernel_rfl) (by kernel_rfl) rfl rfl fun hwf => ?_
 unfold kL at h
 refine sj <| aD h fun x1 hx1 h => aK.data _ false rfl ((lN E a0 ([59] : aA)).1 x1 hx1) <| sn <| sj <| aD h fun x2 hx2 h => aK.data _ false rfl ((p3 E x1.1).1 x2 hx2) <| aD h fun x3 hx3 h => aK.data _ false rfl ((aCB E x2).1 x3 hx3) <| sn <| sj <| aD h fun x4 hx4 h => ai id <| ai id <| ai rfl ?_
 refine o7.mk _ false (fun hg => (iP E oc0 x3).1 x4 (dX hx4 hg)) (ai rfl ?_)
 refine ai id <| ai (fun hg => (hY hg)) <| sn ?_
 refine Br.of h (fun ht h => ?_) fun ht h => ?_
 ·refine ai ⟨rfl, rfl, rfl, rfl⟩ <| ai ⟨rfl, rfl, rfl⟩ <| aF.to (AV.list 1 (([x3] : List aA).map AV.str)) (fun _ => rfl) <| aD h fun x5 hx5 h => ?_
  have qx5 := (dE hx5).1
  have hx5e := (dE hx5).2
  refine ai ⟨rfl, rfl, rfl⟩ <| ai rfl <| ai (jZ ss qx5) <| aF.to (AV.list 1 (x5.map AV.str)) (fun _ => (j3 1 ss _ _).trans (congrArg (fun y => AV.list 1 (List.map ss y)) hx5e.symm)) ?_
  refine ai ⟨rfl, rfl, rfl, lb rfl⟩ (xi [AV.list 1 (x5.map AV.str)] (ai (fun _ => rfl) ?_))
  replace h := oi h
  have h0 := (Prod.mk.inj h).1
  have h1 := (Prod.mk.inj h).2
  subst h0
  subst h1
  refine xi [] (xi [.cells 45 [AV.list 1 (x5.map AV.str)] [(0, 1)]] (ai rfl (ai (Gho.to _ _ _ [0, 2] ?_ ?_ ?_ rfl rfl ?_) (ai ?_ rfl))))
  ·exact ⟨⟨rfl, rfl, rfl⟩, trivial⟩
  ·exact rfl
  ·exact rfl
  ·exact trivial
  ·exact rfl
 ·replace h := oi h
  have h0 := (Prod.mk.inj h).1
  have h1 := (Prod.mk.inj h).2
  subst h0
  subst h1
  refine xi [] (xi [.cells 45 [AV.list 1 (oc0.map AV.str)] [(0, 1)]] (ai rfl (ai (Gho.to _ _ _ [0, 0] ?_ ?_ ?_ rfl rfl ?_) (ai ?_ rfl))))
  ·exact ⟨⟨rfl, rfl, rfl⟩, trivial⟩
  ·exact rfl
  ·exact rfl
  ·exact trivial
  ·exact rfl
theorem mT (E : Pm.Env) [aI E] (a0 : aA) (a1 : aA) (oa20 : (List aA)) (r : Unit) (oa20' : (List aA)) (h : eB a0 a1 oa20 = some (r, oa20')) : FnW E Tryz.prog 176 [ss a0, ss a1, AV.fn 182 [] [AV.ptr 0 0]] [.cells 45 [AV.list 1 (oa20.map AV.str)] [(0, 0)]] [1] (AV.tup []) none [.cells 45 [AV.list 1 (oa20'.map AV.str)] [(0, 1)]] [0, 1] := by
 refine FnW.of_evB (T := T) (rows := []) tOk mixed Tryz.func176 rfl (by kernel_rfl) (by kernel_rfl) rfl rfl fun hwf => ?_
 unfold eB at h
 refine sj <| aD h fun x1 hx1 h => aK.data _ false rfl (lP E a0 a1 x1 hx1) <| aF.to (ii (x1.length : Int)) (fun _ => bB ss x1) <| sn ?_
 refine cP.img (fun x : (Int × (List aA)) => St.of [⟨2, AV.fn 182 [] [AV.ptr 0 0], none⟩, ⟨10, AV.list 1 (x1.map AV.str), none⟩, ⟨11, ii (x1.length : Int), none⟩, ⟨12, ii x.1, none⟩] [.cells 45 [AV.list 1 (x.2.map AV.str)] [(0, 1)]] [0, 1]) (bU x1) ((0 : Int), oa20) h ?_ ?_
 ·refine Gho.to _ _ _ [0, 0] ?_ ?_ ?_ rfl rfl ?_
  ·exact ⟨⟨rfl, rfl, rfl⟩, trivial⟩
  ·exact rfl
  ·exact rfl
  ·exact tr3 <| tr3 <| tr3 <| tr3 <| trivial
 intro n1 x y1 h hl1 hr1
 obtain ⟨s2, s3⟩ := x
 unfold bU at h
 dsimp only at h
 refine sj <| sn <| sj ?_
 refine Br.of h (fun ht h => ?_) fun ht h => ?_
 ·refine sn <| sj <| sj <| aD h fun x4 hx4 h => ?_
  refine ai rfl (xi (ss x4) (ai (fun hg => cY _ hx4) ?_))
  refine sn <| sj <| sn ?_
  refine Br.of h (fun ht h => ?_) fun ht h => ?_
  ·refine aD h fun x5 hx5 h => aK.ren [0] [1] [.cells 45 [AV.list 1 (x5.2.map AV.str)] [(0, 2)]] [0, 0, 1] (uF E x4 s3 x5.1 x5.2 hx5) rfl rfl rfl rfl rfl rfl rfl rfl rfl <| sn ?_
   replace h := oi h
   refine xi ⟨(n1, ((IntKind.i64.wrap (s2 + (1 : Int))), x5.2)), hl1 _ h.symm⟩ (ai (aPL _) ?_)
   refine Gho.to _ _ _ [0, 2] ?_ ?_ ?_ rfl rfl ?_
   ·exact ⟨⟨rfl, rfl, rfl⟩, trivial⟩
   ·exact rfl
   ·exact rfl
   ·exact tr3 <| tr3 <| tr3 <| tr3 <| trivial
  ·refine sn ?_
   replace h := oi h
   refine xi ⟨(n1, ((IntKind.i64.wrap (s2 + (1 : Int))), s3)), hl1 _ h.symm⟩ (ai (aPL _) ?_)
   refine Gho.to _ _ _ [0, 1] ?_ ?_ ?_ rfl rfl ?_
   ·exact ⟨⟨rfl, rfl, rfl⟩, trivial⟩
   ·exact rfl
   ·exact rfl
   ·exact tr3 <| tr3 <| tr3 <| tr3 <| trivial
 ·replace h := oi h
  replace h := hr1 _ h.symm
  have h0 := (Prod.mk.inj h).1
  have h1 := (Prod.mk.inj h).2
  subst h0
  subst h1
  refine xi [] (xi [.cells 45 [AV.list 1 (s3.map AV.str)] [(0, 1)]] (ai rfl (ai (Gho.to _ _ _ [0, 1] ?_ ?_ ?_ rfl rfl ?_) (ai ?_ rfl))))
  ·exact ⟨⟨rfl, rfl, rfl⟩, trivial⟩
  ·exact rfl
  ·exact rfl
  ·exact trivial
  ·exact rfl
instance aFM (E : Pm.Env) [aI E] (a0 : aA) : Ok E (fZ a0) (fun r => FnR E Tryz.prog 161 [ss a0] (AV.list 1 (r.map AV.str)) true) := ⟨fun r h => by
 refine FnR.of_ev (T := T) (rows := []) tOk mixed Tryz.func161 rfl (by kernel_rfl) (by kernel_rfl) rfl fun hwf => ?_
 unfold fZ at h
 refine sj <| sn <| sj <| ai rfl ?_
 refine SeqN.via (St.of [⟨0, ss a0, none⟩, ⟨3, AV.ptr 0 0, none⟩] [.cells 45 [AV.list 1 (([] : List aA).map AV.str)] [(0, 0)]] [1]) ?_ ?_
 ·refine Gho.to _ _ _ [1] ?_ ?_ ?_ rfl rfl ?_
  ·exact W
  ·exact rfl
  ·exact rfl
  ·exact tr3 <| tr3 <| trivial
 refine sj <| aD h fun x1 hx1 h => aK.ren [0] [0] [.cells 45 [AV.list 1 (x1.2.map AV.str)] [(0, 1)]] [0, 1] (mT E a0 ([44] : aA) ([] : List aA) x1.1 x1.2 hx1) rfl rfl rfl rfl rfl rfl rfl rfl rfl <| sn <| sj <| sn ?_
 exact W⟩
instance aAt (E : Pm.Env) [aI E] (a0 : aA) (c0 : aL) : Ok E (nJ a0 c0) (fun r => FnR E Tryz.prog 160 [ss a0, AV.iptr (aL.cells c0)] (AV.tup [ss r.1, bb r.2]) false) := ⟨fun r h => by
 refine FnR.of_ev (T := T) (rows := []) tOk mixed Tryz.func160 rfl (by kernel_rfl) (by kernel_rfl) rfl fun hwf => ?_
 unfold nJ at h
 exact W⟩
instance aJB (E : Pm.Env) [aI E] (a0 : aL) (a1 : aA) (a2 : aA) : Ok E (iC a0 a1 a2) (fun r => FnR E Tryz.prog 117 [aL.av a0, ss a1, ss a2] (AV.tup [ss r.1, bb r.2]) false) := ⟨fun r h => by
 refine FnR.of_ev (T := T) (rows := []) tOk mixed Tryz.func117 rfl (by kernel_rfl) (by kernel_rfl) rfl fun hwf => ?_
 unfold iC at h
 refine sj <| ai rfl <| sn <| sj <| ai ⟨lb rfl, lb rfl⟩ <| aF.to (aL.av a0) (fun _ => rfl) <| aD h fun x1 hx1 h => aK.map _ rfl (aCA E a0 x1 hx1) ?_
 refine aBm h (fun m2 h => ?_) fun m2 h => ?_
 ·refine ai ⟨rfl, by kernel_rfl, rfl⟩ (xi (AV.fn 172 [] [AV.iptr [ss x1.1]]) (xi true (ai (tS m2) ?_)))
  refine sn <| sj <| sj <| sn ?_
  refine Br.of h (fun ht h => ?_) fun ht h => ?_
  ·refine sj <| sn ?_
   replace h := oi h
   refine RetE.plain ?_
   subst h; exact ai rfl (ai rfl rfl)
  ·refine sn <| sj <| aD h fun x3 hx3 h => aK.data _ false rfl ((uM E a2 x1.1).1 x3 hx3) <| sn ?_
   replace h := oi h
   refine RetE.plain ?_
   subst h; exact ai rfl (ai rfl rfl)
 ·refine aBm h (fun m4 h => ?_) fun m4 h => ?_
  ·refine ai ⟨rfl, by kernel_rfl, rfl⟩ (xi (AV.fn 172 [] [AV.iptr [ss x1.2.1]]) (xi true (ai (d9 m2 (tS m4)) ?_)))
   refine sn <| sj <| sj <| sn ?_
   refine Br.of h (fun ht h => ?_) fun ht h => ?_
   ·refine sj <| sn ?_
    replace h := oi h
    refine RetE.plain ?_
    subst h; exact ai rfl (ai rfl rfl)
   ·refine sn <| sj <| aD h fun x5 hx5 h => aK.data _ false rfl ((uM E a2 x1.2.1).1 x5 hx5) <| sn ?_
    replace h := oi h
    refine RetE.plain ?_
    subst h; exact ai rfl (ai rfl rfl)
  ·refine aBm h (fun m6 h => ?_) fun m6 h => ?_
   ·refine ai ⟨rfl, by kernel_rfl, rfl⟩ (xi (AV.fn 173 [] [AV.iptr [ss x1.2.2.1.1], AV.iptr [AV.fn 150 [] [AV.iptr (aL.cells x1.2.2.1.2)]]]) (xi true (ai (d9 m2 (d9 m4 (tS m6))) ?_)))
    refine sn <| sj <| sj <| sn ?_
    refine Br.of h (fun ht h => ?_) fun ht h => ?_
    ·exact W
    ·refine sn <| sj <| aD h fun x7 hx7 h => aK.data _ false rfl (pZ E a2 x1.2.2.1.1 150 [AV.iptr (aL.cells x1.2.2.1.2)] (fun x0 => nD x0 x1.2.2.1.2) (fun x0 r h => (aAm E x0 x1.2.2.1.2).1 r h) rfl x7 hx7) <| sn ?_
     replace h := oi h
     refine RetE.plain ?_
     subst h; exact ai rfl (ai rfl rfl)
   ·refine aBm h (fun m8 h => ?_) fun m8 h => ?_
    ·refine ai ⟨rfl, by kernel_rfl, rfl⟩ (xi (AV.fn 173 [] [AV.iptr [ss x1.2.2.2.1.1], AV.iptr [AV.fn 155 [] [AV.iptr (aL.cells x1.2.2.2.1.2)]]]) (xi true (ai (d9 m2 (d9 m4 (d9 m6 (tS m8)))) ?_)))
     refine sn <| sj <| sj <| sn ?_
     refine Br.of h (fun ht h => ?_) fun ht h => ?_
     ·refine sj <| sn ?_
      replace h := oi h
      refine RetE.plain ?_
      subst h; exact ai rfl (ai rfl rfl)
     ·refine sn <| sj <| aD h fun x9 hx9 h => aK.data _ false rfl (pZ E a2 x1.2.2.2.1.1 155 [AV.iptr (aL.cells x1.2.2.2.1.2)] (fun x0 => nG x0 x1.2.2.2.1.2) (fun x0 r h => (aAr E x0 x1.2.2.2.1.2).1 r h) rfl x9 hx9) <| sn ?_
      replace h := oi h
      refine RetE.plain ?_
      subst h; exact ai rfl (ai rfl rfl)
    ·refine aBm h (fun m10 h => ?_) fun m10 h => ?_
     ·refine ai ⟨rfl, by kernel_rfl, rfl⟩ (xi (AV.fn 173 [] [AV.iptr [ss x1.2.2.2.2.1.1], AV.iptr [AV.fn 158 [] [AV.iptr (aL.cells x1.2.2.2.2.1.2)]]]) (xi true (ai (d9 m2 (d9 m4 (d9 m6 (d9 m8 (tS m10))))) ?_)))
      refine sn <| sj <| sj <| sn ?_
      refine Br.of h (fun ht h => ?_) fun ht h => ?_
      ·exact W
      ·refine sn <| sj <| aD h fun x11 hx11 h => aK.data _ false rfl (pZ E a2 x1.2.2.2.2.1.1 158 [AV.iptr (aL.cells x1.2.2.2.2.1.2)] (fun x0 => nI x0 x1.2.2.2.2.1.2) (fun x0 r h => (aAs E x0 x1.2.2.2.2.1.2).1 r h) rfl x11 hx11) <| sn ?_
       replace h := oi h
       refine RetE.plain ?_
       subst h; exact ai rfl (ai rfl rfl)
     ·refine aBm h (fun m12 h => ?_) fun m12 h => ?_
      ·refine ai ⟨rfl, by kernel_rfl, rfl⟩ (xi (AV.fn 173 [] [AV.iptr [ss x1.2.2.2.2.2.1], AV.iptr [AV.fn 160 [] [AV.iptr (aL.cells x1.2.2.2.2.2.2)]]]) (xi true (ai (d9 m2 (d9 m4 (d9 m6 (d9 m8 (d9 m10 (tS m12)))))) ?_)))
       refine sn <| sj <| sj <| sn ?_
       refine Br.of h (fun ht h => ?_) fun ht h => ?_
       ·refine sj <| sn ?_
        replace h := oi h
        refine RetE.plain ?_
        subst h; exact ai rfl (ai rfl rfl)
       ·refine sn <| sj <| aD h fun x13 hx13 h => aK.data _ false rfl (pZ E a2 x1.2.2.2.2.2.1 160 [AV.iptr (aL.cells x1.2.2.2.2.2.2)] (fun x0 => nJ x0 x1.2.2.2.2.2.2) (fun x0 r h => (aAt E x0 x1.2.2.2.2.2.2).1 r h) rfl x13 hx13) <| sn ?_
        replace h := oi h
        refine RetE.plain ?_
        subst h; exact ai rfl (ai rfl rfl)
      ·refine ai ⟨rfl, by kernel_rfl, rfl⟩ (xi AV.nilf (xi false (ai (d9 m2 (d9 m4 (d9 m6 (d9 m8 (d9 m10 (d9 m12 aJo)))))) ?_)))
       refine sn <| sj <| sj <| sn ?_
       refine Br.of h (fun ht h => ?_) fun ht h => ?_
       ·exact W
       ·exact W⟩
instance aEP (E : Pm.Env) [aI E] (a0 : aL) (a1 : aA) : Ok E (mB a0 a1) (fun r => FnR E Tryz.prog 84 [aL.av a0, ss a1] (AV.tup [ss r.1, ii r.2]) false) := ⟨fun r h => by
 refine FnR.of_ev (T := T) (rows := []) tOk mixed Tryz.func84 rfl (by kernel_rfl) (by kernel_rfl) rfl fun hwf => ?_
 unfold mB at h
 refine sj <| ai rfl <| sn <| sj <| sn <| sj <| aD h fun x1 hx1 h => aK.data _ false rfl ((iT E a1 ([36, 40] : aA)).1 x1 hx1) <| sn <| sj <| aD h fun x2 hx2 h => aK.data _ false rfl (rL E x1.1 113 [] (fun x0 => lS x0) (fun x0 r h => (aAN E x0).1 r h) rfl x2 hx2) <| sn <| sj <| sj <| ai id <| ai (fun hg => (hY hg)) <| sn ?_
 refine Br.of h (fun ht h => ?_) fun ht h => ?_
 ·exact W
 ·refine sn <| sj <| aD h fun x4 hx4 h => ?_
  have qx4 := (bJ hx4).1
  have hx4e := (bJ hx4).2
  refine ai (fun _ => qx4) <| aF.to (ss x4) (fun _ => congrArg ss hx4e.symm) <| sn <| sj <| aD h fun x5 hx5 h => ?_
  have qx5 := (bJ hx5).1
  have hx5e := (bJ hx5).2
  refine ai (fun _ => qx5) <| aF.to (ss x5) (fun _ => congrArg ss hx5e.symm) <| sn <| sj <| sj <| aD h fun x6 hx6 h => aK.data _ false rfl ((c7 E x5 ([123] : aA)).1 x6 hx6) <| sn ?_
  refine Br.of h (fun ht h => ?_) fun ht h => ?_
  ·refine sj <| Or.inl <| aD h fun x7 hx7 h => ?_
   have qx7 := (bJ hx7).1
   have hx7e := (bJ hx7).2
   refine ai (fun _ => qx7) <| aF.to (ss x7) (fun _ => congrArg ss hx7e.symm) <| aD h fun x8 hx8 h => aK.data _ false rfl ((vG E ([125, 41, 124, 39, 10, 13] : aA)).1 x8 hx8) <| aD h fun x9 hx9 h => aK.data _ false rfl (rL E x7 133 [AV.iptr [ss x8]] (fun x0 => f9 x0 x8) (fun x0 r h => (rM E x0 x8).1 r h) rfl x9 hx9) <| ai (by kernel_rfl) <| sn <| sj <| sj <| aD h fun x10 hx10 h => ?_
   have qx10 := (bJ hx10).1
   have hx10e := (bJ hx10).2
   refine ai (fun _ => qx10) <| aF.to (ss x10) (fun _ => congrArg ss hx10e.symm) <| sn <| sj <| ai id <| aD h fun x11 hx11 h => ?_
   have qx11 := (vX hx11).1
   have hx11e := (vX hx11).2
   refine ai id <| ai id <| ai qx11 <| aF.to (ss x11) (fun _ => congrArg ss hx11e.symm) <| aD h fun x12 hx12 h => ai id <| ai rfl ?_
   refine o7.mk _ false (fun hg => (c7 E x11 ([125] : aA)).1 x12 (dX hx12 hg)) (ai rfl ?_)
   refine ai id <| ai (fun hg => (hY hg)) <| sn ?_
   refine Br.of h (fun ht h => ?_) fun ht h => ?_
   ·refine sj <| aD h fun x13 hx13 h => aK.data _ false rfl ((aCz E).1  x13 hx13) <| sn ?_
    replace h := oi h
    refine RetE.plain ?_
    subst h; exact ai rfl (ai rfl rfl)
   ·refine sn <| aD h fun x14 hx14 h => ?_
    have qx14 := (bJ hx14).1
    have hx14e := (bJ hx14).2
    refine ai (fun _ => qx14) <| aF.to (ss x14) (fun _ => congrArg ss hx14e.symm) <| sn <| sj <| sj <| aD h fun x15 hx15 h => aK.data _ false rfl ((c7 E x14 ([124, 39] : aA)).1 x15 hx15) <| sn ?_
    refine Br.of h (fun ht h => ?_) fun ht h => ?_
    ·refine sj <| aD h fun x16 hx16 h => ?_
     have qx16 := (bJ hx16).1
     have hx16e := (bJ hx16).2
     refine ai (fun _ => qx16) <| aF.to (ss x16) (fun _ => congrArg ss hx16e.symm) <| aD h fun x17 hx17 h => aK.data _ false rfl ((lN E x16 ([39] : aA)).1 x17 hx17) <| sn <| sj <| sn ?_
     refine Br.of h (fun ht h => ?_) fun ht h => ?_
     ·exact W
     ·exact W
    ·refine sj <| aD h fun x22 hx22 h => aK.data _ false rfl ((c7 E x14 ([124] : aA)).1 x22 hx22) <| sn ?_
     refine Br.of h (fun ht h => ?_) fun ht h => ?_
     ·refine sj <| Or.inl <| aD h fun x23 hx23 h => ?_
      have qx23 := (bJ hx23).1
      have hx23e := (bJ hx23).2
      refine ai (fun _ => qx23) <| aF.to (ss x23) (fun _ => congrArg ss hx23e.symm) <| aD h fun x24 hx24 h => aK.data _ false rfl ((vG E ([39, 41, 124, 10, 13] : aA)).1 x24 hx24) <| aD h fun x25 hx25 h => aK.data _ false rfl (rL E x23 133 [AV.iptr [ss x24]] (fun x0 => f9 x0 x24) (fun x0 r h => (rM E x0 x24).1 r h) rfl x25 hx25) <| ai (by kernel_rfl) <| sn <| Or.inl <| aD h fun x26 hx26 h => ?_
      have qx26 := (bJ hx26).1
      have hx26e := (bJ hx26).2
      refine ai (fun _ => qx26) <| aF.to (ss x26) (fun _ => congrArg ss hx26e.symm) <| aD h fun x27 hx27 h => ?_
      have qx27 := (bJ hx27).1
      have hx27e := (bJ hx27).2
      refine ai (fun _ => qx27) <| aF.to (ss x27) (fun _ => congrArg ss hx27e.symm) <| ai (by kernel_rfl) <| sn <| sj <| sj <| aD h fun x28 hx28 h => aK.data _ false rfl ((c7 E x27 ([41] : aA)).1 x28 hx28) <| sn ?_
      refine Br.of h (fun ht h => ?_) fun ht h => ?_
      ·exact W
      ·exact W
     ·exact W
  ·refine sn <| sj <| sj <| aD h fun x34 hx34 h => aK.data _ false rfl ((c7 E x5 ([124, 39] : aA)).1 x34 hx34) <| sn ?_
   refine Br.of h (fun ht h => ?_) fun ht h => ?_
   ·exact W
   ·refine sj <| aD h fun x41 hx41 h => aK.data _ false rfl ((c7 E x5 ([124] : aA)).1 x41 hx41) <| sn ?_
    refine Br.of h (fun ht h => ?_) fun ht h => ?_
    ·refine sj <| Or.inl <| aD h fun x42 hx42 h => ?_
     have qx42 := (bJ hx42).1
     have hx42e := (bJ hx42).2
     refine ai (fun _ => qx42) <| aF.to (ss x42) (fun _ => congrArg ss hx42e.symm) <| aD h fun x43 hx43 h => aK.data _ false rfl ((vG E ([39, 41, 124, 10, 13] : aA)).1 x43 hx43) <| aD h fun x44 hx44 h => aK.data _ false rfl (rL E x42 133 [AV.iptr [ss x43]] (fun x0 => f9 x0 x43) (fun x0 r h => (rM E x0 x43).1 r h) rfl x44 hx44) <| ai (by kernel_rfl) <| sn <| Or.inl <| aD h fun x45 hx45 h => ?_
     have qx45 := (bJ hx45).1
     have hx45e := (bJ hx45).2
     refine ai (fun _ => qx45) <| aF.to (ss x45) (fun _ => congrArg ss hx45e.symm) <| aD h fun x46 hx46 h => ?_
     have qx46 := (bJ hx46).1
     have hx46e := (bJ hx46).2
     refine ai (fun _ => qx46) <| aF.to (ss x46) (fun _ => congrArg ss hx46e.symm) <| ai (by kernel_rfl) <| sn <| sj <| sj <| aD h fun x47 hx47 h => aK.data _ false rfl ((c7 E x46 ([41] : aA)).1 x47 hx47) <| sn ?_
     refine Br.of h (fun ht h => ?_) fun ht h => ?_
     ·exact W
     ·exact W
    ·exact W⟩
instance aAR (E : Pm.Env) [aI E] (a0 : aA) (a1 : aA) : Ok E (hR a0 a1) (fun r => FnR E Tryz.prog 136 [ss a0, ss a1] (ss r) false) := ⟨fun r h => by
 refine FnR.of_ev (T := T) (rows := []) tOk mixed Tryz.func136 rfl (by kernel_rfl) (by kernel_rfl) rfl fun hwf => ?_
 unfold hR at h
 exact W⟩
instance sY (E : Pm.Env) [aI E] (a0 : aA) (a1 : aA) : Ok E (iL a0 a1) (fun r => FnR E Tryz.prog 118 [ss a0, ss a1] (ss r) false) := ⟨fun r h => by
 refine FnR.of_ev (T := T) (rows := []) tOk mixed Tryz.func118 rfl (by kernel_rfl) (by kernel_rfl) rfl fun hwf => ?_
 unfold iL at h
 exact W⟩
theorem uG (E : Pm.Env) [aI E] (a0 : aA) (a1 : Int) (a2 : FuncId) (a2c : List AV) (a2i : Int -> Option Int) (a2h : ∀ (x0 : Int) (r : Int), a2i x0 = some r -> FnR E Tryz.prog a2 ([AV.int .u8 x0] ++ a2c) (ii r) false) (a2p : a2c.all AV.puB = true) (r : (Int × Int)) (h : fK a0 a1 a2i = some r) : FnR E Tryz.prog 108 [ss a0, ii a1, AV.fn a2 [] a2c] (AV.tup [ii r.1, ii r.2]) false := by
 refine FnR.of_ev (T := T) (rows := []) tOk mixed Tryz.func108 rfl (by kernel_rfl) (by kernel_rfl) rfl fun hwf => ?_
 unfold fK at h
 refine sj <| sn <| sj <| sj <| sn ?_
 refine Br.of h (fun ht h => ?_) fun ht h => ?_
 ·exact W
 ·refine sn <| sj <| sn <| sj <| sj <| aF.same <| sn ?_
  refine cP.img (fun x : (Int × Bool × Int) => St.of [⟨0, ss a0, none⟩, ⟨1, ii a1, none⟩, ⟨2, AV.fn a2 [] a2c, none⟩, ⟨8, ii x.1, none⟩, ⟨9, bb x.2.1, none⟩, ⟨16, ii (a0.length : Int), none⟩, ⟨17, ii x.2.2, none⟩] [] []) (eY a0 a1 a2i) ((0 : Int), false, (0 : Int)) h ?_ ?_
  ·refine Gho.to _ _ _ [] ?_ ?_ ?_ rfl rfl ?_
   ·exact trivial
   ·exact rfl
   ·exact rfl
   ·exact ⟨rfl, rfl, trivial, rfl, rfl, trivial, rfl, (sT a2p _), trivial, rfl, rfl, trivial, rfl, rfl, trivial, rfl, rfl, trivial, rfl, rfl, trivial, trivial⟩
  intro n1 x y1 h hl1 hr1
  obtain ⟨s1, s2, s3⟩ := x
  unfold eY at h
  dsimp only at h
  refine sj <| sn <| sj ?_
  refine Br.of h (fun ht h => ?_) fun ht h => ?_
  ·refine sn <| sj <| sj <| sn <| sj <| aD h fun x4 hx4 h => ?_
   refine xi x4 (ai (fun hg => jY hx4) ?_)
   refine aD h fun x5 hx5 h => aK.data _ false (wY rfl (aBl a2p)) (a2h (x4.toNat : Int) x5 hx5) <| sn <| sj <| sj <| sn ?_
   refine Br.of h (fun ht h => ?_) fun ht h => ?_
   ·exact W
   ·refine sn <| sj <| sn <| sj <| sn ?_
    refine Br.of h (fun ht h => ?_) fun ht h => ?_
    ·refine sn ?_
     replace h := oi h
     refine xi ⟨(n1, ((0 : Int), true, (IntKind.i64.wrap (s3 + (1 : Int))))), hl1 _ h.symm⟩ (ai (aPL _) ?_)
     refine Gho.to _ _ _ [] ?_ ?_ ?_ rfl rfl ?_
     ·exact trivial
     ·exact rfl
     ·exact rfl
     ·exact ⟨rfl, rfl, trivial, rfl, rfl, trivial, rfl, (sT a2p _), trivial, rfl, rfl, trivial, rfl, rfl, trivial, rfl, rfl, trivial, rfl, rfl, trivial, trivial⟩
    ·refine sn ?_
     replace h := oi h
     refine xi ⟨(n1, ((IntKind.i64.wrap ((IntKind.i64.wrap (s1 * a1)) + x5)), s2, (IntKind.i64.wrap (s3 + (1 : Int))))), hl1 _ h.symm⟩ (ai (aPL _) ?_)
     refine Gho.to _ _ _ [] ?_ ?_ ?_ rfl rfl ?_
     ·exact W
     ·exact rfl
     ·exact rfl
     ·exact ⟨rfl, rfl, trivial, rfl, rfl, trivial, rfl, (sT a2p _), trivial, rfl, rfl, trivial, rfl, rfl, trivial, rfl, rfl, trivial, rfl, rfl, trivial, trivial⟩
  ·exact W
instance wD (E : Pm.Env) [aI E] (a0 : Int) : Ok E (g8 a0) (fun r => FnR E Tryz.prog 109 [AV.int .u8 a0] (ii r) false) := ⟨fun r h => by
 refine FnR.of_ev (T := T) (rows := []) tOk mixed Tryz.func109 rfl (by kernel_rfl) (by kernel_rfl) rfl fun hwf => ?_
 unfold g8 at h
 exact W⟩
instance xR (E : Pm.Env) [aI E] (a0 : aA) : Ok E (iM a0) (fun r => FnR E Tryz.prog 82 [ss a0] (AV.tup [ii r.1, ii r.2]) false) := ⟨fun r h => by
 refine FnR.of_ev (T := T) (rows := []) tOk mixed Tryz.func82 rfl (by kernel_rfl) (by kernel_rfl) rfl fun hwf => ?_
 unfold iM at h
 refine sj <| sn <| sj <| aD h fun x1 hx1 h => aK.data _ false rfl ((iT E a0 ([45] : aA)).1 x1 hx1) <| sn <| sj <| aD h fun x2 hx2 h => aK.data _ false rfl (uG E x1.1 (10 : Int) 109 [] (fun x0 => g8 x0) (fun x0 r h => (wD E x0).1 r h) rfl x2 hx2) <| sn <| sj <| sj <| sn ?_
 refine Br.of h (fun ht h => ?_) fun ht h => ?_
 ·exact W
 ·exact W⟩
theorem nW (E : Pm.Env) [aI E] (o0 : aC) (r : aB) (o0' : aC) (h : gA o0 = some (r, o0')) : FnW E Tryz.prog 89 [AV.ptr 0 0] [.cells 72 (aC.cells o0) []] [] (aB.av r) none [.cells 72 (aC.cells o0') []] [] := by
 refine FnW.of_evB (T := T) (rows := []) tOk mixed Tryz.func89 rfl (by kernel_rfl) (by kernel_rfl) rfl rfl fun hwf => ?_
 unfold gA at h
 refine sj <| ai rfl <| sn <| sj <| aD h fun x1 hx1 h => aK.ren [0] [] [.cells 72 (aC.cells x1.2) [], .cells 26 [ii 0, ii 0, ss [], ss [], AV.list 5 (([] : List aB).map aB.avR)] [(4, 0)]] [2] (kJ E o0 x1.1 x1.2 hx1) rfl rfl rfl rfl rfl rfl rfl rfl rfl <| sn <| sj <| sj <| aD h fun x2 hx2 h => aK.data _ false rfl ((iT E x1.2.s ([39] : aA)).1 x2 hx2) <| sn <| sj <| sn ?_
 refine Br.of h (fun ht h => ?_) fun ht h => ?_
 ·refine sj <| aD h fun x3 hx3 h => aK.data _ false rfl ((lN E x2.1 ([39] : aA)).1 x3 hx3) <| sn <| sj <| sj <| sn ?_
  refine Br.of h (fun ht h => ?_) fun ht h => ?_
  ·refine sj <| aD h fun x4 hx4 h => aK.ren [0] [] [.cells 72 (aC.cells x4.2) [], .cells 26 [ii 0, ii 0, ss [], ss [], AV.list 5 (([] : List aB).map aB.avR)] [(4, 0)]] [2] (lW E x1.2 x4.1 x4.2 hx4) rfl rfl rfl rfl rfl rfl rfl rfl rfl ?_
   refine ai ⟨rfl, rfl, rfl, lb rfl⟩ (xi (aB.cells x4.1) (ai (fun _ => rfl) ?_))
   refine sn ?_
   replace h := oi h
   have h0 := (Prod.mk.inj h).1
   have h1 := (Prod.mk.inj h).2
   subst h0
   subst h1
   refine xi [⟨2, AV.ptr 1 0, none⟩] (xi [.cells 72 (aC.cells x4.2) [], .cells 26 (aB.cells x4.1) []] (ai rfl (ai (Gho.to _ _ _ [] ?_ ?_ ?_ rfl rfl ?_) (ai ?_ rfl))))
   ·exact ⟨⟨rfl, rfl, rfl⟩, ⟨⟨rfl, rfl, rfl⟩, trivial⟩⟩
   ·exact rfl
   ·exact rfl
   ·exact tr3 <| trivial
   ·refine ai ⟨lb rfl, lb rfl⟩ (xi (aB.av x4.1) (ai rfl ?_))
    exact rfl
  ·refine sn <| sj ?_
   refine ai ⟨rfl, rfl, rfl, lb rfl⟩ (xi [ss x3.2.1, bb x1.2.bad] (ai (fun _ => rfl) ?_))
   refine sn <| sj <| ai ⟨rfl, rfl, lb rfl⟩ <| ai ⟨rfl, rfl, lb rfl⟩ ?_
   refine xi (some 26) (ai (okM.mk (show (26 : Nat) = nS T _ _ _ from by kernel_rfl)) ?_)
   refine ai ⟨rfl, rfl, rfl, lb rfl⟩ (xi [ii 2, ii 0, ss x3.1, ss [], AV.list 5 (([] : List aB).map aB.avR)] (ai (fun _ => rfl) ?_))
   refine sn ?_
   replace h := oi h
   have h0 := (Prod.mk.inj h).1
   have h1 := (Prod.mk.inj h).2
   subst h0
   subst h1
   refine xi [⟨2, AV.ptr 1 0, none⟩] (xi [.cells 72 [ss x3.2.1, bb x1.2.bad] [], .cells 26 [ii 2, ii 0, ss x3.1, ss [], AV.list 5 (([] : List aB).map aB.avR)] []] (ai rfl (ai (Gho.to _ _ _ [] ?_ ?_ ?_ rfl rfl ?_) (ai ?_ rfl))))
   ·exact ⟨⟨rfl, rfl, rfl⟩, ⟨⟨rfl, rfl, rfl⟩, trivial⟩⟩
   ·exact rfl
   ·exact rfl
   ·exact tr3 <| trivial
   ·refine ai ⟨lb rfl, lb rfl⟩ (xi (AV.agg [ii 2, ii 0, ss x3.1, ss [], AV.list 5 (([] : List aB).map aB.avR)]) (ai rfl ?_))
    exact rfl
 ·refine sn <| sj <| sj ?_
  refine xi none (ai trivial ?_)
  refine aD h fun x5 hx5 h => aK.data _ false rfl ((aEP E (aL.mk ([] : aA) ([] : aA) ([] : aA) ([] : aA) ([] : aA) ([] : aA)) x1.2.s).1 x5 hx5) <| sn <| sj <| sn ?_
  refine Br.of h (fun ht h => ?_) fun ht h => ?_
  ·refine sj <| aD h fun x6 hx6 h => ?_
   have qx6 := (bJ hx6).1
   have hx6e := (bJ hx6).2
   refine ai (fun _ => qx6) <| aF.to (ss x6) (fun _ => congrArg ss hx6e.symm) <| ai ⟨rfl, rfl, lb rfl⟩ <| ai ⟨rfl, rfl, lb rfl⟩ ?_
   refine xi (some 26) (ai (okM.mk (show (26 : Nat) = nS T _ _ _ from by kernel_rfl)) ?_)
   refine ai rfl ?_
   refine ai ⟨rfl, rfl, rfl, lb rfl⟩ (xi [ii 3, ii 0, ss x6, ss [], AV.list 5 (([] : List aB).map aB.avR)] (ai (fun _ => rfl) ?_))
   refine sn <| sj <| aD h fun x7 hx7 h => ?_
   have qx7 := (bJ hx7).1
   have hx7e := (bJ hx7).2
   refine ai (fun _ => qx7) <| aF.to (ss x7) (fun _ => congrArg ss hx7e.symm) ?_
   refine ai ⟨rfl, rfl, rfl, lb rfl⟩ (xi [ss x7, bb x1.2.bad] (ai (fun _ => rfl) ?_))
   refine sn <| sj <| ai ⟨lb rfl, lb rfl⟩ <| aF.to (AV.agg [ii 3, ii 0, ss x6, ss [], AV.list 5 (([] : List aB).map aB.avR)]) (fun _ => rfl) ?_
   refine ai ⟨rfl, rfl, rfl, lb rfl⟩ (xi [ii 3, ii 0, ss x6, ss [], AV.list 5 (([] : List aB).map aB.avR)] (ai (fun _ => rfl) ?_))
   refine sn ?_
   replace h := oi h
   have h0 := (Prod.mk.inj h).1
   have h1 := (Prod.mk.inj h).2
   subst h0
   subst h1
   refine xi [⟨2, AV.ptr 1 0, none⟩] (xi [.cells 72 [ss x7, bb x1.2.bad] [], .cells 26 [ii 3, ii 0, ss x6, ss [], AV.list 5 (([] : List aB).map aB.avR)] []] (ai rfl (ai (Gho.to _ _ _ [] ?_ ?_ ?_ rfl rfl ?_) (ai ?_ rfl))))
   ·exact ⟨⟨rfl, rfl, rfl⟩, ⟨⟨rfl, rfl, rfl⟩, trivial⟩⟩
   ·exact rfl
   ·exact rfl
   ·exact tr3 <| trivial
   ·refine ai ⟨lb rfl, lb rfl⟩ (xi (AV.agg [ii 3, ii 0, ss x6, ss [], AV.list 5 (([] : List aB).map aB.avR)]) (ai rfl ?_))
    exact rfl
  ·refine sn <| sj <| aD h fun x8 hx8 h => aK.data _ false rfl ((sY E x1.2.s ([45] : aA)).1 x8 hx8) <| sn <| sj <| aD h fun x9 hx9 h => aK.data _ false rfl ((pK E x8 ([48, 49, 50, 51, 52, 53, 54, 55, 56, 57] : aA)).1 x9 hx9) <| sn <| sj <| Or.inl <| aF.same <| aF.same <| aD h fun x10 hx10 h => ?_
   have qx10 := (bJ hx10).1
   have hx10e := (bJ hx10).2
   refine ai (fun _ => qx10) <| aF.to (ss x10) (fun _ => congrArg ss hx10e.symm) <| aD h fun x11 hx11 h => aK.data _ false rfl ((xR E x10).1 x11 hx11) <| ai (by kernel_rfl) <| sn <| sj <| sj <| sn ?_
   refine Br.of h (fun ht h => ?_) fun ht h => ?_
   ·refine sj <| aD h fun x12 hx12 h => aK.ren [0] [] [.cells 72 (aC.cells x12.2) [], .cells 26 [ii 0, ii 0, ss [], ss [], AV.list 5 (([] : List aB).map aB.avR)] [(4, 0)]] [2] (lW E x1.2 x12.1 x12.2 hx12) rfl rfl rfl rfl rfl rfl rfl rfl rfl ?_
    refine ai ⟨rfl, rfl, rfl, lb rfl⟩ (xi (aB.cells x12.1) (ai (fun _ => rfl) ?_))
    refine sn ?_
    replace h := oi h
    have h0 := (Prod.mk.inj h).1
    have h1 := (Prod.mk.inj h).2
    subst h0
    subst h1
    refine xi [⟨2, AV.ptr 1 0, none⟩] (xi [.cells 72 (aC.cells x12.2) [], .cells 26 (aB.cells x12.1) []] (ai rfl (ai (Gho.to _ _ _ [] ?_ ?_ ?_ rfl rfl ?_) (ai ?_ rfl))))
    ·exact ⟨⟨rfl, rfl, rfl⟩, ⟨⟨rfl, rfl, rfl⟩, trivial⟩⟩
    ·exact rfl
    ·exact rfl
    ·exact tr3 <| trivial
    ·refine ai ⟨lb rfl, lb rfl⟩ (xi (aB.av x12.1) (ai rfl ?_))
     exact rfl
   ·refine sn <| sj ?_
    refine ai ⟨rfl, rfl, rfl, lb rfl⟩ (xi [ss x9, bb x1.2.bad] (ai (fun _ => rfl) ?_))
    refine sn <| sj <| ai ⟨rfl, rfl, lb rfl⟩ <| ai ⟨rfl, rfl, lb rfl⟩ ?_
    refine xi (some 28) (ai (okM.mk (show (28 : Nat) = nS T _ _ _ from by kernel_rfl)) ?_)
    refine ai ⟨rfl, rfl, rfl, lb rfl⟩ (xi [ii 1, ii x11.1, ss [], ss [], AV.list 5 (([] : List aB).map aB.avR)] (ai (fun _ => rfl) ?_))
    refine sn ?_
    replace h := oi h
    have h0 := (Prod.mk.inj h).1
    have h1 := (Prod.mk.inj h).2
    subst h0
    subst h1
    refine xi [⟨2, AV.ptr 1 0, none⟩] (xi [.cells 72 [ss x9, bb x1.2.bad] [], .cells 26 [ii 1, ii x11.1, ss [], ss [], AV.list 5 (([] : List aB).map aB.avR)] []] (ai rfl (ai (Gho.to _ _ _ [] ?_ ?_ ?_ rfl rfl ?_) (ai ?_ rfl))))
    ·exact ⟨⟨rfl, rfl, rfl⟩, ⟨⟨rfl, rfl, rfl⟩, trivial⟩⟩
    ·exact rfl
    ·exact rfl
    ·exact tr3 <| trivial
    ·refine ai ⟨lb rfl, lb rfl⟩ (xi (AV.agg [ii 1, ii x11.1, ss [], ss [], AV.list 5 (([] : List aB).map aB.avR)]) (ai rfl ?_))
     exact rfl
instance wE (E : Pm.Env) [aI E] : Ok E oI (fun r => FnR E Tryz.prog 74 [] (AV.list 1 (r.map AV.str)) true) := ⟨fun r h => by
 refine FnR.of_ev (T := T) (rows := []) tOk mixed Tryz.func74 rfl (by kernel_rfl) (by kernel_rfl) rfl fun hwf => ?_
 unfold oI at h
 exact W⟩
theorem vH (E : Pm.Env) [aI E] (o0 : aC) (r : aA) (o0' : aC) (h : jE o0 = some (r, o0')) : FnW E Tryz.prog 90 [AV.ptr 0 0] [.cells 72 (aC.cells o0) []] [] (ss r) none [.cells 72 (aC.cells o0') []] [] := by
 refine FnW.of_evB (T := T) (rows := []) tOk mixed Tryz.func90 rfl (by kernel_rfl) (by kernel_rfl) rfl rfl fun hwf => ?_
 unfold jE at h
 refine sj <| sn <| sj <| sj <| aD h fun x1 hx1 h => aK.data _ true rfl ((wE E).1  x1 hx1) <| aF.to (ii (x1.length : Int)) (fun _ => bB ss x1) <| sn ?_
 refine cP.img (fun x : (Int × aC) => St.of [⟨0, AV.ptr 0 0, none⟩, ⟨5, AV.list 1 (x1.map AV.str), some 0⟩, ⟨6, ii (x1.length : Int), none⟩, ⟨7, ii x.1, none⟩] [.cells 72 (aC.cells x.2) []] [1]) (fL x1) ((0 : Int), o0) h ?_ ?_
 ·exact W
 intro n1 x y1 h hl1 hr1
 obtain ⟨s2, s3⟩ := x
 unfold fL at h
 dsimp only at h
 refine sj <| sn <| sj ?_
 refine Br.of h (fun ht h => ?_) fun ht h => ?_
 ·refine sn <| sj <| sj <| aD h fun x4 hx4 h => ?_
  refine ai rfl (xi (ss x4) (ai (fun hg => cY _ hx4) ?_))
  refine sn <| sj <| aD h fun x5 hx5 h => aK.ren [0] [] [.cells 72 (aC.cells x5.2) []] [1] (gD E s3 x4 x5.1 x5.2 hx5) rfl rfl rfl rfl rfl rfl rfl rfl rfl <| sn ?_
  refine Br.of h (fun ht h => ?_) fun ht h => ?_
  ·refine sj <| sn ?_
   replace h := oi h
   replace h := hr1 _ h.symm
   have h0 := (Prod.mk.inj h).1
   have h1 := (Prod.mk.inj h).2
   subst h0
   subst h1
   refine xi [⟨2, ss x4, none⟩] (xi [.cells 72 (aC.cells x5.2) []] (ai rfl (ai (Gho.to _ _ _ [] ?_ ?_ ?_ rfl rfl ?_) (ai ?_ rfl))))
   ·exact ⟨⟨rfl, rfl, rfl⟩, trivial⟩
   ·exact rfl
   ·exact rfl
   ·exact tr3 <| trivial
   ·exact rfl
  ·exact W
 ·refine sn <| sj <| sn ?_
  replace h := oi h
  replace h := hr1 _ h.symm
  have h0 := (Prod.mk.inj h).1
  have h1 := (Prod.mk.inj h).2
  subst h0
  subst h1
  refine xi [⟨2, ss [], none⟩] (xi [.cells 72 (aC.cells s3) []] (ai rfl (ai (Gho.to _ _ _ [] ?_ ?_ ?_ rfl rfl ?_) (ai ?_ rfl))))
  ·exact ⟨⟨rfl, rfl, rfl⟩, trivial⟩
  ·exact rfl
  ·exact rfl
  ·exact tr3 <| trivial
  ·exact rfl
end Go.Proofs.YtdobepgddhbncaaGreatDoor
