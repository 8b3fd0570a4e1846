/-
  The functions do what their images say: walks, written by a program of mine (gen.py).
-/
import Derived.Test.YtkfoahoplndelaaGreatDoorIh1
import Derived.Test.YtkfoahoplndelaaGreatDoorGh0
namespace Go.Proofs.YtkfoahoplndelaaGreatDoor
open Go Go.Pm
open And renaming intro → ai
open Exists renaming intro → xi
open Option.some renaming inj → oi
open _root_.Nat renaming le_of_ble_eq_true → lb
open Go.Pm.SeqJ renaming go → sj
open Go.Pm.SeqN renaming go → sn
set_option maxRecDepth 100000
set_option maxHeartbeats 4000000
set_option linter.unusedVariables false
theorem stringslite_HasSuffix_ok (E : Pm.Env) [LaidM E] (a0 : Bytes) (a1 : Bytes) (r : Bool) (h : stringslite_HasSuffix a0 a1 = some r) : FnR E Tryz.prog 204 [AV.str a0, AV.str a1] (AV.bool r) false := by
 refine FnR.of_ev (T := T) (rows := []) tOk mixed Tryz.func204 rfl (by kernel_rfl) (by kernel_rfl) rfl fun hwf => ?_
 unfold stringslite_HasSuffix at h
 refine sj <| sn <| sj <| NormE.same <| NormE.same <| ai id <| NormE.same <| ai id <| NormE.same <| ai id <| ai id <| bind_elim h fun x1 hx1 h => ?_
 have qx1 := (gslc_some hx1).1
 have hx1e := (gslc_some hx1).2
 refine ai id <| ai id <| ai qx1 <| NormE.to (AV.str x1) (fun _ => congrArg AV.str hx1e.symm) <| ai id <| ai id <| ai (fun hg => (and_r hg)) ?_
 refine SeqN.via (St.of [⟨4, AV.bool (bif (decide ((a0.length : Int) ≥ (a1.length : Int))) then (x1 == a1) else false), none⟩] [] []) ?_ ?_
 ·refine Gho.to _ _ _ [] ?_ ?_ ?_ rfl rfl ?_
  ·exact trivial
  ·exact rfl
  ·exact rfl
  ·exact ⟨rfl, rfl, trivial, trivial⟩
 replace h := oi h
 refine RetE.plain ?_
 exact ai rfl (ai (congrArg (fun r : Bool => AV.bool r) h) rfl)
theorem stringslite_TrimSuffix_ok (E : Pm.Env) [LaidM E] (a0 : Bytes) (a1 : Bytes) (r : Bytes) (h : stringslite_TrimSuffix a0 a1 = some r) : FnR E Tryz.prog 173 [AV.str a0, AV.str a1] (AV.str r) false := by
 refine FnR.of_ev (T := T) (rows := []) tOk mixed Tryz.func173 rfl (by kernel_rfl) (by kernel_rfl) rfl fun hwf => ?_
 unfold stringslite_TrimSuffix at h
 refine sj <| sn <| sj <| sj <| bind_elim h fun x1 hx1 h => CallH.data _ false rfl (stringslite_HasSuffix_ok E a0 a1 x1 hx1) <| sn ?_
 refine Br.mk (fun ht => ?_) (fun ht => ?_)
 ·replace h := cond_tt h ht
  refine sj <| NormE.same <| NormE.same <| bind_elim h fun x2 hx2 h => ?_
  have qx2 := (slc_some hx2).1
  have hx2e := (slc_some hx2).2
  refine ai (fun _ => qx2) <| NormE.to (AV.str x2) (fun _ => congrArg AV.str hx2e.symm) <| sn ?_
  replace h := oi h
  refine RetE.plain ?_
  exact ai rfl (ai (congrArg (fun r : Bytes => AV.str r) h) rfl)
 ·replace h := cond_ff h ht
  refine sn <| sj <| sn ?_
  replace h := oi h
  refine RetE.plain ?_
  exact ai rfl (ai (congrArg (fun r : Bytes => AV.str r) h) rfl)
theorem strings_TrimSuffix_ok (E : Pm.Env) [LaidM E] (a0 : Bytes) (a1 : Bytes) (r : Bytes) (h : strings_TrimSuffix a0 a1 = some r) : FnR E Tryz.prog 125 [AV.str a0, AV.str a1] (AV.str r) false := by
 refine FnR.of_ev (T := T) (rows := []) tOk mixed Tryz.func125 rfl (by kernel_rfl) (by kernel_rfl) rfl fun hwf => ?_
 unfold strings_TrimSuffix at h
 refine sj <| sn <| sj <| bind_elim h fun x1 hx1 h => CallH.data _ false rfl (stringslite_TrimSuffix_ok E a0 a1 x1 hx1) <| sn ?_
 replace h := oi h
 refine RetE.plain ?_
 exact ai rfl (ai (congrArg (fun r : Bytes => AV.str r) h) rfl)
theorem stringslite_IndexByte_ok (E : Pm.Env) [LaidM E] (a0 : Bytes) (a1 : Int) (r : Int) (h : stringslite_IndexByte a0 a1 = some r) : FnR E Tryz.prog 160 [AV.str a0, AV.int .u8 a1] (AV.int .i64 r) false := by
 refine FnR.of_ev (T := T) (rows := []) tOk mixed Tryz.func160 rfl (by kernel_rfl) (by kernel_rfl) rfl fun hwf => ?_
 unfold stringslite_IndexByte at h
 refine sj <| sn <| sj <| bind_elim h fun x1 hx1 h => CallH.data _ false rfl (bytealg_IndexByteString_ok E a0 a1 x1 hx1) <| sn ?_
 replace h := oi h
 refine RetE.plain ?_
 exact ai rfl (ai (congrArg (fun r : Int => AV.int .i64 r) h) rfl)
theorem stringslite_Index_ok (E : Pm.Env) [LaidM E] (a0 : Bytes) (a1 : Bytes) (r : Int) (h : stringslite_Index a0 a1 = some r) : FnR E Tryz.prog 113 [AV.str a0, AV.str a1] (AV.int .i64 r) false := by
 refine FnR.of_ev (T := T) (rows := []) tOk mixed Tryz.func113 rfl (by kernel_rfl) (by kernel_rfl) rfl fun hwf => ?_
 unfold stringslite_Index at h
 refine sj <| sn <| sj <| NormE.same <| sn <| sj <| sj <| ai id <| ai id <| ai (fun hg => (and_r hg)) <| sn ?_
 refine Br.mk (fun ht => ?_) (fun ht => ?_)
 ·replace h := cond_tt h ht
  refine sj <| sn ?_
  replace h := oi h
  refine RetE.plain ?_
  exact ai rfl (ai (congrArg (fun r : Int => AV.int .i64 r) h) rfl)
 ·replace h := cond_ff h ht
  refine sj <| sn ?_
  refine Br.mk (fun ht => ?_) (fun ht => ?_)
  ·replace h := cond_tt h ht
   refine sj <| bind_elim h fun x1 hx1 h => ?_
   refine xi x1 (ai (fun hg => idx_some hx1) ?_)
   refine bind_elim h fun x2 hx2 h => CallH.data _ false rfl (stringslite_IndexByte_ok E a0 (x1.toNat : Int) x2 hx2) ?_
   refine SeqN.via (St.of [⟨4, AV.int .i64 x2, none⟩] [] []) ?_ ?_
   ·refine Gho.to _ _ _ [] ?_ ?_ ?_ rfl rfl ?_
    ·exact trivial
    ·exact rfl
    ·exact rfl
    ·exact ⟨rfl, rfl, trivial, trivial⟩
   replace h := oi h
   refine RetE.plain ?_
   exact ai rfl (ai (congrArg (fun r : Int => AV.int .i64 r) h) rfl)
  ·replace h := cond_ff h ht
   refine sj <| NormE.same ?_
   refine SeqN.via (St.of [⟨0, AV.str a0, none⟩, ⟨1, AV.str a1, none⟩, ⟨5, AV.int .i64 (a1.length : Int), none⟩, ⟨31, AV.bool (decide ((a1.length : Int) ≥ (a0.length : Int))), none⟩] [] []) ?_ ?_
   ·refine Gho.to _ _ _ [] ?_ ?_ ?_ rfl rfl ?_
    ·exact trivial
    ·exact rfl
    ·exact rfl
    ·exact ⟨rfl, rfl, trivial, rfl, rfl, trivial, rfl, rfl, trivial, rfl, rfl, trivial, trivial⟩
   refine Br.mk (fun ht => ?_) (fun ht => ?_)
   ·replace h := cond_tt h ht
    refine sj <| sn ?_
    replace h := oi h
    refine RetE.plain ?_
    exact ai rfl (ai (congrArg (fun r : Int => AV.int .i64 r) h) rfl)
   ·replace h := cond_ff h ht
    refine sj ?_
    cases h
theorem stringslite_Cut_ok (E : Pm.Env) [LaidM E] (a0 : Bytes) (a1 : Bytes) (r : (Bytes × Bytes × Bool)) (h : stringslite_Cut a0 a1 = some r) : FnR E Tryz.prog 56 [AV.str a0, AV.str a1] (AV.tup [AV.str r.1, AV.str r.2.1, AV.bool r.2.2]) false := by
 refine FnR.of_ev (T := T) (rows := []) tOk mixed Tryz.func56 rfl (by kernel_rfl) (by kernel_rfl) rfl fun hwf => ?_
 unfold stringslite_Cut at h
 refine sj <| sn <| sj <| sj <| bind_elim h fun x1 hx1 h => CallH.data _ false rfl (stringslite_Index_ok E a0 a1 x1 hx1) <| sn <| sj <| sn ?_
 refine Br.mk (fun ht => ?_) (fun ht => ?_)
 ·replace h := cond_tt h ht
  refine sj <| bind_elim h fun x2 hx2 h => ?_
  have qx2 := (slc_some hx2).1
  have hx2e := (slc_some hx2).2
  refine ai (fun _ => qx2) <| NormE.to (AV.str x2) (fun _ => congrArg AV.str hx2e.symm) <| NormE.same <| bind_elim h fun x3 hx3 h => ?_
  have qx3 := (slc_some hx3).1
  have hx3e := (slc_some hx3).2
  refine ai (fun _ => qx3) <| NormE.to (AV.str x3) (fun _ => congrArg AV.str hx3e.symm) <| ai (by kernel_rfl) ?_
  refine SeqN.via (St.of [⟨4, AV.str x2, none⟩, ⟨5, AV.str x3, none⟩, ⟨6, AV.bool true, none⟩] [] []) ?_ ?_
  ·refine Gho.to _ _ _ [] ?_ ?_ ?_ rfl rfl ?_
   ·exact trivial
   ·exact rfl
   ·exact rfl
   ·exact ⟨rfl, rfl, trivial, rfl, rfl, trivial, rfl, rfl, trivial, trivial⟩
  replace h := oi h
  refine RetE.plain ?_
  exact ai rfl (ai (congrArg (fun r : (Bytes × Bytes × Bool) => AV.tup [AV.str r.1, AV.str r.2.1, AV.bool r.2.2]) h) rfl)
 ·replace h := cond_ff h ht
  refine sn <| sj <| sn ?_
  replace h := oi h
  refine RetE.plain ?_
  exact ai rfl (ai (congrArg (fun r : (Bytes × Bytes × Bool) => AV.tup [AV.str r.1, AV.str r.2.1, AV.bool r.2.2]) h) rfl)
theorem strings_Cut_ok (E : Pm.Env) [LaidM E] (a0 : Bytes) (a1 : Bytes) (r : (Bytes × Bytes × Bool)) (h : strings_Cut a0 a1 = some r) : FnR E Tryz.prog 19 [AV.str a0, AV.str a1] (AV.tup [AV.str r.1, AV.str r.2.1, AV.bool r.2.2]) false := by
 refine FnR.of_ev (T := T) (rows := []) tOk mixed Tryz.func19 rfl (by kernel_rfl) (by kernel_rfl) rfl fun hwf => ?_
 unfold strings_Cut at h
 refine sj <| sn <| sj <| bind_elim h fun x1 hx1 h => CallH.data _ false rfl (stringslite_Cut_ok E a0 a1 x1 hx1) <| sn ?_
 replace h := oi h
 refine RetE.plain ?_
 exact ai rfl (ai (congrArg (fun r : (Bytes × Bytes × Bool) => AV.tup [AV.str r.1, AV.str r.2.1, AV.bool r.2.2]) h) rfl)
theorem strings_trimRightByte_ok (E : Pm.Env) [LaidM E] (a0 : Bytes) (a1 : Int) (r : Bytes) (h : strings_trimRightByte a0 a1 = some r) : FnR E Tryz.prog 238 [AV.str a0, AV.int .u8 a1] (AV.str r) false := by
 refine FnR.of_ev (T := T) (rows := []) tOk mixed Tryz.func238 rfl (by kernel_rfl) (by kernel_rfl) rfl fun hwf => ?_
 unfold strings_trimRightByte at h
 refine sj <| sn <| bind_elim h fun j1 hj1 h => ?_
 refine SeqJ.join (St.of [⟨0, AV.str j1, none⟩] [] []) ?_ ?_
 ·clear h; have h := hj1; clear hj1
  refine LoopE.img (fun x : Bytes => St.of [⟨0, AV.str x, none⟩, ⟨1, AV.int .u8 a1, none⟩] [] []) (strings_trimRightByte_b1 a1) a0 h ?_ ?_
  ·refine Gho.to _ _ _ [] ?_ ?_ ?_ rfl rfl ?_
   ·exact trivial
   ·exact rfl
   ·exact rfl
   ·exact ⟨rfl, rfl, trivial, rfl, rfl, trivial, trivial⟩
  intro n1 x y1 h hl1 hr1
  revert h; revert x; intro s2 h
  unfold strings_trimRightByte_b1 at h
  refine sj <| sj <| NormE.same <| ai id <| NormE.same <| ai id <| bind_elim h fun x3 hx3 h => ai id <| ai id ?_
  refine xi x3 (ai (fun hg => gidx_some hx3 hg) ?_)
  refine ai id <| ai id <| ai (fun hg => (and_r hg)) <| sn ?_
  refine Br.mk (fun ht => ?_) (fun ht => ?_)
  ·replace h := cond_tt h ht
   refine sn <| NormE.same <| bind_elim h fun x4 hx4 h => ?_
   have qx4 := (slc_some hx4).1
   have hx4e := (slc_some hx4).2
   refine ai (fun _ => qx4) <| NormE.to (AV.str x4) (fun _ => congrArg AV.str hx4e.symm) ?_
   replace h := oi h
   refine xi ⟨(n1, x4), hl1 _ h.symm⟩ (ai (Nat.lt_succ_self _) ?_)
   refine Gho.to _ _ _ [] ?_ ?_ ?_ rfl rfl ?_
   ·exact trivial
   ·exact rfl
   ·exact rfl
   ·exact ⟨rfl, rfl, trivial, rfl, rfl, trivial, trivial⟩
  ·replace h := cond_ff h ht
   replace h := oi h
   replace h := hr1 _ h.symm
   subst h
   refine Gho.to _ _ _ [] ?_ ?_ ?_ rfl rfl ?_
   ·exact trivial
   ·exact rfl
   ·exact rfl
   ·exact ⟨rfl, rfl, trivial, trivial⟩
 ·clear hj1
  refine sj <| sn ?_
  replace h := oi h
  refine RetE.plain ?_
  exact ai rfl (ai (congrArg (fun r : Bytes => AV.str r) h) rfl)
theorem strings_trimLeftByte_ok (E : Pm.Env) [LaidM E] (a0 : Bytes) (a1 : Int) (r : Bytes) (h : strings_trimLeftByte a0 a1 = some r) : FnR E Tryz.prog 237 [AV.str a0, AV.int .u8 a1] (AV.str r) false := by
 refine FnR.of_ev (T := T) (rows := []) tOk mixed Tryz.func237 rfl (by kernel_rfl) (by kernel_rfl) rfl fun hwf => ?_
 unfold strings_trimLeftByte at h
 refine sj <| sn <| bind_elim h fun j1 hj1 h => ?_
 refine SeqJ.join (St.of [⟨0, AV.str j1, none⟩] [] []) ?_ ?_
 ·clear h; have h := hj1; clear hj1
  refine LoopE.img (fun x : Bytes => St.of [⟨0, AV.str x, none⟩, ⟨1, AV.int .u8 a1, none⟩] [] []) (strings_trimLeftByte_b1 a1) a0 h ?_ ?_
  ·refine Gho.to _ _ _ [] ?_ ?_ ?_ rfl rfl ?_
   ·exact trivial
   ·exact rfl
   ·exact rfl
   ·exact ⟨rfl, rfl, trivial, rfl, rfl, trivial, trivial⟩
  intro n1 x y1 h hl1 hr1
  revert h; revert x; intro s2 h
  unfold strings_trimLeftByte_b1 at h
  refine sj <| sj <| NormE.same <| bind_elim h fun x3 hx3 h => ai id ?_
  refine xi x3 (ai (fun hg => gidx_some hx3 hg) ?_)
  refine ai id <| ai id <| ai (fun hg => (and_r hg)) <| sn ?_
  refine Br.mk (fun ht => ?_) (fun ht => ?_)
  ·replace h := cond_tt h ht
   refine sn <| bind_elim h fun x4 hx4 h => ?_
   have qx4 := (slc_some hx4).1
   have hx4e := (slc_some hx4).2
   refine ai (fun _ => qx4) <| NormE.to (AV.str x4) (fun _ => congrArg AV.str hx4e.symm) ?_
   replace h := oi h
   refine xi ⟨(n1, x4), hl1 _ h.symm⟩ (ai (Nat.lt_succ_self _) ?_)
   refine Gho.to _ _ _ [] ?_ ?_ ?_ rfl rfl ?_
   ·exact trivial
   ·exact rfl
   ·exact rfl
   ·exact ⟨rfl, rfl, trivial, rfl, rfl, trivial, trivial⟩
  ·replace h := cond_ff h ht
   replace h := oi h
   replace h := hr1 _ h.symm
   subst h
   refine Gho.to _ _ _ [] ?_ ?_ ?_ rfl rfl ?_
   ·exact trivial
   ·exact rfl
   ·exact rfl
   ·exact ⟨rfl, rfl, trivial, trivial⟩
 ·clear hj1
  refine sj <| sn ?_
  replace h := oi h
  refine RetE.plain ?_
  exact ai rfl (ai (congrArg (fun r : Bytes => AV.str r) h) rfl)
theorem strings_makeASCIISet_ok (E : Pm.Env) [LaidM E] (a0 : Bytes) (r : ((List Bool) × Bool)) (h : strings_makeASCIISet a0 = some r) : FnR E Tryz.prog 228 [AV.str a0] (AV.tup [AV.agg (r.1.map AV.bool), AV.bool r.2]) false := by
 refine FnR.of_ev (T := T) (rows := []) tOk mixed Tryz.func228 rfl (by kernel_rfl) (by kernel_rfl) rfl fun hwf => ?_
 unfold strings_makeASCIISet at h
 refine sj <| ai rfl <| sn <| sj <| sj <| sn ?_
 refine LoopE.img (fun x : (Int × (List Bool)) => St.of [⟨0, AV.str a0, none⟩, ⟨2, AV.ptr 0 0, none⟩, ⟨4, AV.int .i64 x.1, none⟩] [.cells 245 (x.2.map AV.bool) []] []) (strings_makeASCIISet_b1 a0) ((0 : Int), (List.replicate 256 false)) h ?_ ?_
 ·refine Gho.to _ _ _ [] ?_ ?_ ?_ rfl rfl ?_
  ·exact ⟨⟨rfl, rfl, rfl⟩, trivial⟩
  ·exact (and_tt' (noB_map _ (fun _ => rfl) _) rfl)
  ·exact rfl
  ·exact ⟨rfl, rfl, trivial, rfl, rfl, trivial, rfl, rfl, trivial, trivial⟩
 intro n1 x y1 h hl1 hr1
 obtain ⟨s1, s2⟩ := x
 unfold strings_makeASCIISet_b1 at h
 dsimp only at h
 refine sj <| sj <| NormE.same <| sn ?_
 refine Br.mk (fun ht => ?_) (fun ht => ?_)
 ·replace h := cond_tt h ht
  refine sn <| sj <| sj <| bind_elim h fun x3 hx3 h => ?_
  refine xi x3 (ai (fun hg => idx_some hx3) ?_)
  refine sn <| sj <| sj <| sn ?_
  refine Br.mk (fun ht => ?_) (fun ht => ?_)
  ·replace h := cond_tt h ht
   refine sj <| chk_elim h fun q4 h => ai ⟨lb rfl, arr_fits _ q4⟩ <| NormE.to (AV.agg (s2.map AV.bool)) (fun _ => arr_load _ q4) <| chk_elim h fun q5 h => ?_
   refine ai ⟨rfl, arr_len _ q5.1, rfl, arr_fits _ q5.2⟩ (xi (s2.map AV.bool) (ai (fun _ => arr_store _ _ q5.1 (by rw [List.length_map]; exact q5.2)) ?_))
   refine sn <| chk_elim h fun hd1 h => ?_
   replace h := oi h
   replace h := hr1 _ h.symm
   refine RetE.plain ?_
   refine ai ⟨lb rfl, arr_fits _ hd1⟩ (xi (AV.agg (s2.map AV.bool)) (ai (arr_load _ hd1) ?_))
   exact ai (and_tt' (puB_map _ (fun _ => rfl) _) (and_tt' rfl rfl)) (ai (congrArg (fun r : ((List Bool) × Bool) => AV.tup [AV.agg (r.1.map AV.bool), AV.bool r.2]) h) rfl)
  ·replace h := cond_ff h ht
   refine sn <| chk_elim h fun q6 h => ai (fun _ => q6) <| bind_elim h fun x7 hx7 h => ?_
   have qx7 := (seti_some hx7).1
   have hx7e := (seti_some hx7).2
   refine ai ⟨rfl, rfl, rfl, seti_len AV.bool qx7 0 rfl⟩ (xi (x7.map AV.bool) (ai (fun hw => seti_map' AV.bool _ qx7 hx7e) ?_))
   refine sn ?_
   replace h := oi h
   refine xi ⟨(n1, ((IntKind.i64.wrap (s1 + (1 : Int))), x7)), hl1 _ h.symm⟩ (ai (Nat.lt_succ_self _) ?_)
   refine Gho.to _ _ _ [] ?_ ?_ ?_ rfl rfl ?_
   ·exact ⟨⟨rfl, rfl, rfl⟩, trivial⟩
   ·exact (and_tt' (noB_map _ (fun _ => rfl) _) rfl)
   ·exact rfl
   ·exact ⟨rfl, rfl, trivial, rfl, rfl, trivial, rfl, rfl, trivial, trivial⟩
 ·replace h := cond_ff h ht
  refine sn <| sj <| chk_elim h fun q8 h => ai ⟨lb rfl, arr_fits _ q8⟩ <| NormE.to (AV.agg (s2.map AV.bool)) (fun _ => arr_load _ q8) <| chk_elim h fun q9 h => ?_
  refine ai ⟨rfl, arr_len _ q9.1, rfl, arr_fits _ q9.2⟩ (xi (s2.map AV.bool) (ai (fun _ => arr_store _ _ q9.1 (by rw [List.length_map]; exact q9.2)) ?_))
  refine sn <| chk_elim h fun hd1 h => ?_
  replace h := oi h
  replace h := hr1 _ h.symm
  refine RetE.plain ?_
  refine ai ⟨lb rfl, arr_fits _ hd1⟩ (xi (AV.agg (s2.map AV.bool)) (ai (arr_load _ hd1) ?_))
  exact ai (and_tt' (puB_map _ (fun _ => rfl) _) (and_tt' rfl rfl)) (ai (congrArg (fun r : ((List Bool) × Bool) => AV.tup [AV.agg (r.1.map AV.bool), AV.bool r.2]) h) rfl)
theorem strings_asciiSet_contains_ok (E : Pm.Env) [LaidM E] (a0 : (List Bool)) (a1 : Int) (r : Bool) (h : strings_asciiSet_contains a0 a1 = some r) : FnR E Tryz.prog 229 [AV.iptr (a0.map AV.bool), AV.int .u8 a1] (AV.bool r) false := by
 refine FnR.of_ev (T := T) (rows := []) tOk mixed Tryz.func229 rfl (by kernel_rfl) (by kernel_rfl) rfl fun hwf => ?_
 unfold strings_asciiSet_contains at h
 refine sj <| sn <| sj <| chk_elim h fun q1 h => ai (fun _ => q1) <| bind_elim h fun x2 hx2 h => optE.mk (c := AV.bool x2) (drop_get _ hx2) <| sn ?_
 replace h := oi h
 refine RetE.plain ?_
 exact ai rfl (ai (congrArg (fun r : Bool => AV.bool r) h) rfl)
theorem strings_trimRightASCII_ok (E : Pm.Env) [LaidM E] (a0 : Bytes) (a1 : (List Bool)) (r : Bytes) (h : strings_trimRightASCII a0 a1 = some r) : FnR E Tryz.prog 240 [AV.str a0, AV.iptr (a1.map AV.bool)] (AV.str r) false := by
 refine FnR.of_ev (T := T) (rows := []) tOk mixed Tryz.func240 rfl (by kernel_rfl) (by kernel_rfl) rfl fun hwf => ?_
 unfold strings_trimRightASCII at h
 refine sj <| sn <| bind_elim h fun j1 hj1 h => ?_
 refine SeqJ.join (St.of [⟨0, AV.str j1, none⟩] [] []) ?_ ?_
 ·clear h; have h := hj1; clear hj1
  refine LoopE.img (fun x : Bytes => St.of [⟨0, AV.str x, none⟩, ⟨1, AV.iptr (a1.map AV.bool), none⟩] [] []) (strings_trimRightASCII_b1 a1) a0 h ?_ ?_
  ·refine Gho.to _ _ _ [] ?_ ?_ ?_ rfl rfl ?_
   ·exact trivial
   ·exact rfl
   ·exact rfl
   ·exact ⟨rfl, rfl, trivial, rfl, rfl, trivial, trivial⟩
  intro n1 x y1 h hl1 hr1
  revert h; revert x; intro s2 h
  unfold strings_trimRightASCII_b1 at h
  refine sj <| sj <| NormE.same <| sn ?_
  refine Br.mk (fun ht => ?_) (fun ht => ?_)
  ·replace h := cond_tt h ht
   refine sn <| sj <| sj <| NormE.same <| bind_elim h fun x3 hx3 h => ?_
   refine xi x3 (ai (fun hg => idx_some hx3) ?_)
   refine bind_elim h fun x4 hx4 h => CallH.data _ false rfl (strings_asciiSet_contains_ok E a1 (x3.toNat : Int) x4 hx4) <| sn ?_
   refine Br.mk (fun ht => ?_) (fun ht => ?_)
   ·replace h := cond_tt h ht
    replace h := oi h
    replace h := hr1 _ h.symm
    subst h
    refine Gho.to _ _ _ [] ?_ ?_ ?_ rfl rfl ?_
    ·exact trivial
    ·exact rfl
    ·exact rfl
    ·exact ⟨rfl, rfl, trivial, trivial⟩
   ·replace h := cond_ff h ht
    refine sn <| NormE.same <| bind_elim h fun x5 hx5 h => ?_
    have qx5 := (slc_some hx5).1
    have hx5e := (slc_some hx5).2
    refine ai (fun _ => qx5) <| NormE.to (AV.str x5) (fun _ => congrArg AV.str hx5e.symm) ?_
    replace h := oi h
    refine xi ⟨(n1, x5), hl1 _ h.symm⟩ (ai (Nat.lt_succ_self _) ?_)
    refine Gho.to _ _ _ [] ?_ ?_ ?_ rfl rfl ?_
    ·exact trivial
    ·exact rfl
    ·exact rfl
    ·exact ⟨rfl, rfl, trivial, rfl, rfl, trivial, trivial⟩
  ·replace h := cond_ff h ht
   replace h := oi h
   replace h := hr1 _ h.symm
   subst h
   refine Gho.to _ _ _ [] ?_ ?_ ?_ rfl rfl ?_
   ·exact trivial
   ·exact rfl
   ·exact rfl
   ·exact ⟨rfl, rfl, trivial, trivial⟩
 ·clear hj1
  refine sj <| sn ?_
  replace h := oi h
  refine RetE.plain ?_
  exact ai rfl (ai (congrArg (fun r : Bytes => AV.str r) h) rfl)
theorem strings_trimLeftASCII_ok (E : Pm.Env) [LaidM E] (a0 : Bytes) (a1 : (List Bool)) (r : Bytes) (h : strings_trimLeftASCII a0 a1 = some r) : FnR E Tryz.prog 239 [AV.str a0, AV.iptr (a1.map AV.bool)] (AV.str r) false := by
 refine FnR.of_ev (T := T) (rows := []) tOk mixed Tryz.func239 rfl (by kernel_rfl) (by kernel_rfl) rfl fun hwf => ?_
 unfold strings_trimLeftASCII at h
 refine sj <| sn <| bind_elim h fun j1 hj1 h => ?_
 refine SeqJ.join (St.of [⟨0, AV.str j1, none⟩] [] []) ?_ ?_
 ·clear h; have h := hj1; clear hj1
  refine LoopE.img (fun x : Bytes => St.of [⟨0, AV.str x, none⟩, ⟨1, AV.iptr (a1.map AV.bool), none⟩] [] []) (strings_trimLeftASCII_b1 a1) a0 h ?_ ?_
  ·refine Gho.to _ _ _ [] ?_ ?_ ?_ rfl rfl ?_
   ·exact trivial
   ·exact rfl
   ·exact rfl
   ·exact ⟨rfl, rfl, trivial, rfl, rfl, trivial, trivial⟩
  intro n1 x y1 h hl1 hr1
  revert h; revert x; intro s2 h
  unfold strings_trimLeftASCII_b1 at h
  refine sj <| sj <| NormE.same <| sn ?_
  refine Br.mk (fun ht => ?_) (fun ht => ?_)
  ·replace h := cond_tt h ht
   refine sn <| sj <| sj <| bind_elim h fun x3 hx3 h => ?_
   refine xi x3 (ai (fun hg => idx_some hx3) ?_)
   refine bind_elim h fun x4 hx4 h => CallH.data _ false rfl (strings_asciiSet_contains_ok E a1 (x3.toNat : Int) x4 hx4) <| sn ?_
   refine Br.mk (fun ht => ?_) (fun ht => ?_)
   ·replace h := cond_tt h ht
    replace h := oi h
    replace h := hr1 _ h.symm
    subst h
    refine Gho.to _ _ _ [] ?_ ?_ ?_ rfl rfl ?_
    ·exact trivial
    ·exact rfl
    ·exact rfl
    ·exact ⟨rfl, rfl, trivial, trivial⟩
   ·replace h := cond_ff h ht
    refine sn <| bind_elim h fun x5 hx5 h => ?_
    have qx5 := (slc_some hx5).1
    have hx5e := (slc_some hx5).2
    refine ai (fun _ => qx5) <| NormE.to (AV.str x5) (fun _ => congrArg AV.str hx5e.symm) ?_
    replace h := oi h
    refine xi ⟨(n1, x5), hl1 _ h.symm⟩ (ai (Nat.lt_succ_self _) ?_)
    refine Gho.to _ _ _ [] ?_ ?_ ?_ rfl rfl ?_
    ·exact trivial
    ·exact rfl
    ·exact rfl
    ·exact ⟨rfl, rfl, trivial, rfl, rfl, trivial, trivial⟩
  ·replace h := cond_ff h ht
   replace h := oi h
   replace h := hr1 _ h.symm
   subst h
   refine Gho.to _ _ _ [] ?_ ?_ ?_ rfl rfl ?_
   ·exact trivial
   ·exact rfl
   ·exact rfl
   ·exact ⟨rfl, rfl, trivial, trivial⟩
 ·clear hj1
  refine sj <| sn ?_
  replace h := oi h
  refine RetE.plain ?_
  exact ai rfl (ai (congrArg (fun r : Bytes => AV.str r) h) rfl)
theorem unicode_utf8_RuneStart_ok (E : Pm.Env) [LaidM E] (a0 : Int) (r : Bool) (h : unicode_utf8_RuneStart a0 = some r) : FnR E Tryz.prog 268 [AV.int .u8 a0] (AV.bool r) false := by
 refine FnR.of_ev (T := T) (rows := []) tOk mixed Tryz.func268 rfl (by kernel_rfl) (by kernel_rfl) rfl fun hwf => ?_
 unfold unicode_utf8_RuneStart at h
 refine sj <| sn <| sj <| sn ?_
 replace h := oi h
 refine RetE.plain ?_
 exact ai rfl (ai (congrArg (fun r : Bool => AV.bool r) h) rfl)
theorem unicode_utf8_decodeRuneInStringSlow_ok (E : Pm.Env) [LaidM E] (a0 : Bytes) (r : (Int × Int)) (h : unicode_utf8_decodeRuneInStringSlow a0 = some r) : FnR E Tryz.prog 256 [AV.str a0] (AV.tup [AV.int .i32 r.1, AV.int .i64 r.2]) false := by
 refine FnR.of_ev (T := T) (rows := []) tOk mixed Tryz.func256 rfl (by kernel_rfl) (by kernel_rfl) rfl fun hwf => ?_
 unfold unicode_utf8_decodeRuneInStringSlow at h
 refine sj <| sn <| sj <| NormE.same <| sn <| sj <| sj <| sn ?_
 refine Br.mk (fun ht => ?_) (fun ht => ?_)
 ·replace h := cond_tt h ht
  refine sj <| sn ?_
  replace h := oi h
  refine RetE.plain ?_
  exact ai rfl (ai (congrArg (fun r : (Int × Int) => AV.tup [AV.int .i32 r.1, AV.int .i64 r.2]) h) rfl)
 ·replace h := cond_ff h ht
  refine sn <| sj <| bind_elim h fun x1 hx1 h => ?_
  refine xi x1 (ai (fun hg => idx_some hx1) ?_)
  refine sn <| sj ?_
  cases h
theorem unicode_utf8_DecodeRuneInString_ok (E : Pm.Env) [LaidM E] (a0 : Bytes) (r : (Int × Int)) (h : unicode_utf8_DecodeRuneInString a0 = some r) : FnR E Tryz.prog 224 [AV.str a0] (AV.tup [AV.int .i32 r.1, AV.int .i64 r.2]) false := by
 refine FnR.of_ev (T := T) (rows := []) tOk mixed Tryz.func224 rfl (by kernel_rfl) (by kernel_rfl) rfl fun hwf => ?_
 unfold unicode_utf8_DecodeRuneInString at h
 refine sj <| sn <| sj <| sj <| bind_elim h fun x1 hx1 h => ai id ?_
 refine xi x1 (ai (fun hg => gidx_some hx1 hg) ?_)
 refine ai id <| ai (fun hg => (and_r hg)) <| sn ?_
 refine Br.mk (fun ht => ?_) (fun ht => ?_)
 ·replace h := cond_tt h ht
  refine sj <| bind_elim h fun x2 hx2 h => ?_
  refine xi x2 (ai (fun hg => idx_some hx2) ?_)
  refine sn ?_
  replace h := oi h
  refine RetE.plain ?_
  exact ai rfl (ai (congrArg (fun r : (Int × Int) => AV.tup [AV.int .i32 r.1, AV.int .i64 r.2]) h) rfl)
 ·replace h := cond_ff h ht
  refine bind_elim h fun x3 hx3 h => CallH.data _ false rfl (unicode_utf8_decodeRuneInStringSlow_ok E a0 x3 hx3) ?_
  refine SeqN.via (St.of [⟨2, AV.int .i32 x3.1, none⟩, ⟨3, AV.int .i64 x3.2, none⟩] [] []) ?_ ?_
  ·refine Gho.to _ _ _ [] ?_ ?_ ?_ rfl rfl ?_
   ·exact trivial
   ·exact rfl
   ·exact rfl
   ·exact ⟨rfl, rfl, trivial, rfl, rfl, trivial, trivial⟩
  replace h := oi h
  refine RetE.plain ?_
  exact ai rfl (ai (congrArg (fun r : (Int × Int) => AV.tup [AV.int .i32 r.1, AV.int .i64 r.2]) h) rfl)
theorem unicode_utf8_DecodeLastRuneInString_ok (E : Pm.Env) [LaidM E] (a0 : Bytes) (r : (Int × Int)) (h : unicode_utf8_DecodeLastRuneInString a0 = some r) : FnR E Tryz.prog 262 [AV.str a0] (AV.tup [AV.int .i32 r.1, AV.int .i64 r.2]) false := by
 refine FnR.of_ev (T := T) (rows := []) tOk mixed Tryz.func262 rfl (by kernel_rfl) (by kernel_rfl) rfl fun hwf => ?_
 unfold unicode_utf8_DecodeLastRuneInString at h
 refine sj <| sn <| sj <| NormE.same <| sn <| sj <| sj <| sn ?_
 refine Br.mk (fun ht => ?_) (fun ht => ?_)
 ·replace h := cond_tt h ht
  refine sj <| sn ?_
  replace h := oi h
  refine RetE.plain ?_
  exact ai rfl (ai (congrArg (fun r : (Int × Int) => AV.tup [AV.int .i32 r.1, AV.int .i64 r.2]) h) rfl)
 ·replace h := cond_ff h ht
  refine sn <| sj <| sn <| sj <| bind_elim h fun x1 hx1 h => ?_
  refine xi x1 (ai (fun hg => idx_some hx1) ?_)
  refine sn <| sj <| sj ?_
  refine SeqN.via (St.of [⟨0, AV.str a0, none⟩, ⟨2, AV.int .i32 (IntKind.i32.wrap (x1.toNat : Int)), none⟩, ⟨4, AV.int .i64 (a0.length : Int), none⟩, ⟨5, AV.int .i64 (IntKind.i64.wrap ((a0.length : Int) - (1 : Int))), none⟩, ⟨18, AV.bool (decide ((IntKind.i32.wrap (x1.toNat : Int)) < (128 : Int))), none⟩] [] []) ?_ ?_
  ·refine Gho.to _ _ _ [] ?_ ?_ ?_ rfl rfl ?_
   ·exact trivial
   ·exact rfl
   ·exact rfl
   ·exact ⟨rfl, rfl, trivial, rfl, rfl, trivial, rfl, rfl, trivial, rfl, rfl, trivial, rfl, rfl, trivial, trivial⟩
  refine Br.mk (fun ht => ?_) (fun ht => ?_)
  ·replace h := cond_tt h ht
   refine sj <| sn ?_
   replace h := oi h
   refine RetE.plain ?_
   exact ai rfl (ai (congrArg (fun r : (Int × Int) => AV.tup [AV.int .i32 r.1, AV.int .i64 r.2]) h) rfl)
  ·replace h := cond_ff h ht
   refine sn <| sj <| ai rfl <| sn <| bind_elim h fun j2 hj2 h => ?_
   refine SeqJ.join (St.of [⟨0, AV.str a0, none⟩, ⟨4, AV.int .i64 (a0.length : Int), none⟩, ⟨5, AV.int .i64 j2, none⟩] [] []) ?_ ?_
   ·clear h; have h := hj2; clear hj2
    refine sj <| sn ?_
    refine LoopE.img (fun x : Int => St.of [⟨0, AV.str a0, none⟩, ⟨4, AV.int .i64 (a0.length : Int), none⟩, ⟨5, AV.int .i64 x, none⟩, ⟨6, AV.int .i64 (imax (IntKind.i64.wrap ((a0.length : Int) - (4 : Int))) (0 : Int)), none⟩] [] []) (unicode_utf8_DecodeLastRuneInString_b1 a0) (IntKind.i64.wrap ((IntKind.i64.wrap ((a0.length : Int) - (1 : Int))) - (1 : Int))) h ?_ ?_
    ·refine Gho.to _ _ _ [] ?_ ?_ ?_ rfl rfl ?_
     ·exact trivial
     ·exact rfl
     ·exact rfl
     ·exact ⟨rfl, rfl, trivial, rfl, rfl, trivial, rfl, rfl, trivial, rfl, rfl, trivial, trivial⟩
    intro n1 x y1 h hl1 hr1
    revert h; revert x; intro s3 h
    unfold unicode_utf8_DecodeLastRuneInString_b1 at h
    refine sj <| sj <| sn ?_
    refine Br.mk (fun ht => ?_) (fun ht => ?_)
    ·replace h := cond_tt h ht
     refine sn <| sj <| sj <| bind_elim h fun x4 hx4 h => ?_
     refine xi x4 (ai (fun hg => idx_some hx4) ?_)
     refine bind_elim h fun x5 hx5 h => CallH.data _ false rfl (unicode_utf8_RuneStart_ok E (x4.toNat : Int) x5 hx5) <| sn ?_
     refine Br.mk (fun ht => ?_) (fun ht => ?_)
     ·replace h := cond_tt h ht
      replace h := oi h
      replace h := hr1 _ h.symm
      subst h
      refine Gho.to _ _ _ [] ?_ ?_ ?_ rfl rfl ?_
      ·exact trivial
      ·exact rfl
      ·exact rfl
      ·exact ⟨rfl, rfl, trivial, rfl, rfl, trivial, rfl, rfl, trivial, trivial⟩
     ·replace h := cond_ff h ht
      refine sn ?_
      replace h := oi h
      refine xi ⟨(n1, (IntKind.i64.wrap (s3 - (1 : Int)))), hl1 _ h.symm⟩ (ai (Nat.lt_succ_self _) ?_)
      refine Gho.to _ _ _ [] ?_ ?_ ?_ rfl rfl ?_
      ·exact trivial
      ·exact rfl
      ·exact rfl
      ·exact ⟨rfl, rfl, trivial, rfl, rfl, trivial, rfl, rfl, trivial, rfl, rfl, trivial, trivial⟩
    ·replace h := cond_ff h ht
     replace h := oi h
     replace h := hr1 _ h.symm
     subst h
     refine Gho.to _ _ _ [] ?_ ?_ ?_ rfl rfl ?_
     ·exact trivial
     ·exact rfl
     ·exact rfl
     ·exact ⟨rfl, rfl, trivial, rfl, rfl, trivial, rfl, rfl, trivial, trivial⟩
   ·clear hj2
    refine sj <| sj <| sn ?_
    refine Br.mk (fun ht => ?_) (fun ht => ?_)
    ·replace h := cond_tt h ht
     refine sn <| sj <| bind_elim h fun x6 hx6 h => ?_
     have qx6 := (slc_some hx6).1
     have hx6e := (slc_some hx6).2
     refine ai (fun _ => qx6) <| NormE.to (AV.str x6) (fun _ => congrArg AV.str hx6e.symm) <| bind_elim h fun x7 hx7 h => CallH.data _ false rfl (unicode_utf8_DecodeRuneInString_ok E x6 x7 hx7) <| sn <| sj <| sj ?_
     refine SeqN.via (St.of [⟨2, AV.int .i32 x7.1, none⟩, ⟨3, AV.int .i64 x7.2, none⟩, ⟨48, AV.bool ((IntKind.i64.wrap ((0 : Int) + x7.2)) != (a0.length : Int)), none⟩] [] []) ?_ ?_
     ·refine Gho.to _ _ _ [] ?_ ?_ ?_ rfl rfl ?_
      ·exact trivial
      ·exact rfl
      ·exact rfl
      ·exact ⟨rfl, rfl, trivial, rfl, rfl, trivial, rfl, rfl, trivial, trivial⟩
     refine Br.mk (fun ht => ?_) (fun ht => ?_)
     ·replace h := cond_tt h ht
      refine sj <| sn ?_
      replace h := oi h
      refine RetE.plain ?_
      exact ai rfl (ai (congrArg (fun r : (Int × Int) => AV.tup [AV.int .i32 r.1, AV.int .i64 r.2]) h) rfl)
     ·replace h := cond_ff h ht
      refine sn <| sj <| sn ?_
      replace h := oi h
      refine RetE.plain ?_
      exact ai rfl (ai (congrArg (fun r : (Int × Int) => AV.tup [AV.int .i32 r.1, AV.int .i64 r.2]) h) rfl)
    ·replace h := cond_ff h ht
     refine sn <| sj <| bind_elim h fun x8 hx8 h => ?_
     have qx8 := (slc_some hx8).1
     have hx8e := (slc_some hx8).2
     refine ai (fun _ => qx8) <| NormE.to (AV.str x8) (fun _ => congrArg AV.str hx8e.symm) <| bind_elim h fun x9 hx9 h => CallH.data _ false rfl (unicode_utf8_DecodeRuneInString_ok E x8 x9 hx9) <| sn <| sj <| sj ?_
     refine SeqN.via (St.of [⟨2, AV.int .i32 x9.1, none⟩, ⟨3, AV.int .i64 x9.2, none⟩, ⟨48, AV.bool ((IntKind.i64.wrap (j2 + x9.2)) != (a0.length : Int)), none⟩] [] []) ?_ ?_
     ·refine Gho.to _ _ _ [] ?_ ?_ ?_ rfl rfl ?_
      ·exact trivial
      ·exact rfl
      ·exact rfl
      ·exact ⟨rfl, rfl, trivial, rfl, rfl, trivial, rfl, rfl, trivial, trivial⟩
     refine Br.mk (fun ht => ?_) (fun ht => ?_)
     ·replace h := cond_tt h ht
      refine sj <| sn ?_
      replace h := oi h
      refine RetE.plain ?_
      exact ai rfl (ai (congrArg (fun r : (Int × Int) => AV.tup [AV.int .i32 r.1, AV.int .i64 r.2]) h) rfl)
     ·replace h := cond_ff h ht
      refine sn <| sj <| sn ?_
      replace h := oi h
      refine RetE.plain ?_
      exact ai rfl (ai (congrArg (fun r : (Int × Int) => AV.tup [AV.int .i32 r.1, AV.int .i64 r.2]) h) rfl)
theorem strings_IndexByte_ok (E : Pm.Env) [LaidM E] (a0 : Bytes) (a1 : Int) (r : Int) (h : strings_IndexByte a0 a1 = some r) : FnR E Tryz.prog 151 [AV.str a0, AV.int .u8 a1] (AV.int .i64 r) false := by
 refine FnR.of_ev (T := T) (rows := []) tOk mixed Tryz.func151 rfl (by kernel_rfl) (by kernel_rfl) rfl fun hwf => ?_
 unfold strings_IndexByte at h
 refine sj <| sn <| sj <| bind_elim h fun x1 hx1 h => CallH.data _ false rfl (stringslite_IndexByte_ok E a0 a1 x1 hx1) <| sn ?_
 replace h := oi h
 refine RetE.plain ?_
 exact ai rfl (ai (congrArg (fun r : Int => AV.int .i64 r) h) rfl)
theorem unicode_utf8_ValidRune_ok (E : Pm.Env) [LaidM E] (a0 : Int) (r : Bool) (h : unicode_utf8_ValidRune a0 = some r) : FnR E Tryz.prog 257 [AV.int .i32 a0] (AV.bool r) false := by
 refine FnR.of_ev (T := T) (rows := []) tOk mixed Tryz.func257 rfl (by kernel_rfl) (by kernel_rfl) rfl fun hwf => ?_
 unfold unicode_utf8_ValidRune at h
 refine sj <| sn <| sj <| sj <| ai id <| ai (fun hg => (and_r hg)) <| sn ?_
 refine Br.mk (fun ht => ?_) (fun ht => ?_)
 ·replace h := cond_tt h ht
  refine sj <| sn ?_
  replace h := oi h
  refine RetE.plain ?_
  exact ai rfl (ai (congrArg (fun r : Bool => AV.bool r) h) rfl)
 ·replace h := cond_ff h ht
  refine sj <| ai id <| ai (fun hg => (and_r hg)) <| sn ?_
  refine Br.mk (fun ht => ?_) (fun ht => ?_)
  ·replace h := cond_tt h ht
   refine sj ?_
   refine SeqN.via (St.of [⟨2, AV.bool true, none⟩] [] []) ?_ ?_
   ·refine Gho.to _ _ _ [] ?_ ?_ ?_ rfl rfl ?_
    ·exact trivial
    ·exact rfl
    ·exact rfl
    ·exact ⟨rfl, rfl, trivial, trivial⟩
   replace h := oi h
   refine RetE.plain ?_
   exact ai rfl (ai (congrArg (fun r : Bool => AV.bool r) h) rfl)
  ·replace h := cond_ff h ht
   refine sn <| sj ?_
   refine SeqN.via (St.of [⟨2, AV.bool false, none⟩] [] []) ?_ ?_
   ·refine Gho.to _ _ _ [] ?_ ?_ ?_ rfl rfl ?_
    ·exact trivial
    ·exact rfl
    ·exact rfl
    ·exact ⟨rfl, rfl, trivial, trivial⟩
   replace h := oi h
   refine RetE.plain ?_
   exact ai rfl (ai (congrArg (fun r : Bool => AV.bool r) h) rfl)
theorem strings_IndexRune_ok (E : Pm.Env) [LaidM E] (a0 : Bytes) (a1 : Int) (r : Int) (h : strings_IndexRune a0 a1 = some r) : FnR E Tryz.prog 226 [AV.str a0, AV.int .i32 a1] (AV.int .i64 r) false := by
 refine FnR.of_ev (T := T) (rows := []) tOk mixed Tryz.func226 rfl (by kernel_rfl) (by kernel_rfl) rfl fun hwf => ?_
 unfold strings_IndexRune at h
 refine sj <| sn <| sj <| ai id <| ai (fun hg => (and_r hg)) <| sn ?_
 refine Br.mk (fun ht => ?_) (fun ht => ?_)
 ·replace h := cond_tt h ht
  refine sj <| bind_elim h fun x1 hx1 h => CallH.data _ false rfl (strings_IndexByte_ok E a0 (IntKind.u8.wrap a1) x1 hx1) <| sn ?_
  replace h := oi h
  refine RetE.plain ?_
  exact ai rfl (ai (congrArg (fun r : Int => AV.int .i64 r) h) rfl)
 ·replace h := cond_ff h ht
  refine sj <| sn ?_
  refine Br.mk (fun ht => ?_) (fun ht => ?_)
  ·replace h := cond_tt h ht
   refine sj <| sj <| sn ?_
   refine LoopE.img (fun x : Nat => St.of [⟨175, AV.ptr 0 0, none⟩] [.mp (.iter a0 x)] []) (strings_IndexRune_b1 a0) 0 h ?_ ?_
   ·refine Gho.to _ _ _ [] ?_ ?_ ?_ rfl rfl ?_
    ·exact ⟨rfl, trivial⟩
    ·exact rfl
    ·exact rfl
    ·exact ⟨rfl, rfl, trivial, trivial⟩
   intro n1 x y1 h hl1 hr1
   revert h; revert x; intro s2 h
   unfold strings_IndexRune_b1 at h
   refine sj ?_
   refine ai (fun ht => ?_) (fun ht => ?_)
   ·replace h := cond_tt h ht
    refine sn <| sj ?_
    refine Br.mk (fun _ => ?_) (fun hf => absurd hf (by decide))
    refine sn <| sj <| sn <| sj <| sn ?_
    refine Br.mk (fun ht => ?_) (fun ht => ?_)
    ·replace h := cond_tt h ht
     refine sj <| sn ?_
     replace h := oi h
     replace h := hr1 _ h.symm
     refine RetE.plain ?_
     exact ai rfl (ai (congrArg (fun r : Int => AV.int .i64 r) h) rfl)
    ·replace h := cond_ff h ht
     replace h := oi h
     refine xi ⟨(n1, (s2 + widthAt a0 s2)), hl1 _ h.symm⟩ (ai (Nat.lt_succ_self _) ?_)
     refine Gho.to _ _ _ [] ?_ ?_ ?_ rfl rfl ?_
     ·exact ⟨rfl, trivial⟩
     ·exact rfl
     ·exact rfl
     ·exact ⟨rfl, rfl, trivial, trivial⟩
   ·replace h := cond_ff h ht
    refine sn <| sj ?_
    refine Br.mk (fun hf => absurd hf (by decide)) (fun _ => ?_)
    refine sn <| sj <| sn ?_
    replace h := oi h
    replace h := hr1 _ h.symm
    refine RetE.plain ?_
    exact ai rfl (ai (congrArg (fun r : Int => AV.int .i64 r) h) rfl)
  ·replace h := cond_ff h ht
   refine sj <| bind_elim h fun x3 hx3 h => CallH.data _ false rfl (unicode_utf8_ValidRune_ok E a1 x3 hx3) <| sn ?_
   refine Br.mk (fun ht => ?_) (fun ht => ?_)
   ·replace h := cond_tt h ht
    refine sj ?_
    refine SeqN.via (St.of [⟨4, AV.int .i64 (-1 : Int), none⟩] [] []) ?_ ?_
    ·refine Gho.to _ _ _ [] ?_ ?_ ?_ rfl rfl ?_
     ·exact trivial
     ·exact rfl
     ·exact rfl
     ·exact ⟨rfl, rfl, trivial, trivial⟩
    replace h := oi h
    refine RetE.plain ?_
    exact ai rfl (ai (congrArg (fun r : Int => AV.int .i64 r) h) rfl)
   ·replace h := cond_ff h ht
    refine sj ?_
    refine SeqN.via (St.of [⟨0, AV.str a0, none⟩, ⟨7, AV.str (encB a1), none⟩] [] []) ?_ ?_
    ·refine Gho.to _ _ _ [] ?_ ?_ ?_ rfl rfl ?_
     ·exact trivial
     ·exact rfl
     ·exact rfl
     ·exact ⟨rfl, rfl, trivial, rfl, rfl, trivial, trivial⟩
    refine sj <| NormE.same <| sn <| sj <| sn <| sj <| sn <| sj ?_
    refine LoopE.img (fun x : Int => St.of [⟨0, AV.str a0, none⟩, ⟨7, AV.str (encB a1), none⟩, ⟨8, AV.int .i64 (IntKind.i64.wrap (((encB a1).length : Int) - (1 : Int))), none⟩, ⟨9, AV.int .i64 x, none⟩] [] []) (strings_IndexRune_b2 a0 a1) (IntKind.i64.wrap (((encB a1).length : Int) - (1 : Int))) h ?_ ?_
    ·refine Gho.to _ _ _ [] ?_ ?_ ?_ rfl rfl ?_
     ·exact trivial
     ·exact rfl
     ·exact rfl
     ·exact ⟨rfl, rfl, trivial, rfl, rfl, trivial, rfl, rfl, trivial, rfl, rfl, trivial, trivial⟩
    intro n2 x y2 h hl2 hr2
    revert h; revert x; intro s4 h
    unfold strings_IndexRune_b2 at h
    refine sj <| sj <| NormE.same <| sn ?_
    refine Br.mk (fun ht => ?_) (fun ht => ?_)
    ·replace h := cond_tt h ht
     refine sn <| sj <| sj <| bind_elim h fun x5 hx5 h => ?_
     refine xi x5 (ai (fun hg => idx_some hx5) ?_)
     refine bind_elim h fun x6 hx6 h => ?_
     refine xi x6 (ai (fun hg => idx_some hx6) ?_)
     refine ai (by kernel_rfl) <| sn ?_
     refine Br.mk (fun ht => ?_) (fun ht => ?_)
     ·replace h := cond_tt h ht
      refine sj <| bind_elim h fun x7 hx7 h => ?_
      have qx7 := (slc_some hx7).1
      have hx7e := (slc_some hx7).2
      refine ai (fun _ => qx7) <| NormE.to (AV.str x7) (fun _ => congrArg AV.str hx7e.symm) <| bind_elim h fun x8 hx8 h => ?_
      refine xi x8 (ai (fun hg => idx_some hx8) ?_)
      refine bind_elim h fun x9 hx9 h => CallH.data _ false rfl (strings_IndexByte_ok E x7 (x8.toNat : Int) x9 hx9) <| ai (by kernel_rfl) ?_
      refine SeqN.via (St.of [⟨0, AV.str a0, none⟩, ⟨7, AV.str (encB a1), none⟩, ⟨8, AV.int .i64 (IntKind.i64.wrap (((encB a1).length : Int) - (1 : Int))), none⟩, ⟨9, AV.int .i64 s4, none⟩, ⟨11, AV.int .i64 x9, none⟩] [] []) ?_ ?_
      ·refine Gho.to _ _ _ [] ?_ ?_ ?_ rfl rfl ?_
       ·exact trivial
       ·exact rfl
       ·exact rfl
       ·exact ⟨rfl, rfl, trivial, rfl, rfl, trivial, rfl, rfl, trivial, rfl, rfl, trivial, rfl, rfl, trivial, trivial⟩
      refine sj <| sj <| sn ?_
      refine Br.mk (fun ht => ?_) (fun ht => ?_)
      ·replace h := cond_tt h ht
       refine sj <| sn ?_
       replace h := oi h
       replace h := hr2 _ h.symm
       refine RetE.plain ?_
       exact ai rfl (ai (congrArg (fun r : Int => AV.int .i64 r) h) rfl)
      ·replace h := cond_ff h ht
       refine sn <| sn <| sj <| sj <| sn ?_
       refine LoopE.img (fun x : Int => St.of [⟨0, AV.str a0, none⟩, ⟨7, AV.str (encB a1), none⟩, ⟨8, AV.int .i64 (IntKind.i64.wrap (((encB a1).length : Int) - (1 : Int))), none⟩, ⟨9, AV.int .i64 (IntKind.i64.wrap (s4 + (IntKind.i64.wrap (x9 + (1 : Int))))), none⟩, ⟨12, AV.int .i64 x, none⟩] [] []) (strings_IndexRune_b3 a0 a1 s4 x9) (1 : Int) h ?_ ?_
       ·refine Gho.to _ _ _ [] ?_ ?_ ?_ rfl rfl ?_
        ·exact trivial
        ·exact rfl
        ·exact rfl
        ·exact ⟨rfl, rfl, trivial, rfl, rfl, trivial, rfl, rfl, trivial, rfl, rfl, trivial, rfl, rfl, trivial, trivial⟩
       intro n3 x y3 h hl3 hr3
       revert h; revert x; intro s10 h
       unfold strings_IndexRune_b3 at h
       refine sj <| sj <| NormE.same <| sn ?_
       refine Br.mk (fun ht => ?_) (fun ht => ?_)
       ·replace h := cond_tt h ht
        refine sn <| sj <| sj <| bind_elim h fun x11 hx11 h => ?_
        refine xi x11 (ai (fun hg => idx_some hx11) ?_)
        refine bind_elim h fun x12 hx12 h => ?_
        refine xi x12 (ai (fun hg => idx_some hx12) ?_)
        refine ai (by kernel_rfl) <| sn ?_
        refine Br.mk (fun ht => ?_) (fun ht => ?_)
        ·replace h := cond_tt h ht
         cases h
        ·replace h := cond_ff h ht
         refine sn ?_
         replace h := oi h
         refine xi ⟨(n3, (IntKind.i64.wrap (s10 + (1 : Int)))), hl3 _ h.symm⟩ (ai (Nat.lt_succ_self _) ?_)
         refine Gho.to _ _ _ [] ?_ ?_ ?_ rfl rfl ?_
         ·exact trivial
         ·exact rfl
         ·exact rfl
         ·exact ⟨rfl, rfl, trivial, rfl, rfl, trivial, rfl, rfl, trivial, rfl, rfl, trivial, rfl, rfl, trivial, trivial⟩
       ·replace h := cond_ff h ht
        refine sn <| sj <| sj <| sn ?_
        replace h := oi h
        replace h := hr3 _ h.symm
        replace h := hr2 _ h.symm
        refine RetE.plain ?_
        exact ai rfl (ai (congrArg (fun r : Int => AV.int .i64 r) h) rfl)
     ·replace h := cond_ff h ht
      refine sn <| sj <| sj <| sn ?_
      refine LoopE.img (fun x : Int => St.of [⟨0, AV.str a0, none⟩, ⟨7, AV.str (encB a1), none⟩, ⟨8, AV.int .i64 (IntKind.i64.wrap (((encB a1).length : Int) - (1 : Int))), none⟩, ⟨9, AV.int .i64 s4, none⟩, ⟨12, AV.int .i64 x, none⟩] [] []) (strings_IndexRune_b4 a0 a1 s4) (1 : Int) h ?_ ?_
      ·refine Gho.to _ _ _ [] ?_ ?_ ?_ rfl rfl ?_
       ·exact trivial
       ·exact rfl
       ·exact rfl
       ·exact ⟨rfl, rfl, trivial, rfl, rfl, trivial, rfl, rfl, trivial, rfl, rfl, trivial, rfl, rfl, trivial, trivial⟩
      intro n4 x y4 h hl4 hr4
      revert h; revert x; intro s13 h
      unfold strings_IndexRune_b4 at h
      refine sj <| sj <| NormE.same <| sn ?_
      refine Br.mk (fun ht => ?_) (fun ht => ?_)
      ·replace h := cond_tt h ht
       refine sn <| sj <| sj <| bind_elim h fun x14 hx14 h => ?_
       refine xi x14 (ai (fun hg => idx_some hx14) ?_)
       refine bind_elim h fun x15 hx15 h => ?_
       refine xi x15 (ai (fun hg => idx_some hx15) ?_)
       refine ai (by kernel_rfl) <| sn ?_
       refine Br.mk (fun ht => ?_) (fun ht => ?_)
       ·replace h := cond_tt h ht
        cases h
       ·replace h := cond_ff h ht
        refine sn ?_
        replace h := oi h
        refine xi ⟨(n4, (IntKind.i64.wrap (s13 + (1 : Int)))), hl4 _ h.symm⟩ (ai (Nat.lt_succ_self _) ?_)
        refine Gho.to _ _ _ [] ?_ ?_ ?_ rfl rfl ?_
        ·exact trivial
        ·exact rfl
        ·exact rfl
        ·exact ⟨rfl, rfl, trivial, rfl, rfl, trivial, rfl, rfl, trivial, rfl, rfl, trivial, rfl, rfl, trivial, trivial⟩
      ·replace h := cond_ff h ht
       refine sn <| sj <| sj <| sn ?_
       replace h := oi h
       replace h := hr4 _ h.symm
       replace h := hr2 _ h.symm
       refine RetE.plain ?_
       exact ai rfl (ai (congrArg (fun r : Int => AV.int .i64 r) h) rfl)
    ·replace h := cond_ff h ht
     refine sn <| sj <| sj <| sn ?_
     replace h := oi h
     replace h := hr2 _ h.symm
     refine RetE.plain ?_
     exact ai rfl (ai (congrArg (fun r : Int => AV.int .i64 r) h) rfl)
theorem strings_ContainsRune_ok (E : Pm.Env) [LaidM E] (a0 : Bytes) (a1 : Int) (r : Bool) (h : strings_ContainsRune a0 a1 = some r) : FnR E Tryz.prog 261 [AV.str a0, AV.int .i32 a1] (AV.bool r) false := by
 refine FnR.of_ev (T := T) (rows := []) tOk mixed Tryz.func261 rfl (by kernel_rfl) (by kernel_rfl) rfl fun hwf => ?_
 unfold strings_ContainsRune at h
 refine sj <| sn <| sj <| bind_elim h fun x1 hx1 h => CallH.data _ false rfl (strings_IndexRune_ok E a0 a1 x1 hx1) <| sn ?_
 replace h := oi h
 refine RetE.plain ?_
 exact ai rfl (ai (congrArg (fun r : Bool => AV.bool r) h) rfl)
theorem strings_trimRightUnicode_ok (E : Pm.Env) [LaidM E] (a0 : Bytes) (a1 : Bytes) (r : Bytes) (h : strings_trimRightUnicode a0 a1 = some r) : FnR E Tryz.prog 242 [AV.str a0, AV.str a1] (AV.str r) false := by
 refine FnR.of_ev (T := T) (rows := []) tOk mixed Tryz.func242 rfl (by kernel_rfl) (by kernel_rfl) rfl fun hwf => ?_
 unfold strings_trimRightUnicode at h
 refine sj <| sn <| bind_elim h fun j1 hj1 h => ?_
 refine SeqJ.join (St.of [⟨0, AV.str j1, none⟩] [] []) ?_ ?_
 ·clear h; have h := hj1; clear hj1
  refine LoopE.img (fun x : Bytes => St.of [⟨0, AV.str x, none⟩, ⟨1, AV.str a1, none⟩] [] []) (strings_trimRightUnicode_b1 a1) a0 h ?_ ?_
  ·refine Gho.to _ _ _ [] ?_ ?_ ?_ rfl rfl ?_
   ·exact trivial
   ·exact rfl
   ·exact rfl
   ·exact ⟨rfl, rfl, trivial, rfl, rfl, trivial, trivial⟩
  intro n1 x y1 h hl1 hr1
  revert h; revert x; intro s2 h
  unfold strings_trimRightUnicode_b1 at h
  refine sj <| sj <| NormE.same <| sn ?_
  refine Br.mk (fun ht => ?_) (fun ht => ?_)
  ·replace h := cond_tt h ht
   refine sn <| sj <| NormE.same <| bind_elim h fun x3 hx3 h => ?_
   refine xi x3 (ai (fun hg => idx_some hx3) ?_)
   refine sn <| sj <| sj <| sn ?_
   refine Br.mk (fun ht => ?_) (fun ht => ?_)
   ·replace h := cond_tt h ht
    refine bind_elim h fun x4 hx4 h => CallH.data _ false rfl (unicode_utf8_DecodeLastRuneInString_ok E s2 x4 hx4) ?_
    refine SeqN.via (St.of [⟨0, AV.str s2, none⟩, ⟨1, AV.str a1, none⟩, ⟨5, AV.int .i32 x4.1, none⟩, ⟨6, AV.int .i64 x4.2, none⟩] [] []) ?_ ?_
    ·refine Gho.to _ _ _ [] ?_ ?_ ?_ rfl rfl ?_
     ·exact trivial
     ·exact rfl
     ·exact rfl
     ·exact ⟨rfl, rfl, trivial, rfl, rfl, trivial, rfl, rfl, trivial, rfl, rfl, trivial, trivial⟩
    refine sj <| sj <| bind_elim h fun x5 hx5 h => CallH.data _ false rfl (strings_ContainsRune_ok E a1 x4.1 x5 hx5) <| sn ?_
    refine Br.mk (fun ht => ?_) (fun ht => ?_)
    ·replace h := cond_tt h ht
     replace h := oi h
     replace h := hr1 _ h.symm
     subst h
     refine Gho.to _ _ _ [] ?_ ?_ ?_ rfl rfl ?_
     ·exact trivial
     ·exact rfl
     ·exact rfl
     ·exact ⟨rfl, rfl, trivial, trivial⟩
    ·replace h := cond_ff h ht
     refine sn <| NormE.same <| bind_elim h fun x6 hx6 h => ?_
     have qx6 := (slc_some hx6).1
     have hx6e := (slc_some hx6).2
     refine ai (fun _ => qx6) <| NormE.to (AV.str x6) (fun _ => congrArg AV.str hx6e.symm) ?_
     replace h := oi h
     refine xi ⟨(n1, x6), hl1 _ h.symm⟩ (ai (Nat.lt_succ_self _) ?_)
     refine Gho.to _ _ _ [] ?_ ?_ ?_ rfl rfl ?_
     ·exact trivial
     ·exact rfl
     ·exact rfl
     ·exact ⟨rfl, rfl, trivial, rfl, rfl, trivial, trivial⟩
   ·replace h := cond_ff h ht
    refine sn <| sj <| sj <| bind_elim h fun x7 hx7 h => CallH.data _ false rfl (strings_ContainsRune_ok E a1 (IntKind.i32.wrap (x3.toNat : Int)) x7 hx7) ?_
    refine SeqN.via (St.of [⟨0, AV.str s2, none⟩, ⟨1, AV.str a1, none⟩, ⟨6, AV.int .i64 (1 : Int), none⟩, ⟨26, AV.bool (!x7), none⟩] [] []) ?_ ?_
    ·refine Gho.to _ _ _ [] ?_ ?_ ?_ rfl rfl ?_
     ·exact trivial
     ·exact rfl
     ·exact rfl
     ·exact ⟨rfl, rfl, trivial, rfl, rfl, trivial, rfl, rfl, trivial, rfl, rfl, trivial, trivial⟩
    refine Br.mk (fun ht => ?_) (fun ht => ?_)
    ·replace h := cond_tt h ht
     replace h := oi h
     replace h := hr1 _ h.symm
     subst h
     refine Gho.to _ _ _ [] ?_ ?_ ?_ rfl rfl ?_
     ·exact trivial
     ·exact rfl
     ·exact rfl
     ·exact ⟨rfl, rfl, trivial, trivial⟩
    ·replace h := cond_ff h ht
     refine sn <| NormE.same <| bind_elim h fun x8 hx8 h => ?_
     have qx8 := (slc_some hx8).1
     have hx8e := (slc_some hx8).2
     refine ai (fun _ => qx8) <| NormE.to (AV.str x8) (fun _ => congrArg AV.str hx8e.symm) ?_
     replace h := oi h
     refine xi ⟨(n1, x8), hl1 _ h.symm⟩ (ai (Nat.lt_succ_self _) ?_)
     refine Gho.to _ _ _ [] ?_ ?_ ?_ rfl rfl ?_
     ·exact trivial
     ·exact rfl
     ·exact rfl
     ·exact ⟨rfl, rfl, trivial, rfl, rfl, trivial, trivial⟩
  ·replace h := cond_ff h ht
   replace h := oi h
   replace h := hr1 _ h.symm
   subst h
   refine Gho.to _ _ _ [] ?_ ?_ ?_ rfl rfl ?_
   ·exact trivial
   ·exact rfl
   ·exact rfl
   ·exact ⟨rfl, rfl, trivial, trivial⟩
 ·clear hj1
  refine sj <| sn ?_
  replace h := oi h
  refine RetE.plain ?_
  exact ai rfl (ai (congrArg (fun r : Bytes => AV.str r) h) rfl)
theorem strings_trimLeftUnicode_ok (E : Pm.Env) [LaidM E] (a0 : Bytes) (a1 : Bytes) (r : Bytes) (h : strings_trimLeftUnicode a0 a1 = some r) : FnR E Tryz.prog 241 [AV.str a0, AV.str a1] (AV.str r) false := by
 refine FnR.of_ev (T := T) (rows := []) tOk mixed Tryz.func241 rfl (by kernel_rfl) (by kernel_rfl) rfl fun hwf => ?_
 unfold strings_trimLeftUnicode at h
 refine sj <| sn <| bind_elim h fun j1 hj1 h => ?_
 refine SeqJ.join (St.of [⟨0, AV.str j1, none⟩] [] []) ?_ ?_
 ·clear h; have h := hj1; clear hj1
  refine LoopE.img (fun x : Bytes => St.of [⟨0, AV.str x, none⟩, ⟨1, AV.str a1, none⟩] [] []) (strings_trimLeftUnicode_b1 a1) a0 h ?_ ?_
  ·refine Gho.to _ _ _ [] ?_ ?_ ?_ rfl rfl ?_
   ·exact trivial
   ·exact rfl
   ·exact rfl
   ·exact ⟨rfl, rfl, trivial, rfl, rfl, trivial, trivial⟩
  intro n1 x y1 h hl1 hr1
  revert h; revert x; intro s2 h
  unfold strings_trimLeftUnicode_b1 at h
  refine sj <| sj <| NormE.same <| sn ?_
  refine Br.mk (fun ht => ?_) (fun ht => ?_)
  ·replace h := cond_tt h ht
   refine sn <| sj <| bind_elim h fun x3 hx3 h => CallH.data _ false rfl (unicode_utf8_DecodeRuneInString_ok E s2 x3 hx3) <| sn <| sj <| sj <| bind_elim h fun x4 hx4 h => CallH.data _ false rfl (strings_ContainsRune_ok E a1 x3.1 x4 hx4) <| sn ?_
   refine Br.mk (fun ht => ?_) (fun ht => ?_)
   ·replace h := cond_tt h ht
    replace h := oi h
    replace h := hr1 _ h.symm
    subst h
    refine Gho.to _ _ _ [] ?_ ?_ ?_ rfl rfl ?_
    ·exact trivial
    ·exact rfl
    ·exact rfl
    ·exact ⟨rfl, rfl, trivial, trivial⟩
   ·replace h := cond_ff h ht
    refine sn <| bind_elim h fun x5 hx5 h => ?_
    have qx5 := (slc_some hx5).1
    have hx5e := (slc_some hx5).2
    refine ai (fun _ => qx5) <| NormE.to (AV.str x5) (fun _ => congrArg AV.str hx5e.symm) ?_
    replace h := oi h
    refine xi ⟨(n1, x5), hl1 _ h.symm⟩ (ai (Nat.lt_succ_self _) ?_)
    refine Gho.to _ _ _ [] ?_ ?_ ?_ rfl rfl ?_
    ·exact trivial
    ·exact rfl
    ·exact rfl
    ·exact ⟨rfl, rfl, trivial, rfl, rfl, trivial, trivial⟩
  ·replace h := cond_ff h ht
   replace h := oi h
   replace h := hr1 _ h.symm
   subst h
   refine Gho.to _ _ _ [] ?_ ?_ ?_ rfl rfl ?_
   ·exact trivial
   ·exact rfl
   ·exact rfl
   ·exact ⟨rfl, rfl, trivial, trivial⟩
 ·clear hj1
  refine sj <| sn ?_
  replace h := oi h
  refine RetE.plain ?_
  exact ai rfl (ai (congrArg (fun r : Bytes => AV.str r) h) rfl)
theorem strings_Trim_ok (E : Pm.Env) [LaidM E] (a0 : Bytes) (a1 : Bytes) (r : Bytes) (h : strings_Trim a0 a1 = some r) : FnR E Tryz.prog 207 [AV.str a0, AV.str a1] (AV.str r) false := by
 refine FnR.of_ev (T := T) (rows := []) tOk mixed Tryz.func207 rfl (by kernel_rfl) (by kernel_rfl) rfl fun hwf => ?_
 unfold strings_Trim at h
 refine sj <| sn <| sj <| sj <| ai id <| ai (fun hg => (and_r hg)) <| sn ?_
 refine Br.mk (fun ht => ?_) (fun ht => ?_)
 ·replace h := cond_tt h ht
  refine sj <| sn ?_
  replace h := oi h
  refine RetE.plain ?_
  exact ai rfl (ai (congrArg (fun r : Bytes => AV.str r) h) rfl)
 ·replace h := cond_ff h ht
  refine sn <| sj <| sj <| NormE.same <| bind_elim h fun x1 hx1 h => ai id ?_
  refine xi x1 (ai (fun hg => gidx_some hx1 hg) ?_)
  refine ai id <| ai (fun hg => (and_r hg)) <| sn ?_
  refine Br.mk (fun ht => ?_) (fun ht => ?_)
  ·replace h := cond_tt h ht
   refine sj <| bind_elim h fun x2 hx2 h => ?_
   refine xi x2 (ai (fun hg => idx_some hx2) ?_)
   refine bind_elim h fun x3 hx3 h => CallH.data _ false rfl (strings_trimRightByte_ok E a0 (x2.toNat : Int) x3 hx3) <| bind_elim h fun x4 hx4 h => ?_
   refine xi x4 (ai (fun hg => idx_some hx4) ?_)
   refine bind_elim h fun x5 hx5 h => CallH.data _ false rfl (strings_trimLeftByte_ok E x3 (x4.toNat : Int) x5 hx5) <| ai (by kernel_rfl) ?_
   refine SeqN.via (St.of [⟨4, AV.str x5, none⟩] [] []) ?_ ?_
   ·refine Gho.to _ _ _ [] ?_ ?_ ?_ rfl rfl ?_
    ·exact trivial
    ·exact rfl
    ·exact rfl
    ·exact ⟨rfl, rfl, trivial, trivial⟩
   replace h := oi h
   refine RetE.plain ?_
   exact ai rfl (ai (congrArg (fun r : Bytes => AV.str r) h) rfl)
  ·replace h := cond_ff h ht
   refine sn <| sj <| sj <| bind_elim h fun x6 hx6 h => CallH.data _ false rfl (strings_makeASCIISet_ok E a1 x6 hx6) <| ai rfl <| chk_elim h fun q7 h => ?_
   refine ai ⟨rfl, arr_len _ q7, rfl, arr_room rfl⟩ (xi (x6.1.map AV.bool) (ai (fun _ => arr_store _ _ q7 rfl) ?_))
   refine SeqN.via (St.of [⟨0, AV.str a0, none⟩, ⟨1, AV.str a1, none⟩, ⟨5, AV.ptr 0 0, none⟩, ⟨6, AV.bool x6.2, none⟩] [.cells 245 (x6.1.map AV.bool) []] []) ?_ ?_
   ·refine Gho.to _ _ _ [] ?_ ?_ ?_ rfl rfl ?_
    ·exact ⟨⟨rfl, rfl, rfl⟩, trivial⟩
    ·exact (and_tt' (noB_map _ (fun _ => rfl) _) rfl)
    ·exact rfl
    ·exact ⟨rfl, rfl, trivial, rfl, rfl, trivial, rfl, rfl, trivial, rfl, rfl, trivial, trivial⟩
   refine sj <| chk_elim h fun hc1 h => ?_
   refine SeqN.via (St.of [⟨0, AV.str a0, none⟩, ⟨1, AV.str a1, none⟩, ⟨5, AV.iptr (x6.1.map AV.bool), none⟩, ⟨34, AV.bool x6.2, none⟩] [] []) ?_ ?_
   ·refine Gho.trans (Gho.fz [0] [(5, AV.iptr (x6.1.map AV.bool))] ⟨Frz.ptr0 rfl (puB_map _ (fun _ => rfl) _) (by rw [List.length_map]; exact hc1), trivial⟩) ?_
    refine Gho.to _ _ _ [] ?_ ?_ ?_ rfl rfl ?_
    ·exact trivial
    ·exact rfl
    ·exact rfl
    ·exact ⟨rfl, rfl, trivial, rfl, rfl, trivial, rfl, rfl, trivial, rfl, rfl, trivial, trivial⟩
   refine Br.mk (fun ht => ?_) (fun ht => ?_)
   ·replace h := cond_tt h ht
    refine sj <| bind_elim h fun x8 hx8 h => CallH.data _ false rfl (strings_trimRightASCII_ok E a0 x6.1 x8 hx8) <| bind_elim h fun x9 hx9 h => CallH.data _ false rfl (strings_trimLeftASCII_ok E x8 x6.1 x9 hx9) <| sn ?_
    replace h := oi h
    refine RetE.plain ?_
    exact ai rfl (ai (congrArg (fun r : Bytes => AV.str r) h) rfl)
   ·replace h := cond_ff h ht
    refine sn <| sj <| bind_elim h fun x10 hx10 h => CallH.data _ false rfl (strings_trimRightUnicode_ok E a0 a1 x10 hx10) <| bind_elim h fun x11 hx11 h => CallH.data _ false rfl (strings_trimLeftUnicode_ok E x10 a1 x11 hx11) <| sn ?_
    replace h := oi h
    refine RetE.plain ?_
    exact ai rfl (ai (congrArg (fun r : Bytes => AV.str r) h) rfl)
theorem text_Trim_ok (E : Pm.Env) [LaidM E] (a0 : Bytes) (r : Bytes) (h : text_Trim a0 = some r) : FnR E Tryz.prog 175 [AV.str a0] (AV.str r) false := by
 refine FnR.of_ev (T := T) (rows := []) tOk mixed Tryz.func175 rfl (by kernel_rfl) (by kernel_rfl) rfl fun hwf => ?_
 unfold text_Trim at h
 refine sj <| sn <| sj <| bind_elim h fun x1 hx1 h => CallH.data _ false rfl (strings_Trim_ok E a0 ([32, 9] : Bytes) x1 hx1) <| sn ?_
 replace h := oi h
 refine RetE.plain ?_
 exact ai rfl (ai (congrArg (fun r : Bytes => AV.str r) h) rfl)
theorem slices_IndexFunc__api_Field_api_Field_ok (E : Pm.Env) [LaidM E] (a0 : (List S_Field)) (a1 : FuncId) (a1c : List AV) (a1i : S_Field → Option Bool) (a1h : ∀ (x0 : S_Field) (r : Bool), a1i x0 = some r → FnR E Tryz.prog a1 ([S_Field.av x0] ++ a1c) (AV.bool r) false) (a1p : a1c.all AV.puB = true) (r : Int) (h : slices_IndexFunc__api_Field_api_Field a0 a1i = some r) : FnR E Tryz.prog 244 [AV.list 2 (a0.map S_Field.av), AV.fn a1 [] a1c] (AV.int .i64 r) false := by
 refine FnR.of_ev (T := T) (rows := []) tOk mixed Tryz.func244 rfl (by kernel_rfl) (by kernel_rfl) rfl fun hwf => ?_
 unfold slices_IndexFunc__api_Field_api_Field at h
 refine sj <| sn <| sj <| sj <| NormE.to (AV.int .i64 (a0.length : Int)) (fun _ => len_list S_Field.av a0) <| sn ?_
 refine LoopE.img (fun x : Int => St.of [⟨0, AV.list 2 (a0.map S_Field.av), none⟩, ⟨1, AV.fn a1 [] a1c, none⟩, ⟨7, AV.int .i64 (a0.length : Int), none⟩, ⟨8, AV.int .i64 x, none⟩] [] []) (slices_IndexFunc__api_Field_api_Field_b1 a0 a1i) (0 : Int) h ?_ ?_
 ·refine Gho.to _ _ _ [] ?_ ?_ ?_ rfl rfl ?_
  ·exact trivial
  ·exact rfl
  ·exact rfl
  ·exact ⟨rfl, rfl, trivial, rfl, (noB_fn a1p _), trivial, rfl, rfl, trivial, rfl, rfl, trivial, trivial⟩
 intro n1 x y1 h hl1 hr1
 revert h; revert x; intro s1 h
 unfold slices_IndexFunc__api_Field_api_Field_b1 at h
 refine sj <| sn <| sj ?_
 refine Br.mk (fun ht => ?_) (fun ht => ?_)
 ·replace h := cond_tt h ht
  refine sn <| sj <| sj <| sn <| sj <| bind_elim h fun x2 hx2 h => ?_
  refine ai rfl (xi (S_Field.av x2) (ai (fun hg => idx_map _ hx2) ?_))
  refine ai (lb rfl) <| NormE.to (S_Field.av x2) (fun _ => rfl) <| bind_elim h fun x3 hx3 h => CallH.data _ false (puD_app rfl (puD_of a1p)) (a1h x2 x3 hx3) <| sn ?_
  refine Br.mk (fun ht => ?_) (fun ht => ?_)
  ·replace h := cond_tt h ht
   refine sj <| sn ?_
   replace h := oi h
   replace h := hr1 _ h.symm
   refine RetE.plain ?_
   exact ai rfl (ai (congrArg (fun r : Int => AV.int .i64 r) h) rfl)
  ·replace h := cond_ff h ht
   refine sn ?_
   replace h := oi h
   refine xi ⟨(n1, (IntKind.i64.wrap (s1 + (1 : Int)))), hl1 _ h.symm⟩ (ai (Nat.lt_succ_self _) ?_)
   refine Gho.to _ _ _ [] ?_ ?_ ?_ rfl rfl ?_
   ·exact trivial
   ·exact rfl
   ·exact rfl
   ·exact ⟨rfl, rfl, trivial, rfl, (noB_fn a1p _), trivial, rfl, rfl, trivial, rfl, rfl, trivial, trivial⟩
 ·replace h := cond_ff h ht
  refine sn <| sj <| sn ?_
  replace h := oi h
  replace h := hr1 _ h.symm
  refine RetE.plain ?_
  exact ai rfl (ai (congrArg (fun r : Int => AV.int .i64 r) h) rfl)
theorem slices_ContainsFunc__api_Field_api_Field_ok (E : Pm.Env) [LaidM E] (a0 : (List S_Field)) (a1 : FuncId) (a1c : List AV) (a1i : S_Field → Option Bool) (a1h : ∀ (x0 : S_Field) (r : Bool), a1i x0 = some r → FnR E Tryz.prog a1 ([S_Field.av x0] ++ a1c) (AV.bool r) false) (a1p : a1c.all AV.puB = true) (r : Bool) (h : slices_ContainsFunc__api_Field_api_Field a0 a1i = some r) : FnR E Tryz.prog 211 [AV.list 2 (a0.map S_Field.av), AV.fn a1 [] a1c] (AV.bool r) false := by
 refine FnR.of_ev (T := T) (rows := []) tOk mixed Tryz.func211 rfl (by kernel_rfl) (by kernel_rfl) rfl fun hwf => ?_
 unfold slices_ContainsFunc__api_Field_api_Field at h
 refine sj <| sn <| sj <| bind_elim h fun x1 hx1 h => CallH.data _ false (and_tt' rfl (and_tt' (puD_fn a1p) rfl)) (slices_IndexFunc__api_Field_api_Field_ok E a0 a1 a1c a1i a1h a1p x1 hx1) <| sn ?_
 replace h := oi h
 refine RetE.plain ?_
 exact ai rfl (ai (congrArg (fun r : Bool => AV.bool r) h) rfl)
theorem text_tokens_ok (E : Pm.Env) [LaidM E] (r : (List Bool)) (h : text_tokens = some r) : FnR E Tryz.prog 154 [] (AV.iptr (r.map AV.bool)) false := by
 refine FnR.of_ev (T := T) (rows := []) tOk mixed Tryz.func154 rfl (by kernel_rfl) (by kernel_rfl) rfl fun hwf => ?_
 unfold text_tokens at h
 refine sj <| sn <| sj <| ai rfl <| sn <| bind_elim h fun j1 hj1 h => ?_
 refine SeqJ.join (St.of [⟨1, AV.ptr 0 0, none⟩] [.cells 215 (j1.map AV.bool) []] []) ?_ ?_
 ·clear h; have h := hj1; clear hj1
  refine sj <| sn ?_
  refine LoopE.img (fun x : (Int × (List Bool)) => St.of [⟨1, AV.ptr 0 0, none⟩, ⟨4, AV.int .i64 x.1, none⟩] [.cells 215 (x.2.map AV.bool) []] []) text_tokens_b1 ((0 : Int), (List.replicate 256 false)) h ?_ ?_
  ·refine Gho.to _ _ _ [] ?_ ?_ ?_ rfl rfl ?_
   ·exact ⟨⟨rfl, rfl, rfl⟩, trivial⟩
   ·exact (and_tt' (noB_map _ (fun _ => rfl) _) rfl)
   ·exact rfl
   ·exact ⟨rfl, rfl, trivial, rfl, rfl, trivial, trivial⟩
  intro n1 x y1 h hl1 hr1
  obtain ⟨s2, s3⟩ := x
  unfold text_tokens_b1 at h
  dsimp only at h
  refine sj <| sn <| sj ?_
  refine Br.mk (fun ht => ?_) (fun ht => ?_)
  ·replace h := cond_tt h ht
   refine sn <| sj <| sj <| sn <| sj <| sn <| ai id <| ai (fun hg => (and_r hg)) <| ai id <| ai id <| ai id <| ai id <| ai id <| ai (fun hg => (and_r hg)) <| ai id <| ai id <| ai id <| ai id <| ai id <| ai (fun hg => (and_r hg)) <| bind_elim h fun x4 hx4 h => ai id <| ai rfl ?_
   refine CallF.mk _ false (fun hg => strings_IndexByte_ok E ([33, 35, 36, 37, 38, 39, 42, 43, 45, 46, 94, 95, 124, 126, 96] : Bytes) (IntKind.u8.wrap s2) x4 (gcall_some hx4 hg)) (ai rfl ?_)
   refine ai id <| ai (fun hg => (and_r hg)) <| chk_elim h fun q5 h => ai (fun _ => q5) <| bind_elim h fun x6 hx6 h => ?_
   have qx6 := (seti_some hx6).1
   have hx6e := (seti_some hx6).2
   refine ai ⟨rfl, rfl, rfl, seti_len AV.bool qx6 0 rfl⟩ (xi (x6.map AV.bool) (ai (fun hw => seti_map' AV.bool _ qx6 hx6e) ?_))
   refine SeqN.via (St.of [⟨1, AV.ptr 0 0, none⟩, ⟨4, AV.int .i64 s2, none⟩] [.cells 215 (x6.map AV.bool) []] []) ?_ ?_
   ·refine Gho.to _ _ _ [] ?_ ?_ ?_ rfl rfl ?_
    ·exact ⟨⟨rfl, rfl, rfl⟩, trivial⟩
    ·exact (and_tt' (noB_map _ (fun _ => rfl) _) rfl)
    ·exact rfl
    ·exact ⟨rfl, rfl, trivial, rfl, rfl, trivial, trivial⟩
   replace h := oi h
   refine xi ⟨(n1, ((IntKind.i64.wrap (s2 + (1 : Int))), x6)), hl1 _ h.symm⟩ (ai (Nat.lt_succ_self _) ?_)
   refine Gho.to _ _ _ [] ?_ ?_ ?_ rfl rfl ?_
   ·exact ⟨⟨rfl, rfl, rfl⟩, trivial⟩
   ·exact (and_tt' (noB_map _ (fun _ => rfl) _) rfl)
   ·exact rfl
   ·exact ⟨rfl, rfl, trivial, rfl, rfl, trivial, trivial⟩
  ·replace h := cond_ff h ht
   replace h := oi h
   replace h := hr1 _ h.symm
   subst h
   refine Gho.to _ _ _ [] ?_ ?_ ?_ rfl rfl ?_
   ·exact ⟨⟨rfl, rfl, rfl⟩, trivial⟩
   ·exact (and_tt' (noB_map _ (fun _ => rfl) _) rfl)
   ·exact rfl
   ·exact ⟨rfl, rfl, trivial, trivial⟩
 ·clear hj1
  refine sj <| sn <| chk_elim h fun hc1 h => ?_
  replace h := oi h
  refine RetE.frz ?_
  exact xi (AV.iptr (j1.map AV.bool)) (ai (Frz.ptr0 rfl (puB_map _ (fun _ => rfl) _) (by rw [List.length_map]; exact hc1)) (ai (congrArg (fun r : (List Bool) => AV.iptr (r.map AV.bool)) h) rfl))
theorem text_all_ok (E : Pm.Env) [LaidM E] (a0 : Bytes) (a1 : (List Bool)) (a2 : FuncId) (a2c : List AV) (a2i : (List Bool) → Int → Option Bool) (a2h : ∀ (x0 : (List Bool)) (x1 : Int) (r : Bool), a2i x0 x1 = some r → FnR E Tryz.prog a2 ([AV.iptr (x0.map AV.bool), AV.int .u8 x1] ++ a2c) (AV.bool r) false) (a2p : a2c.all AV.puB = true) (r : Bool) (h : text_all a0 a1 a2i = some r) : FnR E Tryz.prog 153 [AV.str a0, AV.iptr (a1.map AV.bool), AV.fn a2 [] a2c] (AV.bool r) false := by
 refine FnR.of_ev (T := T) (rows := []) tOk mixed Tryz.func153 rfl (by kernel_rfl) (by kernel_rfl) rfl fun hwf => ?_
 unfold text_all at h
 refine sj <| sn <| sj <| sj <| NormE.same <| sn ?_
 refine LoopE.img (fun x : Int => St.of [⟨0, AV.str a0, none⟩, ⟨1, AV.iptr (a1.map AV.bool), none⟩, ⟨2, AV.fn a2 [] a2c, none⟩, ⟨9, AV.int .i64 (a0.length : Int), none⟩, ⟨10, AV.int .i64 x, none⟩] [] []) (text_all_b1 a0 a1 a2i) (0 : Int) h ?_ ?_
 ·refine Gho.to _ _ _ [] ?_ ?_ ?_ rfl rfl ?_
  ·exact trivial
  ·exact rfl
  ·exact rfl
  ·exact ⟨rfl, rfl, trivial, rfl, rfl, trivial, rfl, (noB_fn a2p _), trivial, rfl, rfl, trivial, rfl, rfl, trivial, trivial⟩
 intro n1 x y1 h hl1 hr1
 revert h; revert x; intro s1 h
 unfold text_all_b1 at h
 refine sj <| sn <| sj ?_
 refine Br.mk (fun ht => ?_) (fun ht => ?_)
 ·replace h := cond_tt h ht
  refine sn <| sj <| sj <| sn <| sj <| bind_elim h fun x2 hx2 h => ?_
  refine xi x2 (ai (fun hg => idx_some hx2) ?_)
  refine bind_elim h fun x3 hx3 h => CallH.data _ false (puD_app rfl (puD_of a2p)) (a2h a1 (x2.toNat : Int) x3 hx3) <| sn ?_
  refine Br.mk (fun ht => ?_) (fun ht => ?_)
  ·replace h := cond_tt h ht
   refine sj <| sn ?_
   replace h := oi h
   replace h := hr1 _ h.symm
   refine RetE.plain ?_
   exact ai rfl (ai (congrArg (fun r : Bool => AV.bool r) h) rfl)
  ·replace h := cond_ff h ht
   refine sn ?_
   replace h := oi h
   refine xi ⟨(n1, (IntKind.i64.wrap (s1 + (1 : Int)))), hl1 _ h.symm⟩ (ai (Nat.lt_succ_self _) ?_)
   refine Gho.to _ _ _ [] ?_ ?_ ?_ rfl rfl ?_
   ·exact trivial
   ·exact rfl
   ·exact rfl
   ·exact ⟨rfl, rfl, trivial, rfl, rfl, trivial, rfl, (noB_fn a2p _), trivial, rfl, rfl, trivial, rfl, rfl, trivial, trivial⟩
 ·replace h := cond_ff h ht
  refine sn <| sj <| sn ?_
  replace h := oi h
  replace h := hr1 _ h.symm
  refine RetE.plain ?_
  exact ai rfl (ai (congrArg (fun r : Bool => AV.bool r) h) rfl)
theorem text_set_has_ok (E : Pm.Env) [LaidM E] (a0 : (List Bool)) (a1 : Int) (r : Bool) (h : text_set_has a0 a1 = some r) : FnR E Tryz.prog 155 [AV.iptr (a0.map AV.bool), AV.int .u8 a1] (AV.bool r) false := by
 refine FnR.of_ev (T := T) (rows := []) tOk mixed Tryz.func155 rfl (by kernel_rfl) (by kernel_rfl) rfl fun hwf => ?_
 unfold text_set_has at h
 refine sj <| sn <| sj <| chk_elim h fun q1 h => ai (fun _ => q1) <| bind_elim h fun x2 hx2 h => optE.mk (c := AV.bool x2) (drop_get _ hx2) <| sn ?_
 replace h := oi h
 refine RetE.plain ?_
 exact ai rfl (ai (congrArg (fun r : Bool => AV.bool r) h) rfl)
theorem text_Token_ok (E : Pm.Env) [LaidM E] (a0 : Bytes) (r : Bool) (h : text_Token a0 = some r) : FnR E Tryz.prog 107 [AV.str a0] (AV.bool r) false := by
 refine FnR.of_ev (T := T) (rows := []) tOk mixed Tryz.func107 rfl (by kernel_rfl) (by kernel_rfl) rfl fun hwf => ?_
 unfold text_Token at h
 refine sj <| sn <| sj <| bind_elim h fun x1 hx1 h => ai rfl ?_
 refine CallF.mk _ false (fun hg => text_tokens_ok E  x1 (gcall_some hx1 hg)) (ai rfl ?_)
 refine bind_elim h fun x2 hx2 h => ai id <| ai id <| ai rfl ?_
 refine CallF.mk _ false (fun hg => text_all_ok E a0 x1 155 [] (fun x0 x1 => text_set_has x0 x1) (fun x0 x1 r h => text_set_has_ok E x0 x1 r h) rfl x2 (gcall_some hx2 hg)) (ai rfl ?_)
 refine ai (fun hg => (and_r hg)) <| sn ?_
 replace h := oi h
 refine RetE.plain ?_
 exact ai rfl (ai (congrArg (fun r : Bool => AV.bool r) h) rfl)
theorem slices_IndexFunc__byte_byte_ok (E : Pm.Env) [LaidM E] (a0 : (List UInt8)) (a1 : FuncId) (a1c : List AV) (a1i : Int → Option Bool) (a1h : ∀ (x0 : Int) (r : Bool), a1i x0 = some r → FnR E Tryz.prog a1 ([AV.int .u8 x0] ++ a1c) (AV.bool r) false) (a1p : a1c.all AV.puB = true) (r : Int) (h : slices_IndexFunc__byte_byte a0 a1i = some r) : FnR E Tryz.prog 235 [AV.list 1 (a0.map byteAV), AV.fn a1 [] a1c] (AV.int .i64 r) false := by
 refine FnR.of_ev (T := T) (rows := []) tOk mixed Tryz.func235 rfl (by kernel_rfl) (by kernel_rfl) rfl fun hwf => ?_
 unfold slices_IndexFunc__byte_byte at h
 refine sj <| sn <| sj <| sj <| NormE.to (AV.int .i64 (a0.length : Int)) (fun _ => len_list byteAV a0) <| sn ?_
 refine LoopE.img (fun x : Int => St.of [⟨0, AV.list 1 (a0.map byteAV), none⟩, ⟨1, AV.fn a1 [] a1c, none⟩, ⟨7, AV.int .i64 (a0.length : Int), none⟩, ⟨8, AV.int .i64 x, none⟩] [] []) (slices_IndexFunc__byte_byte_b1 a0 a1i) (0 : Int) h ?_ ?_
 ·refine Gho.to _ _ _ [] ?_ ?_ ?_ rfl rfl ?_
  ·exact trivial
  ·exact rfl
  ·exact rfl
  ·exact ⟨rfl, rfl, trivial, rfl, (noB_fn a1p _), trivial, rfl, rfl, trivial, rfl, rfl, trivial, trivial⟩
 intro n1 x y1 h hl1 hr1
 revert h; revert x; intro s1 h
 unfold slices_IndexFunc__byte_byte_b1 at h
 refine sj <| sn <| sj ?_
 refine Br.mk (fun ht => ?_) (fun ht => ?_)
 ·replace h := cond_tt h ht
  refine sn <| sj <| sj <| sn <| sj <| bind_elim h fun x2 hx2 h => ?_
  refine ai rfl (xi (byteAV x2) (ai (fun hg => idx_map _ hx2) ?_))
  refine bind_elim h fun x3 hx3 h => CallH.data _ false (puD_app rfl (puD_of a1p)) (a1h (x2.toNat : Int) x3 hx3) <| sn ?_
  refine Br.mk (fun ht => ?_) (fun ht => ?_)
  ·replace h := cond_tt h ht
   refine sj <| sn ?_
   replace h := oi h
   replace h := hr1 _ h.symm
   refine RetE.plain ?_
   exact ai rfl (ai (congrArg (fun r : Int => AV.int .i64 r) h) rfl)
  ·replace h := cond_ff h ht
   refine sn ?_
   replace h := oi h
   refine xi ⟨(n1, (IntKind.i64.wrap (s1 + (1 : Int)))), hl1 _ h.symm⟩ (ai (Nat.lt_succ_self _) ?_)
   refine Gho.to _ _ _ [] ?_ ?_ ?_ rfl rfl ?_
   ·exact trivial
   ·exact rfl
   ·exact rfl
   ·exact ⟨rfl, rfl, trivial, rfl, (noB_fn a1p _), trivial, rfl, rfl, trivial, rfl, rfl, trivial, trivial⟩
 ·replace h := cond_ff h ht
  refine sn <| sj <| sn ?_
  replace h := oi h
  replace h := hr1 _ h.symm
  refine RetE.plain ?_
  exact ai rfl (ai (congrArg (fun r : Int => AV.int .i64 r) h) rfl)
theorem slices_ContainsFunc__byte_byte_ok (E : Pm.Env) [LaidM E] (a0 : (List UInt8)) (a1 : FuncId) (a1c : List AV) (a1i : Int → Option Bool) (a1h : ∀ (x0 : Int) (r : Bool), a1i x0 = some r → FnR E Tryz.prog a1 ([AV.int .u8 x0] ++ a1c) (AV.bool r) false) (a1p : a1c.all AV.puB = true) (r : Bool) (h : slices_ContainsFunc__byte_byte a0 a1i = some r) : FnR E Tryz.prog 203 [AV.list 1 (a0.map byteAV), AV.fn a1 [] a1c] (AV.bool r) false := by
 refine FnR.of_ev (T := T) (rows := []) tOk mixed Tryz.func203 rfl (by kernel_rfl) (by kernel_rfl) rfl fun hwf => ?_
 unfold slices_ContainsFunc__byte_byte at h
 refine sj <| sn <| sj <| bind_elim h fun x1 hx1 h => CallH.data _ false (and_tt' rfl (and_tt' (puD_fn a1p) rfl)) (slices_IndexFunc__byte_byte_ok E a0 a1 a1c a1i a1h a1p x1 hx1) <| sn ?_
 replace h := oi h
 refine RetE.plain ?_
 exact ai rfl (ai (congrArg (fun r : Bool => AV.bool r) h) rfl)
theorem table_may_1_ok (E : Pm.Env) [LaidM E] (a0 : Int) (r : Bool) (h : table_may_1 a0 = some r) : FnR E Tryz.prog 236 [AV.int .u8 a0] (AV.bool r) false := by
 refine FnR.of_ev (T := T) (rows := []) tOk mixed Tryz.func236 rfl (by kernel_rfl) (by kernel_rfl) rfl fun hwf => ?_
 unfold table_may_1 at h
 refine sj <| sn <| sj <| ai id <| ai (fun hg => (and_r hg)) <| ai id <| ai (fun hg => (and_r hg)) <| sn ?_
 replace h := oi h
 refine RetE.plain ?_
 exact ai rfl (ai (congrArg (fun r : Bool => AV.bool r) h) rfl)
theorem table_may_ok (E : Pm.Env) [LaidM E] (a0 : S_Field) (r : Bool) (h : table_may a0 = some r) : FnR E Tryz.prog 205 [S_Field.av a0] (AV.bool r) false := by
 refine FnR.of_ev (T := T) (rows := []) tOk mixed Tryz.func205 rfl (by kernel_rfl) (by kernel_rfl) rfl fun hwf => ?_
 unfold table_may at h
 refine sj <| ai rfl <| sn <| sj <| sn <| sj <| bind_elim h fun x1 hx1 h => CallH.data _ false rfl (text_Token_ok E a0.Name x1 hx1) <| ai id <| bind_elim h fun x2 hx2 h => ai id <| ai rfl ?_
 refine CallF.mk _ false (fun hg => text_Trim_ok E a0.Value x2 (gcall_some hx2 hg)) (ai rfl ?_)
 refine ai id <| ai id <| ai id <| ai (fun hg => (and_r hg)) <| ai id <| ai id <| NormE.same <| ai id <| ai (fun hg => (and_r hg)) <| ai id <| ai id <| ai ⟨rfl, rfl⟩ <| bind_elim h fun x3 hx3 h => ai id <| ai id <| ai rfl ?_
 refine CallF.mk _ false (fun hg => slices_ContainsFunc__byte_byte_ok E a0.Value 236 [] (fun x0 => table_may_1 x0) (fun x0 r h => table_may_1_ok E x0 r h) rfl x3 (gcall_some hx3 hg)) (ai rfl ?_)
 refine ai id <| ai (fun hg => (and_r hg)) <| ai (by kernel_rfl) ?_
 refine SeqN.via (St.of [⟨2, AV.bool (bif (bif (bif x1 then (x2 == a0.Value) else false) then (decide ((a0.Value.length : Int) ≤ (1000 : Int))) else false) then (!x3) else false), none⟩] [] []) ?_ ?_
 ·refine Gho.to _ _ _ [] ?_ ?_ ?_ rfl rfl ?_
  ·exact trivial
  ·exact rfl
  ·exact rfl
  ·exact ⟨rfl, rfl, trivial, trivial⟩
 replace h := oi h
 refine RetE.plain ?_
 exact ai rfl (ai (congrArg (fun r : Bool => AV.bool r) h) rfl)
theorem table_Right_1_ok (E : Pm.Env) [LaidM E] (a0 : S_Field) (r : Bool) (h : table_Right_1 a0 = some r) : FnR E Tryz.prog 212 [S_Field.av a0] (AV.bool r) false := by
 refine FnR.of_ev (T := T) (rows := []) tOk mixed Tryz.func212 rfl (by kernel_rfl) (by kernel_rfl) rfl fun hwf => ?_
 unfold table_Right_1 at h
 refine sj <| ai rfl <| sn <| sj <| ai ⟨lb rfl, lb rfl⟩ <| NormE.to (S_Field.av a0) (fun _ => rfl) <| bind_elim h fun x1 hx1 h => CallH.data _ false rfl (table_may_ok E a0 x1 hx1) <| sn ?_
 replace h := oi h
 refine RetE.plain ?_
 exact ai rfl (ai (congrArg (fun r : Bool => AV.bool r) h) rfl)
theorem table_Right_ok (E : Pm.Env) [LaidM E] (a0 : (List S_Field)) (r : Bool) (h : table_Right a0 = some r) : FnR E Tryz.prog 177 [AV.list 2 (a0.map S_Field.av)] (AV.bool r) false := by
 refine FnR.of_ev (T := T) (rows := []) tOk mixed Tryz.func177 rfl (by kernel_rfl) (by kernel_rfl) rfl fun hwf => ?_
 unfold table_Right at h
 refine sj <| sn <| sj <| NormE.to (AV.int .i64 (a0.length : Int)) (fun _ => len_list S_Field.av a0) <| bind_elim h fun x1 hx1 h => ai id <| ai rfl ?_
 refine CallF.mk _ false (fun hg => slices_ContainsFunc__api_Field_api_Field_ok E a0 212 [] (fun x0 => table_Right_1 x0) (fun x0 r h => table_Right_1_ok E x0 r h) rfl x1 (gcall_some hx1 hg)) (ai rfl ?_)
 refine ai id <| ai (fun hg => (and_r hg)) <| sn ?_
 replace h := oi h
 refine RetE.plain ?_
 exact ai rfl (ai (congrArg (fun r : Bool => AV.bool r) h) rfl)
theorem slices_Clip__api_Field_api_Field_ok (E : Pm.Env) [LaidM E] (a0 : (List S_Field)) (r : (List S_Field)) (h : slices_Clip__api_Field_api_Field a0 = some r) : FnR E Tryz.prog 206 [AV.list 2 (a0.map S_Field.av)] (AV.list 2 (r.map S_Field.av)) true := by
 refine FnR.of_ev (T := T) (rows := []) tOk mixed Tryz.func206 rfl (by kernel_rfl) (by kernel_rfl) rfl fun hwf => ?_
 unfold slices_Clip__api_Field_api_Field at h
 refine sj <| sn <| sj <| NormE.to (AV.int .i64 (a0.length : Int)) (fun _ => len_list S_Field.av a0) <| NormE.to (AV.int .i64 (a0.length : Int)) (fun _ => len_list S_Field.av a0) <| bind_elim h fun x1 hx1 h => ?_
 have qx1 := (slc_some hx1).1
 have hx1e := (slc_some hx1).2
 refine ai ⟨slc_cond S_Field.av qx1, rfl, rfl⟩ <| NormE.to (AV.list 2 (x1.map S_Field.av)) (fun _ => (slc_list 2 S_Field.av _ _ _).trans (congrArg (fun y => AV.list 2 (List.map S_Field.av y)) hx1e.symm)) <| sn ?_
 replace h := oi h
 exact RetE.own 2 1 rfl rfl rfl rfl (ai (congrArg (fun r : (List S_Field) => AV.list 2 (r.map S_Field.av)) h) rfl)
theorem table_Add_ok (E : Pm.Env) [LaidM E] (a0 : (List S_Field)) (a1 : Bytes) (a2 : Bytes) (r : ((List S_Field) × Int)) (h : table_Add a0 a1 a2 = some r) : FnR E Tryz.prog 174 [AV.list 2 (a0.map S_Field.av), AV.str a1, AV.str a2] (AV.tup [AV.list 2 (r.1.map S_Field.av), AV.int .i64 r.2]) false := by
 refine FnR.of_ev (T := T) (rows := []) tOk mixed Tryz.func174 rfl (by kernel_rfl) (by kernel_rfl) rfl fun hwf => ?_
 unfold table_Add at h
 refine sj <| sn <| sj <| ai ⟨rfl, rfl, lb rfl⟩ <| ai ⟨rfl, rfl, lb rfl⟩ ?_
 refine xi none (ai trivial ?_)
 refine ai rfl ?_
 refine ai ⟨rfl, rfl, rfl, lb rfl⟩ (xi [AV.str a1, AV.str a2] (ai (fun _ => rfl) ?_))
 refine sn <| sj <| sj <| bind_elim h fun x1 hx1 h => CallH.data _ false rfl (table_Right_ok E a0 x1 hx1) <| ai ⟨lb rfl, lb rfl⟩ <| NormE.to (AV.agg [AV.str a1, AV.str a2]) (fun _ => rfl) <| bind_elim h fun x2 hx2 h => ai id <| ai rfl ?_
 refine CallF.mk _ false (fun hg => table_may_ok E (S_Field.mk a1 a2) x2 (gcall_some hx2 hg)) (ai rfl ?_)
 refine ai id <| ai (fun hg => (and_r hg)) ?_
 refine SeqN.via (St.of [⟨0, AV.list 2 (a0.map S_Field.av), none⟩, ⟨8, AV.ptr 0 0, none⟩, ⟨12, AV.bool (bif (!x1) then true else (!x2)), none⟩] [.cells 125 [AV.str a1, AV.str a2] []] []) ?_ ?_
 ·refine Gho.to _ _ _ [] ?_ ?_ ?_ rfl rfl ?_
  ·exact ⟨⟨rfl, rfl, rfl⟩, trivial⟩
  ·exact rfl
  ·exact rfl
  ·exact ⟨rfl, rfl, trivial, rfl, rfl, trivial, rfl, rfl, trivial, trivial⟩
 refine Br.mk (fun ht => ?_) (fun ht => ?_)
 ·replace h := cond_tt h ht
  refine sj <| sn ?_
  replace h := oi h
  refine RetE.plain ?_
  exact ai rfl (ai (congrArg (fun r : ((List S_Field) × Int) => AV.tup [AV.list 2 (r.1.map S_Field.av), AV.int .i64 r.2]) h) rfl)
 ·replace h := cond_ff h ht
  refine sj <| NormE.to (AV.int .i64 (a0.length : Int)) (fun _ => len_list S_Field.av a0) <| sn ?_
  refine Br.mk (fun ht => ?_) (fun ht => ?_)
  ·replace h := cond_tt h ht
   refine sj <| sn ?_
   replace h := oi h
   refine RetE.plain ?_
   exact ai rfl (ai (congrArg (fun r : ((List S_Field) × Int) => AV.tup [AV.list 2 (r.1.map S_Field.av), AV.int .i64 r.2]) h) rfl)
  ·replace h := cond_ff h ht
   refine sn <| sj <| bind_elim h fun x3 hx3 h => CallH.data _ true rfl (slices_Clip__api_Field_api_Field_ok E a0 x3 hx3) <| ai ⟨lb rfl, lb rfl⟩ <| NormE.to (AV.agg [AV.str a1, AV.str a2]) (fun _ => rfl) <| ai ⟨rfl, rfl, rfl, rfl⟩ <| ai ⟨rfl, rfl, rfl⟩ <| NormE.to (AV.list 2 (([(S_Field.mk a1 a2)] : List S_Field).map S_Field.av)) (fun _ => rfl) <| bind_elim h fun x4 hx4 h => ?_
   have qx4 := (app_some hx4).1
   have hx4e := (app_some hx4).2
   refine ai ⟨rfl, rfl, rfl⟩ <| ai rfl <| ai (app_cond S_Field.av qx4) <| NormE.to (AV.list 2 (x4.map S_Field.av)) (fun _ => (app_list 2 S_Field.av _ _).trans (congrArg (fun y => AV.list 2 (List.map S_Field.av y)) hx4e.symm)) <| ai (by kernel_rfl) <| sn ?_
   replace h := oi h
   refine RetE.plain ?_
   exact ai rfl (ai (congrArg (fun r : ((List S_Field) × Int) => AV.tup [AV.list 2 (r.1.map S_Field.av), AV.int .i64 r.2]) h) rfl)
theorem head_lines_ok (E : Pm.Env) [LaidM E] (a0 : Bytes) (r : Bytes) (h : head_lines a0 = some r) : FnR E Tryz.prog 169 [AV.str a0] (AV.fn 200 [] [AV.iptr [AV.str r]]) false := by
 refine FnR.of_ev (T := T) (rows := []) tOk mixed Tryz.func169 rfl (by kernel_rfl) (by kernel_rfl) rfl fun hwf => ?_
 unfold head_lines at h
 refine sj <| ai rfl ?_
 refine SeqN.via (St.of [⟨1, AV.iptr [AV.str a0], none⟩] [] []) ?_ ?_
 ·refine Gho.trans (Gho.fz [0] [(1, AV.iptr [AV.str a0])] ⟨Frz.ptrD rfl rfl (lb rfl), trivial⟩) ?_
  refine Gho.to _ _ _ [] ?_ ?_ ?_ rfl rfl ?_
  ·exact trivial
  ·exact rfl
  ·exact rfl
  ·exact ⟨rfl, rfl, trivial, trivial⟩
 refine sj <| sn ?_
 replace h := oi h
 refine RetE.plain ?_
 exact ai rfl (ai (congrArg (fun r : Bytes => AV.fn 200 [] [AV.iptr [AV.str r]]) h) rfl)
end Go.Proofs.YtkfoahoplndelaaGreatDoor
