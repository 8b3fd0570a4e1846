/-
  The functions do what their images say: walks, written by a program of mine (gen.py).
-/
import Derived.Test.YtdobepgddhbncaaGreatDoorIv1
import Derived.Test.YtdobepgddhbncaaGreatDoorWk1
namespace Go.Proofs.YtdobepgddhbncaaGreatDoor
open Go Go.Pm
set_option linter.unusedSimpArgs false
open And renaming intro → ai
open Exists renaming intro → xi
open Option.some renaming inj → oi
open _root_.Nat renaming le_of_ble_eq_true → lb
open Go.Pm.SeqJ renaming go → sj
open Go.Pm.SeqN renaming go → sn
set_option maxRecDepth 100000
set_option maxHeartbeats 4000000
set_option linter.unusedVariables false
theorem strings_trimLeftByte_ok (E : Pm.Env) [LaidE E] (a0 : Bytes) (a1 : Int) (r : Bytes) (h : strings_trimLeftByte a0 a1 = some r) : FnR E Tryz.prog 91 [ss a0, AV.int .u8 a1] (ss r) false := by
 refine FnR.of_ev (T := T) (rows := []) tOk mixed Tryz.func91 rfl (by kernel_rfl) (by kernel_rfl) rfl fun hwf => ?_
 unfold strings_trimLeftByte at h
 refine sj <| sn <| bind_elim h fun j1 hj1 h => ?_
 refine SeqJ.join (St.of [⟨0, ss j1, none⟩] [] []) ?_ ?_
 ·clear h; have h := hj1; clear hj1
  refine LoopE.img (fun x : Bytes => St.of [⟨0, ss x, none⟩, ⟨1, AV.int .u8 a1, none⟩] [] []) (strings_trimLeftByte_b1 a1) a0 h ?_ ?_
  ·refine Gho.to _ _ _ [] ?_ ?_ ?_ rfl rfl ?_
   ·exact trivial
   ·exact rfl
   ·exact rfl
   ·exact tr3 <| tr3 <| trivial
  intro n1 x y1 h hl1 hr1
  revert h; revert x; intro s2 h
  unfold strings_trimLeftByte_b1 at h
  refine sj <| sj <| NormE.same <| bind_elim h fun x3 hx3 h => ai id ?_
  refine xi x3 (ai (fun hg => gidx_some hx3 hg) ?_)
  refine ai id <| ai id <| ai (fun hg => (and_r hg)) <| sn ?_
  refine Br.of h (fun ht h => ?_) fun ht h => ?_
  ·refine sn <| bind_elim h fun x4 hx4 h => ?_
   have qx4 := (slc_some hx4).1
   have hx4e := (slc_some hx4).2
   refine ai (fun _ => qx4) <| NormE.to (ss x4) (fun _ => congrArg ss hx4e.symm) ?_
   replace h := oi h
   refine xi ⟨(n1, x4), hl1 _ h.symm⟩ (ai (Nat.lt_succ_self _) ?_)
   refine Gho.to _ _ _ [] ?_ ?_ ?_ rfl rfl ?_
   ·exact trivial
   ·exact rfl
   ·exact rfl
   ·exact tr3 <| tr3 <| trivial
  ·replace h := oi h
   replace h := hr1 _ h.symm
   subst h
   refine Gho.to _ _ _ [] ?_ ?_ ?_ rfl rfl ?_
   ·exact trivial
   ·exact rfl
   ·exact rfl
   ·exact tr3 <| trivial
 ·clear hj1
  refine sj <| sn ?_
  replace h := oi h
  refine RetE.plain ?_
  subst h; exact ai rfl (ai rfl rfl)
theorem strings_makeASCIISet_ok (E : Pm.Env) [LaidE E] (a0 : Bytes) (r : ((List Bool) × Bool)) (h : strings_makeASCIISet a0 = some r) : FnR E Tryz.prog 92 [ss a0] (AV.tup [AV.agg (r.1.map AV.bool), bb r.2]) false := by
 refine FnR.of_ev (T := T) (rows := []) tOk mixed Tryz.func92 rfl (by kernel_rfl) (by kernel_rfl) rfl fun hwf => ?_
 unfold strings_makeASCIISet at h
 refine sj <| ai rfl <| sn <| sj <| sj <| sn ?_
 refine LoopE.img (fun x : (Int × (List Bool)) => St.of [⟨0, ss a0, none⟩, ⟨2, AV.ptr 0 0, none⟩, ⟨4, ii x.1, none⟩] [.cells 103 (x.2.map AV.bool) []] []) (strings_makeASCIISet_b1 a0) ((0 : Int), (List.replicate 256 false)) h ?_ ?_
 ·refine Gho.to _ _ _ [] ?_ ?_ ?_ rfl rfl ?_
  ·exact ⟨⟨rfl, rfl, rfl⟩, trivial⟩
  ·exact (and_tt' (noB_map _ (fun _ => rfl) _) rfl)
  ·exact rfl
  ·exact tr3 <| tr3 <| tr3 <| trivial
 intro n1 x y1 h hl1 hr1
 obtain ⟨s1, s2⟩ := x
 unfold strings_makeASCIISet_b1 at h
 dsimp only at h
 refine sj <| sj <| NormE.same <| sn ?_
 refine Br.of h (fun ht h => ?_) fun ht h => ?_
 ·refine sn <| sj <| sj <| bind_elim h fun x3 hx3 h => ?_
  refine xi x3 (ai (fun hg => idx_some hx3) ?_)
  refine sn <| sj <| sj <| sn ?_
  refine Br.of h (fun ht h => ?_) fun ht h => ?_
  ·refine sj <| chk_elim h fun q4 h => ai ⟨lb rfl, arr_fits _ q4⟩ <| NormE.to (AV.agg (s2.map AV.bool)) (fun _ => arr_load _ q4) <| chk_elim h fun q5 h => ?_
   refine ai ⟨rfl, arr_len _ q5.1, rfl, arr_fits _ q5.2⟩ (xi (s2.map AV.bool) (ai (fun _ => arr_store _ _ q5.1 (by rw [List.length_map]; exact q5.2)) ?_))
   refine sn <| chk_elim h fun hd1 h => ?_
   replace h := oi h
   replace h := hr1 _ h.symm
   refine RetE.plain ?_
   refine ai ⟨lb rfl, arr_fits _ hd1⟩ (xi (AV.agg (s2.map AV.bool)) (ai (arr_load _ hd1) ?_))
   exact ai (and_tt' (puB_map _ (fun _ => rfl) _) (and_tt' rfl rfl)) (ai (congrArg (fun r : ((List Bool) × Bool) => AV.tup [AV.agg (r.1.map AV.bool), bb r.2]) h) rfl)
  ·refine sn <| chk_elim h fun q6 h => ai (fun _ => q6) <| bind_elim h fun x7 hx7 h => ?_
   have qx7 := (seti_some hx7).1
   have hx7e := (seti_some hx7).2
   refine ai ⟨rfl, rfl, rfl, seti_len bb qx7 0 rfl⟩ (xi (x7.map AV.bool) (ai (fun hw => seti_map' bb _ qx7 hx7e) ?_))
   refine sn ?_
   replace h := oi h
   refine xi ⟨(n1, ((IntKind.i64.wrap (s1 + (1 : Int))), x7)), hl1 _ h.symm⟩ (ai (Nat.lt_succ_self _) ?_)
   refine Gho.to _ _ _ [] ?_ ?_ ?_ rfl rfl ?_
   ·exact ⟨⟨rfl, rfl, rfl⟩, trivial⟩
   ·exact (and_tt' (noB_map _ (fun _ => rfl) _) rfl)
   ·exact rfl
   ·exact tr3 <| tr3 <| tr3 <| trivial
 ·refine sn <| sj <| chk_elim h fun q8 h => ai ⟨lb rfl, arr_fits _ q8⟩ <| NormE.to (AV.agg (s2.map AV.bool)) (fun _ => arr_load _ q8) <| chk_elim h fun q9 h => ?_
  refine ai ⟨rfl, arr_len _ q9.1, rfl, arr_fits _ q9.2⟩ (xi (s2.map AV.bool) (ai (fun _ => arr_store _ _ q9.1 (by rw [List.length_map]; exact q9.2)) ?_))
  refine sn <| chk_elim h fun hd1 h => ?_
  replace h := oi h
  replace h := hr1 _ h.symm
  refine RetE.plain ?_
  refine ai ⟨lb rfl, arr_fits _ hd1⟩ (xi (AV.agg (s2.map AV.bool)) (ai (arr_load _ hd1) ?_))
  exact ai (and_tt' (puB_map _ (fun _ => rfl) _) (and_tt' rfl rfl)) (ai (congrArg (fun r : ((List Bool) × Bool) => AV.tup [AV.agg (r.1.map AV.bool), bb r.2]) h) rfl)
theorem strings_asciiSet_contains_ok (E : Pm.Env) [LaidE E] (a0 : (List Bool)) (a1 : Int) (r : Bool) (h : strings_asciiSet_contains a0 a1 = some r) : FnR E Tryz.prog 119 [AV.iptr (a0.map AV.bool), AV.int .u8 a1] (bb r) false := by
 refine FnR.of_ev (T := T) (rows := []) tOk mixed Tryz.func119 rfl (by kernel_rfl) (by kernel_rfl) rfl fun hwf => ?_
 unfold strings_asciiSet_contains at h
 refine sj <| sn <| sj <| chk_elim h fun q1 h => ai (fun _ => q1) <| bind_elim h fun x2 hx2 h => optE.mk (c := bb x2) (drop_get _ hx2) <| sn ?_
 replace h := oi h
 refine RetE.plain ?_
 subst h; exact ai rfl (ai rfl rfl)
theorem strings_trimLeftASCII_ok (E : Pm.Env) [LaidE E] (a0 : Bytes) (a1 : (List Bool)) (r : Bytes) (h : strings_trimLeftASCII a0 a1 = some r) : FnR E Tryz.prog 93 [ss a0, AV.iptr (a1.map AV.bool)] (ss r) false := by
 refine FnR.of_ev (T := T) (rows := []) tOk mixed Tryz.func93 rfl (by kernel_rfl) (by kernel_rfl) rfl fun hwf => ?_
 unfold strings_trimLeftASCII at h
 refine sj <| sn <| bind_elim h fun j1 hj1 h => ?_
 refine SeqJ.join (St.of [⟨0, ss j1, none⟩] [] []) ?_ ?_
 ·clear h; have h := hj1; clear hj1
  refine LoopE.img (fun x : Bytes => St.of [⟨0, ss x, none⟩, ⟨1, AV.iptr (a1.map AV.bool), none⟩] [] []) (strings_trimLeftASCII_b1 a1) a0 h ?_ ?_
  ·refine Gho.to _ _ _ [] ?_ ?_ ?_ rfl rfl ?_
   ·exact trivial
   ·exact rfl
   ·exact rfl
   ·exact tr3 <| tr3 <| trivial
  intro n1 x y1 h hl1 hr1
  revert h; revert x; intro s2 h
  unfold strings_trimLeftASCII_b1 at h
  refine sj <| sj <| NormE.same <| sn ?_
  refine Br.of h (fun ht h => ?_) fun ht h => ?_
  ·refine sn <| sj <| sj <| bind_elim h fun x3 hx3 h => ?_
   refine xi x3 (ai (fun hg => idx_some hx3) ?_)
   refine bind_elim h fun x4 hx4 h => CallH.data _ false rfl (strings_asciiSet_contains_ok E a1 (x3.toNat : Int) x4 hx4) <| sn ?_
   refine Br.of h (fun ht h => ?_) fun ht h => ?_
   ·replace h := oi h
    replace h := hr1 _ h.symm
    subst h
    refine Gho.to _ _ _ [] ?_ ?_ ?_ rfl rfl ?_
    ·exact trivial
    ·exact rfl
    ·exact rfl
    ·exact tr3 <| trivial
   ·refine sn <| bind_elim h fun x5 hx5 h => ?_
    have qx5 := (slc_some hx5).1
    have hx5e := (slc_some hx5).2
    refine ai (fun _ => qx5) <| NormE.to (ss x5) (fun _ => congrArg ss hx5e.symm) ?_
    replace h := oi h
    refine xi ⟨(n1, x5), hl1 _ h.symm⟩ (ai (Nat.lt_succ_self _) ?_)
    refine Gho.to _ _ _ [] ?_ ?_ ?_ rfl rfl ?_
    ·exact trivial
    ·exact rfl
    ·exact rfl
    ·exact tr3 <| tr3 <| trivial
  ·replace h := oi h
   replace h := hr1 _ h.symm
   subst h
   refine Gho.to _ _ _ [] ?_ ?_ ?_ rfl rfl ?_
   ·exact trivial
   ·exact rfl
   ·exact rfl
   ·exact tr3 <| trivial
 ·clear hj1
  refine sj <| sn ?_
  replace h := oi h
  refine RetE.plain ?_
  subst h; exact ai rfl (ai rfl rfl)
theorem unicode_utf8_decodeRuneInStringSlow_ok (E : Pm.Env) [LaidE E] (a0 : Bytes) (r : (Int × Int)) (h : unicode_utf8_decodeRuneInStringSlow a0 = some r) : FnR E Tryz.prog 137 [ss a0] (AV.tup [AV.int .i32 r.1, ii r.2]) false := by
 refine FnR.of_ev (T := T) (rows := []) tOk mixed Tryz.func137 rfl (by kernel_rfl) (by kernel_rfl) rfl fun hwf => ?_
 unfold unicode_utf8_decodeRuneInStringSlow at h
 refine sj <| sn <| sj <| NormE.same <| sn <| sj <| sj <| sn ?_
 refine Br.of h (fun ht h => ?_) fun ht h => ?_
 ·refine sj <| sn ?_
  replace h := oi h
  refine RetE.plain ?_
  subst h; exact ai rfl (ai rfl rfl)
 ·refine sn <| sj <| bind_elim h fun x1 hx1 h => ?_
  refine xi x1 (ai (fun hg => idx_some hx1) ?_)
  refine sn <| sj ?_
  cases h
theorem unicode_utf8_DecodeRuneInString_ok (E : Pm.Env) [LaidE E] (a0 : Bytes) (r : (Int × Int)) (h : unicode_utf8_DecodeRuneInString a0 = some r) : FnR E Tryz.prog 120 [ss a0] (AV.tup [AV.int .i32 r.1, ii r.2]) false := by
 refine FnR.of_ev (T := T) (rows := []) tOk mixed Tryz.func120 rfl (by kernel_rfl) (by kernel_rfl) rfl fun hwf => ?_
 unfold unicode_utf8_DecodeRuneInString at h
 refine sj <| sn <| sj <| sj <| bind_elim h fun x1 hx1 h => ai id ?_
 refine xi x1 (ai (fun hg => gidx_some hx1 hg) ?_)
 refine ai id <| ai (fun hg => (and_r hg)) <| sn ?_
 refine Br.of h (fun ht h => ?_) fun ht h => ?_
 ·refine sj <| bind_elim h fun x2 hx2 h => ?_
  refine xi x2 (ai (fun hg => idx_some hx2) ?_)
  refine sn ?_
  replace h := oi h
  refine RetE.plain ?_
  subst h; exact ai rfl (ai rfl rfl)
 ·refine bind_elim h fun x3 hx3 h => CallH.data _ false rfl (unicode_utf8_decodeRuneInStringSlow_ok E a0 x3 hx3) ?_
  refine SeqN.via (St.of [⟨2, AV.int .i32 x3.1, none⟩, ⟨3, ii x3.2, none⟩] [] []) ?_ ?_
  ·refine Gho.to _ _ _ [] ?_ ?_ ?_ rfl rfl ?_
   ·exact trivial
   ·exact rfl
   ·exact rfl
   ·exact tr3 <| tr3 <| trivial
  replace h := oi h
  refine RetE.plain ?_
  subst h; exact ai rfl (ai rfl rfl)
theorem stringslite_IndexByte_ok (E : Pm.Env) [LaidE E] (a0 : Bytes) (a1 : Int) (r : Int) (h : stringslite_IndexByte a0 a1 = some r) : FnR E Tryz.prog 36 [ss a0, AV.int .u8 a1] (ii r) false := by
 refine FnR.of_ev (T := T) (rows := []) tOk mixed Tryz.func36 rfl (by kernel_rfl) (by kernel_rfl) rfl fun hwf => ?_
 unfold stringslite_IndexByte at h
 refine sj <| sn <| sj <| bind_elim h fun x1 hx1 h => CallH.data _ false rfl (bytealg_IndexByteString_ok E a0 a1 x1 hx1) <| sn ?_
 replace h := oi h
 refine RetE.plain ?_
 subst h; exact ai rfl (ai rfl rfl)
theorem strings_IndexByte_ok (E : Pm.Env) [LaidE E] (a0 : Bytes) (a1 : Int) (r : Int) (h : strings_IndexByte a0 a1 = some r) : FnR E Tryz.prog 20 [ss a0, AV.int .u8 a1] (ii r) false := by
 refine FnR.of_ev (T := T) (rows := []) tOk mixed Tryz.func20 rfl (by kernel_rfl) (by kernel_rfl) rfl fun hwf => ?_
 unfold strings_IndexByte at h
 refine sj <| sn <| sj <| bind_elim h fun x1 hx1 h => CallH.data _ false rfl (stringslite_IndexByte_ok E a0 a1 x1 hx1) <| sn ?_
 replace h := oi h
 refine RetE.plain ?_
 subst h; exact ai rfl (ai rfl rfl)
theorem unicode_utf8_ValidRune_ok (E : Pm.Env) [LaidE E] (a0 : Int) (r : Bool) (h : unicode_utf8_ValidRune a0 = some r) : FnR E Tryz.prog 163 [AV.int .i32 a0] (bb r) false := by
 refine FnR.of_ev (T := T) (rows := []) tOk mixed Tryz.func163 rfl (by kernel_rfl) (by kernel_rfl) rfl fun hwf => ?_
 unfold unicode_utf8_ValidRune at h
 refine sj <| sn <| sj <| sj <| ai id <| ai (fun hg => (and_r hg)) <| sn ?_
 refine Br.of h (fun ht h => ?_) fun ht h => ?_
 ·refine sj <| sn ?_
  replace h := oi h
  refine RetE.plain ?_
  subst h; exact ai rfl (ai rfl rfl)
 ·refine sj <| ai id <| ai (fun hg => (and_r hg)) <| sn ?_
  refine Br.of h (fun ht h => ?_) fun ht h => ?_
  ·refine sj ?_
   refine SeqN.via (St.of [⟨2, bb true, none⟩] [] []) ?_ ?_
   ·refine Gho.to _ _ _ [] ?_ ?_ ?_ rfl rfl ?_
    ·exact trivial
    ·exact rfl
    ·exact rfl
    ·exact tr3 <| trivial
   replace h := oi h
   refine RetE.plain ?_
   subst h; exact ai rfl (ai rfl rfl)
  ·refine sn <| sj ?_
   refine SeqN.via (St.of [⟨2, bb false, none⟩] [] []) ?_ ?_
   ·refine Gho.to _ _ _ [] ?_ ?_ ?_ rfl rfl ?_
    ·exact trivial
    ·exact rfl
    ·exact rfl
    ·exact tr3 <| trivial
   replace h := oi h
   refine RetE.plain ?_
   subst h; exact ai rfl (ai rfl rfl)
theorem strings_IndexRune_ok (E : Pm.Env) [LaidE E] (a0 : Bytes) (a1 : Int) (r : Int) (h : strings_IndexRune a0 a1 = some r) : FnR E Tryz.prog 138 [ss a0, AV.int .i32 a1] (ii r) false := by
 refine FnR.of_ev (T := T) (rows := []) tOk mixed Tryz.func138 rfl (by kernel_rfl) (by kernel_rfl) rfl fun hwf => ?_
 unfold strings_IndexRune at h
 refine sj <| sn <| sj <| ai id <| ai (fun hg => (and_r hg)) <| sn ?_
 refine Br.of h (fun ht h => ?_) fun ht h => ?_
 ·refine sj <| bind_elim h fun x1 hx1 h => CallH.data _ false rfl (strings_IndexByte_ok E a0 (IntKind.u8.wrap a1) x1 hx1) <| sn ?_
  replace h := oi h
  refine RetE.plain ?_
  subst h; exact ai rfl (ai rfl rfl)
 ·refine sj <| sn ?_
  refine Br.of h (fun ht h => ?_) fun ht h => ?_
  ·refine sj <| sj <| sn ?_
   refine LoopE.img (fun x : Nat => St.of [⟨175, AV.ptr 0 0, none⟩] [.mp (.iter a0 x)] []) (strings_IndexRune_b1 a0) 0 h ?_ ?_
   ·refine Gho.to _ _ _ [] ?_ ?_ ?_ rfl rfl ?_
    ·exact ⟨rfl, trivial⟩
    ·exact rfl
    ·exact rfl
    ·exact tr3 <| trivial
   intro n1 x y1 h hl1 hr1
   revert h; revert x; intro s2 h
   unfold strings_IndexRune_b1 at h
   refine sj ?_
   refine and_of h (fun ht h => ?_) fun ht h => ?_
   ·refine sn <| sj ?_
    refine Br.mk (fun _ => ?_) (fun hf => absurd hf (by decide))
    refine sn <| sj <| sn <| sj <| sn ?_
    refine Br.of h (fun ht h => ?_) fun ht h => ?_
    ·refine sj <| sn ?_
     replace h := oi h
     replace h := hr1 _ h.symm
     refine RetE.plain ?_
     subst h; exact ai rfl (ai rfl rfl)
    ·replace h := oi h
     refine xi ⟨(n1, (s2 + widthAt a0 s2)), hl1 _ h.symm⟩ (ai (Nat.lt_succ_self _) ?_)
     refine Gho.to _ _ _ [] ?_ ?_ ?_ rfl rfl ?_
     ·exact ⟨rfl, trivial⟩
     ·exact rfl
     ·exact rfl
     ·exact tr3 <| trivial
   ·refine sn <| sj ?_
    refine Br.mk (fun hf => absurd hf (by decide)) (fun _ => ?_)
    refine sn <| sj <| sn ?_
    replace h := oi h
    replace h := hr1 _ h.symm
    refine RetE.plain ?_
    subst h; exact ai rfl (ai rfl rfl)
  ·refine sj <| bind_elim h fun x3 hx3 h => CallH.data _ false rfl (unicode_utf8_ValidRune_ok E a1 x3 hx3) <| sn ?_
   refine Br.of h (fun ht h => ?_) fun ht h => ?_
   ·refine sj ?_
    refine SeqN.via (St.of [⟨4, ii (-1 : Int), none⟩] [] []) ?_ ?_
    ·refine Gho.to _ _ _ [] ?_ ?_ ?_ rfl rfl ?_
     ·exact trivial
     ·exact rfl
     ·exact rfl
     ·exact tr3 <| trivial
    replace h := oi h
    refine RetE.plain ?_
    subst h; exact ai rfl (ai rfl rfl)
   ·refine sj ?_
    refine SeqN.via (St.of [⟨0, ss a0, none⟩, ⟨7, ss (encB a1), none⟩] [] []) ?_ ?_
    ·refine Gho.to _ _ _ [] ?_ ?_ ?_ rfl rfl ?_
     ·exact trivial
     ·exact rfl
     ·exact rfl
     ·exact tr3 <| tr3 <| trivial
    refine sj <| NormE.same <| sn <| sj <| sn <| sj <| sn <| sj ?_
    refine LoopE.img (fun x : Int => St.of [⟨0, ss a0, none⟩, ⟨7, ss (encB a1), none⟩, ⟨8, ii (IntKind.i64.wrap (((encB a1).length : Int) - (1 : Int))), none⟩, ⟨9, ii x, none⟩] [] []) (strings_IndexRune_b2 a0 a1) (IntKind.i64.wrap (((encB a1).length : Int) - (1 : Int))) h ?_ ?_
    ·refine Gho.to _ _ _ [] ?_ ?_ ?_ rfl rfl ?_
     ·exact trivial
     ·exact rfl
     ·exact rfl
     ·exact tr3 <| tr3 <| tr3 <| tr3 <| trivial
    intro n2 x y2 h hl2 hr2
    revert h; revert x; intro s4 h
    unfold strings_IndexRune_b2 at h
    refine sj <| sj <| NormE.same <| sn ?_
    refine Br.of h (fun ht h => ?_) fun ht h => ?_
    ·refine sn <| sj <| sj <| Or.inl <| bind_elim h fun x5 hx5 h => ?_
     refine xi x5 (ai (fun hg => idx_some hx5) ?_)
     refine bind_elim h fun x6 hx6 h => ?_
     refine xi x6 (ai (fun hg => idx_some hx6) ?_)
     refine ai (by kernel_rfl) <| sn ?_
     refine Br.of h (fun ht h => ?_) fun ht h => ?_
     ·refine sj <| Or.inl <| bind_elim h fun x7 hx7 h => ?_
      have qx7 := (slc_some hx7).1
      have hx7e := (slc_some hx7).2
      refine ai (fun _ => qx7) <| NormE.to (ss x7) (fun _ => congrArg ss hx7e.symm) <| bind_elim h fun x8 hx8 h => ?_
      refine xi x8 (ai (fun hg => idx_some hx8) ?_)
      refine bind_elim h fun x9 hx9 h => CallH.data _ false rfl (strings_IndexByte_ok E x7 (x8.toNat : Int) x9 hx9) <| ai (by kernel_rfl) ?_
      refine SeqN.via (St.of [⟨0, ss a0, none⟩, ⟨7, ss (encB a1), none⟩, ⟨8, ii (IntKind.i64.wrap (((encB a1).length : Int) - (1 : Int))), none⟩, ⟨9, ii s4, none⟩, ⟨11, ii x9, none⟩] [] []) ?_ ?_
      ·refine Gho.to _ _ _ [] ?_ ?_ ?_ rfl rfl ?_
       ·exact trivial
       ·exact rfl
       ·exact rfl
       ·exact tr3 <| tr3 <| tr3 <| tr3 <| tr3 <| trivial
      refine sj <| sj <| sn ?_
      refine Br.of h (fun ht h => ?_) fun ht h => ?_
      ·refine sj <| sn ?_
       replace h := oi h
       replace h := hr2 _ h.symm
       refine RetE.plain ?_
       subst h; exact ai rfl (ai rfl rfl)
      ·refine sn <| sn <| sj <| sj <| sn ?_
       refine LoopE.img (fun x : Int => St.of [⟨0, ss a0, none⟩, ⟨7, ss (encB a1), none⟩, ⟨8, ii (IntKind.i64.wrap (((encB a1).length : Int) - (1 : Int))), none⟩, ⟨9, ii (IntKind.i64.wrap (s4 + (IntKind.i64.wrap (x9 + (1 : Int))))), none⟩, ⟨12, ii x, none⟩] [] []) (strings_IndexRune_b3 a0 a1 s4 x9) (1 : Int) h ?_ ?_
       ·refine Gho.to _ _ _ [] ?_ ?_ ?_ rfl rfl ?_
        ·exact trivial
        ·exact rfl
        ·exact rfl
        ·exact tr3 <| tr3 <| tr3 <| tr3 <| tr3 <| trivial
       intro n3 x y3 h hl3 hr3
       revert h; revert x; intro s10 h
       unfold strings_IndexRune_b3 at h
       refine sj <| sj <| NormE.same <| sn ?_
       refine Br.of h (fun ht h => ?_) fun ht h => ?_
       ·refine sn <| sj <| sj <| Or.inl <| bind_elim h fun x11 hx11 h => ?_
        refine xi x11 (ai (fun hg => idx_some hx11) ?_)
        refine bind_elim h fun x12 hx12 h => ?_
        refine xi x12 (ai (fun hg => idx_some hx12) ?_)
        refine ai (by kernel_rfl) <| sn ?_
        refine Br.of h (fun ht h => ?_) fun ht h => ?_
        ·cases h
        ·refine sn ?_
         replace h := oi h
         refine xi ⟨(n3, (IntKind.i64.wrap (s10 + (1 : Int)))), hl3 _ h.symm⟩ (ai (Nat.lt_succ_self _) ?_)
         refine Gho.to _ _ _ [] ?_ ?_ ?_ rfl rfl ?_
         ·exact trivial
         ·exact rfl
         ·exact rfl
         ·exact tr3 <| tr3 <| tr3 <| tr3 <| tr3 <| trivial
       ·refine sn <| sj <| sj <| sn ?_
        replace h := oi h
        replace h := hr3 _ h.symm
        replace h := hr2 _ h.symm
        refine RetE.plain ?_
        subst h; exact ai rfl (ai rfl rfl)
     ·refine sn <| sj <| sj <| sn ?_
      refine LoopE.img (fun x : Int => St.of [⟨0, ss a0, none⟩, ⟨7, ss (encB a1), none⟩, ⟨8, ii (IntKind.i64.wrap (((encB a1).length : Int) - (1 : Int))), none⟩, ⟨9, ii s4, none⟩, ⟨12, ii x, none⟩] [] []) (strings_IndexRune_b4 a0 a1 s4) (1 : Int) h ?_ ?_
      ·refine Gho.to _ _ _ [] ?_ ?_ ?_ rfl rfl ?_
       ·exact trivial
       ·exact rfl
       ·exact rfl
       ·exact tr3 <| tr3 <| tr3 <| tr3 <| tr3 <| trivial
      intro n4 x y4 h hl4 hr4
      revert h; revert x; intro s13 h
      unfold strings_IndexRune_b4 at h
      refine sj <| sj <| NormE.same <| sn ?_
      refine Br.of h (fun ht h => ?_) fun ht h => ?_
      ·refine sn <| sj <| sj <| Or.inl <| bind_elim h fun x14 hx14 h => ?_
       refine xi x14 (ai (fun hg => idx_some hx14) ?_)
       refine bind_elim h fun x15 hx15 h => ?_
       refine xi x15 (ai (fun hg => idx_some hx15) ?_)
       refine ai (by kernel_rfl) <| sn ?_
       refine Br.of h (fun ht h => ?_) fun ht h => ?_
       ·cases h
       ·refine sn ?_
        replace h := oi h
        refine xi ⟨(n4, (IntKind.i64.wrap (s13 + (1 : Int)))), hl4 _ h.symm⟩ (ai (Nat.lt_succ_self _) ?_)
        refine Gho.to _ _ _ [] ?_ ?_ ?_ rfl rfl ?_
        ·exact trivial
        ·exact rfl
        ·exact rfl
        ·exact tr3 <| tr3 <| tr3 <| tr3 <| tr3 <| trivial
      ·refine sn <| sj <| sj <| sn ?_
       replace h := oi h
       replace h := hr4 _ h.symm
       replace h := hr2 _ h.symm
       refine RetE.plain ?_
       subst h; exact ai rfl (ai rfl rfl)
    ·refine sn <| sj <| sj <| sn ?_
     replace h := oi h
     replace h := hr2 _ h.symm
     refine RetE.plain ?_
     subst h; exact ai rfl (ai rfl rfl)
theorem strings_ContainsRune_ok (E : Pm.Env) [LaidE E] (a0 : Bytes) (a1 : Int) (r : Bool) (h : strings_ContainsRune a0 a1 = some r) : FnR E Tryz.prog 121 [ss a0, AV.int .i32 a1] (bb r) false := by
 refine FnR.of_ev (T := T) (rows := []) tOk mixed Tryz.func121 rfl (by kernel_rfl) (by kernel_rfl) rfl fun hwf => ?_
 unfold strings_ContainsRune at h
 refine sj <| sn <| sj <| bind_elim h fun x1 hx1 h => CallH.data _ false rfl (strings_IndexRune_ok E a0 a1 x1 hx1) <| sn ?_
 replace h := oi h
 refine RetE.plain ?_
 subst h; exact ai rfl (ai rfl rfl)
theorem strings_trimLeftUnicode_ok (E : Pm.Env) [LaidE E] (a0 : Bytes) (a1 : Bytes) (r : Bytes) (h : strings_trimLeftUnicode a0 a1 = some r) : FnR E Tryz.prog 94 [ss a0, ss a1] (ss r) false := by
 refine FnR.of_ev (T := T) (rows := []) tOk mixed Tryz.func94 rfl (by kernel_rfl) (by kernel_rfl) rfl fun hwf => ?_
 unfold strings_trimLeftUnicode at h
 refine sj <| sn <| bind_elim h fun j1 hj1 h => ?_
 refine SeqJ.join (St.of [⟨0, ss j1, none⟩] [] []) ?_ ?_
 ·clear h; have h := hj1; clear hj1
  refine LoopE.img (fun x : Bytes => St.of [⟨0, ss x, none⟩, ⟨1, ss a1, none⟩] [] []) (strings_trimLeftUnicode_b1 a1) a0 h ?_ ?_
  ·refine Gho.to _ _ _ [] ?_ ?_ ?_ rfl rfl ?_
   ·exact trivial
   ·exact rfl
   ·exact rfl
   ·exact tr3 <| tr3 <| trivial
  intro n1 x y1 h hl1 hr1
  revert h; revert x; intro s2 h
  unfold strings_trimLeftUnicode_b1 at h
  refine sj <| sj <| NormE.same <| sn ?_
  refine Br.of h (fun ht h => ?_) fun ht h => ?_
  ·refine sn <| sj <| bind_elim h fun x3 hx3 h => CallH.data _ false rfl (unicode_utf8_DecodeRuneInString_ok E s2 x3 hx3) <| sn <| sj <| sj <| bind_elim h fun x4 hx4 h => CallH.data _ false rfl (strings_ContainsRune_ok E a1 x3.1 x4 hx4) <| sn ?_
   refine Br.of h (fun ht h => ?_) fun ht h => ?_
   ·replace h := oi h
    replace h := hr1 _ h.symm
    subst h
    refine Gho.to _ _ _ [] ?_ ?_ ?_ rfl rfl ?_
    ·exact trivial
    ·exact rfl
    ·exact rfl
    ·exact tr3 <| trivial
   ·refine sn <| bind_elim h fun x5 hx5 h => ?_
    have qx5 := (slc_some hx5).1
    have hx5e := (slc_some hx5).2
    refine ai (fun _ => qx5) <| NormE.to (ss x5) (fun _ => congrArg ss hx5e.symm) ?_
    replace h := oi h
    refine xi ⟨(n1, x5), hl1 _ h.symm⟩ (ai (Nat.lt_succ_self _) ?_)
    refine Gho.to _ _ _ [] ?_ ?_ ?_ rfl rfl ?_
    ·exact trivial
    ·exact rfl
    ·exact rfl
    ·exact tr3 <| tr3 <| trivial
  ·replace h := oi h
   replace h := hr1 _ h.symm
   subst h
   refine Gho.to _ _ _ [] ?_ ?_ ?_ rfl rfl ?_
   ·exact trivial
   ·exact rfl
   ·exact rfl
   ·exact tr3 <| trivial
 ·clear hj1
  refine sj <| sn ?_
  replace h := oi h
  refine RetE.plain ?_
  subst h; exact ai rfl (ai rfl rfl)
theorem strings_TrimLeft_ok (E : Pm.Env) [LaidE E] (a0 : Bytes) (a1 : Bytes) (r : Bytes) (h : strings_TrimLeft a0 a1 = some r) : FnR E Tryz.prog 67 [ss a0, ss a1] (ss r) false := by
 refine FnR.of_ev (T := T) (rows := []) tOk mixed Tryz.func67 rfl (by kernel_rfl) (by kernel_rfl) rfl fun hwf => ?_
 unfold strings_TrimLeft at h
 refine sj <| sn <| sj <| sj <| ai id <| ai (fun hg => (and_r hg)) <| sn ?_
 refine Br.of h (fun ht h => ?_) fun ht h => ?_
 ·refine sj <| sn ?_
  replace h := oi h
  refine RetE.plain ?_
  subst h; exact ai rfl (ai rfl rfl)
 ·refine sn <| sj <| sj <| NormE.same <| bind_elim h fun x1 hx1 h => ai id ?_
  refine xi x1 (ai (fun hg => gidx_some hx1 hg) ?_)
  refine ai id <| ai (fun hg => (and_r hg)) <| sn ?_
  refine Br.of h (fun ht h => ?_) fun ht h => ?_
  ·refine sj <| bind_elim h fun x2 hx2 h => ?_
   refine xi x2 (ai (fun hg => idx_some hx2) ?_)
   refine bind_elim h fun x3 hx3 h => CallH.data _ false rfl (strings_trimLeftByte_ok E a0 (x2.toNat : Int) x3 hx3) ?_
   refine SeqN.via (St.of [⟨4, ss x3, none⟩] [] []) ?_ ?_
   ·refine Gho.to _ _ _ [] ?_ ?_ ?_ rfl rfl ?_
    ·exact trivial
    ·exact rfl
    ·exact rfl
    ·exact tr3 <| trivial
   replace h := oi h
   refine RetE.plain ?_
   subst h; exact ai rfl (ai rfl rfl)
  ·refine sn <| sj <| sj <| bind_elim h fun x4 hx4 h => CallH.data _ false rfl (strings_makeASCIISet_ok E a1 x4 hx4) <| ai rfl <| chk_elim h fun q5 h => ?_
   refine ai ⟨rfl, arr_len _ q5, rfl, arr_room rfl⟩ (xi (x4.1.map AV.bool) (ai (fun _ => arr_store _ _ q5 rfl) ?_))
   refine SeqN.via (St.of [⟨0, ss a0, none⟩, ⟨1, ss a1, none⟩, ⟨5, AV.ptr 0 0, none⟩, ⟨6, bb x4.2, none⟩] [.cells 103 (x4.1.map AV.bool) []] []) ?_ ?_
   ·refine Gho.to _ _ _ [] ?_ ?_ ?_ rfl rfl ?_
    ·exact ⟨⟨rfl, rfl, rfl⟩, trivial⟩
    ·exact (and_tt' (noB_map _ (fun _ => rfl) _) rfl)
    ·exact rfl
    ·exact tr3 <| tr3 <| tr3 <| tr3 <| trivial
   refine sj <| chk_elim h fun hc1 h => ?_
   refine SeqN.via (St.of [⟨0, ss a0, none⟩, ⟨1, ss a1, none⟩, ⟨5, AV.iptr (x4.1.map AV.bool), none⟩, ⟨31, bb x4.2, none⟩] [] []) ?_ ?_
   ·refine Gho.trans (Gho.fz [0] [(5, AV.iptr (x4.1.map AV.bool))] ⟨Frz.ptr0 rfl (puB_map _ (fun _ => rfl) _) (by rw [List.length_map]; exact hc1), trivial⟩) ?_
    refine Gho.to _ _ _ [] ?_ ?_ ?_ rfl rfl ?_
    ·exact trivial
    ·exact rfl
    ·exact rfl
    ·exact tr3 <| tr3 <| tr3 <| tr3 <| trivial
   refine Br.of h (fun ht h => ?_) fun ht h => ?_
   ·refine sj <| bind_elim h fun x6 hx6 h => CallH.data _ false rfl (strings_trimLeftASCII_ok E a0 x4.1 x6 hx6) <| sn ?_
    replace h := oi h
    refine RetE.plain ?_
    subst h; exact ai rfl (ai rfl rfl)
   ·refine sn <| sj <| bind_elim h fun x7 hx7 h => CallH.data _ false rfl (strings_trimLeftUnicode_ok E a0 a1 x7 hx7) <| sn ?_
    replace h := oi h
    refine RetE.plain ?_
    subst h; exact ai rfl (ai rfl rfl)
theorem expr_parser_blanks_ok (E : Pm.Env) [LaidE E] (o0 : S_expr_parser) (r : Unit) (o0' : S_expr_parser) (h : expr_parser_blanks o0 = some (r, o0')) : FnW E Tryz.prog 43 [AV.ptr 0 0] [.cells 72 (S_expr_parser.cells o0) []] [] (AV.tup []) none [.cells 72 (S_expr_parser.cells o0') []] [] := by
 refine FnW.of_evB (T := T) (rows := []) tOk mixed Tryz.func43 rfl (by kernel_rfl) (by kernel_rfl) rfl rfl fun hwf => ?_
 unfold expr_parser_blanks at h
 refine bind_elim h fun x1 hx1 h => CallH.data _ false rfl (strings_TrimLeft_ok E o0.s ([32, 9, 10, 13] : Bytes) x1 hx1) ?_
 refine ai ⟨rfl, rfl, rfl, lb rfl⟩ (xi [ss x1, bb o0.bad] (ai (fun _ => rfl) ?_))
 replace h := oi h
 have h0 := (Prod.mk.inj h).1
 have h1 := (Prod.mk.inj h).2
 subst h0
 subst h1
 refine xi [] (xi [.cells 72 [ss x1, bb o0.bad] []] (ai rfl (ai (Gho.to _ _ _ [] ?_ ?_ ?_ rfl rfl ?_) (ai ?_ rfl))))
 ·exact ⟨⟨rfl, rfl, rfl⟩, trivial⟩
 ·exact rfl
 ·exact rfl
 ·exact trivial
 ·exact rfl
theorem stringslite_HasPrefix_ok (E : Pm.Env) [LaidE E] (a0 : Bytes) (a1 : Bytes) (r : Bool) (h : stringslite_HasPrefix a0 a1 = some r) : FnR E Tryz.prog 132 [ss a0, ss a1] (bb r) false := by
 refine FnR.of_ev (T := T) (rows := []) tOk mixed Tryz.func132 rfl (by kernel_rfl) (by kernel_rfl) rfl fun hwf => ?_
 unfold stringslite_HasPrefix at h
 refine sj <| sn <| sj <| NormE.same <| NormE.same <| ai id <| NormE.same <| bind_elim h fun x1 hx1 h => ?_
 have qx1 := (gslc_some hx1).1
 have hx1e := (gslc_some hx1).2
 refine ai id <| ai id <| ai qx1 <| NormE.to (ss x1) (fun _ => congrArg ss hx1e.symm) <| ai id <| ai id <| ai (fun hg => (and_r hg)) <| sn ?_
 replace h := oi h
 refine RetE.plain ?_
 subst h; exact ai rfl (ai rfl rfl)
theorem stringslite_CutPrefix_ok (E : Pm.Env) [LaidE E] (a0 : Bytes) (a1 : Bytes) (r : (Bytes × Bool)) (h : stringslite_CutPrefix a0 a1 = some r) : FnR E Tryz.prog 130 [ss a0, ss a1] (AV.tup [ss r.1, bb r.2]) false := by
 refine FnR.of_ev (T := T) (rows := []) tOk mixed Tryz.func130 rfl (by kernel_rfl) (by kernel_rfl) rfl fun hwf => ?_
 unfold stringslite_CutPrefix at h
 refine sj <| sn <| sj <| sj <| bind_elim h fun x1 hx1 h => CallH.data _ false rfl (stringslite_HasPrefix_ok E a0 a1 x1 hx1) <| sn ?_
 refine Br.of h (fun ht h => ?_) fun ht h => ?_
 ·refine sj <| sn ?_
  replace h := oi h
  refine RetE.plain ?_
  subst h; exact ai rfl (ai rfl rfl)
 ·refine sn <| sj <| NormE.same <| bind_elim h fun x2 hx2 h => ?_
  have qx2 := (slc_some hx2).1
  have hx2e := (slc_some hx2).2
  refine ai (fun _ => qx2) <| NormE.to (ss x2) (fun _ => congrArg ss hx2e.symm) <| sn ?_
  replace h := oi h
  refine RetE.plain ?_
  subst h; exact ai rfl (ai rfl rfl)
theorem strings_CutPrefix_ok (E : Pm.Env) [LaidE E] (a0 : Bytes) (a1 : Bytes) (r : (Bytes × Bool)) (h : strings_CutPrefix a0 a1 = some r) : FnR E Tryz.prog 107 [ss a0, ss a1] (AV.tup [ss r.1, bb r.2]) false := by
 refine FnR.of_ev (T := T) (rows := []) tOk mixed Tryz.func107 rfl (by kernel_rfl) (by kernel_rfl) rfl fun hwf => ?_
 unfold strings_CutPrefix at h
 refine sj <| sn <| sj <| bind_elim h fun x1 hx1 h => CallH.data _ false rfl (stringslite_CutPrefix_ok E a0 a1 x1 hx1) <| sn ?_
 replace h := oi h
 refine RetE.plain ?_
 subst h; exact ai rfl (ai rfl rfl)
theorem expr_parser_eat_ok (E : Pm.Env) [LaidE E] (o0 : S_expr_parser) (a1 : Bytes) (r : Bool) (o0' : S_expr_parser) (h : expr_parser_eat o0 a1 = some (r, o0')) : FnW E Tryz.prog 87 [AV.ptr 0 0, ss a1] [.cells 72 (S_expr_parser.cells o0) []] [] (bb r) none [.cells 72 (S_expr_parser.cells o0') []] [] := by
 refine FnW.of_evB (T := T) (rows := []) tOk mixed Tryz.func87 rfl (by kernel_rfl) (by kernel_rfl) rfl rfl fun hwf => ?_
 unfold expr_parser_eat at h
 refine sj <| sn <| sj <| bind_elim h fun x1 hx1 h => CallH.ren [0] [] [.cells 72 (S_expr_parser.cells x1.2) []] [] (expr_parser_blanks_ok E o0 x1.1 x1.2 hx1) rfl rfl rfl rfl rfl rfl rfl rfl rfl <| sn <| sj <| bind_elim h fun x2 hx2 h => CallH.data _ false rfl (strings_CutPrefix_ok E x1.2.s a1 x2 hx2) <| sn <| sj ?_
 refine ai ⟨rfl, rfl, rfl, lb rfl⟩ (xi [ss x2.1, bb x1.2.bad] (ai (fun _ => rfl) ?_))
 refine SeqN.via (St.of [⟨6, bb x2.2, none⟩] [.cells 72 [ss x2.1, bb x1.2.bad] []] []) ?_ ?_
 ·refine Gho.to _ _ _ [] ?_ ?_ ?_ rfl rfl ?_
  ·exact ⟨⟨rfl, rfl, rfl⟩, trivial⟩
  ·exact rfl
  ·exact rfl
  ·exact tr3 <| trivial
 refine sj <| sn ?_
 replace h := oi h
 have h0 := (Prod.mk.inj h).1
 have h1 := (Prod.mk.inj h).2
 subst h0
 subst h1
 refine xi [⟨4, bb x2.2, none⟩] (xi [.cells 72 [ss x2.1, bb x1.2.bad] []] (ai rfl (ai (Gho.to _ _ _ [] ?_ ?_ ?_ rfl rfl ?_) (ai ?_ rfl))))
 ·exact ⟨⟨rfl, rfl, rfl⟩, trivial⟩
 ·exact rfl
 ·exact rfl
 ·exact tr3 <| trivial
 ·exact rfl
theorem expr_parser_fail_ok (E : Pm.Env) [LaidE E] (o0 : S_expr_parser) (r : S_Expr) (o0' : S_expr_parser) (h : expr_parser_fail o0 = some (r, o0')) : FnW E Tryz.prog 88 [AV.ptr 0 0] [.cells 72 (S_expr_parser.cells o0) []] [] (S_Expr.av r) none [.cells 72 (S_expr_parser.cells o0') []] [] := by
 refine FnW.of_evB (T := T) (rows := []) tOk mixed Tryz.func88 rfl (by kernel_rfl) (by kernel_rfl) rfl rfl fun hwf => ?_
 unfold expr_parser_fail at h
 refine sj <| ai rfl <| sn <| sj ?_
 refine ai ⟨rfl, rfl, rfl, lb rfl⟩ (xi [ss o0.s, bb true] (ai (fun _ => rfl) ?_))
 refine sn <| sj ?_
 refine ai ⟨rfl, rfl, rfl, lb rfl⟩ (xi [ss [], bb true] (ai (fun _ => rfl) ?_))
 refine sn <| sj ?_
 refine xi (some 31) (ai (okM.mk (show (31 : Nat) = freeM T _ _ _ from by kernel_rfl)) ?_)
 refine ai ⟨rfl, rfl, rfl, lb rfl⟩ (xi [ii 0, ii 0, ss [], ss [], AV.list 5 (([] : List S_Expr).map S_Expr.avR)] (ai (fun _ => rfl) ?_))
 refine sn ?_
 replace h := oi h
 have h0 := (Prod.mk.inj h).1
 have h1 := (Prod.mk.inj h).2
 subst h0
 subst h1
 refine xi [⟨2, AV.ptr 1 0, none⟩] (xi [.cells 72 [ss [], bb true] [], .cells 26 [ii 0, ii 0, ss [], ss [], AV.list 5 (([] : List S_Expr).map S_Expr.avR)] []] (ai rfl (ai (Gho.to _ _ _ [] ?_ ?_ ?_ rfl rfl ?_) (ai ?_ rfl))))
 ·exact ⟨⟨rfl, rfl, rfl⟩, ⟨⟨rfl, rfl, rfl⟩, trivial⟩⟩
 ·exact rfl
 ·exact rfl
 ·exact tr3 <| trivial
 ·refine ai ⟨lb rfl, lb rfl⟩ (xi (AV.agg [ii 0, ii 0, ss [], ss [], AV.list 5 (([] : List S_Expr).map S_Expr.avR)]) (ai rfl ?_))
  exact rfl
theorem stringslite_Cut_ok (E : Pm.Env) [LaidE E] (a0 : Bytes) (a1 : Bytes) (r : (Bytes × Bytes × Bool)) (h : stringslite_Cut a0 a1 = some r) : FnR E Tryz.prog 134 [ss a0, ss a1] (AV.tup [ss r.1, ss r.2.1, bb r.2.2]) false := by
 refine FnR.of_ev (T := T) (rows := []) tOk mixed Tryz.func134 rfl (by kernel_rfl) (by kernel_rfl) rfl fun hwf => ?_
 unfold stringslite_Cut at h
 refine sj <| sn <| sj <| sj <| bind_elim h fun x1 hx1 h => CallH.data _ false rfl (stringslite_Index_ok E a0 a1 x1 hx1) <| sn <| sj <| sn ?_
 refine Br.of h (fun ht h => ?_) fun ht h => ?_
 ·refine sj <| Or.inl <| bind_elim h fun x2 hx2 h => ?_
  have qx2 := (slc_some hx2).1
  have hx2e := (slc_some hx2).2
  refine ai (fun _ => qx2) <| NormE.to (ss x2) (fun _ => congrArg ss hx2e.symm) <| NormE.same <| bind_elim h fun x3 hx3 h => ?_
  have qx3 := (slc_some hx3).1
  have hx3e := (slc_some hx3).2
  refine ai (fun _ => qx3) <| NormE.to (ss x3) (fun _ => congrArg ss hx3e.symm) <| ai (by kernel_rfl) ?_
  refine SeqN.via (St.of [⟨4, ss x2, none⟩, ⟨5, ss x3, none⟩, ⟨6, bb true, none⟩] [] []) ?_ ?_
  ·refine Gho.to _ _ _ [] ?_ ?_ ?_ rfl rfl ?_
   ·exact trivial
   ·exact rfl
   ·exact rfl
   ·exact tr3 <| tr3 <| tr3 <| trivial
  replace h := oi h
  refine RetE.plain ?_
  subst h; exact ai rfl (ai rfl rfl)
 ·refine sn <| sj <| sn ?_
  replace h := oi h
  refine RetE.plain ?_
  subst h; exact ai rfl (ai rfl rfl)
theorem strings_Cut_ok (E : Pm.Env) [LaidE E] (a0 : Bytes) (a1 : Bytes) (r : (Bytes × Bytes × Bool)) (h : strings_Cut a0 a1 = some r) : FnR E Tryz.prog 116 [ss a0, ss a1] (AV.tup [ss r.1, ss r.2.1, bb r.2.2]) false := by
 refine FnR.of_ev (T := T) (rows := []) tOk mixed Tryz.func116 rfl (by kernel_rfl) (by kernel_rfl) rfl fun hwf => ?_
 unfold strings_Cut at h
 refine sj <| sn <| sj <| bind_elim h fun x1 hx1 h => CallH.data _ false rfl (stringslite_Cut_ok E a0 a1 x1 hx1) <| sn ?_
 replace h := oi h
 refine RetE.plain ?_
 subst h; exact ai rfl (ai rfl rfl)
theorem vars_run_ok (E : Pm.Env) [LaidE E] (a0 : Bytes) (a1 : FuncId) (a1c : List AV) (a1i : Int → Option Bool) (a1h : ∀ (x0 : Int) (r : Bool), a1i x0 = some r → FnR E Tryz.prog a1 ([AV.int .u8 x0] ++ a1c) (bb r) false) (a1p : a1c.all AV.puB = true) (r : Int) (h : vars_run a0 a1i = some r) : FnR E Tryz.prog 112 [ss a0, AV.fn a1 [] a1c] (ii r) false := by
 refine FnR.of_ev (T := T) (rows := []) tOk mixed Tryz.func112 rfl (by kernel_rfl) (by kernel_rfl) rfl fun hwf => ?_
 unfold vars_run at h
 refine sj <| sn <| sj <| sn <| bind_elim h fun j1 hj1 h => ?_
 refine SeqJ.join (St.of [⟨5, ii j1, none⟩] [] []) ?_ ?_
 ·clear h; have h := hj1; clear hj1
  refine LoopE.img (fun x : Int => St.of [⟨0, ss a0, none⟩, ⟨1, AV.fn a1 [] a1c, none⟩, ⟨5, ii x, none⟩] [] []) (vars_run_b1 a0 a1i) (0 : Int) h ?_ ?_
  ·refine Gho.to _ _ _ [] ?_ ?_ ?_ rfl rfl ?_
   ·exact trivial
   ·exact rfl
   ·exact rfl
   ·exact ⟨rfl, rfl, trivial, rfl, (noB_fn a1p _), trivial, rfl, rfl, trivial, trivial⟩
  intro n1 x y1 h hl1 hr1
  revert h; revert x; intro s2 h
  unfold vars_run_b1 at h
  refine sj <| sj <| NormE.same <| bind_elim h fun x3 hx3 h => ai id <| ai id ?_
  refine xi x3 (ai (fun hg => gidx_some hx3 hg) ?_)
  refine bind_elim h fun x4 hx4 h => ai id <| ai id <| ai (puD_app rfl (puD_of a1p)) ?_
  refine CallF.mk _ false (fun hg => a1h (x3.toNat : Int) x4 (gcall_some hx4 hg)) (ai rfl ?_)
  refine ai (fun hg => (and_r hg)) <| sn ?_
  refine Br.of h (fun ht h => ?_) fun ht h => ?_
  ·refine sn ?_
   replace h := oi h
   refine xi ⟨(n1, (IntKind.i64.wrap (s2 + (1 : Int)))), hl1 _ h.symm⟩ (ai (Nat.lt_succ_self _) ?_)
   refine Gho.to _ _ _ [] ?_ ?_ ?_ rfl rfl ?_
   ·exact trivial
   ·exact rfl
   ·exact rfl
   ·exact ⟨rfl, rfl, trivial, rfl, (noB_fn a1p _), trivial, rfl, rfl, trivial, trivial⟩
  ·replace h := oi h
   replace h := hr1 _ h.symm
   subst h
   refine Gho.to _ _ _ [] ?_ ?_ ?_ rfl rfl ?_
   ·exact trivial
   ·exact rfl
   ·exact rfl
   ·exact tr3 <| trivial
 ·clear hj1
  refine sj <| sn ?_
  replace h := oi h
  refine RetE.plain ?_
  subst h; exact ai rfl (ai rfl rfl)
theorem vars_letter_ok (E : Pm.Env) [LaidE E] (a0 : Int) (r : Bool) (h : vars_letter a0 = some r) : FnR E Tryz.prog 113 [AV.int .u8 a0] (bb r) false := by
 refine FnR.of_ev (T := T) (rows := []) tOk mixed Tryz.func113 rfl (by kernel_rfl) (by kernel_rfl) rfl fun hwf => ?_
 unfold vars_letter at h
 refine sj <| sn <| sj <| ai id <| ai (fun hg => (and_r hg)) <| ai id <| ai (fun hg => (and_r hg)) <| sn ?_
 replace h := oi h
 refine RetE.plain ?_
 subst h; exact ai rfl (ai rfl rfl)
theorem vars_Ref_1_ok (E : Pm.Env) [LaidE E] (r : (Bytes × Int)) (h : vars_Ref_1 = some r) : FnR E Tryz.prog 111 [] (AV.tup [ss r.1, ii r.2]) false := by
 refine FnR.of_ev (T := T) (rows := []) tOk mixed Tryz.func111 rfl (by kernel_rfl) (by kernel_rfl) rfl fun hwf => ?_
 unfold vars_Ref_1 at h
 refine sj <| sn <| sj <| sn ?_
 replace h := oi h
 refine RetE.plain ?_
 subst h; exact ai rfl (ai rfl rfl)
theorem strings_HasPrefix_ok (E : Pm.Env) [LaidE E] (a0 : Bytes) (a1 : Bytes) (r : Bool) (h : strings_HasPrefix a0 a1 = some r) : FnR E Tryz.prog 114 [ss a0, ss a1] (bb r) false := by
 refine FnR.of_ev (T := T) (rows := []) tOk mixed Tryz.func114 rfl (by kernel_rfl) (by kernel_rfl) rfl fun hwf => ?_
 unfold strings_HasPrefix at h
 refine sj <| sn <| sj <| bind_elim h fun x1 hx1 h => CallH.data _ false rfl (stringslite_HasPrefix_ok E a0 a1 x1 hx1) <| sn ?_
 replace h := oi h
 refine RetE.plain ?_
 subst h; exact ai rfl (ai rfl rfl)
theorem vars_but_ok (E : Pm.Env) [LaidE E] (a0 : Bytes) (r : Bytes) (h : vars_but a0 = some r) : FnR E Tryz.prog 115 [ss a0] (AV.fn 133 [] [AV.iptr [ss r]]) false := by
 refine FnR.of_ev (T := T) (rows := []) tOk mixed Tryz.func115 rfl (by kernel_rfl) (by kernel_rfl) rfl fun hwf => ?_
 unfold vars_but at h
 refine sj <| ai rfl ?_
 refine SeqN.via (St.of [⟨1, AV.iptr [ss a0], none⟩] [] []) ?_ ?_
 ·refine Gho.trans (Gho.fz [0] [(1, AV.iptr [ss a0])] ⟨Frz.ptrD rfl rfl (lb rfl), trivial⟩) ?_
  refine Gho.to _ _ _ [] ?_ ?_ ?_ rfl rfl ?_
  ·exact trivial
  ·exact rfl
  ·exact rfl
  ·exact tr3 <| trivial
 refine sj <| sn ?_
 replace h := oi h
 refine RetE.plain ?_
 subst h; exact ai rfl (ai rfl rfl)
theorem vars_but_1_ok (E : Pm.Env) [LaidE E] (a0 : Int) (c0 : Bytes) (r : Bool) (h : vars_but_1 a0 c0 = some r) : FnR E Tryz.prog 133 [AV.int .u8 a0, AV.iptr [ss c0]] (bb r) false := by
 refine FnR.of_ev (T := T) (rows := []) tOk mixed Tryz.func133 rfl (by kernel_rfl) (by kernel_rfl) rfl fun hwf => ?_
 unfold vars_but_1 at h
 refine sj <| sn <| sj <| bind_elim h fun x1 hx1 h => CallH.data _ false rfl (strings_IndexByte_ok E c0 a0 x1 hx1) <| sn ?_
 replace h := oi h
 refine RetE.plain ?_
 subst h; exact ai rfl (ai rfl rfl)
theorem vars_bare_ok (E : Pm.Env) [LaidE E] (a0 : Bytes) (r : Bytes) (h : vars_bare a0 = some r) : FnR E Tryz.prog 153 [ss a0] (AV.fn 172 [] [AV.iptr [ss r]]) false := by
 refine FnR.of_ev (T := T) (rows := []) tOk mixed Tryz.func153 rfl (by kernel_rfl) (by kernel_rfl) rfl fun hwf => ?_
 unfold vars_bare at h
 refine sj <| ai rfl ?_
 refine SeqN.via (St.of [⟨1, AV.iptr [ss a0], none⟩] [] []) ?_ ?_
 ·refine Gho.trans (Gho.fz [0] [(1, AV.iptr [ss a0])] ⟨Frz.ptrD rfl rfl (lb rfl), trivial⟩) ?_
  refine Gho.to _ _ _ [] ?_ ?_ ?_ rfl rfl ?_
  ·exact trivial
  ·exact rfl
  ·exact rfl
  ·exact tr3 <| trivial
 refine sj <| sn ?_
 replace h := oi h
 refine RetE.plain ?_
 subst h; exact ai rfl (ai rfl rfl)
theorem vars_of_vars_known_1_ok (E : Pm.Env) [LaidE E] (a0 : Bytes) (a1k0 : S_Env) (r : (Bytes × S_Env)) (h : vars_of_vars_known_1 a0 a1k0 = some r) : FnR E Tryz.prog 154 [ss a0, AV.fn 150 [] [AV.iptr (S_Env.cells a1k0)]] (AV.fn 173 [] [AV.iptr [ss r.1], AV.iptr [AV.fn 150 [] [AV.iptr (S_Env.cells r.2)]]]) false := by
 refine FnR.of_ev (T := T) (rows := []) tOk mixed Tryz.func154 rfl (by kernel_rfl) (by kernel_rfl) rfl fun hwf => ?_
 unfold vars_of_vars_known_1 at h
 refine sj <| ai rfl <| ai rfl ?_
 refine SeqN.via (St.of [⟨2, AV.iptr [ss a0], none⟩, ⟨3, AV.iptr [AV.fn 150 [] [AV.iptr (S_Env.cells a1k0)]], none⟩] [] []) ?_ ?_
 ·refine Gho.trans (Gho.fz [0, 1] [(2, AV.iptr [ss a0]), (3, AV.iptr [AV.fn 150 [] [AV.iptr (S_Env.cells a1k0)]])] ⟨Frz.ptrD rfl rfl (lb rfl), Frz.ptrD rfl rfl (lb rfl), trivial⟩) ?_
  refine Gho.to _ _ _ [] ?_ ?_ ?_ rfl rfl ?_
  ·exact trivial
  ·exact rfl
  ·exact rfl
  ·exact tr3 <| tr3 <| trivial
 refine sj <| sn ?_
 replace h := oi h
 refine RetE.plain ?_
 subst h; exact ai rfl (ai rfl rfl)
theorem vars_of_vars_known_2_ok (E : Pm.Env) [LaidE E] (a0 : Bytes) (a1k0 : S_Env) (r : (Bytes × S_Env)) (h : vars_of_vars_known_2 a0 a1k0 = some r) : FnR E Tryz.prog 154 [ss a0, AV.fn 155 [] [AV.iptr (S_Env.cells a1k0)]] (AV.fn 173 [] [AV.iptr [ss r.1], AV.iptr [AV.fn 155 [] [AV.iptr (S_Env.cells r.2)]]]) false := by
 refine FnR.of_ev (T := T) (rows := []) tOk mixed Tryz.func154 rfl (by kernel_rfl) (by kernel_rfl) rfl fun hwf => ?_
 unfold vars_of_vars_known_2 at h
 refine sj <| ai rfl <| ai rfl ?_
 refine SeqN.via (St.of [⟨2, AV.iptr [ss a0], none⟩, ⟨3, AV.iptr [AV.fn 155 [] [AV.iptr (S_Env.cells a1k0)]], none⟩] [] []) ?_ ?_
 ·refine Gho.trans (Gho.fz [0, 1] [(2, AV.iptr [ss a0]), (3, AV.iptr [AV.fn 155 [] [AV.iptr (S_Env.cells a1k0)]])] ⟨Frz.ptrD rfl rfl (lb rfl), Frz.ptrD rfl rfl (lb rfl), trivial⟩) ?_
  refine Gho.to _ _ _ [] ?_ ?_ ?_ rfl rfl ?_
  ·exact trivial
  ·exact rfl
  ·exact rfl
  ·exact tr3 <| tr3 <| trivial
 refine sj <| sn ?_
 replace h := oi h
 refine RetE.plain ?_
 subst h; exact ai rfl (ai rfl rfl)
theorem vars_of_vars_known_3_ok (E : Pm.Env) [LaidE E] (a0 : Bytes) (a1k0 : S_Env) (r : (Bytes × S_Env)) (h : vars_of_vars_known_3 a0 a1k0 = some r) : FnR E Tryz.prog 154 [ss a0, AV.fn 158 [] [AV.iptr (S_Env.cells a1k0)]] (AV.fn 173 [] [AV.iptr [ss r.1], AV.iptr [AV.fn 158 [] [AV.iptr (S_Env.cells r.2)]]]) false := by
 refine FnR.of_ev (T := T) (rows := []) tOk mixed Tryz.func154 rfl (by kernel_rfl) (by kernel_rfl) rfl fun hwf => ?_
 unfold vars_of_vars_known_3 at h
 refine sj <| ai rfl <| ai rfl ?_
 refine SeqN.via (St.of [⟨2, AV.iptr [ss a0], none⟩, ⟨3, AV.iptr [AV.fn 158 [] [AV.iptr (S_Env.cells a1k0)]], none⟩] [] []) ?_ ?_
 ·refine Gho.trans (Gho.fz [0, 1] [(2, AV.iptr [ss a0]), (3, AV.iptr [AV.fn 158 [] [AV.iptr (S_Env.cells a1k0)]])] ⟨Frz.ptrD rfl rfl (lb rfl), Frz.ptrD rfl rfl (lb rfl), trivial⟩) ?_
  refine Gho.to _ _ _ [] ?_ ?_ ?_ rfl rfl ?_
  ·exact trivial
  ·exact rfl
  ·exact rfl
  ·exact tr3 <| tr3 <| trivial
 refine sj <| sn ?_
 replace h := oi h
 refine RetE.plain ?_
 subst h; exact ai rfl (ai rfl rfl)
theorem vars_of_vars_known_4_ok (E : Pm.Env) [LaidE E] (a0 : Bytes) (a1k0 : S_Env) (r : (Bytes × S_Env)) (h : vars_of_vars_known_4 a0 a1k0 = some r) : FnR E Tryz.prog 154 [ss a0, AV.fn 160 [] [AV.iptr (S_Env.cells a1k0)]] (AV.fn 173 [] [AV.iptr [ss r.1], AV.iptr [AV.fn 160 [] [AV.iptr (S_Env.cells r.2)]]]) false := by
 refine FnR.of_ev (T := T) (rows := []) tOk mixed Tryz.func154 rfl (by kernel_rfl) (by kernel_rfl) rfl fun hwf => ?_
 unfold vars_of_vars_known_4 at h
 refine sj <| ai rfl <| ai rfl ?_
 refine SeqN.via (St.of [⟨2, AV.iptr [ss a0], none⟩, ⟨3, AV.iptr [AV.fn 160 [] [AV.iptr (S_Env.cells a1k0)]], none⟩] [] []) ?_ ?_
 ·refine Gho.trans (Gho.fz [0, 1] [(2, AV.iptr [ss a0]), (3, AV.iptr [AV.fn 160 [] [AV.iptr (S_Env.cells a1k0)]])] ⟨Frz.ptrD rfl rfl (lb rfl), Frz.ptrD rfl rfl (lb rfl), trivial⟩) ?_
  refine Gho.to _ _ _ [] ?_ ?_ ?_ rfl rfl ?_
  ·exact trivial
  ·exact rfl
  ·exact rfl
  ·exact tr3 <| tr3 <| trivial
 refine sj <| sn ?_
 replace h := oi h
 refine RetE.plain ?_
 subst h; exact ai rfl (ai rfl rfl)
theorem vars_known_ok (E : Pm.Env) [LaidE E] (a0 : S_Env) (r : (Bytes × Bytes × (Bytes × S_Env) × (Bytes × S_Env) × (Bytes × S_Env) × (Bytes × S_Env))) (h : vars_known a0 = some r) : FnM E Tryz.prog 135 [S_Env.av a0] [(ss ([72, 84, 84, 80, 95, 72, 79, 83, 84] : Bytes), AV.fn 172 [] [AV.iptr [ss r.1]]), (ss ([72, 84, 84, 80, 95, 82, 69, 70, 69, 82, 69, 82] : Bytes), AV.fn 172 [] [AV.iptr [ss r.2.1]]), (ss ([72, 84, 84, 80, 95, 85, 83, 69, 82, 95, 65, 71, 69, 78, 84] : Bytes), AV.fn 173 [] [AV.iptr [ss r.2.2.1.1], AV.iptr [AV.fn 150 [] [AV.iptr (S_Env.cells r.2.2.1.2)]]]), (ss ([72, 84, 84, 80, 95, 67, 79, 79, 75, 73, 69] : Bytes), AV.fn 173 [] [AV.iptr [ss r.2.2.2.1.1], AV.iptr [AV.fn 155 [] [AV.iptr (S_Env.cells r.2.2.2.1.2)]]]), (ss ([81, 85, 69, 82, 89, 95, 83, 84, 82, 73, 78, 71] : Bytes), AV.fn 173 [] [AV.iptr [ss r.2.2.2.2.1.1], AV.iptr [AV.fn 158 [] [AV.iptr (S_Env.cells r.2.2.2.2.1.2)]]]), (ss ([72, 84, 84, 80, 95, 65, 67, 67, 69, 80, 84, 95, 76, 65, 78, 71, 85, 65, 71, 69] : Bytes), AV.fn 173 [] [AV.iptr [ss r.2.2.2.2.2.1], AV.iptr [AV.fn 160 [] [AV.iptr (S_Env.cells r.2.2.2.2.2.2)]]])] := by
 refine FnM.of_ev (T := T) (rows := []) tOk mixed Tryz.func135 rfl (by kernel_rfl) (by kernel_rfl) rfl fun hwf => ?_
 unfold vars_known at h
 refine sj <| ai rfl ?_
 refine SeqN.via (St.of [⟨1, AV.iptr (S_Env.cells a0), none⟩] [] []) ?_ ?_
 ·refine Gho.trans (Gho.fz [0] [(1, AV.iptr (S_Env.cells a0))] ⟨Frz.ptrD rfl rfl (lb rfl), trivial⟩) ?_
  refine Gho.to _ _ _ [] ?_ ?_ ?_ rfl rfl ?_
  ·exact trivial
  ·exact rfl
  ·exact rfl
  ·exact tr3 <| trivial
 refine sj <| sn <| sj ?_
 refine Or.inr (xi 0 (xi 0 ?_))
 refine bind_elim h fun x1 hx1 h => CallH.data _ false rfl (vars_bare_ok E a0.Host x1 hx1) ?_
 refine xi (ss ([72, 84, 84, 80, 95, 72, 79, 83, 84] : Bytes), AV.fn 172 [] [AV.iptr [ss x1]]) (ai (fun es hk => ?_) ?_)
 ·exact ai ⟨rfl, rfl, rfl⟩ (xi (es ++ [(ss ([72, 84, 84, 80, 95, 72, 79, 83, 84] : Bytes), AV.fn 172 [] [AV.iptr [ss x1]])]) (ai (ins_new hk) ⟨rfl, rfl, rfl⟩))
 refine bind_elim h fun x2 hx2 h => CallH.data _ false rfl (vars_bare_ok E a0.Referer x2 hx2) ?_
 refine xi (ss ([72, 84, 84, 80, 95, 82, 69, 70, 69, 82, 69, 82] : Bytes), AV.fn 172 [] [AV.iptr [ss x2]]) (ai (fun es hk => ?_) ?_)
 ·exact ai ⟨rfl, rfl, rfl⟩ (xi (es ++ [(ss ([72, 84, 84, 80, 95, 82, 69, 70, 69, 82, 69, 82] : Bytes), AV.fn 172 [] [AV.iptr [ss x2]])]) (ai (ins_new hk) ⟨rfl, rfl, rfl⟩))
 refine bind_elim h fun x3 hx3 h => CallH.data _ false rfl (vars_of_vars_known_1_ok E a0.Agent a0 x3 hx3) ?_
 refine xi (ss ([72, 84, 84, 80, 95, 85, 83, 69, 82, 95, 65, 71, 69, 78, 84] : Bytes), AV.fn 173 [] [AV.iptr [ss x3.1], AV.iptr [AV.fn 150 [] [AV.iptr (S_Env.cells x3.2)]]]) (ai (fun es hk => ?_) ?_)
 ·exact ai ⟨rfl, rfl, rfl⟩ (xi (es ++ [(ss ([72, 84, 84, 80, 95, 85, 83, 69, 82, 95, 65, 71, 69, 78, 84] : Bytes), AV.fn 173 [] [AV.iptr [ss x3.1], AV.iptr [AV.fn 150 [] [AV.iptr (S_Env.cells x3.2)]]])]) (ai (ins_new hk) ⟨rfl, rfl, rfl⟩))
 refine bind_elim h fun x4 hx4 h => CallH.data _ false rfl (vars_of_vars_known_2_ok E a0.Cookie a0 x4 hx4) ?_
 refine xi (ss ([72, 84, 84, 80, 95, 67, 79, 79, 75, 73, 69] : Bytes), AV.fn 173 [] [AV.iptr [ss x4.1], AV.iptr [AV.fn 155 [] [AV.iptr (S_Env.cells x4.2)]]]) (ai (fun es hk => ?_) ?_)
 ·exact ai ⟨rfl, rfl, rfl⟩ (xi (es ++ [(ss ([72, 84, 84, 80, 95, 67, 79, 79, 75, 73, 69] : Bytes), AV.fn 173 [] [AV.iptr [ss x4.1], AV.iptr [AV.fn 155 [] [AV.iptr (S_Env.cells x4.2)]]])]) (ai (ins_new hk) ⟨rfl, rfl, rfl⟩))
 refine bind_elim h fun x5 hx5 h => CallH.data _ false rfl (vars_of_vars_known_3_ok E a0.Query a0 x5 hx5) ?_
 refine xi (ss ([81, 85, 69, 82, 89, 95, 83, 84, 82, 73, 78, 71] : Bytes), AV.fn 173 [] [AV.iptr [ss x5.1], AV.iptr [AV.fn 158 [] [AV.iptr (S_Env.cells x5.2)]]]) (ai (fun es hk => ?_) ?_)
 ·exact ai ⟨rfl, rfl, rfl⟩ (xi (es ++ [(ss ([81, 85, 69, 82, 89, 95, 83, 84, 82, 73, 78, 71] : Bytes), AV.fn 173 [] [AV.iptr [ss x5.1], AV.iptr [AV.fn 158 [] [AV.iptr (S_Env.cells x5.2)]]])]) (ai (ins_new hk) ⟨rfl, rfl, rfl⟩))
 refine bind_elim h fun x6 hx6 h => CallH.data _ false rfl (vars_of_vars_known_4_ok E a0.Language a0 x6 hx6) ?_
 refine xi (ss ([72, 84, 84, 80, 95, 65, 67, 67, 69, 80, 84, 95, 76, 65, 78, 71, 85, 65, 71, 69] : Bytes), AV.fn 173 [] [AV.iptr [ss x6.1], AV.iptr [AV.fn 160 [] [AV.iptr (S_Env.cells x6.2)]]]) (ai (fun es hk => ?_) ?_)
 ·exact ai ⟨rfl, rfl, rfl⟩ (xi (es ++ [(ss ([72, 84, 84, 80, 95, 65, 67, 67, 69, 80, 84, 95, 76, 65, 78, 71, 85, 65, 71, 69] : Bytes), AV.fn 173 [] [AV.iptr [ss x6.1], AV.iptr [AV.fn 160 [] [AV.iptr (S_Env.cells x6.2)]]])]) (ai (ins_new hk) ⟨rfl, rfl, rfl⟩))
 refine ai ⟨by kernel_rfl, by kernel_rfl, rfl⟩ (xi [(ss ([72, 84, 84, 80, 95, 72, 79, 83, 84] : Bytes), AV.fn 172 [] [AV.iptr [ss x1]]), (ss ([72, 84, 84, 80, 95, 82, 69, 70, 69, 82, 69, 82] : Bytes), AV.fn 172 [] [AV.iptr [ss x2]]), (ss ([72, 84, 84, 80, 95, 85, 83, 69, 82, 95, 65, 71, 69, 78, 84] : Bytes), AV.fn 173 [] [AV.iptr [ss x3.1], AV.iptr [AV.fn 150 [] [AV.iptr (S_Env.cells x3.2)]]]), (ss ([72, 84, 84, 80, 95, 67, 79, 79, 75, 73, 69] : Bytes), AV.fn 173 [] [AV.iptr [ss x4.1], AV.iptr [AV.fn 155 [] [AV.iptr (S_Env.cells x4.2)]]]), (ss ([81, 85, 69, 82, 89, 95, 83, 84, 82, 73, 78, 71] : Bytes), AV.fn 173 [] [AV.iptr [ss x5.1], AV.iptr [AV.fn 158 [] [AV.iptr (S_Env.cells x5.2)]]]), (ss ([72, 84, 84, 80, 95, 65, 67, 67, 69, 80, 84, 95, 76, 65, 78, 71, 85, 65, 71, 69] : Bytes), AV.fn 173 [] [AV.iptr [ss x6.1], AV.iptr [AV.fn 160 [] [AV.iptr (S_Env.cells x6.2)]]])] (ai (by kernel_rfl) ?_))
 refine SeqN.via (St.of [⟨2, AV.mapv 0, none⟩] [.mp (.mapP [(ss ([72, 84, 84, 80, 95, 72, 79, 83, 84] : Bytes), AV.fn 172 [] [AV.iptr [ss x1]]), (ss ([72, 84, 84, 80, 95, 82, 69, 70, 69, 82, 69, 82] : Bytes), AV.fn 172 [] [AV.iptr [ss x2]]), (ss ([72, 84, 84, 80, 95, 85, 83, 69, 82, 95, 65, 71, 69, 78, 84] : Bytes), AV.fn 173 [] [AV.iptr [ss x3.1], AV.iptr [AV.fn 150 [] [AV.iptr (S_Env.cells x3.2)]]]), (ss ([72, 84, 84, 80, 95, 67, 79, 79, 75, 73, 69] : Bytes), AV.fn 173 [] [AV.iptr [ss x4.1], AV.iptr [AV.fn 155 [] [AV.iptr (S_Env.cells x4.2)]]]), (ss ([81, 85, 69, 82, 89, 95, 83, 84, 82, 73, 78, 71] : Bytes), AV.fn 173 [] [AV.iptr [ss x5.1], AV.iptr [AV.fn 158 [] [AV.iptr (S_Env.cells x5.2)]]]), (ss ([72, 84, 84, 80, 95, 65, 67, 67, 69, 80, 84, 95, 76, 65, 78, 71, 85, 65, 71, 69] : Bytes), AV.fn 173 [] [AV.iptr [ss x6.1], AV.iptr [AV.fn 160 [] [AV.iptr (S_Env.cells x6.2)]]])])] []) ?_ ?_
 ·refine Gho.to _ _ _ [] ?_ ?_ ?_ rfl rfl ?_
  ·exact ⟨rfl, trivial⟩
  ·exact rfl
  ·exact rfl
  ·exact tr3 <| trivial
 replace h := oi h
 subst h
 exact xi 0 (ai rfl rfl)
theorem vars_some_ok (E : Pm.Env) [LaidE E] (a0 : Bytes) (r : (Bytes × Bool)) (h : vars_some a0 = some r) : FnR E Tryz.prog 152 [ss a0] (AV.tup [ss r.1, bb r.2]) false := by
 refine FnR.of_ev (T := T) (rows := []) tOk mixed Tryz.func152 rfl (by kernel_rfl) (by kernel_rfl) rfl fun hwf => ?_
 unfold vars_some at h
 refine sj <| sn <| sj <| sn ?_
 replace h := oi h
 refine RetE.plain ?_
 subst h; exact ai rfl (ai rfl rfl)
theorem vars_bare_1_ok (E : Pm.Env) [LaidE E] (a0 : Bytes) (c0 : Bytes) (r : (Bytes × Bool)) (h : vars_bare_1 a0 c0 = some r) : FnR E Tryz.prog 172 [ss a0, AV.iptr [ss c0]] (AV.tup [ss r.1, bb r.2]) false := by
 refine FnR.of_ev (T := T) (rows := []) tOk mixed Tryz.func172 rfl (by kernel_rfl) (by kernel_rfl) rfl fun hwf => ?_
 unfold vars_bare_1 at h
 refine sj <| sn <| sj <| sj <| sn ?_
 refine Br.of h (fun ht h => ?_) fun ht h => ?_
 ·refine sj <| sn ?_
  replace h := oi h
  refine RetE.plain ?_
  subst h; exact ai rfl (ai rfl rfl)
 ·refine sn <| sj <| bind_elim h fun x1 hx1 h => CallH.data _ false rfl (vars_some_ok E c0 x1 hx1) <| sn ?_
  replace h := oi h
  refine RetE.plain ?_
  subst h; exact ai rfl (ai rfl rfl)
theorem vars_of_1_ok (E : Pm.Env) [LaidE E] (a0 : Bytes) (c0 : Bytes) (c1 : FuncId) (c1c : List AV) (c1i : Bytes → Option (Bytes × Bool)) (c1h : ∀ (x0 : Bytes) (r : (Bytes × Bool)), c1i x0 = some r → FnR E Tryz.prog c1 ([ss x0] ++ c1c) (AV.tup [ss r.1, bb r.2]) false) (c1p : c1c.all AV.puB = true) (r : (Bytes × Bool)) (h : vars_of_1 a0 c0 c1i = some r) : FnR E Tryz.prog 173 [ss a0, AV.iptr [ss c0], AV.iptr [AV.fn c1 [] c1c]] (AV.tup [ss r.1, bb r.2]) false := by
 refine FnR.of_ev (T := T) (rows := []) tOk mixed Tryz.func173 rfl (by kernel_rfl) (by kernel_rfl) rfl fun hwf => ?_
 unfold vars_of_1 at h
 refine sj <| sn <| sj <| sj <| sn ?_
 refine Br.of h (fun ht h => ?_) fun ht h => ?_
 ·refine sj <| bind_elim h fun x1 hx1 h => CallH.data _ false rfl (vars_some_ok E c0 x1 hx1) <| sn ?_
  replace h := oi h
  refine RetE.plain ?_
  subst h; exact ai rfl (ai rfl rfl)
 ·refine sn <| sj <| bind_elim h fun x2 hx2 h => CallH.data _ false (puD_app rfl (puD_of c1p)) (c1h a0 x2 hx2) <| sn ?_
  replace h := oi h
  refine RetE.plain ?_
  subst h; exact ai rfl (ai rfl rfl)
theorem strings_Contains_ok (E : Pm.Env) [LaidE E] (a0 : Bytes) (a1 : Bytes) (r : Bool) (h : strings_Contains a0 a1 = some r) : FnR E Tryz.prog 96 [ss a0, ss a1] (bb r) false := by
 refine FnR.of_ev (T := T) (rows := []) tOk mixed Tryz.func96 rfl (by kernel_rfl) (by kernel_rfl) rfl fun hwf => ?_
 unfold strings_Contains at h
 refine sj <| sn <| sj <| bind_elim h fun x1 hx1 h => CallH.data _ false rfl (strings_Index_ok E a0 a1 x1 hx1) <| sn ?_
 replace h := oi h
 refine RetE.plain ?_
 subst h; exact ai rfl (ai rfl rfl)
theorem pairs_Agent_ok (E : Pm.Env) [LaidE E] (a0 : Bytes) (r : (Bytes × Bytes × Bytes)) (h : pairs_Agent a0 = some r) : FnR E Tryz.prog 151 [ss a0] (AV.tup [ss r.1, ss r.2.1, ss r.2.2]) false := by
 refine FnR.of_ev (T := T) (rows := []) tOk mixed Tryz.func151 rfl (by kernel_rfl) (by kernel_rfl) rfl fun hwf => ?_
 unfold pairs_Agent at h
 refine sj <| sn <| sj <| sn <| bind_elim h fun j1 hj1 h => ?_
 refine SeqJ.join (St.of [⟨0, ss a0, none⟩, ⟨5, ss j1.1, none⟩, ⟨6, ss j1.2, none⟩, ⟨7, ss ([79, 84, 72, 69, 82] : Bytes), none⟩] [] []) ?_ ?_
 ·clear h; have h := hj1; clear hj1
  refine sj <| ai ⟨rfl, rfl, lb rfl⟩ <| ai ⟨rfl, rfl, lb rfl⟩ <| ai ⟨rfl, rfl, lb rfl⟩ ?_
  refine xi none (ai rfl ?_)
  refine ai ⟨rfl, rfl, lb rfl⟩ <| ai ⟨rfl, rfl, lb rfl⟩ <| ai ⟨rfl, rfl, lb rfl⟩ ?_
  refine xi none (ai rfl ?_)
  refine ai ⟨rfl, rfl, rfl, rfl⟩ <| ai ⟨rfl, rfl, rfl, rfl⟩ <| ai ⟨rfl, rfl, rfl⟩ <| NormE.to (AV.list 3 (([(S_Anon164.mk ([77, 83, 73, 69] : Bytes) ([77, 83, 73, 69] : Bytes) ([77, 83, 73, 69, 32] : Bytes)), (S_Anon164.mk ([77, 111, 122, 105, 108, 108, 97] : Bytes) ([77, 79, 90, 73, 76, 76, 65] : Bytes) ([77, 111, 122, 105, 108, 108, 97, 47] : Bytes))] : List S_Anon164).map S_Anon164.av)) (fun _ => rfl) <| NormE.to (ii (([(S_Anon164.mk ([77, 83, 73, 69] : Bytes) ([77, 83, 73, 69] : Bytes) ([77, 83, 73, 69, 32] : Bytes)), (S_Anon164.mk ([77, 111, 122, 105, 108, 108, 97] : Bytes) ([77, 79, 90, 73, 76, 76, 65] : Bytes) ([77, 111, 122, 105, 108, 108, 97, 47] : Bytes))] : List S_Anon164).length : Int)) (fun _ => len_list S_Anon164.av ([(S_Anon164.mk ([77, 83, 73, 69] : Bytes) ([77, 83, 73, 69] : Bytes) ([77, 83, 73, 69, 32] : Bytes)), (S_Anon164.mk ([77, 111, 122, 105, 108, 108, 97] : Bytes) ([77, 79, 90, 73, 76, 76, 65] : Bytes) ([77, 111, 122, 105, 108, 108, 97, 47] : Bytes))] : List S_Anon164)) <| sn ?_
  refine LoopE.img (fun x : (Bytes × Bytes × Int) => St.of [⟨0, ss a0, none⟩, ⟨5, ss x.1, none⟩, ⟨6, ss x.2.1, none⟩, ⟨7, ss ([79, 84, 72, 69, 82] : Bytes), none⟩, ⟨17, AV.list 3 (([(S_Anon164.mk ([77, 83, 73, 69] : Bytes) ([77, 83, 73, 69] : Bytes) ([77, 83, 73, 69, 32] : Bytes)), (S_Anon164.mk ([77, 111, 122, 105, 108, 108, 97] : Bytes) ([77, 79, 90, 73, 76, 76, 65] : Bytes) ([77, 111, 122, 105, 108, 108, 97, 47] : Bytes))] : List S_Anon164).map S_Anon164.av), some 0⟩, ⟨18, ii (([(S_Anon164.mk ([77, 83, 73, 69] : Bytes) ([77, 83, 73, 69] : Bytes) ([77, 83, 73, 69, 32] : Bytes)), (S_Anon164.mk ([77, 111, 122, 105, 108, 108, 97] : Bytes) ([77, 79, 90, 73, 76, 76, 65] : Bytes) ([77, 111, 122, 105, 108, 108, 97, 47] : Bytes))] : List S_Anon164).length : Int), none⟩, ⟨19, ii x.2.2, none⟩] [] [2]) (pairs_Agent_b1 a0) (([79, 84, 72, 69, 82] : Bytes), ([] : Bytes), (0 : Int)) h ?_ ?_
  ·refine Gho.to _ _ _ [0] ?_ ?_ ?_ rfl rfl ?_
   ·exact trivial
   ·exact rfl
   ·exact rfl
   ·exact ⟨rfl, rfl, trivial, rfl, rfl, trivial, rfl, rfl, trivial, rfl, rfl, trivial, rfl, rfl, ⟨rfl, rfl, rfl⟩, rfl, rfl, trivial, rfl, rfl, trivial, trivial⟩
  intro n1 x y1 h hl1 hr1
  obtain ⟨s2, s3, s4⟩ := x
  unfold pairs_Agent_b1 at h
  dsimp only at h
  refine sj <| sn <| sj ?_
  refine Br.of h (fun ht h => ?_) fun ht h => ?_
  ·refine sn <| sj <| sj <| bind_elim h fun x5 hx5 h => ?_
   refine ai rfl (xi (S_Anon164.av x5) (ai (fun hg => idx_map _ hx5) ?_))
   refine ai (lb rfl) <| NormE.to (S_Anon164.av x5) (fun _ => rfl) <| ai rfl ?_
   refine ai ⟨rfl, rfl, rfl, lb rfl⟩ (xi (S_Anon164.cells x5) (ai (fun _ => rfl) ?_))
   refine sn <| sj <| sj <| ai (fun _ => ⟨by decide, by decide⟩) <| bind_elim h fun x6 hx6 h => CallH.data _ false rfl (strings_Contains_ok E a0 x5.e0 x6 hx6) <| sn ?_
   refine Br.of h (fun ht h => ?_) fun ht h => ?_
   ·refine sn ?_
    replace h := oi h
    refine xi ⟨(n1, (s2, s3, (IntKind.i64.wrap (s4 + (1 : Int))))), hl1 _ h.symm⟩ (ai (Nat.lt_succ_self _) ?_)
    refine Gho.to _ _ _ [0] ?_ ?_ ?_ rfl rfl ?_
    ·exact trivial
    ·exact rfl
    ·exact rfl
    ·exact ⟨rfl, rfl, trivial, rfl, rfl, trivial, rfl, rfl, trivial, rfl, rfl, trivial, rfl, rfl, ⟨rfl, rfl, rfl⟩, rfl, rfl, trivial, rfl, rfl, trivial, trivial⟩
   ·refine sn <| sj <| ai (fun _ => ⟨by decide, by decide⟩) <| sn <| sj <| ai (fun _ => ⟨by decide, by decide⟩) <| bind_elim h fun x7 hx7 h => CallH.data _ false rfl (strings_Cut_ok E a0 x5.e2 x7 hx7) ?_
    refine SeqN.via (St.of [⟨0, ss a0, none⟩, ⟨5, ss x5.e1, none⟩, ⟨7, ss ([79, 84, 72, 69, 82] : Bytes), none⟩, ⟨11, ss x7.2.1, none⟩] [] []) ?_ ?_
    ·refine Gho.to _ _ _ [] ?_ ?_ ?_ rfl rfl ?_
     ·exact trivial
     ·exact rfl
     ·exact rfl
     ·exact tr3 <| tr3 <| tr3 <| tr3 <| trivial
    refine sj <| NormE.same <| bind_elim h fun x8 hx8 h => CallH.data _ false rfl (strings_TrimLeft_ok E x7.2.1 ([48, 49, 50, 51, 52, 53, 54, 55, 56, 57, 46] : Bytes) x8 hx8) <| NormE.same <| bind_elim h fun x9 hx9 h => ?_
    have qx9 := (slc_some hx9).1
    have hx9e := (slc_some hx9).2
    refine ai (fun _ => qx9) <| NormE.to (ss x9) (fun _ => congrArg ss hx9e.symm) <| sn ?_
    replace h := oi h
    replace h := hr1 _ h.symm
    subst h
    refine Gho.to _ _ _ [] ?_ ?_ ?_ rfl rfl ?_
    ·exact trivial
    ·exact rfl
    ·exact rfl
    ·exact tr3 <| tr3 <| tr3 <| tr3 <| trivial
  ·replace h := oi h
   replace h := hr1 _ h.symm
   subst h
   refine Gho.to _ _ _ [] ?_ ?_ ?_ rfl rfl ?_
   ·exact trivial
   ·exact rfl
   ·exact rfl
   ·exact tr3 <| tr3 <| tr3 <| tr3 <| trivial
 ·clear hj1
  refine bind_elim h fun j10 hj10 h => ?_
  refine SeqJ.join (St.of [⟨5, ss j1.1, none⟩, ⟨6, ss j1.2, none⟩, ⟨7, ss j10, none⟩] [] []) ?_ ?_
  ·clear h; have h := hj10; clear hj10
   refine sj <| ai ⟨rfl, rfl, lb rfl⟩ <| ai ⟨rfl, rfl, lb rfl⟩ ?_
   refine xi none (ai rfl ?_)
   refine ai ⟨rfl, rfl, lb rfl⟩ <| ai ⟨rfl, rfl, lb rfl⟩ ?_
   refine xi none (ai rfl ?_)
   refine ai ⟨rfl, rfl, lb rfl⟩ <| ai ⟨rfl, rfl, lb rfl⟩ ?_
   refine xi none (ai rfl ?_)
   refine ai ⟨rfl, rfl, rfl, rfl⟩ <| ai ⟨rfl, rfl, rfl, rfl⟩ <| ai ⟨rfl, rfl, rfl, rfl⟩ <| ai ⟨rfl, rfl, rfl⟩ <| NormE.to (AV.list 2 (([(S_Anon166.mk ([87, 105, 110, 100, 111, 119, 115] : Bytes) ([87, 73, 78] : Bytes)), (S_Anon166.mk ([77, 97, 99] : Bytes) ([77, 65, 67] : Bytes)), (S_Anon166.mk ([88, 49, 49] : Bytes) ([85, 78, 73, 88] : Bytes))] : List S_Anon166).map S_Anon166.av)) (fun _ => rfl) <| NormE.to (ii (([(S_Anon166.mk ([87, 105, 110, 100, 111, 119, 115] : Bytes) ([87, 73, 78] : Bytes)), (S_Anon166.mk ([77, 97, 99] : Bytes) ([77, 65, 67] : Bytes)), (S_Anon166.mk ([88, 49, 49] : Bytes) ([85, 78, 73, 88] : Bytes))] : List S_Anon166).length : Int)) (fun _ => len_list S_Anon166.av ([(S_Anon166.mk ([87, 105, 110, 100, 111, 119, 115] : Bytes) ([87, 73, 78] : Bytes)), (S_Anon166.mk ([77, 97, 99] : Bytes) ([77, 65, 67] : Bytes)), (S_Anon166.mk ([88, 49, 49] : Bytes) ([85, 78, 73, 88] : Bytes))] : List S_Anon166)) <| sn ?_
   refine LoopE.img (fun x : (Bytes × Int) => St.of [⟨0, ss a0, none⟩, ⟨5, ss j1.1, none⟩, ⟨6, ss j1.2, none⟩, ⟨7, ss x.1, none⟩, ⟨50, AV.list 2 (([(S_Anon166.mk ([87, 105, 110, 100, 111, 119, 115] : Bytes) ([87, 73, 78] : Bytes)), (S_Anon166.mk ([77, 97, 99] : Bytes) ([77, 65, 67] : Bytes)), (S_Anon166.mk ([88, 49, 49] : Bytes) ([85, 78, 73, 88] : Bytes))] : List S_Anon166).map S_Anon166.av), some 0⟩, ⟨51, ii (([(S_Anon166.mk ([87, 105, 110, 100, 111, 119, 115] : Bytes) ([87, 73, 78] : Bytes)), (S_Anon166.mk ([77, 97, 99] : Bytes) ([77, 65, 67] : Bytes)), (S_Anon166.mk ([88, 49, 49] : Bytes) ([85, 78, 73, 88] : Bytes))] : List S_Anon166).length : Int), none⟩, ⟨52, ii x.2, none⟩] [] [2]) (pairs_Agent_b2 a0) (([79, 84, 72, 69, 82] : Bytes), (0 : Int)) h ?_ ?_
   ·refine Gho.to _ _ _ [0] ?_ ?_ ?_ rfl rfl ?_
    ·exact trivial
    ·exact rfl
    ·exact rfl
    ·exact ⟨rfl, rfl, trivial, rfl, rfl, trivial, rfl, rfl, trivial, rfl, rfl, trivial, rfl, rfl, ⟨rfl, rfl, rfl⟩, rfl, rfl, trivial, rfl, rfl, trivial, trivial⟩
   intro n2 x y2 h hl2 hr2
   obtain ⟨s11, s12⟩ := x
   unfold pairs_Agent_b2 at h
   dsimp only at h
   refine sj <| sn <| sj ?_
   refine Br.of h (fun ht h => ?_) fun ht h => ?_
   ·refine sn <| sj <| sj <| bind_elim h fun x13 hx13 h => ?_
    refine ai rfl (xi (S_Anon166.av x13) (ai (fun hg => idx_map _ hx13) ?_))
    refine ai (lb rfl) <| NormE.to (S_Anon166.av x13) (fun _ => rfl) <| ai rfl ?_
    refine ai ⟨rfl, rfl, rfl, lb rfl⟩ (xi (S_Anon166.cells x13) (ai (fun _ => rfl) ?_))
    refine sn <| sj <| ai (fun _ => ⟨by decide, by decide⟩) <| bind_elim h fun x14 hx14 h => CallH.data _ false rfl (strings_Contains_ok E a0 x13.e0 x14 hx14) <| sn ?_
    refine Br.of h (fun ht h => ?_) fun ht h => ?_
    ·refine sj <| ai (fun _ => ⟨by decide, by decide⟩) <| sn ?_
     replace h := oi h
     replace h := hr2 _ h.symm
     subst h
     refine Gho.to _ _ _ [] ?_ ?_ ?_ rfl rfl ?_
     ·exact trivial
     ·exact rfl
     ·exact rfl
     ·exact tr3 <| tr3 <| tr3 <| trivial
    ·refine sn ?_
     replace h := oi h
     refine xi ⟨(n2, (s11, (IntKind.i64.wrap (s12 + (1 : Int))))), hl2 _ h.symm⟩ (ai (Nat.lt_succ_self _) ?_)
     refine Gho.to _ _ _ [0] ?_ ?_ ?_ rfl rfl ?_
     ·exact trivial
     ·exact rfl
     ·exact rfl
     ·exact ⟨rfl, rfl, trivial, rfl, rfl, trivial, rfl, rfl, trivial, rfl, rfl, trivial, rfl, rfl, ⟨rfl, rfl, rfl⟩, rfl, rfl, trivial, rfl, rfl, trivial, trivial⟩
   ·replace h := oi h
    replace h := hr2 _ h.symm
    subst h
    refine Gho.to _ _ _ [] ?_ ?_ ?_ rfl rfl ?_
    ·exact trivial
    ·exact rfl
    ·exact rfl
    ·exact tr3 <| tr3 <| tr3 <| trivial
  ·clear hj10
   refine sj <| sn ?_
   replace h := oi h
   refine RetE.plain ?_
   subst h; exact ai rfl (ai rfl rfl)
theorem vars_known_1_ok (E : Pm.Env) [LaidE E] (a0 : Bytes) (c0 : S_Env) (r : (Bytes × Bool)) (h : vars_known_1 a0 c0 = some r) : FnR E Tryz.prog 150 [ss a0, AV.iptr (S_Env.cells c0)] (AV.tup [ss r.1, bb r.2]) false := by
 refine FnR.of_ev (T := T) (rows := []) tOk mixed Tryz.func150 rfl (by kernel_rfl) (by kernel_rfl) rfl fun hwf => ?_
 unfold vars_known_1 at h
 refine sj <| sn <| sj <| bind_elim h fun x1 hx1 h => CallH.data _ false rfl (pairs_Agent_ok E c0.Agent x1 hx1) <| sn <| sj ?_
 refine ai ⟨rfl, rfl, rfl⟩ (xi (menc ss ss (mins ([] : List (Bytes × Bytes)) ([98, 114, 111, 119, 115, 101, 114] : Bytes) x1.1)) (ai (ins_typed [] ss ss keyB_str ([98, 114, 111, 119, 115, 101, 114] : Bytes) x1.1 ([] : List (Bytes × Bytes))) ?_))
 refine ai ⟨rfl, rfl, rfl⟩ (xi (menc ss ss (mins (mins ([] : List (Bytes × Bytes)) ([98, 114, 111, 119, 115, 101, 114] : Bytes) x1.1) ([118, 101, 114, 115, 105, 111, 110] : Bytes) x1.2.1)) (ai (ins_typed [] ss ss keyB_str ([118, 101, 114, 115, 105, 111, 110] : Bytes) x1.2.1 (mins ([] : List (Bytes × Bytes)) ([98, 114, 111, 119, 115, 101, 114] : Bytes) x1.1)) ?_))
 refine ai ⟨rfl, rfl, rfl⟩ (xi (menc ss ss (mins (mins (mins ([] : List (Bytes × Bytes)) ([98, 114, 111, 119, 115, 101, 114] : Bytes) x1.1) ([118, 101, 114, 115, 105, 111, 110] : Bytes) x1.2.1) ([111, 115] : Bytes) x1.2.2)) (ai (ins_typed [] ss ss keyB_str ([111, 115] : Bytes) x1.2.2 (mins (mins ([] : List (Bytes × Bytes)) ([98, 114, 111, 119, 115, 101, 114] : Bytes) x1.1) ([118, 101, 114, 115, 105, 111, 110] : Bytes) x1.2.1)) ?_))
 refine ai rfl (xi (ss (mget ([] : Bytes) (mins (mins (mins ([] : List (Bytes × Bytes)) ([98, 114, 111, 119, 115, 101, 114] : Bytes) x1.1) ([118, 101, 114, 115, 105, 111, 110] : Bytes) x1.2.1) ([111, 115] : Bytes) x1.2.2) a0)) (xi (mhas (mins (mins (mins ([] : List (Bytes × Bytes)) ([98, 114, 111, 119, 115, 101, 114] : Bytes) x1.1) ([118, 101, 114, 115, 105, 111, 110] : Bytes) x1.2.1) ([111, 115] : Bytes) x1.2.2) a0) (ai (look_map [] ss ss keyB_str ([] : Bytes) rfl a0 (mins (mins (mins ([] : List (Bytes × Bytes)) ([98, 114, 111, 119, 115, 101, 114] : Bytes) x1.1) ([118, 101, 114, 115, 105, 111, 110] : Bytes) x1.2.1) ([111, 115] : Bytes) x1.2.2)) ?_)))
 refine bind_elim h fun x2 hx2 h => CallH.data _ false rfl (vars_some_ok E (mget ([] : Bytes) (mins (mins (mins ([] : List (Bytes × Bytes)) ([98, 114, 111, 119, 115, 101, 114] : Bytes) x1.1) ([118, 101, 114, 115, 105, 111, 110] : Bytes) x1.2.1) ([111, 115] : Bytes) x1.2.2) a0) x2 hx2) ?_
 refine SeqN.via (St.of [⟨3, ss x2.1, none⟩, ⟨4, bb x2.2, none⟩] [] []) ?_ ?_
 ·refine Gho.to _ _ _ [] ?_ ?_ ?_ rfl rfl ?_
  ·exact trivial
  ·exact rfl
  ·exact rfl
  ·exact tr3 <| tr3 <| trivial
 replace h := oi h
 refine RetE.plain ?_
 subst h; exact ai rfl (ai rfl rfl)
theorem strings_trimRightByte_ok (E : Pm.Env) [LaidE E] (a0 : Bytes) (a1 : Int) (r : Bytes) (h : strings_trimRightByte a0 a1 = some r) : FnR E Tryz.prog 193 [ss a0, AV.int .u8 a1] (ss r) false := by
 refine FnR.of_ev (T := T) (rows := []) tOk mixed Tryz.func193 rfl (by kernel_rfl) (by kernel_rfl) rfl fun hwf => ?_
 unfold strings_trimRightByte at h
 refine sj <| sn <| bind_elim h fun j1 hj1 h => ?_
 refine SeqJ.join (St.of [⟨0, ss j1, none⟩] [] []) ?_ ?_
 ·clear h; have h := hj1; clear hj1
  refine LoopE.img (fun x : Bytes => St.of [⟨0, ss x, none⟩, ⟨1, AV.int .u8 a1, none⟩] [] []) (strings_trimRightByte_b1 a1) a0 h ?_ ?_
  ·refine Gho.to _ _ _ [] ?_ ?_ ?_ rfl rfl ?_
   ·exact trivial
   ·exact rfl
   ·exact rfl
   ·exact tr3 <| tr3 <| trivial
  intro n1 x y1 h hl1 hr1
  revert h; revert x; intro s2 h
  unfold strings_trimRightByte_b1 at h
  refine sj <| sj <| NormE.same <| ai id <| NormE.same <| ai id <| bind_elim h fun x3 hx3 h => ai id <| ai id ?_
  refine xi x3 (ai (fun hg => gidx_some hx3 hg) ?_)
  refine ai id <| ai id <| ai (fun hg => (and_r hg)) <| sn ?_
  refine Br.of h (fun ht h => ?_) fun ht h => ?_
  ·refine sn <| NormE.same <| bind_elim h fun x4 hx4 h => ?_
   have qx4 := (slc_some hx4).1
   have hx4e := (slc_some hx4).2
   refine ai (fun _ => qx4) <| NormE.to (ss x4) (fun _ => congrArg ss hx4e.symm) ?_
   replace h := oi h
   refine xi ⟨(n1, x4), hl1 _ h.symm⟩ (ai (Nat.lt_succ_self _) ?_)
   refine Gho.to _ _ _ [] ?_ ?_ ?_ rfl rfl ?_
   ·exact trivial
   ·exact rfl
   ·exact rfl
   ·exact tr3 <| tr3 <| trivial
  ·replace h := oi h
   replace h := hr1 _ h.symm
   subst h
   refine Gho.to _ _ _ [] ?_ ?_ ?_ rfl rfl ?_
   ·exact trivial
   ·exact rfl
   ·exact rfl
   ·exact tr3 <| trivial
 ·clear hj1
  refine sj <| sn ?_
  replace h := oi h
  refine RetE.plain ?_
  subst h; exact ai rfl (ai rfl rfl)
theorem strings_trimRightASCII_ok (E : Pm.Env) [LaidE E] (a0 : Bytes) (a1 : (List Bool)) (r : Bytes) (h : strings_trimRightASCII a0 a1 = some r) : FnR E Tryz.prog 194 [ss a0, AV.iptr (a1.map AV.bool)] (ss r) false := by
 refine FnR.of_ev (T := T) (rows := []) tOk mixed Tryz.func194 rfl (by kernel_rfl) (by kernel_rfl) rfl fun hwf => ?_
 unfold strings_trimRightASCII at h
 refine sj <| sn <| bind_elim h fun j1 hj1 h => ?_
 refine SeqJ.join (St.of [⟨0, ss j1, none⟩] [] []) ?_ ?_
 ·clear h; have h := hj1; clear hj1
  refine LoopE.img (fun x : Bytes => St.of [⟨0, ss x, none⟩, ⟨1, AV.iptr (a1.map AV.bool), none⟩] [] []) (strings_trimRightASCII_b1 a1) a0 h ?_ ?_
  ·refine Gho.to _ _ _ [] ?_ ?_ ?_ rfl rfl ?_
   ·exact trivial
   ·exact rfl
   ·exact rfl
   ·exact tr3 <| tr3 <| trivial
  intro n1 x y1 h hl1 hr1
  revert h; revert x; intro s2 h
  unfold strings_trimRightASCII_b1 at h
  refine sj <| sj <| NormE.same <| sn ?_
  refine Br.of h (fun ht h => ?_) fun ht h => ?_
  ·refine sn <| sj <| sj <| NormE.same <| bind_elim h fun x3 hx3 h => ?_
   refine xi x3 (ai (fun hg => idx_some hx3) ?_)
   refine bind_elim h fun x4 hx4 h => CallH.data _ false rfl (strings_asciiSet_contains_ok E a1 (x3.toNat : Int) x4 hx4) <| sn ?_
   refine Br.of h (fun ht h => ?_) fun ht h => ?_
   ·replace h := oi h
    replace h := hr1 _ h.symm
    subst h
    refine Gho.to _ _ _ [] ?_ ?_ ?_ rfl rfl ?_
    ·exact trivial
    ·exact rfl
    ·exact rfl
    ·exact tr3 <| trivial
   ·refine sn <| NormE.same <| bind_elim h fun x5 hx5 h => ?_
    have qx5 := (slc_some hx5).1
    have hx5e := (slc_some hx5).2
    refine ai (fun _ => qx5) <| NormE.to (ss x5) (fun _ => congrArg ss hx5e.symm) ?_
    replace h := oi h
    refine xi ⟨(n1, x5), hl1 _ h.symm⟩ (ai (Nat.lt_succ_self _) ?_)
    refine Gho.to _ _ _ [] ?_ ?_ ?_ rfl rfl ?_
    ·exact trivial
    ·exact rfl
    ·exact rfl
    ·exact tr3 <| tr3 <| trivial
  ·replace h := oi h
   replace h := hr1 _ h.symm
   subst h
   refine Gho.to _ _ _ [] ?_ ?_ ?_ rfl rfl ?_
   ·exact trivial
   ·exact rfl
   ·exact rfl
   ·exact tr3 <| trivial
 ·clear hj1
  refine sj <| sn ?_
  replace h := oi h
  refine RetE.plain ?_
  subst h; exact ai rfl (ai rfl rfl)
theorem unicode_utf8_RuneStart_ok (E : Pm.Env) [LaidE E] (a0 : Int) (r : Bool) (h : unicode_utf8_RuneStart a0 = some r) : FnR E Tryz.prog 201 [AV.int .u8 a0] (bb r) false := by
 refine FnR.of_ev (T := T) (rows := []) tOk mixed Tryz.func201 rfl (by kernel_rfl) (by kernel_rfl) rfl fun hwf => ?_
 unfold unicode_utf8_RuneStart at h
 refine sj <| sn <| sj <| sn ?_
 replace h := oi h
 refine RetE.plain ?_
 subst h; exact ai rfl (ai rfl rfl)
theorem unicode_utf8_DecodeLastRuneInString_ok (E : Pm.Env) [LaidE E] (a0 : Bytes) (r : (Int × Int)) (h : unicode_utf8_DecodeLastRuneInString a0 = some r) : FnR E Tryz.prog 198 [ss a0] (AV.tup [AV.int .i32 r.1, ii r.2]) false := by
 refine FnR.of_ev (T := T) (rows := []) tOk mixed Tryz.func198 rfl (by kernel_rfl) (by kernel_rfl) rfl fun hwf => ?_
 unfold unicode_utf8_DecodeLastRuneInString at h
 refine sj <| sn <| sj <| NormE.same <| sn <| sj <| sj <| sn ?_
 refine Br.of h (fun ht h => ?_) fun ht h => ?_
 ·refine sj <| sn ?_
  replace h := oi h
  refine RetE.plain ?_
  subst h; exact ai rfl (ai rfl rfl)
 ·refine sn <| sj <| sn <| sj <| bind_elim h fun x1 hx1 h => ?_
  refine xi x1 (ai (fun hg => idx_some hx1) ?_)
  refine sn <| sj <| sj ?_
  refine SeqN.via (St.of [⟨0, ss a0, none⟩, ⟨2, AV.int .i32 (IntKind.i32.wrap (x1.toNat : Int)), none⟩, ⟨4, ii (a0.length : Int), none⟩, ⟨5, ii (IntKind.i64.wrap ((a0.length : Int) - (1 : Int))), none⟩, ⟨18, bb (decide ((IntKind.i32.wrap (x1.toNat : Int)) < (128 : Int))), none⟩] [] []) ?_ ?_
  ·refine Gho.to _ _ _ [] ?_ ?_ ?_ rfl rfl ?_
   ·exact trivial
   ·exact rfl
   ·exact rfl
   ·exact tr3 <| tr3 <| tr3 <| tr3 <| tr3 <| trivial
  refine Br.of h (fun ht h => ?_) fun ht h => ?_
  ·refine sj <| sn ?_
   replace h := oi h
   refine RetE.plain ?_
   subst h; exact ai rfl (ai rfl rfl)
  ·refine sn <| sj <| ai rfl <| sn <| bind_elim h fun j2 hj2 h => ?_
   refine SeqJ.join (St.of [⟨0, ss a0, none⟩, ⟨4, ii (a0.length : Int), none⟩, ⟨5, ii j2, none⟩] [] []) ?_ ?_
   ·clear h; have h := hj2; clear hj2
    refine sj <| sn ?_
    refine LoopE.img (fun x : Int => St.of [⟨0, ss a0, none⟩, ⟨4, ii (a0.length : Int), none⟩, ⟨5, ii x, none⟩, ⟨6, ii (imax (IntKind.i64.wrap ((a0.length : Int) - (4 : Int))) (0 : Int)), none⟩] [] []) (unicode_utf8_DecodeLastRuneInString_b1 a0) (IntKind.i64.wrap ((IntKind.i64.wrap ((a0.length : Int) - (1 : Int))) - (1 : Int))) h ?_ ?_
    ·refine Gho.to _ _ _ [] ?_ ?_ ?_ rfl rfl ?_
     ·exact trivial
     ·exact rfl
     ·exact rfl
     ·exact tr3 <| tr3 <| tr3 <| tr3 <| trivial
    intro n1 x y1 h hl1 hr1
    revert h; revert x; intro s3 h
    unfold unicode_utf8_DecodeLastRuneInString_b1 at h
    refine sj <| sj <| sn ?_
    refine Br.of h (fun ht h => ?_) fun ht h => ?_
    ·refine sn <| sj <| sj <| bind_elim h fun x4 hx4 h => ?_
     refine xi x4 (ai (fun hg => idx_some hx4) ?_)
     refine bind_elim h fun x5 hx5 h => CallH.data _ false rfl (unicode_utf8_RuneStart_ok E (x4.toNat : Int) x5 hx5) <| sn ?_
     refine Br.of h (fun ht h => ?_) fun ht h => ?_
     ·replace h := oi h
      replace h := hr1 _ h.symm
      subst h
      refine Gho.to _ _ _ [] ?_ ?_ ?_ rfl rfl ?_
      ·exact trivial
      ·exact rfl
      ·exact rfl
      ·exact tr3 <| tr3 <| tr3 <| trivial
     ·refine sn ?_
      replace h := oi h
      refine xi ⟨(n1, (IntKind.i64.wrap (s3 - (1 : Int)))), hl1 _ h.symm⟩ (ai (Nat.lt_succ_self _) ?_)
      refine Gho.to _ _ _ [] ?_ ?_ ?_ rfl rfl ?_
      ·exact trivial
      ·exact rfl
      ·exact rfl
      ·exact tr3 <| tr3 <| tr3 <| tr3 <| trivial
    ·replace h := oi h
     replace h := hr1 _ h.symm
     subst h
     refine Gho.to _ _ _ [] ?_ ?_ ?_ rfl rfl ?_
     ·exact trivial
     ·exact rfl
     ·exact rfl
     ·exact tr3 <| tr3 <| tr3 <| trivial
   ·clear hj2
    refine sj <| sj <| sn ?_
    refine Br.of h (fun ht h => ?_) fun ht h => ?_
    ·refine sn <| sj <| bind_elim h fun x6 hx6 h => ?_
     have qx6 := (slc_some hx6).1
     have hx6e := (slc_some hx6).2
     refine ai (fun _ => qx6) <| NormE.to (ss x6) (fun _ => congrArg ss hx6e.symm) <| bind_elim h fun x7 hx7 h => CallH.data _ false rfl (unicode_utf8_DecodeRuneInString_ok E x6 x7 hx7) <| sn <| sj <| sj ?_
     refine SeqN.via (St.of [⟨2, AV.int .i32 x7.1, none⟩, ⟨3, ii x7.2, none⟩, ⟨48, bb ((IntKind.i64.wrap ((0 : Int) + x7.2)) != (a0.length : Int)), none⟩] [] []) ?_ ?_
     ·refine Gho.to _ _ _ [] ?_ ?_ ?_ rfl rfl ?_
      ·exact trivial
      ·exact rfl
      ·exact rfl
      ·exact tr3 <| tr3 <| tr3 <| trivial
     refine Br.of h (fun ht h => ?_) fun ht h => ?_
     ·refine sj <| sn ?_
      replace h := oi h
      refine RetE.plain ?_
      subst h; exact ai rfl (ai rfl rfl)
     ·refine sn <| sj <| sn ?_
      replace h := oi h
      refine RetE.plain ?_
      subst h; exact ai rfl (ai rfl rfl)
    ·refine sn <| sj <| bind_elim h fun x8 hx8 h => ?_
     have qx8 := (slc_some hx8).1
     have hx8e := (slc_some hx8).2
     refine ai (fun _ => qx8) <| NormE.to (ss x8) (fun _ => congrArg ss hx8e.symm) <| bind_elim h fun x9 hx9 h => CallH.data _ false rfl (unicode_utf8_DecodeRuneInString_ok E x8 x9 hx9) <| sn <| sj <| sj ?_
     refine SeqN.via (St.of [⟨2, AV.int .i32 x9.1, none⟩, ⟨3, ii x9.2, none⟩, ⟨48, bb ((IntKind.i64.wrap (j2 + x9.2)) != (a0.length : Int)), none⟩] [] []) ?_ ?_
     ·refine Gho.to _ _ _ [] ?_ ?_ ?_ rfl rfl ?_
      ·exact trivial
      ·exact rfl
      ·exact rfl
      ·exact tr3 <| tr3 <| tr3 <| trivial
     refine Br.of h (fun ht h => ?_) fun ht h => ?_
     ·refine sj <| sn ?_
      replace h := oi h
      refine RetE.plain ?_
      subst h; exact ai rfl (ai rfl rfl)
     ·refine sn <| sj <| sn ?_
      replace h := oi h
      refine RetE.plain ?_
      subst h; exact ai rfl (ai rfl rfl)
theorem strings_trimRightUnicode_ok (E : Pm.Env) [LaidE E] (a0 : Bytes) (a1 : Bytes) (r : Bytes) (h : strings_trimRightUnicode a0 a1 = some r) : FnR E Tryz.prog 195 [ss a0, ss a1] (ss r) false := by
 refine FnR.of_ev (T := T) (rows := []) tOk mixed Tryz.func195 rfl (by kernel_rfl) (by kernel_rfl) rfl fun hwf => ?_
 unfold strings_trimRightUnicode at h
 refine sj <| sn <| bind_elim h fun j1 hj1 h => ?_
 refine SeqJ.join (St.of [⟨0, ss j1, none⟩] [] []) ?_ ?_
 ·clear h; have h := hj1; clear hj1
  refine LoopE.img (fun x : Bytes => St.of [⟨0, ss x, none⟩, ⟨1, ss a1, none⟩] [] []) (strings_trimRightUnicode_b1 a1) a0 h ?_ ?_
  ·refine Gho.to _ _ _ [] ?_ ?_ ?_ rfl rfl ?_
   ·exact trivial
   ·exact rfl
   ·exact rfl
   ·exact tr3 <| tr3 <| trivial
  intro n1 x y1 h hl1 hr1
  revert h; revert x; intro s2 h
  unfold strings_trimRightUnicode_b1 at h
  refine sj <| sj <| NormE.same <| sn ?_
  refine Br.of h (fun ht h => ?_) fun ht h => ?_
  ·refine sn <| sj <| NormE.same <| bind_elim h fun x3 hx3 h => ?_
   refine xi x3 (ai (fun hg => idx_some hx3) ?_)
   refine sn <| sj <| sj <| sn ?_
   refine Br.of h (fun ht h => ?_) fun ht h => ?_
   ·refine bind_elim h fun x4 hx4 h => CallH.data _ false rfl (unicode_utf8_DecodeLastRuneInString_ok E s2 x4 hx4) ?_
    refine SeqN.via (St.of [⟨0, ss s2, none⟩, ⟨1, ss a1, none⟩, ⟨5, AV.int .i32 x4.1, none⟩, ⟨6, ii x4.2, none⟩] [] []) ?_ ?_
    ·refine Gho.to _ _ _ [] ?_ ?_ ?_ rfl rfl ?_
     ·exact trivial
     ·exact rfl
     ·exact rfl
     ·exact tr3 <| tr3 <| tr3 <| tr3 <| trivial
    refine sj <| sj <| bind_elim h fun x5 hx5 h => CallH.data _ false rfl (strings_ContainsRune_ok E a1 x4.1 x5 hx5) <| sn ?_
    refine Br.of h (fun ht h => ?_) fun ht h => ?_
    ·replace h := oi h
     replace h := hr1 _ h.symm
     subst h
     refine Gho.to _ _ _ [] ?_ ?_ ?_ rfl rfl ?_
     ·exact trivial
     ·exact rfl
     ·exact rfl
     ·exact tr3 <| trivial
    ·refine sn <| NormE.same <| bind_elim h fun x6 hx6 h => ?_
     have qx6 := (slc_some hx6).1
     have hx6e := (slc_some hx6).2
     refine ai (fun _ => qx6) <| NormE.to (ss x6) (fun _ => congrArg ss hx6e.symm) ?_
     replace h := oi h
     refine xi ⟨(n1, x6), hl1 _ h.symm⟩ (ai (Nat.lt_succ_self _) ?_)
     refine Gho.to _ _ _ [] ?_ ?_ ?_ rfl rfl ?_
     ·exact trivial
     ·exact rfl
     ·exact rfl
     ·exact tr3 <| tr3 <| trivial
   ·refine sn <| sj <| sj <| bind_elim h fun x7 hx7 h => CallH.data _ false rfl (strings_ContainsRune_ok E a1 (IntKind.i32.wrap (x3.toNat : Int)) x7 hx7) ?_
    refine SeqN.via (St.of [⟨0, ss s2, none⟩, ⟨1, ss a1, none⟩, ⟨6, ii 1, none⟩, ⟨26, bb (!x7), none⟩] [] []) ?_ ?_
    ·refine Gho.to _ _ _ [] ?_ ?_ ?_ rfl rfl ?_
     ·exact trivial
     ·exact rfl
     ·exact rfl
     ·exact tr3 <| tr3 <| tr3 <| tr3 <| trivial
    refine Br.of h (fun ht h => ?_) fun ht h => ?_
    ·replace h := oi h
     replace h := hr1 _ h.symm
     subst h
     refine Gho.to _ _ _ [] ?_ ?_ ?_ rfl rfl ?_
     ·exact trivial
     ·exact rfl
     ·exact rfl
     ·exact tr3 <| trivial
    ·refine sn <| NormE.same <| bind_elim h fun x8 hx8 h => ?_
     have qx8 := (slc_some hx8).1
     have hx8e := (slc_some hx8).2
     refine ai (fun _ => qx8) <| NormE.to (ss x8) (fun _ => congrArg ss hx8e.symm) ?_
     replace h := oi h
     refine xi ⟨(n1, x8), hl1 _ h.symm⟩ (ai (Nat.lt_succ_self _) ?_)
     refine Gho.to _ _ _ [] ?_ ?_ ?_ rfl rfl ?_
     ·exact trivial
     ·exact rfl
     ·exact rfl
     ·exact tr3 <| tr3 <| trivial
  ·replace h := oi h
   replace h := hr1 _ h.symm
   subst h
   refine Gho.to _ _ _ [] ?_ ?_ ?_ rfl rfl ?_
   ·exact trivial
   ·exact rfl
   ·exact rfl
   ·exact tr3 <| trivial
 ·clear hj1
  refine sj <| sn ?_
  replace h := oi h
  refine RetE.plain ?_
  subst h; exact ai rfl (ai rfl rfl)
theorem strings_Trim_ok (E : Pm.Env) [LaidE E] (a0 : Bytes) (a1 : Bytes) (r : Bytes) (h : strings_Trim a0 a1 = some r) : FnR E Tryz.prog 187 [ss a0, ss a1] (ss r) false := by
 refine FnR.of_ev (T := T) (rows := []) tOk mixed Tryz.func187 rfl (by kernel_rfl) (by kernel_rfl) rfl fun hwf => ?_
 unfold strings_Trim at h
 refine sj <| sn <| sj <| sj <| ai id <| ai (fun hg => (and_r hg)) <| sn ?_
 refine Br.of h (fun ht h => ?_) fun ht h => ?_
 ·refine sj <| sn ?_
  replace h := oi h
  refine RetE.plain ?_
  subst h; exact ai rfl (ai rfl rfl)
 ·refine sn <| sj <| sj <| NormE.same <| bind_elim h fun x1 hx1 h => ai id ?_
  refine xi x1 (ai (fun hg => gidx_some hx1 hg) ?_)
  refine ai id <| ai (fun hg => (and_r hg)) <| sn ?_
  refine Br.of h (fun ht h => ?_) fun ht h => ?_
  ·refine sj <| Or.inl <| bind_elim h fun x2 hx2 h => ?_
   refine xi x2 (ai (fun hg => idx_some hx2) ?_)
   refine bind_elim h fun x3 hx3 h => CallH.data _ false rfl (strings_trimRightByte_ok E a0 (x2.toNat : Int) x3 hx3) <| bind_elim h fun x4 hx4 h => ?_
   refine xi x4 (ai (fun hg => idx_some hx4) ?_)
   refine bind_elim h fun x5 hx5 h => CallH.data _ false rfl (strings_trimLeftByte_ok E x3 (x4.toNat : Int) x5 hx5) <| ai (by kernel_rfl) ?_
   refine SeqN.via (St.of [⟨4, ss x5, none⟩] [] []) ?_ ?_
   ·refine Gho.to _ _ _ [] ?_ ?_ ?_ rfl rfl ?_
    ·exact trivial
    ·exact rfl
    ·exact rfl
    ·exact tr3 <| trivial
   replace h := oi h
   refine RetE.plain ?_
   subst h; exact ai rfl (ai rfl rfl)
  ·refine sn <| sj <| sj <| bind_elim h fun x6 hx6 h => CallH.data _ false rfl (strings_makeASCIISet_ok E a1 x6 hx6) <| ai rfl <| chk_elim h fun q7 h => ?_
   refine ai ⟨rfl, arr_len _ q7, rfl, arr_room rfl⟩ (xi (x6.1.map AV.bool) (ai (fun _ => arr_store _ _ q7 rfl) ?_))
   refine SeqN.via (St.of [⟨0, ss a0, none⟩, ⟨1, ss a1, none⟩, ⟨5, AV.ptr 0 0, none⟩, ⟨6, bb x6.2, none⟩] [.cells 103 (x6.1.map AV.bool) []] []) ?_ ?_
   ·refine Gho.to _ _ _ [] ?_ ?_ ?_ rfl rfl ?_
    ·exact ⟨⟨rfl, rfl, rfl⟩, trivial⟩
    ·exact (and_tt' (noB_map _ (fun _ => rfl) _) rfl)
    ·exact rfl
    ·exact tr3 <| tr3 <| tr3 <| tr3 <| trivial
   refine sj <| chk_elim h fun hc1 h => ?_
   refine SeqN.via (St.of [⟨0, ss a0, none⟩, ⟨1, ss a1, none⟩, ⟨5, AV.iptr (x6.1.map AV.bool), none⟩, ⟨34, bb x6.2, none⟩] [] []) ?_ ?_
   ·refine Gho.trans (Gho.fz [0] [(5, AV.iptr (x6.1.map AV.bool))] ⟨Frz.ptr0 rfl (puB_map _ (fun _ => rfl) _) (by rw [List.length_map]; exact hc1), trivial⟩) ?_
    refine Gho.to _ _ _ [] ?_ ?_ ?_ rfl rfl ?_
    ·exact trivial
    ·exact rfl
    ·exact rfl
    ·exact tr3 <| tr3 <| tr3 <| tr3 <| trivial
   refine Br.of h (fun ht h => ?_) fun ht h => ?_
   ·refine sj <| bind_elim h fun x8 hx8 h => CallH.data _ false rfl (strings_trimRightASCII_ok E a0 x6.1 x8 hx8) <| bind_elim h fun x9 hx9 h => CallH.data _ false rfl (strings_trimLeftASCII_ok E x8 x6.1 x9 hx9) <| sn ?_
    replace h := oi h
    refine RetE.plain ?_
    subst h; exact ai rfl (ai rfl rfl)
   ·refine sn <| sj <| bind_elim h fun x10 hx10 h => CallH.data _ false rfl (strings_trimRightUnicode_ok E a0 a1 x10 hx10) <| bind_elim h fun x11 hx11 h => CallH.data _ false rfl (strings_trimLeftUnicode_ok E x10 a1 x11 hx11) <| sn ?_
    replace h := oi h
    refine RetE.plain ?_
    subst h; exact ai rfl (ai rfl rfl)
theorem text_Trim_ok (E : Pm.Env) [LaidE E] (a0 : Bytes) (r : Bytes) (h : text_Trim a0 = some r) : FnR E Tryz.prog 178 [ss a0] (ss r) false := by
 refine FnR.of_ev (T := T) (rows := []) tOk mixed Tryz.func178 rfl (by kernel_rfl) (by kernel_rfl) rfl fun hwf => ?_
 unfold text_Trim at h
 refine sj <| sn <| sj <| bind_elim h fun x1 hx1 h => CallH.data _ false rfl (strings_Trim_ok E a0 ([32, 9] : Bytes) x1 hx1) <| sn ?_
 replace h := oi h
 refine RetE.plain ?_
 subst h; exact ai rfl (ai rfl rfl)
theorem text_controls_ok (E : Pm.Env) [LaidE E] (r : (List Bool)) (h : text_controls = some r) : FnR E Tryz.prog 189 [] (AV.iptr (r.map AV.bool)) false := by
 refine FnR.of_ev (T := T) (rows := []) tOk mixed Tryz.func189 rfl (by kernel_rfl) (by kernel_rfl) rfl fun hwf => ?_
 unfold text_controls at h
 refine sj <| sn <| sj <| ai rfl <| sn <| bind_elim h fun j1 hj1 h => ?_
 refine SeqJ.join (St.of [⟨1, AV.ptr 0 0, none⟩] [.cells 183 (j1.map AV.bool) []] []) ?_ ?_
 ·clear h; have h := hj1; clear hj1
  refine sj <| sn ?_
  refine LoopE.img (fun x : (Int × (List Bool)) => St.of [⟨1, AV.ptr 0 0, none⟩, ⟨3, ii x.1, none⟩] [.cells 183 (x.2.map AV.bool) []] []) text_controls_b1 ((0 : Int), (List.replicate 256 false)) h ?_ ?_
  ·refine Gho.to _ _ _ [] ?_ ?_ ?_ rfl rfl ?_
   ·exact ⟨⟨rfl, rfl, rfl⟩, trivial⟩
   ·exact (and_tt' (noB_map _ (fun _ => rfl) _) rfl)
   ·exact rfl
   ·exact tr3 <| tr3 <| trivial
  intro n1 x y1 h hl1 hr1
  obtain ⟨s2, s3⟩ := x
  unfold text_controls_b1 at h
  dsimp only at h
  refine sj <| sn <| sj ?_
  refine Br.of h (fun ht h => ?_) fun ht h => ?_
  ·refine sn <| sj <| sj <| sn <| ai id <| ai (fun hg => (and_r hg)) <| ai id <| ai (fun hg => (and_r hg)) <| chk_elim h fun q4 h => ai (fun _ => q4) <| bind_elim h fun x5 hx5 h => ?_
   have qx5 := (seti_some hx5).1
   have hx5e := (seti_some hx5).2
   refine ai ⟨rfl, rfl, rfl, seti_len bb qx5 0 rfl⟩ (xi (x5.map AV.bool) (ai (fun hw => seti_map' bb _ qx5 hx5e) ?_))
   refine SeqN.via (St.of [⟨1, AV.ptr 0 0, none⟩, ⟨3, ii s2, none⟩] [.cells 183 (x5.map AV.bool) []] []) ?_ ?_
   ·refine Gho.to _ _ _ [] ?_ ?_ ?_ rfl rfl ?_
    ·exact ⟨⟨rfl, rfl, rfl⟩, trivial⟩
    ·exact (and_tt' (noB_map _ (fun _ => rfl) _) rfl)
    ·exact rfl
    ·exact tr3 <| tr3 <| trivial
   replace h := oi h
   refine xi ⟨(n1, ((IntKind.i64.wrap (s2 + (1 : Int))), x5)), hl1 _ h.symm⟩ (ai (Nat.lt_succ_self _) ?_)
   refine Gho.to _ _ _ [] ?_ ?_ ?_ rfl rfl ?_
   ·exact ⟨⟨rfl, rfl, rfl⟩, trivial⟩
   ·exact (and_tt' (noB_map _ (fun _ => rfl) _) rfl)
   ·exact rfl
   ·exact tr3 <| tr3 <| trivial
  ·replace h := oi h
   replace h := hr1 _ h.symm
   subst h
   refine Gho.to _ _ _ [] ?_ ?_ ?_ rfl rfl ?_
   ·exact ⟨⟨rfl, rfl, rfl⟩, trivial⟩
   ·exact (and_tt' (noB_map _ (fun _ => rfl) _) rfl)
   ·exact rfl
   ·exact tr3 <| trivial
 ·clear hj1
  refine sj <| sn <| chk_elim h fun hc1 h => ?_
  replace h := oi h
  refine RetE.frz ?_
  exact xi (AV.iptr (j1.map AV.bool)) (ai (Frz.ptr0 rfl (puB_map _ (fun _ => rfl) _) (by rw [List.length_map]; exact hc1)) (ai (congrArg (fun r : (List Bool) => AV.iptr (r.map AV.bool)) h) rfl))
theorem text_some_ok (E : Pm.Env) [LaidE E] (a0 : Bytes) (a1 : (List Bool)) (a2 : FuncId) (a2c : List AV) (a2i : (List Bool) → Int → Option Bool) (a2h : ∀ (x0 : (List Bool)) (x1 : Int) (r : Bool), a2i x0 x1 = some r → FnR E Tryz.prog a2 ([AV.iptr (x0.map AV.bool), AV.int .u8 x1] ++ a2c) (bb r) false) (a2p : a2c.all AV.puB = true) (r : Bool) (h : text_some a0 a1 a2i = some r) : FnR E Tryz.prog 188 [ss a0, AV.iptr (a1.map AV.bool), AV.fn a2 [] a2c] (bb r) false := by
 refine FnR.of_ev (T := T) (rows := []) tOk mixed Tryz.func188 rfl (by kernel_rfl) (by kernel_rfl) rfl fun hwf => ?_
 unfold text_some at h
 refine sj <| sn <| sj <| sj <| NormE.same <| sn ?_
 refine LoopE.img (fun x : Int => St.of [⟨0, ss a0, none⟩, ⟨1, AV.iptr (a1.map AV.bool), none⟩, ⟨2, AV.fn a2 [] a2c, none⟩, ⟨9, ii (a0.length : Int), none⟩, ⟨10, ii x, none⟩] [] []) (text_some_b1 a0 a1 a2i) (0 : Int) h ?_ ?_
 ·refine Gho.to _ _ _ [] ?_ ?_ ?_ rfl rfl ?_
  ·exact trivial
  ·exact rfl
  ·exact rfl
  ·exact ⟨rfl, rfl, trivial, rfl, rfl, trivial, rfl, (noB_fn a2p _), trivial, rfl, rfl, trivial, rfl, rfl, trivial, trivial⟩
 intro n1 x y1 h hl1 hr1
 revert h; revert x; intro s1 h
 unfold text_some_b1 at h
 refine sj <| sn <| sj ?_
 refine Br.of h (fun ht h => ?_) fun ht h => ?_
 ·refine sn <| sj <| sj <| sn <| sj <| bind_elim h fun x2 hx2 h => ?_
  refine xi x2 (ai (fun hg => idx_some hx2) ?_)
  refine bind_elim h fun x3 hx3 h => CallH.data _ false (puD_app rfl (puD_of a2p)) (a2h a1 (x2.toNat : Int) x3 hx3) <| sn ?_
  refine Br.of h (fun ht h => ?_) fun ht h => ?_
  ·refine sj <| sn ?_
   replace h := oi h
   replace h := hr1 _ h.symm
   refine RetE.plain ?_
   subst h; exact ai rfl (ai rfl rfl)
  ·refine sn ?_
   replace h := oi h
   refine xi ⟨(n1, (IntKind.i64.wrap (s1 + (1 : Int)))), hl1 _ h.symm⟩ (ai (Nat.lt_succ_self _) ?_)
   refine Gho.to _ _ _ [] ?_ ?_ ?_ rfl rfl ?_
   ·exact trivial
   ·exact rfl
   ·exact rfl
   ·exact ⟨rfl, rfl, trivial, rfl, rfl, trivial, rfl, (noB_fn a2p _), trivial, rfl, rfl, trivial, rfl, rfl, trivial, trivial⟩
 ·refine sn <| sj <| sn ?_
  replace h := oi h
  replace h := hr1 _ h.symm
  refine RetE.plain ?_
  subst h; exact ai rfl (ai rfl rfl)
theorem text_set_has_ok (E : Pm.Env) [LaidE E] (a0 : (List Bool)) (a1 : Int) (r : Bool) (h : text_set_has a0 a1 = some r) : FnR E Tryz.prog 190 [AV.iptr (a0.map AV.bool), AV.int .u8 a1] (bb r) false := by
 refine FnR.of_ev (T := T) (rows := []) tOk mixed Tryz.func190 rfl (by kernel_rfl) (by kernel_rfl) rfl fun hwf => ?_
 unfold text_set_has at h
 refine sj <| sn <| sj <| chk_elim h fun q1 h => ai (fun _ => q1) <| bind_elim h fun x2 hx2 h => optE.mk (c := bb x2) (drop_get _ hx2) <| sn ?_
 replace h := oi h
 refine RetE.plain ?_
 subst h; exact ai rfl (ai rfl rfl)
theorem text_Unquote_ok (E : Pm.Env) [LaidE E] (a0 : Bytes) (r : (Bytes × Int)) (h : text_Unquote a0 = some r) : FnR E Tryz.prog 179 [ss a0] (AV.tup [ss r.1, ii r.2]) false := by
 refine FnR.of_ev (T := T) (rows := []) tOk mixed Tryz.func179 rfl (by kernel_rfl) (by kernel_rfl) rfl fun hwf => ?_
 unfold text_Unquote at h
 refine sj <| sn <| sj <| NormE.same <| sn <| sj <| sj <| bind_elim h fun x1 hx1 h => ai id ?_
 refine xi x1 (ai (fun hg => gidx_some hx1 hg) ?_)
 refine ai id <| ai (fun hg => (and_r hg)) <| ai id <| bind_elim h fun x2 hx2 h => ai id <| ai id ?_
 refine xi x2 (ai (fun hg => gidx_some hx2 hg) ?_)
 refine ai id <| ai (fun hg => (and_r hg)) <| bind_elim h fun x3 hx3 h => ai rfl ?_
 refine CallF.mk _ false (fun hg => text_controls_ok E  x3 (gcall_some hx3 hg)) (ai rfl ?_)
 refine bind_elim h fun x4 hx4 h => ai id <| ai id <| ai rfl ?_
 refine CallF.mk _ false (fun hg => text_some_ok E a0 x3 190 [] (fun x0 x1 => text_set_has x0 x1) (fun x0 x1 r h => text_set_has_ok E x0 x1 r h) rfl x4 (gcall_some hx4 hg)) (ai rfl ?_)
 refine ai (fun hg => (and_r hg)) ?_
 refine SeqN.via (St.of [⟨0, ss a0, none⟩, ⟨4, ii (a0.length : Int), none⟩, ⟨27, bb (bif (bif (bif (decide ((a0.length : Int) < (2 : Int))) then true else ((x1.toNat : Int) != (34 : Int))) then true else ((x2.toNat : Int) != (34 : Int))) then true else x4), none⟩] [] []) ?_ ?_
 ·refine Gho.to _ _ _ [] ?_ ?_ ?_ rfl rfl ?_
  ·exact trivial
  ·exact rfl
  ·exact rfl
  ·exact tr3 <| tr3 <| tr3 <| trivial
 refine Br.of h (fun ht h => ?_) fun ht h => ?_
 ·refine sj <| sn ?_
  replace h := oi h
  refine RetE.plain ?_
  subst h; exact ai rfl (ai rfl rfl)
 ·refine sn <| sj <| sn <| sj <| sj <| sn ?_
  refine LoopE.img (fun x : ((List UInt8) × Int) => St.of [⟨0, ss a0, none⟩, ⟨4, ii (a0.length : Int), none⟩, ⟨5, AV.list 1 (x.1.map byteAV), some 0⟩, ⟨6, ii x.2, none⟩] [] [1]) (text_Unquote_b1 a0) (([] : List UInt8), (1 : Int)) h ?_ ?_
  ·refine Gho.to _ _ _ [0] ?_ ?_ ?_ rfl rfl ?_
   ·exact trivial
   ·exact rfl
   ·exact rfl
   ·exact ⟨rfl, rfl, trivial, rfl, rfl, trivial, rfl, rfl, ⟨rfl, rfl, rfl⟩, rfl, rfl, trivial, trivial⟩
  intro n1 x y1 h hl1 hr1
  obtain ⟨s5, s6⟩ := x
  unfold text_Unquote_b1 at h
  dsimp only at h
  refine sj <| sj <| sn ?_
  refine Br.of h (fun ht h => ?_) fun ht h => ?_
  ·refine sn <| sj <| sj <| sj <| bind_elim h fun x7 hx7 h => ?_
   refine xi x7 (ai (fun hg => idx_some hx7) ?_)
   refine sn <| sj <| sn ?_
   refine Br.of h (fun ht h => ?_) fun ht h => ?_
   ·refine sj <| sn ?_
    replace h := oi h
    replace h := hr1 _ h.symm
    refine RetE.plain ?_
    subst h; exact ai rfl (ai rfl rfl)
   ·refine sj <| sn ?_
    refine Br.of h (fun ht h => ?_) fun ht h => ?_
    ·refine sj <| sn <| sj ?_
     refine SeqN.via (St.of [⟨0, ss a0, none⟩, ⟨4, ii (a0.length : Int), none⟩, ⟨5, AV.list 1 (s5.map byteAV), some 0⟩, ⟨6, ii (IntKind.i64.wrap (s6 + (1 : Int))), none⟩, ⟨46, bb ((IntKind.i64.wrap (s6 + (1 : Int))) == (IntKind.i64.wrap ((a0.length : Int) - (1 : Int)))), none⟩] [] [1]) ?_ ?_
     ·refine Gho.to _ _ _ [0] ?_ ?_ ?_ rfl rfl ?_
      ·exact trivial
      ·exact rfl
      ·exact rfl
      ·exact ⟨rfl, rfl, trivial, rfl, rfl, trivial, rfl, rfl, ⟨rfl, rfl, rfl⟩, rfl, rfl, trivial, rfl, rfl, trivial, trivial⟩
     refine Br.of h (fun ht h => ?_) fun ht h => ?_
     ·refine sj <| sn ?_
      replace h := oi h
      replace h := hr1 _ h.symm
      refine RetE.plain ?_
      subst h; exact ai rfl (ai rfl rfl)
     ·refine sn <| bind_elim h fun x8 hx8 h => ?_
      refine xi x8 (ai (fun hg => idx_some hx8) ?_)
      refine ai ⟨rfl, rfl, rfl, rfl⟩ <| ai ⟨rfl, rfl, rfl⟩ <| NormE.to (AV.list 1 (([u8 (x8.toNat : Int)] : List UInt8).map byteAV)) (fun hw => bytes1 hw) <| bind_elim h fun x9 hx9 h => ?_
      have qx9 := (app_some hx9).1
      have hx9e := (app_some hx9).2
      refine ai ⟨rfl, rfl, rfl⟩ <| ai rfl <| ai (app_cond byteAV qx9) <| NormE.to (AV.list 1 (x9.map byteAV)) (fun _ => (app_list 1 byteAV _ _).trans (congrArg (fun y => AV.list 1 (List.map byteAV y)) hx9e.symm)) <| sn ?_
      replace h := oi h
      refine xi ⟨(n1, (x9, (IntKind.i64.wrap ((IntKind.i64.wrap (s6 + (1 : Int))) + (1 : Int))))), hl1 _ h.symm⟩ (ai (Nat.lt_succ_self _) ?_)
      refine Gho.to _ _ _ [2] ?_ ?_ ?_ rfl rfl ?_
      ·exact trivial
      ·exact rfl
      ·exact rfl
      ·exact ⟨rfl, rfl, trivial, rfl, rfl, trivial, rfl, rfl, ⟨rfl, rfl, rfl⟩, rfl, rfl, trivial, trivial⟩
    ·refine sn <| bind_elim h fun x10 hx10 h => ?_
     refine xi x10 (ai (fun hg => idx_some hx10) ?_)
     refine ai ⟨rfl, rfl, rfl, rfl⟩ <| ai ⟨rfl, rfl, rfl⟩ <| NormE.to (AV.list 1 (([u8 (x10.toNat : Int)] : List UInt8).map byteAV)) (fun hw => bytes1 hw) <| bind_elim h fun x11 hx11 h => ?_
     have qx11 := (app_some hx11).1
     have hx11e := (app_some hx11).2
     refine ai ⟨rfl, rfl, rfl⟩ <| ai rfl <| ai (app_cond byteAV qx11) <| NormE.to (AV.list 1 (x11.map byteAV)) (fun _ => (app_list 1 byteAV _ _).trans (congrArg (fun y => AV.list 1 (List.map byteAV y)) hx11e.symm)) ?_
     refine SeqN.via (St.of [⟨0, ss a0, none⟩, ⟨4, ii (a0.length : Int), none⟩, ⟨5, AV.list 1 (x11.map byteAV), some 0⟩, ⟨6, ii s6, none⟩] [] [1]) ?_ ?_
     ·refine Gho.to _ _ _ [2] ?_ ?_ ?_ rfl rfl ?_
      ·exact trivial
      ·exact rfl
      ·exact rfl
      ·exact ⟨rfl, rfl, trivial, rfl, rfl, trivial, rfl, rfl, ⟨rfl, rfl, rfl⟩, rfl, rfl, trivial, trivial⟩
     replace h := oi h
     refine xi ⟨(n1, (x11, (IntKind.i64.wrap (s6 + (1 : Int))))), hl1 _ h.symm⟩ (ai (Nat.lt_succ_self _) ?_)
     refine Gho.to _ _ _ [0] ?_ ?_ ?_ rfl rfl ?_
     ·exact trivial
     ·exact rfl
     ·exact rfl
     ·exact ⟨rfl, rfl, trivial, rfl, rfl, trivial, rfl, rfl, ⟨rfl, rfl, rfl⟩, rfl, rfl, trivial, trivial⟩
  ·refine sn <| sj ?_
   refine ai rfl (ai rfl (xi s5 (ai rfl ?_)))
   refine sn ?_
   replace h := oi h
   replace h := hr1 _ h.symm
   refine RetE.plain ?_
   subst h; exact ai rfl (ai rfl rfl)
theorem pairs_Cookies_1_ok (E : Pm.Env) [LaidE E] (a0 : Bytes) (oc0 : (List S_Pair)) (r : Unit) (oc0' : (List S_Pair)) (h : pairs_Cookies_1 a0 oc0 = some (r, oc0')) : FnW E Tryz.prog 177 [ss a0, AV.ptr 0 0] [.cells 113 [AV.list 2 (oc0.map S_Pair.av)] [(0, 0)]] [1] (AV.tup []) none [.cells 113 [AV.list 2 (oc0'.map S_Pair.av)] [(0, 1)]] [0, 1] := by
 refine FnW.of_evB (T := T) (rows := []) tOk mixed Tryz.func177 rfl (by kernel_rfl) (by kernel_rfl) rfl rfl fun hwf => ?_
 unfold pairs_Cookies_1 at h
 refine sj <| bind_elim h fun x1 hx1 h => CallH.data _ false rfl (text_Trim_ok E a0 x1 hx1) <| bind_elim h fun x2 hx2 h => CallH.data _ false rfl (strings_Cut_ok E x1 ([61] : Bytes) x2 hx2) <| sn <| sj <| bind_elim h fun x3 hx3 h => CallH.data _ false rfl (text_Trim_ok E x2.1 x3 hx3) <| bind_elim h fun x4 hx4 h => CallH.data _ false rfl (text_Trim_ok E x2.2.1 x4 hx4) ?_
 refine SeqN.via (St.of [⟨1, AV.ptr 0 0, none⟩, ⟨3, ss x3, none⟩, ⟨4, ss x4, none⟩, ⟨5, bb x2.2.2, none⟩] [.cells 113 [AV.list 2 (oc0.map S_Pair.av)] [(0, 1)]] [0, 1]) ?_ ?_
 ·refine Gho.to _ _ _ [0, 0] ?_ ?_ ?_ rfl rfl ?_
  ·exact ⟨⟨rfl, rfl, rfl⟩, trivial⟩
  ·exact rfl
  ·exact rfl
  ·exact tr3 <| tr3 <| tr3 <| tr3 <| trivial
 refine sj <| sj <| ai id <| ai (fun hg => (and_r hg)) <| sn ?_
 refine Br.of h (fun ht h => ?_) fun ht h => ?_
 ·replace h := oi h
  have h0 := (Prod.mk.inj h).1
  have h1 := (Prod.mk.inj h).2
  subst h0
  subst h1
  refine xi [] (xi [.cells 113 [AV.list 2 (oc0.map S_Pair.av)] [(0, 1)]] (ai rfl (ai (Gho.to _ _ _ [0, 1] ?_ ?_ ?_ rfl rfl ?_) (ai ?_ rfl))))
  ·exact ⟨⟨rfl, rfl, rfl⟩, trivial⟩
  ·exact rfl
  ·exact rfl
  ·exact trivial
  ·exact rfl
 ·refine sn <| sj <| sj <| bind_elim h fun x5 hx5 h => CallH.data _ false rfl (text_Unquote_ok E x4 x5 hx5) <| sn <| sj <| sn ?_
  refine Br.of h (fun ht h => ?_) fun ht h => ?_
  ·refine SeqN.via (St.of [⟨1, AV.ptr 0 0, none⟩, ⟨3, ss x3, none⟩, ⟨4, ss x5.1, none⟩] [.cells 113 [AV.list 2 (oc0.map S_Pair.av)] [(0, 1)]] [0, 1]) ?_ ?_
   ·refine Gho.to _ _ _ [0, 1] ?_ ?_ ?_ rfl rfl ?_
    ·exact ⟨⟨rfl, rfl, rfl⟩, trivial⟩
    ·exact rfl
    ·exact rfl
    ·exact tr3 <| tr3 <| tr3 <| trivial
   refine ai ⟨rfl, rfl, lb rfl⟩ <| ai ⟨rfl, rfl, lb rfl⟩ ?_
   refine xi none (ai trivial ?_)
   refine ai ⟨rfl, rfl, rfl, rfl⟩ <| ai ⟨rfl, rfl, rfl⟩ <| NormE.to (AV.list 2 (([(S_Pair.mk x3 x5.1)] : List S_Pair).map S_Pair.av)) (fun _ => rfl) <| bind_elim h fun x6 hx6 h => ?_
   have qx6 := (app_some hx6).1
   have hx6e := (app_some hx6).2
   refine ai ⟨rfl, rfl, rfl⟩ <| ai rfl <| ai (app_cond S_Pair.av qx6) <| NormE.to (AV.list 2 (x6.map S_Pair.av)) (fun _ => (app_list 2 S_Pair.av _ _).trans (congrArg (fun y => AV.list 2 (List.map S_Pair.av y)) hx6e.symm)) ?_
   refine ai ⟨rfl, rfl, rfl, lb rfl⟩ (xi [AV.list 2 (x6.map S_Pair.av)] (ai (fun _ => rfl) ?_))
   replace h := oi h
   have h0 := (Prod.mk.inj h).1
   have h1 := (Prod.mk.inj h).2
   subst h0
   subst h1
   refine xi [] (xi [.cells 113 [AV.list 2 (x6.map S_Pair.av)] [(0, 1)]] (ai rfl (ai (Gho.to _ _ _ [0, 3] ?_ ?_ ?_ rfl rfl ?_) (ai ?_ rfl))))
   ·exact ⟨⟨rfl, rfl, rfl⟩, trivial⟩
   ·exact rfl
   ·exact rfl
   ·exact trivial
   ·exact rfl
  ·refine sn <| ai ⟨rfl, rfl, lb rfl⟩ <| ai ⟨rfl, rfl, lb rfl⟩ ?_
   refine xi none (ai trivial ?_)
   refine ai ⟨rfl, rfl, rfl, rfl⟩ <| ai ⟨rfl, rfl, rfl⟩ <| NormE.to (AV.list 2 (([(S_Pair.mk x3 x4)] : List S_Pair).map S_Pair.av)) (fun _ => rfl) <| bind_elim h fun x7 hx7 h => ?_
   have qx7 := (app_some hx7).1
   have hx7e := (app_some hx7).2
   refine ai ⟨rfl, rfl, rfl⟩ <| ai rfl <| ai (app_cond S_Pair.av qx7) <| NormE.to (AV.list 2 (x7.map S_Pair.av)) (fun _ => (app_list 2 S_Pair.av _ _).trans (congrArg (fun y => AV.list 2 (List.map S_Pair.av y)) hx7e.symm)) ?_
   refine ai ⟨rfl, rfl, rfl, lb rfl⟩ (xi [AV.list 2 (x7.map S_Pair.av)] (ai (fun _ => rfl) ?_))
   replace h := oi h
   have h0 := (Prod.mk.inj h).1
   have h1 := (Prod.mk.inj h).2
   subst h0
   subst h1
   refine xi [] (xi [.cells 113 [AV.list 2 (x7.map S_Pair.av)] [(0, 1)]] (ai rfl (ai (Gho.to _ _ _ [0, 3] ?_ ?_ ?_ rfl rfl ?_) (ai ?_ rfl))))
   ·exact ⟨⟨rfl, rfl, rfl⟩, trivial⟩
   ·exact rfl
   ·exact rfl
   ·exact trivial
   ·exact rfl
theorem pairs_parts_pairs_Cookies_1_ok (E : Pm.Env) [LaidE E] (a0 : Bytes) (a1 : Bytes) (oa20 : (List S_Pair)) (r : Unit) (oa20' : (List S_Pair)) (h : pairs_parts_pairs_Cookies_1 a0 a1 oa20 = some (r, oa20')) : FnW E Tryz.prog 176 [ss a0, ss a1, AV.fn 177 [] [AV.ptr 0 0]] [.cells 113 [AV.list 2 (oa20.map S_Pair.av)] [(0, 0)]] [1] (AV.tup []) none [.cells 113 [AV.list 2 (oa20'.map S_Pair.av)] [(0, 1)]] [0, 1] := by
 refine FnW.of_evB (T := T) (rows := []) tOk mixed Tryz.func176 rfl (by kernel_rfl) (by kernel_rfl) rfl rfl fun hwf => ?_
 unfold pairs_parts_pairs_Cookies_1 at h
 refine sj <| bind_elim h fun x1 hx1 h => CallH.data _ false rfl (strings_Split_ok E a0 a1 x1 hx1) <| NormE.to (ii (x1.length : Int)) (fun _ => len_list ss x1) <| sn ?_
 refine LoopE.img (fun x : (Int × (List S_Pair)) => St.of [⟨2, AV.fn 177 [] [AV.ptr 0 0], none⟩, ⟨10, AV.list 1 (x1.map AV.str), none⟩, ⟨11, ii (x1.length : Int), none⟩, ⟨12, ii x.1, none⟩] [.cells 113 [AV.list 2 (x.2.map S_Pair.av)] [(0, 1)]] [0, 1]) (pairs_parts_pairs_Cookies_1_b1 x1) ((0 : Int), oa20) h ?_ ?_
 ·refine Gho.to _ _ _ [0, 0] ?_ ?_ ?_ rfl rfl ?_
  ·exact ⟨⟨rfl, rfl, rfl⟩, trivial⟩
  ·exact rfl
  ·exact rfl
  ·exact tr3 <| tr3 <| tr3 <| tr3 <| trivial
 intro n1 x y1 h hl1 hr1
 obtain ⟨s2, s3⟩ := x
 unfold pairs_parts_pairs_Cookies_1_b1 at h
 dsimp only at h
 refine sj <| sn <| sj ?_
 refine Br.of h (fun ht h => ?_) fun ht h => ?_
 ·refine sn <| sj <| sj <| bind_elim h fun x4 hx4 h => ?_
  refine ai rfl (xi (ss x4) (ai (fun hg => idx_map _ hx4) ?_))
  refine sn <| sj <| sn ?_
  refine Br.of h (fun ht h => ?_) fun ht h => ?_
  ·refine bind_elim h fun x5 hx5 h => CallH.ren [0] [1] [.cells 113 [AV.list 2 (x5.2.map S_Pair.av)] [(0, 2)]] [0, 0, 1] (pairs_Cookies_1_ok E x4 s3 x5.1 x5.2 hx5) rfl rfl rfl rfl rfl rfl rfl rfl rfl <| sn ?_
   replace h := oi h
   refine xi ⟨(n1, ((IntKind.i64.wrap (s2 + (1 : Int))), x5.2)), hl1 _ h.symm⟩ (ai (Nat.lt_succ_self _) ?_)
   refine Gho.to _ _ _ [0, 2] ?_ ?_ ?_ rfl rfl ?_
   ·exact ⟨⟨rfl, rfl, rfl⟩, trivial⟩
   ·exact rfl
   ·exact rfl
   ·exact tr3 <| tr3 <| tr3 <| tr3 <| trivial
  ·refine sn ?_
   replace h := oi h
   refine xi ⟨(n1, ((IntKind.i64.wrap (s2 + (1 : Int))), s3)), hl1 _ h.symm⟩ (ai (Nat.lt_succ_self _) ?_)
   refine Gho.to _ _ _ [0, 1] ?_ ?_ ?_ rfl rfl ?_
   ·exact ⟨⟨rfl, rfl, rfl⟩, trivial⟩
   ·exact rfl
   ·exact rfl
   ·exact tr3 <| tr3 <| tr3 <| tr3 <| trivial
 ·replace h := oi h
  replace h := hr1 _ h.symm
  have h0 := (Prod.mk.inj h).1
  have h1 := (Prod.mk.inj h).2
  subst h0
  subst h1
  refine xi [] (xi [.cells 113 [AV.list 2 (s3.map S_Pair.av)] [(0, 1)]] (ai rfl (ai (Gho.to _ _ _ [0, 1] ?_ ?_ ?_ rfl rfl ?_) (ai ?_ rfl))))
  ·exact ⟨⟨rfl, rfl, rfl⟩, trivial⟩
  ·exact rfl
  ·exact rfl
  ·exact trivial
  ·exact rfl
theorem pairs_Cookies_ok (E : Pm.Env) [LaidE E] (a0 : Bytes) (r : (List S_Pair)) (h : pairs_Cookies a0 = some r) : FnR E Tryz.prog 157 [ss a0] (AV.list 2 (r.map S_Pair.av)) true := by
 refine FnR.of_ev (T := T) (rows := []) tOk mixed Tryz.func157 rfl (by kernel_rfl) (by kernel_rfl) rfl fun hwf => ?_
 unfold pairs_Cookies at h
 refine sj <| sn <| sj <| ai rfl ?_
 refine SeqN.via (St.of [⟨0, ss a0, none⟩, ⟨3, AV.ptr 0 0, none⟩] [.cells 113 [AV.list 2 (([] : List S_Pair).map S_Pair.av)] [(0, 0)]] [1]) ?_ ?_
 ·refine Gho.to _ _ _ [1] ?_ ?_ ?_ rfl rfl ?_
  ·exact ⟨⟨rfl, rfl, rfl⟩, trivial⟩
  ·exact rfl
  ·exact rfl
  ·exact tr3 <| tr3 <| trivial
 refine sj <| bind_elim h fun x1 hx1 h => CallH.ren [0] [0] [.cells 113 [AV.list 2 (x1.2.map S_Pair.av)] [(0, 1)]] [0, 1] (pairs_parts_pairs_Cookies_1_ok E a0 ([59] : Bytes) ([] : List S_Pair) x1.1 x1.2 hx1) rfl rfl rfl rfl rfl rfl rfl rfl rfl <| sn <| sj <| sn ?_
 replace h := oi h
 exact RetE.own 2 1 rfl rfl rfl rfl (ai (congrArg (fun r : (List S_Pair) => AV.list 2 (r.map S_Pair.av)) h) rfl)
theorem slices_IndexFunc__api_Pair_api_Pair_ok (E : Pm.Env) [LaidE E] (a0 : (List S_Pair)) (a1 : FuncId) (a1c : List AV) (a1i : S_Pair → Option Bool) (a1h : ∀ (x0 : S_Pair) (r : Bool), a1i x0 = some r → FnR E Tryz.prog a1 ([S_Pair.av x0] ++ a1c) (bb r) false) (a1p : a1c.all AV.puB = true) (r : Int) (h : slices_IndexFunc__api_Pair_api_Pair a0 a1i = some r) : FnR E Tryz.prog 174 [AV.list 2 (a0.map S_Pair.av), AV.fn a1 [] a1c] (ii r) false := by
 refine FnR.of_ev (T := T) (rows := []) tOk mixed Tryz.func174 rfl (by kernel_rfl) (by kernel_rfl) rfl fun hwf => ?_
 unfold slices_IndexFunc__api_Pair_api_Pair at h
 refine sj <| sn <| sj <| sj <| NormE.to (ii (a0.length : Int)) (fun _ => len_list S_Pair.av a0) <| sn ?_
 refine LoopE.img (fun x : Int => St.of [⟨0, AV.list 2 (a0.map S_Pair.av), none⟩, ⟨1, AV.fn a1 [] a1c, none⟩, ⟨7, ii (a0.length : Int), none⟩, ⟨8, ii x, none⟩] [] []) (slices_IndexFunc__api_Pair_api_Pair_b1 a0 a1i) (0 : Int) h ?_ ?_
 ·refine Gho.to _ _ _ [] ?_ ?_ ?_ rfl rfl ?_
  ·exact trivial
  ·exact rfl
  ·exact rfl
  ·exact ⟨rfl, rfl, trivial, rfl, (noB_fn a1p _), trivial, rfl, rfl, trivial, rfl, rfl, trivial, trivial⟩
 intro n1 x y1 h hl1 hr1
 revert h; revert x; intro s1 h
 unfold slices_IndexFunc__api_Pair_api_Pair_b1 at h
 refine sj <| sn <| sj ?_
 refine Br.of h (fun ht h => ?_) fun ht h => ?_
 ·refine sn <| sj <| sj <| sn <| sj <| bind_elim h fun x2 hx2 h => ?_
  refine ai rfl (xi (S_Pair.av x2) (ai (fun hg => idx_map _ hx2) ?_))
  refine ai (lb rfl) <| NormE.to (S_Pair.av x2) (fun _ => rfl) <| bind_elim h fun x3 hx3 h => CallH.data _ false (puD_app rfl (puD_of a1p)) (a1h x2 x3 hx3) <| sn ?_
  refine Br.of h (fun ht h => ?_) fun ht h => ?_
  ·refine sj <| sn ?_
   replace h := oi h
   replace h := hr1 _ h.symm
   refine RetE.plain ?_
   subst h; exact ai rfl (ai rfl rfl)
  ·refine sn ?_
   replace h := oi h
   refine xi ⟨(n1, (IntKind.i64.wrap (s1 + (1 : Int)))), hl1 _ h.symm⟩ (ai (Nat.lt_succ_self _) ?_)
   refine Gho.to _ _ _ [] ?_ ?_ ?_ rfl rfl ?_
   ·exact trivial
   ·exact rfl
   ·exact rfl
   ·exact ⟨rfl, rfl, trivial, rfl, (noB_fn a1p _), trivial, rfl, rfl, trivial, rfl, rfl, trivial, trivial⟩
 ·refine sn <| sj <| sn ?_
  replace h := oi h
  replace h := hr1 _ h.symm
  refine RetE.plain ?_
  subst h; exact ai rfl (ai rfl rfl)
theorem pairs_Find_1_ok (E : Pm.Env) [LaidE E] (a0 : S_Pair) (c0 : Bytes) (r : Bool) (h : pairs_Find_1 a0 c0 = some r) : FnR E Tryz.prog 175 [S_Pair.av a0, AV.iptr [ss c0]] (bb r) false := by
 refine FnR.of_ev (T := T) (rows := []) tOk mixed Tryz.func175 rfl (by kernel_rfl) (by kernel_rfl) rfl fun hwf => ?_
 unfold pairs_Find_1 at h
 refine sj <| ai rfl <| sn <| sj <| sn ?_
 replace h := oi h
 refine RetE.plain ?_
 subst h; exact ai rfl (ai rfl rfl)
theorem pairs_Find_ok (E : Pm.Env) [LaidE E] (a0 : (List S_Pair)) (a1 : Bytes) (r : (Bytes × Bool)) (h : pairs_Find a0 a1 = some r) : FnR E Tryz.prog 156 [AV.list 2 (a0.map S_Pair.av), ss a1] (AV.tup [ss r.1, bb r.2]) false := by
 refine FnR.of_ev (T := T) (rows := []) tOk mixed Tryz.func156 rfl (by kernel_rfl) (by kernel_rfl) rfl fun hwf => ?_
 unfold pairs_Find at h
 refine sj <| ai rfl ?_
 refine SeqN.via (St.of [⟨0, AV.list 2 (a0.map S_Pair.av), none⟩, ⟨3, AV.iptr [ss a1], none⟩] [] []) ?_ ?_
 ·refine Gho.trans (Gho.fz [0] [(3, AV.iptr [ss a1])] ⟨Frz.ptrD rfl rfl (lb rfl), trivial⟩) ?_
  refine Gho.to _ _ _ [] ?_ ?_ ?_ rfl rfl ?_
  ·exact trivial
  ·exact rfl
  ·exact rfl
  ·exact tr3 <| tr3 <| trivial
 refine sj <| sj <| bind_elim h fun x1 hx1 h => CallH.data _ false rfl (slices_IndexFunc__api_Pair_api_Pair_ok E a0 175 [AV.iptr [ss a1]] (fun x0 => pairs_Find_1 x0 a1) (fun x0 r h => pairs_Find_1_ok E x0 a1 r h) rfl x1 hx1) <| sn <| sj <| sn ?_
 refine Br.of h (fun ht h => ?_) fun ht h => ?_
 ·refine sj <| bind_elim h fun x2 hx2 h => ?_
  refine ai rfl (xi (S_Pair.av x2) (ai (fun hg => idx_map _ hx2) ?_))
  refine sn ?_
  replace h := oi h
  refine RetE.plain ?_
  subst h; exact ai rfl (ai rfl rfl)
 ·refine sn <| sj <| sn ?_
  replace h := oi h
  refine RetE.plain ?_
  subst h; exact ai rfl (ai rfl rfl)
theorem vars_known_2_ok (E : Pm.Env) [LaidE E] (a0 : Bytes) (c0 : S_Env) (r : (Bytes × Bool)) (h : vars_known_2 a0 c0 = some r) : FnR E Tryz.prog 155 [ss a0, AV.iptr (S_Env.cells c0)] (AV.tup [ss r.1, bb r.2]) false := by
 refine FnR.of_ev (T := T) (rows := []) tOk mixed Tryz.func155 rfl (by kernel_rfl) (by kernel_rfl) rfl fun hwf => ?_
 unfold vars_known_2 at h
 refine sj <| sn <| sj <| bind_elim h fun x1 hx1 h => CallH.data _ true rfl (pairs_Cookies_ok E c0.Cookie x1 hx1) <| bind_elim h fun x2 hx2 h => CallH.data _ false rfl (pairs_Find_ok E x1 a0 x2 hx2) <| sn ?_
 replace h := oi h
 refine RetE.plain ?_
 subst h; exact ai rfl (ai rfl rfl)
theorem text_Lower_ok (E : Pm.Env) [LaidE E] (a0 : Bytes) (r : Bytes) (h : text_Lower a0 = some r) : FnR E Tryz.prog 162 [ss a0] (ss r) false := by
 refine FnR.of_ev (T := T) (rows := [7]) tOk mixed Tryz.func162 rfl (by kernel_rfl) (by kernel_rfl) rfl fun hwf => ?_
 unfold text_Lower at h
 refine sj <| sn <| sj <| ai ⟨rfl, rfl⟩ <| sn <| bind_elim h fun j1 hj1 h => ?_
 refine SeqJ.join (St.of [⟨3, AV.row 0 0 a0.length, none⟩] [.cells 5 (j1.map byteAV) []] []) ?_ ?_
 ·clear h; have h := hj1; clear hj1
  refine sj <| NormE.same <| sn ?_
  refine LoopE.img (fun x : (Int × (List UInt8)) => St.of [⟨3, AV.row 0 0 a0.length, none⟩, ⟨8, AV.row 0 0 a0.length, none⟩, ⟨9, ii ((a0.length : Nat) : Int), none⟩, ⟨10, ii x.1, none⟩] [.cells 5 (x.2.map byteAV) []] []) (text_Lower_b1 a0) ((0 : Int), a0) h ?_ ?_
  ·refine Gho.to _ _ _ [] ?_ ?_ ?_ rfl rfl ?_
   ·exact ⟨⟨rfl, rfl, rfl⟩, trivial⟩
   ·exact (and_tt' (noB_map _ (fun _ => rfl) _) rfl)
   ·exact rfl
   ·exact tr3 <| tr3 <| tr3 <| tr3 <| trivial
  intro n1 x y1 h hl1 hr1
  obtain ⟨s2, s3⟩ := x
  unfold text_Lower_b1 at h
  dsimp only at h
  refine sj <| sn <| sj ?_
  refine Br.of h (fun ht h => ?_) fun ht h => ?_
  ·refine sn <| sj <| sj <| chk_elim h fun q4 h => ai (fun _ => q4) <| bind_elim h fun x5 hx5 h => optE.mk (c := byteAV x5) (off_get _ hx5) <| sn <| sj <| ai id <| ai (fun hg => (and_r hg)) <| sn ?_
   refine Br.of h (fun ht h => ?_) fun ht h => ?_
   ·refine chk_elim h fun q6 h => ai (fun _ => q6) <| bind_elim h fun x7 hx7 h => ?_
    have qx7 := (seti_some hx7).1
    have hx7e := (seti_some hx7).2
    refine ai ⟨rfl, rfl, rfl, seti_len byteAV qx7 0 rfl⟩ (xi (x7.map byteAV) (ai (fun hw => seti_u8 hw qx7 hx7e) ?_))
    refine SeqN.via (St.of [⟨3, AV.row 0 0 a0.length, none⟩, ⟨8, AV.row 0 0 a0.length, none⟩, ⟨9, ii ((a0.length : Nat) : Int), none⟩, ⟨10, ii s2, none⟩] [.cells 5 (x7.map byteAV) []] []) ?_ ?_
    ·refine Gho.to _ _ _ [] ?_ ?_ ?_ rfl rfl ?_
     ·exact ⟨⟨rfl, rfl, rfl⟩, trivial⟩
     ·exact (and_tt' (noB_map _ (fun _ => rfl) _) rfl)
     ·exact rfl
     ·exact tr3 <| tr3 <| tr3 <| tr3 <| trivial
    replace h := oi h
    refine xi ⟨(n1, ((IntKind.i64.wrap (s2 + (1 : Int))), x7)), hl1 _ h.symm⟩ (ai (Nat.lt_succ_self _) ?_)
    refine Gho.to _ _ _ [] ?_ ?_ ?_ rfl rfl ?_
    ·exact ⟨⟨rfl, rfl, rfl⟩, trivial⟩
    ·exact (and_tt' (noB_map _ (fun _ => rfl) _) rfl)
    ·exact rfl
    ·exact tr3 <| tr3 <| tr3 <| tr3 <| trivial
   ·refine sn ?_
    replace h := oi h
    refine xi ⟨(n1, ((IntKind.i64.wrap (s2 + (1 : Int))), s3)), hl1 _ h.symm⟩ (ai (Nat.lt_succ_self _) ?_)
    refine Gho.to _ _ _ [] ?_ ?_ ?_ rfl rfl ?_
    ·exact ⟨⟨rfl, rfl, rfl⟩, trivial⟩
    ·exact (and_tt' (noB_map _ (fun _ => rfl) _) rfl)
    ·exact rfl
    ·exact tr3 <| tr3 <| tr3 <| tr3 <| trivial
  ·replace h := oi h
   replace h := hr1 _ h.symm
   subst h
   refine Gho.to _ _ _ [] ?_ ?_ ?_ rfl rfl ?_
   ·exact ⟨⟨rfl, rfl, rfl⟩, trivial⟩
   ·exact (and_tt' (noB_map _ (fun _ => rfl) _) rfl)
   ·exact rfl
   ·exact tr3 <| trivial
 ·clear hj1
  refine sj <| chk_elim h fun q8 h => ?_
  refine ai rfl (xi (j1.take a0.length) (ai (row_text q8) ?_))
  refine sn ?_
  replace h := oi h
  refine RetE.plain ?_
  subst h; exact ai rfl (ai rfl rfl)
theorem pairs_hex_ok (E : Pm.Env) [LaidE E] (a0 : Int) (r : Int) (h : pairs_hex a0 = some r) : FnR E Tryz.prog 191 [AV.int .u8 a0] (ii r) false := by
 refine FnR.of_ev (T := T) (rows := []) tOk mixed Tryz.func191 rfl (by kernel_rfl) (by kernel_rfl) rfl fun hwf => ?_
 unfold pairs_hex at h
 refine sj <| sn <| sj <| ai ⟨rfl, rfl, rfl, rfl⟩ <| ai ⟨rfl, rfl, rfl⟩ <| NormE.to (AV.list 1 (([u8 a0] : List UInt8).map byteAV)) (fun hw => bytes1 hw) ?_
 refine ai rfl (ai rfl (xi ([u8 a0] : List UInt8) (ai rfl ?_)))
 refine bind_elim h fun x1 hx1 h => CallH.data _ false rfl (text_Lower_ok E ([u8 a0] : List UInt8) x1 hx1) <| bind_elim h fun x2 hx2 h => ?_
 refine xi x2 (ai (fun hg => idx_some hx2) ?_)
 refine bind_elim h fun x3 hx3 h => CallH.data _ false rfl (strings_IndexByte_ok E ([48, 49, 50, 51, 52, 53, 54, 55, 56, 57, 97, 98, 99, 100, 101, 102] : Bytes) (x2.toNat : Int) x3 hx3) <| sn ?_
 replace h := oi h
 refine RetE.plain ?_
 subst h; exact ai rfl (ai rfl rfl)
theorem pairs_plain_ok (E : Pm.Env) [LaidE E] (a0 : Bytes) (r : Bytes) (h : pairs_plain a0 = some r) : FnR E Tryz.prog 181 [ss a0] (ss r) false := by
 refine FnR.of_ev (T := T) (rows := []) tOk mixed Tryz.func181 rfl (by kernel_rfl) (by kernel_rfl) rfl fun hwf => ?_
 unfold pairs_plain at h
 refine sj <| sn <| sj <| sn <| bind_elim h fun j1 hj1 h => ?_
 refine SeqJ.join (St.of [⟨3, AV.list 1 (j1.map byteAV), some 0⟩] [] [1]) ?_ ?_
 ·clear h; have h := hj1; clear hj1
  refine sj <| sn ?_
  refine LoopE.img (fun x : ((List UInt8) × Int) => St.of [⟨0, ss a0, none⟩, ⟨3, AV.list 1 (x.1.map byteAV), some 0⟩, ⟨4, ii x.2, none⟩] [] [1]) (pairs_plain_b1 a0) (([] : List UInt8), (0 : Int)) h ?_ ?_
  ·refine Gho.to _ _ _ [0] ?_ ?_ ?_ rfl rfl ?_
   ·exact trivial
   ·exact rfl
   ·exact rfl
   ·exact ⟨rfl, rfl, trivial, rfl, rfl, ⟨rfl, rfl, rfl⟩, rfl, rfl, trivial, trivial⟩
  intro n1 x y1 h hl1 hr1
  obtain ⟨s2, s3⟩ := x
  unfold pairs_plain_b1 at h
  dsimp only at h
  refine sj <| sj <| NormE.same <| sn ?_
  refine Br.of h (fun ht h => ?_) fun ht h => ?_
  ·refine sn <| sj <| sj <| bind_elim h fun x4 hx4 h => ?_
   refine xi x4 (ai (fun hg => idx_some hx4) ?_)
   refine sn <| sj <| sj <| sn ?_
   refine Br.of h (fun ht h => ?_) fun ht h => ?_
   ·refine sn <| ai ⟨rfl, rfl, rfl, rfl⟩ <| ai ⟨rfl, rfl, rfl⟩ <| NormE.to (AV.list 1 (([u8 (32 : Int)] : List UInt8).map byteAV)) (fun hw => bytes1 hw) <| bind_elim h fun x5 hx5 h => ?_
    have qx5 := (app_some hx5).1
    have hx5e := (app_some hx5).2
    refine ai ⟨rfl, rfl, rfl⟩ <| ai rfl <| ai (app_cond byteAV qx5) <| NormE.to (AV.list 1 (x5.map byteAV)) (fun _ => (app_list 1 byteAV _ _).trans (congrArg (fun y => AV.list 1 (List.map byteAV y)) hx5e.symm)) ?_
    refine SeqN.via (St.of [⟨0, ss a0, none⟩, ⟨3, AV.list 1 (x5.map byteAV), some 0⟩, ⟨4, ii s3, none⟩] [] [1]) ?_ ?_
    ·refine Gho.to _ _ _ [2] ?_ ?_ ?_ rfl rfl ?_
     ·exact trivial
     ·exact rfl
     ·exact rfl
     ·exact ⟨rfl, rfl, trivial, rfl, rfl, ⟨rfl, rfl, rfl⟩, rfl, rfl, trivial, trivial⟩
    replace h := oi h
    refine xi ⟨(n1, (x5, (IntKind.i64.wrap (s3 + (1 : Int))))), hl1 _ h.symm⟩ (ai (Nat.lt_succ_self _) ?_)
    refine Gho.to _ _ _ [0] ?_ ?_ ?_ rfl rfl ?_
    ·exact trivial
    ·exact rfl
    ·exact rfl
    ·exact ⟨rfl, rfl, trivial, rfl, rfl, ⟨rfl, rfl, rfl⟩, rfl, rfl, trivial, trivial⟩
   ·refine sj <| ai id <| ai id <| NormE.same <| ai id <| ai id <| ai (fun hg => (and_r hg)) <| ai id <| bind_elim h fun x6 hx6 h => ai id <| ai id ?_
    refine xi x6 (ai (fun hg => gidx_some hx6 hg) ?_)
    refine bind_elim h fun x7 hx7 h => ai id <| ai rfl ?_
    refine CallF.mk _ false (fun hg => pairs_hex_ok E (x6.toNat : Int) x7 (gcall_some hx7 hg)) (ai rfl ?_)
    refine ai id <| ai (fun hg => (and_r hg)) <| ai id <| bind_elim h fun x8 hx8 h => ai id <| ai id ?_
    refine xi x8 (ai (fun hg => gidx_some hx8 hg) ?_)
    refine bind_elim h fun x9 hx9 h => ai id <| ai rfl ?_
    refine CallF.mk _ false (fun hg => pairs_hex_ok E (x8.toNat : Int) x9 (gcall_some hx9 hg)) (ai rfl ?_)
    refine ai id <| ai (fun hg => (and_r hg)) ?_
    refine SeqN.via (St.of [⟨0, ss a0, none⟩, ⟨3, AV.list 1 (s2.map byteAV), some 0⟩, ⟨4, ii s3, none⟩, ⟨5, AV.int .u8 (x4.toNat : Int), none⟩, ⟨18, bb (bif (bif (bif ((x4.toNat : Int) == (37 : Int)) then (decide ((IntKind.i64.wrap (s3 + (2 : Int))) < (a0.length : Int))) else false) then (decide (x7 ≥ (0 : Int))) else false) then (decide (x9 ≥ (0 : Int))) else false), none⟩] [] [1]) ?_ ?_
    ·refine Gho.to _ _ _ [0] ?_ ?_ ?_ rfl rfl ?_
     ·exact trivial
     ·exact rfl
     ·exact rfl
     ·exact ⟨rfl, rfl, trivial, rfl, rfl, ⟨rfl, rfl, rfl⟩, rfl, rfl, trivial, rfl, rfl, trivial, rfl, rfl, trivial, trivial⟩
    refine Br.of h (fun ht h => ?_) fun ht h => ?_
    ·refine sj <| Or.inl <| bind_elim h fun x10 hx10 h => ?_
     refine xi x10 (ai (fun hg => idx_some hx10) ?_)
     refine bind_elim h fun x11 hx11 h => CallH.data _ false rfl (pairs_hex_ok E (x10.toNat : Int) x11 hx11) <| bind_elim h fun x12 hx12 h => ?_
     refine xi x12 (ai (fun hg => idx_some hx12) ?_)
     refine bind_elim h fun x13 hx13 h => CallH.data _ false rfl (pairs_hex_ok E (x12.toNat : Int) x13 hx13) <| ai (by kernel_rfl) <| sn ?_
     refine SeqN.via (St.of [⟨0, ss a0, none⟩, ⟨3, AV.list 1 (s2.map byteAV), some 0⟩, ⟨4, ii (IntKind.i64.wrap (s3 + (2 : Int))), none⟩, ⟨5, AV.int .u8 (IntKind.u8.wrap (IntKind.i64.wrap ((IntKind.i64.wrap (x11 * (16 : Int))) + x13))), none⟩] [] [1]) ?_ ?_
     ·refine Gho.to _ _ _ [0] ?_ ?_ ?_ rfl rfl ?_
      ·exact trivial
      ·exact rfl
      ·exact rfl
      ·exact ⟨rfl, rfl, trivial, rfl, rfl, ⟨rfl, rfl, rfl⟩, rfl, rfl, trivial, rfl, rfl, trivial, trivial⟩
     refine ai ⟨rfl, rfl, rfl, rfl⟩ <| ai ⟨rfl, rfl, rfl⟩ <| NormE.to (AV.list 1 (([u8 (IntKind.u8.wrap (IntKind.i64.wrap ((IntKind.i64.wrap (x11 * (16 : Int))) + x13)))] : List UInt8).map byteAV)) (fun hw => bytes1 hw) <| bind_elim h fun x14 hx14 h => ?_
     have qx14 := (app_some hx14).1
     have hx14e := (app_some hx14).2
     refine ai ⟨rfl, rfl, rfl⟩ <| ai rfl <| ai (app_cond byteAV qx14) <| NormE.to (AV.list 1 (x14.map byteAV)) (fun _ => (app_list 1 byteAV _ _).trans (congrArg (fun y => AV.list 1 (List.map byteAV y)) hx14e.symm)) <| sn ?_
     replace h := oi h
     refine xi ⟨(n1, (x14, (IntKind.i64.wrap ((IntKind.i64.wrap (s3 + (2 : Int))) + (1 : Int))))), hl1 _ h.symm⟩ (ai (Nat.lt_succ_self _) ?_)
     refine Gho.to _ _ _ [2] ?_ ?_ ?_ rfl rfl ?_
     ·exact trivial
     ·exact rfl
     ·exact rfl
     ·exact ⟨rfl, rfl, trivial, rfl, rfl, ⟨rfl, rfl, rfl⟩, rfl, rfl, trivial, trivial⟩
    ·refine sn <| ai ⟨rfl, rfl, rfl, rfl⟩ <| ai ⟨rfl, rfl, rfl⟩ <| NormE.to (AV.list 1 (([u8 (x4.toNat : Int)] : List UInt8).map byteAV)) (fun hw => bytes1 hw) <| bind_elim h fun x15 hx15 h => ?_
     have qx15 := (app_some hx15).1
     have hx15e := (app_some hx15).2
     refine ai ⟨rfl, rfl, rfl⟩ <| ai rfl <| ai (app_cond byteAV qx15) <| NormE.to (AV.list 1 (x15.map byteAV)) (fun _ => (app_list 1 byteAV _ _).trans (congrArg (fun y => AV.list 1 (List.map byteAV y)) hx15e.symm)) <| sn ?_
     replace h := oi h
     refine xi ⟨(n1, (x15, (IntKind.i64.wrap (s3 + (1 : Int))))), hl1 _ h.symm⟩ (ai (Nat.lt_succ_self _) ?_)
     refine Gho.to _ _ _ [2] ?_ ?_ ?_ rfl rfl ?_
     ·exact trivial
     ·exact rfl
     ·exact rfl
     ·exact ⟨rfl, rfl, trivial, rfl, rfl, ⟨rfl, rfl, rfl⟩, rfl, rfl, trivial, trivial⟩
  ·replace h := oi h
   replace h := hr1 _ h.symm
   subst h
   refine Gho.to _ _ _ [0] ?_ ?_ ?_ rfl rfl ?_
   ·exact trivial
   ·exact rfl
   ·exact rfl
   ·exact ⟨rfl, rfl, ⟨rfl, rfl, rfl⟩, trivial⟩
 ·clear hj1
  refine sj ?_
  refine ai rfl (ai rfl (xi j1 (ai rfl ?_)))
  refine sn ?_
  replace h := oi h
  refine RetE.plain ?_
  subst h; exact ai rfl (ai rfl rfl)
theorem pairs_Query_1_ok (E : Pm.Env) [LaidE E] (a0 : Bytes) (oc0 : (List S_Pair)) (r : Unit) (oc0' : (List S_Pair)) (h : pairs_Query_1 a0 oc0 = some (r, oc0')) : FnW E Tryz.prog 180 [ss a0, AV.ptr 0 0] [.cells 113 [AV.list 2 (oc0.map S_Pair.av)] [(0, 0)]] [1] (AV.tup []) none [.cells 113 [AV.list 2 (oc0'.map S_Pair.av)] [(0, 1)]] [0, 1] := by
 refine FnW.of_evB (T := T) (rows := []) tOk mixed Tryz.func180 rfl (by kernel_rfl) (by kernel_rfl) rfl rfl fun hwf => ?_
 unfold pairs_Query_1 at h
 refine sj <| bind_elim h fun x1 hx1 h => CallH.data _ false rfl (strings_Cut_ok E a0 ([61] : Bytes) x1 hx1) <| sn <| Or.inl <| bind_elim h fun x2 hx2 h => CallH.data _ false rfl (pairs_plain_ok E x1.1 x2 hx2) <| bind_elim h fun x3 hx3 h => CallH.data _ false rfl (pairs_plain_ok E x1.2.1 x3 hx3) <| ai ⟨rfl, rfl, lb rfl⟩ <| ai ⟨rfl, rfl, lb rfl⟩ ?_
 refine xi none (ai trivial ?_)
 refine ai ⟨rfl, rfl, rfl, rfl⟩ <| ai ⟨rfl, rfl, rfl⟩ <| NormE.to (AV.list 2 (([(S_Pair.mk x2 x3)] : List S_Pair).map S_Pair.av)) (fun _ => rfl) <| bind_elim h fun x4 hx4 h => ?_
 have qx4 := (app_some hx4).1
 have hx4e := (app_some hx4).2
 refine ai ⟨rfl, rfl, rfl⟩ <| ai rfl <| ai (app_cond S_Pair.av qx4) <| NormE.to (AV.list 2 (x4.map S_Pair.av)) (fun _ => (app_list 2 S_Pair.av _ _).trans (congrArg (fun y => AV.list 2 (List.map S_Pair.av y)) hx4e.symm)) ?_
 refine ai ⟨rfl, rfl, rfl, lb rfl⟩ (xi [AV.list 2 (x4.map S_Pair.av)] (ai (fun _ => rfl) ?_))
 refine ai (by kernel_rfl) ?_
 replace h := oi h
 have h0 := (Prod.mk.inj h).1
 have h1 := (Prod.mk.inj h).2
 subst h0
 subst h1
 refine xi [] (xi [.cells 113 [AV.list 2 (x4.map S_Pair.av)] [(0, 1)]] (ai rfl (ai (Gho.to _ _ _ [0, 2] ?_ ?_ ?_ rfl rfl ?_) (ai ?_ rfl))))
 ·exact ⟨⟨rfl, rfl, rfl⟩, trivial⟩
 ·exact rfl
 ·exact rfl
 ·exact trivial
 ·exact rfl
theorem pairs_parts_pairs_Query_1_ok (E : Pm.Env) [LaidE E] (a0 : Bytes) (a1 : Bytes) (oa20 : (List S_Pair)) (r : Unit) (oa20' : (List S_Pair)) (h : pairs_parts_pairs_Query_1 a0 a1 oa20 = some (r, oa20')) : FnW E Tryz.prog 176 [ss a0, ss a1, AV.fn 180 [] [AV.ptr 0 0]] [.cells 113 [AV.list 2 (oa20.map S_Pair.av)] [(0, 0)]] [1] (AV.tup []) none [.cells 113 [AV.list 2 (oa20'.map S_Pair.av)] [(0, 1)]] [0, 1] := by
 refine FnW.of_evB (T := T) (rows := []) tOk mixed Tryz.func176 rfl (by kernel_rfl) (by kernel_rfl) rfl rfl fun hwf => ?_
 unfold pairs_parts_pairs_Query_1 at h
 refine sj <| bind_elim h fun x1 hx1 h => CallH.data _ false rfl (strings_Split_ok E a0 a1 x1 hx1) <| NormE.to (ii (x1.length : Int)) (fun _ => len_list ss x1) <| sn ?_
 refine LoopE.img (fun x : (Int × (List S_Pair)) => St.of [⟨2, AV.fn 180 [] [AV.ptr 0 0], none⟩, ⟨10, AV.list 1 (x1.map AV.str), none⟩, ⟨11, ii (x1.length : Int), none⟩, ⟨12, ii x.1, none⟩] [.cells 113 [AV.list 2 (x.2.map S_Pair.av)] [(0, 1)]] [0, 1]) (pairs_parts_pairs_Query_1_b1 x1) ((0 : Int), oa20) h ?_ ?_
 ·refine Gho.to _ _ _ [0, 0] ?_ ?_ ?_ rfl rfl ?_
  ·exact ⟨⟨rfl, rfl, rfl⟩, trivial⟩
  ·exact rfl
  ·exact rfl
  ·exact tr3 <| tr3 <| tr3 <| tr3 <| trivial
 intro n1 x y1 h hl1 hr1
 obtain ⟨s2, s3⟩ := x
 unfold pairs_parts_pairs_Query_1_b1 at h
 dsimp only at h
 refine sj <| sn <| sj ?_
 refine Br.of h (fun ht h => ?_) fun ht h => ?_
 ·refine sn <| sj <| sj <| bind_elim h fun x4 hx4 h => ?_
  refine ai rfl (xi (ss x4) (ai (fun hg => idx_map _ hx4) ?_))
  refine sn <| sj <| sn ?_
  refine Br.of h (fun ht h => ?_) fun ht h => ?_
  ·refine bind_elim h fun x5 hx5 h => CallH.ren [0] [1] [.cells 113 [AV.list 2 (x5.2.map S_Pair.av)] [(0, 2)]] [0, 0, 1] (pairs_Query_1_ok E x4 s3 x5.1 x5.2 hx5) rfl rfl rfl rfl rfl rfl rfl rfl rfl <| sn ?_
   replace h := oi h
   refine xi ⟨(n1, ((IntKind.i64.wrap (s2 + (1 : Int))), x5.2)), hl1 _ h.symm⟩ (ai (Nat.lt_succ_self _) ?_)
   refine Gho.to _ _ _ [0, 2] ?_ ?_ ?_ rfl rfl ?_
   ·exact ⟨⟨rfl, rfl, rfl⟩, trivial⟩
   ·exact rfl
   ·exact rfl
   ·exact tr3 <| tr3 <| tr3 <| tr3 <| trivial
  ·refine sn ?_
   replace h := oi h
   refine xi ⟨(n1, ((IntKind.i64.wrap (s2 + (1 : Int))), s3)), hl1 _ h.symm⟩ (ai (Nat.lt_succ_self _) ?_)
   refine Gho.to _ _ _ [0, 1] ?_ ?_ ?_ rfl rfl ?_
   ·exact ⟨⟨rfl, rfl, rfl⟩, trivial⟩
   ·exact rfl
   ·exact rfl
   ·exact tr3 <| tr3 <| tr3 <| tr3 <| trivial
 ·replace h := oi h
  replace h := hr1 _ h.symm
  have h0 := (Prod.mk.inj h).1
  have h1 := (Prod.mk.inj h).2
  subst h0
  subst h1
  refine xi [] (xi [.cells 113 [AV.list 2 (s3.map S_Pair.av)] [(0, 1)]] (ai rfl (ai (Gho.to _ _ _ [0, 1] ?_ ?_ ?_ rfl rfl ?_) (ai ?_ rfl))))
  ·exact ⟨⟨rfl, rfl, rfl⟩, trivial⟩
  ·exact rfl
  ·exact rfl
  ·exact trivial
  ·exact rfl
theorem pairs_Query_ok (E : Pm.Env) [LaidE E] (a0 : Bytes) (r : (List S_Pair)) (h : pairs_Query a0 = some r) : FnR E Tryz.prog 159 [ss a0] (AV.list 2 (r.map S_Pair.av)) true := by
 refine FnR.of_ev (T := T) (rows := []) tOk mixed Tryz.func159 rfl (by kernel_rfl) (by kernel_rfl) rfl fun hwf => ?_
 unfold pairs_Query at h
 refine sj <| sn <| sj <| ai rfl ?_
 refine SeqN.via (St.of [⟨0, ss a0, none⟩, ⟨3, AV.ptr 0 0, none⟩] [.cells 113 [AV.list 2 (([] : List S_Pair).map S_Pair.av)] [(0, 0)]] [1]) ?_ ?_
 ·refine Gho.to _ _ _ [1] ?_ ?_ ?_ rfl rfl ?_
  ·exact ⟨⟨rfl, rfl, rfl⟩, trivial⟩
  ·exact rfl
  ·exact rfl
  ·exact tr3 <| tr3 <| trivial
 refine sj <| bind_elim h fun x1 hx1 h => CallH.ren [0] [0] [.cells 113 [AV.list 2 (x1.2.map S_Pair.av)] [(0, 1)]] [0, 1] (pairs_parts_pairs_Query_1_ok E a0 ([38] : Bytes) ([] : List S_Pair) x1.1 x1.2 hx1) rfl rfl rfl rfl rfl rfl rfl rfl rfl <| sn <| sj <| sn ?_
 replace h := oi h
 exact RetE.own 2 1 rfl rfl rfl rfl (ai (congrArg (fun r : (List S_Pair) => AV.list 2 (r.map S_Pair.av)) h) rfl)
theorem vars_known_3_ok (E : Pm.Env) [LaidE E] (a0 : Bytes) (c0 : S_Env) (r : (Bytes × Bool)) (h : vars_known_3 a0 c0 = some r) : FnR E Tryz.prog 158 [ss a0, AV.iptr (S_Env.cells c0)] (AV.tup [ss r.1, bb r.2]) false := by
 refine FnR.of_ev (T := T) (rows := []) tOk mixed Tryz.func158 rfl (by kernel_rfl) (by kernel_rfl) rfl fun hwf => ?_
 unfold vars_known_3 at h
 refine sj <| sn <| sj <| bind_elim h fun x1 hx1 h => CallH.data _ true rfl (pairs_Query_ok E c0.Query x1 hx1) <| bind_elim h fun x2 hx2 h => CallH.data _ false rfl (pairs_Find_ok E x1 a0 x2 hx2) <| sn ?_
 replace h := oi h
 refine RetE.plain ?_
 subst h; exact ai rfl (ai rfl rfl)
theorem slices_Index__string_string_ok (E : Pm.Env) [LaidE E] (a0 : (List Bytes)) (a1 : Bytes) (r : Int) (h : slices_Index__string_string a0 a1 = some r) : FnR E Tryz.prog 97 [AV.list 1 (a0.map AV.str), ss a1] (ii r) false := by
 refine FnR.of_ev (T := T) (rows := []) tOk mixed Tryz.func97 rfl (by kernel_rfl) (by kernel_rfl) rfl fun hwf => ?_
 unfold slices_Index__string_string at h
 refine sj <| sn <| sj <| sj <| NormE.to (ii (a0.length : Int)) (fun _ => len_list ss a0) <| sn ?_
 refine LoopE.img (fun x : Int => St.of [⟨0, AV.list 1 (a0.map AV.str), none⟩, ⟨1, ss a1, none⟩, ⟨7, ii (a0.length : Int), none⟩, ⟨8, ii x, none⟩] [] []) (slices_Index__string_string_b1 a0 a1) (0 : Int) h ?_ ?_
 ·refine Gho.to _ _ _ [] ?_ ?_ ?_ rfl rfl ?_
  ·exact trivial
  ·exact rfl
  ·exact rfl
  ·exact tr3 <| tr3 <| tr3 <| tr3 <| trivial
 intro n1 x y1 h hl1 hr1
 revert h; revert x; intro s1 h
 unfold slices_Index__string_string_b1 at h
 refine sj <| sn <| sj ?_
 refine Br.of h (fun ht h => ?_) fun ht h => ?_
 ·refine sn <| sj <| sj <| sn <| sj <| bind_elim h fun x2 hx2 h => ?_
  refine ai rfl (xi (ss x2) (ai (fun hg => idx_map _ hx2) ?_))
  refine sn ?_
  refine Br.of h (fun ht h => ?_) fun ht h => ?_
  ·refine sj <| sn ?_
   replace h := oi h
   replace h := hr1 _ h.symm
   refine RetE.plain ?_
   subst h; exact ai rfl (ai rfl rfl)
  ·refine sn ?_
   replace h := oi h
   refine xi ⟨(n1, (IntKind.i64.wrap (s1 + (1 : Int)))), hl1 _ h.symm⟩ (ai (Nat.lt_succ_self _) ?_)
   refine Gho.to _ _ _ [] ?_ ?_ ?_ rfl rfl ?_
   ·exact trivial
   ·exact rfl
   ·exact rfl
   ·exact tr3 <| tr3 <| tr3 <| tr3 <| trivial
 ·refine sn <| sj <| sn ?_
  replace h := oi h
  replace h := hr1 _ h.symm
  refine RetE.plain ?_
  subst h; exact ai rfl (ai rfl rfl)
theorem slices_Contains__string_string_ok (E : Pm.Env) [LaidE E] (a0 : (List Bytes)) (a1 : Bytes) (r : Bool) (h : slices_Contains__string_string a0 a1 = some r) : FnR E Tryz.prog 73 [AV.list 1 (a0.map AV.str), ss a1] (bb r) false := by
 refine FnR.of_ev (T := T) (rows := []) tOk mixed Tryz.func73 rfl (by kernel_rfl) (by kernel_rfl) rfl fun hwf => ?_
 unfold slices_Contains__string_string at h
 refine sj <| sn <| sj <| bind_elim h fun x1 hx1 h => CallH.data _ false rfl (slices_Index__string_string_ok E a0 a1 x1 hx1) <| sn ?_
 replace h := oi h
 refine RetE.plain ?_
 subst h; exact ai rfl (ai rfl rfl)
theorem pairs_Languages_1_ok (E : Pm.Env) [LaidE E] (a0 : Bytes) (oc0 : (List Bytes)) (r : Unit) (oc0' : (List Bytes)) (h : pairs_Languages_1 a0 oc0 = some (r, oc0')) : FnW E Tryz.prog 182 [ss a0, AV.ptr 0 0] [.cells 45 [AV.list 1 (oc0.map AV.str)] [(0, 0)]] [1] (AV.tup []) none [.cells 45 [AV.list 1 (oc0'.map AV.str)] [(0, 1)]] [0, 1] := by
 refine FnW.of_evB (T := T) (rows := []) tOk mixed Tryz.func182 rfl (by kernel_rfl) (by kernel_rfl) rfl rfl fun hwf => ?_
 unfold pairs_Languages_1 at h
 refine sj <| bind_elim h fun x1 hx1 h => CallH.data _ false rfl (strings_Cut_ok E a0 ([59] : Bytes) x1 hx1) <| sn <| sj <| bind_elim h fun x2 hx2 h => CallH.data _ false rfl (text_Trim_ok E x1.1 x2 hx2) <| bind_elim h fun x3 hx3 h => CallH.data _ false rfl (text_Lower_ok E x2 x3 hx3) <| sn <| sj <| bind_elim h fun x4 hx4 h => ai id <| ai id <| ai rfl ?_
 refine CallF.mk _ false (fun hg => slices_Contains__string_string_ok E oc0 x3 x4 (gcall_some hx4 hg)) (ai rfl ?_)
 refine ai id <| ai (fun hg => (and_r hg)) ?_
 refine SeqN.via (St.of [⟨1, AV.ptr 0 0, none⟩, ⟨3, ss x3, none⟩, ⟨22, bb (bif (!(x3 == ([] : Bytes))) then (!x4) else false), none⟩] [.cells 45 [AV.list 1 (oc0.map AV.str)] [(0, 1)]] [0, 1]) ?_ ?_
 ·refine Gho.to _ _ _ [0, 0] ?_ ?_ ?_ rfl rfl ?_
  ·exact ⟨⟨rfl, rfl, rfl⟩, trivial⟩
  ·exact rfl
  ·exact rfl
  ·exact tr3 <| tr3 <| tr3 <| trivial
 refine Br.of h (fun ht h => ?_) fun ht h => ?_
 ·refine ai ⟨rfl, rfl, rfl, rfl⟩ <| ai ⟨rfl, rfl, rfl⟩ <| NormE.to (AV.list 1 (([x3] : List Bytes).map AV.str)) (fun _ => rfl) <| bind_elim h fun x5 hx5 h => ?_
  have qx5 := (app_some hx5).1
  have hx5e := (app_some hx5).2
  refine ai ⟨rfl, rfl, rfl⟩ <| ai rfl <| ai (app_cond ss qx5) <| NormE.to (AV.list 1 (x5.map AV.str)) (fun _ => (app_list 1 ss _ _).trans (congrArg (fun y => AV.list 1 (List.map ss y)) hx5e.symm)) ?_
  refine ai ⟨rfl, rfl, rfl, lb rfl⟩ (xi [AV.list 1 (x5.map AV.str)] (ai (fun _ => rfl) ?_))
  replace h := oi h
  have h0 := (Prod.mk.inj h).1
  have h1 := (Prod.mk.inj h).2
  subst h0
  subst h1
  refine xi [] (xi [.cells 45 [AV.list 1 (x5.map AV.str)] [(0, 1)]] (ai rfl (ai (Gho.to _ _ _ [0, 3] ?_ ?_ ?_ rfl rfl ?_) (ai ?_ rfl))))
  ·exact ⟨⟨rfl, rfl, rfl⟩, trivial⟩
  ·exact rfl
  ·exact rfl
  ·exact trivial
  ·exact rfl
 ·replace h := oi h
  have h0 := (Prod.mk.inj h).1
  have h1 := (Prod.mk.inj h).2
  subst h0
  subst h1
  refine xi [] (xi [.cells 45 [AV.list 1 (oc0.map AV.str)] [(0, 1)]] (ai rfl (ai (Gho.to _ _ _ [0, 1] ?_ ?_ ?_ rfl rfl ?_) (ai ?_ rfl))))
  ·exact ⟨⟨rfl, rfl, rfl⟩, trivial⟩
  ·exact rfl
  ·exact rfl
  ·exact trivial
  ·exact rfl
end Go.Proofs.YtdobepgddhbncaaGreatDoor
