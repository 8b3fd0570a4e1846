/-
  The functions do what their images say: walks, written by a program of mine (gen.py).
-/
import Derived.Test.YtpionnihpibglaaGreatDoorIw1
import Derived.Test.YtpionnihpibglaaGreatDoorGh5
namespace Go.Proofs.YtpionnihpibglaaGreatDoor
open Go Go.Pm
set_option linter.unusedSimpArgs false
open And renaming intro → ai
open Exists renaming intro → xi
open Option.some renaming inj → oi
open _root_.Nat renaming le_of_ble_eq_true → lb
open Go.Pm.SeqJ renaming go → sj
open Go.Pm.SeqN renaming go → sn
set_option maxRecDepth 100000
set_option maxHeartbeats 4000000
set_option linter.unusedVariables false
theorem intarsialaw10_few_ok (E : Pm.Env) [LaidB E] (a0 : S_Message) (r : S_Message) (h : intarsialaw10_few a0 = some r) : FnR E Tryz.prog 7 [S_Message.av a0] (S_Message.av r) false := by
 refine FnR.of_ev (T := T) (rows := [41]) tOk mixed Tryz.func7 rfl (by kernel_rfl) (by kernel_rfl) rfl fun hwf => ?_
 unfold intarsialaw10_few at h
 refine sj <| ai rfl <| ai rfl <| sn <| sj <| ai ⟨lb rfl, lb rfl⟩ <| NormE.to (S_Start.av a0.Start) (fun _ => rfl) <| ai rfl ?_
 refine ai ⟨rfl, rfl, rfl, lb rfl⟩ (xi (S_Start.cells a0.Start) (ai (fun _ => rfl) ?_))
 refine sn <| sj <| NormE.same <| ai rfl <| bind_elim h fun x1 hx1 h => ?_
 have qx1 := (slc_some hx1).1
 have hx1e := (slc_some hx1).2
 refine ai (fun _ => qx1) <| NormE.to (ss x1) (fun _ => congrArg ss hx1e.symm) <| NormE.same <| ai rfl <| bind_elim h fun x2 hx2 h => ?_
 have qx2 := (slc_some hx2).1
 have hx2e := (slc_some hx2).2
 refine ai (fun _ => qx2) <| NormE.to (ss x2) (fun _ => congrArg ss hx2e.symm) <| NormE.same <| ai rfl <| bind_elim h fun x3 hx3 h => ?_
 have qx3 := (slc_some hx3).1
 have hx3e := (slc_some hx3).2
 refine ai (fun _ => qx3) <| NormE.to (ss x3) (fun _ => congrArg ss hx3e.symm) ?_
 refine ai ⟨rfl, rfl, rfl, lb rfl⟩ (xi [ss x1, ss a0.Start.Target, ii a0.Start.Code, ss a0.Start.Reason, ii a0.Start.Minor] (ai (fun _ => rfl) ?_))
 refine ai ⟨rfl, rfl, rfl, lb rfl⟩ (xi [ss x1, ss x2, ii a0.Start.Code, ss a0.Start.Reason, ii a0.Start.Minor] (ai (fun _ => rfl) ?_))
 refine ai ⟨rfl, rfl, rfl, lb rfl⟩ (xi [ss x1, ss x2, ii a0.Start.Code, ss x3, ii a0.Start.Minor] (ai (fun _ => rfl) ?_))
 refine ai (by kernel_rfl) ?_
 refine SeqN.via (St.of [⟨1, AV.ptr 0 0, none⟩, ⟨2, AV.ptr 1 0, none⟩, ⟨3, AV.ptr 2 0, none⟩] [.cells 26 (S_Message.cells a0) [], .cells 26 [ss [], ss [], ii 0, ss [], ii 0, AV.list 2 (([] : List S_Field).map S_Field.av), ss []] [(5, 0)], .cells 23 [ss x1, ss x2, ii a0.Start.Code, ss x3, ii a0.Start.Minor] []] [1]) ?_ ?_
 ·refine Gho.to _ _ _ [0] ?_ ?_ ?_ rfl rfl ?_
  ·exact ⟨⟨rfl, rfl, rfl⟩, ⟨⟨rfl, rfl, rfl⟩, ⟨⟨rfl, rfl, rfl⟩, trivial⟩⟩⟩
  ·exact rfl
  ·exact rfl
  ·exact tr3 <| tr3 <| tr3 <| trivial
 refine sj <| ai ⟨rfl, rfl, rfl⟩ <| NormE.to (AV.list 2 (([] : List S_Field).map S_Field.av)) (fun _ => rfl) <| NormE.to (ii (a0.Fields.length : Int)) (fun _ => len_list S_Field.av a0.Fields) <| ai rfl <| bind_elim h fun x4 hx4 h => ?_
 have qx4 := (slc_some hx4).1
 have hx4e := (slc_some hx4).2
 refine ai ⟨(fun hg => slc_cond S_Field.av qx4), rfl⟩ <| NormE.to (AV.list 2 (x4.map S_Field.av)) (fun _ => (slc_list 2 S_Field.av _ _ _).trans (congrArg (fun y => AV.list 2 (List.map S_Field.av y)) hx4e.symm)) <| chk_elim h fun q5 h => ai ⟨rfl, rfl, rfl⟩ <| ai rfl <| ai (by rw [List.length_map]; exact q5) ?_
 refine xi (x4.flatMap S_Field.cells) (ai (flat_from _ _) ?_)
 refine NormE.to (AV.row 3 0 x4.length) (fun _ => row_len _ _ _) <| sn <| bind_elim h fun j6 hj6 h => ?_
 refine SeqJ.join (St.of [⟨1, AV.ptr 0 0, none⟩, ⟨2, AV.ptr 1 0, none⟩, ⟨3, AV.ptr 2 0, none⟩, ⟨4, AV.row 3 0 x4.length, none⟩] [.cells 26 (S_Message.cells a0) [], .cells 26 [ss [], ss [], ii 0, ss [], ii 0, AV.list 2 (([] : List S_Field).map S_Field.av), ss []] [(5, 0)], .cells 23 [ss x1, ss x2, ii a0.Start.Code, ss x3, ii a0.Start.Minor] [], .cells 55 (j6.flatMap S_Field.cells) []] [1]) ?_ ?_
 ·clear h; have h := hj6; clear hj6
  refine sj <| NormE.same <| sn ?_
  refine LoopE.img (fun x : (Int × (List S_Field)) => St.of [⟨1, AV.ptr 0 0, none⟩, ⟨2, AV.ptr 1 0, none⟩, ⟨3, AV.ptr 2 0, none⟩, ⟨4, AV.row 3 0 x4.length, none⟩, ⟨42, AV.row 3 0 x4.length, none⟩, ⟨43, ii ((x4.length : Nat) : Int), none⟩, ⟨44, ii x.1, none⟩] [.cells 26 (S_Message.cells a0) [], .cells 26 [ss [], ss [], ii 0, ss [], ii 0, AV.list 2 (([] : List S_Field).map S_Field.av), ss []] [(5, 0)], .cells 23 [ss x1, ss x2, ii a0.Start.Code, ss x3, ii a0.Start.Minor] [], .cells 55 (x.2.flatMap S_Field.cells) []] [1]) (intarsialaw10_few_b1 x4) ((0 : Int), x4) h ?_ ?_
  ·refine Gho.to _ _ _ [0] ?_ ?_ ?_ rfl rfl ?_
   ·exact ⟨⟨rfl, rfl, rfl⟩, ⟨⟨rfl, rfl, rfl⟩, ⟨⟨rfl, rfl, rfl⟩, ⟨⟨rfl, rfl, rfl⟩, trivial⟩⟩⟩⟩
   ·exact (and_tt' rfl (and_tt' rfl (and_tt' rfl (and_tt' (noB_flat _ (fun _ => rfl) _) rfl))))
   ·exact rfl
   ·exact tr3 <| tr3 <| tr3 <| tr3 <| tr3 <| tr3 <| tr3 <| trivial
  intro n1 x y1 h hl1 hr1
  obtain ⟨s7, s8⟩ := x
  unfold intarsialaw10_few_b1 at h
  dsimp only at h
  refine sj <| sn <| sj ?_
  refine Br.of h (fun ht h => ?_) fun ht h => ?_
  ·refine sn <| sj <| sj <| chk_elim h fun q9 h => ai (fun _ => q9) <| bind_elim h fun x10 hx10 h => ai ⟨lb rfl, flat_fits S_Field.cells 2 (fun _ => rfl) hx10⟩ <| NormE.to (S_Field.av x10) (fun _ => congrArg AV.agg (flat_load S_Field.cells 2 (fun _ => rfl) hx10)) <| ai rfl ?_
   refine ai ⟨rfl, rfl, rfl, lb rfl⟩ (xi (S_Field.cells x10) (ai (fun _ => rfl) ?_))
   refine sn <| NormE.same <| ai rfl <| bind_elim h fun x11 hx11 h => ?_
   have qx11 := (slc_some hx11).1
   have hx11e := (slc_some hx11).2
   refine ai (fun _ => qx11) <| NormE.to (ss x11) (fun _ => congrArg ss hx11e.symm) <| NormE.same <| ai rfl <| bind_elim h fun x12 hx12 h => ?_
   have qx12 := (slc_some hx12).1
   have hx12e := (slc_some hx12).2
   refine ai (fun _ => qx12) <| NormE.to (ss x12) (fun _ => congrArg ss hx12e.symm) <| ai ⟨rfl, rfl, lb rfl⟩ <| ai ⟨rfl, rfl, lb rfl⟩ ?_
   refine xi none (ai trivial ?_)
   refine chk_elim h fun q13 h => ai (fun _ => q13) <| bind_elim h fun x14 hx14 h => ?_
   have qx14 := (seti_some hx14).1
   have hx14e := (seti_some hx14).2
   refine ai ⟨rfl, rfl, rfl, flat_len_le S_Field.cells 2 (fun _ => rfl) qx14⟩ (xi (x14.flatMap S_Field.cells) (ai (fun _ => flat_store S_Field.cells 2 (fun _ => rfl) (S_Field.mk x11 x12) qx14 hx14e) ?_))
   refine ai (by kernel_rfl) ?_
   refine SeqN.via (St.of [⟨1, AV.ptr 0 0, none⟩, ⟨2, AV.ptr 1 0, none⟩, ⟨3, AV.ptr 2 0, none⟩, ⟨4, AV.row 3 0 x4.length, none⟩, ⟨42, AV.row 3 0 x4.length, none⟩, ⟨43, ii ((x4.length : Nat) : Int), none⟩, ⟨44, ii s7, none⟩] [.cells 26 (S_Message.cells a0) [], .cells 26 [ss [], ss [], ii 0, ss [], ii 0, AV.list 2 (([] : List S_Field).map S_Field.av), ss []] [(5, 0)], .cells 23 [ss x1, ss x2, ii a0.Start.Code, ss x3, ii a0.Start.Minor] [], .cells 55 (x14.flatMap S_Field.cells) []] [1]) ?_ ?_
   ·refine Gho.to _ _ _ [0] ?_ ?_ ?_ rfl rfl ?_
    ·exact ⟨⟨rfl, rfl, rfl⟩, ⟨⟨rfl, rfl, rfl⟩, ⟨⟨rfl, rfl, rfl⟩, ⟨⟨rfl, rfl, rfl⟩, trivial⟩⟩⟩⟩
    ·exact (and_tt' rfl (and_tt' rfl (and_tt' rfl (and_tt' (noB_flat _ (fun _ => rfl) _) rfl))))
    ·exact rfl
    ·exact tr3 <| tr3 <| tr3 <| tr3 <| tr3 <| tr3 <| tr3 <| trivial
   replace h := oi h
   refine xi ⟨(n1, ((IntKind.i64.wrap (s7 + (1 : Int))), x14)), hl1 _ h.symm⟩ (ai (Nat.lt_succ_self _) ?_)
   refine Gho.to _ _ _ [0] ?_ ?_ ?_ rfl rfl ?_
   ·exact ⟨⟨rfl, rfl, rfl⟩, ⟨⟨rfl, rfl, rfl⟩, ⟨⟨rfl, rfl, rfl⟩, ⟨⟨rfl, rfl, rfl⟩, trivial⟩⟩⟩⟩
   ·exact (and_tt' rfl (and_tt' rfl (and_tt' rfl (and_tt' (noB_flat _ (fun _ => rfl) _) rfl))))
   ·exact rfl
   ·exact tr3 <| tr3 <| tr3 <| tr3 <| tr3 <| tr3 <| tr3 <| trivial
  ·replace h := oi h
   replace h := hr1 _ h.symm
   subst h
   refine Gho.to _ _ _ [0] ?_ ?_ ?_ rfl rfl ?_
   ·exact ⟨⟨rfl, rfl, rfl⟩, ⟨⟨rfl, rfl, rfl⟩, ⟨⟨rfl, rfl, rfl⟩, ⟨⟨rfl, rfl, rfl⟩, trivial⟩⟩⟩⟩
   ·exact (and_tt' rfl (and_tt' rfl (and_tt' rfl (and_tt' (noB_flat _ (fun _ => rfl) _) rfl))))
   ·exact rfl
   ·exact tr3 <| tr3 <| tr3 <| tr3 <| trivial
 ·clear hj6
  refine sj <| ai ⟨lb rfl, lb rfl⟩ <| NormE.to (AV.agg [ss x1, ss x2, ii a0.Start.Code, ss x3, ii a0.Start.Minor]) (fun _ => rfl) <| NormE.same <| ai rfl <| bind_elim h fun x15 hx15 h => ?_
  have qx15 := (slc_some hx15).1
  have hx15e := (slc_some hx15).2
  refine ai (fun _ => qx15) <| NormE.to (ss x15) (fun _ => congrArg ss hx15e.symm) <| ai ⟨rfl, rfl, lb rfl⟩ <| ai ⟨rfl, rfl, lb rfl⟩ <| ai ⟨rfl, rfl, lb rfl⟩ ?_
  refine xi none (ai trivial ?_)
  refine ai ⟨rfl, rfl, rfl, lb rfl⟩ (xi [ss x1, ss x2, ii a0.Start.Code, ss x3, ii a0.Start.Minor, AV.row 3 0 x4.length, ss x15] (ai (fun _ => rfl) ?_))
  refine ai (by kernel_rfl) <| sn <| chk_elim h fun hc1 h => ?_
  replace h := oi h
  refine RetE.frz ?_
  refine ai ⟨lb rfl, lb rfl⟩ (xi (AV.agg [ss x1, ss x2, ii a0.Start.Code, ss x3, ii a0.Start.Minor, AV.row 3 0 x4.length, ss x15]) (ai rfl ?_))
  exact xi (AV.agg [ss x1, ss x2, ii a0.Start.Code, ss x3, ii a0.Start.Minor, AV.list 2 ((j6.take x4.length).map S_Field.av), ss x15]) (ai (Frz.aggL ⟨Frz.pure _ (AV.puD_ok rfl), Frz.pure _ (AV.puD_ok rfl), Frz.pure _ (AV.puD_ok rfl), Frz.pure _ (AV.puD_ok rfl), Frz.pure _ (AV.puD_ok rfl), Frz.rows S_Field.av 2 (lb rfl) (fun _ => rfl) (fun _ => rfl) rfl (flat_from _ _) hc1, Frz.pure _ (AV.puD_ok rfl), trivial⟩) (ai (congrArg (fun r : S_Message => S_Message.av r) h) rfl))
theorem stringslite_HasPrefix_ok (E : Pm.Env) [LaidB E] (a0 : Bytes) (a1 : Bytes) (r : Bool) (h : stringslite_HasPrefix a0 a1 = some r) : FnR E Tryz.prog 98 [ss a0, ss a1] (bb r) false := by
 refine FnR.of_ev (T := T) (rows := []) tOk mixed Tryz.func98 rfl (by kernel_rfl) (by kernel_rfl) rfl fun hwf => ?_
 unfold stringslite_HasPrefix at h
 refine sj <| sn <| sj <| NormE.same <| NormE.same <| ai id <| NormE.same <| bind_elim h fun x1 hx1 h => ?_
 have qx1 := (gslc_some hx1).1
 have hx1e := (gslc_some hx1).2
 refine ai id <| ai id <| ai qx1 <| NormE.to (ss x1) (fun _ => congrArg ss hx1e.symm) <| ai id <| ai id <| ai (fun hg => (and_r hg)) <| sn ?_
 replace h := oi h
 refine RetE.plain ?_
 subst h; exact ai rfl (ai rfl rfl)
theorem strings_HasPrefix_ok (E : Pm.Env) [LaidB E] (a0 : Bytes) (a1 : Bytes) (r : Bool) (h : strings_HasPrefix a0 a1 = some r) : FnR E Tryz.prog 63 [ss a0, ss a1] (bb r) false := by
 refine FnR.of_ev (T := T) (rows := []) tOk mixed Tryz.func63 rfl (by kernel_rfl) (by kernel_rfl) rfl fun hwf => ?_
 unfold strings_HasPrefix at h
 refine sj <| sn <| sj <| bind_elim h fun x1 hx1 h => CallH.data _ false rfl (stringslite_HasPrefix_ok E a0 a1 x1 hx1) <| sn ?_
 replace h := oi h
 refine RetE.plain ?_
 subst h; exact ai rfl (ai rfl rfl)
theorem start_target_1_ok (E : Pm.Env) [LaidB E] (a0 : Int) (r : Bool) (h : start_target_1 a0 = some r) : FnR E Tryz.prog 111 [AV.int .u8 a0] (bb r) false := by
 refine FnR.of_ev (T := T) (rows := []) tOk mixed Tryz.func111 rfl (by kernel_rfl) (by kernel_rfl) rfl fun hwf => ?_
 unfold start_target_1 at h
 refine sj <| sn <| sj <| ai id <| ai (fun hg => (and_r hg)) <| bind_elim h fun x1 hx1 h => ai id <| ai rfl ?_
 refine CallF.mk _ false (fun hg => strings_IndexByte_ok E ([34, 35, 60, 62, 92, 94, 123, 124, 125, 96] : Bytes) a0 x1 (gcall_some hx1 hg)) (ai rfl ?_)
 refine ai id <| ai (fun hg => (and_r hg)) <| sn ?_
 replace h := oi h
 refine RetE.plain ?_
 subst h; exact ai rfl (ai rfl rfl)
theorem start_target_ok (E : Pm.Env) [LaidB E] (a0 : Bytes) (r : Bool) (h : start_target a0 = some r) : FnR E Tryz.prog 76 [ss a0] (bb r) false := by
 refine FnR.of_ev (T := T) (rows := []) tOk mixed Tryz.func76 rfl (by kernel_rfl) (by kernel_rfl) rfl fun hwf => ?_
 unfold start_target at h
 refine sj <| sn <| sj <| sn <| sj <| sj <| sn ?_
 refine Br.of h (fun ht h => ?_) fun ht h => ?_
 ·refine sj <| sn ?_
  replace h := oi h
  refine RetE.plain ?_
  subst h; exact ai rfl (ai rfl rfl)
 ·refine sn <| sj <| bind_elim h fun x1 hx1 h => CallH.data _ false rfl (strings_HasPrefix_ok E a0 ([47] : Bytes) x1 hx1) <| bind_elim h fun x2 hx2 h => ai id <| ai rfl ?_
  refine CallF.mk _ false (fun hg => strings_HasPrefix_ok E a0 ([104, 116, 116, 112, 58, 47, 47] : Bytes) x2 (gcall_some hx2 hg)) (ai rfl ?_)
  refine ai (fun hg => (and_r hg)) <| ai id <| NormE.same <| ai id <| ai (fun hg => (and_r hg)) <| ai id <| ai ⟨rfl, rfl⟩ <| bind_elim h fun x3 hx3 h => ai id <| ai id <| ai rfl ?_
  refine CallF.mk _ false (fun hg => slices_ContainsFunc__byte_byte_ok E a0 111 [] (fun x0 => start_target_1 x0) (fun x0 r h => start_target_1_ok E x0 r h) rfl x3 (gcall_some hx3 hg)) (ai rfl ?_)
  refine ai id <| ai (fun hg => (and_r hg)) ?_
  refine SeqN.via (St.of [⟨2, bb (bif (bif (bif x1 then true else x2) then (decide ((a0.length : Int) ≤ (500 : Int))) else false) then (!x3) else false), none⟩] [] []) ?_ ?_
  ·refine Gho.to _ _ _ [] ?_ ?_ ?_ rfl rfl ?_
   ·exact trivial
   ·exact rfl
   ·exact rfl
   ·exact tr3 <| trivial
  replace h := oi h
  refine RetE.plain ?_
  subst h; exact ai rfl (ai rfl rfl)
theorem start_Right_1_ok (E : Pm.Env) [LaidB E] (a0 : Int) (r : Bool) (h : start_Right_1 a0 = some r) : FnR E Tryz.prog 77 [AV.int .u8 a0] (bb r) false := by
 refine FnR.of_ev (T := T) (rows := []) tOk mixed Tryz.func77 rfl (by kernel_rfl) (by kernel_rfl) rfl fun hwf => ?_
 unfold start_Right_1 at h
 refine sj <| sn <| sj <| ai id <| ai (fun hg => (and_r hg)) <| ai id <| ai (fun hg => (and_r hg)) <| sn ?_
 replace h := oi h
 refine RetE.plain ?_
 subst h; exact ai rfl (ai rfl rfl)
theorem start_Right_ok (E : Pm.Env) [LaidB E] (a0 : S_Start) (r : Bool) (h : start_Right a0 = some r) : FnR E Tryz.prog 37 [S_Start.av a0] (bb r) false := by
 refine FnR.of_ev (T := T) (rows := []) tOk mixed Tryz.func37 rfl (by kernel_rfl) (by kernel_rfl) rfl fun hwf => ?_
 unfold start_Right at h
 refine sj <| ai rfl <| sn <| sj <| sj <| ai id <| ai id <| ai (fun hg => (and_r hg)) <| sn ?_
 refine Br.of h (fun ht h => ?_) fun ht h => ?_
 ·refine sj <| sn ?_
  replace h := oi h
  refine RetE.plain ?_
  subst h; exact ai rfl (ai rfl rfl)
 ·refine sn <| sj <| sj <| sn ?_
  refine Br.of h (fun ht h => ?_) fun ht h => ?_
  ·refine sj <| ai id <| bind_elim h fun x1 hx1 h => ai id <| ai rfl ?_
   refine CallF.mk _ false (fun hg => text_Token_ok E a0.Method x1 (gcall_some hx1 hg)) (ai rfl ?_)
   refine ai (fun hg => (and_r hg)) <| ai id <| ai id <| NormE.same <| ai id <| ai (fun hg => (and_r hg)) <| ai id <| bind_elim h fun x2 hx2 h => ai id <| ai rfl ?_
   refine CallF.mk _ false (fun hg => start_target_ok E a0.Target x2 (gcall_some hx2 hg)) (ai rfl ?_)
   refine ai (fun hg => (and_r hg)) ?_
   refine SeqN.via (St.of [⟨2, bb (bif (bif (bif (a0.Reason == ([] : Bytes)) then x1 else false) then (decide ((a0.Method.length : Int) ≤ (20 : Int))) else false) then x2 else false), none⟩] [] []) ?_ ?_
   ·refine Gho.to _ _ _ [] ?_ ?_ ?_ rfl rfl ?_
    ·exact trivial
    ·exact rfl
    ·exact rfl
    ·exact tr3 <| trivial
   replace h := oi h
   refine RetE.plain ?_
   subst h; exact ai rfl (ai rfl rfl)
  ·refine sn <| sj <| sn <| sj <| ai id <| ai id <| ai (fun hg => (and_r hg)) <| ai id <| ai id <| ai (fun hg => (and_r hg)) <| ai id <| ai id <| ai (fun hg => (and_r hg)) <| ai id <| ai id <| NormE.same <| ai id <| ai (fun hg => (and_r hg)) <| ai id <| bind_elim h fun x3 hx3 h => ai id <| ai rfl ?_
   refine CallF.mk _ false (fun hg => text_Trim_ok E a0.Reason x3 (gcall_some hx3 hg)) (ai rfl ?_)
   refine ai id <| ai id <| ai id <| ai (fun hg => (and_r hg)) <| ai id <| ai id <| ai ⟨rfl, rfl⟩ <| bind_elim h fun x4 hx4 h => ai id <| ai id <| ai rfl ?_
   refine CallF.mk _ false (fun hg => slices_ContainsFunc__byte_byte_ok E a0.Reason 77 [] (fun x0 => start_Right_1 x0) (fun x0 r h => start_Right_1_ok E x0 r h) rfl x4 (gcall_some hx4 hg)) (ai rfl ?_)
   refine ai id <| ai (fun hg => (and_r hg)) <| ai (by kernel_rfl) ?_
   refine SeqN.via (St.of [⟨2, bb (bif (bif (bif (bif (bif (bif (decide (a0.Code ≥ (100 : Int))) then (decide (a0.Code ≤ (599 : Int))) else false) then (a0.Method == ([] : Bytes)) else false) then (a0.Target == ([] : Bytes)) else false) then (decide ((a0.Reason.length : Int) ≤ (100 : Int))) else false) then (x3 == a0.Reason) else false) then (!x4) else false), none⟩] [] []) ?_ ?_
   ·refine Gho.to _ _ _ [] ?_ ?_ ?_ rfl rfl ?_
    ·exact trivial
    ·exact rfl
    ·exact rfl
    ·exact tr3 <| trivial
   replace h := oi h
   refine RetE.plain ?_
   subst h; exact ai rfl (ai rfl rfl)
theorem number_Dec_ok (E : Pm.Env) [LaidB E] (a0 : Int) (r : Bytes) (h : number_Dec a0 = some r) : FnR E Tryz.prog 38 [AV.int .u64 a0] (ss r) false := by
 refine FnR.of_ev (T := T) (rows := []) tOk mixed Tryz.func38 rfl (by kernel_rfl) (by kernel_rfl) rfl fun hwf => ?_
 unfold number_Dec at h
 refine sj <| sn <| sj <| bind_elim h fun x1 hx1 h => CallH.data _ false rfl (strconv_FmtU_ok E a0 (10 : Int) x1 hx1) <| sn ?_
 replace h := oi h
 refine RetE.plain ?_
 subst h; exact ai rfl (ai rfl rfl)
theorem start_Print_ok (E : Pm.Env) [LaidB E] (a0 : S_Start) (r : (Bytes × Int)) (h : start_Print a0 = some r) : FnR E Tryz.prog 19 [S_Start.av a0] (AV.tup [ss r.1, ii r.2]) false := by
 refine FnR.of_ev (T := T) (rows := []) tOk mixed Tryz.func19 rfl (by kernel_rfl) (by kernel_rfl) rfl fun hwf => ?_
 unfold start_Print at h
 refine sj <| ai rfl <| sn <| sj <| sj <| ai ⟨lb rfl, lb rfl⟩ <| NormE.to (S_Start.av a0) (fun _ => rfl) <| bind_elim h fun x1 hx1 h => CallH.data _ false rfl (start_Right_ok E a0 x1 hx1) <| sn ?_
 refine Br.of h (fun ht h => ?_) fun ht h => ?_
 ·refine sj <| sn ?_
  replace h := oi h
  refine RetE.plain ?_
  subst h; exact ai rfl (ai rfl rfl)
 ·refine sn <| sj <| bind_elim h fun x2 hx2 h => CallH.data _ false rfl (number_Dec_ok E (IntKind.u64.wrap a0.Minor) x2 hx2) <| bind_elim h fun x3 hx3 h => ?_
  have hx3c := (cat_some hx3).1
  have hx3e := (cat_some hx3).2
  refine ai (fun _ => hx3c) <| NormE.to (ss x3) (fun _ => congrArg ss hx3e.symm) <| sn <| sj <| sj <| sn ?_
  refine Br.of h (fun ht h => ?_) fun ht h => ?_
  ·refine sj <| ai ⟨rfl, rfl, rfl, rfl⟩ <| ai ⟨rfl, rfl, rfl, rfl⟩ <| ai ⟨rfl, rfl, rfl, rfl⟩ <| ai ⟨rfl, rfl, rfl⟩ <| NormE.to (AV.list 1 (([a0.Method, a0.Target, x3] : List Bytes).map AV.str)) (fun _ => rfl) <| bind_elim h fun x4 hx4 h => CallH.data _ false rfl (strings_Join_ok E ([a0.Method, a0.Target, x3] : List Bytes) ([32] : Bytes) x4 hx4) ?_
   refine SeqN.via (St.of [⟨2, ss x4, none⟩, ⟨3, ii 0, none⟩] [] []) ?_ ?_
   ·refine Gho.to _ _ _ [] ?_ ?_ ?_ rfl rfl ?_
    ·exact trivial
    ·exact rfl
    ·exact rfl
    ·exact tr3 <| tr3 <| trivial
   replace h := oi h
   refine RetE.plain ?_
   subst h; exact ai rfl (ai rfl rfl)
  ·refine sn <| sj <| bind_elim h fun x5 hx5 h => CallH.data _ false rfl (number_Dec_ok E (IntKind.u64.wrap a0.Code) x5 hx5) <| ai ⟨rfl, rfl, rfl, rfl⟩ <| ai ⟨rfl, rfl, rfl, rfl⟩ <| ai ⟨rfl, rfl, rfl, rfl⟩ <| ai ⟨rfl, rfl, rfl⟩ <| NormE.to (AV.list 1 (([x3, x5, a0.Reason] : List Bytes).map AV.str)) (fun _ => rfl) <| bind_elim h fun x6 hx6 h => CallH.data _ false rfl (strings_Join_ok E ([x3, x5, a0.Reason] : List Bytes) ([32] : Bytes) x6 hx6) <| ai (by kernel_rfl) ?_
   refine SeqN.via (St.of [⟨2, ss x6, none⟩, ⟨3, ii 0, none⟩] [] []) ?_ ?_
   ·refine Gho.to _ _ _ [] ?_ ?_ ?_ rfl rfl ?_
    ·exact trivial
    ·exact rfl
    ·exact rfl
    ·exact tr3 <| tr3 <| trivial
   replace h := oi h
   refine RetE.plain ?_
   subst h; exact ai rfl (ai rfl rfl)
theorem number_Hex_ok (E : Pm.Env) [LaidB E] (a0 : Int) (r : Bytes) (h : number_Hex a0 = some r) : FnR E Tryz.prog 43 [AV.int .u64 a0] (ss r) false := by
 refine FnR.of_ev (T := T) (rows := []) tOk mixed Tryz.func43 rfl (by kernel_rfl) (by kernel_rfl) rfl fun hwf => ?_
 unfold number_Hex at h
 refine sj <| sn <| sj <| bind_elim h fun x1 hx1 h => CallH.data _ false rfl (strconv_FmtU_ok E a0 (16 : Int) x1 hx1) <| sn ?_
 replace h := oi h
 refine RetE.plain ?_
 subst h; exact ai rfl (ai rfl rfl)
theorem chunk_Encode_ok (E : Pm.Env) [LaidB E] (a0 : Bytes) (r : Bytes) (h : chunk_Encode a0 = some r) : FnR E Tryz.prog 21 [ss a0] (ss r) false := by
 refine FnR.of_ev (T := T) (rows := []) tOk mixed Tryz.func21 rfl (by kernel_rfl) (by kernel_rfl) rfl fun hwf => ?_
 unfold chunk_Encode at h
 refine sj <| sn <| sj <| sj <| sn ?_
 refine Br.of h (fun ht h => ?_) fun ht h => ?_
 ·refine sj <| sn ?_
  replace h := oi h
  refine RetE.plain ?_
  subst h; exact ai rfl (ai rfl rfl)
 ·refine sn <| sj <| NormE.same <| bind_elim h fun x1 hx1 h => CallH.data _ false rfl (number_Hex_ok E (IntKind.u64.wrap (a0.length : Int)) x1 hx1) <| bind_elim h fun x2 hx2 h => ?_
  have hx2c := (cat_some hx2).1
  have hx2e := (cat_some hx2).2
  refine ai (fun _ => hx2c) <| NormE.to (ss x2) (fun _ => congrArg ss hx2e.symm) <| bind_elim h fun x3 hx3 h => ?_
  have hx3c := (cat_some hx3).1
  have hx3e := (cat_some hx3).2
  refine ai (fun _ => hx3c) <| NormE.to (ss x3) (fun _ => congrArg ss hx3e.symm) <| bind_elim h fun x4 hx4 h => ?_
  have hx4c := (cat_some hx4).1
  have hx4e := (cat_some hx4).2
  refine ai (fun _ => hx4c) <| NormE.to (ss x4) (fun _ => congrArg ss hx4e.symm) <| sn ?_
  replace h := oi h
  refine RetE.plain ?_
  subst h; exact ai rfl (ai rfl rfl)
theorem chunk_End_ok (E : Pm.Env) [LaidB E] (r : Bytes) (h : chunk_End = some r) : FnR E Tryz.prog 22 [] (ss r) false := by
 refine FnR.of_ev (T := T) (rows := []) tOk mixed Tryz.func22 rfl (by kernel_rfl) (by kernel_rfl) rfl fun hwf => ?_
 unfold chunk_End at h
 refine sj <| sn <| sj <| sn ?_
 replace h := oi h
 refine RetE.plain ?_
 subst h; exact ai rfl (ai rfl rfl)
theorem table_named_ok (E : Pm.Env) [LaidB E] (a0 : Bytes) (r : Bytes) (h : table_named a0 = some r) : FnR E Tryz.prog 84 [ss a0] (AV.fn 117 [] [AV.iptr [ss r]]) false := by
 refine FnR.of_ev (T := T) (rows := []) tOk mixed Tryz.func84 rfl (by kernel_rfl) (by kernel_rfl) rfl fun hwf => ?_
 unfold table_named at h
 refine sj <| ai rfl ?_
 refine SeqN.via (St.of [⟨1, AV.iptr [ss a0], none⟩] [] []) ?_ ?_
 ·refine Gho.trans (Gho.fz [0] [(1, AV.iptr [ss a0])] ⟨Frz.ptrD rfl rfl (lb rfl), trivial⟩) ?_
  refine Gho.to _ _ _ [] ?_ ?_ ?_ rfl rfl ?_
  ·exact trivial
  ·exact rfl
  ·exact rfl
  ·exact tr3 <| trivial
 refine sj <| sn ?_
 replace h := oi h
 refine RetE.plain ?_
 subst h; exact ai rfl (ai rfl rfl)
theorem table_keep_api_Field_ok (E : Pm.Env) [LaidB E] (a0 : (List S_Field)) (a1 : FuncId) (a1c : List AV) (a1i : S_Field → Option Bool) (a1h : ∀ (x0 : S_Field) (r : Bool), a1i x0 = some r → FnR E Tryz.prog a1 ([S_Field.av x0] ++ a1c) (bb r) false) (a1p : a1c.all AV.puB = true) (r : (List S_Field)) (h : table_keep_api_Field a0 a1i = some r) : FnR E Tryz.prog 85 [AV.list 2 (a0.map S_Field.av), AV.fn a1 [] a1c] (AV.list 2 (r.map S_Field.av)) true := by
 refine FnR.of_ev (T := T) (rows := []) tOk mixed Tryz.func85 rfl (by kernel_rfl) (by kernel_rfl) rfl fun hwf => ?_
 unfold table_keep_api_Field at h
 refine sj <| sn <| sj <| sn <| bind_elim h fun j1 hj1 h => ?_
 refine SeqJ.join (St.of [⟨5, AV.list 2 (j1.map S_Field.av), some 0⟩] [] [1]) ?_ ?_
 ·clear h; have h := hj1; clear hj1
  refine sj <| NormE.to (ii (a0.length : Int)) (fun _ => len_list S_Field.av a0) <| sn ?_
  refine LoopE.img (fun x : ((List S_Field) × Int) => St.of [⟨1, AV.fn a1 [] a1c, none⟩, ⟨5, AV.list 2 (x.1.map S_Field.av), some 0⟩, ⟨8, AV.list 2 (a0.map S_Field.av), none⟩, ⟨9, ii (a0.length : Int), none⟩, ⟨10, ii x.2, none⟩] [] [1]) (table_keep_api_Field_b1 a0 a1i) (([] : List S_Field), (0 : Int)) h ?_ ?_
  ·refine Gho.to _ _ _ [1] ?_ ?_ ?_ rfl rfl ?_
   ·exact trivial
   ·exact rfl
   ·exact rfl
   ·exact ⟨rfl, (noB_fn a1p _), trivial, rfl, rfl, ⟨rfl, rfl, rfl⟩, rfl, rfl, trivial, rfl, rfl, trivial, rfl, rfl, trivial, trivial⟩
  intro n1 x y1 h hl1 hr1
  obtain ⟨s2, s3⟩ := x
  unfold table_keep_api_Field_b1 at h
  dsimp only at h
  refine sj <| sn <| sj ?_
  refine Br.of h (fun ht h => ?_) fun ht h => ?_
  ·refine sn <| sj <| sj <| bind_elim h fun x4 hx4 h => ?_
   refine ai rfl (xi (S_Field.av x4) (ai (fun hg => idx_map _ hx4) ?_))
   refine ai (lb rfl) <| NormE.to (S_Field.av x4) (fun _ => rfl) <| ai rfl ?_
   refine ai ⟨rfl, rfl, rfl, lb rfl⟩ (xi (S_Field.cells x4) (ai (fun _ => rfl) ?_))
   refine sn <| sj <| ai ⟨lb rfl, lb rfl⟩ <| NormE.to (S_Field.av x4) (fun _ => rfl) <| bind_elim h fun x5 hx5 h => CallH.data _ false (puD_app rfl (puD_of a1p)) (a1h x4 x5 hx5) <| sn ?_
   refine Br.of h (fun ht h => ?_) fun ht h => ?_
   ·refine ai ⟨lb rfl, lb rfl⟩ <| NormE.to (S_Field.av x4) (fun _ => rfl) <| ai ⟨rfl, rfl, rfl, rfl⟩ <| ai ⟨rfl, rfl, rfl⟩ <| NormE.to (AV.list 2 (([x4] : List S_Field).map S_Field.av)) (fun _ => rfl) <| bind_elim h fun x6 hx6 h => ?_
    have qx6 := (app_some hx6).1
    have hx6e := (app_some hx6).2
    refine ai ⟨rfl, rfl, rfl⟩ <| ai rfl <| ai (app_cond S_Field.av qx6) <| NormE.to (AV.list 2 (x6.map S_Field.av)) (fun _ => (app_list 2 S_Field.av _ _).trans (congrArg (fun y => AV.list 2 (List.map S_Field.av y)) hx6e.symm)) <| sn ?_
    replace h := oi h
    refine xi ⟨(n1, (x6, (IntKind.i64.wrap (s3 + (1 : Int))))), hl1 _ h.symm⟩ (ai (Nat.lt_succ_self _) ?_)
    refine Gho.to _ _ _ [2] ?_ ?_ ?_ rfl rfl ?_
    ·exact trivial
    ·exact rfl
    ·exact rfl
    ·exact ⟨rfl, (noB_fn a1p _), trivial, rfl, rfl, ⟨rfl, rfl, rfl⟩, rfl, rfl, trivial, rfl, rfl, trivial, rfl, rfl, trivial, trivial⟩
   ·refine sn ?_
    replace h := oi h
    refine xi ⟨(n1, (s2, (IntKind.i64.wrap (s3 + (1 : Int))))), hl1 _ h.symm⟩ (ai (Nat.lt_succ_self _) ?_)
    refine Gho.to _ _ _ [0] ?_ ?_ ?_ rfl rfl ?_
    ·exact trivial
    ·exact rfl
    ·exact rfl
    ·exact ⟨rfl, (noB_fn a1p _), trivial, rfl, rfl, ⟨rfl, rfl, rfl⟩, rfl, rfl, trivial, rfl, rfl, trivial, rfl, rfl, trivial, trivial⟩
  ·replace h := oi h
   replace h := hr1 _ h.symm
   subst h
   refine Gho.to _ _ _ [0] ?_ ?_ ?_ rfl rfl ?_
   ·exact trivial
   ·exact rfl
   ·exact rfl
   ·exact ⟨rfl, rfl, ⟨rfl, rfl, rfl⟩, trivial⟩
 ·clear hj1
  refine sj <| sn ?_
  replace h := oi h
  exact RetE.own 4 0 rfl rfl rfl rfl (ai (congrArg (fun r : (List S_Field) => AV.list 2 (r.map S_Field.av)) h) rfl)
theorem table_Remove_1_ok (E : Pm.Env) [LaidB E] (a0 : S_Field) (c0 : FuncId) (c0c : List AV) (c0i : S_Field → Option Bool) (c0h : ∀ (x0 : S_Field) (r : Bool), c0i x0 = some r → FnR E Tryz.prog c0 ([S_Field.av x0] ++ c0c) (bb r) false) (c0p : c0c.all AV.puB = true) (r : Bool) (h : table_Remove_1 a0 c0i = some r) : FnR E Tryz.prog 86 [S_Field.av a0, AV.iptr [AV.fn c0 [] c0c]] (bb r) false := by
 refine FnR.of_ev (T := T) (rows := []) tOk mixed Tryz.func86 rfl (by kernel_rfl) (by kernel_rfl) rfl fun hwf => ?_
 unfold table_Remove_1 at h
 refine sj <| ai rfl <| sn <| sj <| ai ⟨lb rfl, lb rfl⟩ <| NormE.to (S_Field.av a0) (fun _ => rfl) <| bind_elim h fun x1 hx1 h => CallH.data _ false (puD_app rfl (puD_of c0p)) (c0h a0 x1 hx1) <| sn ?_
 replace h := oi h
 refine RetE.plain ?_
 subst h; exact ai rfl (ai rfl rfl)
theorem text_Lower_ok (E : Pm.Env) [LaidB E] (a0 : Bytes) (r : Bytes) (h : text_Lower a0 = some r) : FnR E Tryz.prog 141 [ss a0] (ss r) false := by
 refine FnR.of_ev (T := T) (rows := [7]) tOk mixed Tryz.func141 rfl (by kernel_rfl) (by kernel_rfl) rfl fun hwf => ?_
 unfold text_Lower at h
 refine sj <| sn <| sj <| ai ⟨rfl, rfl⟩ <| sn <| bind_elim h fun j1 hj1 h => ?_
 refine SeqJ.join (St.of [⟨3, AV.row 0 0 a0.length, none⟩] [.cells 5 (j1.map byteAV) []] []) ?_ ?_
 ·clear h; have h := hj1; clear hj1
  refine sj <| NormE.same <| sn ?_
  refine LoopE.img (fun x : (Int × (List UInt8)) => St.of [⟨3, AV.row 0 0 a0.length, none⟩, ⟨8, AV.row 0 0 a0.length, none⟩, ⟨9, ii ((a0.length : Nat) : Int), none⟩, ⟨10, ii x.1, none⟩] [.cells 5 (x.2.map byteAV) []] []) (text_Lower_b1 a0) ((0 : Int), a0) h ?_ ?_
  ·refine Gho.to _ _ _ [] ?_ ?_ ?_ rfl rfl ?_
   ·exact ⟨⟨rfl, rfl, rfl⟩, trivial⟩
   ·exact (and_tt' (noB_map _ (fun _ => rfl) _) rfl)
   ·exact rfl
   ·exact tr3 <| tr3 <| tr3 <| tr3 <| trivial
  intro n1 x y1 h hl1 hr1
  obtain ⟨s2, s3⟩ := x
  unfold text_Lower_b1 at h
  dsimp only at h
  refine sj <| sn <| sj ?_
  refine Br.of h (fun ht h => ?_) fun ht h => ?_
  ·refine sn <| sj <| sj <| chk_elim h fun q4 h => ai (fun _ => q4) <| bind_elim h fun x5 hx5 h => optE.mk (c := byteAV x5) (off_get _ hx5) <| sn <| sj <| ai id <| ai (fun hg => (and_r hg)) <| sn ?_
   refine Br.of h (fun ht h => ?_) fun ht h => ?_
   ·refine chk_elim h fun q6 h => ai (fun _ => q6) <| bind_elim h fun x7 hx7 h => ?_
    have qx7 := (seti_some hx7).1
    have hx7e := (seti_some hx7).2
    refine ai ⟨rfl, rfl, rfl, seti_len byteAV qx7 0 rfl⟩ (xi (x7.map byteAV) (ai (fun hw => seti_u8 hw qx7 hx7e) ?_))
    refine SeqN.via (St.of [⟨3, AV.row 0 0 a0.length, none⟩, ⟨8, AV.row 0 0 a0.length, none⟩, ⟨9, ii ((a0.length : Nat) : Int), none⟩, ⟨10, ii s2, none⟩] [.cells 5 (x7.map byteAV) []] []) ?_ ?_
    ·refine Gho.to _ _ _ [] ?_ ?_ ?_ rfl rfl ?_
     ·exact ⟨⟨rfl, rfl, rfl⟩, trivial⟩
     ·exact (and_tt' (noB_map _ (fun _ => rfl) _) rfl)
     ·exact rfl
     ·exact tr3 <| tr3 <| tr3 <| tr3 <| trivial
    replace h := oi h
    refine xi ⟨(n1, ((IntKind.i64.wrap (s2 + (1 : Int))), x7)), hl1 _ h.symm⟩ (ai (Nat.lt_succ_self _) ?_)
    refine Gho.to _ _ _ [] ?_ ?_ ?_ rfl rfl ?_
    ·exact ⟨⟨rfl, rfl, rfl⟩, trivial⟩
    ·exact (and_tt' (noB_map _ (fun _ => rfl) _) rfl)
    ·exact rfl
    ·exact tr3 <| tr3 <| tr3 <| tr3 <| trivial
   ·refine sn ?_
    replace h := oi h
    refine xi ⟨(n1, ((IntKind.i64.wrap (s2 + (1 : Int))), s3)), hl1 _ h.symm⟩ (ai (Nat.lt_succ_self _) ?_)
    refine Gho.to _ _ _ [] ?_ ?_ ?_ rfl rfl ?_
    ·exact ⟨⟨rfl, rfl, rfl⟩, trivial⟩
    ·exact (and_tt' (noB_map _ (fun _ => rfl) _) rfl)
    ·exact rfl
    ·exact tr3 <| tr3 <| tr3 <| tr3 <| trivial
  ·replace h := oi h
   replace h := hr1 _ h.symm
   subst h
   refine Gho.to _ _ _ [] ?_ ?_ ?_ rfl rfl ?_
   ·exact ⟨⟨rfl, rfl, rfl⟩, trivial⟩
   ·exact (and_tt' (noB_map _ (fun _ => rfl) _) rfl)
   ·exact rfl
   ·exact tr3 <| trivial
 ·clear hj1
  refine sj <| chk_elim h fun q8 h => ?_
  refine ai rfl (xi (j1.take a0.length) (ai (row_text q8) ?_))
  refine sn ?_
  replace h := oi h
  refine RetE.plain ?_
  subst h; exact ai rfl (ai rfl rfl)
theorem text_Same_ok (E : Pm.Env) [LaidB E] (a0 : Bytes) (a1 : Bytes) (r : Bool) (h : text_Same a0 a1 = some r) : FnR E Tryz.prog 118 [ss a0, ss a1] (bb r) false := by
 refine FnR.of_ev (T := T) (rows := []) tOk mixed Tryz.func118 rfl (by kernel_rfl) (by kernel_rfl) rfl fun hwf => ?_
 unfold text_Same at h
 refine sj <| sn <| sj <| bind_elim h fun x1 hx1 h => CallH.data _ false rfl (text_Lower_ok E a0 x1 hx1) <| bind_elim h fun x2 hx2 h => CallH.data _ false rfl (text_Lower_ok E a1 x2 hx2) <| sn ?_
 replace h := oi h
 refine RetE.plain ?_
 subst h; exact ai rfl (ai rfl rfl)
theorem table_named_1_ok (E : Pm.Env) [LaidB E] (a0 : S_Field) (c0 : Bytes) (r : Bool) (h : table_named_1 a0 c0 = some r) : FnR E Tryz.prog 117 [S_Field.av a0, AV.iptr [ss c0]] (bb r) false := by
 refine FnR.of_ev (T := T) (rows := []) tOk mixed Tryz.func117 rfl (by kernel_rfl) (by kernel_rfl) rfl fun hwf => ?_
 unfold table_named_1 at h
 refine sj <| ai rfl <| sn <| sj <| bind_elim h fun x1 hx1 h => CallH.data _ false rfl (text_Same_ok E a0.Name c0 x1 hx1) <| sn ?_
 replace h := oi h
 refine RetE.plain ?_
 subst h; exact ai rfl (ai rfl rfl)
theorem table_Remove_ok (E : Pm.Env) [LaidB E] (a0 : (List S_Field)) (a1 : Bytes) (r : (List S_Field)) (h : table_Remove a0 a1 = some r) : FnR E Tryz.prog 44 [AV.list 2 (a0.map S_Field.av), ss a1] (AV.list 2 (r.map S_Field.av)) true := by
 refine FnR.of_ev (T := T) (rows := []) tOk mixed Tryz.func44 rfl (by kernel_rfl) (by kernel_rfl) rfl fun hwf => ?_
 unfold table_Remove at h
 refine sj <| sn <| sj <| bind_elim h fun x1 hx1 h => CallH.data _ false rfl (table_named_ok E a1 x1 hx1) <| ai rfl ?_
 refine ai ⟨rfl, rfl, rfl, lb rfl⟩ (xi [AV.fn 117 [] [AV.iptr [ss x1]]] (ai (fun _ => rfl) ?_))
 refine SeqN.via (St.of [⟨0, AV.list 2 (a0.map S_Field.av), none⟩, ⟨5, AV.iptr [AV.fn 117 [] [AV.iptr [ss x1]]], none⟩] [] []) ?_ ?_
 ·refine Gho.trans (Gho.fz [0] [(5, AV.iptr [AV.fn 117 [] [AV.iptr [ss x1]]])] ⟨Frz.ptrD rfl rfl (lb rfl), trivial⟩) ?_
  refine Gho.to _ _ _ [] ?_ ?_ ?_ rfl rfl ?_
  ·exact trivial
  ·exact rfl
  ·exact rfl
  ·exact tr3 <| tr3 <| trivial
 refine sj <| bind_elim h fun x2 hx2 h => CallH.data _ true rfl (table_keep_api_Field_ok E a0 86 [AV.iptr [AV.fn 117 [] [AV.iptr [ss x1]]]] (fun x0 => table_Remove_1 x0 (fun x0 => table_named_1 x0 x1)) (fun x0 r h => table_Remove_1_ok E x0 117 [AV.iptr [ss x1]] (fun x0 => table_named_1 x0 x1) (fun x0 r h => table_named_1_ok E x0 x1 r h) rfl r h) rfl x2 hx2) <| sn ?_
 replace h := oi h
 exact RetE.own 4 0 rfl rfl rfl rfl (ai (congrArg (fun r : (List S_Field) => AV.list 2 (r.map S_Field.av)) h) rfl)
theorem frame_With_ok (E : Pm.Env) [LaidB E] (a0 : (List S_Field)) (a1 : S_Body) (r : ((List S_Field) × Int)) (h : frame_With a0 a1 = some r) : FnR E Tryz.prog 23 [AV.list 2 (a0.map S_Field.av), S_Body.av a1] (AV.tup [AV.list 2 (r.1.map S_Field.av), ii r.2]) false := by
 refine FnR.of_ev (T := T) (rows := []) tOk mixed Tryz.func23 rfl (by kernel_rfl) (by kernel_rfl) rfl fun hwf => ?_
 unfold frame_With at h
 refine sj <| ai rfl <| sn <| sj <| sj <| bind_elim h fun x1 hx1 h => CallH.data _ false rfl (table_Right_ok E a0 x1 hx1) <| ai id <| ai id <| ai (fun hg => (and_r hg)) <| ai id <| ai id <| ai (fun hg => (and_r hg)) <| ai id <| ai id <| ai (fun hg => (and_r hg)) <| ai id <| ai id <| ai (fun hg => (and_r hg)) ?_
 refine SeqN.via (St.of [⟨0, AV.list 2 (a0.map S_Field.av), none⟩, ⟨3, AV.ptr 0 0, none⟩, ⟨28, bb (bif (bif (bif (bif (!x1) then true else (decide (a1.Size < (0 : Int)))) then true else (decide (a1.Size > (20000 : Int)))) then true else (decide (a1.Kind < (0 : Int)))) then true else (decide (a1.Kind > (3 : Int)))), none⟩] [.cells 35 (S_Body.cells a1) []] []) ?_ ?_
 ·refine Gho.to _ _ _ [] ?_ ?_ ?_ rfl rfl ?_
  ·exact ⟨⟨rfl, rfl, rfl⟩, trivial⟩
  ·exact rfl
  ·exact rfl
  ·exact tr3 <| tr3 <| tr3 <| trivial
 refine Br.of h (fun ht h => ?_) fun ht h => ?_
 ·refine sj <| sn ?_
  replace h := oi h
  refine RetE.plain ?_
  subst h; exact ai rfl (ai rfl rfl)
 ·refine sn <| sj <| bind_elim h fun x2 hx2 h => CallH.data _ true rfl (table_Remove_ok E a0 ([67, 111, 110, 116, 101, 110, 116, 45, 76, 101, 110, 103, 116, 104] : Bytes) x2 hx2) <| bind_elim h fun x3 hx3 h => CallH.data _ true rfl (table_Remove_ok E x2 ([84, 114, 97, 110, 115, 102, 101, 114, 45, 69, 110, 99, 111, 100, 105, 110, 103] : Bytes) x3 hx3) <| sn <| sj <| sj <| sn <| sj <| sn ?_
  refine Br.of h (fun ht h => ?_) fun ht h => ?_
  ·refine sj <| bind_elim h fun x4 hx4 h => CallH.data _ false rfl (number_Dec_ok E (IntKind.u64.wrap a1.Size) x4 hx4) <| bind_elim h fun x5 hx5 h => CallH.data _ false rfl (table_Add_ok E x3 ([67, 111, 110, 116, 101, 110, 116, 45, 76, 101, 110, 103, 116, 104] : Bytes) x4 x5 hx5) ?_
   refine SeqN.via (St.of [⟨4, AV.list 2 (x5.1.map S_Field.av), none⟩, ⟨5, ii x5.2, none⟩] [] []) ?_ ?_
   ·refine Gho.to _ _ _ [] ?_ ?_ ?_ rfl rfl ?_
    ·exact trivial
    ·exact rfl
    ·exact rfl
    ·exact tr3 <| tr3 <| trivial
   replace h := oi h
   refine RetE.plain ?_
   subst h; exact ai rfl (ai rfl rfl)
  ·refine sj <| sn ?_
   refine Br.of h (fun ht h => ?_) fun ht h => ?_
   ·refine sj <| bind_elim h fun x6 hx6 h => CallH.data _ false rfl (table_Add_ok E x3 ([84, 114, 97, 110, 115, 102, 101, 114, 45, 69, 110, 99, 111, 100, 105, 110, 103] : Bytes) ([99, 104, 117, 110, 107, 101, 100] : Bytes) x6 hx6) ?_
    refine SeqN.via (St.of [⟨4, AV.list 2 (x6.1.map S_Field.av), none⟩, ⟨5, ii x6.2, none⟩] [] []) ?_ ?_
    ·refine Gho.to _ _ _ [] ?_ ?_ ?_ rfl rfl ?_
     ·exact trivial
     ·exact rfl
     ·exact rfl
     ·exact tr3 <| tr3 <| trivial
    replace h := oi h
    refine RetE.plain ?_
    subst h; exact ai rfl (ai rfl rfl)
   ·refine sn <| sj <| sn ?_
    replace h := oi h
    refine RetE.plain ?_
    subst h; exact ai rfl (ai rfl rfl)
theorem head_Print_ok (E : Pm.Env) [LaidB E] (a0 : (List S_Field)) (r : (Bytes × Int)) (h : head_Print a0 = some r) : FnR E Tryz.prog 24 [AV.list 2 (a0.map S_Field.av)] (AV.tup [ss r.1, ii r.2]) false := by
 refine FnR.of_ev (T := T) (rows := [4]) tOk mixed Tryz.func24 rfl (by kernel_rfl) (by kernel_rfl) rfl fun hwf => ?_
 unfold head_Print at h
 refine sj <| sn <| sj <| sj <| bind_elim h fun x1 hx1 h => CallH.data _ false rfl (table_Right_ok E a0 x1 hx1) <| sn ?_
 refine Br.of h (fun ht h => ?_) fun ht h => ?_
 ·refine sj <| sn ?_
  replace h := oi h
  refine RetE.plain ?_
  subst h; exact ai rfl (ai rfl rfl)
 ·refine sn <| sj ?_
  refine xi 5 (ai rfl ?_)
  refine sn <| bind_elim h fun j2 hj2 h => ?_
  refine SeqJ.join (St.of [⟨4, AV.ptr 0 0, none⟩] [.mp (.bld 80 5 j2)] []) ?_ ?_
  ·clear h; have h := hj2; clear hj2
   refine sj <| NormE.to (ii (a0.length : Int)) (fun _ => len_list S_Field.av a0) <| sn ?_
   refine LoopE.img (fun x : (Int × Bytes) => St.of [⟨4, AV.ptr 0 0, none⟩, ⟨10, AV.list 2 (a0.map S_Field.av), none⟩, ⟨11, ii (a0.length : Int), none⟩, ⟨12, ii x.1, none⟩] [.mp (.bld 80 5 x.2)] []) (head_Print_b1 a0) ((0 : Int), ([] : Bytes)) h ?_ ?_
   ·refine Gho.to _ _ _ [] ?_ ?_ ?_ rfl rfl ?_
    ·exact ⟨rfl, trivial⟩
    ·exact rfl
    ·exact rfl
    ·exact tr3 <| tr3 <| tr3 <| tr3 <| trivial
   intro n1 x y1 h hl1 hr1
   obtain ⟨s3, s4⟩ := x
   unfold head_Print_b1 at h
   dsimp only at h
   refine sj <| sn <| sj ?_
   refine Br.of h (fun ht h => ?_) fun ht h => ?_
   ·refine sn <| sj <| sj <| bind_elim h fun x5 hx5 h => ?_
    refine ai rfl (xi (S_Field.av x5) (ai (fun hg => idx_map _ hx5) ?_))
    refine ai (lb rfl) <| NormE.to (S_Field.av x5) (fun _ => rfl) <| ai rfl ?_
    refine ai ⟨rfl, rfl, rfl, lb rfl⟩ (xi (S_Field.cells x5) (ai (fun _ => rfl) ?_))
    refine sn <| bind_elim h fun x6 hx6 h => ?_
    have hx6c := (cat_some hx6).1
    have hx6e := (cat_some hx6).2
    refine ai (fun _ => hx6c) <| NormE.to (ss x6) (fun _ => congrArg ss hx6e.symm) <| bind_elim h fun x7 hx7 h => ?_
    have hx7c := (cat_some hx7).1
    have hx7e := (cat_some hx7).2
    refine ai (fun _ => hx7c) <| NormE.to (ss x7) (fun _ => congrArg ss hx7e.symm) <| bind_elim h fun x8 hx8 h => ?_
    have hx8c := (cat_some hx8).1
    have hx8e := (cat_some hx8).2
    refine ai (fun _ => hx8c) <| NormE.to (ss x8) (fun _ => congrArg ss hx8e.symm) <| bind_elim h fun x9 hx9 h => ?_
    have qx9 := (bcat_some hx9).1
    have hx9e := (bcat_some hx9).2
    refine CallH.bldW L166 XB 0 s4 x8 rfl 80 5 rfl rfl [.mp (.bld 80 5 (s4 ++ x8)), .cells 55 (S_Field.cells x5) []] [] rfl qx9 rfl rfl <| sn ?_
    replace h := oi h
    refine xi ⟨(n1, ((IntKind.i64.wrap (s3 + (1 : Int))), (s4 ++ x8))), hl1 _ h.symm⟩ (ai (Nat.lt_succ_self _) ?_)
    refine Gho.to _ _ _ [] ?_ ?_ ?_ rfl rfl ?_
    ·exact ⟨rfl, trivial⟩
    ·exact rfl
    ·exact rfl
    ·exact tr3 <| tr3 <| tr3 <| tr3 <| trivial
   ·replace h := oi h
    replace h := hr1 _ h.symm
    subst h
    refine Gho.to _ _ _ [] ?_ ?_ ?_ rfl rfl ?_
    ·exact ⟨rfl, trivial⟩
    ·exact rfl
    ·exact rfl
    ·exact tr3 <| trivial
  ·clear hj2
   refine sj <| sj <| bind_elim h fun x10 hx10 h => ?_
   have qx10 := (bcat_some hx10).1
   have hx10e := (bcat_some hx10).2
   refine CallH.bldL Tryz.lays170 XB 0 j2 rfl 80 5 rfl rfl rfl rfl [.mp (.bld 80 5 j2)] [] rfl qx10 rfl rfl <| sn ?_
   refine Br.of h (fun ht h => ?_) fun ht h => ?_
   ·refine sj <| sn ?_
    replace h := oi h
    refine RetE.plain ?_
    subst h; exact ai rfl (ai rfl rfl)
   ·refine sn <| sj <| bind_elim h fun x11 hx11 h => ?_
    have qx11 := (bcat_some hx11).1
    have hx11e := (bcat_some hx11).2
    refine CallH.bldS L169 XB 0 j2 rfl 80 5 rfl rfl [.dead] [] rfl qx11 rfl rfl <| sn ?_
    replace h := oi h
    refine RetE.plain ?_
    subst h; exact ai rfl (ai rfl rfl)
theorem wire_Write_ok (E : Pm.Env) [LaidB E] (a0 : S_Message) (a1 : Bool) (r : (Bytes × Int)) (h : wire_Write a0 a1 = some r) : FnR E Tryz.prog 8 [S_Message.av a0, bb a1] (AV.tup [ss r.1, ii r.2]) false := by
 refine FnR.of_ev (T := T) (rows := []) tOk mixed Tryz.func8 rfl (by kernel_rfl) (by kernel_rfl) rfl fun hwf => ?_
 unfold wire_Write at h
 refine sj <| ai rfl <| sn <| sj <| ai ⟨lb rfl, lb rfl⟩ <| NormE.to (S_Start.av a0.Start) (fun _ => rfl) <| bind_elim h fun x1 hx1 h => CallH.data _ false rfl (start_Print_ok E a0.Start x1 hx1) <| sn <| sj <| sj <| ai id <| bind_elim h fun x2 hx2 h => ai id <| ai rfl ?_
 refine CallF.mk _ false (fun hg => table_Right_ok E a0.Fields x2 (gcall_some hx2 hg)) (ai rfl ?_)
 refine ai id <| ai (fun hg => (and_r hg)) <| ai id <| ai id <| NormE.same <| ai id <| ai (fun hg => (and_r hg)) ?_
 refine SeqN.via (St.of [⟨1, bb a1, none⟩, ⟨2, AV.ptr 0 0, none⟩, ⟨6, ss x1.1, none⟩, ⟨31, bb (bif (bif (x1.2 != (0 : Int)) then true else (!x2)) then true else (decide ((a0.Body.length : Int) > (20000 : Int)))), none⟩] [.cells 26 (S_Message.cells a0) []] []) ?_ ?_
 ·refine Gho.to _ _ _ [] ?_ ?_ ?_ rfl rfl ?_
  ·exact ⟨⟨rfl, rfl, rfl⟩, trivial⟩
  ·exact rfl
  ·exact rfl
  ·exact tr3 <| tr3 <| tr3 <| tr3 <| trivial
 refine Br.of h (fun ht h => ?_) fun ht h => ?_
 ·refine sj <| sn ?_
  replace h := oi h
  refine RetE.plain ?_
  subst h; exact ai rfl (ai rfl rfl)
 ·refine sn <| sj <| NormE.same <| ai ⟨rfl, rfl, lb rfl⟩ <| ai ⟨rfl, rfl, lb rfl⟩ ?_
  refine xi none (ai trivial ?_)
  refine ai rfl ?_
  refine ai ⟨rfl, rfl, rfl, lb rfl⟩ (xi [ii 1, ii (a0.Body.length : Int)] (ai (fun _ => rfl) ?_))
  refine ai (by kernel_rfl) <| sn <| sj <| sj <| sn ?_
  refine Br.of h (fun ht h => ?_) fun ht h => ?_
  ·refine ai ⟨rfl, rfl, lb rfl⟩ ?_
   refine xi none (ai trivial ?_)
   refine bind_elim h fun x3 hx3 h => CallH.data _ false rfl (chunk_Encode_ok E a0.Body x3 hx3) <| bind_elim h fun x4 hx4 h => CallH.data _ false rfl (chunk_End_ok E  x4 hx4) <| bind_elim h fun x5 hx5 h => ?_
   have hx5c := (cat_some hx5).1
   have hx5e := (cat_some hx5).2
   refine ai (fun _ => hx5c) <| NormE.to (ss x5) (fun _ => congrArg ss hx5e.symm) ?_
   refine ai ⟨rfl, rfl, rfl, lb rfl⟩ (xi [ii 2, ii 0] (ai (fun _ => rfl) ?_))
   refine SeqN.via (St.of [⟨2, AV.ptr 0 0, none⟩, ⟨6, ss x1.1, none⟩, ⟨8, AV.ptr 1 0, none⟩, ⟨9, ss x5, none⟩] [.cells 26 (S_Message.cells a0) [], .cells 35 [ii 2, ii 0] []] []) ?_ ?_
   ·refine Gho.to _ _ _ [] ?_ ?_ ?_ rfl rfl ?_
    ·exact ⟨⟨rfl, rfl, rfl⟩, ⟨⟨rfl, rfl, rfl⟩, trivial⟩⟩
    ·exact rfl
    ·exact rfl
    ·exact tr3 <| tr3 <| tr3 <| tr3 <| trivial
   refine sj <| ai ⟨lb rfl, lb rfl⟩ <| NormE.to (AV.agg [ii 2, ii 0]) (fun _ => rfl) <| bind_elim h fun x6 hx6 h => CallH.data _ false rfl (frame_With_ok E a0.Fields (S_Body.mk (2 : Int) (0 : Int)) x6 hx6) <| sn <| sj <| sj <| sn ?_
   refine Br.of h (fun ht h => ?_) fun ht h => ?_
   ·refine sj <| sn ?_
    replace h := oi h
    refine RetE.plain ?_
    subst h; exact ai rfl (ai rfl rfl)
   ·refine sn <| sj <| bind_elim h fun x7 hx7 h => CallH.data _ false rfl (head_Print_ok E x6.1 x7 hx7) ?_
    refine SeqN.via (St.of [⟨6, ss x1.1, none⟩, ⟨7, ii x7.2, none⟩, ⟨9, ss x5, none⟩, ⟨11, ss x7.1, none⟩] [] []) ?_ ?_
    ·refine Gho.to _ _ _ [] ?_ ?_ ?_ rfl rfl ?_
     ·exact trivial
     ·exact rfl
     ·exact rfl
     ·exact tr3 <| tr3 <| tr3 <| tr3 <| trivial
    refine sj <| sj <| sn ?_
    refine Br.of h (fun ht h => ?_) fun ht h => ?_
    ·refine sj <| sn ?_
     replace h := oi h
     refine RetE.plain ?_
     subst h; exact ai rfl (ai rfl rfl)
    ·refine sn <| sj <| bind_elim h fun x8 hx8 h => ?_
     have hx8c := (cat_some hx8).1
     have hx8e := (cat_some hx8).2
     refine ai (fun _ => hx8c) <| NormE.to (ss x8) (fun _ => congrArg ss hx8e.symm) <| bind_elim h fun x9 hx9 h => ?_
     have hx9c := (cat_some hx9).1
     have hx9e := (cat_some hx9).2
     refine ai (fun _ => hx9c) <| NormE.to (ss x9) (fun _ => congrArg ss hx9e.symm) <| bind_elim h fun x10 hx10 h => ?_
     have hx10c := (cat_some hx10).1
     have hx10e := (cat_some hx10).2
     refine ai (fun _ => hx10c) <| NormE.to (ss x10) (fun _ => congrArg ss hx10e.symm) <| bind_elim h fun x11 hx11 h => ?_
     have hx11c := (cat_some hx11).1
     have hx11e := (cat_some hx11).2
     refine ai (fun _ => hx11c) <| NormE.to (ss x11) (fun _ => congrArg ss hx11e.symm) <| sn ?_
     replace h := oi h
     refine RetE.plain ?_
     subst h; exact ai rfl (ai rfl rfl)
  ·refine sn <| sj <| ai ⟨lb rfl, lb rfl⟩ <| NormE.to (AV.agg [ii 1, ii (a0.Body.length : Int)]) (fun _ => rfl) <| bind_elim h fun x12 hx12 h => CallH.data _ false rfl (frame_With_ok E a0.Fields (S_Body.mk (1 : Int) (a0.Body.length : Int)) x12 hx12) ?_
   refine SeqN.via (St.of [⟨6, ss x1.1, none⟩, ⟨7, ii x12.2, none⟩, ⟨9, ss a0.Body, none⟩, ⟨10, AV.list 2 (x12.1.map S_Field.av), none⟩] [] []) ?_ ?_
   ·refine Gho.to _ _ _ [] ?_ ?_ ?_ rfl rfl ?_
    ·exact trivial
    ·exact rfl
    ·exact rfl
    ·exact tr3 <| tr3 <| tr3 <| tr3 <| trivial
   refine sj <| sj <| sn ?_
   refine Br.of h (fun ht h => ?_) fun ht h => ?_
   ·refine sj <| sn ?_
    replace h := oi h
    refine RetE.plain ?_
    subst h; exact ai rfl (ai rfl rfl)
   ·refine sn <| sj <| bind_elim h fun x13 hx13 h => CallH.data _ false rfl (head_Print_ok E x12.1 x13 hx13) <| sn <| sj <| sj <| sn ?_
    refine Br.of h (fun ht h => ?_) fun ht h => ?_
    ·refine sj <| sn ?_
     replace h := oi h
     refine RetE.plain ?_
     subst h; exact ai rfl (ai rfl rfl)
    ·refine sn <| sj <| bind_elim h fun x14 hx14 h => ?_
     have hx14c := (cat_some hx14).1
     have hx14e := (cat_some hx14).2
     refine ai (fun _ => hx14c) <| NormE.to (ss x14) (fun _ => congrArg ss hx14e.symm) <| bind_elim h fun x15 hx15 h => ?_
     have hx15c := (cat_some hx15).1
     have hx15e := (cat_some hx15).2
     refine ai (fun _ => hx15c) <| NormE.to (ss x15) (fun _ => congrArg ss hx15e.symm) <| bind_elim h fun x16 hx16 h => ?_
     have hx16c := (cat_some hx16).1
     have hx16e := (cat_some hx16).2
     refine ai (fun _ => hx16c) <| NormE.to (ss x16) (fun _ => congrArg ss hx16e.symm) <| bind_elim h fun x17 hx17 h => ?_
     have hx17c := (cat_some hx17).1
     have hx17e := (cat_some hx17).2
     refine ai (fun _ => hx17c) <| NormE.to (ss x17) (fun _ => congrArg ss hx17e.symm) ?_
     refine SeqN.via (St.of [⟨4, ss x17, none⟩, ⟨5, ii 0, none⟩] [] []) ?_ ?_
     ·refine Gho.to _ _ _ [] ?_ ?_ ?_ rfl rfl ?_
      ·exact trivial
      ·exact rfl
      ·exact rfl
      ·exact tr3 <| tr3 <| trivial
     replace h := oi h
     refine RetE.plain ?_
     subst h; exact ai rfl (ai rfl rfl)
theorem intarsiaref03_Lower_ok (E : Pm.Env) [LaidB E] (a0 : Bytes) (r : Bytes) (h : intarsiaref03_Lower a0 = some r) : FnR E Tryz.prog 74 [ss a0] (ss r) false := by
 refine FnR.of_ev (T := T) (rows := []) tOk mixed Tryz.func74 rfl (by kernel_rfl) (by kernel_rfl) rfl fun hwf => ?_
 unfold intarsiaref03_Lower at h
 refine sj <| sn <| sj <| sn <| bind_elim h fun j1 hj1 h => ?_
 refine SeqJ.join (St.of [⟨3, ss j1, none⟩] [] []) ?_ ?_
 ·clear h; have h := hj1; clear hj1
  refine sj <| sn ?_
  refine LoopE.img (fun x : (Bytes × Int) => St.of [⟨0, ss a0, none⟩, ⟨3, ss x.1, none⟩, ⟨4, ii x.2, none⟩] [] []) (intarsiaref03_Lower_b1 a0) (([] : Bytes), (0 : Int)) h ?_ ?_
  ·refine Gho.to _ _ _ [] ?_ ?_ ?_ rfl rfl ?_
   ·exact trivial
   ·exact rfl
   ·exact rfl
   ·exact tr3 <| tr3 <| tr3 <| trivial
  intro n1 x y1 h hl1 hr1
  obtain ⟨s2, s3⟩ := x
  unfold intarsiaref03_Lower_b1 at h
  dsimp only at h
  refine sj <| sj <| NormE.same <| sn ?_
  refine Br.of h (fun ht h => ?_) fun ht h => ?_
  ·refine sn <| sj <| sj <| bind_elim h fun x4 hx4 h => ?_
   refine xi x4 (ai (fun hg => idx_some hx4) ?_)
   refine sn <| sj <| sj <| ai id <| ai (fun hg => (and_r hg)) <| sn ?_
   refine Br.of h (fun ht h => ?_) fun ht h => ?_
   ·refine SeqN.via (St.of [⟨0, ss a0, none⟩, ⟨3, ss s2, none⟩, ⟨4, ii s3, none⟩, ⟨5, AV.int .u8 (IntKind.u8.wrap ((x4.toNat : Int) + (32 : Int))), none⟩] [] []) ?_ ?_
    ·refine Gho.to _ _ _ [] ?_ ?_ ?_ rfl rfl ?_
     ·exact trivial
     ·exact rfl
     ·exact rfl
     ·exact tr3 <| tr3 <| tr3 <| tr3 <| trivial
    refine ai ⟨rfl, rfl, rfl, rfl⟩ <| ai ⟨rfl, rfl, rfl⟩ <| NormE.to (AV.list 1 (([u8 (IntKind.u8.wrap ((x4.toNat : Int) + (32 : Int)))] : List UInt8).map byteAV)) (fun hw => bytes1 hw) ?_
    refine ai rfl (ai rfl (xi ([u8 (IntKind.u8.wrap ((x4.toNat : Int) + (32 : Int)))] : List UInt8) (ai rfl ?_)))
    refine bind_elim h fun x5 hx5 h => ?_
    have hx5c := (cat_some hx5).1
    have hx5e := (cat_some hx5).2
    refine ai (fun _ => hx5c) <| NormE.to (ss x5) (fun _ => congrArg ss hx5e.symm) <| sn ?_
    replace h := oi h
    refine xi ⟨(n1, (x5, (IntKind.i64.wrap (s3 + (1 : Int))))), hl1 _ h.symm⟩ (ai (Nat.lt_succ_self _) ?_)
    refine Gho.to _ _ _ [] ?_ ?_ ?_ rfl rfl ?_
    ·exact trivial
    ·exact rfl
    ·exact rfl
    ·exact tr3 <| tr3 <| tr3 <| trivial
   ·refine sn <| ai ⟨rfl, rfl, rfl, rfl⟩ <| ai ⟨rfl, rfl, rfl⟩ <| NormE.to (AV.list 1 (([u8 (x4.toNat : Int)] : List UInt8).map byteAV)) (fun hw => bytes1 hw) ?_
    refine ai rfl (ai rfl (xi ([u8 (x4.toNat : Int)] : List UInt8) (ai rfl ?_)))
    refine bind_elim h fun x6 hx6 h => ?_
    have hx6c := (cat_some hx6).1
    have hx6e := (cat_some hx6).2
    refine ai (fun _ => hx6c) <| NormE.to (ss x6) (fun _ => congrArg ss hx6e.symm) ?_
    refine SeqN.via (St.of [⟨0, ss a0, none⟩, ⟨3, ss x6, none⟩, ⟨4, ii s3, none⟩] [] []) ?_ ?_
    ·refine Gho.to _ _ _ [] ?_ ?_ ?_ rfl rfl ?_
     ·exact trivial
     ·exact rfl
     ·exact rfl
     ·exact tr3 <| tr3 <| tr3 <| trivial
    replace h := oi h
    refine xi ⟨(n1, (x6, (IntKind.i64.wrap (s3 + (1 : Int))))), hl1 _ h.symm⟩ (ai (Nat.lt_succ_self _) ?_)
    refine Gho.to _ _ _ [] ?_ ?_ ?_ rfl rfl ?_
    ·exact trivial
    ·exact rfl
    ·exact rfl
    ·exact tr3 <| tr3 <| tr3 <| trivial
  ·replace h := oi h
   replace h := hr1 _ h.symm
   subst h
   refine Gho.to _ _ _ [] ?_ ?_ ?_ rfl rfl ?_
   ·exact trivial
   ·exact rfl
   ·exact rfl
   ·exact tr3 <| trivial
 ·clear hj1
  refine sj <| sn ?_
  replace h := oi h
  refine RetE.plain ?_
  subst h; exact ai rfl (ai rfl rfl)
theorem intarsiaref04_same_ok (E : Pm.Env) [LaidB E] (a0 : Bytes) (a1 : Bytes) (r : Bool) (h : intarsiaref04_same a0 a1 = some r) : FnR E Tryz.prog 35 [ss a0, ss a1] (bb r) false := by
 refine FnR.of_ev (T := T) (rows := []) tOk mixed Tryz.func35 rfl (by kernel_rfl) (by kernel_rfl) rfl fun hwf => ?_
 unfold intarsiaref04_same at h
 refine sj <| sn <| sj <| bind_elim h fun x1 hx1 h => CallH.data _ false rfl (intarsiaref03_Lower_ok E a0 x1 hx1) <| bind_elim h fun x2 hx2 h => CallH.data _ false rfl (intarsiaref03_Lower_ok E a1 x2 hx2) <| sn ?_
 replace h := oi h
 refine RetE.plain ?_
 subst h; exact ai rfl (ai rfl rfl)
theorem intarsiaref04_Remove_ok (E : Pm.Env) [LaidB E] (a0 : (List S_Field)) (a1 : Bytes) (r : (List S_Field)) (h : intarsiaref04_Remove a0 a1 = some r) : FnR E Tryz.prog 15 [AV.list 2 (a0.map S_Field.av), ss a1] (AV.list 2 (r.map S_Field.av)) true := by
 refine FnR.of_ev (T := T) (rows := []) tOk mixed Tryz.func15 rfl (by kernel_rfl) (by kernel_rfl) rfl fun hwf => ?_
 unfold intarsiaref04_Remove at h
 refine sj <| sn <| sj <| ai ⟨rfl, rfl, rfl⟩ <| NormE.to (AV.list 2 (([] : List S_Field).map S_Field.av)) (fun _ => rfl) <| sn <| bind_elim h fun j1 hj1 h => ?_
 refine SeqJ.join (St.of [⟨5, AV.list 2 (j1.map S_Field.av), some 0⟩] [] [1]) ?_ ?_
 ·clear h; have h := hj1; clear hj1
  refine sj <| NormE.to (ii (a0.length : Int)) (fun _ => len_list S_Field.av a0) <| sn ?_
  refine LoopE.img (fun x : ((List S_Field) × Int) => St.of [⟨1, ss a1, none⟩, ⟨5, AV.list 2 (x.1.map S_Field.av), some 0⟩, ⟨9, AV.list 2 (a0.map S_Field.av), none⟩, ⟨10, ii (a0.length : Int), none⟩, ⟨11, ii x.2, none⟩] [] [1]) (intarsiaref04_Remove_b1 a0 a1) (([] : List S_Field), (0 : Int)) h ?_ ?_
  ·refine Gho.to _ _ _ [1] ?_ ?_ ?_ rfl rfl ?_
   ·exact trivial
   ·exact rfl
   ·exact rfl
   ·exact ⟨rfl, rfl, trivial, rfl, rfl, ⟨rfl, rfl, rfl⟩, rfl, rfl, trivial, rfl, rfl, trivial, rfl, rfl, trivial, trivial⟩
  intro n1 x y1 h hl1 hr1
  obtain ⟨s2, s3⟩ := x
  unfold intarsiaref04_Remove_b1 at h
  dsimp only at h
  refine sj <| sn <| sj ?_
  refine Br.of h (fun ht h => ?_) fun ht h => ?_
  ·refine sn <| sj <| sj <| bind_elim h fun x4 hx4 h => ?_
   refine ai rfl (xi (S_Field.av x4) (ai (fun hg => idx_map _ hx4) ?_))
   refine ai (lb rfl) <| NormE.to (S_Field.av x4) (fun _ => rfl) <| ai rfl ?_
   refine ai ⟨rfl, rfl, rfl, lb rfl⟩ (xi (S_Field.cells x4) (ai (fun _ => rfl) ?_))
   refine sn <| sj <| bind_elim h fun x5 hx5 h => CallH.data _ false rfl (intarsiaref04_same_ok E x4.Name a1 x5 hx5) <| sn ?_
   refine Br.of h (fun ht h => ?_) fun ht h => ?_
   ·refine ai ⟨lb rfl, lb rfl⟩ <| NormE.to (S_Field.av x4) (fun _ => rfl) <| ai ⟨rfl, rfl, rfl, rfl⟩ <| ai ⟨rfl, rfl, rfl⟩ <| NormE.to (AV.list 2 (([x4] : List S_Field).map S_Field.av)) (fun _ => rfl) <| bind_elim h fun x6 hx6 h => ?_
    have qx6 := (app_some hx6).1
    have hx6e := (app_some hx6).2
    refine ai ⟨rfl, rfl, rfl⟩ <| ai rfl <| ai (app_cond S_Field.av qx6) <| NormE.to (AV.list 2 (x6.map S_Field.av)) (fun _ => (app_list 2 S_Field.av _ _).trans (congrArg (fun y => AV.list 2 (List.map S_Field.av y)) hx6e.symm)) <| sn ?_
    replace h := oi h
    refine xi ⟨(n1, (x6, (IntKind.i64.wrap (s3 + (1 : Int))))), hl1 _ h.symm⟩ (ai (Nat.lt_succ_self _) ?_)
    refine Gho.to _ _ _ [2] ?_ ?_ ?_ rfl rfl ?_
    ·exact trivial
    ·exact rfl
    ·exact rfl
    ·exact ⟨rfl, rfl, trivial, rfl, rfl, ⟨rfl, rfl, rfl⟩, rfl, rfl, trivial, rfl, rfl, trivial, rfl, rfl, trivial, trivial⟩
   ·refine sn ?_
    replace h := oi h
    refine xi ⟨(n1, (s2, (IntKind.i64.wrap (s3 + (1 : Int))))), hl1 _ h.symm⟩ (ai (Nat.lt_succ_self _) ?_)
    refine Gho.to _ _ _ [0] ?_ ?_ ?_ rfl rfl ?_
    ·exact trivial
    ·exact rfl
    ·exact rfl
    ·exact ⟨rfl, rfl, trivial, rfl, rfl, ⟨rfl, rfl, rfl⟩, rfl, rfl, trivial, rfl, rfl, trivial, rfl, rfl, trivial, trivial⟩
  ·replace h := oi h
   replace h := hr1 _ h.symm
   subst h
   refine Gho.to _ _ _ [0] ?_ ?_ ?_ rfl rfl ?_
   ·exact trivial
   ·exact rfl
   ·exact rfl
   ·exact ⟨rfl, rfl, ⟨rfl, rfl, rfl⟩, trivial⟩
 ·clear hj1
  refine sj <| sn ?_
  replace h := oi h
  exact RetE.own 4 0 rfl rfl rfl rfl (ai (congrArg (fun r : (List S_Field) => AV.list 2 (r.map S_Field.av)) h) rfl)
theorem wire_New_ok (E : Pm.Env) [LaidB E] (a0 : Bool) (a1 : Bytes) (r : S_Reader) (h : wire_New a0 a1 = some r) : FnR E Tryz.prog 13 [bb a0, ss a1] (S_Reader.av r) false := by
 refine FnR.of_ev (T := T) (rows := []) tOk mixed Tryz.func13 rfl (by kernel_rfl) (by kernel_rfl) rfl fun hwf => ?_
 unfold wire_New at h
 refine sj <| ai rfl <| sn <| sj <| ai ⟨rfl, rfl, lb rfl⟩ <| ai ⟨rfl, rfl, lb rfl⟩ ?_
 refine xi (some 262140) (ai (okM.mk (show (262140 : Nat) = freeM T _ _ _ from by kernel_rfl)) ?_)
 refine ai ⟨rfl, rfl, rfl, lb rfl⟩ (xi [bb a0, ss a1, ss [], bb false, ss [], ss [], ii 0, ss [], ii 0, AV.list 2 (([] : List S_Field).map S_Field.av), ss [], ii 0, ii 0, ii 0, ss [], ii 0, ii 0, ii 0] (ai (fun _ => rfl) ?_))
 refine sn ?_
 replace h := oi h
 refine RetE.plain ?_
 refine ai ⟨lb rfl, lb rfl⟩ (xi (AV.agg [bb a0, ss a1, ss [], bb false, ss [], ss [], ii 0, ss [], ii 0, AV.list 2 (([] : List S_Field).map S_Field.av), ss [], ii 0, ii 0, ii 0, ss [], ii 0, ii 0, ii 0]) (ai rfl ?_))
 subst h; exact ai rfl (ai rfl rfl)
theorem wire_empty_ok (E : Pm.Env) [LaidB E] (a0 : S_Message) (r : Bool) (h : wire_empty a0 = some r) : FnR E Tryz.prog 94 [S_Message.av a0] (bb r) false := by
 refine FnR.of_ev (T := T) (rows := []) tOk mixed Tryz.func94 rfl (by kernel_rfl) (by kernel_rfl) rfl fun hwf => ?_
 unfold wire_empty at h
 refine sj <| ai rfl <| sn <| sj <| ai ⟨lb rfl, lb rfl⟩ <| NormE.to (S_Start.av a0.Start) (fun _ => rfl) ?_
 refine xi none (ai trivial ?_)
 refine ai rfl <| ai id <| ai id <| NormE.to (ii (a0.Fields.length : Int)) (fun _ => len_list S_Field.av a0.Fields) <| ai id <| ai (fun hg => (and_r hg)) <| ai id <| ai id <| ai (fun hg => (and_r hg)) ?_
 refine SeqN.via (St.of [⟨2, bb (bif (bif ((a0.Start.Method == ([] : Bytes)) && ((a0.Start.Target == ([] : Bytes)) && ((a0.Start.Code == (0 : Int)) && ((a0.Start.Reason == ([] : Bytes)) && ((a0.Start.Minor == (0 : Int)) && true))))) then ((a0.Fields.length : Int) == (0 : Int)) else false) then (a0.Body == ([] : Bytes)) else false), none⟩] [] []) ?_ ?_
 ·refine Gho.to _ _ _ [] ?_ ?_ ?_ rfl rfl ?_
  ·exact trivial
  ·exact rfl
  ·exact rfl
  ·exact tr3 <| trivial
 replace h := oi h
 refine RetE.plain ?_
 subst h; exact ai rfl (ai rfl rfl)
theorem wire_bare_ok (E : Pm.Env) [LaidB E] (a0 : S_Reader) (r : Bool) (h : wire_bare a0 = some r) : FnR E Tryz.prog 60 [S_Reader.av a0] (bb r) false := by
 refine FnR.of_ev (T := T) (rows := []) tOk mixed Tryz.func60 rfl (by kernel_rfl) (by kernel_rfl) rfl fun hwf => ?_
 unfold wire_bare at h
 refine sj <| ai rfl <| sn <| sj <| ai id <| ai id <| ai (fun hg => (and_r hg)) <| ai id <| ai ⟨lb rfl, lb rfl⟩ <| NormE.to (S_Message.av a0.Head) (fun _ => rfl) <| bind_elim h fun x1 hx1 h => ai id <| ai rfl ?_
 refine CallF.mk _ false (fun hg => wire_empty_ok E a0.Head x1 (gcall_some hx1 hg)) (ai rfl ?_)
 refine ai (fun hg => (and_r hg)) <| ai id <| ai ⟨lb rfl, lb rfl⟩ <| NormE.to (S_Body.av a0.Body) (fun _ => rfl) ?_
 refine xi none (ai trivial ?_)
 refine ai id <| ai id <| ai rfl <| ai (fun hg => (and_r hg)) <| ai id <| ai ⟨lb rfl, lb rfl⟩ <| NormE.to (S_Chunked.av a0.Chunk) (fun _ => rfl) ?_
 refine xi none (ai trivial ?_)
 refine ai id <| ai id <| ai rfl <| ai (fun hg => (and_r hg)) ?_
 refine SeqN.via (St.of [⟨2, bb (bif (bif (bif (bif (a0.Buf == ([] : Bytes)) then (!a0.In) else false) then x1 else false) then ((a0.Body.Kind == (0 : Int)) && ((a0.Body.Size == (0 : Int)) && true)) else false) then ((a0.Chunk.Stage == (0 : Int)) && ((a0.Chunk.Line == ([] : Bytes)) && ((a0.Chunk.Left == (0 : Int)) && ((a0.Chunk.Size == (0 : Int)) && true)))) else false), none⟩] [] []) ?_ ?_
 ·refine Gho.to _ _ _ [] ?_ ?_ ?_ rfl rfl ?_
  ·exact trivial
  ·exact rfl
  ·exact rfl
  ·exact tr3 <| trivial
 replace h := oi h
 refine RetE.plain ?_
 subst h; exact ai rfl (ai rfl rfl)
theorem table_All_ok (E : Pm.Env) [LaidB E] (a0 : (List S_Field)) (a1 : Bytes) (r : (List Bytes)) (h : table_All a0 a1 = some r) : FnR E Tryz.prog 142 [AV.list 2 (a0.map S_Field.av), ss a1] (AV.list 1 (r.map AV.str)) true := by
 refine FnR.of_ev (T := T) (rows := []) tOk mixed Tryz.func142 rfl (by kernel_rfl) (by kernel_rfl) rfl fun hwf => ?_
 unfold table_All at h
 refine sj <| sn <| sj <| sn <| bind_elim h fun j1 hj1 h => ?_
 refine SeqJ.join (St.of [⟨5, AV.list 1 (j1.map AV.str), some 0⟩] [] [1]) ?_ ?_
 ·clear h; have h := hj1; clear hj1
  refine sj <| bind_elim h fun x2 hx2 h => CallH.data _ false rfl (table_named_ok E a1 x2 hx2) <| bind_elim h fun x3 hx3 h => CallH.data _ true rfl (table_keep_api_Field_ok E a0 117 [AV.iptr [ss x2]] (fun x0 => table_named_1 x0 x2) (fun x0 r h => table_named_1_ok E x0 x2 r h) rfl x3 hx3) <| NormE.to (ii (x3.length : Int)) (fun _ => len_list S_Field.av x3) <| sn ?_
  refine LoopE.img (fun x : ((List Bytes) × Int) => St.of [⟨5, AV.list 1 (x.1.map AV.str), some 0⟩, ⟨11, AV.list 2 (x3.map S_Field.av), some 1⟩, ⟨12, ii (x3.length : Int), none⟩, ⟨13, ii x.2, none⟩] [] [1, 1]) (table_All_b1 x3) (([] : List Bytes), (0 : Int)) h ?_ ?_
  ·refine Gho.to _ _ _ [1, 2] ?_ ?_ ?_ rfl rfl ?_
   ·exact trivial
   ·exact rfl
   ·exact rfl
   ·exact ⟨rfl, rfl, ⟨rfl, rfl, rfl⟩, rfl, rfl, ⟨rfl, rfl, rfl⟩, rfl, rfl, trivial, rfl, rfl, trivial, trivial⟩
  intro n1 x y1 h hl1 hr1
  obtain ⟨s4, s5⟩ := x
  unfold table_All_b1 at h
  dsimp only at h
  refine sj <| sn <| sj ?_
  refine Br.of h (fun ht h => ?_) fun ht h => ?_
  ·refine sn <| sj <| sj <| bind_elim h fun x6 hx6 h => ?_
   refine ai rfl (xi (S_Field.av x6) (ai (fun hg => idx_map _ hx6) ?_))
   refine ai (lb rfl) <| NormE.to (S_Field.av x6) (fun _ => rfl) <| ai rfl ?_
   refine ai ⟨rfl, rfl, rfl, lb rfl⟩ (xi (S_Field.cells x6) (ai (fun _ => rfl) ?_))
   refine sn <| ai ⟨rfl, rfl, rfl, rfl⟩ <| ai ⟨rfl, rfl, rfl⟩ <| NormE.to (AV.list 1 (([x6.Value] : List Bytes).map AV.str)) (fun _ => rfl) <| bind_elim h fun x7 hx7 h => ?_
   have qx7 := (app_some hx7).1
   have hx7e := (app_some hx7).2
   refine ai ⟨rfl, rfl, rfl⟩ <| ai rfl <| ai (app_cond ss qx7) <| NormE.to (AV.list 1 (x7.map AV.str)) (fun _ => (app_list 1 ss _ _).trans (congrArg (fun y => AV.list 1 (List.map ss y)) hx7e.symm)) <| sn ?_
   replace h := oi h
   refine xi ⟨(n1, (x7, (IntKind.i64.wrap (s5 + (1 : Int))))), hl1 _ h.symm⟩ (ai (Nat.lt_succ_self _) ?_)
   refine Gho.to _ _ _ [3, 1] ?_ ?_ ?_ rfl rfl ?_
   ·exact trivial
   ·exact rfl
   ·exact rfl
   ·exact ⟨rfl, rfl, ⟨rfl, rfl, rfl⟩, rfl, rfl, ⟨rfl, rfl, rfl⟩, rfl, rfl, trivial, rfl, rfl, trivial, trivial⟩
  ·replace h := oi h
   replace h := hr1 _ h.symm
   subst h
   refine Gho.to _ _ _ [0] ?_ ?_ ?_ rfl rfl ?_
   ·exact trivial
   ·exact rfl
   ·exact rfl
   ·exact ⟨rfl, rfl, ⟨rfl, rfl, rfl⟩, trivial⟩
 ·clear hj1
  refine sj <| sn ?_
  replace h := oi h
  exact RetE.own 4 0 rfl rfl rfl rfl (ai (congrArg (fun r : (List Bytes) => AV.list 1 (r.map AV.str)) h) rfl)
theorem table_Joined_ok (E : Pm.Env) [LaidB E] (a0 : (List S_Field)) (a1 : Bytes) (r : (Bytes × Bool)) (h : table_Joined a0 a1 = some r) : FnR E Tryz.prog 143 [AV.list 2 (a0.map S_Field.av), ss a1] (AV.tup [ss r.1, bb r.2]) false := by
 refine FnR.of_ev (T := T) (rows := []) tOk mixed Tryz.func143 rfl (by kernel_rfl) (by kernel_rfl) rfl fun hwf => ?_
 unfold table_Joined at h
 refine sj <| sn <| sj <| bind_elim h fun x1 hx1 h => CallH.data _ true rfl (table_All_ok E a0 a1 x1 hx1) <| sn <| sj <| bind_elim h fun x2 hx2 h => CallH.data _ false rfl (strings_Join_ok E x1 ([44, 32] : Bytes) x2 hx2) <| NormE.to (ii (x1.length : Int)) (fun _ => len_list ss x1) <| sn ?_
 replace h := oi h
 refine RetE.plain ?_
 subst h; exact ai rfl (ai rfl rfl)
theorem number_read_uint64_ok (E : Pm.Env) [LaidB E] (a0 : Bytes) (a1 : Int) (a2 : FuncId) (a2c : List AV) (a2i : Int → Option Int) (a2h : ∀ (x0 : Int) (r : Int), a2i x0 = some r → FnR E Tryz.prog a2 ([AV.int .u8 x0] ++ a2c) (AV.int .u64 r) false) (a2p : a2c.all AV.puB = true) (r : (Int × Int)) (h : number_read_uint64 a0 a1 a2i = some r) : FnR E Tryz.prog 123 [ss a0, AV.int .u64 a1, AV.fn a2 [] a2c] (AV.tup [AV.int .u64 r.1, ii r.2]) false := by
 refine FnR.of_ev (T := T) (rows := []) tOk mixed Tryz.func123 rfl (by kernel_rfl) (by kernel_rfl) rfl fun hwf => ?_
 unfold number_read_uint64 at h
 refine sj <| sn <| sj <| sj <| sn ?_
 refine Br.of h (fun ht h => ?_) fun ht h => ?_
 ·refine sj <| sn ?_
  replace h := oi h
  refine RetE.plain ?_
  subst h; exact ai rfl (ai rfl rfl)
 ·refine sn <| sj <| sn <| sj <| sj <| NormE.same <| sn ?_
  refine LoopE.img (fun x : (Int × Bool × Int) => St.of [⟨0, ss a0, none⟩, ⟨1, AV.int .u64 a1, none⟩, ⟨2, AV.fn a2 [] a2c, none⟩, ⟨8, AV.int .u64 x.1, none⟩, ⟨9, bb x.2.1, none⟩, ⟨16, ii (a0.length : Int), none⟩, ⟨17, ii x.2.2, none⟩] [] []) (number_read_uint64_b1 a0 a1 a2i) ((IntKind.u64.wrap (0 : Int)), false, (0 : Int)) h ?_ ?_
  ·refine Gho.to _ _ _ [] ?_ ?_ ?_ rfl rfl ?_
   ·exact trivial
   ·exact rfl
   ·exact rfl
   ·exact ⟨rfl, rfl, trivial, rfl, rfl, trivial, rfl, (noB_fn a2p _), trivial, rfl, rfl, trivial, rfl, rfl, trivial, rfl, rfl, trivial, rfl, rfl, trivial, trivial⟩
  intro n1 x y1 h hl1 hr1
  obtain ⟨s1, s2, s3⟩ := x
  unfold number_read_uint64_b1 at h
  dsimp only at h
  refine sj <| sn <| sj ?_
  refine Br.of h (fun ht h => ?_) fun ht h => ?_
  ·refine sn <| sj <| sj <| sn <| sj <| bind_elim h fun x4 hx4 h => ?_
   refine xi x4 (ai (fun hg => idx_some hx4) ?_)
   refine bind_elim h fun x5 hx5 h => CallH.data _ false (puD_app rfl (puD_of a2p)) (a2h (x4.toNat : Int) x5 hx5) <| sn <| sj <| sj <| sn ?_
   refine Br.of h (fun ht h => ?_) fun ht h => ?_
   ·refine sj <| sn ?_
    replace h := oi h
    replace h := hr1 _ h.symm
    refine RetE.plain ?_
    subst h; exact ai rfl (ai rfl rfl)
   ·refine sn <| sj ?_
    refine SeqN.via (St.of [⟨0, ss a0, none⟩, ⟨1, AV.int .u64 a1, none⟩, ⟨2, AV.fn a2 [] a2c, none⟩, ⟨8, AV.int .u64 (IntKind.u64.wrap ((IntKind.u64.wrap (s1 * a1)) + x5)), none⟩, ⟨9, bb s2, none⟩, ⟨16, ii (a0.length : Int), none⟩, ⟨17, ii s3, none⟩] [] []) ?_ ?_
    ·refine Gho.to _ _ _ [] ?_ ?_ ?_ rfl rfl ?_
     ·exact trivial
     ·exact rfl
     ·exact rfl
     ·exact ⟨rfl, rfl, trivial, rfl, rfl, trivial, rfl, (noB_fn a2p _), trivial, rfl, rfl, trivial, rfl, rfl, trivial, rfl, rfl, trivial, rfl, rfl, trivial, trivial⟩
    refine sj <| sn ?_
    refine Br.of h (fun ht h => ?_) fun ht h => ?_
    ·refine sn ?_
     replace h := oi h
     refine xi ⟨(n1, ((0 : Int), true, (IntKind.i64.wrap (s3 + (1 : Int))))), hl1 _ h.symm⟩ (ai (Nat.lt_succ_self _) ?_)
     refine Gho.to _ _ _ [] ?_ ?_ ?_ rfl rfl ?_
     ·exact trivial
     ·exact rfl
     ·exact rfl
     ·exact ⟨rfl, rfl, trivial, rfl, rfl, trivial, rfl, (noB_fn a2p _), trivial, rfl, rfl, trivial, rfl, rfl, trivial, rfl, rfl, trivial, rfl, rfl, trivial, trivial⟩
    ·refine sn ?_
     replace h := oi h
     refine xi ⟨(n1, ((IntKind.u64.wrap ((IntKind.u64.wrap (s1 * a1)) + x5)), s2, (IntKind.i64.wrap (s3 + (1 : Int))))), hl1 _ h.symm⟩ (ai (Nat.lt_succ_self _) ?_)
     refine Gho.to _ _ _ [] ?_ ?_ ?_ rfl rfl ?_
     ·exact trivial
     ·exact rfl
     ·exact rfl
     ·exact ⟨rfl, rfl, trivial, rfl, rfl, trivial, rfl, (noB_fn a2p _), trivial, rfl, rfl, trivial, rfl, rfl, trivial, rfl, rfl, trivial, rfl, rfl, trivial, trivial⟩
  ·refine sn <| sj <| sj <| sn ?_
   refine Br.of h (fun ht h => ?_) fun ht h => ?_
   ·refine sj <| sn ?_
    replace h := oi h
    replace h := hr1 _ h.symm
    refine RetE.plain ?_
    subst h; exact ai rfl (ai rfl rfl)
   ·refine sn <| sj <| sn ?_
    replace h := oi h
    replace h := hr1 _ h.symm
    refine RetE.plain ?_
    subst h; exact ai rfl (ai rfl rfl)
theorem number_ReadDec_1_ok (E : Pm.Env) [LaidB E] (a0 : Int) (r : Int) (h : number_ReadDec_1 a0 = some r) : FnR E Tryz.prog 124 [AV.int .u8 a0] (AV.int .u64 r) false := by
 refine FnR.of_ev (T := T) (rows := []) tOk mixed Tryz.func124 rfl (by kernel_rfl) (by kernel_rfl) rfl fun hwf => ?_
 unfold number_ReadDec_1 at h
 refine sj <| sn <| sj <| sn ?_
 replace h := oi h
 refine RetE.plain ?_
 subst h; exact ai rfl (ai rfl rfl)
theorem number_ReadDec_ok (E : Pm.Env) [LaidB E] (a0 : Bytes) (r : (Int × Int)) (h : number_ReadDec a0 = some r) : FnR E Tryz.prog 103 [ss a0] (AV.tup [AV.int .u64 r.1, ii r.2]) false := by
 refine FnR.of_ev (T := T) (rows := []) tOk mixed Tryz.func103 rfl (by kernel_rfl) (by kernel_rfl) rfl fun hwf => ?_
 unfold number_ReadDec at h
 refine sj <| sn <| sj <| bind_elim h fun x1 hx1 h => CallH.data _ false rfl (number_read_uint64_ok E a0 (10 : Int) 124 [] (fun x0 => number_ReadDec_1 x0) (fun x0 r h => number_ReadDec_1_ok E x0 r h) rfl x1 hx1) <| sn ?_
 replace h := oi h
 refine RetE.plain ?_
 subst h; exact ai rfl (ai rfl rfl)
theorem frame_say_ok (E : Pm.Env) [LaidB E] (a0 : Int) (a1 : (List S_Field)) (a2 : S_Body) (r : (S_Body × Int)) (h : frame_say a0 a1 a2 = some r) : FnR E Tryz.prog 120 [ii a0, AV.list 2 (a1.map S_Field.av), S_Body.av a2] (AV.tup [S_Body.av r.1, ii r.2]) false := by
 refine FnR.of_ev (T := T) (rows := []) tOk mixed Tryz.func120 rfl (by kernel_rfl) (by kernel_rfl) rfl fun hwf => ?_
 unfold frame_say at h
 refine sj <| ai rfl <| ai rfl <| sn <| sj <| bind_elim h fun x1 hx1 h => CallH.data _ true rfl (table_All_ok E a1 ([67, 111, 110, 116, 101, 110, 116, 45, 76, 101, 110, 103, 116, 104] : Bytes) x1 hx1) <| sn <| sj <| sj <| bind_elim h fun x2 hx2 h => CallH.data _ false rfl (table_Joined_ok E a1 ([84, 114, 97, 110, 115, 102, 101, 114, 45, 69, 110, 99, 111, 100, 105, 110, 103] : Bytes) x2 hx2) <| sn <| sj <| sn ?_
 refine Br.of h (fun ht h => ?_) fun ht h => ?_
 ·refine sj <| sj <| NormE.to (ii (x1.length : Int)) (fun _ => len_list ss x1) <| ai id <| ai (fun hg => (and_r hg)) <| bind_elim h fun x3 hx3 h => ai id <| ai rfl ?_
  refine CallF.mk _ false (fun hg => text_Same_ok E x2.1 ([99, 104, 117, 110, 107, 101, 100] : Bytes) x3 (gcall_some hx3 hg)) (ai rfl ?_)
  refine ai id <| ai (fun hg => (and_r hg)) ?_
  refine SeqN.via (St.of [⟨6, AV.ptr 1 0, none⟩, ⟨37, bb (bif (bif (decide ((x1.length : Int) > (0 : Int))) then true else (a0 == (0 : Int))) then true else (!x3)), none⟩] [.dead, .cells 35 [ii 0, ii 0] []] []) ?_ ?_
  ·refine Gho.to _ _ _ [] ?_ ?_ ?_ rfl rfl ?_
   ·exact ⟨trivial, ⟨⟨rfl, rfl, rfl⟩, trivial⟩⟩
   ·exact rfl
   ·exact rfl
   ·exact tr3 <| tr3 <| trivial
  refine Br.of h (fun ht h => ?_) fun ht h => ?_
  ·refine sj ?_
   refine xi none (ai trivial ?_)
   refine ai ⟨rfl, rfl, rfl, lb rfl⟩ (xi [ii 0, ii 0] (ai (fun _ => rfl) ?_))
   refine sn ?_
   replace h := oi h
   refine RetE.plain ?_
   refine ai ⟨lb rfl, lb rfl⟩ (xi (AV.agg [ii 0, ii 0]) (ai rfl ?_))
   subst h; exact ai rfl (ai rfl rfl)
  ·refine sn <| sj <| ai ⟨rfl, rfl, lb rfl⟩ ?_
   refine xi none (ai trivial ?_)
   refine ai ⟨rfl, rfl, rfl, lb rfl⟩ (xi [ii 2, ii 0] (ai (fun _ => rfl) ?_))
   refine sn ?_
   replace h := oi h
   refine RetE.plain ?_
   refine ai ⟨lb rfl, lb rfl⟩ (xi (AV.agg [ii 2, ii 0]) (ai rfl ?_))
   subst h; exact ai rfl (ai rfl rfl)
 ·refine sn <| sj <| ai ⟨lb rfl, lb rfl⟩ <| NormE.to (S_Body.av a2) (fun _ => rfl) <| ai rfl ?_
  refine ai ⟨rfl, rfl, rfl, lb rfl⟩ (xi (S_Body.cells a2) (ai (fun _ => rfl) ?_))
  refine SeqN.via (St.of [⟨6, AV.ptr 1 0, none⟩, ⟨8, AV.list 1 (x1.map AV.str), some 0⟩, ⟨11, AV.ptr 2 0, none⟩, ⟨12, bb false, none⟩] [.dead, .cells 35 [ii 0, ii 0] [], .cells 35 (S_Body.cells a2) []] [1]) ?_ ?_
  ·refine Gho.to _ _ _ [0] ?_ ?_ ?_ rfl rfl ?_
   ·exact ⟨trivial, ⟨⟨rfl, rfl, rfl⟩, ⟨⟨rfl, rfl, rfl⟩, trivial⟩⟩⟩
   ·exact rfl
   ·exact rfl
   ·exact ⟨rfl, rfl, trivial, rfl, rfl, ⟨rfl, rfl, rfl⟩, rfl, rfl, trivial, rfl, rfl, trivial, trivial⟩
  refine sj <| sj <| NormE.to (ii (x1.length : Int)) (fun _ => len_list ss x1) <| sn ?_
  refine LoopE.img (fun x : (Bool × Int × S_Body) => St.of [⟨6, AV.ptr 1 0, none⟩, ⟨11, AV.ptr 2 0, none⟩, ⟨12, bb x.1, none⟩, ⟨41, AV.list 1 (x1.map AV.str), some 0⟩, ⟨42, ii (x1.length : Int), none⟩, ⟨43, ii x.2.1, none⟩] [.dead, .cells 35 [ii 0, ii 0] [], .cells 35 (S_Body.cells x.2.2) []] [1]) (frame_say_b1 x1) (false, (0 : Int), a2) h ?_ ?_
  ·refine Gho.to _ _ _ [0] ?_ ?_ ?_ rfl rfl ?_
   ·exact ⟨trivial, ⟨⟨rfl, rfl, rfl⟩, ⟨⟨rfl, rfl, rfl⟩, trivial⟩⟩⟩
   ·exact rfl
   ·exact rfl
   ·exact ⟨rfl, rfl, trivial, rfl, rfl, trivial, rfl, rfl, trivial, rfl, rfl, ⟨rfl, rfl, rfl⟩, rfl, rfl, trivial, rfl, rfl, trivial, trivial⟩
  intro n1 x y1 h hl1 hr1
  obtain ⟨s4, s5, s6⟩ := x
  unfold frame_say_b1 at h
  dsimp only at h
  refine sj <| sn <| sj ?_
  refine Br.of h (fun ht h => ?_) fun ht h => ?_
  ·refine sn <| sj <| sj <| bind_elim h fun x7 hx7 h => ?_
   refine ai rfl (xi (ss x7) (ai (fun hg => idx_map _ hx7) ?_))
   refine sn <| sj <| bind_elim h fun x8 hx8 h => CallH.data _ false rfl (number_ReadDec_ok E x7 x8 hx8) <| sn <| sj <| ai ⟨rfl, rfl, lb rfl⟩ <| ai ⟨rfl, rfl, lb rfl⟩ ?_
   refine xi none (ai trivial ?_)
   refine ai rfl ?_
   refine ai ⟨rfl, rfl, rfl, lb rfl⟩ (xi [ii 1, ii (IntKind.i64.wrap x8.1)] (ai (fun _ => rfl) ?_))
   refine SeqN.via (St.of [⟨6, AV.ptr 1 0, none⟩, ⟨11, AV.ptr 2 0, none⟩, ⟨13, ii s5, none⟩, ⟨16, ii x8.2, none⟩, ⟨17, AV.ptr 3 0, none⟩, ⟨41, AV.list 1 (x1.map AV.str), some 0⟩, ⟨42, ii (x1.length : Int), none⟩, ⟨43, ii s5, none⟩] [.dead, .cells 35 [ii 0, ii 0] [], .cells 35 (S_Body.cells s6) [], .cells 35 [ii 1, ii (IntKind.i64.wrap x8.1)] []] [1]) ?_ ?_
   ·refine Gho.to _ _ _ [0] ?_ ?_ ?_ rfl rfl ?_
    ·exact ⟨trivial, ⟨⟨rfl, rfl, rfl⟩, ⟨⟨rfl, rfl, rfl⟩, ⟨⟨rfl, rfl, rfl⟩, trivial⟩⟩⟩⟩
    ·exact rfl
    ·exact rfl
    ·exact ⟨rfl, rfl, trivial, rfl, rfl, trivial, rfl, rfl, trivial, rfl, rfl, trivial, rfl, rfl, trivial, rfl, rfl, ⟨rfl, rfl, rfl⟩, rfl, rfl, trivial, rfl, rfl, trivial, trivial⟩
   refine sj <| sj <| sn ?_
   refine Br.of h (fun ht h => ?_) fun ht h => ?_
   ·refine ai ⟨rfl, rfl, rfl, lb rfl⟩ (xi [ii 1, ii (-1 : Int)] (ai (fun _ => rfl) ?_))
    refine sn <| sj <| sj <| ai id <| ai id <| ai ⟨lb rfl, lb rfl⟩ <| NormE.to (AV.agg [ii 1, ii (-1 : Int)]) (fun _ => rfl) <| ai ⟨lb rfl, lb rfl⟩ <| NormE.to (S_Body.av s6) (fun _ => rfl) <| ai id <| ai id <| ai rfl <| ai id <| ai id <| ai (fun hg => (and_r hg)) <| sn ?_
    refine Br.of h (fun ht h => ?_) fun ht h => ?_
    ·refine sj ?_
     refine xi none (ai trivial ?_)
     refine ai ⟨rfl, rfl, rfl, lb rfl⟩ (xi [ii 0, ii 0] (ai (fun _ => rfl) ?_))
     refine SeqN.via (St.of [⟨6, AV.ptr 1 0, none⟩, ⟨7, ii 32, none⟩] [.dead, .cells 35 [ii 0, ii 0] []] []) ?_ ?_
     ·refine Gho.to _ _ _ [] ?_ ?_ ?_ rfl rfl ?_
      ·exact ⟨trivial, ⟨⟨rfl, rfl, rfl⟩, trivial⟩⟩
      ·exact rfl
      ·exact rfl
      ·exact tr3 <| tr3 <| trivial
     replace h := oi h
     replace h := hr1 _ h.symm
     refine RetE.plain ?_
     refine ai ⟨lb rfl, lb rfl⟩ (xi (AV.agg [ii 0, ii 0]) (ai rfl ?_))
     subst h; exact ai rfl (ai rfl rfl)
    ·refine sn <| ai ⟨lb rfl, lb rfl⟩ <| NormE.to (AV.agg [ii 1, ii (-1 : Int)]) (fun _ => rfl) <| ai id <| ai id <| ai (fun hg => (and_r hg)) ?_
     refine ai ⟨rfl, rfl, rfl, lb rfl⟩ (xi [ii 1, ii (-1 : Int)] (ai (fun _ => rfl) ?_))
     refine ai (by kernel_rfl) ?_
     refine SeqN.via (St.of [⟨6, AV.ptr 1 0, none⟩, ⟨11, AV.ptr 2 0, none⟩, ⟨12, bb (bif (decide ((-1 : Int) < (0 : Int))) then true else (decide ((-1 : Int) > (20000 : Int)))), none⟩, ⟨41, AV.list 1 (x1.map AV.str), some 0⟩, ⟨42, ii (x1.length : Int), none⟩, ⟨43, ii s5, none⟩] [.dead, .cells 35 [ii 0, ii 0] [], .cells 35 [ii 1, ii (-1 : Int)] []] [1]) ?_ ?_
     ·refine Gho.to _ _ _ [0] ?_ ?_ ?_ rfl rfl ?_
      ·exact ⟨trivial, ⟨⟨rfl, rfl, rfl⟩, ⟨⟨rfl, rfl, rfl⟩, trivial⟩⟩⟩
      ·exact rfl
      ·exact rfl
      ·exact ⟨rfl, rfl, trivial, rfl, rfl, trivial, rfl, rfl, trivial, rfl, rfl, ⟨rfl, rfl, rfl⟩, rfl, rfl, trivial, rfl, rfl, trivial, trivial⟩
     replace h := oi h
     refine xi ⟨(n1, ((bif (decide ((-1 : Int) < (0 : Int))) then true else (decide ((-1 : Int) > (20000 : Int)))), (IntKind.i64.wrap (s5 + (1 : Int))), (S_Body.mk (1 : Int) (-1 : Int)))), hl1 _ h.symm⟩ (ai (Nat.lt_succ_self _) ?_)
     refine Gho.to _ _ _ [0] ?_ ?_ ?_ rfl rfl ?_
     ·exact ⟨trivial, ⟨⟨rfl, rfl, rfl⟩, ⟨⟨rfl, rfl, rfl⟩, trivial⟩⟩⟩
     ·exact rfl
     ·exact rfl
     ·exact ⟨rfl, rfl, trivial, rfl, rfl, trivial, rfl, rfl, trivial, rfl, rfl, ⟨rfl, rfl, rfl⟩, rfl, rfl, trivial, rfl, rfl, trivial, trivial⟩
   ·refine sn <| sj <| sj <| ai id <| ai id <| ai ⟨lb rfl, lb rfl⟩ <| NormE.to (AV.agg [ii 1, ii (IntKind.i64.wrap x8.1)]) (fun _ => rfl) <| ai ⟨lb rfl, lb rfl⟩ <| NormE.to (S_Body.av s6) (fun _ => rfl) <| ai id <| ai id <| ai rfl <| ai id <| ai id <| ai (fun hg => (and_r hg)) <| sn ?_
    refine Br.of h (fun ht h => ?_) fun ht h => ?_
    ·refine sj ?_
     refine xi none (ai trivial ?_)
     refine ai ⟨rfl, rfl, rfl, lb rfl⟩ (xi [ii 0, ii 0] (ai (fun _ => rfl) ?_))
     refine SeqN.via (St.of [⟨6, AV.ptr 1 0, none⟩, ⟨7, ii 32, none⟩] [.dead, .cells 35 [ii 0, ii 0] []] []) ?_ ?_
     ·refine Gho.to _ _ _ [] ?_ ?_ ?_ rfl rfl ?_
      ·exact ⟨trivial, ⟨⟨rfl, rfl, rfl⟩, trivial⟩⟩
      ·exact rfl
      ·exact rfl
      ·exact tr3 <| tr3 <| trivial
     replace h := oi h
     replace h := hr1 _ h.symm
     refine RetE.plain ?_
     refine ai ⟨lb rfl, lb rfl⟩ (xi (AV.agg [ii 0, ii 0]) (ai rfl ?_))
     subst h; exact ai rfl (ai rfl rfl)
    ·refine sn <| ai ⟨lb rfl, lb rfl⟩ <| NormE.to (AV.agg [ii 1, ii (IntKind.i64.wrap x8.1)]) (fun _ => rfl) <| ai id <| ai id <| ai (fun hg => (and_r hg)) ?_
     refine ai ⟨rfl, rfl, rfl, lb rfl⟩ (xi [ii 1, ii (IntKind.i64.wrap x8.1)] (ai (fun _ => rfl) ?_))
     refine ai (by kernel_rfl) ?_
     refine SeqN.via (St.of [⟨6, AV.ptr 1 0, none⟩, ⟨11, AV.ptr 2 0, none⟩, ⟨12, bb (bif (decide ((IntKind.i64.wrap x8.1) < (0 : Int))) then true else (decide ((IntKind.i64.wrap x8.1) > (20000 : Int)))), none⟩, ⟨41, AV.list 1 (x1.map AV.str), some 0⟩, ⟨42, ii (x1.length : Int), none⟩, ⟨43, ii s5, none⟩] [.dead, .cells 35 [ii 0, ii 0] [], .cells 35 [ii 1, ii (IntKind.i64.wrap x8.1)] []] [1]) ?_ ?_
     ·refine Gho.to _ _ _ [0] ?_ ?_ ?_ rfl rfl ?_
      ·exact ⟨trivial, ⟨⟨rfl, rfl, rfl⟩, ⟨⟨rfl, rfl, rfl⟩, trivial⟩⟩⟩
      ·exact rfl
      ·exact rfl
      ·exact ⟨rfl, rfl, trivial, rfl, rfl, trivial, rfl, rfl, trivial, rfl, rfl, ⟨rfl, rfl, rfl⟩, rfl, rfl, trivial, rfl, rfl, trivial, trivial⟩
     replace h := oi h
     refine xi ⟨(n1, ((bif (decide ((IntKind.i64.wrap x8.1) < (0 : Int))) then true else (decide ((IntKind.i64.wrap x8.1) > (20000 : Int)))), (IntKind.i64.wrap (s5 + (1 : Int))), (S_Body.mk (1 : Int) (IntKind.i64.wrap x8.1)))), hl1 _ h.symm⟩ (ai (Nat.lt_succ_self _) ?_)
     refine Gho.to _ _ _ [0] ?_ ?_ ?_ rfl rfl ?_
     ·exact ⟨trivial, ⟨⟨rfl, rfl, rfl⟩, ⟨⟨rfl, rfl, rfl⟩, trivial⟩⟩⟩
     ·exact rfl
     ·exact rfl
     ·exact ⟨rfl, rfl, trivial, rfl, rfl, trivial, rfl, rfl, trivial, rfl, rfl, ⟨rfl, rfl, rfl⟩, rfl, rfl, trivial, rfl, rfl, trivial, trivial⟩
  ·refine sn <| sj <| sj <| sn ?_
   refine Br.of h (fun ht h => ?_) fun ht h => ?_
   ·refine sj ?_
    refine xi none (ai trivial ?_)
    refine ai ⟨rfl, rfl, rfl, lb rfl⟩ (xi [ii 0, ii 0] (ai (fun _ => rfl) ?_))
    refine sn ?_
    replace h := oi h
    replace h := hr1 _ h.symm
    refine RetE.plain ?_
    refine ai ⟨lb rfl, lb rfl⟩ (xi (AV.agg [ii 0, ii 0]) (ai rfl ?_))
    subst h; exact ai rfl (ai rfl rfl)
   ·refine sn <| sj <| ai ⟨lb rfl, lb rfl⟩ <| NormE.to (S_Body.av s6) (fun _ => rfl) ?_
    refine ai ⟨rfl, rfl, rfl, lb rfl⟩ (xi (S_Body.cells s6) (ai (fun _ => rfl) ?_))
    refine sn ?_
    replace h := oi h
    replace h := hr1 _ h.symm
    refine RetE.plain ?_
    refine ai ⟨lb rfl, lb rfl⟩ (xi (S_Body.av s6) (ai rfl ?_))
    subst h; exact ai rfl (ai rfl rfl)
theorem frame_Request_ok (E : Pm.Env) [LaidB E] (a0 : S_Start) (a1 : (List S_Field)) (r : (S_Body × Int)) (h : frame_Request a0 a1 = some r) : FnR E Tryz.prog 95 [S_Start.av a0, AV.list 2 (a1.map S_Field.av)] (AV.tup [S_Body.av r.1, ii r.2]) false := by
 refine FnR.of_ev (T := T) (rows := []) tOk mixed Tryz.func95 rfl (by kernel_rfl) (by kernel_rfl) rfl fun hwf => ?_
 unfold frame_Request at h
 refine sj <| ai rfl <| ai rfl <| sn <| sj <| sj <| ai ⟨lb rfl, lb rfl⟩ <| NormE.to (S_Start.av a0) (fun _ => rfl) <| bind_elim h fun x1 hx1 h => CallH.data _ false rfl (start_Right_ok E a0 x1 hx1) <| ai id <| ai id <| ai (fun hg => (and_r hg)) <| bind_elim h fun x2 hx2 h => ai id <| ai rfl ?_
 refine CallF.mk _ false (fun hg => table_Right_ok E a1 x2 (gcall_some hx2 hg)) (ai rfl ?_)
 refine ai id <| ai (fun hg => (and_r hg)) ?_
 refine SeqN.via (St.of [⟨1, AV.list 2 (a1.map S_Field.av), none⟩, ⟨2, AV.ptr 0 0, none⟩, ⟨4, AV.ptr 1 0, none⟩, ⟨18, bb (bif (bif (!x1) then true else (a0.Code != (0 : Int))) then true else (!x2)), none⟩] [.cells 23 (S_Start.cells a0) [], .cells 35 [ii 0, ii 0] []] []) ?_ ?_
 ·refine Gho.to _ _ _ [] ?_ ?_ ?_ rfl rfl ?_
  ·exact ⟨⟨rfl, rfl, rfl⟩, ⟨⟨rfl, rfl, rfl⟩, trivial⟩⟩
  ·exact rfl
  ·exact rfl
  ·exact tr3 <| tr3 <| tr3 <| tr3 <| trivial
 refine Br.of h (fun ht h => ?_) fun ht h => ?_
 ·refine sj ?_
  refine xi none (ai trivial ?_)
  refine ai ⟨rfl, rfl, rfl, lb rfl⟩ (xi [ii 0, ii 0] (ai (fun _ => rfl) ?_))
  refine sn ?_
  replace h := oi h
  refine RetE.plain ?_
  refine ai ⟨lb rfl, lb rfl⟩ (xi (AV.agg [ii 0, ii 0]) (ai rfl ?_))
  subst h; exact ai rfl (ai rfl rfl)
 ·refine sn <| sj ?_
  refine xi none (ai trivial ?_)
  refine bind_elim h fun x3 hx3 h => CallH.data _ false rfl (frame_say_ok E a0.Minor a1 (S_Body.mk (0 : Int) (0 : Int)) x3 hx3) ?_
  refine ai ⟨rfl, rfl, rfl, lb rfl⟩ (xi (S_Body.cells x3.1) (ai (fun _ => rfl) ?_))
  refine sn ?_
  replace h := oi h
  refine RetE.plain ?_
  refine ai ⟨lb rfl, lb rfl⟩ (xi (S_Body.av x3.1) (ai rfl ?_))
  subst h; exact ai rfl (ai rfl rfl)
theorem frame_Answer_ok (E : Pm.Env) [LaidB E] (a0 : S_Start) (a1 : (List S_Field)) (a2 : Bytes) (r : (S_Body × Int)) (h : frame_Answer a0 a1 a2 = some r) : FnR E Tryz.prog 96 [S_Start.av a0, AV.list 2 (a1.map S_Field.av), ss a2] (AV.tup [S_Body.av r.1, ii r.2]) false := by
 refine FnR.of_ev (T := T) (rows := []) tOk mixed Tryz.func96 rfl (by kernel_rfl) (by kernel_rfl) rfl fun hwf => ?_
 unfold frame_Answer at h
 refine sj <| ai rfl <| ai rfl <| sn <| sj <| sj <| ai ⟨lb rfl, lb rfl⟩ <| NormE.to (S_Start.av a0) (fun _ => rfl) <| bind_elim h fun x1 hx1 h => CallH.data _ false rfl (start_Right_ok E a0 x1 hx1) <| ai id <| ai id <| ai (fun hg => (and_r hg)) <| bind_elim h fun x2 hx2 h => ai id <| ai rfl ?_
 refine CallF.mk _ false (fun hg => table_Right_ok E a1 x2 (gcall_some hx2 hg)) (ai rfl ?_)
 refine ai id <| ai (fun hg => (and_r hg)) ?_
 refine SeqN.via (St.of [⟨1, AV.list 2 (a1.map S_Field.av), none⟩, ⟨2, ss a2, none⟩, ⟨3, AV.ptr 0 0, none⟩, ⟨6, AV.ptr 1 0, none⟩, ⟨8, bb (bif (bif (!x1) then true else (a0.Code == (0 : Int))) then true else (!x2)), none⟩] [.cells 23 (S_Start.cells a0) [], .cells 35 [ii 0, ii 0] []] []) ?_ ?_
 ·refine Gho.to _ _ _ [] ?_ ?_ ?_ rfl rfl ?_
  ·exact ⟨⟨rfl, rfl, rfl⟩, ⟨⟨rfl, rfl, rfl⟩, trivial⟩⟩
  ·exact rfl
  ·exact rfl
  ·exact tr3 <| tr3 <| tr3 <| tr3 <| tr3 <| trivial
 refine Br.of h (fun ht h => ?_) fun ht h => ?_
 ·refine sj ?_
  refine xi none (ai trivial ?_)
  refine ai ⟨rfl, rfl, rfl, lb rfl⟩ (xi [ii 0, ii 0] (ai (fun _ => rfl) ?_))
  refine sn ?_
  replace h := oi h
  refine RetE.plain ?_
  refine ai ⟨lb rfl, lb rfl⟩ (xi (AV.agg [ii 0, ii 0]) (ai rfl ?_))
  subst h; exact ai rfl (ai rfl rfl)
 ·refine sj <| ai id <| ai id <| ai (fun hg => (and_r hg)) <| ai id <| ai id <| ai (fun hg => (and_r hg)) <| ai id <| ai (fun hg => (and_r hg)) ?_
  refine SeqN.via (St.of [⟨1, AV.list 2 (a1.map S_Field.av), none⟩, ⟨3, AV.ptr 0 0, none⟩, ⟨6, AV.ptr 1 0, none⟩, ⟨23, bb (bif (bif (bif (decide (a0.Code < (200 : Int))) then true else (a0.Code == (204 : Int))) then true else (a0.Code == (304 : Int))) then true else (a2 == ([72, 69, 65, 68] : Bytes))), none⟩] [.cells 23 (S_Start.cells a0) [], .cells 35 [ii 0, ii 0] []] []) ?_ ?_
  ·refine Gho.to _ _ _ [] ?_ ?_ ?_ rfl rfl ?_
   ·exact ⟨⟨rfl, rfl, rfl⟩, ⟨⟨rfl, rfl, rfl⟩, trivial⟩⟩
   ·exact rfl
   ·exact rfl
   ·exact tr3 <| tr3 <| tr3 <| tr3 <| trivial
  refine Br.of h (fun ht h => ?_) fun ht h => ?_
  ·refine sj ?_
   refine xi none (ai trivial ?_)
   refine ai ⟨rfl, rfl, rfl, lb rfl⟩ (xi [ii 0, ii 0] (ai (fun _ => rfl) ?_))
   refine sn ?_
   replace h := oi h
   refine RetE.plain ?_
   refine ai ⟨lb rfl, lb rfl⟩ (xi (AV.agg [ii 0, ii 0]) (ai rfl ?_))
   subst h; exact ai rfl (ai rfl rfl)
  ·refine sn <| sj <| ai ⟨rfl, rfl, lb rfl⟩ ?_
   refine xi none (ai trivial ?_)
   refine bind_elim h fun x3 hx3 h => CallH.data _ false rfl (frame_say_ok E a0.Minor a1 (S_Body.mk (3 : Int) (0 : Int)) x3 hx3) ?_
   refine ai ⟨rfl, rfl, rfl, lb rfl⟩ (xi (S_Body.cells x3.1) (ai (fun _ => rfl) ?_))
   refine sn ?_
   replace h := oi h
   refine RetE.plain ?_
   refine ai ⟨lb rfl, lb rfl⟩ (xi (S_Body.av x3.1) (ai rfl ?_))
   subst h; exact ai rfl (ai rfl rfl)
theorem wire_body_ok (E : Pm.Env) [LaidB E] (a0 : S_Reader) (r : (S_Body × Int)) (h : wire_body a0 = some r) : FnR E Tryz.prog 61 [S_Reader.av a0] (AV.tup [S_Body.av r.1, ii r.2]) false := by
 refine FnR.of_ev (T := T) (rows := []) tOk mixed Tryz.func61 rfl (by kernel_rfl) (by kernel_rfl) rfl fun hwf => ?_
 unfold wire_body at h
 refine sj <| ai rfl <| ai rfl <| sn <| sj <| sj <| sn ?_
 refine Br.of h (fun ht h => ?_) fun ht h => ?_
 ·refine sj <| ai ⟨lb rfl, lb rfl⟩ <| NormE.to (S_Start.av a0.Head.Start) (fun _ => rfl) <| bind_elim h fun x1 hx1 h => CallH.data _ false rfl (frame_Request_ok E a0.Head.Start a0.Head.Fields x1 hx1) ?_
  refine ai ⟨rfl, rfl, rfl, lb rfl⟩ (xi (S_Body.cells x1.1) (ai (fun _ => rfl) ?_))
  refine SeqN.via (St.of [⟨2, AV.ptr 1 0, none⟩, ⟨3, ii x1.2, none⟩] [.dead, .cells 35 (S_Body.cells x1.1) []] []) ?_ ?_
  ·refine Gho.to _ _ _ [] ?_ ?_ ?_ rfl rfl ?_
   ·exact ⟨trivial, ⟨⟨rfl, rfl, rfl⟩, trivial⟩⟩
   ·exact rfl
   ·exact rfl
   ·exact tr3 <| tr3 <| trivial
  replace h := oi h
  refine RetE.plain ?_
  refine ai ⟨lb rfl, lb rfl⟩ (xi (S_Body.av x1.1) (ai rfl ?_))
  subst h; exact ai rfl (ai rfl rfl)
 ·refine sn <| sj <| ai ⟨lb rfl, lb rfl⟩ <| NormE.to (S_Start.av a0.Head.Start) (fun _ => rfl) <| bind_elim h fun x2 hx2 h => CallH.data _ false rfl (frame_Answer_ok E a0.Head.Start a0.Head.Fields a0.Method x2 hx2) ?_
  refine ai ⟨rfl, rfl, rfl, lb rfl⟩ (xi (S_Body.cells x2.1) (ai (fun _ => rfl) ?_))
  refine SeqN.via (St.of [⟨2, AV.ptr 1 0, none⟩, ⟨3, ii x2.2, none⟩] [.dead, .cells 35 (S_Body.cells x2.1) []] []) ?_ ?_
  ·refine Gho.to _ _ _ [] ?_ ?_ ?_ rfl rfl ?_
   ·exact ⟨trivial, ⟨⟨rfl, rfl, rfl⟩, trivial⟩⟩
   ·exact rfl
   ·exact rfl
   ·exact tr3 <| tr3 <| trivial
  replace h := oi h
  refine RetE.plain ?_
  refine ai ⟨lb rfl, lb rfl⟩ (xi (S_Body.av x2.1) (ai rfl ?_))
  subst h; exact ai rfl (ai rfl rfl)
theorem strings_Contains_ok (E : Pm.Env) [LaidB E] (a0 : Bytes) (a1 : Bytes) (r : Bool) (h : strings_Contains a0 a1 = some r) : FnR E Tryz.prog 97 [ss a0, ss a1] (bb r) false := by
 refine FnR.of_ev (T := T) (rows := []) tOk mixed Tryz.func97 rfl (by kernel_rfl) (by kernel_rfl) rfl fun hwf => ?_
 unfold strings_Contains at h
 refine sj <| sn <| sj <| bind_elim h fun x1 hx1 h => CallH.data _ false rfl (strings_Index_ok E a0 a1 x1 hx1) <| sn ?_
 replace h := oi h
 refine RetE.plain ?_
 subst h; exact ai rfl (ai rfl rfl)
theorem chunk_Right_ok (E : Pm.Env) [LaidB E] (a0 : S_Chunked) (r : Bool) (h : chunk_Right a0 = some r) : FnR E Tryz.prog 62 [S_Chunked.av a0] (bb r) false := by
 refine FnR.of_ev (T := T) (rows := []) tOk mixed Tryz.func62 rfl (by kernel_rfl) (by kernel_rfl) rfl fun hwf => ?_
 unfold chunk_Right at h
 refine sj <| ai rfl <| sn <| sj <| sj <| ai id <| ai id <| ai (fun hg => (and_r hg)) <| ai id <| ai id <| ai (fun hg => (and_r hg)) <| ai id <| ai id <| ai (fun hg => (and_r hg)) <| ai id <| ai id <| NormE.same <| ai id <| ai (fun hg => (and_r hg)) <| ai id <| bind_elim h fun x1 hx1 h => ai id <| ai rfl ?_
 refine CallF.mk _ false (fun hg => strings_Contains_ok E a0.Line ([10] : Bytes) x1 (gcall_some hx1 hg)) (ai rfl ?_)
 refine ai (fun hg => (and_r hg)) ?_
 refine SeqN.via (St.of [⟨1, AV.ptr 0 0, none⟩, ⟨31, bb (bif (bif (bif (bif (bif (decide (a0.Stage < (0 : Int))) then true else (decide (a0.Stage > (4 : Int)))) then true else (decide (a0.Size < (0 : Int)))) then true else (decide (a0.Size > (20000 : Int)))) then true else (decide ((a0.Line.length : Int) > (200 : Int)))) then true else x1), none⟩] [.cells 37 (S_Chunked.cells a0) []] []) ?_ ?_
 ·refine Gho.to _ _ _ [] ?_ ?_ ?_ rfl rfl ?_
  ·exact ⟨⟨rfl, rfl, rfl⟩, trivial⟩
  ·exact rfl
  ·exact rfl
  ·exact tr3 <| tr3 <| trivial
 refine Br.of h (fun ht h => ?_) fun ht h => ?_
 ·refine sj <| sn ?_
  replace h := oi h
  refine RetE.plain ?_
  subst h; exact ai rfl (ai rfl rfl)
 ·refine sn <| sj <| sj <| sn ?_
  refine Br.of h (fun ht h => ?_) fun ht h => ?_
  ·refine sj <| ai id <| ai id <| ai id <| ai id <| ai id <| ai (fun hg => (and_r hg)) <| ai id <| ai id <| ai (fun hg => (and_r hg)) ?_
   refine SeqN.via (St.of [⟨2, bb (bif (bif (decide (a0.Left ≥ (1 : Int))) then (decide (a0.Left ≤ (IntKind.i64.wrap ((20000 : Int) - a0.Size)))) else false) then (a0.Line == ([] : Bytes)) else false), none⟩] [] []) ?_ ?_
   ·refine Gho.to _ _ _ [] ?_ ?_ ?_ rfl rfl ?_
    ·exact trivial
    ·exact rfl
    ·exact rfl
    ·exact tr3 <| trivial
   replace h := oi h
   refine RetE.plain ?_
   subst h; exact ai rfl (ai rfl rfl)
  ·refine sn <| sj <| ai id <| ai id <| ai id <| ai id <| ai id <| ai id <| ai id <| ai (fun hg => (and_r hg)) ?_
   refine SeqN.via (St.of [⟨2, bb (bif (a0.Left == (0 : Int)) then (bif (a0.Stage != (4 : Int)) then true else (a0.Line == ([] : Bytes))) else false), none⟩] [] []) ?_ ?_
   ·refine Gho.to _ _ _ [] ?_ ?_ ?_ rfl rfl ?_
    ·exact trivial
    ·exact rfl
    ·exact rfl
    ·exact tr3 <| trivial
   replace h := oi h
   refine RetE.plain ?_
   subst h; exact ai rfl (ai rfl rfl)
theorem wire_Right_ok (E : Pm.Env) [LaidB E] (a0 : S_Reader) (r : Bool) (h : wire_Right a0 = some r) : FnR E Tryz.prog 32 [S_Reader.av a0] (bb r) false := by
 refine FnR.of_ev (T := T) (rows := []) tOk mixed Tryz.func32 rfl (by kernel_rfl) (by kernel_rfl) rfl fun hwf => ?_
 unfold wire_Right at h
 refine sj <| ai rfl <| sn <| sj <| sj <| sn ?_
 refine Br.of h (fun ht h => ?_) fun ht h => ?_
 ·refine sj <| ai ⟨lb rfl, lb rfl⟩ <| NormE.to (S_Reader.av a0) (fun _ => rfl) <| bind_elim h fun x1 hx1 h => CallH.data _ false rfl (wire_bare_ok E a0 x1 hx1) <| sn ?_
  replace h := oi h
  refine RetE.plain ?_
  subst h; exact ai rfl (ai rfl rfl)
 ·refine sn <| sj <| sj <| sn ?_
  refine Br.of h (fun ht h => ?_) fun ht h => ?_
  ·refine sj <| sn <| sj ?_
   refine ai ⟨rfl, rfl, rfl, lb rfl⟩ (xi [bb a0.Asks, ss a0.Method, ss [], bb a0.In, ss a0.Head.Start.Method, ss a0.Head.Start.Target, ii a0.Head.Start.Code, ss a0.Head.Start.Reason, ii a0.Head.Start.Minor, AV.list 2 (a0.Head.Fields.map S_Field.av), ss a0.Head.Body, ii a0.Body.Kind, ii a0.Body.Size, ii a0.Chunk.Stage, ss a0.Chunk.Line, ii a0.Chunk.Left, ii a0.Chunk.Size, ii a0.Bad] (ai (fun _ => rfl) ?_))
   refine sn <| sj <| ai ⟨lb rfl, lb rfl⟩ <| NormE.to (AV.agg [bb a0.Asks, ss a0.Method, ss [], bb a0.In, ss a0.Head.Start.Method, ss a0.Head.Start.Target, ii a0.Head.Start.Code, ss a0.Head.Start.Reason, ii a0.Head.Start.Minor, AV.list 2 (a0.Head.Fields.map S_Field.av), ss a0.Head.Body, ii a0.Body.Kind, ii a0.Body.Size, ii a0.Chunk.Stage, ss a0.Chunk.Line, ii a0.Chunk.Left, ii a0.Chunk.Size, ii a0.Bad]) (fun _ => rfl) <| bind_elim h fun x2 hx2 h => CallH.data _ false rfl (wire_bare_ok E (S_Reader.mk a0.Asks a0.Method ([] : Bytes) a0.In a0.Head a0.Body a0.Chunk a0.Bad) x2 hx2) <| ai id <| NormE.same <| ai id <| ai (fun hg => (and_r hg)) ?_
   refine SeqN.via (St.of [⟨2, bb (bif x2 then (decide ((a0.Buf.length : Int) ≤ (4000 : Int))) else false), none⟩] [] []) ?_ ?_
   ·refine Gho.to _ _ _ [] ?_ ?_ ?_ rfl rfl ?_
    ·exact trivial
    ·exact rfl
    ·exact rfl
    ·exact tr3 <| trivial
   replace h := oi h
   refine RetE.plain ?_
   subst h; exact ai rfl (ai rfl rfl)
  ·refine sn <| sj <| ai ⟨lb rfl, lb rfl⟩ <| NormE.to (S_Reader.av a0) (fun _ => rfl) <| bind_elim h fun x3 hx3 h => CallH.data _ false rfl (wire_body_ok E a0 x3 hx3) <| ai rfl ?_
   refine ai ⟨rfl, rfl, rfl, lb rfl⟩ (xi (S_Body.cells x3.1) (ai (fun _ => rfl) ?_))
   refine SeqN.via (St.of [⟨1, AV.ptr 0 0, none⟩, ⟨4, AV.ptr 1 0, none⟩, ⟨5, ii x3.2, none⟩] [.cells 39 (S_Reader.cells a0) [], .cells 35 (S_Body.cells x3.1) []] []) ?_ ?_
   ·refine Gho.to _ _ _ [] ?_ ?_ ?_ rfl rfl ?_
    ·exact ⟨⟨rfl, rfl, rfl⟩, ⟨⟨rfl, rfl, rfl⟩, trivial⟩⟩
    ·exact rfl
    ·exact rfl
    ·exact tr3 <| tr3 <| tr3 <| trivial
   refine sj <| NormE.same <| sn <| sj <| sj <| ai ⟨lb rfl, lb rfl⟩ <| NormE.to (S_Body.av x3.1) (fun _ => rfl) <| ai id <| ai ⟨lb rfl, lb rfl⟩ <| NormE.to (S_Body.av a0.Body) (fun _ => rfl) <| ai id <| ai id <| ai rfl <| ai (fun hg => (and_r hg)) <| ai id <| ai id <| ai (fun hg => (and_r hg)) <| ai id <| ai id <| ai id <| ai id <| ai ⟨lb rfl, lb rfl⟩ <| NormE.to (S_Chunked.av a0.Chunk) (fun _ => rfl) ?_
   refine xi none (ai trivial ?_)
   refine ai id <| ai id <| ai rfl <| ai id <| ai id <| ai (fun hg => (and_r hg)) ?_
   refine SeqN.via (St.of [⟨1, AV.ptr 0 0, none⟩, ⟨4, AV.ptr 1 0, none⟩, ⟨6, ii (a0.Head.Body.length : Int), none⟩, ⟨57, bb (bif (bif (bif (x3.2 != (0 : Int)) then true else (!((x3.1.Kind == a0.Body.Kind) && ((x3.1.Size == a0.Body.Size) && true)))) then true else (!(a0.Buf == ([] : Bytes)))) then true else (bif (x3.1.Kind != (2 : Int)) then (!((a0.Chunk.Stage == (0 : Int)) && ((a0.Chunk.Line == ([] : Bytes)) && ((a0.Chunk.Left == (0 : Int)) && ((a0.Chunk.Size == (0 : Int)) && true))))) else false)), none⟩] [.cells 39 (S_Reader.cells a0) [], .cells 35 (S_Body.cells x3.1) []] []) ?_ ?_
   ·refine Gho.to _ _ _ [] ?_ ?_ ?_ rfl rfl ?_
    ·exact ⟨⟨rfl, rfl, rfl⟩, ⟨⟨rfl, rfl, rfl⟩, trivial⟩⟩
    ·exact rfl
    ·exact rfl
    ·exact tr3 <| tr3 <| tr3 <| tr3 <| trivial
   refine Br.of h (fun ht h => ?_) fun ht h => ?_
   ·refine sj <| sn ?_
    replace h := oi h
    refine RetE.plain ?_
    subst h; exact ai rfl (ai rfl rfl)
   ·refine sn <| sj <| sj <| sn <| sj <| sn ?_
    refine Br.of h (fun ht h => ?_) fun ht h => ?_
    ·refine sj <| sn ?_
     replace h := oi h
     refine RetE.plain ?_
     subst h; exact ai rfl (ai rfl rfl)
    ·refine sj <| sn ?_
     refine Br.of h (fun ht h => ?_) fun ht h => ?_
     ·refine sj <| ai ⟨lb rfl, lb rfl⟩ <| NormE.to (S_Chunked.av a0.Chunk) (fun _ => rfl) <| bind_elim h fun x4 hx4 h => CallH.data _ false rfl (chunk_Right_ok E a0.Chunk x4 hx4) <| ai id <| ai id <| ai id <| ai (fun hg => (and_r hg)) <| ai id <| ai id <| ai id <| ai id <| ai (fun hg => (and_r hg)) ?_
      refine SeqN.via (St.of [⟨2, bb (bif (bif x4 then (a0.Chunk.Stage != (4 : Int)) else false) then (a0.Chunk.Size == (a0.Head.Body.length : Int)) else false), none⟩] [] []) ?_ ?_
      ·refine Gho.to _ _ _ [] ?_ ?_ ?_ rfl rfl ?_
       ·exact trivial
       ·exact rfl
       ·exact rfl
       ·exact tr3 <| trivial
      replace h := oi h
      refine RetE.plain ?_
      subst h; exact ai rfl (ai rfl rfl)
     ·refine sj <| sn ?_
      refine Br.of h (fun ht h => ?_) fun ht h => ?_
      ·refine sj <| sn ?_
       replace h := oi h
       refine RetE.plain ?_
       subst h; exact ai rfl (ai rfl rfl)
      ·refine sn <| sj <| sn ?_
       replace h := oi h
       refine RetE.plain ?_
       subst h; exact ai rfl (ai rfl rfl)
theorem wire_reading_whole_ok (E : Pm.Env) [LaidB E] (o0 : S_wire_reading) (r : Bool) (o0' : S_wire_reading) (h : wire_reading_whole o0 = some (r, o0')) : FnW E Tryz.prog 72 [AV.ptr 0 0] [.cells 69 (S_wire_reading.cells o0) [(18, 0)]] [1] (bb r) none [.cells 69 (S_wire_reading.cells o0') [(18, 1)]] [0, 1] := by
 refine FnW.of_evB (T := T) (rows := []) tOk mixed Tryz.func72 rfl (by kernel_rfl) (by kernel_rfl) rfl rfl fun hwf => ?_
 unfold wire_reading_whole at h
 refine sj <| sn <| sj <| ai ⟨lb rfl, lb rfl⟩ <| NormE.to (AV.agg [ss o0.Reader.Head.Start.Method, ss o0.Reader.Head.Start.Target, ii o0.Reader.Head.Start.Code, ss o0.Reader.Head.Start.Reason, ii o0.Reader.Head.Start.Minor, AV.list 2 (o0.Reader.Head.Fields.map S_Field.av), ss o0.Reader.Head.Body]) (fun _ => rfl) <| ai ⟨rfl, rfl, rfl, rfl⟩ <| ai ⟨rfl, rfl, rfl⟩ <| NormE.to (AV.list 7 (([o0.Reader.Head] : List S_Message).map S_Message.av)) (fun _ => rfl) <| bind_elim h fun x1 hx1 h => ?_
 have qx1 := (app_some hx1).1
 have hx1e := (app_some hx1).2
 refine ai ⟨rfl, rfl, rfl⟩ <| ai rfl <| ai (app_cond S_Message.av qx1) <| NormE.to (AV.list 7 (x1.map S_Message.av)) (fun _ => (app_list 7 S_Message.av _ _).trans (congrArg (fun y => AV.list 7 (List.map S_Message.av y)) hx1e.symm)) ?_
 refine ai ⟨rfl, rfl, rfl, lb rfl⟩ (xi [bb o0.Reader.Asks, ss o0.Reader.Method, ss o0.Reader.Buf, bb o0.Reader.In, ss o0.Reader.Head.Start.Method, ss o0.Reader.Head.Start.Target, ii o0.Reader.Head.Start.Code, ss o0.Reader.Head.Start.Reason, ii o0.Reader.Head.Start.Minor, AV.list 2 (o0.Reader.Head.Fields.map S_Field.av), ss o0.Reader.Head.Body, ii o0.Reader.Body.Kind, ii o0.Reader.Body.Size, ii o0.Reader.Chunk.Stage, ss o0.Reader.Chunk.Line, ii o0.Reader.Chunk.Left, ii o0.Reader.Chunk.Size, ii o0.Reader.Bad, AV.list 7 (x1.map S_Message.av)] (ai (fun _ => rfl) ?_))
 refine ai (by kernel_rfl) ?_
 refine SeqN.via (St.of [⟨0, AV.ptr 0 0, none⟩] [.cells 69 [bb o0.Reader.Asks, ss o0.Reader.Method, ss o0.Reader.Buf, bb o0.Reader.In, ss o0.Reader.Head.Start.Method, ss o0.Reader.Head.Start.Target, ii o0.Reader.Head.Start.Code, ss o0.Reader.Head.Start.Reason, ii o0.Reader.Head.Start.Minor, AV.list 2 (o0.Reader.Head.Fields.map S_Field.av), ss o0.Reader.Head.Body, ii o0.Reader.Body.Kind, ii o0.Reader.Body.Size, ii o0.Reader.Chunk.Stage, ss o0.Reader.Chunk.Line, ii o0.Reader.Chunk.Left, ii o0.Reader.Chunk.Size, ii o0.Reader.Bad, AV.list 7 (x1.map S_Message.av)] [(18, 1)]] [0, 1]) ?_ ?_
 ·refine Gho.to _ _ _ [0, 2] ?_ ?_ ?_ rfl rfl ?_
  ·exact ⟨⟨rfl, rfl, rfl⟩, trivial⟩
  ·exact rfl
  ·exact rfl
  ·exact tr3 <| trivial
 refine sj ?_
 refine xi (some 127) (ai (okM.mk (show (127 : Nat) = freeM T _ _ _ from by kernel_rfl)) ?_)
 refine xi none (ai trivial ?_)
 refine xi none (ai trivial ?_)
 refine ai ⟨rfl, rfl, rfl, lb rfl⟩ (xi [bb o0.Reader.Asks, ss o0.Reader.Method, ss o0.Reader.Buf, bb o0.Reader.In, ss [], ss [], ii 0, ss [], ii 0, AV.list 2 (([] : List S_Field).map S_Field.av), ss [], ii o0.Reader.Body.Kind, ii o0.Reader.Body.Size, ii o0.Reader.Chunk.Stage, ss o0.Reader.Chunk.Line, ii o0.Reader.Chunk.Left, ii o0.Reader.Chunk.Size, ii o0.Reader.Bad, AV.list 7 (x1.map S_Message.av)] (ai (fun _ => rfl) ?_))
 refine ai ⟨rfl, rfl, rfl, lb rfl⟩ (xi [bb o0.Reader.Asks, ss o0.Reader.Method, ss o0.Reader.Buf, bb o0.Reader.In, ss [], ss [], ii 0, ss [], ii 0, AV.list 2 (([] : List S_Field).map S_Field.av), ss [], ii 0, ii 0, ii o0.Reader.Chunk.Stage, ss o0.Reader.Chunk.Line, ii o0.Reader.Chunk.Left, ii o0.Reader.Chunk.Size, ii o0.Reader.Bad, AV.list 7 (x1.map S_Message.av)] (ai (fun _ => rfl) ?_))
 refine ai ⟨rfl, rfl, rfl, lb rfl⟩ (xi [bb o0.Reader.Asks, ss o0.Reader.Method, ss o0.Reader.Buf, bb o0.Reader.In, ss [], ss [], ii 0, ss [], ii 0, AV.list 2 (([] : List S_Field).map S_Field.av), ss [], ii 0, ii 0, ii 0, ss [], ii 0, ii 0, ii o0.Reader.Bad, AV.list 7 (x1.map S_Message.av)] (ai (fun _ => rfl) ?_))
 refine ai ⟨rfl, rfl, rfl, lb rfl⟩ (xi [bb o0.Reader.Asks, ss o0.Reader.Method, ss o0.Reader.Buf, bb false, ss [], ss [], ii 0, ss [], ii 0, AV.list 2 (([] : List S_Field).map S_Field.av), ss [], ii 0, ii 0, ii 0, ss [], ii 0, ii 0, ii o0.Reader.Bad, AV.list 7 (x1.map S_Message.av)] (ai (fun _ => rfl) ?_))
 refine SeqN.via (St.of [] [.cells 69 [bb o0.Reader.Asks, ss o0.Reader.Method, ss o0.Reader.Buf, bb false, ss [], ss [], ii 0, ss [], ii 0, AV.list 2 (([] : List S_Field).map S_Field.av), ss [], ii 0, ii 0, ii 0, ss [], ii 0, ii 0, ii o0.Reader.Bad, AV.list 7 (x1.map S_Message.av)] [(9, 1), (18, 2)]] [0, 1, 1]) ?_ ?_
 ·refine Gho.to _ _ _ [0, 2, 1] ?_ ?_ ?_ rfl rfl ?_
  ·exact ⟨⟨rfl, rfl, rfl⟩, trivial⟩
  ·exact rfl
  ·exact rfl
  ·exact trivial
 refine sj <| sn ?_
 replace h := oi h
 have h0 := (Prod.mk.inj h).1
 have h1 := (Prod.mk.inj h).2
 subst h0
 subst h1
 refine xi [⟨2, bb true, none⟩] (ai (Gho.to _ _ _ [0, 2] ?_ ?_ ?_ rfl rfl ?_) (ai ?_ rfl))
 ·exact ⟨⟨rfl, rfl, rfl⟩, trivial⟩
 ·exact rfl
 ·exact rfl
 ·exact tr3 <| trivial
 ·exact rfl
theorem chunk_state_end_ok (E : Pm.Env) [LaidB E] (o0 : S_chunk_state) (a1 : Bytes) (r : Unit) (o0' : S_chunk_state) (h : chunk_state_end o0 a1 = some (r, o0')) : FnW E Tryz.prog 127 [AV.ptr 0 0, ss a1] [.cells 130 (S_chunk_state.cells o0) []] [] (AV.tup []) none [.cells 130 (S_chunk_state.cells o0') []] [] := by
 refine FnW.of_evB (T := T) (rows := []) tOk mixed Tryz.func127 rfl (by kernel_rfl) (by kernel_rfl) rfl rfl fun hwf => ?_
 unfold chunk_state_end at h
 refine sj ?_
 refine ai ⟨rfl, rfl, rfl, lb rfl⟩ (xi [ii 0, ss o0.Chunked.Line, ii o0.Chunked.Left, ii o0.Chunked.Size, ii o0.bad] (ai (fun _ => rfl) ?_))
 refine sn <| sj <| sn ?_
 refine Br.of h (fun ht h => ?_) fun ht h => ?_
 ·refine ai ⟨rfl, rfl, rfl, lb rfl⟩ (xi [ii 0, ss o0.Chunked.Line, ii o0.Chunked.Left, ii o0.Chunked.Size, ii 33] (ai (fun _ => rfl) ?_))
  replace h := oi h
  have h0 := (Prod.mk.inj h).1
  have h1 := (Prod.mk.inj h).2
  subst h0
  subst h1
  refine xi [] (ai (Gho.to _ _ _ [] ?_ ?_ ?_ rfl rfl ?_) (ai ?_ rfl))
  ·exact ⟨⟨rfl, rfl, rfl⟩, trivial⟩
  ·exact rfl
  ·exact rfl
  ·exact trivial
  ·exact rfl
 ·replace h := oi h
  have h0 := (Prod.mk.inj h).1
  have h1 := (Prod.mk.inj h).2
  subst h0
  subst h1
  refine xi [] (ai (Gho.to _ _ _ [] ?_ ?_ ?_ rfl rfl ?_) (ai ?_ rfl))
  ·exact ⟨⟨rfl, rfl, rfl⟩, trivial⟩
  ·exact rfl
  ·exact rfl
  ·exact trivial
  ·exact rfl
theorem chunk_state_tail_ok (E : Pm.Env) [LaidB E] (o0 : S_chunk_state) (a1 : Bytes) (r : Unit) (o0' : S_chunk_state) (h : chunk_state_tail o0 a1 = some (r, o0')) : FnW E Tryz.prog 128 [AV.ptr 0 0, ss a1] [.cells 130 (S_chunk_state.cells o0) []] [] (AV.tup []) none [.cells 130 (S_chunk_state.cells o0') []] [] := by
 refine FnW.of_evB (T := T) (rows := []) tOk mixed Tryz.func128 rfl (by kernel_rfl) (by kernel_rfl) rfl rfl fun hwf => ?_
 unfold chunk_state_tail at h
 refine sj <| sn ?_
 refine Br.of h (fun ht h => ?_) fun ht h => ?_
 ·refine ai ⟨rfl, rfl, rfl, lb rfl⟩ (xi [ii 4, ss o0.Chunked.Line, ii o0.Chunked.Left, ii o0.Chunked.Size, ii o0.bad] (ai (fun _ => rfl) ?_))
  replace h := oi h
  have h0 := (Prod.mk.inj h).1
  have h1 := (Prod.mk.inj h).2
  subst h0
  subst h1
  refine xi [] (ai (Gho.to _ _ _ [] ?_ ?_ ?_ rfl rfl ?_) (ai ?_ rfl))
  ·exact ⟨⟨rfl, rfl, rfl⟩, trivial⟩
  ·exact rfl
  ·exact rfl
  ·exact trivial
  ·exact rfl
 ·replace h := oi h
  have h0 := (Prod.mk.inj h).1
  have h1 := (Prod.mk.inj h).2
  subst h0
  subst h1
  refine xi [] (ai (Gho.to _ _ _ [] ?_ ?_ ?_ rfl rfl ?_) (ai ?_ rfl))
  ·exact ⟨⟨rfl, rfl, rfl⟩, trivial⟩
  ·exact rfl
  ·exact rfl
  ·exact trivial
  ·exact rfl
theorem number_ReadHex_1_ok (E : Pm.Env) [LaidB E] (a0 : Int) (r : Int) (h : number_ReadHex_1 a0 = some r) : FnR E Tryz.prog 158 [AV.int .u8 a0] (AV.int .u64 r) false := by
 refine FnR.of_ev (T := T) (rows := []) tOk mixed Tryz.func158 rfl (by kernel_rfl) (by kernel_rfl) rfl fun hwf => ?_
 unfold number_ReadHex_1 at h
 refine sj <| sn <| sj <| sj <| ai id <| ai (fun hg => (and_r hg)) <| sn ?_
 refine Br.of h (fun ht h => ?_) fun ht h => ?_
 ·refine sj <| sn ?_
  replace h := oi h
  refine RetE.plain ?_
  subst h; exact ai rfl (ai rfl rfl)
 ·refine sj <| ai id <| ai (fun hg => (and_r hg)) <| sn ?_
  refine Br.of h (fun ht h => ?_) fun ht h => ?_
  ·refine sj ?_
   refine SeqN.via (St.of [⟨2, AV.int .u64 (IntKind.u64.wrap ((IntKind.u64.wrap (IntKind.u8.wrap (a0 - (65 : Int)))) + (10 : Int))), none⟩] [] []) ?_ ?_
   ·refine Gho.to _ _ _ [] ?_ ?_ ?_ rfl rfl ?_
    ·exact trivial
    ·exact rfl
    ·exact rfl
    ·exact tr3 <| trivial
   replace h := oi h
   refine RetE.plain ?_
   subst h; exact ai rfl (ai rfl rfl)
  ·refine sj <| ai id <| ai (fun hg => (and_r hg)) ?_
   refine SeqN.via (St.of [⟨0, AV.int .u8 a0, none⟩, ⟨24, bb (bif (decide (a0 ≥ (97 : Int))) then (decide (a0 ≤ (102 : Int))) else false), none⟩] [] []) ?_ ?_
   ·refine Gho.to _ _ _ [] ?_ ?_ ?_ rfl rfl ?_
    ·exact trivial
    ·exact rfl
    ·exact rfl
    ·exact tr3 <| tr3 <| trivial
   refine Br.of h (fun ht h => ?_) fun ht h => ?_
   ·refine sj <| sn ?_
    replace h := oi h
    refine RetE.plain ?_
    subst h; exact ai rfl (ai rfl rfl)
   ·refine sn <| sj <| sn ?_
    replace h := oi h
    refine RetE.plain ?_
    subst h; exact ai rfl (ai rfl rfl)
theorem number_ReadHex_ok (E : Pm.Env) [LaidB E] (a0 : Bytes) (r : (Int × Int)) (h : number_ReadHex a0 = some r) : FnR E Tryz.prog 146 [ss a0] (AV.tup [AV.int .u64 r.1, ii r.2]) false := by
 refine FnR.of_ev (T := T) (rows := []) tOk mixed Tryz.func146 rfl (by kernel_rfl) (by kernel_rfl) rfl fun hwf => ?_
 unfold number_ReadHex at h
 refine sj <| sn <| sj <| bind_elim h fun x1 hx1 h => CallH.data _ false rfl (number_read_uint64_ok E a0 (16 : Int) 158 [] (fun x0 => number_ReadHex_1 x0) (fun x0 r h => number_ReadHex_1_ok E x0 r h) rfl x1 hx1) <| sn ?_
 replace h := oi h
 refine RetE.plain ?_
 subst h; exact ai rfl (ai rfl rfl)
theorem chunk_state_size_ok (E : Pm.Env) [LaidB E] (o0 : S_chunk_state) (a1 : Bytes) (r : Unit) (o0' : S_chunk_state) (h : chunk_state_size o0 a1 = some (r, o0')) : FnW E Tryz.prog 126 [AV.ptr 0 0, ss a1] [.cells 130 (S_chunk_state.cells o0) []] [] (AV.tup []) none [.cells 130 (S_chunk_state.cells o0') []] [] := by
 refine FnW.of_evB (T := T) (rows := []) tOk mixed Tryz.func126 rfl (by kernel_rfl) (by kernel_rfl) rfl rfl fun hwf => ?_
 unfold chunk_state_size at h
 refine sj <| bind_elim h fun x1 hx1 h => CallH.data _ false rfl (strings_Cut_ok E a1 ([59] : Bytes) x1 hx1) <| sn <| sj <| bind_elim h fun x2 hx2 h => CallH.data _ false rfl (text_Trim_ok E x1.1 x2 hx2) <| bind_elim h fun x3 hx3 h => CallH.data _ false rfl (number_ReadHex_ok E x2 x3 hx3) <| sn <| sj ?_
 refine SeqN.via (St.of [⟨0, AV.ptr 0 0, none⟩, ⟨4, AV.int .u64 x3.1, none⟩, ⟨5, ii x3.2, none⟩, ⟨28, bb (x3.2 == (10 : Int)), none⟩] [.cells 130 (S_chunk_state.cells o0) []] []) ?_ ?_
 ·refine Gho.to _ _ _ [] ?_ ?_ ?_ rfl rfl ?_
  ·exact ⟨⟨rfl, rfl, rfl⟩, trivial⟩
  ·exact rfl
  ·exact rfl
  ·exact tr3 <| tr3 <| tr3 <| tr3 <| trivial
 refine Br.of h (fun ht h => ?_) fun ht h => ?_
 ·refine ai ⟨rfl, rfl, rfl, lb rfl⟩ (xi [ii o0.Chunked.Stage, ss o0.Chunked.Line, ii o0.Chunked.Left, ii o0.Chunked.Size, ii 33] (ai (fun _ => rfl) ?_))
  replace h := oi h
  have h0 := (Prod.mk.inj h).1
  have h1 := (Prod.mk.inj h).2
  subst h0
  subst h1
  refine xi [] (ai (Gho.to _ _ _ [] ?_ ?_ ?_ rfl rfl ?_) (ai ?_ rfl))
  ·exact ⟨⟨rfl, rfl, rfl⟩, trivial⟩
  ·exact rfl
  ·exact rfl
  ·exact trivial
  ·exact rfl
 ·refine sj <| ai id <| ai id <| ai id <| ai id <| ai id <| ai id <| ai id <| ai id <| ai (fun hg => (and_r hg)) <| sn ?_
  refine Br.of h (fun ht h => ?_) fun ht h => ?_
  ·refine ai ⟨rfl, rfl, rfl, lb rfl⟩ (xi [ii o0.Chunked.Stage, ss o0.Chunked.Line, ii o0.Chunked.Left, ii o0.Chunked.Size, ii 2] (ai (fun _ => rfl) ?_))
   replace h := oi h
   have h0 := (Prod.mk.inj h).1
   have h1 := (Prod.mk.inj h).2
   subst h0
   subst h1
   refine xi [] (ai (Gho.to _ _ _ [] ?_ ?_ ?_ rfl rfl ?_) (ai ?_ rfl))
   ·exact ⟨⟨rfl, rfl, rfl⟩, trivial⟩
   ·exact rfl
   ·exact rfl
   ·exact trivial
   ·exact rfl
  ·refine sj ?_
   refine SeqN.via (St.of [⟨0, AV.ptr 0 0, none⟩, ⟨4, AV.int .u64 x3.1, none⟩, ⟨51, bb (x3.1 == (0 : Int)), none⟩] [.cells 130 (S_chunk_state.cells o0) []] []) ?_ ?_
   ·refine Gho.to _ _ _ [] ?_ ?_ ?_ rfl rfl ?_
    ·exact ⟨⟨rfl, rfl, rfl⟩, trivial⟩
    ·exact rfl
    ·exact rfl
    ·exact tr3 <| tr3 <| tr3 <| trivial
   refine Br.of h (fun ht h => ?_) fun ht h => ?_
   ·refine ai ⟨rfl, rfl, rfl, lb rfl⟩ (xi [ii 3, ss o0.Chunked.Line, ii o0.Chunked.Left, ii o0.Chunked.Size, ii o0.bad] (ai (fun _ => rfl) ?_))
    replace h := oi h
    have h0 := (Prod.mk.inj h).1
    have h1 := (Prod.mk.inj h).2
    subst h0
    subst h1
    refine xi [] (ai (Gho.to _ _ _ [] ?_ ?_ ?_ rfl rfl ?_) (ai ?_ rfl))
    ·exact ⟨⟨rfl, rfl, rfl⟩, trivial⟩
    ·exact rfl
    ·exact rfl
    ·exact trivial
    ·exact rfl
   ·refine ai ⟨rfl, rfl, rfl, lb rfl⟩ (xi [ii 1, ss o0.Chunked.Line, ii o0.Chunked.Left, ii o0.Chunked.Size, ii o0.bad] (ai (fun _ => rfl) ?_))
    refine ai ⟨rfl, rfl, rfl, lb rfl⟩ (xi [ii 1, ss o0.Chunked.Line, ii (IntKind.i64.wrap x3.1), ii o0.Chunked.Size, ii o0.bad] (ai (fun _ => rfl) ?_))
    replace h := oi h
    have h0 := (Prod.mk.inj h).1
    have h1 := (Prod.mk.inj h).2
    subst h0
    subst h1
    refine xi [] (ai (Gho.to _ _ _ [] ?_ ?_ ?_ rfl rfl ?_) (ai ?_ rfl))
    ·exact ⟨⟨rfl, rfl, rfl⟩, trivial⟩
    ·exact rfl
    ·exact rfl
    ·exact trivial
    ·exact rfl
end Go.Proofs.YtpionnihpibglaaGreatDoor
