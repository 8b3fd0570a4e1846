/-
  The functions do what their images say: walks, written by a program of mine (gen.py).
-/
import Derived.Test.YtkfoahoplndelaaGreatDoorIw1
import Derived.Test.YtkfoahoplndelaaGreatDoorGh1
namespace Go.Proofs.YtkfoahoplndelaaGreatDoor
open Go Go.Pm
open And renaming intro → ai
open Exists renaming intro → xi
open Option.some renaming inj → oi
open _root_.Nat renaming le_of_ble_eq_true → lb
open Go.Pm.SeqJ renaming go → sj
open Go.Pm.SeqN renaming go → sn
set_option maxRecDepth 100000
set_option maxHeartbeats 4000000
set_option linter.unusedVariables false
theorem wire_empty_ok (E : Pm.Env) [LaidM E] (a0 : S_Message) (r : Bool) (h : wire_empty a0 = some r) : FnR E Tryz.prog 129 [S_Message.av a0] (AV.bool r) false := by
 refine FnR.of_ev (T := T) (rows := []) tOk mixed Tryz.func129 rfl (by kernel_rfl) (by kernel_rfl) rfl fun hwf => ?_
 unfold wire_empty at h
 refine sj <| ai rfl <| sn <| sj <| ai ⟨lb rfl, lb rfl⟩ <| NormE.to (S_Start.av a0.Start) (fun _ => rfl) ?_
 refine xi none (ai trivial ?_)
 refine ai rfl <| ai id <| ai id <| NormE.to (AV.int .i64 (a0.Fields.length : Int)) (fun _ => len_list S_Field.av a0.Fields) <| ai id <| ai (fun hg => (and_r hg)) <| ai id <| ai id <| ai (fun hg => (and_r hg)) ?_
 refine SeqN.via (St.of [⟨2, AV.bool (bif (bif ((a0.Start.Method == ([] : Bytes)) && ((a0.Start.Target == ([] : Bytes)) && ((a0.Start.Code == (0 : Int)) && ((a0.Start.Reason == ([] : Bytes)) && ((a0.Start.Minor == (0 : Int)) && true))))) then ((a0.Fields.length : Int) == (0 : Int)) else false) then (a0.Body == ([] : Bytes)) else false), none⟩] [] []) ?_ ?_
 ·refine Gho.to _ _ _ [] ?_ ?_ ?_ rfl rfl ?_
  ·exact trivial
  ·exact rfl
  ·exact rfl
  ·exact ⟨rfl, rfl, trivial, trivial⟩
 replace h := oi h
 refine RetE.plain ?_
 exact ai rfl (ai (congrArg (fun r : Bool => AV.bool r) h) rfl)
theorem wire_bare_ok (E : Pm.Env) [LaidM E] (a0 : S_Reader) (r : Bool) (h : wire_bare a0 = some r) : FnR E Tryz.prog 70 [S_Reader.av a0] (AV.bool r) false := by
 refine FnR.of_ev (T := T) (rows := []) tOk mixed Tryz.func70 rfl (by kernel_rfl) (by kernel_rfl) rfl fun hwf => ?_
 unfold wire_bare at h
 refine sj <| ai rfl <| sn <| sj <| ai id <| ai id <| ai (fun hg => (and_r hg)) <| ai id <| ai ⟨lb rfl, lb rfl⟩ <| NormE.to (S_Message.av a0.Head) (fun _ => rfl) <| bind_elim h fun x1 hx1 h => ai id <| ai rfl ?_
 refine CallF.mk _ false (fun hg => wire_empty_ok E a0.Head x1 (gcall_some hx1 hg)) (ai rfl ?_)
 refine ai (fun hg => (and_r hg)) <| ai id <| ai ⟨lb rfl, lb rfl⟩ <| NormE.to (S_Body.av a0.Body) (fun _ => rfl) ?_
 refine xi none (ai trivial ?_)
 refine ai id <| ai id <| ai rfl <| ai (fun hg => (and_r hg)) <| ai id <| ai ⟨lb rfl, lb rfl⟩ <| NormE.to (S_Chunked.av a0.Chunk) (fun _ => rfl) ?_
 refine xi none (ai trivial ?_)
 refine ai id <| ai id <| ai rfl <| ai (fun hg => (and_r hg)) ?_
 refine SeqN.via (St.of [⟨2, AV.bool (bif (bif (bif (bif (a0.Buf == ([] : Bytes)) then (!a0.In) else false) then x1 else false) then ((a0.Body.Kind == (0 : Int)) && ((a0.Body.Size == (0 : Int)) && true)) else false) then ((a0.Chunk.Stage == (0 : Int)) && ((a0.Chunk.Line == ([] : Bytes)) && ((a0.Chunk.Left == (0 : Int)) && ((a0.Chunk.Size == (0 : Int)) && true)))) else false), none⟩] [] []) ?_ ?_
 ·refine Gho.to _ _ _ [] ?_ ?_ ?_ rfl rfl ?_
  ·exact trivial
  ·exact rfl
  ·exact rfl
  ·exact ⟨rfl, rfl, trivial, trivial⟩
 replace h := oi h
 refine RetE.plain ?_
 exact ai rfl (ai (congrArg (fun r : Bool => AV.bool r) h) rfl)
theorem stringslite_HasPrefix_ok (E : Pm.Env) [LaidM E] (a0 : Bytes) (a1 : Bytes) (r : Bool) (h : stringslite_HasPrefix a0 a1 = some r) : FnR E Tryz.prog 152 [AV.str a0, AV.str a1] (AV.bool r) false := by
 refine FnR.of_ev (T := T) (rows := []) tOk mixed Tryz.func152 rfl (by kernel_rfl) (by kernel_rfl) rfl fun hwf => ?_
 unfold stringslite_HasPrefix at h
 refine sj <| sn <| sj <| NormE.same <| NormE.same <| ai id <| NormE.same <| bind_elim h fun x1 hx1 h => ?_
 have qx1 := (gslc_some hx1).1
 have hx1e := (gslc_some hx1).2
 refine ai id <| ai id <| ai qx1 <| NormE.to (AV.str x1) (fun _ => congrArg AV.str hx1e.symm) <| ai id <| ai id <| ai (fun hg => (and_r hg)) <| sn ?_
 replace h := oi h
 refine RetE.plain ?_
 exact ai rfl (ai (congrArg (fun r : Bool => AV.bool r) h) rfl)
theorem strings_HasPrefix_ok (E : Pm.Env) [LaidM E] (a0 : Bytes) (a1 : Bytes) (r : Bool) (h : strings_HasPrefix a0 a1 = some r) : FnR E Tryz.prog 120 [AV.str a0, AV.str a1] (AV.bool r) false := by
 refine FnR.of_ev (T := T) (rows := []) tOk mixed Tryz.func120 rfl (by kernel_rfl) (by kernel_rfl) rfl fun hwf => ?_
 unfold strings_HasPrefix at h
 refine sj <| sn <| sj <| bind_elim h fun x1 hx1 h => CallH.data _ false rfl (stringslite_HasPrefix_ok E a0 a1 x1 hx1) <| sn ?_
 replace h := oi h
 refine RetE.plain ?_
 exact ai rfl (ai (congrArg (fun r : Bool => AV.bool r) h) rfl)
theorem start_target_1_ok (E : Pm.Env) [LaidM E] (a0 : Int) (r : Bool) (h : start_target_1 a0 = some r) : FnR E Tryz.prog 234 [AV.int .u8 a0] (AV.bool r) false := by
 refine FnR.of_ev (T := T) (rows := []) tOk mixed Tryz.func234 rfl (by kernel_rfl) (by kernel_rfl) rfl fun hwf => ?_
 unfold start_target_1 at h
 refine sj <| sn <| sj <| ai id <| ai (fun hg => (and_r hg)) <| bind_elim h fun x1 hx1 h => ai id <| ai rfl ?_
 refine CallF.mk _ false (fun hg => strings_IndexByte_ok E ([34, 35, 60, 62, 92, 94, 123, 124, 125, 96] : Bytes) a0 x1 (gcall_some hx1 hg)) (ai rfl ?_)
 refine ai id <| ai (fun hg => (and_r hg)) <| sn ?_
 replace h := oi h
 refine RetE.plain ?_
 exact ai rfl (ai (congrArg (fun r : Bool => AV.bool r) h) rfl)
theorem start_target_ok (E : Pm.Env) [LaidM E] (a0 : Bytes) (r : Bool) (h : start_target a0 = some r) : FnR E Tryz.prog 201 [AV.str a0] (AV.bool r) false := by
 refine FnR.of_ev (T := T) (rows := []) tOk mixed Tryz.func201 rfl (by kernel_rfl) (by kernel_rfl) rfl fun hwf => ?_
 unfold start_target at h
 refine sj <| sn <| sj <| sn <| sj <| sj <| sn ?_
 refine Br.mk (fun ht => ?_) (fun ht => ?_)
 ·replace h := cond_tt h ht
  refine sj <| sn ?_
  replace h := oi h
  refine RetE.plain ?_
  exact ai rfl (ai (congrArg (fun r : Bool => AV.bool r) h) rfl)
 ·replace h := cond_ff h ht
  refine sn <| sj <| bind_elim h fun x1 hx1 h => CallH.data _ false rfl (strings_HasPrefix_ok E a0 ([47] : Bytes) x1 hx1) <| bind_elim h fun x2 hx2 h => ai id <| ai rfl ?_
  refine CallF.mk _ false (fun hg => strings_HasPrefix_ok E a0 ([104, 116, 116, 112, 58, 47, 47] : Bytes) x2 (gcall_some hx2 hg)) (ai rfl ?_)
  refine ai (fun hg => (and_r hg)) <| ai id <| NormE.same <| ai id <| ai (fun hg => (and_r hg)) <| ai id <| ai ⟨rfl, rfl⟩ <| bind_elim h fun x3 hx3 h => ai id <| ai id <| ai rfl ?_
  refine CallF.mk _ false (fun hg => slices_ContainsFunc__byte_byte_ok E a0 234 [] (fun x0 => start_target_1 x0) (fun x0 r h => start_target_1_ok E x0 r h) rfl x3 (gcall_some hx3 hg)) (ai rfl ?_)
  refine ai id <| ai (fun hg => (and_r hg)) ?_
  refine SeqN.via (St.of [⟨2, AV.bool (bif (bif (bif x1 then true else x2) then (decide ((a0.length : Int) ≤ (500 : Int))) else false) then (!x3) else false), none⟩] [] []) ?_ ?_
  ·refine Gho.to _ _ _ [] ?_ ?_ ?_ rfl rfl ?_
   ·exact trivial
   ·exact rfl
   ·exact rfl
   ·exact ⟨rfl, rfl, trivial, trivial⟩
  replace h := oi h
  refine RetE.plain ?_
  exact ai rfl (ai (congrArg (fun r : Bool => AV.bool r) h) rfl)
theorem start_Right_1_ok (E : Pm.Env) [LaidM E] (a0 : Int) (r : Bool) (h : start_Right_1 a0 = some r) : FnR E Tryz.prog 202 [AV.int .u8 a0] (AV.bool r) false := by
 refine FnR.of_ev (T := T) (rows := []) tOk mixed Tryz.func202 rfl (by kernel_rfl) (by kernel_rfl) rfl fun hwf => ?_
 unfold start_Right_1 at h
 refine sj <| sn <| sj <| ai id <| ai (fun hg => (and_r hg)) <| ai id <| ai (fun hg => (and_r hg)) <| sn ?_
 replace h := oi h
 refine RetE.plain ?_
 exact ai rfl (ai (congrArg (fun r : Bool => AV.bool r) h) rfl)
theorem start_Right_ok (E : Pm.Env) [LaidM E] (a0 : S_Start) (r : Bool) (h : start_Right a0 = some r) : FnR E Tryz.prog 172 [S_Start.av a0] (AV.bool r) false := by
 refine FnR.of_ev (T := T) (rows := []) tOk mixed Tryz.func172 rfl (by kernel_rfl) (by kernel_rfl) rfl fun hwf => ?_
 unfold start_Right at h
 refine sj <| ai rfl <| sn <| sj <| sj <| ai id <| ai id <| ai (fun hg => (and_r hg)) <| sn ?_
 refine Br.mk (fun ht => ?_) (fun ht => ?_)
 ·replace h := cond_tt h ht
  refine sj <| sn ?_
  replace h := oi h
  refine RetE.plain ?_
  exact ai rfl (ai (congrArg (fun r : Bool => AV.bool r) h) rfl)
 ·replace h := cond_ff h ht
  refine sn <| sj <| sj <| sn ?_
  refine Br.mk (fun ht => ?_) (fun ht => ?_)
  ·replace h := cond_tt h ht
   refine sj <| ai id <| bind_elim h fun x1 hx1 h => ai id <| ai rfl ?_
   refine CallF.mk _ false (fun hg => text_Token_ok E a0.Method x1 (gcall_some hx1 hg)) (ai rfl ?_)
   refine ai (fun hg => (and_r hg)) <| ai id <| ai id <| NormE.same <| ai id <| ai (fun hg => (and_r hg)) <| ai id <| bind_elim h fun x2 hx2 h => ai id <| ai rfl ?_
   refine CallF.mk _ false (fun hg => start_target_ok E a0.Target x2 (gcall_some hx2 hg)) (ai rfl ?_)
   refine ai (fun hg => (and_r hg)) ?_
   refine SeqN.via (St.of [⟨2, AV.bool (bif (bif (bif (a0.Reason == ([] : Bytes)) then x1 else false) then (decide ((a0.Method.length : Int) ≤ (20 : Int))) else false) then x2 else false), none⟩] [] []) ?_ ?_
   ·refine Gho.to _ _ _ [] ?_ ?_ ?_ rfl rfl ?_
    ·exact trivial
    ·exact rfl
    ·exact rfl
    ·exact ⟨rfl, rfl, trivial, trivial⟩
   replace h := oi h
   refine RetE.plain ?_
   exact ai rfl (ai (congrArg (fun r : Bool => AV.bool r) h) rfl)
  ·replace h := cond_ff h ht
   refine sn <| sj <| sn <| sj <| ai id <| ai id <| ai (fun hg => (and_r hg)) <| ai id <| ai id <| ai (fun hg => (and_r hg)) <| ai id <| ai id <| ai (fun hg => (and_r hg)) <| ai id <| ai id <| NormE.same <| ai id <| ai (fun hg => (and_r hg)) <| ai id <| bind_elim h fun x3 hx3 h => ai id <| ai rfl ?_
   refine CallF.mk _ false (fun hg => text_Trim_ok E a0.Reason x3 (gcall_some hx3 hg)) (ai rfl ?_)
   refine ai id <| ai id <| ai id <| ai (fun hg => (and_r hg)) <| ai id <| ai id <| ai ⟨rfl, rfl⟩ <| bind_elim h fun x4 hx4 h => ai id <| ai id <| ai rfl ?_
   refine CallF.mk _ false (fun hg => slices_ContainsFunc__byte_byte_ok E a0.Reason 202 [] (fun x0 => start_Right_1 x0) (fun x0 r h => start_Right_1_ok E x0 r h) rfl x4 (gcall_some hx4 hg)) (ai rfl ?_)
   refine ai id <| ai (fun hg => (and_r hg)) <| ai (by kernel_rfl) ?_
   refine SeqN.via (St.of [⟨2, AV.bool (bif (bif (bif (bif (bif (bif (decide (a0.Code ≥ (100 : Int))) then (decide (a0.Code ≤ (599 : Int))) else false) then (a0.Method == ([] : Bytes)) else false) then (a0.Target == ([] : Bytes)) else false) then (decide ((a0.Reason.length : Int) ≤ (100 : Int))) else false) then (x3 == a0.Reason) else false) then (!x4) else false), none⟩] [] []) ?_ ?_
   ·refine Gho.to _ _ _ [] ?_ ?_ ?_ rfl rfl ?_
    ·exact trivial
    ·exact rfl
    ·exact rfl
    ·exact ⟨rfl, rfl, trivial, trivial⟩
   replace h := oi h
   refine RetE.plain ?_
   exact ai rfl (ai (congrArg (fun r : Bool => AV.bool r) h) rfl)
theorem table_named_ok (E : Pm.Env) [LaidM E] (a0 : Bytes) (r : Bytes) (h : table_named a0 = some r) : FnR E Tryz.prog 246 [AV.str a0] (AV.fn 264 [] [AV.iptr [AV.str r]]) false := by
 refine FnR.of_ev (T := T) (rows := []) tOk mixed Tryz.func246 rfl (by kernel_rfl) (by kernel_rfl) rfl fun hwf => ?_
 unfold table_named at h
 refine sj <| ai rfl ?_
 refine SeqN.via (St.of [⟨1, AV.iptr [AV.str a0], none⟩] [] []) ?_ ?_
 ·refine Gho.trans (Gho.fz [0] [(1, AV.iptr [AV.str a0])] ⟨Frz.ptrD rfl rfl (lb rfl), trivial⟩) ?_
  refine Gho.to _ _ _ [] ?_ ?_ ?_ rfl rfl ?_
  ·exact trivial
  ·exact rfl
  ·exact rfl
  ·exact ⟨rfl, rfl, trivial, trivial⟩
 refine sj <| sn ?_
 replace h := oi h
 refine RetE.plain ?_
 exact ai rfl (ai (congrArg (fun r : Bytes => AV.fn 264 [] [AV.iptr [AV.str r]]) h) rfl)
theorem table_keep_api_Field_ok (E : Pm.Env) [LaidM E] (a0 : (List S_Field)) (a1 : FuncId) (a1c : List AV) (a1i : S_Field → Option Bool) (a1h : ∀ (x0 : S_Field) (r : Bool), a1i x0 = some r → FnR E Tryz.prog a1 ([S_Field.av x0] ++ a1c) (AV.bool r) false) (a1p : a1c.all AV.puB = true) (r : (List S_Field)) (h : table_keep_api_Field a0 a1i = some r) : FnR E Tryz.prog 245 [AV.list 2 (a0.map S_Field.av), AV.fn a1 [] a1c] (AV.list 2 (r.map S_Field.av)) true := by
 refine FnR.of_ev (T := T) (rows := []) tOk mixed Tryz.func245 rfl (by kernel_rfl) (by kernel_rfl) rfl fun hwf => ?_
 unfold table_keep_api_Field at h
 refine sj <| sn <| sj <| sn <| bind_elim h fun j1 hj1 h => ?_
 refine SeqJ.join (St.of [⟨5, AV.list 2 (j1.map S_Field.av), some 0⟩] [] [1]) ?_ ?_
 ·clear h; have h := hj1; clear hj1
  refine sj <| NormE.to (AV.int .i64 (a0.length : Int)) (fun _ => len_list S_Field.av a0) <| sn ?_
  refine LoopE.img (fun x : ((List S_Field) × Int) => St.of [⟨1, AV.fn a1 [] a1c, none⟩, ⟨5, AV.list 2 (x.1.map S_Field.av), some 0⟩, ⟨8, AV.list 2 (a0.map S_Field.av), none⟩, ⟨9, AV.int .i64 (a0.length : Int), none⟩, ⟨10, AV.int .i64 x.2, none⟩] [] [1]) (table_keep_api_Field_b1 a0 a1i) (([] : List S_Field), (0 : Int)) h ?_ ?_
  ·refine Gho.to _ _ _ [1] ?_ ?_ ?_ rfl rfl ?_
   ·exact trivial
   ·exact rfl
   ·exact rfl
   ·exact ⟨rfl, (noB_fn a1p _), trivial, rfl, rfl, ⟨rfl, rfl, rfl⟩, rfl, rfl, trivial, rfl, rfl, trivial, rfl, rfl, trivial, trivial⟩
  intro n1 x y1 h hl1 hr1
  obtain ⟨s2, s3⟩ := x
  unfold table_keep_api_Field_b1 at h
  dsimp only at h
  refine sj <| sn <| sj ?_
  refine Br.mk (fun ht => ?_) (fun ht => ?_)
  ·replace h := cond_tt h ht
   refine sn <| sj <| sj <| bind_elim h fun x4 hx4 h => ?_
   refine ai rfl (xi (S_Field.av x4) (ai (fun hg => idx_map _ hx4) ?_))
   refine ai (lb rfl) <| NormE.to (S_Field.av x4) (fun _ => rfl) <| ai rfl ?_
   refine ai ⟨rfl, rfl, rfl, lb rfl⟩ (xi (S_Field.cells x4) (ai (fun _ => rfl) ?_))
   refine sn <| sj <| ai ⟨lb rfl, lb rfl⟩ <| NormE.to (S_Field.av x4) (fun _ => rfl) <| bind_elim h fun x5 hx5 h => CallH.data _ false (puD_app rfl (puD_of a1p)) (a1h x4 x5 hx5) <| sn ?_
   refine Br.mk (fun ht => ?_) (fun ht => ?_)
   ·replace h := cond_tt h ht
    refine ai ⟨lb rfl, lb rfl⟩ <| NormE.to (S_Field.av x4) (fun _ => rfl) <| ai ⟨rfl, rfl, rfl, rfl⟩ <| ai ⟨rfl, rfl, rfl⟩ <| NormE.to (AV.list 2 (([x4] : List S_Field).map S_Field.av)) (fun _ => rfl) <| bind_elim h fun x6 hx6 h => ?_
    have qx6 := (app_some hx6).1
    have hx6e := (app_some hx6).2
    refine ai ⟨rfl, rfl, rfl⟩ <| ai rfl <| ai (app_cond S_Field.av qx6) <| NormE.to (AV.list 2 (x6.map S_Field.av)) (fun _ => (app_list 2 S_Field.av _ _).trans (congrArg (fun y => AV.list 2 (List.map S_Field.av y)) hx6e.symm)) <| sn ?_
    replace h := oi h
    refine xi ⟨(n1, (x6, (IntKind.i64.wrap (s3 + (1 : Int))))), hl1 _ h.symm⟩ (ai (Nat.lt_succ_self _) ?_)
    refine Gho.to _ _ _ [2] ?_ ?_ ?_ rfl rfl ?_
    ·exact trivial
    ·exact rfl
    ·exact rfl
    ·exact ⟨rfl, (noB_fn a1p _), trivial, rfl, rfl, ⟨rfl, rfl, rfl⟩, rfl, rfl, trivial, rfl, rfl, trivial, rfl, rfl, trivial, trivial⟩
   ·replace h := cond_ff h ht
    refine sn ?_
    replace h := oi h
    refine xi ⟨(n1, (s2, (IntKind.i64.wrap (s3 + (1 : Int))))), hl1 _ h.symm⟩ (ai (Nat.lt_succ_self _) ?_)
    refine Gho.to _ _ _ [0] ?_ ?_ ?_ rfl rfl ?_
    ·exact trivial
    ·exact rfl
    ·exact rfl
    ·exact ⟨rfl, (noB_fn a1p _), trivial, rfl, rfl, ⟨rfl, rfl, rfl⟩, rfl, rfl, trivial, rfl, rfl, trivial, rfl, rfl, trivial, trivial⟩
  ·replace h := cond_ff h ht
   replace h := oi h
   replace h := hr1 _ h.symm
   subst h
   refine Gho.to _ _ _ [0] ?_ ?_ ?_ rfl rfl ?_
   ·exact trivial
   ·exact rfl
   ·exact rfl
   ·exact ⟨rfl, rfl, ⟨rfl, rfl, rfl⟩, trivial⟩
 ·clear hj1
  refine sj <| sn ?_
  replace h := oi h
  exact RetE.own 4 0 rfl rfl rfl rfl (ai (congrArg (fun r : (List S_Field) => AV.list 2 (r.map S_Field.av)) h) rfl)
theorem text_Lower_ok (E : Pm.Env) [LaidM E] (a0 : Bytes) (r : Bytes) (h : text_Lower a0 = some r) : FnR E Tryz.prog 225 [AV.str a0] (AV.str r) false := by
 refine FnR.of_ev (T := T) (rows := [7]) tOk mixed Tryz.func225 rfl (by kernel_rfl) (by kernel_rfl) rfl fun hwf => ?_
 unfold text_Lower at h
 refine sj <| sn <| sj <| ai ⟨rfl, rfl⟩ <| sn <| bind_elim h fun j1 hj1 h => ?_
 refine SeqJ.join (St.of [⟨3, AV.row 0 0 a0.length, none⟩] [.cells 5 (j1.map byteAV) []] []) ?_ ?_
 ·clear h; have h := hj1; clear hj1
  refine sj <| NormE.same <| sn ?_
  refine LoopE.img (fun x : (Int × (List UInt8)) => St.of [⟨3, AV.row 0 0 a0.length, none⟩, ⟨8, AV.row 0 0 a0.length, none⟩, ⟨9, AV.int .i64 ((a0.length : Nat) : Int), none⟩, ⟨10, AV.int .i64 x.1, none⟩] [.cells 5 (x.2.map byteAV) []] []) (text_Lower_b1 a0) ((0 : Int), a0) h ?_ ?_
  ·refine Gho.to _ _ _ [] ?_ ?_ ?_ rfl rfl ?_
   ·exact ⟨⟨rfl, rfl, rfl⟩, trivial⟩
   ·exact (and_tt' (noB_map _ (fun _ => rfl) _) rfl)
   ·exact rfl
   ·exact ⟨rfl, rfl, trivial, rfl, rfl, trivial, rfl, rfl, trivial, rfl, rfl, trivial, trivial⟩
  intro n1 x y1 h hl1 hr1
  obtain ⟨s2, s3⟩ := x
  unfold text_Lower_b1 at h
  dsimp only at h
  refine sj <| sn <| sj ?_
  refine Br.mk (fun ht => ?_) (fun ht => ?_)
  ·replace h := cond_tt h ht
   refine sn <| sj <| sj <| chk_elim h fun q4 h => ai (fun _ => q4) <| bind_elim h fun x5 hx5 h => optE.mk (c := byteAV x5) (off_get _ hx5) <| sn <| sj <| ai id <| ai (fun hg => (and_r hg)) <| sn ?_
   refine Br.mk (fun ht => ?_) (fun ht => ?_)
   ·replace h := cond_tt h ht
    refine chk_elim h fun q6 h => ai (fun _ => q6) <| bind_elim h fun x7 hx7 h => ?_
    have qx7 := (seti_some hx7).1
    have hx7e := (seti_some hx7).2
    refine ai ⟨rfl, rfl, rfl, seti_len byteAV qx7 0 rfl⟩ (xi (x7.map byteAV) (ai (fun hw => seti_u8 hw qx7 hx7e) ?_))
    refine SeqN.via (St.of [⟨3, AV.row 0 0 a0.length, none⟩, ⟨8, AV.row 0 0 a0.length, none⟩, ⟨9, AV.int .i64 ((a0.length : Nat) : Int), none⟩, ⟨10, AV.int .i64 s2, none⟩] [.cells 5 (x7.map byteAV) []] []) ?_ ?_
    ·refine Gho.to _ _ _ [] ?_ ?_ ?_ rfl rfl ?_
     ·exact ⟨⟨rfl, rfl, rfl⟩, trivial⟩
     ·exact (and_tt' (noB_map _ (fun _ => rfl) _) rfl)
     ·exact rfl
     ·exact ⟨rfl, rfl, trivial, rfl, rfl, trivial, rfl, rfl, trivial, rfl, rfl, trivial, trivial⟩
    replace h := oi h
    refine xi ⟨(n1, ((IntKind.i64.wrap (s2 + (1 : Int))), x7)), hl1 _ h.symm⟩ (ai (Nat.lt_succ_self _) ?_)
    refine Gho.to _ _ _ [] ?_ ?_ ?_ rfl rfl ?_
    ·exact ⟨⟨rfl, rfl, rfl⟩, trivial⟩
    ·exact (and_tt' (noB_map _ (fun _ => rfl) _) rfl)
    ·exact rfl
    ·exact ⟨rfl, rfl, trivial, rfl, rfl, trivial, rfl, rfl, trivial, rfl, rfl, trivial, trivial⟩
   ·replace h := cond_ff h ht
    refine sn ?_
    replace h := oi h
    refine xi ⟨(n1, ((IntKind.i64.wrap (s2 + (1 : Int))), s3)), hl1 _ h.symm⟩ (ai (Nat.lt_succ_self _) ?_)
    refine Gho.to _ _ _ [] ?_ ?_ ?_ rfl rfl ?_
    ·exact ⟨⟨rfl, rfl, rfl⟩, trivial⟩
    ·exact (and_tt' (noB_map _ (fun _ => rfl) _) rfl)
    ·exact rfl
    ·exact ⟨rfl, rfl, trivial, rfl, rfl, trivial, rfl, rfl, trivial, rfl, rfl, trivial, trivial⟩
  ·replace h := cond_ff h ht
   replace h := oi h
   replace h := hr1 _ h.symm
   subst h
   refine Gho.to _ _ _ [] ?_ ?_ ?_ rfl rfl ?_
   ·exact ⟨⟨rfl, rfl, rfl⟩, trivial⟩
   ·exact (and_tt' (noB_map _ (fun _ => rfl) _) rfl)
   ·exact rfl
   ·exact ⟨rfl, rfl, trivial, trivial⟩
 ·clear hj1
  refine sj <| chk_elim h fun q8 h => ?_
  refine ai rfl (xi (j1.take a0.length) (ai (row_text q8) ?_))
  refine sn ?_
  replace h := oi h
  refine RetE.plain ?_
  exact ai rfl (ai (congrArg (fun r : Bytes => AV.str r) h) rfl)
theorem text_Same_ok (E : Pm.Env) [LaidM E] (a0 : Bytes) (a1 : Bytes) (r : Bool) (h : text_Same a0 a1 = some r) : FnR E Tryz.prog 191 [AV.str a0, AV.str a1] (AV.bool r) false := by
 refine FnR.of_ev (T := T) (rows := []) tOk mixed Tryz.func191 rfl (by kernel_rfl) (by kernel_rfl) rfl fun hwf => ?_
 unfold text_Same at h
 refine sj <| sn <| sj <| bind_elim h fun x1 hx1 h => CallH.data _ false rfl (text_Lower_ok E a0 x1 hx1) <| bind_elim h fun x2 hx2 h => CallH.data _ false rfl (text_Lower_ok E a1 x2 hx2) <| sn ?_
 replace h := oi h
 refine RetE.plain ?_
 exact ai rfl (ai (congrArg (fun r : Bool => AV.bool r) h) rfl)
theorem table_named_1_ok (E : Pm.Env) [LaidM E] (a0 : S_Field) (c0 : Bytes) (r : Bool) (h : table_named_1 a0 c0 = some r) : FnR E Tryz.prog 264 [S_Field.av a0, AV.iptr [AV.str c0]] (AV.bool r) false := by
 refine FnR.of_ev (T := T) (rows := []) tOk mixed Tryz.func264 rfl (by kernel_rfl) (by kernel_rfl) rfl fun hwf => ?_
 unfold table_named_1 at h
 refine sj <| ai rfl <| sn <| sj <| bind_elim h fun x1 hx1 h => CallH.data _ false rfl (text_Same_ok E a0.Name c0 x1 hx1) <| sn ?_
 replace h := oi h
 refine RetE.plain ?_
 exact ai rfl (ai (congrArg (fun r : Bool => AV.bool r) h) rfl)
theorem table_All_ok (E : Pm.Env) [LaidM E] (a0 : (List S_Field)) (a1 : Bytes) (r : (List Bytes)) (h : table_All a0 a1 = some r) : FnR E Tryz.prog 213 [AV.list 2 (a0.map S_Field.av), AV.str a1] (AV.list 1 (r.map AV.str)) true := by
 refine FnR.of_ev (T := T) (rows := []) tOk mixed Tryz.func213 rfl (by kernel_rfl) (by kernel_rfl) rfl fun hwf => ?_
 unfold table_All at h
 refine sj <| sn <| sj <| sn <| bind_elim h fun j1 hj1 h => ?_
 refine SeqJ.join (St.of [⟨5, AV.list 1 (j1.map AV.str), some 0⟩] [] [1]) ?_ ?_
 ·clear h; have h := hj1; clear hj1
  refine sj <| bind_elim h fun x2 hx2 h => CallH.data _ false rfl (table_named_ok E a1 x2 hx2) <| bind_elim h fun x3 hx3 h => CallH.data _ true rfl (table_keep_api_Field_ok E a0 264 [AV.iptr [AV.str x2]] (fun x0 => table_named_1 x0 x2) (fun x0 r h => table_named_1_ok E x0 x2 r h) rfl x3 hx3) <| NormE.to (AV.int .i64 (x3.length : Int)) (fun _ => len_list S_Field.av x3) <| sn ?_
  refine LoopE.img (fun x : ((List Bytes) × Int) => St.of [⟨5, AV.list 1 (x.1.map AV.str), some 0⟩, ⟨11, AV.list 2 (x3.map S_Field.av), some 1⟩, ⟨12, AV.int .i64 (x3.length : Int), none⟩, ⟨13, AV.int .i64 x.2, none⟩] [] [1, 1]) (table_All_b1 x3) (([] : List Bytes), (0 : Int)) h ?_ ?_
  ·refine Gho.to _ _ _ [1, 2] ?_ ?_ ?_ rfl rfl ?_
   ·exact trivial
   ·exact rfl
   ·exact rfl
   ·exact ⟨rfl, rfl, ⟨rfl, rfl, rfl⟩, rfl, rfl, ⟨rfl, rfl, rfl⟩, rfl, rfl, trivial, rfl, rfl, trivial, trivial⟩
  intro n1 x y1 h hl1 hr1
  obtain ⟨s4, s5⟩ := x
  unfold table_All_b1 at h
  dsimp only at h
  refine sj <| sn <| sj ?_
  refine Br.mk (fun ht => ?_) (fun ht => ?_)
  ·replace h := cond_tt h ht
   refine sn <| sj <| sj <| bind_elim h fun x6 hx6 h => ?_
   refine ai rfl (xi (S_Field.av x6) (ai (fun hg => idx_map _ hx6) ?_))
   refine ai (lb rfl) <| NormE.to (S_Field.av x6) (fun _ => rfl) <| ai rfl ?_
   refine ai ⟨rfl, rfl, rfl, lb rfl⟩ (xi (S_Field.cells x6) (ai (fun _ => rfl) ?_))
   refine sn <| ai ⟨rfl, rfl, rfl, rfl⟩ <| ai ⟨rfl, rfl, rfl⟩ <| NormE.to (AV.list 1 (([x6.Value] : List Bytes).map AV.str)) (fun _ => rfl) <| bind_elim h fun x7 hx7 h => ?_
   have qx7 := (app_some hx7).1
   have hx7e := (app_some hx7).2
   refine ai ⟨rfl, rfl, rfl⟩ <| ai rfl <| ai (app_cond AV.str qx7) <| NormE.to (AV.list 1 (x7.map AV.str)) (fun _ => (app_list 1 AV.str _ _).trans (congrArg (fun y => AV.list 1 (List.map AV.str y)) hx7e.symm)) <| sn ?_
   replace h := oi h
   refine xi ⟨(n1, (x7, (IntKind.i64.wrap (s5 + (1 : Int))))), hl1 _ h.symm⟩ (ai (Nat.lt_succ_self _) ?_)
   refine Gho.to _ _ _ [3, 1] ?_ ?_ ?_ rfl rfl ?_
   ·exact trivial
   ·exact rfl
   ·exact rfl
   ·exact ⟨rfl, rfl, ⟨rfl, rfl, rfl⟩, rfl, rfl, ⟨rfl, rfl, rfl⟩, rfl, rfl, trivial, rfl, rfl, trivial, trivial⟩
  ·replace h := cond_ff h ht
   replace h := oi h
   replace h := hr1 _ h.symm
   subst h
   refine Gho.to _ _ _ [0] ?_ ?_ ?_ rfl rfl ?_
   ·exact trivial
   ·exact rfl
   ·exact rfl
   ·exact ⟨rfl, rfl, ⟨rfl, rfl, rfl⟩, trivial⟩
 ·clear hj1
  refine sj <| sn ?_
  replace h := oi h
  exact RetE.own 4 0 rfl rfl rfl rfl (ai (congrArg (fun r : (List Bytes) => AV.list 1 (r.map AV.str)) h) rfl)
theorem table_Joined_ok (E : Pm.Env) [LaidM E] (a0 : (List S_Field)) (a1 : Bytes) (r : (Bytes × Bool)) (h : table_Joined a0 a1 = some r) : FnR E Tryz.prog 214 [AV.list 2 (a0.map S_Field.av), AV.str a1] (AV.tup [AV.str r.1, AV.bool r.2]) false := by
 refine FnR.of_ev (T := T) (rows := []) tOk mixed Tryz.func214 rfl (by kernel_rfl) (by kernel_rfl) rfl fun hwf => ?_
 unfold table_Joined at h
 refine sj <| sn <| sj <| bind_elim h fun x1 hx1 h => CallH.data _ true rfl (table_All_ok E a0 a1 x1 hx1) <| sn <| sj <| bind_elim h fun x2 hx2 h => CallH.data _ false rfl (strings_Join_ok E x1 ([44, 32] : Bytes) x2 hx2) <| NormE.to (AV.int .i64 (x1.length : Int)) (fun _ => len_list AV.str x1) <| sn ?_
 replace h := oi h
 refine RetE.plain ?_
 exact ai rfl (ai (congrArg (fun r : (Bytes × Bool) => AV.tup [AV.str r.1, AV.bool r.2]) h) rfl)
theorem number_read_uint64_ok (E : Pm.Env) [LaidM E] (a0 : Bytes) (a1 : Int) (a2 : FuncId) (a2c : List AV) (a2i : Int → Option Int) (a2h : ∀ (x0 : Int) (r : Int), a2i x0 = some r → FnR E Tryz.prog a2 ([AV.int .u8 x0] ++ a2c) (AV.int .u64 r) false) (a2p : a2c.all AV.puB = true) (r : (Int × Int)) (h : number_read_uint64 a0 a1 a2i = some r) : FnR E Tryz.prog 149 [AV.str a0, AV.int .u64 a1, AV.fn a2 [] a2c] (AV.tup [AV.int .u64 r.1, AV.int .i64 r.2]) false := by
 refine FnR.of_ev (T := T) (rows := []) tOk mixed Tryz.func149 rfl (by kernel_rfl) (by kernel_rfl) rfl fun hwf => ?_
 unfold number_read_uint64 at h
 refine sj <| sn <| sj <| sj <| sn ?_
 refine Br.mk (fun ht => ?_) (fun ht => ?_)
 ·replace h := cond_tt h ht
  refine sj <| sn ?_
  replace h := oi h
  refine RetE.plain ?_
  exact ai rfl (ai (congrArg (fun r : (Int × Int) => AV.tup [AV.int .u64 r.1, AV.int .i64 r.2]) h) rfl)
 ·replace h := cond_ff h ht
  refine sn <| sj <| sn <| sj <| sj <| NormE.same <| sn ?_
  refine LoopE.img (fun x : (Int × Bool × Int) => St.of [⟨0, AV.str a0, none⟩, ⟨1, AV.int .u64 a1, none⟩, ⟨2, AV.fn a2 [] a2c, none⟩, ⟨8, AV.int .u64 x.1, none⟩, ⟨9, AV.bool x.2.1, none⟩, ⟨16, AV.int .i64 (a0.length : Int), none⟩, ⟨17, AV.int .i64 x.2.2, none⟩] [] []) (number_read_uint64_b1 a0 a1 a2i) ((IntKind.u64.wrap (0 : Int)), false, (0 : Int)) h ?_ ?_
  ·refine Gho.to _ _ _ [] ?_ ?_ ?_ rfl rfl ?_
   ·exact trivial
   ·exact rfl
   ·exact rfl
   ·exact ⟨rfl, rfl, trivial, rfl, rfl, trivial, rfl, (noB_fn a2p _), trivial, rfl, rfl, trivial, rfl, rfl, trivial, rfl, rfl, trivial, rfl, rfl, trivial, trivial⟩
  intro n1 x y1 h hl1 hr1
  obtain ⟨s1, s2, s3⟩ := x
  unfold number_read_uint64_b1 at h
  dsimp only at h
  refine sj <| sn <| sj ?_
  refine Br.mk (fun ht => ?_) (fun ht => ?_)
  ·replace h := cond_tt h ht
   refine sn <| sj <| sj <| sn <| sj <| bind_elim h fun x4 hx4 h => ?_
   refine xi x4 (ai (fun hg => idx_some hx4) ?_)
   refine bind_elim h fun x5 hx5 h => CallH.data _ false (puD_app rfl (puD_of a2p)) (a2h (x4.toNat : Int) x5 hx5) <| sn <| sj <| sj <| sn ?_
   refine Br.mk (fun ht => ?_) (fun ht => ?_)
   ·replace h := cond_tt h ht
    refine sj <| sn ?_
    replace h := oi h
    replace h := hr1 _ h.symm
    refine RetE.plain ?_
    exact ai rfl (ai (congrArg (fun r : (Int × Int) => AV.tup [AV.int .u64 r.1, AV.int .i64 r.2]) h) rfl)
   ·replace h := cond_ff h ht
    refine sn <| sj ?_
    refine SeqN.via (St.of [⟨0, AV.str a0, none⟩, ⟨1, AV.int .u64 a1, none⟩, ⟨2, AV.fn a2 [] a2c, none⟩, ⟨8, AV.int .u64 (IntKind.u64.wrap ((IntKind.u64.wrap (s1 * a1)) + x5)), none⟩, ⟨9, AV.bool s2, none⟩, ⟨16, AV.int .i64 (a0.length : Int), none⟩, ⟨17, AV.int .i64 s3, none⟩] [] []) ?_ ?_
    ·refine Gho.to _ _ _ [] ?_ ?_ ?_ rfl rfl ?_
     ·exact trivial
     ·exact rfl
     ·exact rfl
     ·exact ⟨rfl, rfl, trivial, rfl, rfl, trivial, rfl, (noB_fn a2p _), trivial, rfl, rfl, trivial, rfl, rfl, trivial, rfl, rfl, trivial, rfl, rfl, trivial, trivial⟩
    refine sj <| sn ?_
    refine Br.mk (fun ht => ?_) (fun ht => ?_)
    ·replace h := cond_tt h ht
     refine sn ?_
     replace h := oi h
     refine xi ⟨(n1, ((0 : Int), true, (IntKind.i64.wrap (s3 + (1 : Int))))), hl1 _ h.symm⟩ (ai (Nat.lt_succ_self _) ?_)
     refine Gho.to _ _ _ [] ?_ ?_ ?_ rfl rfl ?_
     ·exact trivial
     ·exact rfl
     ·exact rfl
     ·exact ⟨rfl, rfl, trivial, rfl, rfl, trivial, rfl, (noB_fn a2p _), trivial, rfl, rfl, trivial, rfl, rfl, trivial, rfl, rfl, trivial, rfl, rfl, trivial, trivial⟩
    ·replace h := cond_ff h ht
     refine sn ?_
     replace h := oi h
     refine xi ⟨(n1, ((IntKind.u64.wrap ((IntKind.u64.wrap (s1 * a1)) + x5)), s2, (IntKind.i64.wrap (s3 + (1 : Int))))), hl1 _ h.symm⟩ (ai (Nat.lt_succ_self _) ?_)
     refine Gho.to _ _ _ [] ?_ ?_ ?_ rfl rfl ?_
     ·exact trivial
     ·exact rfl
     ·exact rfl
     ·exact ⟨rfl, rfl, trivial, rfl, rfl, trivial, rfl, (noB_fn a2p _), trivial, rfl, rfl, trivial, rfl, rfl, trivial, rfl, rfl, trivial, rfl, rfl, trivial, trivial⟩
  ·replace h := cond_ff h ht
   refine sn <| sj <| sj <| sn ?_
   refine Br.mk (fun ht => ?_) (fun ht => ?_)
   ·replace h := cond_tt h ht
    refine sj <| sn ?_
    replace h := oi h
    replace h := hr1 _ h.symm
    refine RetE.plain ?_
    exact ai rfl (ai (congrArg (fun r : (Int × Int) => AV.tup [AV.int .u64 r.1, AV.int .i64 r.2]) h) rfl)
   ·replace h := cond_ff h ht
    refine sn <| sj <| sn ?_
    replace h := oi h
    replace h := hr1 _ h.symm
    refine RetE.plain ?_
    exact ai rfl (ai (congrArg (fun r : (Int × Int) => AV.tup [AV.int .u64 r.1, AV.int .i64 r.2]) h) rfl)
theorem number_ReadDec_1_ok (E : Pm.Env) [LaidM E] (a0 : Int) (r : Int) (h : number_ReadDec_1 a0 = some r) : FnR E Tryz.prog 150 [AV.int .u8 a0] (AV.int .u64 r) false := by
 refine FnR.of_ev (T := T) (rows := []) tOk mixed Tryz.func150 rfl (by kernel_rfl) (by kernel_rfl) rfl fun hwf => ?_
 unfold number_ReadDec_1 at h
 refine sj <| sn <| sj <| sn ?_
 replace h := oi h
 refine RetE.plain ?_
 exact ai rfl (ai (congrArg (fun r : Int => AV.int .u64 r) h) rfl)
theorem number_ReadDec_ok (E : Pm.Env) [LaidM E] (a0 : Bytes) (r : (Int × Int)) (h : number_ReadDec a0 = some r) : FnR E Tryz.prog 104 [AV.str a0] (AV.tup [AV.int .u64 r.1, AV.int .i64 r.2]) false := by
 refine FnR.of_ev (T := T) (rows := []) tOk mixed Tryz.func104 rfl (by kernel_rfl) (by kernel_rfl) rfl fun hwf => ?_
 unfold number_ReadDec at h
 refine sj <| sn <| sj <| bind_elim h fun x1 hx1 h => CallH.data _ false rfl (number_read_uint64_ok E a0 (10 : Int) 150 [] (fun x0 => number_ReadDec_1 x0) (fun x0 r h => number_ReadDec_1_ok E x0 r h) rfl x1 hx1) <| sn ?_
 replace h := oi h
 refine RetE.plain ?_
 exact ai rfl (ai (congrArg (fun r : (Int × Int) => AV.tup [AV.int .u64 r.1, AV.int .i64 r.2]) h) rfl)
theorem frame_say_ok (E : Pm.Env) [LaidM E] (a0 : Int) (a1 : (List S_Field)) (a2 : S_Body) (r : (S_Body × Int)) (h : frame_say a0 a1 a2 = some r) : FnR E Tryz.prog 178 [AV.int .i64 a0, AV.list 2 (a1.map S_Field.av), S_Body.av a2] (AV.tup [S_Body.av r.1, AV.int .i64 r.2]) false := by
 refine FnR.of_ev (T := T) (rows := []) tOk mixed Tryz.func178 rfl (by kernel_rfl) (by kernel_rfl) rfl fun hwf => ?_
 unfold frame_say at h
 refine sj <| ai rfl <| ai rfl <| sn <| sj <| bind_elim h fun x1 hx1 h => CallH.data _ true rfl (table_All_ok E a1 ([67, 111, 110, 116, 101, 110, 116, 45, 76, 101, 110, 103, 116, 104] : Bytes) x1 hx1) <| sn <| sj <| sj <| bind_elim h fun x2 hx2 h => CallH.data _ false rfl (table_Joined_ok E a1 ([84, 114, 97, 110, 115, 102, 101, 114, 45, 69, 110, 99, 111, 100, 105, 110, 103] : Bytes) x2 hx2) <| sn <| sj <| sn ?_
 refine Br.mk (fun ht => ?_) (fun ht => ?_)
 ·replace h := cond_tt h ht
  refine sj <| sj <| NormE.to (AV.int .i64 (x1.length : Int)) (fun _ => len_list AV.str x1) <| ai id <| ai (fun hg => (and_r hg)) <| bind_elim h fun x3 hx3 h => ai id <| ai rfl ?_
  refine CallF.mk _ false (fun hg => text_Same_ok E x2.1 ([99, 104, 117, 110, 107, 101, 100] : Bytes) x3 (gcall_some hx3 hg)) (ai rfl ?_)
  refine ai id <| ai (fun hg => (and_r hg)) ?_
  refine SeqN.via (St.of [⟨6, AV.ptr 1 0, none⟩, ⟨37, AV.bool (bif (bif (decide ((x1.length : Int) > (0 : Int))) then true else (a0 == (0 : Int))) then true else (!x3)), none⟩] [.dead, .cells 48 [AV.int .i64 (0 : Int), AV.int .i64 (0 : Int)] []] []) ?_ ?_
  ·refine Gho.to _ _ _ [] ?_ ?_ ?_ rfl rfl ?_
   ·exact ⟨trivial, ⟨⟨rfl, rfl, rfl⟩, trivial⟩⟩
   ·exact rfl
   ·exact rfl
   ·exact ⟨rfl, rfl, trivial, rfl, rfl, trivial, trivial⟩
  refine Br.mk (fun ht => ?_) (fun ht => ?_)
  ·replace h := cond_tt h ht
   refine sj ?_
   refine xi none (ai trivial ?_)
   refine ai ⟨rfl, rfl, rfl, lb rfl⟩ (xi [AV.int .i64 (0 : Int), AV.int .i64 (0 : Int)] (ai (fun _ => rfl) ?_))
   refine sn ?_
   replace h := oi h
   refine RetE.plain ?_
   refine ai ⟨lb rfl, lb rfl⟩ (xi (AV.agg [AV.int .i64 (0 : Int), AV.int .i64 (0 : Int)]) (ai rfl ?_))
   exact ai rfl (ai (congrArg (fun r : (S_Body × Int) => AV.tup [S_Body.av r.1, AV.int .i64 r.2]) h) rfl)
  ·replace h := cond_ff h ht
   refine sn <| sj <| ai ⟨rfl, rfl, lb rfl⟩ ?_
   refine xi none (ai trivial ?_)
   refine ai ⟨rfl, rfl, rfl, lb rfl⟩ (xi [AV.int .i64 (2 : Int), AV.int .i64 (0 : Int)] (ai (fun _ => rfl) ?_))
   refine sn ?_
   replace h := oi h
   refine RetE.plain ?_
   refine ai ⟨lb rfl, lb rfl⟩ (xi (AV.agg [AV.int .i64 (2 : Int), AV.int .i64 (0 : Int)]) (ai rfl ?_))
   exact ai rfl (ai (congrArg (fun r : (S_Body × Int) => AV.tup [S_Body.av r.1, AV.int .i64 r.2]) h) rfl)
 ·replace h := cond_ff h ht
  refine sn <| sj <| ai ⟨lb rfl, lb rfl⟩ <| NormE.to (S_Body.av a2) (fun _ => rfl) <| ai rfl ?_
  refine ai ⟨rfl, rfl, rfl, lb rfl⟩ (xi (S_Body.cells a2) (ai (fun _ => rfl) ?_))
  refine SeqN.via (St.of [⟨6, AV.ptr 1 0, none⟩, ⟨8, AV.list 1 (x1.map AV.str), some 0⟩, ⟨11, AV.ptr 2 0, none⟩, ⟨12, AV.bool false, none⟩] [.dead, .cells 48 [AV.int .i64 (0 : Int), AV.int .i64 (0 : Int)] [], .cells 48 (S_Body.cells a2) []] [1]) ?_ ?_
  ·refine Gho.to _ _ _ [0] ?_ ?_ ?_ rfl rfl ?_
   ·exact ⟨trivial, ⟨⟨rfl, rfl, rfl⟩, ⟨⟨rfl, rfl, rfl⟩, trivial⟩⟩⟩
   ·exact rfl
   ·exact rfl
   ·exact ⟨rfl, rfl, trivial, rfl, rfl, ⟨rfl, rfl, rfl⟩, rfl, rfl, trivial, rfl, rfl, trivial, trivial⟩
  refine sj <| sj <| NormE.to (AV.int .i64 (x1.length : Int)) (fun _ => len_list AV.str x1) <| sn ?_
  refine LoopE.img (fun x : (Bool × Int × S_Body) => St.of [⟨6, AV.ptr 1 0, none⟩, ⟨11, AV.ptr 2 0, none⟩, ⟨12, AV.bool x.1, none⟩, ⟨41, AV.list 1 (x1.map AV.str), some 0⟩, ⟨42, AV.int .i64 (x1.length : Int), none⟩, ⟨43, AV.int .i64 x.2.1, none⟩] [.dead, .cells 48 [AV.int .i64 (0 : Int), AV.int .i64 (0 : Int)] [], .cells 48 (S_Body.cells x.2.2) []] [1]) (frame_say_b1 x1) (false, (0 : Int), a2) h ?_ ?_
  ·refine Gho.to _ _ _ [0] ?_ ?_ ?_ rfl rfl ?_
   ·exact ⟨trivial, ⟨⟨rfl, rfl, rfl⟩, ⟨⟨rfl, rfl, rfl⟩, trivial⟩⟩⟩
   ·exact rfl
   ·exact rfl
   ·exact ⟨rfl, rfl, trivial, rfl, rfl, trivial, rfl, rfl, trivial, rfl, rfl, ⟨rfl, rfl, rfl⟩, rfl, rfl, trivial, rfl, rfl, trivial, trivial⟩
  intro n1 x y1 h hl1 hr1
  obtain ⟨s4, s5, s6⟩ := x
  unfold frame_say_b1 at h
  dsimp only at h
  refine sj <| sn <| sj ?_
  refine Br.mk (fun ht => ?_) (fun ht => ?_)
  ·replace h := cond_tt h ht
   refine sn <| sj <| sj <| bind_elim h fun x7 hx7 h => ?_
   refine ai rfl (xi (AV.str x7) (ai (fun hg => idx_map _ hx7) ?_))
   refine sn <| sj <| bind_elim h fun x8 hx8 h => CallH.data _ false rfl (number_ReadDec_ok E x7 x8 hx8) <| sn <| sj <| ai ⟨rfl, rfl, lb rfl⟩ <| ai ⟨rfl, rfl, lb rfl⟩ ?_
   refine xi none (ai trivial ?_)
   refine ai rfl ?_
   refine ai ⟨rfl, rfl, rfl, lb rfl⟩ (xi [AV.int .i64 (1 : Int), AV.int .i64 (IntKind.i64.wrap x8.1)] (ai (fun _ => rfl) ?_))
   refine SeqN.via (St.of [⟨6, AV.ptr 1 0, none⟩, ⟨11, AV.ptr 2 0, none⟩, ⟨13, AV.int .i64 s5, none⟩, ⟨16, AV.int .i64 x8.2, none⟩, ⟨17, AV.ptr 3 0, none⟩, ⟨41, AV.list 1 (x1.map AV.str), some 0⟩, ⟨42, AV.int .i64 (x1.length : Int), none⟩, ⟨43, AV.int .i64 s5, none⟩] [.dead, .cells 48 [AV.int .i64 (0 : Int), AV.int .i64 (0 : Int)] [], .cells 48 (S_Body.cells s6) [], .cells 48 [AV.int .i64 (1 : Int), AV.int .i64 (IntKind.i64.wrap x8.1)] []] [1]) ?_ ?_
   ·refine Gho.to _ _ _ [0] ?_ ?_ ?_ rfl rfl ?_
    ·exact ⟨trivial, ⟨⟨rfl, rfl, rfl⟩, ⟨⟨rfl, rfl, rfl⟩, ⟨⟨rfl, rfl, rfl⟩, trivial⟩⟩⟩⟩
    ·exact rfl
    ·exact rfl
    ·exact ⟨rfl, rfl, trivial, rfl, rfl, trivial, rfl, rfl, trivial, rfl, rfl, trivial, rfl, rfl, trivial, rfl, rfl, ⟨rfl, rfl, rfl⟩, rfl, rfl, trivial, rfl, rfl, trivial, trivial⟩
   refine sj <| sj <| sn ?_
   refine Br.mk (fun ht => ?_) (fun ht => ?_)
   ·replace h := cond_tt h ht
    refine ai ⟨rfl, rfl, rfl, lb rfl⟩ (xi [AV.int .i64 (1 : Int), AV.int .i64 (-1 : Int)] (ai (fun _ => rfl) ?_))
    refine sn <| sj <| sj <| ai id <| ai id <| ai ⟨lb rfl, lb rfl⟩ <| NormE.to (AV.agg [AV.int .i64 (1 : Int), AV.int .i64 (-1 : Int)]) (fun _ => rfl) <| ai ⟨lb rfl, lb rfl⟩ <| NormE.to (S_Body.av s6) (fun _ => rfl) <| ai id <| ai id <| ai rfl <| ai id <| ai id <| ai (fun hg => (and_r hg)) <| sn ?_
    refine Br.mk (fun ht => ?_) (fun ht => ?_)
    ·replace h := cond_tt h ht
     refine sj ?_
     refine xi none (ai trivial ?_)
     refine ai ⟨rfl, rfl, rfl, lb rfl⟩ (xi [AV.int .i64 (0 : Int), AV.int .i64 (0 : Int)] (ai (fun _ => rfl) ?_))
     refine SeqN.via (St.of [⟨6, AV.ptr 1 0, none⟩, ⟨7, AV.int .i64 (32 : Int), none⟩] [.dead, .cells 48 [AV.int .i64 (0 : Int), AV.int .i64 (0 : Int)] []] []) ?_ ?_
     ·refine Gho.to _ _ _ [] ?_ ?_ ?_ rfl rfl ?_
      ·exact ⟨trivial, ⟨⟨rfl, rfl, rfl⟩, trivial⟩⟩
      ·exact rfl
      ·exact rfl
      ·exact ⟨rfl, rfl, trivial, rfl, rfl, trivial, trivial⟩
     replace h := oi h
     replace h := hr1 _ h.symm
     refine RetE.plain ?_
     refine ai ⟨lb rfl, lb rfl⟩ (xi (AV.agg [AV.int .i64 (0 : Int), AV.int .i64 (0 : Int)]) (ai rfl ?_))
     exact ai rfl (ai (congrArg (fun r : (S_Body × Int) => AV.tup [S_Body.av r.1, AV.int .i64 r.2]) h) rfl)
    ·replace h := cond_ff h ht
     refine sn <| ai ⟨lb rfl, lb rfl⟩ <| NormE.to (AV.agg [AV.int .i64 (1 : Int), AV.int .i64 (-1 : Int)]) (fun _ => rfl) <| ai id <| ai id <| ai (fun hg => (and_r hg)) ?_
     refine ai ⟨rfl, rfl, rfl, lb rfl⟩ (xi [AV.int .i64 (1 : Int), AV.int .i64 (-1 : Int)] (ai (fun _ => rfl) ?_))
     refine ai (by kernel_rfl) ?_
     refine SeqN.via (St.of [⟨6, AV.ptr 1 0, none⟩, ⟨11, AV.ptr 2 0, none⟩, ⟨12, AV.bool (bif (decide ((-1 : Int) < (0 : Int))) then true else (decide ((-1 : Int) > (20000 : Int)))), none⟩, ⟨41, AV.list 1 (x1.map AV.str), some 0⟩, ⟨42, AV.int .i64 (x1.length : Int), none⟩, ⟨43, AV.int .i64 s5, none⟩] [.dead, .cells 48 [AV.int .i64 (0 : Int), AV.int .i64 (0 : Int)] [], .cells 48 [AV.int .i64 (1 : Int), AV.int .i64 (-1 : Int)] []] [1]) ?_ ?_
     ·refine Gho.to _ _ _ [0] ?_ ?_ ?_ rfl rfl ?_
      ·exact ⟨trivial, ⟨⟨rfl, rfl, rfl⟩, ⟨⟨rfl, rfl, rfl⟩, trivial⟩⟩⟩
      ·exact rfl
      ·exact rfl
      ·exact ⟨rfl, rfl, trivial, rfl, rfl, trivial, rfl, rfl, trivial, rfl, rfl, ⟨rfl, rfl, rfl⟩, rfl, rfl, trivial, rfl, rfl, trivial, trivial⟩
     replace h := oi h
     refine xi ⟨(n1, ((bif (decide ((-1 : Int) < (0 : Int))) then true else (decide ((-1 : Int) > (20000 : Int)))), (IntKind.i64.wrap (s5 + (1 : Int))), (S_Body.mk (1 : Int) (-1 : Int)))), hl1 _ h.symm⟩ (ai (Nat.lt_succ_self _) ?_)
     refine Gho.to _ _ _ [0] ?_ ?_ ?_ rfl rfl ?_
     ·exact ⟨trivial, ⟨⟨rfl, rfl, rfl⟩, ⟨⟨rfl, rfl, rfl⟩, trivial⟩⟩⟩
     ·exact rfl
     ·exact rfl
     ·exact ⟨rfl, rfl, trivial, rfl, rfl, trivial, rfl, rfl, trivial, rfl, rfl, ⟨rfl, rfl, rfl⟩, rfl, rfl, trivial, rfl, rfl, trivial, trivial⟩
   ·replace h := cond_ff h ht
    refine sn <| sj <| sj <| ai id <| ai id <| ai ⟨lb rfl, lb rfl⟩ <| NormE.to (AV.agg [AV.int .i64 (1 : Int), AV.int .i64 (IntKind.i64.wrap x8.1)]) (fun _ => rfl) <| ai ⟨lb rfl, lb rfl⟩ <| NormE.to (S_Body.av s6) (fun _ => rfl) <| ai id <| ai id <| ai rfl <| ai id <| ai id <| ai (fun hg => (and_r hg)) <| sn ?_
    refine Br.mk (fun ht => ?_) (fun ht => ?_)
    ·replace h := cond_tt h ht
     refine sj ?_
     refine xi none (ai trivial ?_)
     refine ai ⟨rfl, rfl, rfl, lb rfl⟩ (xi [AV.int .i64 (0 : Int), AV.int .i64 (0 : Int)] (ai (fun _ => rfl) ?_))
     refine SeqN.via (St.of [⟨6, AV.ptr 1 0, none⟩, ⟨7, AV.int .i64 (32 : Int), none⟩] [.dead, .cells 48 [AV.int .i64 (0 : Int), AV.int .i64 (0 : Int)] []] []) ?_ ?_
     ·refine Gho.to _ _ _ [] ?_ ?_ ?_ rfl rfl ?_
      ·exact ⟨trivial, ⟨⟨rfl, rfl, rfl⟩, trivial⟩⟩
      ·exact rfl
      ·exact rfl
      ·exact ⟨rfl, rfl, trivial, rfl, rfl, trivial, trivial⟩
     replace h := oi h
     replace h := hr1 _ h.symm
     refine RetE.plain ?_
     refine ai ⟨lb rfl, lb rfl⟩ (xi (AV.agg [AV.int .i64 (0 : Int), AV.int .i64 (0 : Int)]) (ai rfl ?_))
     exact ai rfl (ai (congrArg (fun r : (S_Body × Int) => AV.tup [S_Body.av r.1, AV.int .i64 r.2]) h) rfl)
    ·replace h := cond_ff h ht
     refine sn <| ai ⟨lb rfl, lb rfl⟩ <| NormE.to (AV.agg [AV.int .i64 (1 : Int), AV.int .i64 (IntKind.i64.wrap x8.1)]) (fun _ => rfl) <| ai id <| ai id <| ai (fun hg => (and_r hg)) ?_
     refine ai ⟨rfl, rfl, rfl, lb rfl⟩ (xi [AV.int .i64 (1 : Int), AV.int .i64 (IntKind.i64.wrap x8.1)] (ai (fun _ => rfl) ?_))
     refine ai (by kernel_rfl) ?_
     refine SeqN.via (St.of [⟨6, AV.ptr 1 0, none⟩, ⟨11, AV.ptr 2 0, none⟩, ⟨12, AV.bool (bif (decide ((IntKind.i64.wrap x8.1) < (0 : Int))) then true else (decide ((IntKind.i64.wrap x8.1) > (20000 : Int)))), none⟩, ⟨41, AV.list 1 (x1.map AV.str), some 0⟩, ⟨42, AV.int .i64 (x1.length : Int), none⟩, ⟨43, AV.int .i64 s5, none⟩] [.dead, .cells 48 [AV.int .i64 (0 : Int), AV.int .i64 (0 : Int)] [], .cells 48 [AV.int .i64 (1 : Int), AV.int .i64 (IntKind.i64.wrap x8.1)] []] [1]) ?_ ?_
     ·refine Gho.to _ _ _ [0] ?_ ?_ ?_ rfl rfl ?_
      ·exact ⟨trivial, ⟨⟨rfl, rfl, rfl⟩, ⟨⟨rfl, rfl, rfl⟩, trivial⟩⟩⟩
      ·exact rfl
      ·exact rfl
      ·exact ⟨rfl, rfl, trivial, rfl, rfl, trivial, rfl, rfl, trivial, rfl, rfl, ⟨rfl, rfl, rfl⟩, rfl, rfl, trivial, rfl, rfl, trivial, trivial⟩
     replace h := oi h
     refine xi ⟨(n1, ((bif (decide ((IntKind.i64.wrap x8.1) < (0 : Int))) then true else (decide ((IntKind.i64.wrap x8.1) > (20000 : Int)))), (IntKind.i64.wrap (s5 + (1 : Int))), (S_Body.mk (1 : Int) (IntKind.i64.wrap x8.1)))), hl1 _ h.symm⟩ (ai (Nat.lt_succ_self _) ?_)
     refine Gho.to _ _ _ [0] ?_ ?_ ?_ rfl rfl ?_
     ·exact ⟨trivial, ⟨⟨rfl, rfl, rfl⟩, ⟨⟨rfl, rfl, rfl⟩, trivial⟩⟩⟩
     ·exact rfl
     ·exact rfl
     ·exact ⟨rfl, rfl, trivial, rfl, rfl, trivial, rfl, rfl, trivial, rfl, rfl, ⟨rfl, rfl, rfl⟩, rfl, rfl, trivial, rfl, rfl, trivial, trivial⟩
  ·replace h := cond_ff h ht
   refine sn <| sj <| sj <| sn ?_
   refine Br.mk (fun ht => ?_) (fun ht => ?_)
   ·replace h := cond_tt h ht
    refine sj ?_
    refine xi none (ai trivial ?_)
    refine ai ⟨rfl, rfl, rfl, lb rfl⟩ (xi [AV.int .i64 (0 : Int), AV.int .i64 (0 : Int)] (ai (fun _ => rfl) ?_))
    refine sn ?_
    replace h := oi h
    replace h := hr1 _ h.symm
    refine RetE.plain ?_
    refine ai ⟨lb rfl, lb rfl⟩ (xi (AV.agg [AV.int .i64 (0 : Int), AV.int .i64 (0 : Int)]) (ai rfl ?_))
    exact ai rfl (ai (congrArg (fun r : (S_Body × Int) => AV.tup [S_Body.av r.1, AV.int .i64 r.2]) h) rfl)
   ·replace h := cond_ff h ht
    refine sn <| sj <| ai ⟨lb rfl, lb rfl⟩ <| NormE.to (S_Body.av s6) (fun _ => rfl) ?_
    refine ai ⟨rfl, rfl, rfl, lb rfl⟩ (xi (S_Body.cells s6) (ai (fun _ => rfl) ?_))
    refine sn ?_
    replace h := oi h
    replace h := hr1 _ h.symm
    refine RetE.plain ?_
    refine ai ⟨lb rfl, lb rfl⟩ (xi (S_Body.av s6) (ai rfl ?_))
    exact ai rfl (ai (congrArg (fun r : (S_Body × Int) => AV.tup [S_Body.av r.1, AV.int .i64 r.2]) h) rfl)
theorem frame_Request_ok (E : Pm.Env) [LaidM E] (a0 : S_Start) (a1 : (List S_Field)) (r : (S_Body × Int)) (h : frame_Request a0 a1 = some r) : FnR E Tryz.prog 130 [S_Start.av a0, AV.list 2 (a1.map S_Field.av)] (AV.tup [S_Body.av r.1, AV.int .i64 r.2]) false := by
 refine FnR.of_ev (T := T) (rows := []) tOk mixed Tryz.func130 rfl (by kernel_rfl) (by kernel_rfl) rfl fun hwf => ?_
 unfold frame_Request at h
 refine sj <| ai rfl <| ai rfl <| sn <| sj <| sj <| ai ⟨lb rfl, lb rfl⟩ <| NormE.to (S_Start.av a0) (fun _ => rfl) <| bind_elim h fun x1 hx1 h => CallH.data _ false rfl (start_Right_ok E a0 x1 hx1) <| ai id <| ai id <| ai (fun hg => (and_r hg)) <| bind_elim h fun x2 hx2 h => ai id <| ai rfl ?_
 refine CallF.mk _ false (fun hg => table_Right_ok E a1 x2 (gcall_some hx2 hg)) (ai rfl ?_)
 refine ai id <| ai (fun hg => (and_r hg)) ?_
 refine SeqN.via (St.of [⟨1, AV.list 2 (a1.map S_Field.av), none⟩, ⟨2, AV.ptr 0 0, none⟩, ⟨4, AV.ptr 1 0, none⟩, ⟨18, AV.bool (bif (bif (!x1) then true else (a0.Code != (0 : Int))) then true else (!x2)), none⟩] [.cells 43 (S_Start.cells a0) [], .cells 48 [AV.int .i64 (0 : Int), AV.int .i64 (0 : Int)] []] []) ?_ ?_
 ·refine Gho.to _ _ _ [] ?_ ?_ ?_ rfl rfl ?_
  ·exact ⟨⟨rfl, rfl, rfl⟩, ⟨⟨rfl, rfl, rfl⟩, trivial⟩⟩
  ·exact rfl
  ·exact rfl
  ·exact ⟨rfl, rfl, trivial, rfl, rfl, trivial, rfl, rfl, trivial, rfl, rfl, trivial, trivial⟩
 refine Br.mk (fun ht => ?_) (fun ht => ?_)
 ·replace h := cond_tt h ht
  refine sj ?_
  refine xi none (ai trivial ?_)
  refine ai ⟨rfl, rfl, rfl, lb rfl⟩ (xi [AV.int .i64 (0 : Int), AV.int .i64 (0 : Int)] (ai (fun _ => rfl) ?_))
  refine sn ?_
  replace h := oi h
  refine RetE.plain ?_
  refine ai ⟨lb rfl, lb rfl⟩ (xi (AV.agg [AV.int .i64 (0 : Int), AV.int .i64 (0 : Int)]) (ai rfl ?_))
  exact ai rfl (ai (congrArg (fun r : (S_Body × Int) => AV.tup [S_Body.av r.1, AV.int .i64 r.2]) h) rfl)
 ·replace h := cond_ff h ht
  refine sn <| sj ?_
  refine xi none (ai trivial ?_)
  refine bind_elim h fun x3 hx3 h => CallH.data _ false rfl (frame_say_ok E a0.Minor a1 (S_Body.mk (0 : Int) (0 : Int)) x3 hx3) ?_
  refine ai ⟨rfl, rfl, rfl, lb rfl⟩ (xi (S_Body.cells x3.1) (ai (fun _ => rfl) ?_))
  refine sn ?_
  replace h := oi h
  refine RetE.plain ?_
  refine ai ⟨lb rfl, lb rfl⟩ (xi (S_Body.av x3.1) (ai rfl ?_))
  exact ai rfl (ai (congrArg (fun r : (S_Body × Int) => AV.tup [S_Body.av r.1, AV.int .i64 r.2]) h) rfl)
theorem frame_Answer_ok (E : Pm.Env) [LaidM E] (a0 : S_Start) (a1 : (List S_Field)) (a2 : Bytes) (r : (S_Body × Int)) (h : frame_Answer a0 a1 a2 = some r) : FnR E Tryz.prog 131 [S_Start.av a0, AV.list 2 (a1.map S_Field.av), AV.str a2] (AV.tup [S_Body.av r.1, AV.int .i64 r.2]) false := by
 refine FnR.of_ev (T := T) (rows := []) tOk mixed Tryz.func131 rfl (by kernel_rfl) (by kernel_rfl) rfl fun hwf => ?_
 unfold frame_Answer at h
 refine sj <| ai rfl <| ai rfl <| sn <| sj <| sj <| ai ⟨lb rfl, lb rfl⟩ <| NormE.to (S_Start.av a0) (fun _ => rfl) <| bind_elim h fun x1 hx1 h => CallH.data _ false rfl (start_Right_ok E a0 x1 hx1) <| ai id <| ai id <| ai (fun hg => (and_r hg)) <| bind_elim h fun x2 hx2 h => ai id <| ai rfl ?_
 refine CallF.mk _ false (fun hg => table_Right_ok E a1 x2 (gcall_some hx2 hg)) (ai rfl ?_)
 refine ai id <| ai (fun hg => (and_r hg)) ?_
 refine SeqN.via (St.of [⟨1, AV.list 2 (a1.map S_Field.av), none⟩, ⟨2, AV.str a2, none⟩, ⟨3, AV.ptr 0 0, none⟩, ⟨6, AV.ptr 1 0, none⟩, ⟨8, AV.bool (bif (bif (!x1) then true else (a0.Code == (0 : Int))) then true else (!x2)), none⟩] [.cells 43 (S_Start.cells a0) [], .cells 48 [AV.int .i64 (0 : Int), AV.int .i64 (0 : Int)] []] []) ?_ ?_
 ·refine Gho.to _ _ _ [] ?_ ?_ ?_ rfl rfl ?_
  ·exact ⟨⟨rfl, rfl, rfl⟩, ⟨⟨rfl, rfl, rfl⟩, trivial⟩⟩
  ·exact rfl
  ·exact rfl
  ·exact ⟨rfl, rfl, trivial, rfl, rfl, trivial, rfl, rfl, trivial, rfl, rfl, trivial, rfl, rfl, trivial, trivial⟩
 refine Br.mk (fun ht => ?_) (fun ht => ?_)
 ·replace h := cond_tt h ht
  refine sj ?_
  refine xi none (ai trivial ?_)
  refine ai ⟨rfl, rfl, rfl, lb rfl⟩ (xi [AV.int .i64 (0 : Int), AV.int .i64 (0 : Int)] (ai (fun _ => rfl) ?_))
  refine sn ?_
  replace h := oi h
  refine RetE.plain ?_
  refine ai ⟨lb rfl, lb rfl⟩ (xi (AV.agg [AV.int .i64 (0 : Int), AV.int .i64 (0 : Int)]) (ai rfl ?_))
  exact ai rfl (ai (congrArg (fun r : (S_Body × Int) => AV.tup [S_Body.av r.1, AV.int .i64 r.2]) h) rfl)
 ·replace h := cond_ff h ht
  refine sj <| ai id <| ai id <| ai (fun hg => (and_r hg)) <| ai id <| ai id <| ai (fun hg => (and_r hg)) <| ai id <| ai (fun hg => (and_r hg)) ?_
  refine SeqN.via (St.of [⟨1, AV.list 2 (a1.map S_Field.av), none⟩, ⟨3, AV.ptr 0 0, none⟩, ⟨6, AV.ptr 1 0, none⟩, ⟨23, AV.bool (bif (bif (bif (decide (a0.Code < (200 : Int))) then true else (a0.Code == (204 : Int))) then true else (a0.Code == (304 : Int))) then true else (a2 == ([72, 69, 65, 68] : Bytes))), none⟩] [.cells 43 (S_Start.cells a0) [], .cells 48 [AV.int .i64 (0 : Int), AV.int .i64 (0 : Int)] []] []) ?_ ?_
  ·refine Gho.to _ _ _ [] ?_ ?_ ?_ rfl rfl ?_
   ·exact ⟨⟨rfl, rfl, rfl⟩, ⟨⟨rfl, rfl, rfl⟩, trivial⟩⟩
   ·exact rfl
   ·exact rfl
   ·exact ⟨rfl, rfl, trivial, rfl, rfl, trivial, rfl, rfl, trivial, rfl, rfl, trivial, trivial⟩
  refine Br.mk (fun ht => ?_) (fun ht => ?_)
  ·replace h := cond_tt h ht
   refine sj ?_
   refine xi none (ai trivial ?_)
   refine ai ⟨rfl, rfl, rfl, lb rfl⟩ (xi [AV.int .i64 (0 : Int), AV.int .i64 (0 : Int)] (ai (fun _ => rfl) ?_))
   refine sn ?_
   replace h := oi h
   refine RetE.plain ?_
   refine ai ⟨lb rfl, lb rfl⟩ (xi (AV.agg [AV.int .i64 (0 : Int), AV.int .i64 (0 : Int)]) (ai rfl ?_))
   exact ai rfl (ai (congrArg (fun r : (S_Body × Int) => AV.tup [S_Body.av r.1, AV.int .i64 r.2]) h) rfl)
  ·replace h := cond_ff h ht
   refine sn <| sj <| ai ⟨rfl, rfl, lb rfl⟩ ?_
   refine xi none (ai trivial ?_)
   refine bind_elim h fun x3 hx3 h => CallH.data _ false rfl (frame_say_ok E a0.Minor a1 (S_Body.mk (3 : Int) (0 : Int)) x3 hx3) ?_
   refine ai ⟨rfl, rfl, rfl, lb rfl⟩ (xi (S_Body.cells x3.1) (ai (fun _ => rfl) ?_))
   refine sn ?_
   replace h := oi h
   refine RetE.plain ?_
   refine ai ⟨lb rfl, lb rfl⟩ (xi (S_Body.av x3.1) (ai rfl ?_))
   exact ai rfl (ai (congrArg (fun r : (S_Body × Int) => AV.tup [S_Body.av r.1, AV.int .i64 r.2]) h) rfl)
theorem wire_body_ok (E : Pm.Env) [LaidM E] (a0 : S_Reader) (r : (S_Body × Int)) (h : wire_body a0 = some r) : FnR E Tryz.prog 71 [S_Reader.av a0] (AV.tup [S_Body.av r.1, AV.int .i64 r.2]) false := by
 refine FnR.of_ev (T := T) (rows := []) tOk mixed Tryz.func71 rfl (by kernel_rfl) (by kernel_rfl) rfl fun hwf => ?_
 unfold wire_body at h
 refine sj <| ai rfl <| ai rfl <| sn <| sj <| sj <| sn ?_
 refine Br.mk (fun ht => ?_) (fun ht => ?_)
 ·replace h := cond_tt h ht
  refine sj <| ai ⟨lb rfl, lb rfl⟩ <| NormE.to (S_Start.av a0.Head.Start) (fun _ => rfl) <| bind_elim h fun x1 hx1 h => CallH.data _ false rfl (frame_Request_ok E a0.Head.Start a0.Head.Fields x1 hx1) ?_
  refine ai ⟨rfl, rfl, rfl, lb rfl⟩ (xi (S_Body.cells x1.1) (ai (fun _ => rfl) ?_))
  refine SeqN.via (St.of [⟨2, AV.ptr 1 0, none⟩, ⟨3, AV.int .i64 x1.2, none⟩] [.dead, .cells 48 (S_Body.cells x1.1) []] []) ?_ ?_
  ·refine Gho.to _ _ _ [] ?_ ?_ ?_ rfl rfl ?_
   ·exact ⟨trivial, ⟨⟨rfl, rfl, rfl⟩, trivial⟩⟩
   ·exact rfl
   ·exact rfl
   ·exact ⟨rfl, rfl, trivial, rfl, rfl, trivial, trivial⟩
  replace h := oi h
  refine RetE.plain ?_
  refine ai ⟨lb rfl, lb rfl⟩ (xi (S_Body.av x1.1) (ai rfl ?_))
  exact ai rfl (ai (congrArg (fun r : (S_Body × Int) => AV.tup [S_Body.av r.1, AV.int .i64 r.2]) h) rfl)
 ·replace h := cond_ff h ht
  refine sn <| sj <| ai ⟨lb rfl, lb rfl⟩ <| NormE.to (S_Start.av a0.Head.Start) (fun _ => rfl) <| bind_elim h fun x2 hx2 h => CallH.data _ false rfl (frame_Answer_ok E a0.Head.Start a0.Head.Fields a0.Method x2 hx2) ?_
  refine ai ⟨rfl, rfl, rfl, lb rfl⟩ (xi (S_Body.cells x2.1) (ai (fun _ => rfl) ?_))
  refine SeqN.via (St.of [⟨2, AV.ptr 1 0, none⟩, ⟨3, AV.int .i64 x2.2, none⟩] [.dead, .cells 48 (S_Body.cells x2.1) []] []) ?_ ?_
  ·refine Gho.to _ _ _ [] ?_ ?_ ?_ rfl rfl ?_
   ·exact ⟨trivial, ⟨⟨rfl, rfl, rfl⟩, trivial⟩⟩
   ·exact rfl
   ·exact rfl
   ·exact ⟨rfl, rfl, trivial, rfl, rfl, trivial, trivial⟩
  replace h := oi h
  refine RetE.plain ?_
  refine ai ⟨lb rfl, lb rfl⟩ (xi (S_Body.av x2.1) (ai rfl ?_))
  exact ai rfl (ai (congrArg (fun r : (S_Body × Int) => AV.tup [S_Body.av r.1, AV.int .i64 r.2]) h) rfl)
theorem strings_Index_ok (E : Pm.Env) [LaidM E] (a0 : Bytes) (a1 : Bytes) (r : Int) (h : strings_Index a0 a1 = some r) : FnR E Tryz.prog 59 [AV.str a0, AV.str a1] (AV.int .i64 r) false := by
 refine FnR.of_ev (T := T) (rows := []) tOk mixed Tryz.func59 rfl (by kernel_rfl) (by kernel_rfl) rfl fun hwf => ?_
 unfold strings_Index at h
 refine sj <| sn <| sj <| bind_elim h fun x1 hx1 h => CallH.data _ false rfl (stringslite_Index_ok E a0 a1 x1 hx1) <| sn ?_
 replace h := oi h
 refine RetE.plain ?_
 exact ai rfl (ai (congrArg (fun r : Int => AV.int .i64 r) h) rfl)
theorem strings_Contains_ok (E : Pm.Env) [LaidM E] (a0 : Bytes) (a1 : Bytes) (r : Bool) (h : strings_Contains a0 a1 = some r) : FnR E Tryz.prog 132 [AV.str a0, AV.str a1] (AV.bool r) false := by
 refine FnR.of_ev (T := T) (rows := []) tOk mixed Tryz.func132 rfl (by kernel_rfl) (by kernel_rfl) rfl fun hwf => ?_
 unfold strings_Contains at h
 refine sj <| sn <| sj <| bind_elim h fun x1 hx1 h => CallH.data _ false rfl (strings_Index_ok E a0 a1 x1 hx1) <| sn ?_
 replace h := oi h
 refine RetE.plain ?_
 exact ai rfl (ai (congrArg (fun r : Bool => AV.bool r) h) rfl)
theorem chunk_Right_ok (E : Pm.Env) [LaidM E] (a0 : S_Chunked) (r : Bool) (h : chunk_Right a0 = some r) : FnR E Tryz.prog 72 [S_Chunked.av a0] (AV.bool r) false := by
 refine FnR.of_ev (T := T) (rows := []) tOk mixed Tryz.func72 rfl (by kernel_rfl) (by kernel_rfl) rfl fun hwf => ?_
 unfold chunk_Right at h
 refine sj <| ai rfl <| sn <| sj <| sj <| ai id <| ai id <| ai (fun hg => (and_r hg)) <| ai id <| ai id <| ai (fun hg => (and_r hg)) <| ai id <| ai id <| ai (fun hg => (and_r hg)) <| ai id <| ai id <| NormE.same <| ai id <| ai (fun hg => (and_r hg)) <| ai id <| bind_elim h fun x1 hx1 h => ai id <| ai rfl ?_
 refine CallF.mk _ false (fun hg => strings_Contains_ok E a0.Line ([10] : Bytes) x1 (gcall_some hx1 hg)) (ai rfl ?_)
 refine ai (fun hg => (and_r hg)) ?_
 refine SeqN.via (St.of [⟨1, AV.ptr 0 0, none⟩, ⟨31, AV.bool (bif (bif (bif (bif (bif (decide (a0.Stage < (0 : Int))) then true else (decide (a0.Stage > (4 : Int)))) then true else (decide (a0.Size < (0 : Int)))) then true else (decide (a0.Size > (20000 : Int)))) then true else (decide ((a0.Line.length : Int) > (200 : Int)))) then true else x1), none⟩] [.cells 50 (S_Chunked.cells a0) []] []) ?_ ?_
 ·refine Gho.to _ _ _ [] ?_ ?_ ?_ rfl rfl ?_
  ·exact ⟨⟨rfl, rfl, rfl⟩, trivial⟩
  ·exact rfl
  ·exact rfl
  ·exact ⟨rfl, rfl, trivial, rfl, rfl, trivial, trivial⟩
 refine Br.mk (fun ht => ?_) (fun ht => ?_)
 ·replace h := cond_tt h ht
  refine sj <| sn ?_
  replace h := oi h
  refine RetE.plain ?_
  exact ai rfl (ai (congrArg (fun r : Bool => AV.bool r) h) rfl)
 ·replace h := cond_ff h ht
  refine sn <| sj <| sj <| sn ?_
  refine Br.mk (fun ht => ?_) (fun ht => ?_)
  ·replace h := cond_tt h ht
   refine sj <| ai id <| ai id <| ai id <| ai id <| ai id <| ai (fun hg => (and_r hg)) <| ai id <| ai id <| ai (fun hg => (and_r hg)) ?_
   refine SeqN.via (St.of [⟨2, AV.bool (bif (bif (decide (a0.Left ≥ (1 : Int))) then (decide (a0.Left ≤ (IntKind.i64.wrap ((20000 : Int) - a0.Size)))) else false) then (a0.Line == ([] : Bytes)) else false), none⟩] [] []) ?_ ?_
   ·refine Gho.to _ _ _ [] ?_ ?_ ?_ rfl rfl ?_
    ·exact trivial
    ·exact rfl
    ·exact rfl
    ·exact ⟨rfl, rfl, trivial, trivial⟩
   replace h := oi h
   refine RetE.plain ?_
   exact ai rfl (ai (congrArg (fun r : Bool => AV.bool r) h) rfl)
  ·replace h := cond_ff h ht
   refine sn <| sj <| ai id <| ai id <| ai id <| ai id <| ai id <| ai id <| ai id <| ai (fun hg => (and_r hg)) ?_
   refine SeqN.via (St.of [⟨2, AV.bool (bif (a0.Left == (0 : Int)) then (bif (a0.Stage != (4 : Int)) then true else (a0.Line == ([] : Bytes))) else false), none⟩] [] []) ?_ ?_
   ·refine Gho.to _ _ _ [] ?_ ?_ ?_ rfl rfl ?_
    ·exact trivial
    ·exact rfl
    ·exact rfl
    ·exact ⟨rfl, rfl, trivial, trivial⟩
   replace h := oi h
   refine RetE.plain ?_
   exact ai rfl (ai (congrArg (fun r : Bool => AV.bool r) h) rfl)
theorem wire_Right_ok (E : Pm.Env) [LaidM E] (a0 : S_Reader) (r : Bool) (h : wire_Right a0 = some r) : FnR E Tryz.prog 26 [S_Reader.av a0] (AV.bool r) false := by
 refine FnR.of_ev (T := T) (rows := []) tOk mixed Tryz.func26 rfl (by kernel_rfl) (by kernel_rfl) rfl fun hwf => ?_
 unfold wire_Right at h
 refine sj <| ai rfl <| sn <| sj <| sj <| sn ?_
 refine Br.mk (fun ht => ?_) (fun ht => ?_)
 ·replace h := cond_tt h ht
  refine sj <| ai ⟨lb rfl, lb rfl⟩ <| NormE.to (S_Reader.av a0) (fun _ => rfl) <| bind_elim h fun x1 hx1 h => CallH.data _ false rfl (wire_bare_ok E a0 x1 hx1) <| sn ?_
  replace h := oi h
  refine RetE.plain ?_
  exact ai rfl (ai (congrArg (fun r : Bool => AV.bool r) h) rfl)
 ·replace h := cond_ff h ht
  refine sn <| sj <| sj <| sn ?_
  refine Br.mk (fun ht => ?_) (fun ht => ?_)
  ·replace h := cond_tt h ht
   refine sj <| sn <| sj ?_
   refine ai ⟨rfl, rfl, rfl, lb rfl⟩ (xi [AV.bool a0.Asks, AV.str a0.Method, AV.str ([] : Bytes), AV.bool a0.In, AV.str a0.Head.Start.Method, AV.str a0.Head.Start.Target, AV.int .i64 a0.Head.Start.Code, AV.str a0.Head.Start.Reason, AV.int .i64 a0.Head.Start.Minor, AV.list 2 (a0.Head.Fields.map S_Field.av), AV.str a0.Head.Body, AV.int .i64 a0.Body.Kind, AV.int .i64 a0.Body.Size, AV.int .i64 a0.Chunk.Stage, AV.str a0.Chunk.Line, AV.int .i64 a0.Chunk.Left, AV.int .i64 a0.Chunk.Size, AV.int .i64 a0.Bad] (ai (fun _ => rfl) ?_))
   refine sn <| sj <| ai ⟨lb rfl, lb rfl⟩ <| NormE.to (AV.agg [AV.bool a0.Asks, AV.str a0.Method, AV.str ([] : Bytes), AV.bool a0.In, AV.str a0.Head.Start.Method, AV.str a0.Head.Start.Target, AV.int .i64 a0.Head.Start.Code, AV.str a0.Head.Start.Reason, AV.int .i64 a0.Head.Start.Minor, AV.list 2 (a0.Head.Fields.map S_Field.av), AV.str a0.Head.Body, AV.int .i64 a0.Body.Kind, AV.int .i64 a0.Body.Size, AV.int .i64 a0.Chunk.Stage, AV.str a0.Chunk.Line, AV.int .i64 a0.Chunk.Left, AV.int .i64 a0.Chunk.Size, AV.int .i64 a0.Bad]) (fun _ => rfl) <| bind_elim h fun x2 hx2 h => CallH.data _ false rfl (wire_bare_ok E (S_Reader.mk a0.Asks a0.Method ([] : Bytes) a0.In a0.Head a0.Body a0.Chunk a0.Bad) x2 hx2) <| ai id <| NormE.same <| ai id <| ai (fun hg => (and_r hg)) ?_
   refine SeqN.via (St.of [⟨2, AV.bool (bif x2 then (decide ((a0.Buf.length : Int) ≤ (4000 : Int))) else false), none⟩] [] []) ?_ ?_
   ·refine Gho.to _ _ _ [] ?_ ?_ ?_ rfl rfl ?_
    ·exact trivial
    ·exact rfl
    ·exact rfl
    ·exact ⟨rfl, rfl, trivial, trivial⟩
   replace h := oi h
   refine RetE.plain ?_
   exact ai rfl (ai (congrArg (fun r : Bool => AV.bool r) h) rfl)
  ·replace h := cond_ff h ht
   refine sn <| sj <| ai ⟨lb rfl, lb rfl⟩ <| NormE.to (S_Reader.av a0) (fun _ => rfl) <| bind_elim h fun x3 hx3 h => CallH.data _ false rfl (wire_body_ok E a0 x3 hx3) <| ai rfl ?_
   refine ai ⟨rfl, rfl, rfl, lb rfl⟩ (xi (S_Body.cells x3.1) (ai (fun _ => rfl) ?_))
   refine SeqN.via (St.of [⟨1, AV.ptr 0 0, none⟩, ⟨4, AV.ptr 1 0, none⟩, ⟨5, AV.int .i64 x3.2, none⟩] [.cells 52 (S_Reader.cells a0) [], .cells 48 (S_Body.cells x3.1) []] []) ?_ ?_
   ·refine Gho.to _ _ _ [] ?_ ?_ ?_ rfl rfl ?_
    ·exact ⟨⟨rfl, rfl, rfl⟩, ⟨⟨rfl, rfl, rfl⟩, trivial⟩⟩
    ·exact rfl
    ·exact rfl
    ·exact ⟨rfl, rfl, trivial, rfl, rfl, trivial, rfl, rfl, trivial, trivial⟩
   refine sj <| NormE.same <| sn <| sj <| sj <| ai ⟨lb rfl, lb rfl⟩ <| NormE.to (S_Body.av x3.1) (fun _ => rfl) <| ai id <| ai ⟨lb rfl, lb rfl⟩ <| NormE.to (S_Body.av a0.Body) (fun _ => rfl) <| ai id <| ai id <| ai rfl <| ai (fun hg => (and_r hg)) <| ai id <| ai id <| ai (fun hg => (and_r hg)) <| ai id <| ai id <| ai id <| ai id <| ai ⟨lb rfl, lb rfl⟩ <| NormE.to (S_Chunked.av a0.Chunk) (fun _ => rfl) ?_
   refine xi none (ai trivial ?_)
   refine ai id <| ai id <| ai rfl <| ai id <| ai id <| ai (fun hg => (and_r hg)) ?_
   refine SeqN.via (St.of [⟨1, AV.ptr 0 0, none⟩, ⟨4, AV.ptr 1 0, none⟩, ⟨6, AV.int .i64 (a0.Head.Body.length : Int), none⟩, ⟨57, AV.bool (bif (bif (bif (x3.2 != (0 : Int)) then true else (!((x3.1.Kind == a0.Body.Kind) && ((x3.1.Size == a0.Body.Size) && true)))) then true else (!(a0.Buf == ([] : Bytes)))) then true else (bif (x3.1.Kind != (2 : Int)) then (!((a0.Chunk.Stage == (0 : Int)) && ((a0.Chunk.Line == ([] : Bytes)) && ((a0.Chunk.Left == (0 : Int)) && ((a0.Chunk.Size == (0 : Int)) && true))))) else false)), none⟩] [.cells 52 (S_Reader.cells a0) [], .cells 48 (S_Body.cells x3.1) []] []) ?_ ?_
   ·refine Gho.to _ _ _ [] ?_ ?_ ?_ rfl rfl ?_
    ·exact ⟨⟨rfl, rfl, rfl⟩, ⟨⟨rfl, rfl, rfl⟩, trivial⟩⟩
    ·exact rfl
    ·exact rfl
    ·exact ⟨rfl, rfl, trivial, rfl, rfl, trivial, rfl, rfl, trivial, rfl, rfl, trivial, trivial⟩
   refine Br.mk (fun ht => ?_) (fun ht => ?_)
   ·replace h := cond_tt h ht
    refine sj <| sn ?_
    replace h := oi h
    refine RetE.plain ?_
    exact ai rfl (ai (congrArg (fun r : Bool => AV.bool r) h) rfl)
   ·replace h := cond_ff h ht
    refine sn <| sj <| sj <| sn <| sj <| sn ?_
    refine Br.mk (fun ht => ?_) (fun ht => ?_)
    ·replace h := cond_tt h ht
     refine sj <| sn ?_
     replace h := oi h
     refine RetE.plain ?_
     exact ai rfl (ai (congrArg (fun r : Bool => AV.bool r) h) rfl)
    ·replace h := cond_ff h ht
     refine sj <| sn ?_
     refine Br.mk (fun ht => ?_) (fun ht => ?_)
     ·replace h := cond_tt h ht
      refine sj <| ai ⟨lb rfl, lb rfl⟩ <| NormE.to (S_Chunked.av a0.Chunk) (fun _ => rfl) <| bind_elim h fun x4 hx4 h => CallH.data _ false rfl (chunk_Right_ok E a0.Chunk x4 hx4) <| ai id <| ai id <| ai id <| ai (fun hg => (and_r hg)) <| ai id <| ai id <| ai id <| ai id <| ai (fun hg => (and_r hg)) ?_
      refine SeqN.via (St.of [⟨2, AV.bool (bif (bif x4 then (a0.Chunk.Stage != (4 : Int)) else false) then (a0.Chunk.Size == (a0.Head.Body.length : Int)) else false), none⟩] [] []) ?_ ?_
      ·refine Gho.to _ _ _ [] ?_ ?_ ?_ rfl rfl ?_
       ·exact trivial
       ·exact rfl
       ·exact rfl
       ·exact ⟨rfl, rfl, trivial, trivial⟩
      replace h := oi h
      refine RetE.plain ?_
      exact ai rfl (ai (congrArg (fun r : Bool => AV.bool r) h) rfl)
     ·replace h := cond_ff h ht
      refine sj <| sn ?_
      refine Br.mk (fun ht => ?_) (fun ht => ?_)
      ·replace h := cond_tt h ht
       refine sj <| sn ?_
       replace h := oi h
       refine RetE.plain ?_
       exact ai rfl (ai (congrArg (fun r : Bool => AV.bool r) h) rfl)
      ·replace h := cond_ff h ht
       refine sn <| sj <| sn ?_
       replace h := oi h
       refine RetE.plain ?_
       exact ai rfl (ai (congrArg (fun r : Bool => AV.bool r) h) rfl)
theorem wire_reading_whole_ok (E : Pm.Env) [LaidM E] (o0 : S_wire_reading) (r : Bool) (o0' : S_wire_reading) (h : wire_reading_whole o0 = some (r, o0')) : FnW E Tryz.prog 127 [AV.ptr 0 0] [.cells 113 (S_wire_reading.cells o0) [(18, 0)]] [1] (AV.bool r) none [.cells 113 (S_wire_reading.cells o0') [(18, 1)]] [0, 1] := by
 refine FnW.of_evB (T := T) (rows := []) tOk mixed Tryz.func127 rfl (by kernel_rfl) (by kernel_rfl) rfl rfl fun hwf => ?_
 unfold wire_reading_whole at h
 refine sj <| sn <| sj <| ai ⟨lb rfl, lb rfl⟩ <| NormE.to (AV.agg [AV.str o0.Reader.Head.Start.Method, AV.str o0.Reader.Head.Start.Target, AV.int .i64 o0.Reader.Head.Start.Code, AV.str o0.Reader.Head.Start.Reason, AV.int .i64 o0.Reader.Head.Start.Minor, AV.list 2 (o0.Reader.Head.Fields.map S_Field.av), AV.str o0.Reader.Head.Body]) (fun _ => rfl) <| ai ⟨rfl, rfl, rfl, rfl⟩ <| ai ⟨rfl, rfl, rfl⟩ <| NormE.to (AV.list 7 (([o0.Reader.Head] : List S_Message).map S_Message.av)) (fun _ => rfl) <| bind_elim h fun x1 hx1 h => ?_
 have qx1 := (app_some hx1).1
 have hx1e := (app_some hx1).2
 refine ai ⟨rfl, rfl, rfl⟩ <| ai rfl <| ai (app_cond S_Message.av qx1) <| NormE.to (AV.list 7 (x1.map S_Message.av)) (fun _ => (app_list 7 S_Message.av _ _).trans (congrArg (fun y => AV.list 7 (List.map S_Message.av y)) hx1e.symm)) ?_
 refine ai ⟨rfl, rfl, rfl, lb rfl⟩ (xi [AV.bool o0.Reader.Asks, AV.str o0.Reader.Method, AV.str o0.Reader.Buf, AV.bool o0.Reader.In, AV.str o0.Reader.Head.Start.Method, AV.str o0.Reader.Head.Start.Target, AV.int .i64 o0.Reader.Head.Start.Code, AV.str o0.Reader.Head.Start.Reason, AV.int .i64 o0.Reader.Head.Start.Minor, AV.list 2 (o0.Reader.Head.Fields.map S_Field.av), AV.str o0.Reader.Head.Body, AV.int .i64 o0.Reader.Body.Kind, AV.int .i64 o0.Reader.Body.Size, AV.int .i64 o0.Reader.Chunk.Stage, AV.str o0.Reader.Chunk.Line, AV.int .i64 o0.Reader.Chunk.Left, AV.int .i64 o0.Reader.Chunk.Size, AV.int .i64 o0.Reader.Bad, AV.list 7 (x1.map S_Message.av)] (ai (fun _ => rfl) ?_))
 refine ai (by kernel_rfl) ?_
 refine SeqN.via (St.of [⟨0, AV.ptr 0 0, none⟩] [.cells 113 [AV.bool o0.Reader.Asks, AV.str o0.Reader.Method, AV.str o0.Reader.Buf, AV.bool o0.Reader.In, AV.str o0.Reader.Head.Start.Method, AV.str o0.Reader.Head.Start.Target, AV.int .i64 o0.Reader.Head.Start.Code, AV.str o0.Reader.Head.Start.Reason, AV.int .i64 o0.Reader.Head.Start.Minor, AV.list 2 (o0.Reader.Head.Fields.map S_Field.av), AV.str o0.Reader.Head.Body, AV.int .i64 o0.Reader.Body.Kind, AV.int .i64 o0.Reader.Body.Size, AV.int .i64 o0.Reader.Chunk.Stage, AV.str o0.Reader.Chunk.Line, AV.int .i64 o0.Reader.Chunk.Left, AV.int .i64 o0.Reader.Chunk.Size, AV.int .i64 o0.Reader.Bad, AV.list 7 (x1.map S_Message.av)] [(18, 1)]] [0, 1]) ?_ ?_
 ·refine Gho.to _ _ _ [0, 2] ?_ ?_ ?_ rfl rfl ?_
  ·exact ⟨⟨rfl, rfl, rfl⟩, trivial⟩
  ·exact rfl
  ·exact rfl
  ·exact ⟨rfl, rfl, trivial, trivial⟩
 refine sj ?_
 refine xi (some 127) (ai (okM.mk (by kernel_rfl)) ?_)
 refine xi none (ai trivial ?_)
 refine xi none (ai trivial ?_)
 refine ai ⟨rfl, rfl, rfl, lb rfl⟩ (xi [AV.bool o0.Reader.Asks, AV.str o0.Reader.Method, AV.str o0.Reader.Buf, AV.bool o0.Reader.In, AV.str ([] : Bytes), AV.str ([] : Bytes), AV.int .i64 (0 : Int), AV.str ([] : Bytes), AV.int .i64 (0 : Int), AV.list 2 (([] : List S_Field).map S_Field.av), AV.str ([] : Bytes), AV.int .i64 o0.Reader.Body.Kind, AV.int .i64 o0.Reader.Body.Size, AV.int .i64 o0.Reader.Chunk.Stage, AV.str o0.Reader.Chunk.Line, AV.int .i64 o0.Reader.Chunk.Left, AV.int .i64 o0.Reader.Chunk.Size, AV.int .i64 o0.Reader.Bad, AV.list 7 (x1.map S_Message.av)] (ai (fun _ => rfl) ?_))
 refine ai ⟨rfl, rfl, rfl, lb rfl⟩ (xi [AV.bool o0.Reader.Asks, AV.str o0.Reader.Method, AV.str o0.Reader.Buf, AV.bool o0.Reader.In, AV.str ([] : Bytes), AV.str ([] : Bytes), AV.int .i64 (0 : Int), AV.str ([] : Bytes), AV.int .i64 (0 : Int), AV.list 2 (([] : List S_Field).map S_Field.av), AV.str ([] : Bytes), AV.int .i64 (0 : Int), AV.int .i64 (0 : Int), AV.int .i64 o0.Reader.Chunk.Stage, AV.str o0.Reader.Chunk.Line, AV.int .i64 o0.Reader.Chunk.Left, AV.int .i64 o0.Reader.Chunk.Size, AV.int .i64 o0.Reader.Bad, AV.list 7 (x1.map S_Message.av)] (ai (fun _ => rfl) ?_))
 refine ai ⟨rfl, rfl, rfl, lb rfl⟩ (xi [AV.bool o0.Reader.Asks, AV.str o0.Reader.Method, AV.str o0.Reader.Buf, AV.bool o0.Reader.In, AV.str ([] : Bytes), AV.str ([] : Bytes), AV.int .i64 (0 : Int), AV.str ([] : Bytes), AV.int .i64 (0 : Int), AV.list 2 (([] : List S_Field).map S_Field.av), AV.str ([] : Bytes), AV.int .i64 (0 : Int), AV.int .i64 (0 : Int), AV.int .i64 (0 : Int), AV.str ([] : Bytes), AV.int .i64 (0 : Int), AV.int .i64 (0 : Int), AV.int .i64 o0.Reader.Bad, AV.list 7 (x1.map S_Message.av)] (ai (fun _ => rfl) ?_))
 refine ai ⟨rfl, rfl, rfl, lb rfl⟩ (xi [AV.bool o0.Reader.Asks, AV.str o0.Reader.Method, AV.str o0.Reader.Buf, AV.bool false, AV.str ([] : Bytes), AV.str ([] : Bytes), AV.int .i64 (0 : Int), AV.str ([] : Bytes), AV.int .i64 (0 : Int), AV.list 2 (([] : List S_Field).map S_Field.av), AV.str ([] : Bytes), AV.int .i64 (0 : Int), AV.int .i64 (0 : Int), AV.int .i64 (0 : Int), AV.str ([] : Bytes), AV.int .i64 (0 : Int), AV.int .i64 (0 : Int), AV.int .i64 o0.Reader.Bad, AV.list 7 (x1.map S_Message.av)] (ai (fun _ => rfl) ?_))
 refine SeqN.via (St.of [] [.cells 113 [AV.bool o0.Reader.Asks, AV.str o0.Reader.Method, AV.str o0.Reader.Buf, AV.bool false, AV.str ([] : Bytes), AV.str ([] : Bytes), AV.int .i64 (0 : Int), AV.str ([] : Bytes), AV.int .i64 (0 : Int), AV.list 2 (([] : List S_Field).map S_Field.av), AV.str ([] : Bytes), AV.int .i64 (0 : Int), AV.int .i64 (0 : Int), AV.int .i64 (0 : Int), AV.str ([] : Bytes), AV.int .i64 (0 : Int), AV.int .i64 (0 : Int), AV.int .i64 o0.Reader.Bad, AV.list 7 (x1.map S_Message.av)] [(9, 1), (18, 2)]] [0, 1, 1]) ?_ ?_
 ·refine Gho.to _ _ _ [0, 2, 1] ?_ ?_ ?_ rfl rfl ?_
  ·exact ⟨⟨rfl, rfl, rfl⟩, trivial⟩
  ·exact rfl
  ·exact rfl
  ·exact trivial
 refine sj <| sn ?_
 replace h := oi h
 have h0 := (Prod.mk.inj h).1
 have h1 := (Prod.mk.inj h).2
 subst h0
 subst h1
 refine xi [⟨2, AV.bool true, none⟩] (ai (Gho.to _ _ _ [0, 2] ?_ ?_ ?_ rfl rfl ?_) (ai ?_ rfl))
 ·exact ⟨⟨rfl, rfl, rfl⟩, trivial⟩
 ·exact rfl
 ·exact rfl
 ·exact ⟨rfl, rfl, trivial, trivial⟩
 ·exact rfl
theorem chunk_state_end_ok (E : Pm.Env) [LaidM E] (o0 : S_chunk_state) (a1 : Bytes) (r : Unit) (o0' : S_chunk_state) (h : chunk_state_end o0 a1 = some (r, o0')) : FnW E Tryz.prog 209 [AV.ptr 0 0, AV.str a1] [.cells 204 (S_chunk_state.cells o0) []] [] (AV.tup []) none [.cells 204 (S_chunk_state.cells o0') []] [] := by
 refine FnW.of_evB (T := T) (rows := []) tOk mixed Tryz.func209 rfl (by kernel_rfl) (by kernel_rfl) rfl rfl fun hwf => ?_
 unfold chunk_state_end at h
 refine sj ?_
 refine ai ⟨rfl, rfl, rfl, lb rfl⟩ (xi [AV.int .i64 (0 : Int), AV.str o0.Chunked.Line, AV.int .i64 o0.Chunked.Left, AV.int .i64 o0.Chunked.Size, AV.int .i64 o0.bad] (ai (fun _ => rfl) ?_))
 refine sn <| sj <| sn ?_
 refine Br.mk (fun ht => ?_) (fun ht => ?_)
 ·replace h := cond_tt h ht
  refine ai ⟨rfl, rfl, rfl, lb rfl⟩ (xi [AV.int .i64 (0 : Int), AV.str o0.Chunked.Line, AV.int .i64 o0.Chunked.Left, AV.int .i64 o0.Chunked.Size, AV.int .i64 (33 : Int)] (ai (fun _ => rfl) ?_))
  replace h := oi h
  have h0 := (Prod.mk.inj h).1
  have h1 := (Prod.mk.inj h).2
  subst h0
  subst h1
  refine xi [] (ai (Gho.to _ _ _ [] ?_ ?_ ?_ rfl rfl ?_) (ai ?_ rfl))
  ·exact ⟨⟨rfl, rfl, rfl⟩, trivial⟩
  ·exact rfl
  ·exact rfl
  ·exact trivial
  ·exact rfl
 ·replace h := cond_ff h ht
  replace h := oi h
  have h0 := (Prod.mk.inj h).1
  have h1 := (Prod.mk.inj h).2
  subst h0
  subst h1
  refine xi [] (ai (Gho.to _ _ _ [] ?_ ?_ ?_ rfl rfl ?_) (ai ?_ rfl))
  ·exact ⟨⟨rfl, rfl, rfl⟩, trivial⟩
  ·exact rfl
  ·exact rfl
  ·exact trivial
  ·exact rfl
theorem chunk_state_tail_ok (E : Pm.Env) [LaidM E] (o0 : S_chunk_state) (a1 : Bytes) (r : Unit) (o0' : S_chunk_state) (h : chunk_state_tail o0 a1 = some (r, o0')) : FnW E Tryz.prog 210 [AV.ptr 0 0, AV.str a1] [.cells 204 (S_chunk_state.cells o0) []] [] (AV.tup []) none [.cells 204 (S_chunk_state.cells o0') []] [] := by
 refine FnW.of_evB (T := T) (rows := []) tOk mixed Tryz.func210 rfl (by kernel_rfl) (by kernel_rfl) rfl rfl fun hwf => ?_
 unfold chunk_state_tail at h
 refine sj <| sn ?_
 refine Br.mk (fun ht => ?_) (fun ht => ?_)
 ·replace h := cond_tt h ht
  refine ai ⟨rfl, rfl, rfl, lb rfl⟩ (xi [AV.int .i64 (4 : Int), AV.str o0.Chunked.Line, AV.int .i64 o0.Chunked.Left, AV.int .i64 o0.Chunked.Size, AV.int .i64 o0.bad] (ai (fun _ => rfl) ?_))
  replace h := oi h
  have h0 := (Prod.mk.inj h).1
  have h1 := (Prod.mk.inj h).2
  subst h0
  subst h1
  refine xi [] (ai (Gho.to _ _ _ [] ?_ ?_ ?_ rfl rfl ?_) (ai ?_ rfl))
  ·exact ⟨⟨rfl, rfl, rfl⟩, trivial⟩
  ·exact rfl
  ·exact rfl
  ·exact trivial
  ·exact rfl
 ·replace h := cond_ff h ht
  replace h := oi h
  have h0 := (Prod.mk.inj h).1
  have h1 := (Prod.mk.inj h).2
  subst h0
  subst h1
  refine xi [] (ai (Gho.to _ _ _ [] ?_ ?_ ?_ rfl rfl ?_) (ai ?_ rfl))
  ·exact ⟨⟨rfl, rfl, rfl⟩, trivial⟩
  ·exact rfl
  ·exact rfl
  ·exact trivial
  ·exact rfl
theorem number_ReadHex_1_ok (E : Pm.Env) [LaidM E] (a0 : Int) (r : Int) (h : number_ReadHex_1 a0 = some r) : FnR E Tryz.prog 263 [AV.int .u8 a0] (AV.int .u64 r) false := by
 refine FnR.of_ev (T := T) (rows := []) tOk mixed Tryz.func263 rfl (by kernel_rfl) (by kernel_rfl) rfl fun hwf => ?_
 unfold number_ReadHex_1 at h
 refine sj <| sn <| sj <| sj <| ai id <| ai (fun hg => (and_r hg)) <| sn ?_
 refine Br.mk (fun ht => ?_) (fun ht => ?_)
 ·replace h := cond_tt h ht
  refine sj <| sn ?_
  replace h := oi h
  refine RetE.plain ?_
  exact ai rfl (ai (congrArg (fun r : Int => AV.int .u64 r) h) rfl)
 ·replace h := cond_ff h ht
  refine sj <| ai id <| ai (fun hg => (and_r hg)) <| sn ?_
  refine Br.mk (fun ht => ?_) (fun ht => ?_)
  ·replace h := cond_tt h ht
   refine sj ?_
   refine SeqN.via (St.of [⟨2, AV.int .u64 (IntKind.u64.wrap ((IntKind.u64.wrap (IntKind.u8.wrap (a0 - (65 : Int)))) + (10 : Int))), none⟩] [] []) ?_ ?_
   ·refine Gho.to _ _ _ [] ?_ ?_ ?_ rfl rfl ?_
    ·exact trivial
    ·exact rfl
    ·exact rfl
    ·exact ⟨rfl, rfl, trivial, trivial⟩
   replace h := oi h
   refine RetE.plain ?_
   exact ai rfl (ai (congrArg (fun r : Int => AV.int .u64 r) h) rfl)
  ·replace h := cond_ff h ht
   refine sj <| ai id <| ai (fun hg => (and_r hg)) ?_
   refine SeqN.via (St.of [⟨0, AV.int .u8 a0, none⟩, ⟨24, AV.bool (bif (decide (a0 ≥ (97 : Int))) then (decide (a0 ≤ (102 : Int))) else false), none⟩] [] []) ?_ ?_
   ·refine Gho.to _ _ _ [] ?_ ?_ ?_ rfl rfl ?_
    ·exact trivial
    ·exact rfl
    ·exact rfl
    ·exact ⟨rfl, rfl, trivial, rfl, rfl, trivial, trivial⟩
   refine Br.mk (fun ht => ?_) (fun ht => ?_)
   ·replace h := cond_tt h ht
    refine sj <| sn ?_
    replace h := oi h
    refine RetE.plain ?_
    exact ai rfl (ai (congrArg (fun r : Int => AV.int .u64 r) h) rfl)
   ·replace h := cond_ff h ht
    refine sn <| sj <| sn ?_
    replace h := oi h
    refine RetE.plain ?_
    exact ai rfl (ai (congrArg (fun r : Int => AV.int .u64 r) h) rfl)
theorem number_ReadHex_ok (E : Pm.Env) [LaidM E] (a0 : Bytes) (r : (Int × Int)) (h : number_ReadHex a0 = some r) : FnR E Tryz.prog 243 [AV.str a0] (AV.tup [AV.int .u64 r.1, AV.int .i64 r.2]) false := by
 refine FnR.of_ev (T := T) (rows := []) tOk mixed Tryz.func243 rfl (by kernel_rfl) (by kernel_rfl) rfl fun hwf => ?_
 unfold number_ReadHex at h
 refine sj <| sn <| sj <| bind_elim h fun x1 hx1 h => CallH.data _ false rfl (number_read_uint64_ok E a0 (16 : Int) 263 [] (fun x0 => number_ReadHex_1 x0) (fun x0 r h => number_ReadHex_1_ok E x0 r h) rfl x1 hx1) <| sn ?_
 replace h := oi h
 refine RetE.plain ?_
 exact ai rfl (ai (congrArg (fun r : (Int × Int) => AV.tup [AV.int .u64 r.1, AV.int .i64 r.2]) h) rfl)
theorem chunk_state_size_ok (E : Pm.Env) [LaidM E] (o0 : S_chunk_state) (a1 : Bytes) (r : Unit) (o0' : S_chunk_state) (h : chunk_state_size o0 a1 = some (r, o0')) : FnW E Tryz.prog 208 [AV.ptr 0 0, AV.str a1] [.cells 204 (S_chunk_state.cells o0) []] [] (AV.tup []) none [.cells 204 (S_chunk_state.cells o0') []] [] := by
 refine FnW.of_evB (T := T) (rows := []) tOk mixed Tryz.func208 rfl (by kernel_rfl) (by kernel_rfl) rfl rfl fun hwf => ?_
 unfold chunk_state_size at h
 refine sj <| bind_elim h fun x1 hx1 h => CallH.data _ false rfl (strings_Cut_ok E a1 ([59] : Bytes) x1 hx1) <| sn <| sj <| bind_elim h fun x2 hx2 h => CallH.data _ false rfl (text_Trim_ok E x1.1 x2 hx2) <| bind_elim h fun x3 hx3 h => CallH.data _ false rfl (number_ReadHex_ok E x2 x3 hx3) <| sn <| sj ?_
 refine SeqN.via (St.of [⟨0, AV.ptr 0 0, none⟩, ⟨4, AV.int .u64 x3.1, none⟩, ⟨5, AV.int .i64 x3.2, none⟩, ⟨28, AV.bool (x3.2 == (10 : Int)), none⟩] [.cells 204 (S_chunk_state.cells o0) []] []) ?_ ?_
 ·refine Gho.to _ _ _ [] ?_ ?_ ?_ rfl rfl ?_
  ·exact ⟨⟨rfl, rfl, rfl⟩, trivial⟩
  ·exact rfl
  ·exact rfl
  ·exact ⟨rfl, rfl, trivial, rfl, rfl, trivial, rfl, rfl, trivial, rfl, rfl, trivial, trivial⟩
 refine Br.mk (fun ht => ?_) (fun ht => ?_)
 ·replace h := cond_tt h ht
  refine ai ⟨rfl, rfl, rfl, lb rfl⟩ (xi [AV.int .i64 o0.Chunked.Stage, AV.str o0.Chunked.Line, AV.int .i64 o0.Chunked.Left, AV.int .i64 o0.Chunked.Size, AV.int .i64 (33 : Int)] (ai (fun _ => rfl) ?_))
  replace h := oi h
  have h0 := (Prod.mk.inj h).1
  have h1 := (Prod.mk.inj h).2
  subst h0
  subst h1
  refine xi [] (ai (Gho.to _ _ _ [] ?_ ?_ ?_ rfl rfl ?_) (ai ?_ rfl))
  ·exact ⟨⟨rfl, rfl, rfl⟩, trivial⟩
  ·exact rfl
  ·exact rfl
  ·exact trivial
  ·exact rfl
 ·replace h := cond_ff h ht
  refine sj <| ai id <| ai id <| ai id <| ai id <| ai id <| ai id <| ai id <| ai id <| ai (fun hg => (and_r hg)) <| sn ?_
  refine Br.mk (fun ht => ?_) (fun ht => ?_)
  ·replace h := cond_tt h ht
   refine ai ⟨rfl, rfl, rfl, lb rfl⟩ (xi [AV.int .i64 o0.Chunked.Stage, AV.str o0.Chunked.Line, AV.int .i64 o0.Chunked.Left, AV.int .i64 o0.Chunked.Size, AV.int .i64 (2 : Int)] (ai (fun _ => rfl) ?_))
   replace h := oi h
   have h0 := (Prod.mk.inj h).1
   have h1 := (Prod.mk.inj h).2
   subst h0
   subst h1
   refine xi [] (ai (Gho.to _ _ _ [] ?_ ?_ ?_ rfl rfl ?_) (ai ?_ rfl))
   ·exact ⟨⟨rfl, rfl, rfl⟩, trivial⟩
   ·exact rfl
   ·exact rfl
   ·exact trivial
   ·exact rfl
  ·replace h := cond_ff h ht
   refine sj ?_
   refine SeqN.via (St.of [⟨0, AV.ptr 0 0, none⟩, ⟨4, AV.int .u64 x3.1, none⟩, ⟨51, AV.bool (x3.1 == (0 : Int)), none⟩] [.cells 204 (S_chunk_state.cells o0) []] []) ?_ ?_
   ·refine Gho.to _ _ _ [] ?_ ?_ ?_ rfl rfl ?_
    ·exact ⟨⟨rfl, rfl, rfl⟩, trivial⟩
    ·exact rfl
    ·exact rfl
    ·exact ⟨rfl, rfl, trivial, rfl, rfl, trivial, rfl, rfl, trivial, trivial⟩
   refine Br.mk (fun ht => ?_) (fun ht => ?_)
   ·replace h := cond_tt h ht
    refine ai ⟨rfl, rfl, rfl, lb rfl⟩ (xi [AV.int .i64 (3 : Int), AV.str o0.Chunked.Line, AV.int .i64 o0.Chunked.Left, AV.int .i64 o0.Chunked.Size, AV.int .i64 o0.bad] (ai (fun _ => rfl) ?_))
    replace h := oi h
    have h0 := (Prod.mk.inj h).1
    have h1 := (Prod.mk.inj h).2
    subst h0
    subst h1
    refine xi [] (ai (Gho.to _ _ _ [] ?_ ?_ ?_ rfl rfl ?_) (ai ?_ rfl))
    ·exact ⟨⟨rfl, rfl, rfl⟩, trivial⟩
    ·exact rfl
    ·exact rfl
    ·exact trivial
    ·exact rfl
   ·replace h := cond_ff h ht
    refine ai ⟨rfl, rfl, rfl, lb rfl⟩ (xi [AV.int .i64 (1 : Int), AV.str o0.Chunked.Line, AV.int .i64 o0.Chunked.Left, AV.int .i64 o0.Chunked.Size, AV.int .i64 o0.bad] (ai (fun _ => rfl) ?_))
    refine ai ⟨rfl, rfl, rfl, lb rfl⟩ (xi [AV.int .i64 (1 : Int), AV.str o0.Chunked.Line, AV.int .i64 (IntKind.i64.wrap x3.1), AV.int .i64 o0.Chunked.Size, AV.int .i64 o0.bad] (ai (fun _ => rfl) ?_))
    replace h := oi h
    have h0 := (Prod.mk.inj h).1
    have h1 := (Prod.mk.inj h).2
    subst h0
    subst h1
    refine xi [] (ai (Gho.to _ _ _ [] ?_ ?_ ?_ rfl rfl ?_) (ai ?_ rfl))
    ·exact ⟨⟨rfl, rfl, rfl⟩, trivial⟩
    ·exact rfl
    ·exact rfl
    ·exact trivial
    ·exact rfl
theorem chunk_state_line_ok (E : Pm.Env) [LaidM E] (o0 : S_chunk_state) (a1 : Bytes) (r : Int) (o0' : S_chunk_state) (h : chunk_state_line o0 a1 = some (r, o0')) : FnW E Tryz.prog 176 [AV.ptr 0 0, AV.str a1] [.cells 204 (S_chunk_state.cells o0) []] [] (AV.int .i64 r) none [.cells 204 (S_chunk_state.cells o0') []] [] := by
 refine FnW.of_evB (T := T) (rows := []) tOk mixed Tryz.func176 rfl (by kernel_rfl) (by kernel_rfl) rfl rfl fun hwf => ?_
 unfold chunk_state_line at h
 refine sj <| sn <| sj <| sn <| sj <| sj <| sn <| sj <| sn ?_
 refine Br.mk (fun ht => ?_) (fun ht => ?_)
 ·replace h := cond_tt h ht
  refine sn <| sj <| bind_elim h fun x1 hx1 h => CallH.data _ false rfl (strings_IndexByte_ok E a1 (10 : Int) x1 hx1) ?_
  refine SeqN.via (St.of [⟨0, AV.ptr 0 0, none⟩, ⟨1, AV.str a1, none⟩, ⟨5, AV.fn 209 [AV.ptr 0 0] [], none⟩, ⟨6, AV.int .i64 x1, none⟩] [.cells 204 (S_chunk_state.cells o0) []] []) ?_ ?_
  ·refine Gho.to _ _ _ [] ?_ ?_ ?_ rfl rfl ?_
   ·exact ⟨⟨rfl, rfl, rfl⟩, trivial⟩
   ·exact rfl
   ·exact rfl
   ·exact ⟨rfl, rfl, trivial, rfl, rfl, trivial, rfl, rfl, trivial, rfl, rfl, trivial, trivial⟩
  refine sj <| sn <| sj <| sj <| sn ?_
  refine Br.mk (fun ht => ?_) (fun ht => ?_)
  ·replace h := cond_tt h ht
   refine bind_elim h fun x2 hx2 h => ?_
   have qx2 := (slc_some hx2).1
   have hx2e := (slc_some hx2).2
   refine ai (fun _ => qx2) <| NormE.to (AV.str x2) (fun _ => congrArg AV.str hx2e.symm) <| sn <| sj <| sj <| NormE.same <| NormE.same ?_
   refine SeqN.via (St.of [⟨0, AV.ptr 0 0, none⟩, ⟨1, AV.str a1, none⟩, ⟨5, AV.fn 209 [AV.ptr 0 0] [], none⟩, ⟨6, AV.int .i64 x1, none⟩, ⟨7, AV.str x2, none⟩, ⟨41, AV.bool (decide ((IntKind.i64.wrap ((o0.Chunked.Line.length : Int) + (x2.length : Int))) > (200 : Int))), none⟩] [.cells 204 (S_chunk_state.cells o0) []] []) ?_ ?_
   ·refine Gho.to _ _ _ [] ?_ ?_ ?_ rfl rfl ?_
    ·exact ⟨⟨rfl, rfl, rfl⟩, trivial⟩
    ·exact rfl
    ·exact rfl
    ·exact ⟨rfl, rfl, trivial, rfl, rfl, trivial, rfl, rfl, trivial, rfl, rfl, trivial, rfl, rfl, trivial, rfl, rfl, trivial, trivial⟩
   refine Br.mk (fun ht => ?_) (fun ht => ?_)
   ·replace h := cond_tt h ht
    refine sj ?_
    refine ai ⟨rfl, rfl, rfl, lb rfl⟩ (xi [AV.int .i64 o0.Chunked.Stage, AV.str o0.Chunked.Line, AV.int .i64 o0.Chunked.Left, AV.int .i64 o0.Chunked.Size, AV.int .i64 (33 : Int)] (ai (fun _ => rfl) ?_))
    refine sn <| sj <| sn ?_
    replace h := oi h
    have h0 := (Prod.mk.inj h).1
    have h1 := (Prod.mk.inj h).2
    subst h0
    subst h1
    refine xi [⟨4, AV.int .i64 (0 : Int), none⟩] (ai (Gho.to _ _ _ [] ?_ ?_ ?_ rfl rfl ?_) (ai ?_ rfl))
    ·exact ⟨⟨rfl, rfl, rfl⟩, trivial⟩
    ·exact rfl
    ·exact rfl
    ·exact ⟨rfl, rfl, trivial, trivial⟩
    ·exact rfl
   ·replace h := cond_ff h ht
    refine sn <| sj <| sj <| bind_elim h fun x3 hx3 h => ?_
    have hx3c := (cat_some hx3).1
    have hx3e := (cat_some hx3).2
    refine ai (fun _ => hx3c) <| NormE.to (AV.str x3) (fun _ => congrArg AV.str hx3e.symm) ?_
    refine ai ⟨rfl, rfl, rfl, lb rfl⟩ (xi [AV.int .i64 o0.Chunked.Stage, AV.str x3, AV.int .i64 o0.Chunked.Left, AV.int .i64 o0.Chunked.Size, AV.int .i64 o0.bad] (ai (fun _ => rfl) ?_))
    refine sn <| sj <| sn ?_
    refine Br.mk (fun ht => ?_) (fun ht => ?_)
    ·replace h := cond_tt h ht
     refine sj <| NormE.same ?_
     refine SeqN.via (St.of [⟨4, AV.int .i64 (a1.length : Int), none⟩] [.cells 204 [AV.int .i64 o0.Chunked.Stage, AV.str x3, AV.int .i64 o0.Chunked.Left, AV.int .i64 o0.Chunked.Size, AV.int .i64 o0.bad] []] []) ?_ ?_
     ·refine Gho.to _ _ _ [] ?_ ?_ ?_ rfl rfl ?_
      ·exact ⟨⟨rfl, rfl, rfl⟩, trivial⟩
      ·exact rfl
      ·exact rfl
      ·exact ⟨rfl, rfl, trivial, trivial⟩
     replace h := oi h
     have h0 := (Prod.mk.inj h).1
     have h1 := (Prod.mk.inj h).2
     subst h0
     subst h1
     refine xi [⟨4, AV.int .i64 (a1.length : Int), none⟩] (ai (Gho.to _ _ _ [] ?_ ?_ ?_ rfl rfl ?_) (ai ?_ rfl))
     ·exact ⟨⟨rfl, rfl, rfl⟩, trivial⟩
     ·exact rfl
     ·exact rfl
     ·exact ⟨rfl, rfl, trivial, trivial⟩
     ·exact rfl
    ·replace h := cond_ff h ht
     refine sn <| sj <| bind_elim h fun x4 hx4 h => CallH.data _ false rfl (strings_TrimSuffix_ok E x3 ([13] : Bytes) x4 hx4) ?_
     refine SeqN.via (St.of [⟨0, AV.ptr 0 0, none⟩, ⟨5, AV.fn 209 [AV.ptr 0 0] [], none⟩, ⟨6, AV.int .i64 x1, none⟩, ⟨8, AV.str x4, none⟩] [.cells 204 [AV.int .i64 o0.Chunked.Stage, AV.str x3, AV.int .i64 o0.Chunked.Left, AV.int .i64 o0.Chunked.Size, AV.int .i64 o0.bad] []] []) ?_ ?_
     ·refine Gho.to _ _ _ [] ?_ ?_ ?_ rfl rfl ?_
      ·exact ⟨⟨rfl, rfl, rfl⟩, trivial⟩
      ·exact rfl
      ·exact rfl
      ·exact ⟨rfl, rfl, trivial, rfl, rfl, trivial, rfl, rfl, trivial, rfl, rfl, trivial, trivial⟩
     refine sj ?_
     refine ai ⟨rfl, rfl, rfl, lb rfl⟩ (xi [AV.int .i64 o0.Chunked.Stage, AV.str ([] : Bytes), AV.int .i64 o0.Chunked.Left, AV.int .i64 o0.Chunked.Size, AV.int .i64 o0.bad] (ai (fun _ => rfl) ?_))
     refine sn <| sj <| bind_elim h fun x5 hx5 h => CallH.ren [0] [] [.cells 204 (S_chunk_state.cells x5.2) []] [] (chunk_state_end_ok E (S_chunk_state.mk (S_Chunked.mk o0.Chunked.Stage ([] : Bytes) o0.Chunked.Left o0.Chunked.Size) o0.bad) x4 x5.1 x5.2 hx5) rfl rfl rfl rfl rfl rfl rfl rfl rfl <| sn <| sj <| sn ?_
     replace h := oi h
     have h0 := (Prod.mk.inj h).1
     have h1 := (Prod.mk.inj h).2
     subst h0
     subst h1
     refine xi [⟨4, AV.int .i64 (IntKind.i64.wrap (x1 + (1 : Int))), none⟩] (ai (Gho.to _ _ _ [] ?_ ?_ ?_ rfl rfl ?_) (ai ?_ rfl))
     ·exact ⟨⟨rfl, rfl, rfl⟩, trivial⟩
     ·exact rfl
     ·exact rfl
     ·exact ⟨rfl, rfl, trivial, trivial⟩
     ·exact rfl
  ·replace h := cond_ff h ht
   refine sn <| sj <| sj <| NormE.same <| NormE.same <| sn ?_
   refine Br.mk (fun ht => ?_) (fun ht => ?_)
   ·replace h := cond_tt h ht
    refine sj ?_
    refine ai ⟨rfl, rfl, rfl, lb rfl⟩ (xi [AV.int .i64 o0.Chunked.Stage, AV.str o0.Chunked.Line, AV.int .i64 o0.Chunked.Left, AV.int .i64 o0.Chunked.Size, AV.int .i64 (33 : Int)] (ai (fun _ => rfl) ?_))
    refine SeqN.via (St.of [] [.cells 204 [AV.int .i64 o0.Chunked.Stage, AV.str o0.Chunked.Line, AV.int .i64 o0.Chunked.Left, AV.int .i64 o0.Chunked.Size, AV.int .i64 (33 : Int)] []] []) ?_ ?_
    ·refine Gho.to _ _ _ [] ?_ ?_ ?_ rfl rfl ?_
     ·exact ⟨⟨rfl, rfl, rfl⟩, trivial⟩
     ·exact rfl
     ·exact rfl
     ·exact trivial
    refine sj <| sn ?_
    replace h := oi h
    have h0 := (Prod.mk.inj h).1
    have h1 := (Prod.mk.inj h).2
    subst h0
    subst h1
    refine xi [⟨4, AV.int .i64 (0 : Int), none⟩] (ai (Gho.to _ _ _ [] ?_ ?_ ?_ rfl rfl ?_) (ai ?_ rfl))
    ·exact ⟨⟨rfl, rfl, rfl⟩, trivial⟩
    ·exact rfl
    ·exact rfl
    ·exact ⟨rfl, rfl, trivial, trivial⟩
    ·exact rfl
   ·replace h := cond_ff h ht
    refine sn <| sj <| sj <| bind_elim h fun x6 hx6 h => ?_
    have hx6c := (cat_some hx6).1
    have hx6e := (cat_some hx6).2
    refine ai (fun _ => hx6c) <| NormE.to (AV.str x6) (fun _ => congrArg AV.str hx6e.symm) ?_
    refine ai ⟨rfl, rfl, rfl, lb rfl⟩ (xi [AV.int .i64 o0.Chunked.Stage, AV.str x6, AV.int .i64 o0.Chunked.Left, AV.int .i64 o0.Chunked.Size, AV.int .i64 o0.bad] (ai (fun _ => rfl) ?_))
    refine SeqN.via (St.of [⟨0, AV.ptr 0 0, none⟩, ⟨1, AV.str a1, none⟩, ⟨5, AV.fn 209 [AV.ptr 0 0] [], none⟩, ⟨6, AV.int .i64 x1, none⟩] [.cells 204 [AV.int .i64 o0.Chunked.Stage, AV.str x6, AV.int .i64 o0.Chunked.Left, AV.int .i64 o0.Chunked.Size, AV.int .i64 o0.bad] []] []) ?_ ?_
    ·refine Gho.to _ _ _ [] ?_ ?_ ?_ rfl rfl ?_
     ·exact ⟨⟨rfl, rfl, rfl⟩, trivial⟩
     ·exact rfl
     ·exact rfl
     ·exact ⟨rfl, rfl, trivial, rfl, rfl, trivial, rfl, rfl, trivial, rfl, rfl, trivial, trivial⟩
    refine sj <| sn ?_
    refine Br.mk (fun ht => ?_) (fun ht => ?_)
    ·replace h := cond_tt h ht
     refine sj <| NormE.same <| sn ?_
     replace h := oi h
     have h0 := (Prod.mk.inj h).1
     have h1 := (Prod.mk.inj h).2
     subst h0
     subst h1
     refine xi [⟨4, AV.int .i64 (a1.length : Int), none⟩] (ai (Gho.to _ _ _ [] ?_ ?_ ?_ rfl rfl ?_) (ai ?_ rfl))
     ·exact ⟨⟨rfl, rfl, rfl⟩, trivial⟩
     ·exact rfl
     ·exact rfl
     ·exact ⟨rfl, rfl, trivial, trivial⟩
     ·exact rfl
    ·replace h := cond_ff h ht
     refine sn <| sj <| bind_elim h fun x7 hx7 h => CallH.data _ false rfl (strings_TrimSuffix_ok E x6 ([13] : Bytes) x7 hx7) <| sn <| sj ?_
     refine ai ⟨rfl, rfl, rfl, lb rfl⟩ (xi [AV.int .i64 o0.Chunked.Stage, AV.str ([] : Bytes), AV.int .i64 o0.Chunked.Left, AV.int .i64 o0.Chunked.Size, AV.int .i64 o0.bad] (ai (fun _ => rfl) ?_))
     refine sn <| sj <| bind_elim h fun x8 hx8 h => CallH.ren [0] [] [.cells 204 (S_chunk_state.cells x8.2) []] [] (chunk_state_end_ok E (S_chunk_state.mk (S_Chunked.mk o0.Chunked.Stage ([] : Bytes) o0.Chunked.Left o0.Chunked.Size) o0.bad) x7 x8.1 x8.2 hx8) rfl rfl rfl rfl rfl rfl rfl rfl rfl ?_
     refine SeqN.via (St.of [⟨6, AV.int .i64 x1, none⟩] [.cells 204 (S_chunk_state.cells x8.2) []] []) ?_ ?_
     ·refine Gho.to _ _ _ [] ?_ ?_ ?_ rfl rfl ?_
      ·exact ⟨⟨rfl, rfl, rfl⟩, trivial⟩
      ·exact rfl
      ·exact rfl
      ·exact ⟨rfl, rfl, trivial, trivial⟩
     refine sj <| sn ?_
     replace h := oi h
     have h0 := (Prod.mk.inj h).1
     have h1 := (Prod.mk.inj h).2
     subst h0
     subst h1
     refine xi [⟨4, AV.int .i64 (IntKind.i64.wrap (x1 + (1 : Int))), none⟩] (ai (Gho.to _ _ _ [] ?_ ?_ ?_ rfl rfl ?_) (ai ?_ rfl))
     ·exact ⟨⟨rfl, rfl, rfl⟩, trivial⟩
     ·exact rfl
     ·exact rfl
     ·exact ⟨rfl, rfl, trivial, trivial⟩
     ·exact rfl
 ·replace h := cond_ff h ht
  refine sj <| sn ?_
  refine Br.mk (fun ht => ?_) (fun ht => ?_)
  ·replace h := cond_tt h ht
   refine SeqN.via (St.of [⟨0, AV.ptr 0 0, none⟩, ⟨1, AV.str a1, none⟩, ⟨5, AV.fn 210 [AV.ptr 0 0] [], none⟩] [.cells 204 (S_chunk_state.cells o0) []] []) ?_ ?_
   ·refine Gho.to _ _ _ [] ?_ ?_ ?_ rfl rfl ?_
    ·exact ⟨⟨rfl, rfl, rfl⟩, trivial⟩
    ·exact rfl
    ·exact rfl
    ·exact ⟨rfl, rfl, trivial, rfl, rfl, trivial, rfl, rfl, trivial, trivial⟩
   refine sj <| bind_elim h fun x9 hx9 h => CallH.data _ false rfl (strings_IndexByte_ok E a1 (10 : Int) x9 hx9) <| sn <| sj <| sn <| sj <| sj <| sn ?_
   refine Br.mk (fun ht => ?_) (fun ht => ?_)
   ·replace h := cond_tt h ht
    refine bind_elim h fun x10 hx10 h => ?_
    have qx10 := (slc_some hx10).1
    have hx10e := (slc_some hx10).2
    refine ai (fun _ => qx10) <| NormE.to (AV.str x10) (fun _ => congrArg AV.str hx10e.symm) <| sn <| sj <| sj <| NormE.same <| NormE.same ?_
    refine SeqN.via (St.of [⟨0, AV.ptr 0 0, none⟩, ⟨1, AV.str a1, none⟩, ⟨5, AV.fn 210 [AV.ptr 0 0] [], none⟩, ⟨6, AV.int .i64 x9, none⟩, ⟨7, AV.str x10, none⟩, ⟨41, AV.bool (decide ((IntKind.i64.wrap ((o0.Chunked.Line.length : Int) + (x10.length : Int))) > (200 : Int))), none⟩] [.cells 204 (S_chunk_state.cells o0) []] []) ?_ ?_
    ·refine Gho.to _ _ _ [] ?_ ?_ ?_ rfl rfl ?_
     ·exact ⟨⟨rfl, rfl, rfl⟩, trivial⟩
     ·exact rfl
     ·exact rfl
     ·exact ⟨rfl, rfl, trivial, rfl, rfl, trivial, rfl, rfl, trivial, rfl, rfl, trivial, rfl, rfl, trivial, rfl, rfl, trivial, trivial⟩
    refine Br.mk (fun ht => ?_) (fun ht => ?_)
    ·replace h := cond_tt h ht
     refine sj ?_
     refine ai ⟨rfl, rfl, rfl, lb rfl⟩ (xi [AV.int .i64 o0.Chunked.Stage, AV.str o0.Chunked.Line, AV.int .i64 o0.Chunked.Left, AV.int .i64 o0.Chunked.Size, AV.int .i64 (33 : Int)] (ai (fun _ => rfl) ?_))
     refine sn <| sj <| sn ?_
     replace h := oi h
     have h0 := (Prod.mk.inj h).1
     have h1 := (Prod.mk.inj h).2
     subst h0
     subst h1
     refine xi [⟨4, AV.int .i64 (0 : Int), none⟩] (ai (Gho.to _ _ _ [] ?_ ?_ ?_ rfl rfl ?_) (ai ?_ rfl))
     ·exact ⟨⟨rfl, rfl, rfl⟩, trivial⟩
     ·exact rfl
     ·exact rfl
     ·exact ⟨rfl, rfl, trivial, trivial⟩
     ·exact rfl
    ·replace h := cond_ff h ht
     refine sn <| sj <| sj <| bind_elim h fun x11 hx11 h => ?_
     have hx11c := (cat_some hx11).1
     have hx11e := (cat_some hx11).2
     refine ai (fun _ => hx11c) <| NormE.to (AV.str x11) (fun _ => congrArg AV.str hx11e.symm) ?_
     refine ai ⟨rfl, rfl, rfl, lb rfl⟩ (xi [AV.int .i64 o0.Chunked.Stage, AV.str x11, AV.int .i64 o0.Chunked.Left, AV.int .i64 o0.Chunked.Size, AV.int .i64 o0.bad] (ai (fun _ => rfl) ?_))
     refine sn <| sj <| sn ?_
     refine Br.mk (fun ht => ?_) (fun ht => ?_)
     ·replace h := cond_tt h ht
      refine sj <| NormE.same ?_
      refine SeqN.via (St.of [⟨4, AV.int .i64 (a1.length : Int), none⟩] [.cells 204 [AV.int .i64 o0.Chunked.Stage, AV.str x11, AV.int .i64 o0.Chunked.Left, AV.int .i64 o0.Chunked.Size, AV.int .i64 o0.bad] []] []) ?_ ?_
      ·refine Gho.to _ _ _ [] ?_ ?_ ?_ rfl rfl ?_
       ·exact ⟨⟨rfl, rfl, rfl⟩, trivial⟩
       ·exact rfl
       ·exact rfl
       ·exact ⟨rfl, rfl, trivial, trivial⟩
      replace h := oi h
      have h0 := (Prod.mk.inj h).1
      have h1 := (Prod.mk.inj h).2
      subst h0
      subst h1
      refine xi [⟨4, AV.int .i64 (a1.length : Int), none⟩] (ai (Gho.to _ _ _ [] ?_ ?_ ?_ rfl rfl ?_) (ai ?_ rfl))
      ·exact ⟨⟨rfl, rfl, rfl⟩, trivial⟩
      ·exact rfl
      ·exact rfl
      ·exact ⟨rfl, rfl, trivial, trivial⟩
      ·exact rfl
     ·replace h := cond_ff h ht
      refine sn <| sj <| bind_elim h fun x12 hx12 h => CallH.data _ false rfl (strings_TrimSuffix_ok E x11 ([13] : Bytes) x12 hx12) ?_
      refine SeqN.via (St.of [⟨0, AV.ptr 0 0, none⟩, ⟨5, AV.fn 210 [AV.ptr 0 0] [], none⟩, ⟨6, AV.int .i64 x9, none⟩, ⟨8, AV.str x12, none⟩] [.cells 204 [AV.int .i64 o0.Chunked.Stage, AV.str x11, AV.int .i64 o0.Chunked.Left, AV.int .i64 o0.Chunked.Size, AV.int .i64 o0.bad] []] []) ?_ ?_
      ·refine Gho.to _ _ _ [] ?_ ?_ ?_ rfl rfl ?_
       ·exact ⟨⟨rfl, rfl, rfl⟩, trivial⟩
       ·exact rfl
       ·exact rfl
       ·exact ⟨rfl, rfl, trivial, rfl, rfl, trivial, rfl, rfl, trivial, rfl, rfl, trivial, trivial⟩
      refine sj ?_
      refine ai ⟨rfl, rfl, rfl, lb rfl⟩ (xi [AV.int .i64 o0.Chunked.Stage, AV.str ([] : Bytes), AV.int .i64 o0.Chunked.Left, AV.int .i64 o0.Chunked.Size, AV.int .i64 o0.bad] (ai (fun _ => rfl) ?_))
      refine sn <| sj <| bind_elim h fun x13 hx13 h => CallH.ren [0] [] [.cells 204 (S_chunk_state.cells x13.2) []] [] (chunk_state_tail_ok E (S_chunk_state.mk (S_Chunked.mk o0.Chunked.Stage ([] : Bytes) o0.Chunked.Left o0.Chunked.Size) o0.bad) x12 x13.1 x13.2 hx13) rfl rfl rfl rfl rfl rfl rfl rfl rfl <| sn <| sj <| sn ?_
      replace h := oi h
      have h0 := (Prod.mk.inj h).1
      have h1 := (Prod.mk.inj h).2
      subst h0
      subst h1
      refine xi [⟨4, AV.int .i64 (IntKind.i64.wrap (x9 + (1 : Int))), none⟩] (ai (Gho.to _ _ _ [] ?_ ?_ ?_ rfl rfl ?_) (ai ?_ rfl))
      ·exact ⟨⟨rfl, rfl, rfl⟩, trivial⟩
      ·exact rfl
      ·exact rfl
      ·exact ⟨rfl, rfl, trivial, trivial⟩
      ·exact rfl
   ·replace h := cond_ff h ht
    refine sn <| sj <| sj <| NormE.same <| NormE.same ?_
    refine SeqN.via (St.of [⟨0, AV.ptr 0 0, none⟩, ⟨1, AV.str a1, none⟩, ⟨5, AV.fn 210 [AV.ptr 0 0] [], none⟩, ⟨6, AV.int .i64 x9, none⟩, ⟨7, AV.str a1, none⟩, ⟨41, AV.bool (decide ((IntKind.i64.wrap ((o0.Chunked.Line.length : Int) + (a1.length : Int))) > (200 : Int))), none⟩] [.cells 204 (S_chunk_state.cells o0) []] []) ?_ ?_
    ·refine Gho.to _ _ _ [] ?_ ?_ ?_ rfl rfl ?_
     ·exact ⟨⟨rfl, rfl, rfl⟩, trivial⟩
     ·exact rfl
     ·exact rfl
     ·exact ⟨rfl, rfl, trivial, rfl, rfl, trivial, rfl, rfl, trivial, rfl, rfl, trivial, rfl, rfl, trivial, rfl, rfl, trivial, trivial⟩
    refine Br.mk (fun ht => ?_) (fun ht => ?_)
    ·replace h := cond_tt h ht
     refine sj ?_
     refine ai ⟨rfl, rfl, rfl, lb rfl⟩ (xi [AV.int .i64 o0.Chunked.Stage, AV.str o0.Chunked.Line, AV.int .i64 o0.Chunked.Left, AV.int .i64 o0.Chunked.Size, AV.int .i64 (33 : Int)] (ai (fun _ => rfl) ?_))
     refine sn <| sj <| sn ?_
     replace h := oi h
     have h0 := (Prod.mk.inj h).1
     have h1 := (Prod.mk.inj h).2
     subst h0
     subst h1
     refine xi [⟨4, AV.int .i64 (0 : Int), none⟩] (ai (Gho.to _ _ _ [] ?_ ?_ ?_ rfl rfl ?_) (ai ?_ rfl))
     ·exact ⟨⟨rfl, rfl, rfl⟩, trivial⟩
     ·exact rfl
     ·exact rfl
     ·exact ⟨rfl, rfl, trivial, trivial⟩
     ·exact rfl
    ·replace h := cond_ff h ht
     refine sn <| sj <| sj <| bind_elim h fun x14 hx14 h => ?_
     have hx14c := (cat_some hx14).1
     have hx14e := (cat_some hx14).2
     refine ai (fun _ => hx14c) <| NormE.to (AV.str x14) (fun _ => congrArg AV.str hx14e.symm) ?_
     refine ai ⟨rfl, rfl, rfl, lb rfl⟩ (xi [AV.int .i64 o0.Chunked.Stage, AV.str x14, AV.int .i64 o0.Chunked.Left, AV.int .i64 o0.Chunked.Size, AV.int .i64 o0.bad] (ai (fun _ => rfl) ?_))
     refine sn <| sj <| sn ?_
     refine Br.mk (fun ht => ?_) (fun ht => ?_)
     ·replace h := cond_tt h ht
      refine sj <| NormE.same ?_
      refine SeqN.via (St.of [⟨4, AV.int .i64 (a1.length : Int), none⟩] [.cells 204 [AV.int .i64 o0.Chunked.Stage, AV.str x14, AV.int .i64 o0.Chunked.Left, AV.int .i64 o0.Chunked.Size, AV.int .i64 o0.bad] []] []) ?_ ?_
      ·refine Gho.to _ _ _ [] ?_ ?_ ?_ rfl rfl ?_
       ·exact ⟨⟨rfl, rfl, rfl⟩, trivial⟩
       ·exact rfl
       ·exact rfl
       ·exact ⟨rfl, rfl, trivial, trivial⟩
      replace h := oi h
      have h0 := (Prod.mk.inj h).1
      have h1 := (Prod.mk.inj h).2
      subst h0
      subst h1
      refine xi [⟨4, AV.int .i64 (a1.length : Int), none⟩] (ai (Gho.to _ _ _ [] ?_ ?_ ?_ rfl rfl ?_) (ai ?_ rfl))
      ·exact ⟨⟨rfl, rfl, rfl⟩, trivial⟩
      ·exact rfl
      ·exact rfl
      ·exact ⟨rfl, rfl, trivial, trivial⟩
      ·exact rfl
     ·replace h := cond_ff h ht
      refine sn <| sj <| bind_elim h fun x15 hx15 h => CallH.data _ false rfl (strings_TrimSuffix_ok E x14 ([13] : Bytes) x15 hx15) ?_
      refine SeqN.via (St.of [⟨0, AV.ptr 0 0, none⟩, ⟨5, AV.fn 210 [AV.ptr 0 0] [], none⟩, ⟨6, AV.int .i64 x9, none⟩, ⟨8, AV.str x15, none⟩] [.cells 204 [AV.int .i64 o0.Chunked.Stage, AV.str x14, AV.int .i64 o0.Chunked.Left, AV.int .i64 o0.Chunked.Size, AV.int .i64 o0.bad] []] []) ?_ ?_
      ·refine Gho.to _ _ _ [] ?_ ?_ ?_ rfl rfl ?_
       ·exact ⟨⟨rfl, rfl, rfl⟩, trivial⟩
       ·exact rfl
       ·exact rfl
       ·exact ⟨rfl, rfl, trivial, rfl, rfl, trivial, rfl, rfl, trivial, rfl, rfl, trivial, trivial⟩
      refine sj ?_
      refine ai ⟨rfl, rfl, rfl, lb rfl⟩ (xi [AV.int .i64 o0.Chunked.Stage, AV.str ([] : Bytes), AV.int .i64 o0.Chunked.Left, AV.int .i64 o0.Chunked.Size, AV.int .i64 o0.bad] (ai (fun _ => rfl) ?_))
      refine sn <| sj <| bind_elim h fun x16 hx16 h => CallH.ren [0] [] [.cells 204 (S_chunk_state.cells x16.2) []] [] (chunk_state_tail_ok E (S_chunk_state.mk (S_Chunked.mk o0.Chunked.Stage ([] : Bytes) o0.Chunked.Left o0.Chunked.Size) o0.bad) x15 x16.1 x16.2 hx16) rfl rfl rfl rfl rfl rfl rfl rfl rfl <| sn <| sj <| sn ?_
      replace h := oi h
      have h0 := (Prod.mk.inj h).1
      have h1 := (Prod.mk.inj h).2
      subst h0
      subst h1
      refine xi [⟨4, AV.int .i64 (IntKind.i64.wrap (x9 + (1 : Int))), none⟩] (ai (Gho.to _ _ _ [] ?_ ?_ ?_ rfl rfl ?_) (ai ?_ rfl))
      ·exact ⟨⟨rfl, rfl, rfl⟩, trivial⟩
      ·exact rfl
      ·exact rfl
      ·exact ⟨rfl, rfl, trivial, trivial⟩
      ·exact rfl
  ·replace h := cond_ff h ht
   refine sn <| sj <| bind_elim h fun x17 hx17 h => CallH.data _ false rfl (strings_IndexByte_ok E a1 (10 : Int) x17 hx17) ?_
   refine SeqN.via (St.of [⟨0, AV.ptr 0 0, none⟩, ⟨1, AV.str a1, none⟩, ⟨5, AV.fn 208 [AV.ptr 0 0] [], none⟩, ⟨6, AV.int .i64 x17, none⟩] [.cells 204 (S_chunk_state.cells o0) []] []) ?_ ?_
   ·refine Gho.to _ _ _ [] ?_ ?_ ?_ rfl rfl ?_
    ·exact ⟨⟨rfl, rfl, rfl⟩, trivial⟩
    ·exact rfl
    ·exact rfl
    ·exact ⟨rfl, rfl, trivial, rfl, rfl, trivial, rfl, rfl, trivial, rfl, rfl, trivial, trivial⟩
   refine sj <| sn <| sj <| sj <| sn ?_
   refine Br.mk (fun ht => ?_) (fun ht => ?_)
   ·replace h := cond_tt h ht
    refine bind_elim h fun x18 hx18 h => ?_
    have qx18 := (slc_some hx18).1
    have hx18e := (slc_some hx18).2
    refine ai (fun _ => qx18) <| NormE.to (AV.str x18) (fun _ => congrArg AV.str hx18e.symm) <| sn <| sj <| sj <| NormE.same <| NormE.same ?_
    refine SeqN.via (St.of [⟨0, AV.ptr 0 0, none⟩, ⟨1, AV.str a1, none⟩, ⟨5, AV.fn 208 [AV.ptr 0 0] [], none⟩, ⟨6, AV.int .i64 x17, none⟩, ⟨7, AV.str x18, none⟩, ⟨41, AV.bool (decide ((IntKind.i64.wrap ((o0.Chunked.Line.length : Int) + (x18.length : Int))) > (200 : Int))), none⟩] [.cells 204 (S_chunk_state.cells o0) []] []) ?_ ?_
    ·refine Gho.to _ _ _ [] ?_ ?_ ?_ rfl rfl ?_
     ·exact ⟨⟨rfl, rfl, rfl⟩, trivial⟩
     ·exact rfl
     ·exact rfl
     ·exact ⟨rfl, rfl, trivial, rfl, rfl, trivial, rfl, rfl, trivial, rfl, rfl, trivial, rfl, rfl, trivial, rfl, rfl, trivial, trivial⟩
    refine Br.mk (fun ht => ?_) (fun ht => ?_)
    ·replace h := cond_tt h ht
     refine sj ?_
     refine ai ⟨rfl, rfl, rfl, lb rfl⟩ (xi [AV.int .i64 o0.Chunked.Stage, AV.str o0.Chunked.Line, AV.int .i64 o0.Chunked.Left, AV.int .i64 o0.Chunked.Size, AV.int .i64 (33 : Int)] (ai (fun _ => rfl) ?_))
     refine sn <| sj <| sn ?_
     replace h := oi h
     have h0 := (Prod.mk.inj h).1
     have h1 := (Prod.mk.inj h).2
     subst h0
     subst h1
     refine xi [⟨4, AV.int .i64 (0 : Int), none⟩] (ai (Gho.to _ _ _ [] ?_ ?_ ?_ rfl rfl ?_) (ai ?_ rfl))
     ·exact ⟨⟨rfl, rfl, rfl⟩, trivial⟩
     ·exact rfl
     ·exact rfl
     ·exact ⟨rfl, rfl, trivial, trivial⟩
     ·exact rfl
    ·replace h := cond_ff h ht
     refine sn <| sj <| sj <| bind_elim h fun x19 hx19 h => ?_
     have hx19c := (cat_some hx19).1
     have hx19e := (cat_some hx19).2
     refine ai (fun _ => hx19c) <| NormE.to (AV.str x19) (fun _ => congrArg AV.str hx19e.symm) ?_
     refine ai ⟨rfl, rfl, rfl, lb rfl⟩ (xi [AV.int .i64 o0.Chunked.Stage, AV.str x19, AV.int .i64 o0.Chunked.Left, AV.int .i64 o0.Chunked.Size, AV.int .i64 o0.bad] (ai (fun _ => rfl) ?_))
     refine sn <| sj <| sn ?_
     refine Br.mk (fun ht => ?_) (fun ht => ?_)
     ·replace h := cond_tt h ht
      refine sj <| NormE.same ?_
      refine SeqN.via (St.of [⟨4, AV.int .i64 (a1.length : Int), none⟩] [.cells 204 [AV.int .i64 o0.Chunked.Stage, AV.str x19, AV.int .i64 o0.Chunked.Left, AV.int .i64 o0.Chunked.Size, AV.int .i64 o0.bad] []] []) ?_ ?_
      ·refine Gho.to _ _ _ [] ?_ ?_ ?_ rfl rfl ?_
       ·exact ⟨⟨rfl, rfl, rfl⟩, trivial⟩
       ·exact rfl
       ·exact rfl
       ·exact ⟨rfl, rfl, trivial, trivial⟩
      replace h := oi h
      have h0 := (Prod.mk.inj h).1
      have h1 := (Prod.mk.inj h).2
      subst h0
      subst h1
      refine xi [⟨4, AV.int .i64 (a1.length : Int), none⟩] (ai (Gho.to _ _ _ [] ?_ ?_ ?_ rfl rfl ?_) (ai ?_ rfl))
      ·exact ⟨⟨rfl, rfl, rfl⟩, trivial⟩
      ·exact rfl
      ·exact rfl
      ·exact ⟨rfl, rfl, trivial, trivial⟩
      ·exact rfl
     ·replace h := cond_ff h ht
      refine sn <| sj <| bind_elim h fun x20 hx20 h => CallH.data _ false rfl (strings_TrimSuffix_ok E x19 ([13] : Bytes) x20 hx20) ?_
      refine SeqN.via (St.of [⟨0, AV.ptr 0 0, none⟩, ⟨5, AV.fn 208 [AV.ptr 0 0] [], none⟩, ⟨6, AV.int .i64 x17, none⟩, ⟨8, AV.str x20, none⟩] [.cells 204 [AV.int .i64 o0.Chunked.Stage, AV.str x19, AV.int .i64 o0.Chunked.Left, AV.int .i64 o0.Chunked.Size, AV.int .i64 o0.bad] []] []) ?_ ?_
      ·refine Gho.to _ _ _ [] ?_ ?_ ?_ rfl rfl ?_
       ·exact ⟨⟨rfl, rfl, rfl⟩, trivial⟩
       ·exact rfl
       ·exact rfl
       ·exact ⟨rfl, rfl, trivial, rfl, rfl, trivial, rfl, rfl, trivial, rfl, rfl, trivial, trivial⟩
      refine sj ?_
      refine ai ⟨rfl, rfl, rfl, lb rfl⟩ (xi [AV.int .i64 o0.Chunked.Stage, AV.str ([] : Bytes), AV.int .i64 o0.Chunked.Left, AV.int .i64 o0.Chunked.Size, AV.int .i64 o0.bad] (ai (fun _ => rfl) ?_))
      refine sn <| sj <| bind_elim h fun x21 hx21 h => CallH.ren [0] [] [.cells 204 (S_chunk_state.cells x21.2) []] [] (chunk_state_size_ok E (S_chunk_state.mk (S_Chunked.mk o0.Chunked.Stage ([] : Bytes) o0.Chunked.Left o0.Chunked.Size) o0.bad) x20 x21.1 x21.2 hx21) rfl rfl rfl rfl rfl rfl rfl rfl rfl <| sn <| sj <| sn ?_
      replace h := oi h
      have h0 := (Prod.mk.inj h).1
      have h1 := (Prod.mk.inj h).2
      subst h0
      subst h1
      refine xi [⟨4, AV.int .i64 (IntKind.i64.wrap (x17 + (1 : Int))), none⟩] (ai (Gho.to _ _ _ [] ?_ ?_ ?_ rfl rfl ?_) (ai ?_ rfl))
      ·exact ⟨⟨rfl, rfl, rfl⟩, trivial⟩
      ·exact rfl
      ·exact rfl
      ·exact ⟨rfl, rfl, trivial, trivial⟩
      ·exact rfl
   ·replace h := cond_ff h ht
    refine sn <| sj <| sj <| NormE.same <| NormE.same <| sn ?_
    refine Br.mk (fun ht => ?_) (fun ht => ?_)
    ·replace h := cond_tt h ht
     refine sj ?_
     refine ai ⟨rfl, rfl, rfl, lb rfl⟩ (xi [AV.int .i64 o0.Chunked.Stage, AV.str o0.Chunked.Line, AV.int .i64 o0.Chunked.Left, AV.int .i64 o0.Chunked.Size, AV.int .i64 (33 : Int)] (ai (fun _ => rfl) ?_))
     refine SeqN.via (St.of [] [.cells 204 [AV.int .i64 o0.Chunked.Stage, AV.str o0.Chunked.Line, AV.int .i64 o0.Chunked.Left, AV.int .i64 o0.Chunked.Size, AV.int .i64 (33 : Int)] []] []) ?_ ?_
     ·refine Gho.to _ _ _ [] ?_ ?_ ?_ rfl rfl ?_
      ·exact ⟨⟨rfl, rfl, rfl⟩, trivial⟩
      ·exact rfl
      ·exact rfl
      ·exact trivial
     refine sj <| sn ?_
     replace h := oi h
     have h0 := (Prod.mk.inj h).1
     have h1 := (Prod.mk.inj h).2
     subst h0
     subst h1
     refine xi [⟨4, AV.int .i64 (0 : Int), none⟩] (ai (Gho.to _ _ _ [] ?_ ?_ ?_ rfl rfl ?_) (ai ?_ rfl))
     ·exact ⟨⟨rfl, rfl, rfl⟩, trivial⟩
     ·exact rfl
     ·exact rfl
     ·exact ⟨rfl, rfl, trivial, trivial⟩
     ·exact rfl
    ·replace h := cond_ff h ht
     refine sn <| sj <| sj <| bind_elim h fun x22 hx22 h => ?_
     have hx22c := (cat_some hx22).1
     have hx22e := (cat_some hx22).2
     refine ai (fun _ => hx22c) <| NormE.to (AV.str x22) (fun _ => congrArg AV.str hx22e.symm) ?_
     refine ai ⟨rfl, rfl, rfl, lb rfl⟩ (xi [AV.int .i64 o0.Chunked.Stage, AV.str x22, AV.int .i64 o0.Chunked.Left, AV.int .i64 o0.Chunked.Size, AV.int .i64 o0.bad] (ai (fun _ => rfl) ?_))
     refine SeqN.via (St.of [⟨0, AV.ptr 0 0, none⟩, ⟨1, AV.str a1, none⟩, ⟨5, AV.fn 208 [AV.ptr 0 0] [], none⟩, ⟨6, AV.int .i64 x17, none⟩] [.cells 204 [AV.int .i64 o0.Chunked.Stage, AV.str x22, AV.int .i64 o0.Chunked.Left, AV.int .i64 o0.Chunked.Size, AV.int .i64 o0.bad] []] []) ?_ ?_
     ·refine Gho.to _ _ _ [] ?_ ?_ ?_ rfl rfl ?_
      ·exact ⟨⟨rfl, rfl, rfl⟩, trivial⟩
      ·exact rfl
      ·exact rfl
      ·exact ⟨rfl, rfl, trivial, rfl, rfl, trivial, rfl, rfl, trivial, rfl, rfl, trivial, trivial⟩
     refine sj <| sn ?_
     refine Br.mk (fun ht => ?_) (fun ht => ?_)
     ·replace h := cond_tt h ht
      refine sj <| NormE.same <| sn ?_
      replace h := oi h
      have h0 := (Prod.mk.inj h).1
      have h1 := (Prod.mk.inj h).2
      subst h0
      subst h1
      refine xi [⟨4, AV.int .i64 (a1.length : Int), none⟩] (ai (Gho.to _ _ _ [] ?_ ?_ ?_ rfl rfl ?_) (ai ?_ rfl))
      ·exact ⟨⟨rfl, rfl, rfl⟩, trivial⟩
      ·exact rfl
      ·exact rfl
      ·exact ⟨rfl, rfl, trivial, trivial⟩
      ·exact rfl
     ·replace h := cond_ff h ht
      refine sn <| sj <| bind_elim h fun x23 hx23 h => CallH.data _ false rfl (strings_TrimSuffix_ok E x22 ([13] : Bytes) x23 hx23) <| sn <| sj ?_
      refine ai ⟨rfl, rfl, rfl, lb rfl⟩ (xi [AV.int .i64 o0.Chunked.Stage, AV.str ([] : Bytes), AV.int .i64 o0.Chunked.Left, AV.int .i64 o0.Chunked.Size, AV.int .i64 o0.bad] (ai (fun _ => rfl) ?_))
      refine sn <| sj <| bind_elim h fun x24 hx24 h => CallH.ren [0] [] [.cells 204 (S_chunk_state.cells x24.2) []] [] (chunk_state_size_ok E (S_chunk_state.mk (S_Chunked.mk o0.Chunked.Stage ([] : Bytes) o0.Chunked.Left o0.Chunked.Size) o0.bad) x23 x24.1 x24.2 hx24) rfl rfl rfl rfl rfl rfl rfl rfl rfl ?_
      refine SeqN.via (St.of [⟨6, AV.int .i64 x17, none⟩] [.cells 204 (S_chunk_state.cells x24.2) []] []) ?_ ?_
      ·refine Gho.to _ _ _ [] ?_ ?_ ?_ rfl rfl ?_
       ·exact ⟨⟨rfl, rfl, rfl⟩, trivial⟩
       ·exact rfl
       ·exact rfl
       ·exact ⟨rfl, rfl, trivial, trivial⟩
      refine sj <| sn ?_
      replace h := oi h
      have h0 := (Prod.mk.inj h).1
      have h1 := (Prod.mk.inj h).2
      subst h0
      subst h1
      refine xi [⟨4, AV.int .i64 (IntKind.i64.wrap (x17 + (1 : Int))), none⟩] (ai (Gho.to _ _ _ [] ?_ ?_ ?_ rfl rfl ?_) (ai ?_ rfl))
      ·exact ⟨⟨rfl, rfl, rfl⟩, trivial⟩
      ·exact rfl
      ·exact rfl
      ·exact ⟨rfl, rfl, trivial, trivial⟩
      ·exact rfl
theorem chunk_Feed_ok (E : Pm.Env) [LaidM E] (a0 : S_Chunked) (a1 : Bytes) (r : (S_Chunked × Bytes × Int × Int)) (h : chunk_Feed a0 a1 = some r) : FnR E Tryz.prog 128 [S_Chunked.av a0, AV.str a1] (AV.tup [S_Chunked.av r.1, AV.str r.2.1, AV.int .i64 r.2.2.1, AV.int .i64 r.2.2.2]) false := by
 refine FnR.of_ev (T := T) (rows := [9]) tOk mixed Tryz.func128 rfl (by kernel_rfl) (by kernel_rfl) rfl fun hwf => ?_
 unfold chunk_Feed at h
 refine sj <| ai rfl <| ai rfl <| sn <| sj <| sj <| ai ⟨lb rfl, lb rfl⟩ <| NormE.to (S_Chunked.av a0) (fun _ => rfl) <| bind_elim h fun x1 hx1 h => CallH.data _ false rfl (chunk_Right_ok E a0 x1 hx1) <| sn ?_
 refine Br.mk (fun ht => ?_) (fun ht => ?_)
 ·replace h := cond_tt h ht
  refine sj ?_
  refine xi none (ai trivial ?_)
  refine ai ⟨rfl, rfl, rfl, lb rfl⟩ (xi [AV.int .i64 (0 : Int), AV.str ([] : Bytes), AV.int .i64 (0 : Int), AV.int .i64 (0 : Int)] (ai (fun _ => rfl) ?_))
  refine sn ?_
  replace h := oi h
  refine RetE.plain ?_
  refine ai ⟨lb rfl, lb rfl⟩ (xi (AV.agg [AV.int .i64 (0 : Int), AV.str ([] : Bytes), AV.int .i64 (0 : Int), AV.int .i64 (0 : Int)]) (ai rfl ?_))
  exact ai rfl (ai (congrArg (fun r : (S_Chunked × Bytes × Int × Int) => AV.tup [S_Chunked.av r.1, AV.str r.2.1, AV.int .i64 r.2.2.1, AV.int .i64 r.2.2.2]) h) rfl)
 ·replace h := cond_ff h ht
  refine sn <| sj <| ai ⟨lb rfl, lb rfl⟩ <| NormE.to (S_Chunked.av a0) (fun _ => rfl) <| ai ⟨rfl, rfl, lb rfl⟩ ?_
  refine xi none (ai trivial ?_)
  refine ai rfl <| sn <| sj ?_
  refine xi 5 (ai rfl ?_)
  refine sn <| sj <| sn <| sj ?_
  refine LoopE.img (fun x : (Int × S_chunk_state × Bytes) => St.of [⟨1, AV.str a1, none⟩, ⟨4, AV.ptr 1 0, none⟩, ⟨8, AV.ptr 2 0, none⟩, ⟨9, AV.ptr 3 0, none⟩, ⟨10, AV.int .i64 x.1, none⟩] [.dead, .cells 50 [AV.int .i64 (0 : Int), AV.str ([] : Bytes), AV.int .i64 (0 : Int), AV.int .i64 (0 : Int)] [], .cells 204 (S_chunk_state.cells x.2.1) [], .mp (.bld 145 5 x.2.2)] []) (chunk_Feed_b1 a1) ((0 : Int), (S_chunk_state.mk a0 (0 : Int)), ([] : Bytes)) h ?_ ?_
  ·refine Gho.to _ _ _ [] ?_ ?_ ?_ rfl rfl ?_
   ·exact ⟨trivial, ⟨⟨rfl, rfl, rfl⟩, ⟨⟨rfl, rfl, rfl⟩, ⟨rfl, trivial⟩⟩⟩⟩
   ·exact rfl
   ·exact rfl
   ·exact ⟨rfl, rfl, trivial, rfl, rfl, trivial, rfl, rfl, trivial, rfl, rfl, trivial, rfl, rfl, trivial, trivial⟩
  intro n1 x y1 h hl1 hr1
  obtain ⟨s2, s3, s4⟩ := x
  unfold chunk_Feed_b1 at h
  dsimp only at h
  refine sj <| sj <| NormE.same <| ai id <| ai id <| ai id <| ai id <| ai id <| ai (fun hg => (and_r hg)) <| sn ?_
  refine Br.mk (fun ht => ?_) (fun ht => ?_)
  ·replace h := cond_tt h ht
   refine sn <| sj <| sj ?_
   refine SeqN.via (St.of [⟨1, AV.str a1, none⟩, ⟨4, AV.ptr 1 0, none⟩, ⟨8, AV.ptr 2 0, none⟩, ⟨9, AV.ptr 3 0, none⟩, ⟨10, AV.int .i64 s2, none⟩, ⟨36, AV.bool (s3.Chunked.Stage != (1 : Int)), none⟩] [.dead, .cells 50 [AV.int .i64 (0 : Int), AV.str ([] : Bytes), AV.int .i64 (0 : Int), AV.int .i64 (0 : Int)] [], .cells 204 (S_chunk_state.cells s3) [], .mp (.bld 145 5 s4)] []) ?_ ?_
   ·refine Gho.to _ _ _ [] ?_ ?_ ?_ rfl rfl ?_
    ·exact ⟨trivial, ⟨⟨rfl, rfl, rfl⟩, ⟨⟨rfl, rfl, rfl⟩, ⟨rfl, trivial⟩⟩⟩⟩
    ·exact rfl
    ·exact rfl
    ·exact ⟨rfl, rfl, trivial, rfl, rfl, trivial, rfl, rfl, trivial, rfl, rfl, trivial, rfl, rfl, trivial, rfl, rfl, trivial, trivial⟩
   refine Br.mk (fun ht => ?_) (fun ht => ?_)
   ·replace h := cond_tt h ht
    refine sj <| bind_elim h fun x5 hx5 h => ?_
    have qx5 := (slc_some hx5).1
    have hx5e := (slc_some hx5).2
    refine ai (fun _ => qx5) <| NormE.to (AV.str x5) (fun _ => congrArg AV.str hx5e.symm) <| bind_elim h fun x6 hx6 h => CallH.ren [2] [] [.dead, .cells 50 [AV.int .i64 (0 : Int), AV.str ([] : Bytes), AV.int .i64 (0 : Int), AV.int .i64 (0 : Int)] [], .cells 204 (S_chunk_state.cells x6.2) [], .mp (.bld 145 5 s4)] [] (chunk_state_line_ok E s3 x5 x6.1 x6.2 hx6) rfl rfl rfl rfl rfl rfl rfl rfl rfl <| sn <| sj <| sj <| sn ?_
    refine Br.mk (fun ht => ?_) (fun ht => ?_)
    ·replace h := cond_tt h ht
     refine sj ?_
     refine xi none (ai trivial ?_)
     refine ai ⟨rfl, rfl, rfl, lb rfl⟩ (xi [AV.int .i64 (0 : Int), AV.str ([] : Bytes), AV.int .i64 (0 : Int), AV.int .i64 (0 : Int)] (ai (fun _ => rfl) ?_))
     refine ai (by kernel_rfl) ?_
     refine SeqN.via (St.of [⟨4, AV.ptr 1 0, none⟩, ⟨5, AV.str ([] : Bytes), none⟩, ⟨6, AV.int .i64 (0 : Int), none⟩, ⟨7, AV.int .i64 x6.2.bad, none⟩] [.dead, .cells 50 [AV.int .i64 (0 : Int), AV.str ([] : Bytes), AV.int .i64 (0 : Int), AV.int .i64 (0 : Int)] []] []) ?_ ?_
     ·refine Gho.to _ _ _ [] ?_ ?_ ?_ rfl rfl ?_
      ·exact ⟨trivial, ⟨⟨rfl, rfl, rfl⟩, trivial⟩⟩
      ·exact rfl
      ·exact rfl
      ·exact ⟨rfl, rfl, trivial, rfl, rfl, trivial, rfl, rfl, trivial, rfl, rfl, trivial, trivial⟩
     replace h := oi h
     replace h := hr1 _ h.symm
     refine RetE.plain ?_
     refine ai ⟨lb rfl, lb rfl⟩ (xi (AV.agg [AV.int .i64 (0 : Int), AV.str ([] : Bytes), AV.int .i64 (0 : Int), AV.int .i64 (0 : Int)]) (ai rfl ?_))
     exact ai rfl (ai (congrArg (fun r : (S_Chunked × Bytes × Int × Int) => AV.tup [S_Chunked.av r.1, AV.str r.2.1, AV.int .i64 r.2.2.1, AV.int .i64 r.2.2.2]) h) rfl)
    ·replace h := cond_ff h ht
     refine sn ?_
     replace h := oi h
     refine xi ⟨(n1, ((IntKind.i64.wrap (s2 + x6.1)), x6.2, s4)), hl1 _ h.symm⟩ (ai (Nat.lt_succ_self _) ?_)
     refine Gho.to _ _ _ [] ?_ ?_ ?_ rfl rfl ?_
     ·exact ⟨trivial, ⟨⟨rfl, rfl, rfl⟩, ⟨⟨rfl, rfl, rfl⟩, ⟨rfl, trivial⟩⟩⟩⟩
     ·exact rfl
     ·exact rfl
     ·exact ⟨rfl, rfl, trivial, rfl, rfl, trivial, rfl, rfl, trivial, rfl, rfl, trivial, rfl, rfl, trivial, trivial⟩
   ·replace h := cond_ff h ht
    refine sn <| sj <| NormE.same <| ai rfl <| sn <| sj <| bind_elim h fun x7 hx7 h => ?_
    have qx7 := (slc_some hx7).1
    have hx7e := (slc_some hx7).2
    refine ai (fun _ => qx7) <| NormE.to (AV.str x7) (fun _ => congrArg AV.str hx7e.symm) <| bind_elim h fun x8 hx8 h => ?_
    have qx8 := (bcat_some hx8).1
    have hx8e := (bcat_some hx8).2
    refine CallH.bldW L166 XB 3 s4 x7 rfl 145 5 rfl rfl [.dead, .cells 50 [AV.int .i64 (0 : Int), AV.str ([] : Bytes), AV.int .i64 (0 : Int), AV.int .i64 (0 : Int)] [], .cells 204 (S_chunk_state.cells s3) [], .mp (.bld 145 5 (s4 ++ x7))] [] rfl qx8 rfl rfl ?_
    refine SeqN.via (St.of [⟨1, AV.str a1, none⟩, ⟨4, AV.ptr 1 0, none⟩, ⟨8, AV.ptr 2 0, none⟩, ⟨9, AV.ptr 3 0, none⟩, ⟨10, AV.int .i64 s2, none⟩, ⟨11, AV.int .i64 (imin s3.Chunked.Left (IntKind.i64.wrap ((a1.length : Int) - s2))), none⟩] [.dead, .cells 50 [AV.int .i64 (0 : Int), AV.str ([] : Bytes), AV.int .i64 (0 : Int), AV.int .i64 (0 : Int)] [], .cells 204 (S_chunk_state.cells s3) [], .mp (.bld 145 5 (s4 ++ x7))] []) ?_ ?_
    ·refine Gho.to _ _ _ [] ?_ ?_ ?_ rfl rfl ?_
     ·exact ⟨trivial, ⟨⟨rfl, rfl, rfl⟩, ⟨⟨rfl, rfl, rfl⟩, ⟨rfl, trivial⟩⟩⟩⟩
     ·exact rfl
     ·exact rfl
     ·exact ⟨rfl, rfl, trivial, rfl, rfl, trivial, rfl, rfl, trivial, rfl, rfl, trivial, rfl, rfl, trivial, rfl, rfl, trivial, trivial⟩
    refine sj <| sn <| sj ?_
    refine ai ⟨rfl, rfl, rfl, lb rfl⟩ (xi [AV.int .i64 s3.Chunked.Stage, AV.str s3.Chunked.Line, AV.int .i64 s3.Chunked.Left, AV.int .i64 (IntKind.i64.wrap (s3.Chunked.Size + (imin s3.Chunked.Left (IntKind.i64.wrap ((a1.length : Int) - s2))))), AV.int .i64 s3.bad] (ai (fun _ => rfl) ?_))
    refine sn <| sj ?_
    refine ai ⟨rfl, rfl, rfl, lb rfl⟩ (xi [AV.int .i64 s3.Chunked.Stage, AV.str s3.Chunked.Line, AV.int .i64 (IntKind.i64.wrap (s3.Chunked.Left - (imin s3.Chunked.Left (IntKind.i64.wrap ((a1.length : Int) - s2))))), AV.int .i64 (IntKind.i64.wrap (s3.Chunked.Size + (imin s3.Chunked.Left (IntKind.i64.wrap ((a1.length : Int) - s2))))), AV.int .i64 s3.bad] (ai (fun _ => rfl) ?_))
    refine SeqN.via (St.of [⟨1, AV.str a1, none⟩, ⟨4, AV.ptr 1 0, none⟩, ⟨8, AV.ptr 2 0, none⟩, ⟨9, AV.ptr 3 0, none⟩, ⟨10, AV.int .i64 (IntKind.i64.wrap (s2 + (imin s3.Chunked.Left (IntKind.i64.wrap ((a1.length : Int) - s2))))), none⟩] [.dead, .cells 50 [AV.int .i64 (0 : Int), AV.str ([] : Bytes), AV.int .i64 (0 : Int), AV.int .i64 (0 : Int)] [], .cells 204 [AV.int .i64 s3.Chunked.Stage, AV.str s3.Chunked.Line, AV.int .i64 (IntKind.i64.wrap (s3.Chunked.Left - (imin s3.Chunked.Left (IntKind.i64.wrap ((a1.length : Int) - s2))))), AV.int .i64 (IntKind.i64.wrap (s3.Chunked.Size + (imin s3.Chunked.Left (IntKind.i64.wrap ((a1.length : Int) - s2))))), AV.int .i64 s3.bad] [], .mp (.bld 145 5 (s4 ++ x7))] []) ?_ ?_
    ·refine Gho.to _ _ _ [] ?_ ?_ ?_ rfl rfl ?_
     ·exact ⟨trivial, ⟨⟨rfl, rfl, rfl⟩, ⟨⟨rfl, rfl, rfl⟩, ⟨rfl, trivial⟩⟩⟩⟩
     ·exact rfl
     ·exact rfl
     ·exact ⟨rfl, rfl, trivial, rfl, rfl, trivial, rfl, rfl, trivial, rfl, rfl, trivial, rfl, rfl, trivial, trivial⟩
    refine sj <| sn ?_
    refine Br.mk (fun ht => ?_) (fun ht => ?_)
    ·replace h := cond_tt h ht
     refine ai ⟨rfl, rfl, rfl, lb rfl⟩ (xi [AV.int .i64 (2 : Int), AV.str s3.Chunked.Line, AV.int .i64 (IntKind.i64.wrap (s3.Chunked.Left - (imin s3.Chunked.Left (IntKind.i64.wrap ((a1.length : Int) - s2))))), AV.int .i64 (IntKind.i64.wrap (s3.Chunked.Size + (imin s3.Chunked.Left (IntKind.i64.wrap ((a1.length : Int) - s2))))), AV.int .i64 s3.bad] (ai (fun _ => rfl) ?_))
     replace h := oi h
     refine xi ⟨(n1, ((IntKind.i64.wrap (s2 + (imin s3.Chunked.Left (IntKind.i64.wrap ((a1.length : Int) - s2))))), (S_chunk_state.mk (S_Chunked.mk (2 : Int) s3.Chunked.Line (IntKind.i64.wrap (s3.Chunked.Left - (imin s3.Chunked.Left (IntKind.i64.wrap ((a1.length : Int) - s2))))) (IntKind.i64.wrap (s3.Chunked.Size + (imin s3.Chunked.Left (IntKind.i64.wrap ((a1.length : Int) - s2)))))) s3.bad), (s4 ++ x7))), hl1 _ h.symm⟩ (ai (Nat.lt_succ_self _) ?_)
     refine Gho.to _ _ _ [] ?_ ?_ ?_ rfl rfl ?_
     ·exact ⟨trivial, ⟨⟨rfl, rfl, rfl⟩, ⟨⟨rfl, rfl, rfl⟩, ⟨rfl, trivial⟩⟩⟩⟩
     ·exact rfl
     ·exact rfl
     ·exact ⟨rfl, rfl, trivial, rfl, rfl, trivial, rfl, rfl, trivial, rfl, rfl, trivial, rfl, rfl, trivial, trivial⟩
    ·replace h := cond_ff h ht
     replace h := oi h
     refine xi ⟨(n1, ((IntKind.i64.wrap (s2 + (imin s3.Chunked.Left (IntKind.i64.wrap ((a1.length : Int) - s2))))), (S_chunk_state.mk (S_Chunked.mk s3.Chunked.Stage s3.Chunked.Line (IntKind.i64.wrap (s3.Chunked.Left - (imin s3.Chunked.Left (IntKind.i64.wrap ((a1.length : Int) - s2))))) (IntKind.i64.wrap (s3.Chunked.Size + (imin s3.Chunked.Left (IntKind.i64.wrap ((a1.length : Int) - s2)))))) s3.bad), (s4 ++ x7))), hl1 _ h.symm⟩ (ai (Nat.lt_succ_self _) ?_)
     refine Gho.to _ _ _ [] ?_ ?_ ?_ rfl rfl ?_
     ·exact ⟨trivial, ⟨⟨rfl, rfl, rfl⟩, ⟨⟨rfl, rfl, rfl⟩, ⟨rfl, trivial⟩⟩⟩⟩
     ·exact rfl
     ·exact rfl
     ·exact ⟨rfl, rfl, trivial, rfl, rfl, trivial, rfl, rfl, trivial, rfl, rfl, trivial, rfl, rfl, trivial, trivial⟩
  ·replace h := cond_ff h ht
   refine sn <| sj <| ai ⟨lb rfl, lb rfl⟩ <| NormE.to (S_Chunked.av s3.Chunked) (fun _ => rfl) <| bind_elim h fun x9 hx9 h => ?_
   have qx9 := (bcat_some hx9).1
   have hx9e := (bcat_some hx9).2
   refine CallH.bldS L169 XB 3 s4 rfl 145 5 rfl rfl [.dead, .cells 50 [AV.int .i64 (0 : Int), AV.str ([] : Bytes), AV.int .i64 (0 : Int), AV.int .i64 (0 : Int)] [], .cells 204 (S_chunk_state.cells s3) [], .dead] [] rfl qx9 rfl rfl ?_
   refine ai ⟨rfl, rfl, rfl, lb rfl⟩ (xi (S_Chunked.cells s3.Chunked) (ai (fun _ => rfl) ?_))
   refine ai (by kernel_rfl) ?_
   refine SeqN.via (St.of [⟨4, AV.ptr 1 0, none⟩, ⟨5, AV.str s4, none⟩, ⟨6, AV.int .i64 s2, none⟩, ⟨7, AV.int .i64 (0 : Int), none⟩] [.dead, .cells 50 (S_Chunked.cells s3.Chunked) []] []) ?_ ?_
   ·refine Gho.to _ _ _ [] ?_ ?_ ?_ rfl rfl ?_
    ·exact ⟨trivial, ⟨⟨rfl, rfl, rfl⟩, trivial⟩⟩
    ·exact rfl
    ·exact rfl
    ·exact ⟨rfl, rfl, trivial, rfl, rfl, trivial, rfl, rfl, trivial, rfl, rfl, trivial, trivial⟩
   replace h := oi h
   replace h := hr1 _ h.symm
   refine RetE.plain ?_
   refine ai ⟨lb rfl, lb rfl⟩ (xi (S_Chunked.av s3.Chunked) (ai rfl ?_))
   exact ai rfl (ai (congrArg (fun r : (S_Chunked × Bytes × Int × Int) => AV.tup [S_Chunked.av r.1, AV.str r.2.1, AV.int .i64 r.2.2.1, AV.int .i64 r.2.2.2]) h) rfl)
theorem wire_reading_fail_ok (E : Pm.Env) [LaidM E] (o0 : S_wire_reading) (a1 : Int) (r : Bool) (o0' : S_wire_reading) (h : wire_reading_fail o0 a1 = some (r, o0')) : FnW E Tryz.prog 122 [AV.ptr 0 0, AV.int .i64 a1] [.cells 113 (S_wire_reading.cells o0) [(18, 0)]] [1] (AV.bool r) none [.cells 113 (S_wire_reading.cells o0') [(18, 1)]] [0, 1] := by
 refine FnW.of_evB (T := T) (rows := []) tOk mixed Tryz.func122 rfl (by kernel_rfl) (by kernel_rfl) rfl rfl fun hwf => ?_
 unfold wire_reading_fail at h
 refine sj <| sn <| sj <| ai ⟨rfl, rfl, lb rfl⟩ <| ai ⟨rfl, rfl, lb rfl⟩ <| ai ⟨rfl, rfl, lb rfl⟩ ?_
 refine xi (some 131068) (ai (okM.mk (by kernel_rfl)) ?_)
 refine ai ⟨rfl, rfl, rfl, lb rfl⟩ (xi [AV.bool o0.Reader.Asks, AV.str o0.Reader.Method, AV.str ([] : Bytes), AV.bool false, AV.str ([] : Bytes), AV.str ([] : Bytes), AV.int .i64 (0 : Int), AV.str ([] : Bytes), AV.int .i64 (0 : Int), AV.list 2 (([] : List S_Field).map S_Field.av), AV.str ([] : Bytes), AV.int .i64 (0 : Int), AV.int .i64 (0 : Int), AV.int .i64 (0 : Int), AV.str ([] : Bytes), AV.int .i64 (0 : Int), AV.int .i64 (0 : Int), AV.int .i64 a1, AV.list 7 (o0.out.map S_Message.av)] (ai (fun _ => rfl) ?_))
 refine ai (by kernel_rfl) ?_
 refine SeqN.via (St.of [] [.cells 113 [AV.bool o0.Reader.Asks, AV.str o0.Reader.Method, AV.str ([] : Bytes), AV.bool false, AV.str ([] : Bytes), AV.str ([] : Bytes), AV.int .i64 (0 : Int), AV.str ([] : Bytes), AV.int .i64 (0 : Int), AV.list 2 (([] : List S_Field).map S_Field.av), AV.str ([] : Bytes), AV.int .i64 (0 : Int), AV.int .i64 (0 : Int), AV.int .i64 (0 : Int), AV.str ([] : Bytes), AV.int .i64 (0 : Int), AV.int .i64 (0 : Int), AV.int .i64 a1, AV.list 7 (o0.out.map S_Message.av)] [(9, 1), (18, 2)]] [0, 1, 1]) ?_ ?_
 ·refine Gho.to _ _ _ [0, 1, 0] ?_ ?_ ?_ rfl rfl ?_
  ·exact ⟨⟨rfl, rfl, rfl⟩, trivial⟩
  ·exact rfl
  ·exact rfl
  ·exact trivial
 refine sj <| sn ?_
 replace h := oi h
 have h0 := (Prod.mk.inj h).1
 have h1 := (Prod.mk.inj h).2
 subst h0
 subst h1
 refine xi [⟨4, AV.bool false, none⟩] (ai (Gho.to _ _ _ [0, 2] ?_ ?_ ?_ rfl rfl ?_) (ai ?_ rfl))
 ·exact ⟨⟨rfl, rfl, rfl⟩, trivial⟩
 ·exact rfl
 ·exact rfl
 ·exact ⟨rfl, rfl, trivial, trivial⟩
 ·exact rfl
theorem wire_reading_more_ok (E : Pm.Env) [LaidM E] (o0 : S_wire_reading) (r : Bool) (o0' : S_wire_reading) (h : wire_reading_more o0 = some (r, o0')) : FnW E Tryz.prog 69 [AV.ptr 0 0] [.cells 113 (S_wire_reading.cells o0) [(18, 0)]] [1] (AV.bool r) none [.cells 113 (S_wire_reading.cells o0') [(18, 1)]] [0, 1] := by
 refine FnW.of_evB (T := T) (rows := [87, 145]) tOk mixed Tryz.func69 rfl (by kernel_rfl) (by kernel_rfl) rfl rfl fun hwf => ?_
 unfold wire_reading_more at h
 refine sj <| sn <| sj <| NormE.same <| sn <| sj <| sj <| sn <| sj ?_
 refine SeqN.via (St.of [⟨0, AV.ptr 0 0, none⟩, ⟨3, AV.int .i64 (o0.Reader.Buf.length : Int), none⟩, ⟨19, AV.int .i64 o0.Reader.Body.Kind, none⟩, ⟨20, AV.bool (o0.Reader.Body.Kind == (0 : Int)), none⟩] [.cells 113 [AV.bool o0.Reader.Asks, AV.str o0.Reader.Method, AV.str o0.Reader.Buf, AV.bool o0.Reader.In, AV.str o0.Reader.Head.Start.Method, AV.str o0.Reader.Head.Start.Target, AV.int .i64 o0.Reader.Head.Start.Code, AV.str o0.Reader.Head.Start.Reason, AV.int .i64 o0.Reader.Head.Start.Minor, AV.list 2 (o0.Reader.Head.Fields.map S_Field.av), AV.str o0.Reader.Head.Body, AV.int .i64 o0.Reader.Body.Kind, AV.int .i64 o0.Reader.Body.Size, AV.int .i64 o0.Reader.Chunk.Stage, AV.str o0.Reader.Chunk.Line, AV.int .i64 o0.Reader.Chunk.Left, AV.int .i64 o0.Reader.Chunk.Size, AV.int .i64 o0.Reader.Bad, AV.list 7 (o0.out.map S_Message.av)] [(18, 1)]] [0, 1]) ?_ ?_
 ·refine Gho.to _ _ _ [0, 0] ?_ ?_ ?_ rfl rfl ?_
  ·exact ⟨⟨rfl, rfl, rfl⟩, trivial⟩
  ·exact rfl
  ·exact rfl
  ·exact ⟨rfl, rfl, trivial, rfl, rfl, trivial, rfl, rfl, trivial, rfl, rfl, trivial, trivial⟩
 refine Br.mk (fun ht => ?_) (fun ht => ?_)
 ·replace h := cond_tt h ht
  refine sj <| bind_elim h fun x1 hx1 h => CallH.ren [0] [1] [.cells 113 [AV.bool x1.2.Reader.Asks, AV.str x1.2.Reader.Method, AV.str x1.2.Reader.Buf, AV.bool x1.2.Reader.In, AV.str x1.2.Reader.Head.Start.Method, AV.str x1.2.Reader.Head.Start.Target, AV.int .i64 x1.2.Reader.Head.Start.Code, AV.str x1.2.Reader.Head.Start.Reason, AV.int .i64 x1.2.Reader.Head.Start.Minor, AV.list 2 (x1.2.Reader.Head.Fields.map S_Field.av), AV.str x1.2.Reader.Head.Body, AV.int .i64 x1.2.Reader.Body.Kind, AV.int .i64 x1.2.Reader.Body.Size, AV.int .i64 x1.2.Reader.Chunk.Stage, AV.str x1.2.Reader.Chunk.Line, AV.int .i64 x1.2.Reader.Chunk.Left, AV.int .i64 x1.2.Reader.Chunk.Size, AV.int .i64 x1.2.Reader.Bad, AV.list 7 (x1.2.out.map S_Message.av)] [(18, 2)]] [0, 0, 1] (wire_reading_whole_ok E o0 x1.1 x1.2 hx1) rfl rfl rfl rfl rfl rfl rfl rfl rfl <| sn ?_
  replace h := oi h
  have h0 := (Prod.mk.inj h).1
  have h1 := (Prod.mk.inj h).2
  subst h0
  subst h1
  refine xi [⟨2, AV.bool x1.1, none⟩] (ai (Gho.to _ _ _ [0, 2] ?_ ?_ ?_ rfl rfl ?_) (ai ?_ rfl))
  ·exact ⟨⟨rfl, rfl, rfl⟩, trivial⟩
  ·exact rfl
  ·exact rfl
  ·exact ⟨rfl, rfl, trivial, trivial⟩
  ·exact rfl
 ·replace h := cond_ff h ht
  refine sj <| sn ?_
  refine Br.mk (fun ht => ?_) (fun ht => ?_)
  ·replace h := cond_tt h ht
   refine sj <| NormE.same <| ai rfl <| ai (by kernel_rfl) ?_
   refine SeqN.via (St.of [⟨0, AV.ptr 0 0, none⟩, ⟨3, AV.int .i64 (imin (o0.Reader.Buf.length : Int) (IntKind.i64.wrap (o0.Reader.Body.Size - (o0.Reader.Head.Body.length : Int)))), none⟩] [.cells 113 [AV.bool o0.Reader.Asks, AV.str o0.Reader.Method, AV.str o0.Reader.Buf, AV.bool o0.Reader.In, AV.str o0.Reader.Head.Start.Method, AV.str o0.Reader.Head.Start.Target, AV.int .i64 o0.Reader.Head.Start.Code, AV.str o0.Reader.Head.Start.Reason, AV.int .i64 o0.Reader.Head.Start.Minor, AV.list 2 (o0.Reader.Head.Fields.map S_Field.av), AV.str o0.Reader.Head.Body, AV.int .i64 o0.Reader.Body.Kind, AV.int .i64 o0.Reader.Body.Size, AV.int .i64 o0.Reader.Chunk.Stage, AV.str o0.Reader.Chunk.Line, AV.int .i64 o0.Reader.Chunk.Left, AV.int .i64 o0.Reader.Chunk.Size, AV.int .i64 o0.Reader.Bad, AV.list 7 (o0.out.map S_Message.av)] [(18, 1)]] [0, 1]) ?_ ?_
   ·refine Gho.to _ _ _ [0, 1] ?_ ?_ ?_ rfl rfl ?_
    ·exact ⟨⟨rfl, rfl, rfl⟩, trivial⟩
    ·exact rfl
    ·exact rfl
    ·exact ⟨rfl, rfl, trivial, rfl, rfl, trivial, trivial⟩
   refine sj <| bind_elim h fun x2 hx2 h => ?_
   have qx2 := (slc_some hx2).1
   have hx2e := (slc_some hx2).2
   refine ai (fun _ => qx2) <| NormE.to (AV.str x2) (fun _ => congrArg AV.str hx2e.symm) <| bind_elim h fun x3 hx3 h => ?_
   have hx3c := (cat_some hx3).1
   have hx3e := (cat_some hx3).2
   refine ai (fun _ => hx3c) <| NormE.to (AV.str x3) (fun _ => congrArg AV.str hx3e.symm) ?_
   refine ai ⟨rfl, rfl, rfl, lb rfl⟩ (xi [AV.bool o0.Reader.Asks, AV.str o0.Reader.Method, AV.str o0.Reader.Buf, AV.bool o0.Reader.In, AV.str o0.Reader.Head.Start.Method, AV.str o0.Reader.Head.Start.Target, AV.int .i64 o0.Reader.Head.Start.Code, AV.str o0.Reader.Head.Start.Reason, AV.int .i64 o0.Reader.Head.Start.Minor, AV.list 2 (o0.Reader.Head.Fields.map S_Field.av), AV.str x3, AV.int .i64 o0.Reader.Body.Kind, AV.int .i64 o0.Reader.Body.Size, AV.int .i64 o0.Reader.Chunk.Stage, AV.str o0.Reader.Chunk.Line, AV.int .i64 o0.Reader.Chunk.Left, AV.int .i64 o0.Reader.Chunk.Size, AV.int .i64 o0.Reader.Bad, AV.list 7 (o0.out.map S_Message.av)] (ai (fun _ => rfl) ?_))
   refine ai (by kernel_rfl) ?_
   refine SeqN.via (St.of [⟨0, AV.ptr 0 0, none⟩, ⟨3, AV.int .i64 (imin (o0.Reader.Buf.length : Int) (IntKind.i64.wrap (o0.Reader.Body.Size - (o0.Reader.Head.Body.length : Int)))), none⟩] [.cells 113 [AV.bool o0.Reader.Asks, AV.str o0.Reader.Method, AV.str o0.Reader.Buf, AV.bool o0.Reader.In, AV.str o0.Reader.Head.Start.Method, AV.str o0.Reader.Head.Start.Target, AV.int .i64 o0.Reader.Head.Start.Code, AV.str o0.Reader.Head.Start.Reason, AV.int .i64 o0.Reader.Head.Start.Minor, AV.list 2 (o0.Reader.Head.Fields.map S_Field.av), AV.str x3, AV.int .i64 o0.Reader.Body.Kind, AV.int .i64 o0.Reader.Body.Size, AV.int .i64 o0.Reader.Chunk.Stage, AV.str o0.Reader.Chunk.Line, AV.int .i64 o0.Reader.Chunk.Left, AV.int .i64 o0.Reader.Chunk.Size, AV.int .i64 o0.Reader.Bad, AV.list 7 (o0.out.map S_Message.av)] [(18, 1)]] [0, 1]) ?_ ?_
   ·refine Gho.to _ _ _ [0, 1] ?_ ?_ ?_ rfl rfl ?_
    ·exact ⟨⟨rfl, rfl, rfl⟩, trivial⟩
    ·exact rfl
    ·exact rfl
    ·exact ⟨rfl, rfl, trivial, rfl, rfl, trivial, trivial⟩
   refine sj <| bind_elim h fun x4 hx4 h => ?_
   have qx4 := (slc_some hx4).1
   have hx4e := (slc_some hx4).2
   refine ai (fun _ => qx4) <| NormE.to (AV.str x4) (fun _ => congrArg AV.str hx4e.symm) ?_
   refine ai ⟨rfl, rfl, rfl, lb rfl⟩ (xi [AV.bool o0.Reader.Asks, AV.str o0.Reader.Method, AV.str x4, AV.bool o0.Reader.In, AV.str o0.Reader.Head.Start.Method, AV.str o0.Reader.Head.Start.Target, AV.int .i64 o0.Reader.Head.Start.Code, AV.str o0.Reader.Head.Start.Reason, AV.int .i64 o0.Reader.Head.Start.Minor, AV.list 2 (o0.Reader.Head.Fields.map S_Field.av), AV.str x3, AV.int .i64 o0.Reader.Body.Kind, AV.int .i64 o0.Reader.Body.Size, AV.int .i64 o0.Reader.Chunk.Stage, AV.str o0.Reader.Chunk.Line, AV.int .i64 o0.Reader.Chunk.Left, AV.int .i64 o0.Reader.Chunk.Size, AV.int .i64 o0.Reader.Bad, AV.list 7 (o0.out.map S_Message.av)] (ai (fun _ => rfl) ?_))
   refine sn <| sj <| NormE.same ?_
   refine ai (fun ht => ?_) (fun ht => ?_)
   ·replace h := cond_tt h ht
    refine bind_elim h fun x5 hx5 h => ai (fun _ => id ht) <| CallH.ren [0] [1] [.cells 113 [AV.bool x5.2.Reader.Asks, AV.str x5.2.Reader.Method, AV.str x5.2.Reader.Buf, AV.bool x5.2.Reader.In, AV.str x5.2.Reader.Head.Start.Method, AV.str x5.2.Reader.Head.Start.Target, AV.int .i64 x5.2.Reader.Head.Start.Code, AV.str x5.2.Reader.Head.Start.Reason, AV.int .i64 x5.2.Reader.Head.Start.Minor, AV.list 2 (x5.2.Reader.Head.Fields.map S_Field.av), AV.str x5.2.Reader.Head.Body, AV.int .i64 x5.2.Reader.Body.Kind, AV.int .i64 x5.2.Reader.Body.Size, AV.int .i64 x5.2.Reader.Chunk.Stage, AV.str x5.2.Reader.Chunk.Line, AV.int .i64 x5.2.Reader.Chunk.Left, AV.int .i64 x5.2.Reader.Chunk.Size, AV.int .i64 x5.2.Reader.Bad, AV.list 7 (x5.2.out.map S_Message.av)] [(18, 2)]] [0, 0, 1] (wire_reading_whole_ok E (S_wire_reading.mk (S_Reader.mk o0.Reader.Asks o0.Reader.Method x4 o0.Reader.In (S_Message.mk o0.Reader.Head.Start o0.Reader.Head.Fields x3) o0.Reader.Body o0.Reader.Chunk o0.Reader.Bad) o0.out) x5.1 x5.2 hx5) rfl rfl rfl rfl rfl rfl rfl rfl rfl <| ai (by kernel_rfl) ?_
    refine SeqN.via (St.of [⟨2, AV.bool (bif ((x3.length : Int) == o0.Reader.Body.Size) then x5.1 else false), none⟩] [.cells 113 [AV.bool x5.2.Reader.Asks, AV.str x5.2.Reader.Method, AV.str x5.2.Reader.Buf, AV.bool x5.2.Reader.In, AV.str x5.2.Reader.Head.Start.Method, AV.str x5.2.Reader.Head.Start.Target, AV.int .i64 x5.2.Reader.Head.Start.Code, AV.str x5.2.Reader.Head.Start.Reason, AV.int .i64 x5.2.Reader.Head.Start.Minor, AV.list 2 (x5.2.Reader.Head.Fields.map S_Field.av), AV.str x5.2.Reader.Head.Body, AV.int .i64 x5.2.Reader.Body.Kind, AV.int .i64 x5.2.Reader.Body.Size, AV.int .i64 x5.2.Reader.Chunk.Stage, AV.str x5.2.Reader.Chunk.Line, AV.int .i64 x5.2.Reader.Chunk.Left, AV.int .i64 x5.2.Reader.Chunk.Size, AV.int .i64 x5.2.Reader.Bad, AV.list 7 (x5.2.out.map S_Message.av)] [(18, 1)]] [0, 1]) ?_ ?_
    ·refine Gho.to _ _ _ [0, 2] ?_ ?_ ?_ rfl rfl ?_
     ·exact ⟨⟨rfl, rfl, rfl⟩, trivial⟩
     ·exact rfl
     ·exact rfl
     ·exact ⟨rfl, rfl, trivial, trivial⟩
    replace h := oi h
    have h0 := (Prod.mk.inj h).1
    have h1 := (Prod.mk.inj h).2
    subst h0
    subst h1
    refine xi [⟨2, AV.bool (bif ((x3.length : Int) == o0.Reader.Body.Size) then x5.1 else false), none⟩] (ai (Gho.to _ _ _ [0, 1] ?_ ?_ ?_ rfl rfl ?_) (ai ?_ rfl))
    ·exact ⟨⟨rfl, rfl, rfl⟩, trivial⟩
    ·exact rfl
    ·exact rfl
    ·exact ⟨rfl, rfl, trivial, trivial⟩
    ·exact rfl
   ·replace h := cond_ff h ht
    refine ai (fun hg => ht.symm.trans hg) <| ai ht <| ai (by kernel_rfl) ?_
    refine SeqN.via (St.of [⟨2, AV.bool false, none⟩] [.cells 113 [AV.bool o0.Reader.Asks, AV.str o0.Reader.Method, AV.str x4, AV.bool o0.Reader.In, AV.str o0.Reader.Head.Start.Method, AV.str o0.Reader.Head.Start.Target, AV.int .i64 o0.Reader.Head.Start.Code, AV.str o0.Reader.Head.Start.Reason, AV.int .i64 o0.Reader.Head.Start.Minor, AV.list 2 (o0.Reader.Head.Fields.map S_Field.av), AV.str x3, AV.int .i64 o0.Reader.Body.Kind, AV.int .i64 o0.Reader.Body.Size, AV.int .i64 o0.Reader.Chunk.Stage, AV.str o0.Reader.Chunk.Line, AV.int .i64 o0.Reader.Chunk.Left, AV.int .i64 o0.Reader.Chunk.Size, AV.int .i64 o0.Reader.Bad, AV.list 7 (o0.out.map S_Message.av)] [(18, 1)]] [0, 1]) ?_ ?_
    ·refine Gho.to _ _ _ [0, 1] ?_ ?_ ?_ rfl rfl ?_
     ·exact ⟨⟨rfl, rfl, rfl⟩, trivial⟩
     ·exact rfl
     ·exact rfl
     ·exact ⟨rfl, rfl, trivial, trivial⟩
    replace h := oi h
    have h0 := (Prod.mk.inj h).1
    have h1 := (Prod.mk.inj h).2
    subst h0
    subst h1
    refine xi [⟨2, AV.bool false, none⟩] (ai (Gho.to _ _ _ [0, 1] ?_ ?_ ?_ rfl rfl ?_) (ai ?_ rfl))
    ·exact ⟨⟨rfl, rfl, rfl⟩, trivial⟩
    ·exact rfl
    ·exact rfl
    ·exact ⟨rfl, rfl, trivial, trivial⟩
    ·exact rfl
  ·replace h := cond_ff h ht
   refine sj <| sn ?_
   refine Br.mk (fun ht => ?_) (fun ht => ?_)
   ·replace h := cond_tt h ht
    refine sj <| ai ⟨lb rfl, lb rfl⟩ <| NormE.to (AV.agg [AV.int .i64 o0.Reader.Chunk.Stage, AV.str o0.Reader.Chunk.Line, AV.int .i64 o0.Reader.Chunk.Left, AV.int .i64 o0.Reader.Chunk.Size]) (fun _ => rfl) <| bind_elim h fun x6 hx6 h => CallH.data _ false rfl (chunk_Feed_ok E o0.Reader.Chunk o0.Reader.Buf x6 hx6) <| ai rfl ?_
    refine ai ⟨rfl, rfl, rfl, lb rfl⟩ (xi (S_Chunked.cells x6.1) (ai (fun _ => rfl) ?_))
    refine ai (by kernel_rfl) ?_
    refine SeqN.via (St.of [⟨0, AV.ptr 0 0, none⟩, ⟨4, AV.ptr 1 0, none⟩, ⟨5, AV.str x6.2.1, none⟩, ⟨6, AV.int .i64 x6.2.2.1, none⟩, ⟨7, AV.int .i64 x6.2.2.2, none⟩] [.cells 113 [AV.bool o0.Reader.Asks, AV.str o0.Reader.Method, AV.str o0.Reader.Buf, AV.bool o0.Reader.In, AV.str o0.Reader.Head.Start.Method, AV.str o0.Reader.Head.Start.Target, AV.int .i64 o0.Reader.Head.Start.Code, AV.str o0.Reader.Head.Start.Reason, AV.int .i64 o0.Reader.Head.Start.Minor, AV.list 2 (o0.Reader.Head.Fields.map S_Field.av), AV.str o0.Reader.Head.Body, AV.int .i64 o0.Reader.Body.Kind, AV.int .i64 o0.Reader.Body.Size, AV.int .i64 o0.Reader.Chunk.Stage, AV.str o0.Reader.Chunk.Line, AV.int .i64 o0.Reader.Chunk.Left, AV.int .i64 o0.Reader.Chunk.Size, AV.int .i64 o0.Reader.Bad, AV.list 7 (o0.out.map S_Message.av)] [(18, 1)], .cells 50 (S_Chunked.cells x6.1) []] [0, 1]) ?_ ?_
    ·refine Gho.to _ _ _ [0, 1] ?_ ?_ ?_ rfl rfl ?_
     ·exact ⟨⟨rfl, rfl, rfl⟩, ⟨⟨rfl, rfl, rfl⟩, trivial⟩⟩
     ·exact rfl
     ·exact rfl
     ·exact ⟨rfl, rfl, trivial, rfl, rfl, trivial, rfl, rfl, trivial, rfl, rfl, trivial, rfl, rfl, trivial, trivial⟩
    refine sj <| sj <| sn ?_
    refine Br.mk (fun ht => ?_) (fun ht => ?_)
    ·replace h := cond_tt h ht
     refine sj <| bind_elim h fun x7 hx7 h => CallH.ren [0] [1] [.cells 113 [AV.bool x7.2.Reader.Asks, AV.str x7.2.Reader.Method, AV.str x7.2.Reader.Buf, AV.bool x7.2.Reader.In, AV.str x7.2.Reader.Head.Start.Method, AV.str x7.2.Reader.Head.Start.Target, AV.int .i64 x7.2.Reader.Head.Start.Code, AV.str x7.2.Reader.Head.Start.Reason, AV.int .i64 x7.2.Reader.Head.Start.Minor, AV.list 2 (x7.2.Reader.Head.Fields.map S_Field.av), AV.str x7.2.Reader.Head.Body, AV.int .i64 x7.2.Reader.Body.Kind, AV.int .i64 x7.2.Reader.Body.Size, AV.int .i64 x7.2.Reader.Chunk.Stage, AV.str x7.2.Reader.Chunk.Line, AV.int .i64 x7.2.Reader.Chunk.Left, AV.int .i64 x7.2.Reader.Chunk.Size, AV.int .i64 x7.2.Reader.Bad, AV.list 7 (x7.2.out.map S_Message.av)] [(18, 2)], .cells 50 (S_Chunked.cells x6.1) []] [0, 0, 1] (wire_reading_fail_ok E o0 x6.2.2.2 x7.1 x7.2 hx7) rfl rfl rfl rfl rfl rfl rfl rfl rfl <| sn ?_
     replace h := oi h
     have h0 := (Prod.mk.inj h).1
     have h1 := (Prod.mk.inj h).2
     subst h0
     subst h1
     refine xi [⟨2, AV.bool x7.1, none⟩] (ai (Gho.to _ _ _ [0, 2] ?_ ?_ ?_ rfl rfl ?_) (ai ?_ rfl))
     ·exact ⟨⟨rfl, rfl, rfl⟩, trivial⟩
     ·exact rfl
     ·exact rfl
     ·exact ⟨rfl, rfl, trivial, trivial⟩
     ·exact rfl
    ·replace h := cond_ff h ht
     refine sn <| sj <| ai ⟨lb rfl, lb rfl⟩ <| NormE.to (S_Chunked.av x6.1) (fun _ => rfl) ?_
     refine ai ⟨rfl, rfl, rfl, lb rfl⟩ (xi [AV.bool o0.Reader.Asks, AV.str o0.Reader.Method, AV.str o0.Reader.Buf, AV.bool o0.Reader.In, AV.str o0.Reader.Head.Start.Method, AV.str o0.Reader.Head.Start.Target, AV.int .i64 o0.Reader.Head.Start.Code, AV.str o0.Reader.Head.Start.Reason, AV.int .i64 o0.Reader.Head.Start.Minor, AV.list 2 (o0.Reader.Head.Fields.map S_Field.av), AV.str o0.Reader.Head.Body, AV.int .i64 o0.Reader.Body.Kind, AV.int .i64 o0.Reader.Body.Size, AV.int .i64 x6.1.Stage, AV.str x6.1.Line, AV.int .i64 x6.1.Left, AV.int .i64 x6.1.Size, AV.int .i64 o0.Reader.Bad, AV.list 7 (o0.out.map S_Message.av)] (ai (fun _ => rfl) ?_))
     refine sn <| sj <| bind_elim h fun x8 hx8 h => ?_
     have hx8c := (cat_some hx8).1
     have hx8e := (cat_some hx8).2
     refine ai (fun _ => hx8c) <| NormE.to (AV.str x8) (fun _ => congrArg AV.str hx8e.symm) ?_
     refine ai ⟨rfl, rfl, rfl, lb rfl⟩ (xi [AV.bool o0.Reader.Asks, AV.str o0.Reader.Method, AV.str o0.Reader.Buf, AV.bool o0.Reader.In, AV.str o0.Reader.Head.Start.Method, AV.str o0.Reader.Head.Start.Target, AV.int .i64 o0.Reader.Head.Start.Code, AV.str o0.Reader.Head.Start.Reason, AV.int .i64 o0.Reader.Head.Start.Minor, AV.list 2 (o0.Reader.Head.Fields.map S_Field.av), AV.str x8, AV.int .i64 o0.Reader.Body.Kind, AV.int .i64 o0.Reader.Body.Size, AV.int .i64 x6.1.Stage, AV.str x6.1.Line, AV.int .i64 x6.1.Left, AV.int .i64 x6.1.Size, AV.int .i64 o0.Reader.Bad, AV.list 7 (o0.out.map S_Message.av)] (ai (fun _ => rfl) ?_))
     refine SeqN.via (St.of [⟨0, AV.ptr 0 0, none⟩, ⟨4, AV.ptr 1 0, none⟩, ⟨6, AV.int .i64 x6.2.2.1, none⟩] [.cells 113 [AV.bool o0.Reader.Asks, AV.str o0.Reader.Method, AV.str o0.Reader.Buf, AV.bool o0.Reader.In, AV.str o0.Reader.Head.Start.Method, AV.str o0.Reader.Head.Start.Target, AV.int .i64 o0.Reader.Head.Start.Code, AV.str o0.Reader.Head.Start.Reason, AV.int .i64 o0.Reader.Head.Start.Minor, AV.list 2 (o0.Reader.Head.Fields.map S_Field.av), AV.str x8, AV.int .i64 o0.Reader.Body.Kind, AV.int .i64 o0.Reader.Body.Size, AV.int .i64 x6.1.Stage, AV.str x6.1.Line, AV.int .i64 x6.1.Left, AV.int .i64 x6.1.Size, AV.int .i64 o0.Reader.Bad, AV.list 7 (o0.out.map S_Message.av)] [(18, 1)], .cells 50 (S_Chunked.cells x6.1) []] [0, 1]) ?_ ?_
     ·refine Gho.to _ _ _ [0, 1] ?_ ?_ ?_ rfl rfl ?_
      ·exact ⟨⟨rfl, rfl, rfl⟩, ⟨⟨rfl, rfl, rfl⟩, trivial⟩⟩
      ·exact rfl
      ·exact rfl
      ·exact ⟨rfl, rfl, trivial, rfl, rfl, trivial, rfl, rfl, trivial, trivial⟩
     refine sj <| bind_elim h fun x9 hx9 h => ?_
     have qx9 := (slc_some hx9).1
     have hx9e := (slc_some hx9).2
     refine ai (fun _ => qx9) <| NormE.to (AV.str x9) (fun _ => congrArg AV.str hx9e.symm) ?_
     refine ai ⟨rfl, rfl, rfl, lb rfl⟩ (xi [AV.bool o0.Reader.Asks, AV.str o0.Reader.Method, AV.str x9, AV.bool o0.Reader.In, AV.str o0.Reader.Head.Start.Method, AV.str o0.Reader.Head.Start.Target, AV.int .i64 o0.Reader.Head.Start.Code, AV.str o0.Reader.Head.Start.Reason, AV.int .i64 o0.Reader.Head.Start.Minor, AV.list 2 (o0.Reader.Head.Fields.map S_Field.av), AV.str x8, AV.int .i64 o0.Reader.Body.Kind, AV.int .i64 o0.Reader.Body.Size, AV.int .i64 x6.1.Stage, AV.str x6.1.Line, AV.int .i64 x6.1.Left, AV.int .i64 x6.1.Size, AV.int .i64 o0.Reader.Bad, AV.list 7 (o0.out.map S_Message.av)] (ai (fun _ => rfl) ?_))
     refine sn <| sj ?_
     refine ai (fun ht => ?_) (fun ht => ?_)
     ·replace h := cond_tt h ht
      refine bind_elim h fun x10 hx10 h => ai (fun _ => id ht) <| CallH.ren [0] [1] [.cells 113 [AV.bool x10.2.Reader.Asks, AV.str x10.2.Reader.Method, AV.str x10.2.Reader.Buf, AV.bool x10.2.Reader.In, AV.str x10.2.Reader.Head.Start.Method, AV.str x10.2.Reader.Head.Start.Target, AV.int .i64 x10.2.Reader.Head.Start.Code, AV.str x10.2.Reader.Head.Start.Reason, AV.int .i64 x10.2.Reader.Head.Start.Minor, AV.list 2 (x10.2.Reader.Head.Fields.map S_Field.av), AV.str x10.2.Reader.Head.Body, AV.int .i64 x10.2.Reader.Body.Kind, AV.int .i64 x10.2.Reader.Body.Size, AV.int .i64 x10.2.Reader.Chunk.Stage, AV.str x10.2.Reader.Chunk.Line, AV.int .i64 x10.2.Reader.Chunk.Left, AV.int .i64 x10.2.Reader.Chunk.Size, AV.int .i64 x10.2.Reader.Bad, AV.list 7 (x10.2.out.map S_Message.av)] [(18, 2)], .cells 50 (S_Chunked.cells x6.1) []] [0, 0, 1] (wire_reading_whole_ok E (S_wire_reading.mk (S_Reader.mk o0.Reader.Asks o0.Reader.Method x9 o0.Reader.In (S_Message.mk o0.Reader.Head.Start o0.Reader.Head.Fields x8) o0.Reader.Body x6.1 o0.Reader.Bad) o0.out) x10.1 x10.2 hx10) rfl rfl rfl rfl rfl rfl rfl rfl rfl ?_
      refine SeqN.via (St.of [⟨2, AV.bool (bif (x6.1.Stage == (4 : Int)) then x10.1 else false), none⟩] [.cells 113 [AV.bool x10.2.Reader.Asks, AV.str x10.2.Reader.Method, AV.str x10.2.Reader.Buf, AV.bool x10.2.Reader.In, AV.str x10.2.Reader.Head.Start.Method, AV.str x10.2.Reader.Head.Start.Target, AV.int .i64 x10.2.Reader.Head.Start.Code, AV.str x10.2.Reader.Head.Start.Reason, AV.int .i64 x10.2.Reader.Head.Start.Minor, AV.list 2 (x10.2.Reader.Head.Fields.map S_Field.av), AV.str x10.2.Reader.Head.Body, AV.int .i64 x10.2.Reader.Body.Kind, AV.int .i64 x10.2.Reader.Body.Size, AV.int .i64 x10.2.Reader.Chunk.Stage, AV.str x10.2.Reader.Chunk.Line, AV.int .i64 x10.2.Reader.Chunk.Left, AV.int .i64 x10.2.Reader.Chunk.Size, AV.int .i64 x10.2.Reader.Bad, AV.list 7 (x10.2.out.map S_Message.av)] [(18, 1)]] [0, 1]) ?_ ?_
      ·refine Gho.to _ _ _ [0, 2] ?_ ?_ ?_ rfl rfl ?_
       ·exact ⟨⟨rfl, rfl, rfl⟩, trivial⟩
       ·exact rfl
       ·exact rfl
       ·exact ⟨rfl, rfl, trivial, trivial⟩
      replace h := oi h
      have h0 := (Prod.mk.inj h).1
      have h1 := (Prod.mk.inj h).2
      subst h0
      subst h1
      refine xi [⟨2, AV.bool (bif (x6.1.Stage == (4 : Int)) then x10.1 else false), none⟩] (ai (Gho.to _ _ _ [0, 1] ?_ ?_ ?_ rfl rfl ?_) (ai ?_ rfl))
      ·exact ⟨⟨rfl, rfl, rfl⟩, trivial⟩
      ·exact rfl
      ·exact rfl
      ·exact ⟨rfl, rfl, trivial, trivial⟩
      ·exact rfl
     ·replace h := cond_ff h ht
      refine ai (fun hg => ht.symm.trans hg) <| ai ht ?_
      refine SeqN.via (St.of [⟨2, AV.bool false, none⟩] [.cells 113 [AV.bool o0.Reader.Asks, AV.str o0.Reader.Method, AV.str x9, AV.bool o0.Reader.In, AV.str o0.Reader.Head.Start.Method, AV.str o0.Reader.Head.Start.Target, AV.int .i64 o0.Reader.Head.Start.Code, AV.str o0.Reader.Head.Start.Reason, AV.int .i64 o0.Reader.Head.Start.Minor, AV.list 2 (o0.Reader.Head.Fields.map S_Field.av), AV.str x8, AV.int .i64 o0.Reader.Body.Kind, AV.int .i64 o0.Reader.Body.Size, AV.int .i64 x6.1.Stage, AV.str x6.1.Line, AV.int .i64 x6.1.Left, AV.int .i64 x6.1.Size, AV.int .i64 o0.Reader.Bad, AV.list 7 (o0.out.map S_Message.av)] [(18, 1)]] [0, 1]) ?_ ?_
      ·refine Gho.to _ _ _ [0, 1] ?_ ?_ ?_ rfl rfl ?_
       ·exact ⟨⟨rfl, rfl, rfl⟩, trivial⟩
       ·exact rfl
       ·exact rfl
       ·exact ⟨rfl, rfl, trivial, trivial⟩
      replace h := oi h
      have h0 := (Prod.mk.inj h).1
      have h1 := (Prod.mk.inj h).2
      subst h0
      subst h1
      refine xi [⟨2, AV.bool false, none⟩] (ai (Gho.to _ _ _ [0, 1] ?_ ?_ ?_ rfl rfl ?_) (ai ?_ rfl))
      ·exact ⟨⟨rfl, rfl, rfl⟩, trivial⟩
      ·exact rfl
      ·exact rfl
      ·exact ⟨rfl, rfl, trivial, trivial⟩
      ·exact rfl
   ·replace h := cond_ff h ht
    refine sn <| sj <| sj <| bind_elim h fun x11 hx11 h => ?_
    have hx11c := (cat_some hx11).1
    have hx11e := (cat_some hx11).2
    refine ai (fun _ => hx11c) <| NormE.to (AV.str x11) (fun _ => congrArg AV.str hx11e.symm) ?_
    refine ai ⟨rfl, rfl, rfl, lb rfl⟩ (xi [AV.bool o0.Reader.Asks, AV.str o0.Reader.Method, AV.str o0.Reader.Buf, AV.bool o0.Reader.In, AV.str o0.Reader.Head.Start.Method, AV.str o0.Reader.Head.Start.Target, AV.int .i64 o0.Reader.Head.Start.Code, AV.str o0.Reader.Head.Start.Reason, AV.int .i64 o0.Reader.Head.Start.Minor, AV.list 2 (o0.Reader.Head.Fields.map S_Field.av), AV.str x11, AV.int .i64 o0.Reader.Body.Kind, AV.int .i64 o0.Reader.Body.Size, AV.int .i64 o0.Reader.Chunk.Stage, AV.str o0.Reader.Chunk.Line, AV.int .i64 o0.Reader.Chunk.Left, AV.int .i64 o0.Reader.Chunk.Size, AV.int .i64 o0.Reader.Bad, AV.list 7 (o0.out.map S_Message.av)] (ai (fun _ => rfl) ?_))
    refine ai (by kernel_rfl) ?_
    refine SeqN.via (St.of [⟨0, AV.ptr 0 0, none⟩] [.cells 113 [AV.bool o0.Reader.Asks, AV.str o0.Reader.Method, AV.str o0.Reader.Buf, AV.bool o0.Reader.In, AV.str o0.Reader.Head.Start.Method, AV.str o0.Reader.Head.Start.Target, AV.int .i64 o0.Reader.Head.Start.Code, AV.str o0.Reader.Head.Start.Reason, AV.int .i64 o0.Reader.Head.Start.Minor, AV.list 2 (o0.Reader.Head.Fields.map S_Field.av), AV.str x11, AV.int .i64 o0.Reader.Body.Kind, AV.int .i64 o0.Reader.Body.Size, AV.int .i64 o0.Reader.Chunk.Stage, AV.str o0.Reader.Chunk.Line, AV.int .i64 o0.Reader.Chunk.Left, AV.int .i64 o0.Reader.Chunk.Size, AV.int .i64 o0.Reader.Bad, AV.list 7 (o0.out.map S_Message.av)] [(18, 1)]] [0, 1]) ?_ ?_
    ·refine Gho.to _ _ _ [0, 1] ?_ ?_ ?_ rfl rfl ?_
     ·exact ⟨⟨rfl, rfl, rfl⟩, trivial⟩
     ·exact rfl
     ·exact rfl
     ·exact ⟨rfl, rfl, trivial, trivial⟩
    refine sj <| NormE.same <| sn ?_
    refine Br.mk (fun ht => ?_) (fun ht => ?_)
    ·replace h := cond_tt h ht
     refine sj <| bind_elim h fun x12 hx12 h => CallH.ren [0] [1] [.cells 113 [AV.bool x12.2.Reader.Asks, AV.str x12.2.Reader.Method, AV.str x12.2.Reader.Buf, AV.bool x12.2.Reader.In, AV.str x12.2.Reader.Head.Start.Method, AV.str x12.2.Reader.Head.Start.Target, AV.int .i64 x12.2.Reader.Head.Start.Code, AV.str x12.2.Reader.Head.Start.Reason, AV.int .i64 x12.2.Reader.Head.Start.Minor, AV.list 2 (x12.2.Reader.Head.Fields.map S_Field.av), AV.str x12.2.Reader.Head.Body, AV.int .i64 x12.2.Reader.Body.Kind, AV.int .i64 x12.2.Reader.Body.Size, AV.int .i64 x12.2.Reader.Chunk.Stage, AV.str x12.2.Reader.Chunk.Line, AV.int .i64 x12.2.Reader.Chunk.Left, AV.int .i64 x12.2.Reader.Chunk.Size, AV.int .i64 x12.2.Reader.Bad, AV.list 7 (x12.2.out.map S_Message.av)] [(18, 2)]] [0, 0, 1] (wire_reading_fail_ok E (S_wire_reading.mk (S_Reader.mk o0.Reader.Asks o0.Reader.Method o0.Reader.Buf o0.Reader.In (S_Message.mk o0.Reader.Head.Start o0.Reader.Head.Fields x11) o0.Reader.Body o0.Reader.Chunk o0.Reader.Bad) o0.out) (2 : Int) x12.1 x12.2 hx12) rfl rfl rfl rfl rfl rfl rfl rfl rfl <| sn ?_
     replace h := oi h
     have h0 := (Prod.mk.inj h).1
     have h1 := (Prod.mk.inj h).2
     subst h0
     subst h1
     refine xi [⟨2, AV.bool x12.1, none⟩] (ai (Gho.to _ _ _ [0, 2] ?_ ?_ ?_ rfl rfl ?_) (ai ?_ rfl))
     ·exact ⟨⟨rfl, rfl, rfl⟩, trivial⟩
     ·exact rfl
     ·exact rfl
     ·exact ⟨rfl, rfl, trivial, trivial⟩
     ·exact rfl
    ·replace h := cond_ff h ht
     refine sn <| sj ?_
     refine ai ⟨rfl, rfl, rfl, lb rfl⟩ (xi [AV.bool o0.Reader.Asks, AV.str o0.Reader.Method, AV.str ([] : Bytes), AV.bool o0.Reader.In, AV.str o0.Reader.Head.Start.Method, AV.str o0.Reader.Head.Start.Target, AV.int .i64 o0.Reader.Head.Start.Code, AV.str o0.Reader.Head.Start.Reason, AV.int .i64 o0.Reader.Head.Start.Minor, AV.list 2 (o0.Reader.Head.Fields.map S_Field.av), AV.str x11, AV.int .i64 o0.Reader.Body.Kind, AV.int .i64 o0.Reader.Body.Size, AV.int .i64 o0.Reader.Chunk.Stage, AV.str o0.Reader.Chunk.Line, AV.int .i64 o0.Reader.Chunk.Left, AV.int .i64 o0.Reader.Chunk.Size, AV.int .i64 o0.Reader.Bad, AV.list 7 (o0.out.map S_Message.av)] (ai (fun _ => rfl) ?_))
     refine sn <| sj <| sn ?_
     replace h := oi h
     have h0 := (Prod.mk.inj h).1
     have h1 := (Prod.mk.inj h).2
     subst h0
     subst h1
     refine xi [⟨2, AV.bool false, none⟩] (ai (Gho.to _ _ _ [0, 1] ?_ ?_ ?_ rfl rfl ?_) (ai ?_ rfl))
     ·exact ⟨⟨rfl, rfl, rfl⟩, trivial⟩
     ·exact rfl
     ·exact rfl
     ·exact ⟨rfl, rfl, trivial, trivial⟩
     ·exact rfl
theorem stringslite_TrimPrefix_ok (E : Pm.Env) [LaidM E] (a0 : Bytes) (a1 : Bytes) (r : Bytes) (h : stringslite_TrimPrefix a0 a1 = some r) : FnR E Tryz.prog 106 [AV.str a0, AV.str a1] (AV.str r) false := by
 refine FnR.of_ev (T := T) (rows := []) tOk mixed Tryz.func106 rfl (by kernel_rfl) (by kernel_rfl) rfl fun hwf => ?_
 unfold stringslite_TrimPrefix at h
 refine sj <| sn <| sj <| sj <| bind_elim h fun x1 hx1 h => CallH.data _ false rfl (stringslite_HasPrefix_ok E a0 a1 x1 hx1) <| sn ?_
 refine Br.mk (fun ht => ?_) (fun ht => ?_)
 ·replace h := cond_tt h ht
  refine sj <| NormE.same <| bind_elim h fun x2 hx2 h => ?_
  have qx2 := (slc_some hx2).1
  have hx2e := (slc_some hx2).2
  refine ai (fun _ => qx2) <| NormE.to (AV.str x2) (fun _ => congrArg AV.str hx2e.symm) <| sn ?_
  replace h := oi h
  refine RetE.plain ?_
  exact ai rfl (ai (congrArg (fun r : Bytes => AV.str r) h) rfl)
 ·replace h := cond_ff h ht
  refine sn <| sj <| sn ?_
  replace h := oi h
  refine RetE.plain ?_
  exact ai rfl (ai (congrArg (fun r : Bytes => AV.str r) h) rfl)
theorem strings_TrimPrefix_ok (E : Pm.Env) [LaidM E] (a0 : Bytes) (a1 : Bytes) (r : Bytes) (h : strings_TrimPrefix a0 a1 = some r) : FnR E Tryz.prog 49 [AV.str a0, AV.str a1] (AV.str r) false := by
 refine FnR.of_ev (T := T) (rows := []) tOk mixed Tryz.func49 rfl (by kernel_rfl) (by kernel_rfl) rfl fun hwf => ?_
 unfold strings_TrimPrefix at h
 refine sj <| sn <| sj <| bind_elim h fun x1 hx1 h => CallH.data _ false rfl (stringslite_TrimPrefix_ok E a0 a1 x1 hx1) <| sn ?_
 replace h := oi h
 refine RetE.plain ?_
 exact ai rfl (ai (congrArg (fun r : Bytes => AV.str r) h) rfl)
theorem start_minor_ok (E : Pm.Env) [LaidM E] (a0 : Bytes) (r : Int) (h : start_minor a0 = some r) : FnR E Tryz.prog 171 [AV.str a0] (AV.int .i64 r) false := by
 refine FnR.of_ev (T := T) (rows := []) tOk mixed Tryz.func171 rfl (by kernel_rfl) (by kernel_rfl) rfl fun hwf => ?_
 unfold start_minor at h
 refine sj <| sn <| sj <| sj <| sn <| sj <| sn ?_
 refine Br.mk (fun ht => ?_) (fun ht => ?_)
 ·replace h := cond_tt h ht
  refine sj <| sn ?_
  replace h := oi h
  refine RetE.plain ?_
  exact ai rfl (ai (congrArg (fun r : Int => AV.int .i64 r) h) rfl)
 ·replace h := cond_ff h ht
  refine sj <| sn ?_
  refine Br.mk (fun ht => ?_) (fun ht => ?_)
  ·replace h := cond_tt h ht
   refine sj <| sn ?_
   replace h := oi h
   refine RetE.plain ?_
   exact ai rfl (ai (congrArg (fun r : Int => AV.int .i64 r) h) rfl)
  ·replace h := cond_ff h ht
   refine sn <| sj <| sn ?_
   replace h := oi h
   refine RetE.plain ?_
   exact ai rfl (ai (congrArg (fun r : Int => AV.int .i64 r) h) rfl)
theorem start_Parse_ok (E : Pm.Env) [LaidM E] (a0 : Bytes) (r : (S_Start × Int)) (h : start_Parse a0 = some r) : FnR E Tryz.prog 124 [AV.str a0] (AV.tup [S_Start.av r.1, AV.int .i64 r.2]) false := by
 refine FnR.of_ev (T := T) (rows := []) tOk mixed Tryz.func124 rfl (by kernel_rfl) (by kernel_rfl) rfl fun hwf => ?_
 unfold start_Parse at h
 refine sj <| ai rfl <| sn <| sj <| bind_elim h fun x1 hx1 h => CallH.data _ false rfl (strings_Split_ok E a0 ([32] : Bytes) x1 hx1) <| sn <| sj <| sj <| NormE.to (AV.int .i64 (x1.length : Int)) (fun _ => len_list AV.str x1) <| sn ?_
 refine Br.mk (fun ht => ?_) (fun ht => ?_)
 ·replace h := cond_tt h ht
  refine sj ?_
  refine xi none (ai trivial ?_)
  refine ai ⟨rfl, rfl, rfl, lb rfl⟩ (xi [AV.str ([] : Bytes), AV.str ([] : Bytes), AV.int .i64 (0 : Int), AV.str ([] : Bytes), AV.int .i64 (0 : Int)] (ai (fun _ => rfl) ?_))
  refine sn ?_
  replace h := oi h
  refine RetE.plain ?_
  refine ai ⟨lb rfl, lb rfl⟩ (xi (AV.agg [AV.str ([] : Bytes), AV.str ([] : Bytes), AV.int .i64 (0 : Int), AV.str ([] : Bytes), AV.int .i64 (0 : Int)]) (ai rfl ?_))
  exact ai rfl (ai (congrArg (fun r : (S_Start × Int) => AV.tup [S_Start.av r.1, AV.int .i64 r.2]) h) rfl)
 ·replace h := cond_ff h ht
  refine sn <| sj <| bind_elim h fun x2 hx2 h => ?_
  refine ai rfl (xi (AV.str x2) (ai (fun hg => idx_map _ hx2) ?_))
  refine bind_elim h fun x3 hx3 h => ?_
  refine ai rfl (xi (AV.str x3) (ai (fun hg => idx_map _ hx3) ?_))
  refine bind_elim h fun x4 hx4 h => ?_
  refine ai rfl (xi (AV.str x4) (ai (fun hg => idx_map _ hx4) ?_))
  refine bind_elim h fun x5 hx5 h => CallH.data _ false rfl (start_minor_ok E x4 x5 hx5) <| ai ⟨rfl, rfl, lb rfl⟩ <| ai ⟨rfl, rfl, lb rfl⟩ <| ai ⟨rfl, rfl, lb rfl⟩ ?_
  refine xi none (ai trivial ?_)
  refine ai rfl ?_
  refine ai ⟨rfl, rfl, rfl, lb rfl⟩ (xi [AV.str x2, AV.str x3, AV.int .i64 (0 : Int), AV.str ([] : Bytes), AV.int .i64 x5] (ai (fun _ => rfl) ?_))
  refine ai (by kernel_rfl) ?_
  refine SeqN.via (St.of [⟨2, AV.ptr 0 0, none⟩, ⟨5, AV.ptr 1 0, none⟩] [.cells 43 [AV.str ([] : Bytes), AV.str ([] : Bytes), AV.int .i64 (0 : Int), AV.str ([] : Bytes), AV.int .i64 (0 : Int)] [], .cells 43 [AV.str x2, AV.str x3, AV.int .i64 (0 : Int), AV.str ([] : Bytes), AV.int .i64 x5] []] []) ?_ ?_
  ·refine Gho.to _ _ _ [] ?_ ?_ ?_ rfl rfl ?_
   ·exact ⟨⟨rfl, rfl, rfl⟩, ⟨⟨rfl, rfl, rfl⟩, trivial⟩⟩
   ·exact rfl
   ·exact rfl
   ·exact ⟨rfl, rfl, trivial, rfl, rfl, trivial, trivial⟩
  refine sj <| sj <| ai ⟨lb rfl, lb rfl⟩ <| NormE.to (AV.agg [AV.str x2, AV.str x3, AV.int .i64 (0 : Int), AV.str ([] : Bytes), AV.int .i64 x5]) (fun _ => rfl) <| bind_elim h fun x6 hx6 h => CallH.data _ false rfl (start_Right_ok E (S_Start.mk x2 x3 (0 : Int) ([] : Bytes) x5) x6 hx6) <| sn ?_
  refine Br.mk (fun ht => ?_) (fun ht => ?_)
  ·replace h := cond_tt h ht
   refine sj ?_
   refine xi none (ai trivial ?_)
   refine ai ⟨rfl, rfl, rfl, lb rfl⟩ (xi [AV.str ([] : Bytes), AV.str ([] : Bytes), AV.int .i64 (0 : Int), AV.str ([] : Bytes), AV.int .i64 (0 : Int)] (ai (fun _ => rfl) ?_))
   refine sn ?_
   replace h := oi h
   refine RetE.plain ?_
   refine ai ⟨lb rfl, lb rfl⟩ (xi (AV.agg [AV.str ([] : Bytes), AV.str ([] : Bytes), AV.int .i64 (0 : Int), AV.str ([] : Bytes), AV.int .i64 (0 : Int)]) (ai rfl ?_))
   exact ai rfl (ai (congrArg (fun r : (S_Start × Int) => AV.tup [S_Start.av r.1, AV.int .i64 r.2]) h) rfl)
  ·replace h := cond_ff h ht
   refine sn <| sj <| ai ⟨lb rfl, lb rfl⟩ <| NormE.to (AV.agg [AV.str x2, AV.str x3, AV.int .i64 (0 : Int), AV.str ([] : Bytes), AV.int .i64 x5]) (fun _ => rfl) ?_
   refine ai ⟨rfl, rfl, rfl, lb rfl⟩ (xi [AV.str x2, AV.str x3, AV.int .i64 (0 : Int), AV.str ([] : Bytes), AV.int .i64 x5] (ai (fun _ => rfl) ?_))
   refine sn ?_
   replace h := oi h
   refine RetE.plain ?_
   refine ai ⟨lb rfl, lb rfl⟩ (xi (AV.agg [AV.str x2, AV.str x3, AV.int .i64 (0 : Int), AV.str ([] : Bytes), AV.int .i64 x5]) (ai rfl ?_))
   exact ai rfl (ai (congrArg (fun r : (S_Start × Int) => AV.tup [S_Start.av r.1, AV.int .i64 r.2]) h) rfl)
theorem start_Status_ok (E : Pm.Env) [LaidM E] (a0 : Bytes) (r : (S_Start × Int)) (h : start_Status a0 = some r) : FnR E Tryz.prog 123 [AV.str a0] (AV.tup [S_Start.av r.1, AV.int .i64 r.2]) false := by
 refine FnR.of_ev (T := T) (rows := []) tOk mixed Tryz.func123 rfl (by kernel_rfl) (by kernel_rfl) rfl fun hwf => ?_
 unfold start_Status at h
 refine sj <| ai rfl <| sn <| sj <| bind_elim h fun x1 hx1 h => CallH.data _ false rfl (strings_SplitN_ok E a0 ([32] : Bytes) (3 : Int) x1 hx1) <| sn <| sj <| sj <| NormE.to (AV.int .i64 (x1.length : Int)) (fun _ => len_list AV.str x1) <| bind_elim h fun x2 hx2 h => ai id ?_
 refine ai rfl (xi (AV.str x2) (ai (fun hg => gidx_map _ hx2 hg) ?_))
 refine ai id <| ai id <| NormE.same <| ai id <| ai (fun hg => (and_r hg)) <| sn ?_
 refine Br.mk (fun ht => ?_) (fun ht => ?_)
 ·replace h := cond_tt h ht
  refine sj ?_
  refine xi none (ai trivial ?_)
  refine ai ⟨rfl, rfl, rfl, lb rfl⟩ (xi [AV.str ([] : Bytes), AV.str ([] : Bytes), AV.int .i64 (0 : Int), AV.str ([] : Bytes), AV.int .i64 (0 : Int)] (ai (fun _ => rfl) ?_))
  refine SeqN.via (St.of [⟨2, AV.ptr 0 0, none⟩, ⟨3, AV.int .i64 (30 : Int), none⟩] [.cells 43 [AV.str ([] : Bytes), AV.str ([] : Bytes), AV.int .i64 (0 : Int), AV.str ([] : Bytes), AV.int .i64 (0 : Int)] []] []) ?_ ?_
  ·refine Gho.to _ _ _ [] ?_ ?_ ?_ rfl rfl ?_
   ·exact ⟨⟨rfl, rfl, rfl⟩, trivial⟩
   ·exact rfl
   ·exact rfl
   ·exact ⟨rfl, rfl, trivial, rfl, rfl, trivial, trivial⟩
  replace h := oi h
  refine RetE.plain ?_
  refine ai ⟨lb rfl, lb rfl⟩ (xi (AV.agg [AV.str ([] : Bytes), AV.str ([] : Bytes), AV.int .i64 (0 : Int), AV.str ([] : Bytes), AV.int .i64 (0 : Int)]) (ai rfl ?_))
  exact ai rfl (ai (congrArg (fun r : (S_Start × Int) => AV.tup [S_Start.av r.1, AV.int .i64 r.2]) h) rfl)
 ·replace h := cond_ff h ht
  refine sn <| sj <| bind_elim h fun x3 hx3 h => ?_
  refine ai rfl (xi (AV.str x3) (ai (fun hg => idx_map _ hx3) ?_))
  refine bind_elim h fun x4 hx4 h => CallH.data _ false rfl (number_ReadDec_ok E x3 x4 hx4) ?_
  refine SeqN.via (St.of [⟨2, AV.ptr 0 0, none⟩, ⟨4, AV.list 1 (x1.map AV.str), none⟩, ⟨5, AV.int .u64 x4.1, none⟩, ⟨6, AV.int .i64 x4.2, none⟩] [.cells 43 [AV.str ([] : Bytes), AV.str ([] : Bytes), AV.int .i64 (0 : Int), AV.str ([] : Bytes), AV.int .i64 (0 : Int)] []] []) ?_ ?_
  ·refine Gho.to _ _ _ [] ?_ ?_ ?_ rfl rfl ?_
   ·exact ⟨⟨rfl, rfl, rfl⟩, trivial⟩
   ·exact rfl
   ·exact rfl
   ·exact ⟨rfl, rfl, trivial, rfl, rfl, trivial, rfl, rfl, trivial, rfl, rfl, trivial, trivial⟩
  refine sj <| bind_elim h fun x5 hx5 h => ?_
  refine ai rfl (xi (AV.str x5) (ai (fun hg => idx_map _ hx5) ?_))
  refine bind_elim h fun x6 hx6 h => CallH.data _ false rfl (start_minor_ok E x5 x6 hx6) <| ai ⟨rfl, rfl, lb rfl⟩ <| ai ⟨rfl, rfl, lb rfl⟩ ?_
  refine xi none (ai trivial ?_)
  refine ai rfl ?_
  refine ai ⟨rfl, rfl, rfl, lb rfl⟩ (xi [AV.str ([] : Bytes), AV.str ([] : Bytes), AV.int .i64 (IntKind.i64.wrap x4.1), AV.str ([] : Bytes), AV.int .i64 x6] (ai (fun _ => rfl) ?_))
  refine sn <| sj <| sj <| NormE.to (AV.int .i64 (x1.length : Int)) (fun _ => len_list AV.str x1) <| sn ?_
  refine Br.mk (fun ht => ?_) (fun ht => ?_)
  ·replace h := cond_tt h ht
   refine bind_elim h fun x7 hx7 h => ?_
   refine ai rfl (xi (AV.str x7) (ai (fun hg => idx_map _ hx7) ?_))
   refine ai ⟨rfl, rfl, rfl, lb rfl⟩ (xi [AV.str ([] : Bytes), AV.str ([] : Bytes), AV.int .i64 (IntKind.i64.wrap x4.1), AV.str x7, AV.int .i64 x6] (ai (fun _ => rfl) ?_))
   refine SeqN.via (St.of [⟨2, AV.ptr 0 0, none⟩, ⟨5, AV.int .u64 x4.1, none⟩, ⟨6, AV.int .i64 x4.2, none⟩, ⟨7, AV.ptr 1 0, none⟩] [.cells 43 [AV.str ([] : Bytes), AV.str ([] : Bytes), AV.int .i64 (0 : Int), AV.str ([] : Bytes), AV.int .i64 (0 : Int)] [], .cells 43 [AV.str ([] : Bytes), AV.str ([] : Bytes), AV.int .i64 (IntKind.i64.wrap x4.1), AV.str x7, AV.int .i64 x6] []] []) ?_ ?_
   ·refine Gho.to _ _ _ [] ?_ ?_ ?_ rfl rfl ?_
    ·exact ⟨⟨rfl, rfl, rfl⟩, ⟨⟨rfl, rfl, rfl⟩, trivial⟩⟩
    ·exact rfl
    ·exact rfl
    ·exact ⟨rfl, rfl, trivial, rfl, rfl, trivial, rfl, rfl, trivial, rfl, rfl, trivial, trivial⟩
   refine sj <| sj <| ai id <| ai (fun hg => (and_r hg)) <| ai ⟨lb rfl, lb rfl⟩ <| NormE.to (AV.agg [AV.str ([] : Bytes), AV.str ([] : Bytes), AV.int .i64 (IntKind.i64.wrap x4.1), AV.str x7, AV.int .i64 x6]) (fun _ => rfl) <| bind_elim h fun x8 hx8 h => ai id <| ai rfl ?_
   refine CallF.mk _ false (fun hg => start_Right_ok E (S_Start.mk ([] : Bytes) ([] : Bytes) (IntKind.i64.wrap x4.1) x7 x6) x8 (gcall_some hx8 hg)) (ai rfl ?_)
   refine ai id <| ai (fun hg => (and_r hg)) <| sn ?_
   refine Br.mk (fun ht => ?_) (fun ht => ?_)
   ·replace h := cond_tt h ht
    refine sj ?_
    refine xi none (ai trivial ?_)
    refine ai ⟨rfl, rfl, rfl, lb rfl⟩ (xi [AV.str ([] : Bytes), AV.str ([] : Bytes), AV.int .i64 (0 : Int), AV.str ([] : Bytes), AV.int .i64 (0 : Int)] (ai (fun _ => rfl) ?_))
    refine sn ?_
    replace h := oi h
    refine RetE.plain ?_
    refine ai ⟨lb rfl, lb rfl⟩ (xi (AV.agg [AV.str ([] : Bytes), AV.str ([] : Bytes), AV.int .i64 (0 : Int), AV.str ([] : Bytes), AV.int .i64 (0 : Int)]) (ai rfl ?_))
    exact ai rfl (ai (congrArg (fun r : (S_Start × Int) => AV.tup [S_Start.av r.1, AV.int .i64 r.2]) h) rfl)
   ·replace h := cond_ff h ht
    refine sn <| sj <| ai ⟨lb rfl, lb rfl⟩ <| NormE.to (AV.agg [AV.str ([] : Bytes), AV.str ([] : Bytes), AV.int .i64 (IntKind.i64.wrap x4.1), AV.str x7, AV.int .i64 x6]) (fun _ => rfl) ?_
    refine ai ⟨rfl, rfl, rfl, lb rfl⟩ (xi [AV.str ([] : Bytes), AV.str ([] : Bytes), AV.int .i64 (IntKind.i64.wrap x4.1), AV.str x7, AV.int .i64 x6] (ai (fun _ => rfl) ?_))
    refine sn ?_
    replace h := oi h
    refine RetE.plain ?_
    refine ai ⟨lb rfl, lb rfl⟩ (xi (AV.agg [AV.str ([] : Bytes), AV.str ([] : Bytes), AV.int .i64 (IntKind.i64.wrap x4.1), AV.str x7, AV.int .i64 x6]) (ai rfl ?_))
    exact ai rfl (ai (congrArg (fun r : (S_Start × Int) => AV.tup [S_Start.av r.1, AV.int .i64 r.2]) h) rfl)
  ·replace h := cond_ff h ht
   refine sn <| sj <| sj <| ai id <| ai (fun hg => (and_r hg)) <| ai ⟨lb rfl, lb rfl⟩ <| NormE.to (AV.agg [AV.str ([] : Bytes), AV.str ([] : Bytes), AV.int .i64 (IntKind.i64.wrap x4.1), AV.str ([] : Bytes), AV.int .i64 x6]) (fun _ => rfl) <| bind_elim h fun x9 hx9 h => ai id <| ai rfl ?_
   refine CallF.mk _ false (fun hg => start_Right_ok E (S_Start.mk ([] : Bytes) ([] : Bytes) (IntKind.i64.wrap x4.1) ([] : Bytes) x6) x9 (gcall_some hx9 hg)) (ai rfl ?_)
   refine ai id <| ai (fun hg => (and_r hg)) ?_
   refine SeqN.via (St.of [⟨2, AV.ptr 0 0, none⟩, ⟨7, AV.ptr 1 0, none⟩, ⟨52, AV.bool (bif (bif (x4.2 != (0 : Int)) then true else (x4.1 == (0 : Int))) then true else (!x9)), none⟩] [.cells 43 [AV.str ([] : Bytes), AV.str ([] : Bytes), AV.int .i64 (0 : Int), AV.str ([] : Bytes), AV.int .i64 (0 : Int)] [], .cells 43 [AV.str ([] : Bytes), AV.str ([] : Bytes), AV.int .i64 (IntKind.i64.wrap x4.1), AV.str ([] : Bytes), AV.int .i64 x6] []] []) ?_ ?_
   ·refine Gho.to _ _ _ [] ?_ ?_ ?_ rfl rfl ?_
    ·exact ⟨⟨rfl, rfl, rfl⟩, ⟨⟨rfl, rfl, rfl⟩, trivial⟩⟩
    ·exact rfl
    ·exact rfl
    ·exact ⟨rfl, rfl, trivial, rfl, rfl, trivial, rfl, rfl, trivial, trivial⟩
   refine Br.mk (fun ht => ?_) (fun ht => ?_)
   ·replace h := cond_tt h ht
    refine sj ?_
    refine xi none (ai trivial ?_)
    refine ai ⟨rfl, rfl, rfl, lb rfl⟩ (xi [AV.str ([] : Bytes), AV.str ([] : Bytes), AV.int .i64 (0 : Int), AV.str ([] : Bytes), AV.int .i64 (0 : Int)] (ai (fun _ => rfl) ?_))
    refine sn ?_
    replace h := oi h
    refine RetE.plain ?_
    refine ai ⟨lb rfl, lb rfl⟩ (xi (AV.agg [AV.str ([] : Bytes), AV.str ([] : Bytes), AV.int .i64 (0 : Int), AV.str ([] : Bytes), AV.int .i64 (0 : Int)]) (ai rfl ?_))
    exact ai rfl (ai (congrArg (fun r : (S_Start × Int) => AV.tup [S_Start.av r.1, AV.int .i64 r.2]) h) rfl)
   ·replace h := cond_ff h ht
    refine sn <| sj <| ai ⟨lb rfl, lb rfl⟩ <| NormE.to (AV.agg [AV.str ([] : Bytes), AV.str ([] : Bytes), AV.int .i64 (IntKind.i64.wrap x4.1), AV.str ([] : Bytes), AV.int .i64 x6]) (fun _ => rfl) ?_
    refine ai ⟨rfl, rfl, rfl, lb rfl⟩ (xi [AV.str ([] : Bytes), AV.str ([] : Bytes), AV.int .i64 (IntKind.i64.wrap x4.1), AV.str ([] : Bytes), AV.int .i64 x6] (ai (fun _ => rfl) ?_))
    refine sn ?_
    replace h := oi h
    refine RetE.plain ?_
    refine ai ⟨lb rfl, lb rfl⟩ (xi (AV.agg [AV.str ([] : Bytes), AV.str ([] : Bytes), AV.int .i64 (IntKind.i64.wrap x4.1), AV.str ([] : Bytes), AV.int .i64 x6]) (ai rfl ?_))
    exact ai rfl (ai (congrArg (fun r : (S_Start × Int) => AV.tup [S_Start.av r.1, AV.int .i64 r.2]) h) rfl)
end Go.Proofs.YtkfoahoplndelaaGreatDoor
