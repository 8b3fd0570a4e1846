/-
  The functions do what their images say: walks, written by a program of mine (gen.py).
-/
import Derived.Test.YtpionnihpibglaaGreatDoorIw1
import Derived.Test.YtpionnihpibglaaGreatDoorWk12
namespace Go.Proofs.YtpionnihpibglaaGreatDoor
open Go Go.Pm
open And renaming intro → ai
open Exists renaming intro → xi
open Option.some renaming inj → oi
open _root_.Nat renaming le_of_ble_eq_true → lb
open Go.Pm.SeqJ renaming go → sj
open Go.Pm.SeqN renaming go → sn
set_option maxRecDepth 100000
set_option maxHeartbeats 4000000
set_option linter.unusedVariables false
theorem wire_Close_ok (E : Pm.Env) [LaidB E] (a0 : S_Reader) (r : ((List S_Message) × Int)) (h : wire_Close a0 = some r) : FnR E Tryz.prog 18 [S_Reader.av a0] (AV.tup [AV.list 7 (r.1.map S_Message.av), AV.int .i64 r.2]) false := by
 refine FnR.of_ev (T := T) (rows := []) tOk mixed Tryz.func18 rfl (by kernel_rfl) (by kernel_rfl) rfl fun hwf => ?_
 unfold wire_Close at h
 refine sj <| ai rfl <| sn <| sj <| sj <| ai ⟨lb rfl, lb rfl⟩ <| NormE.to (S_Reader.av a0) (fun _ => rfl) <| bind_elim h fun x1 hx1 h => CallH.data _ false rfl (wire_Right_ok E a0 x1 hx1) <| sn ?_
 refine Br.mk (fun ht => ?_) (fun ht => ?_)
 ·replace h := cond_tt h ht
  refine sj <| sn ?_
  replace h := oi h
  refine RetE.plain ?_
  exact ai rfl (ai (congrArg (fun r : ((List S_Message) × Int) => AV.tup [AV.list 7 (r.1.map S_Message.av), AV.int .i64 r.2]) h) rfl)
 ·replace h := cond_ff h ht
  refine sj <| sn ?_
  refine Br.mk (fun ht => ?_) (fun ht => ?_)
  ·replace h := cond_tt h ht
   refine sj <| ai (by kernel_rfl) <| sn ?_
   replace h := oi h
   refine RetE.plain ?_
   exact ai rfl (ai (congrArg (fun r : ((List S_Message) × Int) => AV.tup [AV.list 7 (r.1.map S_Message.av), AV.int .i64 r.2]) h) rfl)
  ·replace h := cond_ff h ht
   refine sj <| ai id <| ai id <| ai id <| ai (fun hg => (and_r hg)) ?_
   refine SeqN.via (St.of [⟨1, AV.ptr 0 0, none⟩, ⟨14, AV.bool (bif a0.In then (a0.Body.Kind == (3 : Int)) else false), none⟩] [.cells 39 (S_Reader.cells a0) []] []) ?_ ?_
   ·refine Gho.to _ _ _ [] ?_ ?_ ?_ rfl rfl ?_
    ·exact ⟨⟨rfl, rfl, rfl⟩, trivial⟩
    ·exact rfl
    ·exact rfl
    ·exact ⟨rfl, rfl, trivial, rfl, rfl, trivial, trivial⟩
   refine Br.mk (fun ht => ?_) (fun ht => ?_)
   ·replace h := cond_tt h ht
    refine sj <| ai ⟨lb rfl, lb rfl⟩ <| NormE.to (S_Message.av a0.Head) (fun _ => rfl) <| ai ⟨rfl, rfl, rfl, rfl⟩ <| ai ⟨rfl, rfl, rfl⟩ <| NormE.to (AV.list 7 (([a0.Head] : List S_Message).map S_Message.av)) (fun _ => rfl) <| sn ?_
    replace h := oi h
    refine RetE.plain ?_
    exact ai rfl (ai (congrArg (fun r : ((List S_Message) × Int) => AV.tup [AV.list 7 (r.1.map S_Message.av), AV.int .i64 r.2]) h) rfl)
   ·replace h := cond_ff h ht
    refine sj <| ai id <| ai id <| ai (fun hg => (and_r hg)) <| sn ?_
    refine Br.mk (fun ht => ?_) (fun ht => ?_)
    ·replace h := cond_tt h ht
     refine sj <| sn ?_
     replace h := oi h
     refine RetE.plain ?_
     exact ai rfl (ai (congrArg (fun r : ((List S_Message) × Int) => AV.tup [AV.list 7 (r.1.map S_Message.av), AV.int .i64 r.2]) h) rfl)
    ·replace h := cond_ff h ht
     refine sn <| sj <| sn ?_
     replace h := oi h
     refine RetE.plain ?_
     exact ai rfl (ai (congrArg (fun r : ((List S_Message) × Int) => AV.tup [AV.list 7 (r.1.map S_Message.av), AV.int .i64 r.2]) h) rfl)
theorem intarsialaw10_WireStops_ok (E : Pm.Env) [LaidB E] (a0 : Bytes) (a1 : Bytes) (r : Bool) (h : intarsialaw10_WireStops a0 a1 = some r) : FnR E Tryz.prog 6 [AV.str a0, AV.str a1] (AV.bool r) false := by
 refine FnR.of_ev (T := T) (rows := []) tOk mixed Tryz.func6 rfl (by kernel_rfl) (by kernel_rfl) rfl fun hwf => ?_
 unfold intarsialaw10_WireStops at h
 refine sj <| sn <| sj <| NormE.same <| ai rfl <| bind_elim h fun x1 hx1 h => ?_
 have qx1 := (slc_some hx1).1
 have hx1e := (slc_some hx1).2
 refine ai (fun _ => qx1) <| NormE.to (AV.str x1) (fun _ => congrArg AV.str hx1e.symm) <| NormE.same <| ai rfl <| bind_elim h fun x2 hx2 h => ?_
 have qx2 := (slc_some hx2).1
 have hx2e := (slc_some hx2).2
 refine ai (fun _ => qx2) <| NormE.to (AV.str x2) (fun _ => congrArg AV.str hx2e.symm) <| ai (by kernel_rfl) <| sn <| sj <| ai ⟨rfl, rfl, lb rfl⟩ <| ai ⟨rfl, rfl, lb rfl⟩ <| ai ⟨rfl, rfl, lb rfl⟩ ?_
 refine xi none (ai trivial ?_)
 refine ai ⟨rfl, rfl, lb rfl⟩ <| ai ⟨rfl, rfl, lb rfl⟩ ?_
 refine xi (some 32) (ai (okM.mk (show (32 : Nat) = freeM T _ _ _ from by kernel_rfl)) ?_)
 refine bind_elim h fun x3 hx3 h => CallH.data _ false rfl (wire_Write_ok E (S_Message.mk (S_Start.mk ([80, 79, 83, 84] : Bytes) ([47] : Bytes) (0 : Int) ([] : Bytes) (1 : Int)) ([] : List S_Field) x1) false x3 hx3) ?_
 refine SeqN.via (St.of [⟨0, AV.str x1, none⟩, ⟨1, AV.str x2, none⟩, ⟨5, AV.str x3.1, none⟩, ⟨6, AV.int .i64 x3.2, none⟩] [] []) ?_ ?_
 ·refine Gho.to _ _ _ [] ?_ ?_ ?_ rfl rfl ?_
  ·exact trivial
  ·exact rfl
  ·exact rfl
  ·exact ⟨rfl, rfl, trivial, rfl, rfl, trivial, rfl, rfl, trivial, rfl, rfl, trivial, trivial⟩
 refine sj <| bind_elim h fun x4 hx4 h => CallH.data _ false rfl (wire_New_ok E true ([] : Bytes) x4 hx4) <| bind_elim h fun x5 hx5 h => ?_
 have hx5c := (cat_some hx5).1
 have hx5e := (cat_some hx5).2
 refine ai (fun _ => hx5c) <| NormE.to (AV.str x5) (fun _ => congrArg AV.str hx5e.symm) <| bind_elim h fun x6 hx6 h => ?_
 have hx6c := (cat_some hx6).1
 have hx6e := (cat_some hx6).2
 refine ai (fun _ => hx6c) <| NormE.to (AV.str x6) (fun _ => congrArg AV.str hx6e.symm) <| bind_elim h fun x7 hx7 h => CallH.data _ false rfl (wire_Feed_ok E x4 x6 x7 hx7) <| ai rfl ?_
 refine ai ⟨rfl, rfl, rfl, lb rfl⟩ (xi (S_Reader.cells x7.1) (ai (fun _ => rfl) ?_))
 refine sn <| sj <| ai ⟨lb rfl, lb rfl⟩ <| NormE.to (S_Reader.av x7.1) (fun _ => rfl) <| bind_elim h fun x8 hx8 h => CallH.data _ false rfl (wire_Feed_ok E x7.1 x3.1 x8 hx8) <| ai rfl ?_
 refine ai ⟨rfl, rfl, rfl, lb rfl⟩ (xi (S_Reader.cells x8.1) (ai (fun _ => rfl) ?_))
 refine SeqN.via (St.of [⟨0, AV.str x1, none⟩, ⟨6, AV.int .i64 x3.2, none⟩, ⟨7, AV.ptr 0 0, none⟩, ⟨8, AV.list 7 (x7.2.1.map S_Message.av), none⟩, ⟨9, AV.int .i64 x7.2.2, none⟩, ⟨10, AV.ptr 1 0, none⟩, ⟨11, AV.list 7 (x8.2.1.map S_Message.av), none⟩, ⟨12, AV.int .i64 x8.2.2, none⟩] [.cells 39 (S_Reader.cells x7.1) [], .cells 39 (S_Reader.cells x8.1) []] []) ?_ ?_
 ·refine Gho.to _ _ _ [] ?_ ?_ ?_ rfl rfl ?_
  ·exact ⟨⟨rfl, rfl, rfl⟩, ⟨⟨rfl, rfl, rfl⟩, trivial⟩⟩
  ·exact rfl
  ·exact rfl
  ·exact ⟨rfl, rfl, trivial, rfl, rfl, trivial, rfl, rfl, trivial, rfl, rfl, trivial, rfl, rfl, trivial, rfl, rfl, trivial, rfl, rfl, trivial, rfl, rfl, trivial, trivial⟩
 refine sj <| ai ⟨lb rfl, lb rfl⟩ <| NormE.to (S_Reader.av x7.1) (fun _ => rfl) <| bind_elim h fun x9 hx9 h => CallH.data _ false rfl (wire_Close_ok E x7.1 x9 hx9) <| sn <| sj <| bind_elim h fun x10 hx10 h => CallH.data _ false rfl (intarsialaw10_alive_ok E  x10 hx10) <| ai id <| ai (fun hg => (and_r hg)) <| ai id <| ai (fun hg => (and_r hg)) <| ai id <| ai (fun hg => (and_r hg)) <| ai id <| NormE.to (AV.int .i64 (x7.2.1.length : Int)) (fun _ => len_list S_Message.av x7.2.1) <| ai id <| ai (fun hg => (and_r hg)) <| bind_elim h fun x11 hx11 h => ai id ?_
 refine ai rfl (xi (S_Message.av x11) (ai (fun hg => gidx_map _ hx11 hg) ?_))
 refine ai id <| ai id <| ai id <| ai id <| ai (fun hg => (and_r hg)) <| ai id <| ai id <| ai (fun hg => (and_r hg)) <| ai id <| NormE.to (AV.int .i64 (x8.2.1.length : Int)) (fun _ => len_list S_Message.av x8.2.1) <| ai id <| ai (fun hg => (and_r hg)) <| ai ⟨lb rfl, lb rfl⟩ <| NormE.to (S_Reader.av x8.1) (fun _ => rfl) <| ai ⟨lb rfl, lb rfl⟩ <| NormE.to (S_Reader.av x7.1) (fun _ => rfl) <| bind_elim h fun x12 hx12 h => ai id <| ai id <| ai rfl ?_
 refine CallF.mk _ false (fun hg => intarsiaref10_LikeReader_ok E x8.1 x7.1 x12 (gcall_some hx12 hg)) (ai rfl ?_)
 refine ai (fun hg => (and_r hg)) <| ai id <| ai (fun hg => (and_r hg)) ?_
 refine SeqN.via (St.of [⟨4, AV.bool (bif (bif (bif (bif (bif (bif (bif (bif (bif x10 then (x3.2 == (0 : Int)) else false) then (x7.2.2 == (0 : Int)) else false) then (x8.2.2 == (0 : Int)) else false) then ((x7.2.1.length : Int) == (1 : Int)) else false) then (x11.Body == x1) else false) then (x7.1.Bad == (30 : Int)) else false) then ((x8.2.1.length : Int) == (0 : Int)) else false) then x12 else false) then (x9.2 == (30 : Int)) else false), none⟩] [] []) ?_ ?_
 ·refine Gho.to _ _ _ [] ?_ ?_ ?_ rfl rfl ?_
  ·exact trivial
  ·exact rfl
  ·exact rfl
  ·exact ⟨rfl, rfl, trivial, trivial⟩
 replace h := oi h
 refine RetE.plain ?_
 exact ai rfl (ai (congrArg (fun r : Bool => AV.bool r) h) rfl)
end Go.Proofs.YtpionnihpibglaaGreatDoor
