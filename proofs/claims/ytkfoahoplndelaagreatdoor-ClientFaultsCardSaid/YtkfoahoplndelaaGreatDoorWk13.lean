/-
  The functions do what their images say: walks, written by a program of mine (gen.py).
-/
import Derived.Test.YtkfoahoplndelaaGreatDoorIc1
import Derived.Test.YtkfoahoplndelaaGreatDoorWk12
namespace Go.Proofs.YtkfoahoplndelaaGreatDoor
open Go Go.Pm
open And renaming intro → ai
open Exists renaming intro → xi
open Option.some renaming inj → oi
open _root_.Nat renaming le_of_ble_eq_true → lb
open Go.Pm.SeqJ renaming go → sj
open Go.Pm.SeqN renaming go → sn
set_option maxRecDepth 100000
set_option maxHeartbeats 4000000
set_option linter.unusedVariables false
theorem queue_New_ok (E : Pm.Env) [LaidM E] (a0 : Int) (r : (S_Queue × Int)) (h : queue_New a0 = some r) : FnR E Tryz.prog 86 [AV.int .i64 a0] (AV.tup [S_Queue.av r.1, AV.int .i64 r.2]) false := by
 refine FnR.of_ev (T := T) (rows := []) tOk mixed Tryz.func86 rfl (by kernel_rfl) (by kernel_rfl) rfl fun hwf => ?_
 unfold queue_New at h
 refine sj <| ai rfl <| sn <| sj <| sj <| ai id <| ai (fun hg => (and_r hg)) <| sn ?_
 refine Br.mk (fun ht => ?_) (fun ht => ?_)
 ·replace h := cond_tt h ht
  refine sj ?_
  refine xi none (ai trivial ?_)
  refine ai ⟨rfl, rfl, rfl, lb rfl⟩ (xi [AV.str ([] : Bytes), AV.int .i64 (0 : Int)] (ai (fun _ => rfl) ?_))
  refine sn ?_
  replace h := oi h
  refine RetE.plain ?_
  refine ai ⟨lb rfl, lb rfl⟩ (xi (AV.agg [AV.str ([] : Bytes), AV.int .i64 (0 : Int)]) (ai rfl ?_))
  exact ai rfl (ai (congrArg (fun r : (S_Queue × Int) => AV.tup [S_Queue.av r.1, AV.int .i64 r.2]) h) rfl)
 ·replace h := cond_ff h ht
  refine sn <| sj <| ai ⟨rfl, rfl, lb rfl⟩ ?_
  refine xi none (ai trivial ?_)
  refine ai ⟨rfl, rfl, rfl, lb rfl⟩ (xi [AV.str ([] : Bytes), AV.int .i64 a0] (ai (fun _ => rfl) ?_))
  refine sn ?_
  replace h := oi h
  refine RetE.plain ?_
  refine ai ⟨lb rfl, lb rfl⟩ (xi (AV.agg [AV.str ([] : Bytes), AV.int .i64 a0]) (ai rfl ?_))
  exact ai rfl (ai (congrArg (fun r : (S_Queue × Int) => AV.tup [S_Queue.av r.1, AV.int .i64 r.2]) h) rfl)
theorem client_New_ok (E : Pm.Env) [LaidM E] (r : S_Client) (h : client_New = some r) : FnR E Tryz.prog 37 [] (S_Client.av r) false := by
 refine FnR.of_ev (T := T) (rows := []) tOk mixed Tryz.func37 rfl (by kernel_rfl) (by kernel_rfl) rfl fun hwf => ?_
 unfold client_New at h
 refine sj <| ai rfl <| sn <| sj <| bind_elim h fun x1 hx1 h => CallH.data _ false rfl (queue_New_ok E (16384 : Int) x1 hx1) <| ai rfl ?_
 refine ai ⟨rfl, rfl, rfl, lb rfl⟩ (xi (S_Queue.cells x1.1) (ai (fun _ => rfl) ?_))
 refine sn <| sj <| bind_elim h fun x2 hx2 h => CallH.data _ false rfl (wire_New_ok E true ([] : Bytes) x2 hx2) <| ai ⟨lb rfl, lb rfl⟩ <| NormE.to (S_Queue.av x1.1) (fun _ => rfl) <| ai ⟨rfl, rfl, lb rfl⟩ <| ai ⟨rfl, rfl, lb rfl⟩ ?_
 refine xi (some 10223616) (ai (okM.mk (show (10223616 : Nat) = freeM T _ _ _ from by kernel_rfl)) ?_)
 refine ai ⟨rfl, rfl, rfl, lb rfl⟩ (xi [AV.bool x2.Asks, AV.str x2.Method, AV.str x2.Buf, AV.bool x2.In, AV.str x2.Head.Start.Method, AV.str x2.Head.Start.Target, AV.int .i64 x2.Head.Start.Code, AV.str x2.Head.Start.Reason, AV.int .i64 x2.Head.Start.Minor, AV.list 2 (x2.Head.Fields.map S_Field.av), AV.str x2.Head.Body, AV.int .i64 x2.Body.Kind, AV.int .i64 x2.Body.Size, AV.int .i64 x2.Chunk.Stage, AV.str x2.Chunk.Line, AV.int .i64 x2.Chunk.Left, AV.int .i64 x2.Chunk.Size, AV.int .i64 x2.Bad, AV.list 7 (([] : List S_Message).map S_Message.av), AV.bool false, AV.int .i64 (0 : Int), AV.str x1.1.Bytes, AV.int .i64 x1.1.Cap, AV.bool false] (ai (fun _ => rfl) ?_))
 refine ai (by kernel_rfl) <| sn ?_
 replace h := oi h
 refine RetE.plain ?_
 refine ai ⟨lb rfl, lb rfl⟩ (xi (AV.agg [AV.bool x2.Asks, AV.str x2.Method, AV.str x2.Buf, AV.bool x2.In, AV.str x2.Head.Start.Method, AV.str x2.Head.Start.Target, AV.int .i64 x2.Head.Start.Code, AV.str x2.Head.Start.Reason, AV.int .i64 x2.Head.Start.Minor, AV.list 2 (x2.Head.Fields.map S_Field.av), AV.str x2.Head.Body, AV.int .i64 x2.Body.Kind, AV.int .i64 x2.Body.Size, AV.int .i64 x2.Chunk.Stage, AV.str x2.Chunk.Line, AV.int .i64 x2.Chunk.Left, AV.int .i64 x2.Chunk.Size, AV.int .i64 x2.Bad, AV.list 7 (([] : List S_Message).map S_Message.av), AV.bool false, AV.int .i64 (0 : Int), AV.str x1.1.Bytes, AV.int .i64 x1.1.Cap, AV.bool false]) (ai rfl ?_))
 exact ai rfl (ai (congrArg (fun r : S_Client => S_Client.av r) h) rfl)
theorem queue_Right_ok (E : Pm.Env) [LaidM E] (a0 : S_Queue) (r : Bool) (h : queue_Right a0 = some r) : FnR E Tryz.prog 140 [S_Queue.av a0] (AV.bool r) false := by
 refine FnR.of_ev (T := T) (rows := []) tOk mixed Tryz.func140 rfl (by kernel_rfl) (by kernel_rfl) rfl fun hwf => ?_
 unfold queue_Right at h
 refine sj <| ai rfl <| sn <| sj <| ai id <| ai id <| ai (fun hg => (and_r hg)) <| ai id <| ai id <| NormE.same <| ai id <| ai id <| ai id <| ai (fun hg => (and_r hg)) ?_
 refine SeqN.via (St.of [⟨2, AV.bool (bif (bif (decide (a0.Cap ≥ (1 : Int))) then (decide (a0.Cap ≤ (65536 : Int))) else false) then (decide ((a0.Bytes.length : Int) ≤ a0.Cap)) else false), none⟩] [] []) ?_ ?_
 ·refine Gho.to _ _ _ [] ?_ ?_ ?_ rfl rfl ?_
  ·exact trivial
  ·exact rfl
  ·exact rfl
  ·exact ⟨rfl, rfl, trivial, trivial⟩
 replace h := oi h
 refine RetE.plain ?_
 exact ai rfl (ai (congrArg (fun r : Bool => AV.bool r) h) rfl)
theorem client_Right_ok (E : Pm.Env) [LaidM E] (a0 : S_Client) (r : Bool) (h : client_Right a0 = some r) : FnR E Tryz.prog 93 [S_Client.av a0] (AV.bool r) false := by
 refine FnR.of_ev (T := T) (rows := []) tOk mixed Tryz.func93 rfl (by kernel_rfl) (by kernel_rfl) rfl fun hwf => ?_
 unfold client_Right at h
 refine sj <| ai rfl <| sn <| sj <| ai ⟨lb rfl, lb rfl⟩ <| NormE.to (S_Reader.av a0.Reader) (fun _ => rfl) <| ai rfl ?_
 refine ai ⟨rfl, rfl, rfl, lb rfl⟩ (xi (S_Reader.cells a0.Reader) (ai (fun _ => rfl) ?_))
 refine sn <| sj <| sj <| ai ⟨lb rfl, lb rfl⟩ <| NormE.to (S_Reader.av a0.Reader) (fun _ => rfl) <| bind_elim h fun x1 hx1 h => CallH.data _ false rfl (wire_Right_ok E a0.Reader x1 hx1) <| ai id <| ai id <| ai (fun hg => (and_r hg)) <| ai id <| ai id <| ai (fun hg => (and_r hg)) <| ai id <| ai id <| NormE.to (AV.int .i64 (a0.Ready.length : Int)) (fun _ => len_list S_Message.av a0.Ready) <| ai id <| ai (fun hg => (and_r hg)) <| ai id <| ai ⟨lb rfl, lb rfl⟩ <| NormE.to (S_Queue.av a0.Out) (fun _ => rfl) <| bind_elim h fun x2 hx2 h => ai id <| ai rfl ?_
 refine CallF.mk _ false (fun hg => queue_Right_ok E a0.Out x2 (gcall_some hx2 hg)) (ai rfl ?_)
 refine ai id <| ai (fun hg => (and_r hg)) <| ai id <| ai id <| ai id <| ai (fun hg => (and_r hg)) ?_
 refine SeqN.via (St.of [⟨1, AV.ptr 0 0, none⟩, ⟨3, AV.ptr 1 0, none⟩, ⟨37, AV.bool (bif (bif (bif (bif (bif (!x1) then true else (!a0.Reader.Asks)) then true else (!(a0.Reader.Method == ([] : Bytes)))) then true else (decide ((a0.Ready.length : Int) > (8 : Int)))) then true else (!x2)) then true else (a0.Out.Cap != (16384 : Int))), none⟩] [.cells 77 (S_Client.cells a0) [], .cells 52 (S_Reader.cells a0.Reader) []] []) ?_ ?_
 ·refine Gho.to _ _ _ [] ?_ ?_ ?_ rfl rfl ?_
  ·exact ⟨⟨rfl, rfl, rfl⟩, ⟨⟨rfl, rfl, rfl⟩, trivial⟩⟩
  ·exact rfl
  ·exact rfl
  ·exact ⟨rfl, rfl, trivial, rfl, rfl, trivial, rfl, rfl, trivial, trivial⟩
 refine Br.mk (fun ht => ?_) (fun ht => ?_)
 ·replace h := cond_tt h ht
  refine sj <| sn ?_
  replace h := oi h
  refine RetE.plain ?_
  exact ai rfl (ai (congrArg (fun r : Bool => AV.bool r) h) rfl)
 ·replace h := cond_ff h ht
  refine sn <| sj <| ai id <| ai id <| ai (fun hg => (and_r hg)) <| sn <| sj <| ai id <| ai id <| ai id <| ai id <| ai id <| ai id <| ai id <| ai id <| ai id <| ai id <| ai id <| ai (fun hg => (and_r hg)) ?_
  refine SeqN.via (St.of [⟨2, AV.bool (bif (bif (a0.Fault == a0.Reader.Bad) then true else (a0.Fault == (4 : Int))) then (bif a0.Last then true else (bif (a0.Fault == (0 : Int)) then (!a0.Ends) else false)) else false), none⟩] [] []) ?_ ?_
  ·refine Gho.to _ _ _ [] ?_ ?_ ?_ rfl rfl ?_
   ·exact trivial
   ·exact rfl
   ·exact rfl
   ·exact ⟨rfl, rfl, trivial, trivial⟩
  replace h := oi h
  refine RetE.plain ?_
  exact ai rfl (ai (congrArg (fun r : Bool => AV.bool r) h) rfl)
theorem slices_Clip__api_Message_api_Message_ok (E : Pm.Env) [LaidM E] (a0 : (List S_Message)) (r : (List S_Message)) (h : slices_Clip__api_Message_api_Message a0 = some r) : FnR E Tryz.prog 85 [AV.list 7 (a0.map S_Message.av)] (AV.list 7 (r.map S_Message.av)) true := by
 refine FnR.of_ev (T := T) (rows := []) tOk mixed Tryz.func85 rfl (by kernel_rfl) (by kernel_rfl) rfl fun hwf => ?_
 unfold slices_Clip__api_Message_api_Message at h
 refine sj <| sn <| sj <| NormE.to (AV.int .i64 (a0.length : Int)) (fun _ => len_list S_Message.av a0) <| NormE.to (AV.int .i64 (a0.length : Int)) (fun _ => len_list S_Message.av a0) <| bind_elim h fun x1 hx1 h => ?_
 have qx1 := (slc_some hx1).1
 have hx1e := (slc_some hx1).2
 refine ai ⟨slc_cond S_Message.av qx1, rfl, rfl⟩ <| NormE.to (AV.list 7 (x1.map S_Message.av)) (fun _ => (slc_list 7 S_Message.av _ _ _).trans (congrArg (fun y => AV.list 7 (List.map S_Message.av y)) hx1e.symm)) <| sn ?_
 replace h := oi h
 exact RetE.own 2 1 rfl rfl rfl rfl (ai (congrArg (fun r : (List S_Message) => AV.list 7 (r.map S_Message.av)) h) rfl)
theorem client_Recv_1_ok (E : Pm.Env) [LaidM E] (o0 : S_Client) (c0 : Bytes) (r : (Int × Int)) (o0' : S_Client) (h : client_Recv_1 o0 c0 = some (r, o0')) : FnW E Tryz.prog 84 [AV.ptr 0 0, AV.iptr [AV.str c0]] [.cells 77 (S_Client.cells o0) []] [] (AV.tup [AV.int .i64 r.1, AV.int .i64 r.2]) none [.cells 77 (S_Client.cells o0') []] [] := by
 refine FnW.of_evB (T := T) (rows := []) tOk mixed Tryz.func84 rfl (by kernel_rfl) (by kernel_rfl) rfl rfl fun hwf => ?_
 unfold client_Recv_1 at h
 refine sj <| sn <| sj <| sj <| sn ?_
 refine Br.mk (fun ht => ?_) (fun ht => ?_)
 ·replace h := cond_tt h ht
  refine sj <| sn ?_
  replace h := oi h
  have h0 := (Prod.mk.inj h).1
  have h1 := (Prod.mk.inj h).2
  subst h0
  subst h1
  refine xi [⟨3, AV.int .i64 (0 : Int), none⟩, ⟨4, AV.int .i64 (0 : Int), none⟩] (ai (Gho.to _ _ _ [] ?_ ?_ ?_ rfl rfl ?_) (ai ?_ rfl))
  ·exact ⟨⟨rfl, rfl, rfl⟩, trivial⟩
  ·exact rfl
  ·exact rfl
  ·exact ⟨rfl, rfl, trivial, rfl, rfl, trivial, trivial⟩
  ·exact rfl
 ·replace h := cond_ff h ht
  refine sn <| sj <| ai ⟨lb rfl, lb rfl⟩ <| NormE.to (S_Reader.av o0.Reader) (fun _ => rfl) <| bind_elim h fun x1 hx1 h => CallH.data _ false rfl (wire_Feed_ok E o0.Reader c0 x1 hx1) <| ai rfl ?_
  refine ai ⟨rfl, rfl, rfl, lb rfl⟩ (xi (S_Reader.cells x1.1) (ai (fun _ => rfl) ?_))
  refine ai (by kernel_rfl) ?_
  refine SeqN.via (St.of [⟨0, AV.ptr 0 0, none⟩, ⟨5, AV.ptr 1 0, none⟩, ⟨6, AV.list 7 (x1.2.1.map S_Message.av), none⟩, ⟨7, AV.int .i64 x1.2.2, none⟩] [.cells 77 (S_Client.cells o0) [], .cells 52 (S_Reader.cells x1.1) []] []) ?_ ?_
  ·refine Gho.to _ _ _ [] ?_ ?_ ?_ rfl rfl ?_
   ·exact ⟨⟨rfl, rfl, rfl⟩, ⟨⟨rfl, rfl, rfl⟩, trivial⟩⟩
   ·exact rfl
   ·exact rfl
   ·exact ⟨rfl, rfl, trivial, rfl, rfl, trivial, rfl, rfl, trivial, rfl, rfl, trivial, trivial⟩
  refine sj <| NormE.to (AV.int .i64 (o0.Ready.length : Int)) (fun _ => len_list S_Message.av o0.Ready) <| sn <| sj <| ai ⟨lb rfl, lb rfl⟩ <| NormE.to (S_Reader.av x1.1) (fun _ => rfl) ?_
  refine ai ⟨rfl, rfl, rfl, lb rfl⟩ (xi [AV.bool x1.1.Asks, AV.str x1.1.Method, AV.str x1.1.Buf, AV.bool x1.1.In, AV.str x1.1.Head.Start.Method, AV.str x1.1.Head.Start.Target, AV.int .i64 x1.1.Head.Start.Code, AV.str x1.1.Head.Start.Reason, AV.int .i64 x1.1.Head.Start.Minor, AV.list 2 (x1.1.Head.Fields.map S_Field.av), AV.str x1.1.Head.Body, AV.int .i64 x1.1.Body.Kind, AV.int .i64 x1.1.Body.Size, AV.int .i64 x1.1.Chunk.Stage, AV.str x1.1.Chunk.Line, AV.int .i64 x1.1.Chunk.Left, AV.int .i64 x1.1.Chunk.Size, AV.int .i64 x1.1.Bad, AV.list 7 (o0.Ready.map S_Message.av), AV.bool o0.Last, AV.int .i64 o0.Fault, AV.str o0.Out.Bytes, AV.int .i64 o0.Out.Cap, AV.bool o0.Ends] (ai (fun _ => rfl) ?_))
  refine sn <| sj <| bind_elim h fun x2 hx2 h => CallH.data _ true rfl (slices_Clip__api_Message_api_Message_ok E o0.Ready x2 hx2) <| NormE.to (AV.int .i64 (x1.2.1.length : Int)) (fun _ => len_list S_Message.av x1.2.1) <| ai rfl <| bind_elim h fun x3 hx3 h => ?_
  have qx3 := (slc_some hx3).1
  have hx3e := (slc_some hx3).2
  refine ai ⟨(fun hg => slc_cond S_Message.av qx3), rfl⟩ <| NormE.to (AV.list 7 (x3.map S_Message.av)) (fun _ => (slc_list 7 S_Message.av _ _ _).trans (congrArg (fun y => AV.list 7 (List.map S_Message.av y)) hx3e.symm)) <| bind_elim h fun x4 hx4 h => ?_
  have qx4 := (app_some hx4).1
  have hx4e := (app_some hx4).2
  refine ai ⟨rfl, rfl, rfl⟩ <| ai rfl <| ai (app_cond S_Message.av qx4) <| NormE.to (AV.list 7 (x4.map S_Message.av)) (fun _ => (app_list 7 S_Message.av _ _).trans (congrArg (fun y => AV.list 7 (List.map S_Message.av y)) hx4e.symm)) ?_
  refine ai ⟨rfl, rfl, rfl, lb rfl⟩ (xi [AV.bool x1.1.Asks, AV.str x1.1.Method, AV.str x1.1.Buf, AV.bool x1.1.In, AV.str x1.1.Head.Start.Method, AV.str x1.1.Head.Start.Target, AV.int .i64 x1.1.Head.Start.Code, AV.str x1.1.Head.Start.Reason, AV.int .i64 x1.1.Head.Start.Minor, AV.list 2 (x1.1.Head.Fields.map S_Field.av), AV.str x1.1.Head.Body, AV.int .i64 x1.1.Body.Kind, AV.int .i64 x1.1.Body.Size, AV.int .i64 x1.1.Chunk.Stage, AV.str x1.1.Chunk.Line, AV.int .i64 x1.1.Chunk.Left, AV.int .i64 x1.1.Chunk.Size, AV.int .i64 x1.1.Bad, AV.list 7 (x4.map S_Message.av), AV.bool o0.Last, AV.int .i64 o0.Fault, AV.str o0.Out.Bytes, AV.int .i64 o0.Out.Cap, AV.bool o0.Ends] (ai (fun _ => rfl) ?_))
  refine ai (by kernel_rfl) ?_
  refine SeqN.via (St.of [⟨0, AV.ptr 0 0, none⟩, ⟨5, AV.ptr 1 0, none⟩, ⟨6, AV.list 7 (x1.2.1.map S_Message.av), none⟩, ⟨7, AV.int .i64 x1.2.2, none⟩, ⟨8, AV.int .i64 (IntKind.i64.wrap ((8 : Int) - (o0.Ready.length : Int))), none⟩] [.cells 77 [AV.bool x1.1.Asks, AV.str x1.1.Method, AV.str x1.1.Buf, AV.bool x1.1.In, AV.str x1.1.Head.Start.Method, AV.str x1.1.Head.Start.Target, AV.int .i64 x1.1.Head.Start.Code, AV.str x1.1.Head.Start.Reason, AV.int .i64 x1.1.Head.Start.Minor, AV.list 2 (x1.1.Head.Fields.map S_Field.av), AV.str x1.1.Head.Body, AV.int .i64 x1.1.Body.Kind, AV.int .i64 x1.1.Body.Size, AV.int .i64 x1.1.Chunk.Stage, AV.str x1.1.Chunk.Line, AV.int .i64 x1.1.Chunk.Left, AV.int .i64 x1.1.Chunk.Size, AV.int .i64 x1.1.Bad, AV.list 7 (x4.map S_Message.av), AV.bool o0.Last, AV.int .i64 o0.Fault, AV.str o0.Out.Bytes, AV.int .i64 o0.Out.Cap, AV.bool o0.Ends] [(18, 0)], .cells 52 (S_Reader.cells x1.1) []] [1]) ?_ ?_
  ·refine Gho.to _ _ _ [1] ?_ ?_ ?_ rfl rfl ?_
   ·exact ⟨⟨rfl, rfl, rfl⟩, ⟨⟨rfl, rfl, rfl⟩, trivial⟩⟩
   ·exact rfl
   ·exact rfl
   ·exact ⟨rfl, rfl, trivial, rfl, rfl, trivial, rfl, rfl, trivial, rfl, rfl, trivial, rfl, rfl, trivial, trivial⟩
  refine sj <| sj ?_
  refine ai ⟨rfl, rfl, rfl, lb rfl⟩ (xi [AV.bool x1.1.Asks, AV.str x1.1.Method, AV.str x1.1.Buf, AV.bool x1.1.In, AV.str x1.1.Head.Start.Method, AV.str x1.1.Head.Start.Target, AV.int .i64 x1.1.Head.Start.Code, AV.str x1.1.Head.Start.Reason, AV.int .i64 x1.1.Head.Start.Minor, AV.list 2 (x1.1.Head.Fields.map S_Field.av), AV.str x1.1.Head.Body, AV.int .i64 x1.1.Body.Kind, AV.int .i64 x1.1.Body.Size, AV.int .i64 x1.1.Chunk.Stage, AV.str x1.1.Chunk.Line, AV.int .i64 x1.1.Chunk.Left, AV.int .i64 x1.1.Chunk.Size, AV.int .i64 x1.1.Bad, AV.list 7 (x4.map S_Message.av), AV.bool o0.Last, AV.int .i64 x1.1.Bad, AV.str o0.Out.Bytes, AV.int .i64 o0.Out.Cap, AV.bool o0.Ends] (ai (fun _ => rfl) ?_))
  refine sn <| sj <| NormE.to (AV.int .i64 (x1.2.1.length : Int)) (fun _ => len_list S_Message.av x1.2.1) <| sn ?_
  refine Br.mk (fun ht => ?_) (fun ht => ?_)
  ·replace h := cond_tt h ht
   refine ai ⟨rfl, rfl, rfl, lb rfl⟩ (xi [AV.bool x1.1.Asks, AV.str x1.1.Method, AV.str x1.1.Buf, AV.bool x1.1.In, AV.str x1.1.Head.Start.Method, AV.str x1.1.Head.Start.Target, AV.int .i64 x1.1.Head.Start.Code, AV.str x1.1.Head.Start.Reason, AV.int .i64 x1.1.Head.Start.Minor, AV.list 2 (x1.1.Head.Fields.map S_Field.av), AV.str x1.1.Head.Body, AV.int .i64 x1.1.Body.Kind, AV.int .i64 x1.1.Body.Size, AV.int .i64 x1.1.Chunk.Stage, AV.str x1.1.Chunk.Line, AV.int .i64 x1.1.Chunk.Left, AV.int .i64 x1.1.Chunk.Size, AV.int .i64 x1.1.Bad, AV.list 7 (x4.map S_Message.av), AV.bool o0.Last, AV.int .i64 (4 : Int), AV.str o0.Out.Bytes, AV.int .i64 o0.Out.Cap, AV.bool o0.Ends] (ai (fun _ => rfl) ?_))
   refine sn <| sj ?_
   refine ai ⟨rfl, rfl, rfl, lb rfl⟩ (xi [AV.bool x1.1.Asks, AV.str x1.1.Method, AV.str x1.1.Buf, AV.bool x1.1.In, AV.str x1.1.Head.Start.Method, AV.str x1.1.Head.Start.Target, AV.int .i64 x1.1.Head.Start.Code, AV.str x1.1.Head.Start.Reason, AV.int .i64 x1.1.Head.Start.Minor, AV.list 2 (x1.1.Head.Fields.map S_Field.av), AV.str x1.1.Head.Body, AV.int .i64 x1.1.Body.Kind, AV.int .i64 x1.1.Body.Size, AV.int .i64 x1.1.Chunk.Stage, AV.str x1.1.Chunk.Line, AV.int .i64 x1.1.Chunk.Left, AV.int .i64 x1.1.Chunk.Size, AV.int .i64 x1.1.Bad, AV.list 7 (x4.map S_Message.av), AV.bool ((4 : Int) != (0 : Int)), AV.int .i64 (4 : Int), AV.str o0.Out.Bytes, AV.int .i64 o0.Out.Cap, AV.bool o0.Ends] (ai (fun _ => rfl) ?_))
   refine SeqN.via (St.of [⟨7, AV.int .i64 x1.2.2, none⟩] [.cells 77 [AV.bool x1.1.Asks, AV.str x1.1.Method, AV.str x1.1.Buf, AV.bool x1.1.In, AV.str x1.1.Head.Start.Method, AV.str x1.1.Head.Start.Target, AV.int .i64 x1.1.Head.Start.Code, AV.str x1.1.Head.Start.Reason, AV.int .i64 x1.1.Head.Start.Minor, AV.list 2 (x1.1.Head.Fields.map S_Field.av), AV.str x1.1.Head.Body, AV.int .i64 x1.1.Body.Kind, AV.int .i64 x1.1.Body.Size, AV.int .i64 x1.1.Chunk.Stage, AV.str x1.1.Chunk.Line, AV.int .i64 x1.1.Chunk.Left, AV.int .i64 x1.1.Chunk.Size, AV.int .i64 x1.1.Bad, AV.list 7 (x4.map S_Message.av), AV.bool ((4 : Int) != (0 : Int)), AV.int .i64 (4 : Int), AV.str o0.Out.Bytes, AV.int .i64 o0.Out.Cap, AV.bool o0.Ends] [(18, 0)]] [1]) ?_ ?_
   ·refine Gho.to _ _ _ [0] ?_ ?_ ?_ rfl rfl ?_
    ·exact ⟨⟨rfl, rfl, rfl⟩, trivial⟩
    ·exact rfl
    ·exact rfl
    ·exact ⟨rfl, rfl, trivial, trivial⟩
   refine sj <| sn ?_
   replace h := oi h
   have h0 := (Prod.mk.inj h).1
   have h1 := (Prod.mk.inj h).2
   subst h0
   subst h1
   refine xi [⟨3, AV.int .i64 (0 : Int), none⟩, ⟨4, AV.int .i64 x1.2.2, none⟩] (ai (Gho.to _ _ _ [] ?_ ?_ ?_ rfl rfl ?_) (ai ?_ rfl))
   ·exact ⟨⟨rfl, rfl, rfl⟩, trivial⟩
   ·exact rfl
   ·exact rfl
   ·exact ⟨rfl, rfl, trivial, rfl, rfl, trivial, trivial⟩
   ·exact rfl
  ·replace h := cond_ff h ht
   refine sn <| sj ?_
   refine ai ⟨rfl, rfl, rfl, lb rfl⟩ (xi [AV.bool x1.1.Asks, AV.str x1.1.Method, AV.str x1.1.Buf, AV.bool x1.1.In, AV.str x1.1.Head.Start.Method, AV.str x1.1.Head.Start.Target, AV.int .i64 x1.1.Head.Start.Code, AV.str x1.1.Head.Start.Reason, AV.int .i64 x1.1.Head.Start.Minor, AV.list 2 (x1.1.Head.Fields.map S_Field.av), AV.str x1.1.Head.Body, AV.int .i64 x1.1.Body.Kind, AV.int .i64 x1.1.Body.Size, AV.int .i64 x1.1.Chunk.Stage, AV.str x1.1.Chunk.Line, AV.int .i64 x1.1.Chunk.Left, AV.int .i64 x1.1.Chunk.Size, AV.int .i64 x1.1.Bad, AV.list 7 (x4.map S_Message.av), AV.bool (x1.1.Bad != (0 : Int)), AV.int .i64 x1.1.Bad, AV.str o0.Out.Bytes, AV.int .i64 o0.Out.Cap, AV.bool o0.Ends] (ai (fun _ => rfl) ?_))
   refine SeqN.via (St.of [⟨7, AV.int .i64 x1.2.2, none⟩] [.cells 77 [AV.bool x1.1.Asks, AV.str x1.1.Method, AV.str x1.1.Buf, AV.bool x1.1.In, AV.str x1.1.Head.Start.Method, AV.str x1.1.Head.Start.Target, AV.int .i64 x1.1.Head.Start.Code, AV.str x1.1.Head.Start.Reason, AV.int .i64 x1.1.Head.Start.Minor, AV.list 2 (x1.1.Head.Fields.map S_Field.av), AV.str x1.1.Head.Body, AV.int .i64 x1.1.Body.Kind, AV.int .i64 x1.1.Body.Size, AV.int .i64 x1.1.Chunk.Stage, AV.str x1.1.Chunk.Line, AV.int .i64 x1.1.Chunk.Left, AV.int .i64 x1.1.Chunk.Size, AV.int .i64 x1.1.Bad, AV.list 7 (x4.map S_Message.av), AV.bool (x1.1.Bad != (0 : Int)), AV.int .i64 x1.1.Bad, AV.str o0.Out.Bytes, AV.int .i64 o0.Out.Cap, AV.bool o0.Ends] [(18, 0)]] [1]) ?_ ?_
   ·refine Gho.to _ _ _ [0] ?_ ?_ ?_ rfl rfl ?_
    ·exact ⟨⟨rfl, rfl, rfl⟩, trivial⟩
    ·exact rfl
    ·exact rfl
    ·exact ⟨rfl, rfl, trivial, trivial⟩
   refine sj <| sn ?_
   replace h := oi h
   have h0 := (Prod.mk.inj h).1
   have h1 := (Prod.mk.inj h).2
   subst h0
   subst h1
   refine xi [⟨3, AV.int .i64 (0 : Int), none⟩, ⟨4, AV.int .i64 x1.2.2, none⟩] (ai (Gho.to _ _ _ [] ?_ ?_ ?_ rfl rfl ?_) (ai ?_ rfl))
   ·exact ⟨⟨rfl, rfl, rfl⟩, trivial⟩
   ·exact rfl
   ·exact rfl
   ·exact ⟨rfl, rfl, trivial, rfl, rfl, trivial, trivial⟩
   ·exact rfl
theorem client_call_int_client_Recv_1_ok (E : Pm.Env) [LaidM E] (a0 : S_Client) (a1k0 : Bytes) (r : (S_Client × Int × Int)) (h : client_call_int_client_Recv_1 a0 a1k0 = some r) : FnR E Tryz.prog 83 [S_Client.av a0, AV.fn 84 [] [AV.iptr [AV.str a1k0]]] (AV.tup [S_Client.av r.1, AV.int .i64 r.2.1, AV.int .i64 r.2.2]) false := by
 refine FnR.of_ev (T := T) (rows := []) tOk mixed Tryz.func83 rfl (by kernel_rfl) (by kernel_rfl) rfl fun hwf => ?_
 unfold client_call_int_client_Recv_1 at h
 refine sj <| ai rfl <| ai rfl <| sn <| sj <| sn <| sj <| sj <| ai ⟨lb rfl, lb rfl⟩ <| NormE.to (S_Client.av a0) (fun _ => rfl) <| bind_elim h fun x1 hx1 h => CallH.data _ false rfl (client_Right_ok E a0 x1 hx1) <| sn ?_
 refine Br.mk (fun ht => ?_) (fun ht => ?_)
 ·replace h := cond_tt h ht
  refine sj ?_
  refine xi (some 16777215) (ai (okM.mk (show (16777215 : Nat) = freeM T _ _ _ from by kernel_rfl)) ?_)
  refine ai ⟨rfl, rfl, rfl, lb rfl⟩ (xi [AV.bool false, AV.str ([] : Bytes), AV.str ([] : Bytes), AV.bool false, AV.str ([] : Bytes), AV.str ([] : Bytes), AV.int .i64 (0 : Int), AV.str ([] : Bytes), AV.int .i64 (0 : Int), AV.list 2 (([] : List S_Field).map S_Field.av), AV.str ([] : Bytes), AV.int .i64 (0 : Int), AV.int .i64 (0 : Int), AV.int .i64 (0 : Int), AV.str ([] : Bytes), AV.int .i64 (0 : Int), AV.int .i64 (0 : Int), AV.int .i64 (0 : Int), AV.list 7 (([] : List S_Message).map S_Message.av), AV.bool false, AV.int .i64 (0 : Int), AV.str ([] : Bytes), AV.int .i64 (0 : Int), AV.bool false] (ai (fun _ => rfl) ?_))
  refine sn ?_
  replace h := oi h
  refine RetE.plain ?_
  refine ai ⟨lb rfl, lb rfl⟩ (xi (AV.agg [AV.bool false, AV.str ([] : Bytes), AV.str ([] : Bytes), AV.bool false, AV.str ([] : Bytes), AV.str ([] : Bytes), AV.int .i64 (0 : Int), AV.str ([] : Bytes), AV.int .i64 (0 : Int), AV.list 2 (([] : List S_Field).map S_Field.av), AV.str ([] : Bytes), AV.int .i64 (0 : Int), AV.int .i64 (0 : Int), AV.int .i64 (0 : Int), AV.str ([] : Bytes), AV.int .i64 (0 : Int), AV.int .i64 (0 : Int), AV.int .i64 (0 : Int), AV.list 7 (([] : List S_Message).map S_Message.av), AV.bool false, AV.int .i64 (0 : Int), AV.str ([] : Bytes), AV.int .i64 (0 : Int), AV.bool false]) (ai rfl ?_))
  exact ai rfl (ai (congrArg (fun r : (S_Client × Int × Int) => AV.tup [S_Client.av r.1, AV.int .i64 r.2.1, AV.int .i64 r.2.2]) h) rfl)
 ·replace h := cond_ff h ht
  refine sn <| sj <| bind_elim h fun x2 hx2 h => CallH.ren [0] [] [.cells 77 (S_Client.cells x2.2) [], .cells 77 [AV.bool false, AV.str ([] : Bytes), AV.str ([] : Bytes), AV.bool false, AV.str ([] : Bytes), AV.str ([] : Bytes), AV.int .i64 (0 : Int), AV.str ([] : Bytes), AV.int .i64 (0 : Int), AV.list 2 (([] : List S_Field).map S_Field.av), AV.str ([] : Bytes), AV.int .i64 (0 : Int), AV.int .i64 (0 : Int), AV.int .i64 (0 : Int), AV.str ([] : Bytes), AV.int .i64 (0 : Int), AV.int .i64 (0 : Int), AV.int .i64 (0 : Int), AV.list 7 (([] : List S_Message).map S_Message.av), AV.bool false, AV.int .i64 (0 : Int), AV.str ([] : Bytes), AV.int .i64 (0 : Int), AV.bool false] [(9, 0), (18, 1)]] [2, 2] (client_Recv_1_ok E a0 a1k0 x2.1 x2.2 hx2) rfl rfl rfl rfl rfl rfl rfl rfl rfl <| sn <| sj <| sj ?_
  refine SeqN.via (St.of [⟨2, AV.ptr 0 0, none⟩, ⟨4, AV.ptr 1 0, none⟩, ⟨7, AV.int .i64 (0 : Int), none⟩, ⟨8, AV.int .i64 x2.1.1, none⟩, ⟨9, AV.int .i64 x2.1.2, none⟩, ⟨21, AV.bool (x2.1.2 != (0 : Int)), none⟩] [.cells 77 (S_Client.cells x2.2) [], .cells 77 [AV.bool false, AV.str ([] : Bytes), AV.str ([] : Bytes), AV.bool false, AV.str ([] : Bytes), AV.str ([] : Bytes), AV.int .i64 (0 : Int), AV.str ([] : Bytes), AV.int .i64 (0 : Int), AV.list 2 (([] : List S_Field).map S_Field.av), AV.str ([] : Bytes), AV.int .i64 (0 : Int), AV.int .i64 (0 : Int), AV.int .i64 (0 : Int), AV.str ([] : Bytes), AV.int .i64 (0 : Int), AV.int .i64 (0 : Int), AV.int .i64 (0 : Int), AV.list 7 (([] : List S_Message).map S_Message.av), AV.bool false, AV.int .i64 (0 : Int), AV.str ([] : Bytes), AV.int .i64 (0 : Int), AV.bool false] [(9, 0), (18, 1)]] [1, 1]) ?_ ?_
  ·refine Gho.to _ _ _ [0, 1] ?_ ?_ ?_ rfl rfl ?_
   ·exact ⟨⟨rfl, rfl, rfl⟩, ⟨⟨rfl, rfl, rfl⟩, trivial⟩⟩
   ·exact rfl
   ·exact rfl
   ·exact ⟨rfl, rfl, trivial, rfl, rfl, trivial, rfl, rfl, trivial, rfl, rfl, trivial, rfl, rfl, trivial, rfl, rfl, trivial, trivial⟩
  refine Br.mk (fun ht => ?_) (fun ht => ?_)
  ·replace h := cond_tt h ht
   refine sj ?_
   refine xi (some 16777215) (ai (okM.mk (show (16777215 : Nat) = freeM T _ _ _ from by kernel_rfl)) ?_)
   refine ai ⟨rfl, rfl, rfl, lb rfl⟩ (xi [AV.bool false, AV.str ([] : Bytes), AV.str ([] : Bytes), AV.bool false, AV.str ([] : Bytes), AV.str ([] : Bytes), AV.int .i64 (0 : Int), AV.str ([] : Bytes), AV.int .i64 (0 : Int), AV.list 2 (([] : List S_Field).map S_Field.av), AV.str ([] : Bytes), AV.int .i64 (0 : Int), AV.int .i64 (0 : Int), AV.int .i64 (0 : Int), AV.str ([] : Bytes), AV.int .i64 (0 : Int), AV.int .i64 (0 : Int), AV.int .i64 (0 : Int), AV.list 7 (([] : List S_Message).map S_Message.av), AV.bool false, AV.int .i64 (0 : Int), AV.str ([] : Bytes), AV.int .i64 (0 : Int), AV.bool false] (ai (fun _ => rfl) ?_))
   refine sn ?_
   replace h := oi h
   refine RetE.plain ?_
   refine ai ⟨lb rfl, lb rfl⟩ (xi (AV.agg [AV.bool false, AV.str ([] : Bytes), AV.str ([] : Bytes), AV.bool false, AV.str ([] : Bytes), AV.str ([] : Bytes), AV.int .i64 (0 : Int), AV.str ([] : Bytes), AV.int .i64 (0 : Int), AV.list 2 (([] : List S_Field).map S_Field.av), AV.str ([] : Bytes), AV.int .i64 (0 : Int), AV.int .i64 (0 : Int), AV.int .i64 (0 : Int), AV.str ([] : Bytes), AV.int .i64 (0 : Int), AV.int .i64 (0 : Int), AV.int .i64 (0 : Int), AV.list 7 (([] : List S_Message).map S_Message.av), AV.bool false, AV.int .i64 (0 : Int), AV.str ([] : Bytes), AV.int .i64 (0 : Int), AV.bool false]) (ai rfl ?_))
   exact ai rfl (ai (congrArg (fun r : (S_Client × Int × Int) => AV.tup [S_Client.av r.1, AV.int .i64 r.2.1, AV.int .i64 r.2.2]) h) rfl)
  ·replace h := cond_ff h ht
   refine sn <| sj <| ai ⟨lb rfl, lb rfl⟩ <| NormE.to (S_Client.av x2.2) (fun _ => rfl) ?_
   refine ai ⟨rfl, rfl, rfl, lb rfl⟩ (xi (S_Client.cells x2.2) (ai (fun _ => rfl) ?_))
   refine sn ?_
   replace h := oi h
   refine RetE.plain ?_
   refine ai ⟨lb rfl, lb rfl⟩ (xi (S_Client.av x2.2) (ai rfl ?_))
   exact ai rfl (ai (congrArg (fun r : (S_Client × Int × Int) => AV.tup [S_Client.av r.1, AV.int .i64 r.2.1, AV.int .i64 r.2.2]) h) rfl)
theorem client_Recv_ok (E : Pm.Env) [LaidM E] (a0 : S_Client) (a1 : Bytes) (r : (S_Client × Int)) (h : client_Recv a0 a1 = some r) : FnR E Tryz.prog 36 [S_Client.av a0, AV.str a1] (AV.tup [S_Client.av r.1, AV.int .i64 r.2]) false := by
 refine FnR.of_ev (T := T) (rows := []) tOk mixed Tryz.func36 rfl (by kernel_rfl) (by kernel_rfl) rfl fun hwf => ?_
 unfold client_Recv at h
 refine sj <| ai rfl <| ai rfl <| ai rfl ?_
 refine SeqN.via (St.of [⟨2, AV.ptr 0 0, none⟩, ⟨3, AV.iptr [AV.str a1], none⟩, ⟨4, AV.ptr 2 0, none⟩] [.cells 77 (S_Client.cells a0) [], .dead, .cells 77 [AV.bool false, AV.str ([] : Bytes), AV.str ([] : Bytes), AV.bool false, AV.str ([] : Bytes), AV.str ([] : Bytes), AV.int .i64 (0 : Int), AV.str ([] : Bytes), AV.int .i64 (0 : Int), AV.list 2 (([] : List S_Field).map S_Field.av), AV.str ([] : Bytes), AV.int .i64 (0 : Int), AV.int .i64 (0 : Int), AV.int .i64 (0 : Int), AV.str ([] : Bytes), AV.int .i64 (0 : Int), AV.int .i64 (0 : Int), AV.int .i64 (0 : Int), AV.list 7 (([] : List S_Message).map S_Message.av), AV.bool false, AV.int .i64 (0 : Int), AV.str ([] : Bytes), AV.int .i64 (0 : Int), AV.bool false] [(9, 0), (18, 1)]] [1, 1]) ?_ ?_
 ·refine Gho.trans (Gho.fz [1] [(3, AV.iptr [AV.str a1])] ⟨Frz.ptrD rfl rfl (lb rfl), trivial⟩) ?_
  refine Gho.to _ _ _ [0, 1] ?_ ?_ ?_ rfl rfl ?_
  ·exact ⟨⟨rfl, rfl, rfl⟩, ⟨trivial, ⟨⟨rfl, rfl, rfl⟩, trivial⟩⟩⟩
  ·exact rfl
  ·exact rfl
  ·exact ⟨rfl, rfl, trivial, rfl, rfl, trivial, rfl, rfl, trivial, trivial⟩
 refine sj <| ai ⟨lb rfl, lb rfl⟩ <| NormE.to (S_Client.av a0) (fun _ => rfl) <| bind_elim h fun x1 hx1 h => CallH.data _ false rfl (client_call_int_client_Recv_1_ok E a0 a1 x1 hx1) ?_
 refine ai ⟨rfl, rfl, rfl, lb rfl⟩ (xi (S_Client.cells x1.1) (ai (fun _ => rfl) ?_))
 refine sn <| sj <| ai ⟨lb rfl, lb rfl⟩ <| NormE.to (S_Client.av x1.1) (fun _ => rfl) ?_
 refine ai ⟨rfl, rfl, rfl, lb rfl⟩ (xi (S_Client.cells x1.1) (ai (fun _ => rfl) ?_))
 refine sn ?_
 replace h := oi h
 refine RetE.plain ?_
 refine ai ⟨lb rfl, lb rfl⟩ (xi (S_Client.av x1.1) (ai rfl ?_))
 exact ai rfl (ai (congrArg (fun r : (S_Client × Int) => AV.tup [S_Client.av r.1, AV.int .i64 r.2]) h) rfl)
theorem intarsialaw23_alive_ok (E : Pm.Env) [LaidM E] (r : Bool) (h : intarsialaw23_alive = some r) : FnR E Tryz.prog 38 [] (AV.bool r) false := by
 refine FnR.of_ev (T := T) (rows := []) tOk mixed Tryz.func38 rfl (by kernel_rfl) (by kernel_rfl) rfl fun hwf => ?_
 unfold intarsialaw23_alive at h
 refine sj <| sn <| sj <| bind_elim h fun x1 hx1 h => CallH.data _ false rfl (client_New_ok E  x1 hx1) <| bind_elim h fun x2 hx2 h => CallH.data _ false rfl (client_Recv_ok E x1 ([71, 69, 84, 32, 47, 32, 72, 84, 84, 80, 47, 49, 46, 49, 13, 10, 13, 10] : Bytes) x2 hx2) <| ai rfl ?_
 refine ai ⟨rfl, rfl, rfl, lb rfl⟩ (xi (S_Client.cells x2.1) (ai (fun _ => rfl) ?_))
 refine sn <| sj <| ai id <| ai id <| NormE.to (AV.int .i64 (x2.1.Ready.length : Int)) (fun _ => len_list S_Message.av x2.1.Ready) <| ai id <| ai (fun hg => (and_r hg)) <| ai id <| bind_elim h fun x3 hx3 h => ai id ?_
 refine ai rfl (xi (S_Message.av x3) (ai (fun hg => gidx_map _ hx3 hg) ?_))
 refine ai id <| ai id <| ai id <| ai id <| ai (fun hg => (and_r hg)) ?_
 refine SeqN.via (St.of [⟨0, AV.bool (bif (bif (x2.2 == (0 : Int)) then ((x2.1.Ready.length : Int) == (1 : Int)) else false) then (x3.Start.Target == ([47] : Bytes)) else false), none⟩] [] []) ?_ ?_
 ·refine Gho.to _ _ _ [] ?_ ?_ ?_ rfl rfl ?_
  ·exact trivial
  ·exact rfl
  ·exact rfl
  ·exact ⟨rfl, rfl, trivial, trivial⟩
 replace h := oi h
 refine RetE.plain ?_
 exact ai rfl (ai (congrArg (fun r : Bool => AV.bool r) h) rfl)
theorem intarsiaref23_Like_ok (E : Pm.Env) [LaidM E] (a0 : S_Client) (a1 : S_Client) (r : Bool) (h : intarsiaref23_Like a0 a1 = some r) : FnR E Tryz.prog 39 [S_Client.av a0, S_Client.av a1] (AV.bool r) false := by
 refine FnR.of_ev (T := T) (rows := []) tOk mixed Tryz.func39 rfl (by kernel_rfl) (by kernel_rfl) rfl fun hwf => ?_
 unfold intarsiaref23_Like at h
 refine sj <| ai rfl <| ai rfl <| sn <| sj <| ai ⟨lb rfl, lb rfl⟩ <| NormE.to (S_Reader.av a0.Reader) (fun _ => rfl) <| ai ⟨lb rfl, lb rfl⟩ <| NormE.to (S_Reader.av a1.Reader) (fun _ => rfl) <| bind_elim h fun x1 hx1 h => CallH.data _ false rfl (intarsiaref10_LikeReader_ok E a0.Reader a1.Reader x1 hx1) <| ai id <| ai id <| bind_elim h fun x2 hx2 h => ai id <| ai id <| ai rfl ?_
 refine CallF.mk _ false (fun hg => intarsiaref10_Same_ok E a0.Ready a1.Ready x2 (gcall_some hx2 hg)) (ai rfl ?_)
 refine ai (fun hg => (and_r hg)) <| ai id <| ai id <| ai id <| ai id <| ai rfl <| ai (fun hg => (and_r hg)) <| ai id <| ai id <| ai id <| ai id <| ai (fun hg => (and_r hg)) <| ai id <| ai ⟨lb rfl, lb rfl⟩ <| NormE.to (S_Queue.av a0.Out) (fun _ => rfl) <| ai id <| ai ⟨lb rfl, lb rfl⟩ <| NormE.to (S_Queue.av a1.Out) (fun _ => rfl) <| ai id <| ai id <| ai rfl <| ai (fun hg => (and_r hg)) <| ai id <| ai id <| ai id <| ai id <| ai rfl <| ai (fun hg => (and_r hg)) ?_
 refine SeqN.via (St.of [⟨4, AV.bool (bif (bif (bif (bif (bif x1 then x2 else false) then (a0.Last == a1.Last) else false) then (a0.Fault == a1.Fault) else false) then ((a0.Out.Bytes == a1.Out.Bytes) && ((a0.Out.Cap == a1.Out.Cap) && true)) else false) then (a0.Ends == a1.Ends) else false), none⟩] [] []) ?_ ?_
 ·refine Gho.to _ _ _ [] ?_ ?_ ?_ rfl rfl ?_
  ·exact trivial
  ·exact rfl
  ·exact rfl
  ·exact ⟨rfl, rfl, trivial, trivial⟩
 replace h := oi h
 refine RetE.plain ?_
 exact ai rfl (ai (congrArg (fun r : Bool => AV.bool r) h) rfl)
theorem intarsialaw23_ClientFaults_ok (E : Pm.Env) [LaidM E] (a0 : Int) (a1 : Bytes) (r : Bool) (h : intarsialaw23_ClientFaults a0 a1 = some r) : FnR E Tryz.prog 11 [AV.int .i64 a0, AV.str a1] (AV.bool r) false := by
 refine FnR.of_ev (T := T) (rows := []) tOk mixed Tryz.func11 rfl (by kernel_rfl) (by kernel_rfl) rfl fun hwf => ?_
 unfold intarsialaw23_ClientFaults at h
 refine sj <| sn <| sj <| ai rfl <| ai rfl <| sn <| sj <| sn <| bind_elim h fun j1 hj1 h => ?_
 refine SeqJ.join (St.of [⟨0, AV.int .i64 (imin (imax a0 (0 : Int)) (12 : Int)), none⟩, ⟨1, AV.str a1, none⟩, ⟨5, AV.str j1, none⟩] [] []) ?_ ?_
 ·clear h; have h := hj1; clear hj1
  refine sj <| sn ?_
  refine LoopE.img (fun x : (Bytes × Int) => St.of [⟨0, AV.int .i64 (imin (imax a0 (0 : Int)) (12 : Int)), none⟩, ⟨1, AV.str a1, none⟩, ⟨5, AV.str x.1, none⟩, ⟨15, AV.int .i64 (imin (imax a0 (0 : Int)) (12 : Int)), none⟩, ⟨16, AV.int .i64 x.2, none⟩] [] []) (intarsialaw23_ClientFaults_b1 a0) (([] : Bytes), (0 : Int)) h ?_ ?_
  ·refine Gho.to _ _ _ [] ?_ ?_ ?_ rfl rfl ?_
   ·exact trivial
   ·exact rfl
   ·exact rfl
   ·exact ⟨rfl, rfl, trivial, rfl, rfl, trivial, rfl, rfl, trivial, rfl, rfl, trivial, rfl, rfl, trivial, trivial⟩
  intro n1 x y1 h hl1 hr1
  obtain ⟨s2, s3⟩ := x
  unfold intarsialaw23_ClientFaults_b1 at h
  dsimp only at h
  refine sj <| sn <| sj ?_
  refine Br.mk (fun ht => ?_) (fun ht => ?_)
  ·replace h := cond_tt h ht
   refine sn <| sj <| bind_elim h fun x4 hx4 h => ?_
   have hx4c := (cat_some hx4).1
   have hx4e := (cat_some hx4).2
   refine ai (fun _ => hx4c) <| NormE.to (AV.str x4) (fun _ => congrArg AV.str hx4e.symm) <| sn ?_
   replace h := oi h
   refine xi ⟨(n1, (x4, (IntKind.i64.wrap (s3 + (1 : Int))))), hl1 _ h.symm⟩ (ai (Nat.lt_succ_self _) ?_)
   refine Gho.to _ _ _ [] ?_ ?_ ?_ rfl rfl ?_
   ·exact trivial
   ·exact rfl
   ·exact rfl
   ·exact ⟨rfl, rfl, trivial, rfl, rfl, trivial, rfl, rfl, trivial, rfl, rfl, trivial, rfl, rfl, trivial, trivial⟩
  ·replace h := cond_ff h ht
   replace h := oi h
   replace h := hr1 _ h.symm
   subst h
   refine Gho.to _ _ _ [] ?_ ?_ ?_ rfl rfl ?_
   ·exact trivial
   ·exact rfl
   ·exact rfl
   ·exact ⟨rfl, rfl, trivial, rfl, rfl, trivial, rfl, rfl, trivial, trivial⟩
 ·clear hj1
  refine sj <| bind_elim h fun x5 hx5 h => CallH.data _ false rfl (client_New_ok E  x5 hx5) <| bind_elim h fun x6 hx6 h => CallH.data _ false rfl (client_Recv_ok E x5 j1 x6 hx6) <| ai rfl ?_
  refine ai ⟨rfl, rfl, rfl, lb rfl⟩ (xi (S_Client.cells x6.1) (ai (fun _ => rfl) ?_))
  refine sn <| sj <| sj <| ai id <| ai id <| NormE.to (AV.int .i64 (x6.1.Ready.length : Int)) (fun _ => len_list S_Message.av x6.1.Ready) <| ai id <| ai rfl <| ai id <| ai id <| ai (fun hg => (and_r hg)) <| ai id <| ai id <| ai id <| ai id <| ai rfl <| ai (fun hg => (and_r hg)) <| ai id <| ai id <| ai id <| ai id <| ai id <| ai id <| ai (fun hg => (and_r hg)) ?_
  refine SeqN.via (St.of [⟨0, AV.int .i64 (imin (imax a0 (0 : Int)) (12 : Int)), none⟩, ⟨1, AV.str a1, none⟩, ⟨5, AV.str j1, none⟩, ⟨6, AV.ptr 0 0, none⟩, ⟨52, AV.bool (bif (bif (bif (x6.2 != (0 : Int)) then true else ((x6.1.Ready.length : Int) != (imin (imin (imax a0 (0 : Int)) (12 : Int)) (8 : Int)))) then true else (!(x6.1.Last == (decide ((imin (imax a0 (0 : Int)) (12 : Int)) > (8 : Int)))))) then true else (bif (decide ((imin (imax a0 (0 : Int)) (12 : Int)) > (8 : Int))) then (x6.1.Fault != (4 : Int)) else false)), none⟩] [.cells 77 (S_Client.cells x6.1) []] []) ?_ ?_
  ·refine Gho.to _ _ _ [] ?_ ?_ ?_ rfl rfl ?_
   ·exact ⟨⟨rfl, rfl, rfl⟩, trivial⟩
   ·exact rfl
   ·exact rfl
   ·exact ⟨rfl, rfl, trivial, rfl, rfl, trivial, rfl, rfl, trivial, rfl, rfl, trivial, rfl, rfl, trivial, trivial⟩
  refine Br.mk (fun ht => ?_) (fun ht => ?_)
  ·replace h := cond_tt h ht
   refine sj <| sn ?_
   replace h := oi h
   refine RetE.plain ?_
   exact ai rfl (ai (congrArg (fun r : Bool => AV.bool r) h) rfl)
  ·replace h := cond_ff h ht
   refine sn <| sj <| ai ⟨lb rfl, lb rfl⟩ <| NormE.to (S_Client.av x6.1) (fun _ => rfl) <| NormE.same <| ai rfl <| bind_elim h fun x7 hx7 h => ?_
   have qx7 := (slc_some hx7).1
   have hx7e := (slc_some hx7).2
   refine ai (fun _ => qx7) <| NormE.to (AV.str x7) (fun _ => congrArg AV.str hx7e.symm) <| bind_elim h fun x8 hx8 h => ?_
   have hx8c := (cat_some hx8).1
   have hx8e := (cat_some hx8).2
   refine ai (fun _ => hx8c) <| NormE.to (AV.str x8) (fun _ => congrArg AV.str hx8e.symm) <| bind_elim h fun x9 hx9 h => CallH.data _ false rfl (client_Recv_ok E x6.1 x8 x9 hx9) <| ai rfl ?_
   refine ai ⟨rfl, rfl, rfl, lb rfl⟩ (xi (S_Client.cells x9.1) (ai (fun _ => rfl) ?_))
   refine ai (by kernel_rfl) <| sn <| sj <| ai ⟨lb rfl, lb rfl⟩ <| NormE.to (S_Client.av x9.1) (fun _ => rfl) <| bind_elim h fun x10 hx10 h => CallH.data _ false rfl (client_Recv_ok E x9.1 j1 x10 hx10) <| ai rfl ?_
   refine ai ⟨rfl, rfl, rfl, lb rfl⟩ (xi (S_Client.cells x10.1) (ai (fun _ => rfl) ?_))
   refine SeqN.via (St.of [⟨0, AV.int .i64 (imin (imax a0 (0 : Int)) (12 : Int)), none⟩, ⟨8, AV.ptr 1 0, none⟩, ⟨9, AV.int .i64 x9.2, none⟩, ⟨10, AV.ptr 2 0, none⟩, ⟨11, AV.int .i64 x10.2, none⟩] [.dead, .cells 77 (S_Client.cells x9.1) [], .cells 77 (S_Client.cells x10.1) []] []) ?_ ?_
   ·refine Gho.to _ _ _ [] ?_ ?_ ?_ rfl rfl ?_
    ·exact ⟨trivial, ⟨⟨rfl, rfl, rfl⟩, ⟨⟨rfl, rfl, rfl⟩, trivial⟩⟩⟩
    ·exact rfl
    ·exact rfl
    ·exact ⟨rfl, rfl, trivial, rfl, rfl, trivial, rfl, rfl, trivial, rfl, rfl, trivial, rfl, rfl, trivial, trivial⟩
   refine sj <| sj <| ai id <| ai id <| ai (fun hg => (and_r hg)) <| sn ?_
   refine Br.mk (fun ht => ?_) (fun ht => ?_)
   ·replace h := cond_tt h ht
    refine sj <| sn ?_
    replace h := oi h
    refine RetE.plain ?_
    exact ai rfl (ai (congrArg (fun r : Bool => AV.bool r) h) rfl)
   ·replace h := cond_ff h ht
    refine sn <| sj <| bind_elim h fun x11 hx11 h => CallH.data _ false rfl (intarsialaw23_alive_ok E  x11 hx11) <| ai id <| ai (fun hg => (and_r hg)) <| ai id <| ai (fun hg => (and_r hg)) <| ai id <| ai (fun hg => (and_r hg)) <| ai id <| ai id <| NormE.to (AV.int .i64 (x9.1.Ready.length : Int)) (fun _ => len_list S_Message.av x9.1.Ready) <| ai id <| ai rfl <| ai id <| ai id <| ai (fun hg => (and_r hg)) <| ai ⟨lb rfl, lb rfl⟩ <| NormE.to (S_Client.av x10.1) (fun _ => rfl) <| ai ⟨lb rfl, lb rfl⟩ <| NormE.to (S_Client.av x9.1) (fun _ => rfl) <| bind_elim h fun x12 hx12 h => ai id <| ai id <| ai rfl ?_
    refine CallF.mk _ false (fun hg => intarsiaref23_Like_ok E x10.1 x9.1 x12 (gcall_some hx12 hg)) (ai rfl ?_)
    refine ai (fun hg => (and_r hg)) ?_
    refine SeqN.via (St.of [⟨4, AV.bool (bif (bif (bif (bif (bif x11 then (x9.2 == (0 : Int)) else false) then (x10.2 == (0 : Int)) else false) then x9.1.Last else false) then ((x9.1.Ready.length : Int) == (imin (imin (imax a0 (0 : Int)) (12 : Int)) (8 : Int))) else false) then x12 else false), none⟩] [] []) ?_ ?_
    ·refine Gho.to _ _ _ [] ?_ ?_ ?_ rfl rfl ?_
     ·exact trivial
     ·exact rfl
     ·exact rfl
     ·exact ⟨rfl, rfl, trivial, trivial⟩
    replace h := oi h
    refine RetE.plain ?_
    exact ai rfl (ai (congrArg (fun r : Bool => AV.bool r) h) rfl)
end Go.Proofs.YtkfoahoplndelaaGreatDoor
