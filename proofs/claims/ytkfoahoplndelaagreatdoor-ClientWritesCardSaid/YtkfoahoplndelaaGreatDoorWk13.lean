/-
  The functions do what their images say: walks, written by a program of mine (gen.py).
-/
import Derived.Test.YtkfoahoplndelaaGreatDoorIc1
import Derived.Test.YtkfoahoplndelaaGreatDoorWk12
namespace Go.Proofs.YtkfoahoplndelaaGreatDoor
open Go Go.Pm
open And renaming intro → ai
open Exists renaming intro → xi
open Option.some renaming inj → oi
open _root_.Nat renaming le_of_ble_eq_true → lb
open Go.Pm.SeqJ renaming go → sj
open Go.Pm.SeqN renaming go → sn
set_option maxRecDepth 100000
set_option maxHeartbeats 4000000
set_option linter.unusedVariables false
theorem queue_New_ok (E : Pm.Env) [LaidM E] (a0 : Int) (r : (S_Queue × Int)) (h : queue_New a0 = some r) : FnR E Tryz.prog 86 [AV.int .i64 a0] (AV.tup [S_Queue.av r.1, AV.int .i64 r.2]) false := by
 refine FnR.of_ev (T := T) (rows := []) tOk mixed Tryz.func86 rfl (by kernel_rfl) (by kernel_rfl) rfl fun hwf => ?_
 unfold queue_New at h
 refine sj <| ai rfl <| sn <| sj <| sj <| ai id <| ai (fun hg => (and_r hg)) <| sn ?_
 refine Br.mk (fun ht => ?_) (fun ht => ?_)
 ·replace h := cond_tt h ht
  refine sj ?_
  refine xi none (ai trivial ?_)
  refine ai ⟨rfl, rfl, rfl, lb rfl⟩ (xi [AV.str ([] : Bytes), AV.int .i64 (0 : Int)] (ai (fun _ => rfl) ?_))
  refine sn ?_
  replace h := oi h
  refine RetE.plain ?_
  refine ai ⟨lb rfl, lb rfl⟩ (xi (AV.agg [AV.str ([] : Bytes), AV.int .i64 (0 : Int)]) (ai rfl ?_))
  exact ai rfl (ai (congrArg (fun r : (S_Queue × Int) => AV.tup [S_Queue.av r.1, AV.int .i64 r.2]) h) rfl)
 ·replace h := cond_ff h ht
  refine sn <| sj <| ai ⟨rfl, rfl, lb rfl⟩ ?_
  refine xi none (ai trivial ?_)
  refine ai ⟨rfl, rfl, rfl, lb rfl⟩ (xi [AV.str ([] : Bytes), AV.int .i64 a0] (ai (fun _ => rfl) ?_))
  refine sn ?_
  replace h := oi h
  refine RetE.plain ?_
  refine ai ⟨lb rfl, lb rfl⟩ (xi (AV.agg [AV.str ([] : Bytes), AV.int .i64 a0]) (ai rfl ?_))
  exact ai rfl (ai (congrArg (fun r : (S_Queue × Int) => AV.tup [S_Queue.av r.1, AV.int .i64 r.2]) h) rfl)
theorem client_New_ok (E : Pm.Env) [LaidM E] (r : S_Client) (h : client_New = some r) : FnR E Tryz.prog 37 [] (S_Client.av r) false := by
 refine FnR.of_ev (T := T) (rows := []) tOk mixed Tryz.func37 rfl (by kernel_rfl) (by kernel_rfl) rfl fun hwf => ?_
 unfold client_New at h
 refine sj <| ai rfl <| sn <| sj <| bind_elim h fun x1 hx1 h => CallH.data _ false rfl (queue_New_ok E (16384 : Int) x1 hx1) <| ai rfl ?_
 refine ai ⟨rfl, rfl, rfl, lb rfl⟩ (xi (S_Queue.cells x1.1) (ai (fun _ => rfl) ?_))
 refine sn <| sj <| bind_elim h fun x2 hx2 h => CallH.data _ false rfl (wire_New_ok E true ([] : Bytes) x2 hx2) <| ai ⟨lb rfl, lb rfl⟩ <| NormE.to (S_Queue.av x1.1) (fun _ => rfl) <| ai ⟨rfl, rfl, lb rfl⟩ <| ai ⟨rfl, rfl, lb rfl⟩ ?_
 refine xi (some 10223616) (ai (okM.mk (show (10223616 : Nat) = freeM T _ _ _ from by kernel_rfl)) ?_)
 refine ai ⟨rfl, rfl, rfl, lb rfl⟩ (xi [AV.bool x2.Asks, AV.str x2.Method, AV.str x2.Buf, AV.bool x2.In, AV.str x2.Head.Start.Method, AV.str x2.Head.Start.Target, AV.int .i64 x2.Head.Start.Code, AV.str x2.Head.Start.Reason, AV.int .i64 x2.Head.Start.Minor, AV.list 2 (x2.Head.Fields.map S_Field.av), AV.str x2.Head.Body, AV.int .i64 x2.Body.Kind, AV.int .i64 x2.Body.Size, AV.int .i64 x2.Chunk.Stage, AV.str x2.Chunk.Line, AV.int .i64 x2.Chunk.Left, AV.int .i64 x2.Chunk.Size, AV.int .i64 x2.Bad, AV.list 7 (([] : List S_Message).map S_Message.av), AV.bool false, AV.int .i64 (0 : Int), AV.str x1.1.Bytes, AV.int .i64 x1.1.Cap, AV.bool false] (ai (fun _ => rfl) ?_))
 refine ai (by kernel_rfl) <| sn ?_
 replace h := oi h
 refine RetE.plain ?_
 refine ai ⟨lb rfl, lb rfl⟩ (xi (AV.agg [AV.bool x2.Asks, AV.str x2.Method, AV.str x2.Buf, AV.bool x2.In, AV.str x2.Head.Start.Method, AV.str x2.Head.Start.Target, AV.int .i64 x2.Head.Start.Code, AV.str x2.Head.Start.Reason, AV.int .i64 x2.Head.Start.Minor, AV.list 2 (x2.Head.Fields.map S_Field.av), AV.str x2.Head.Body, AV.int .i64 x2.Body.Kind, AV.int .i64 x2.Body.Size, AV.int .i64 x2.Chunk.Stage, AV.str x2.Chunk.Line, AV.int .i64 x2.Chunk.Left, AV.int .i64 x2.Chunk.Size, AV.int .i64 x2.Bad, AV.list 7 (([] : List S_Message).map S_Message.av), AV.bool false, AV.int .i64 (0 : Int), AV.str x1.1.Bytes, AV.int .i64 x1.1.Cap, AV.bool false]) (ai rfl ?_))
 exact ai rfl (ai (congrArg (fun r : S_Client => S_Client.av r) h) rfl)
theorem queue_Right_ok (E : Pm.Env) [LaidM E] (a0 : S_Queue) (r : Bool) (h : queue_Right a0 = some r) : FnR E Tryz.prog 140 [S_Queue.av a0] (AV.bool r) false := by
 refine FnR.of_ev (T := T) (rows := []) tOk mixed Tryz.func140 rfl (by kernel_rfl) (by kernel_rfl) rfl fun hwf => ?_
 unfold queue_Right at h
 refine sj <| ai rfl <| sn <| sj <| ai id <| ai id <| ai (fun hg => (and_r hg)) <| ai id <| ai id <| NormE.same <| ai id <| ai id <| ai id <| ai (fun hg => (and_r hg)) ?_
 refine SeqN.via (St.of [⟨2, AV.bool (bif (bif (decide (a0.Cap ≥ (1 : Int))) then (decide (a0.Cap ≤ (65536 : Int))) else false) then (decide ((a0.Bytes.length : Int) ≤ a0.Cap)) else false), none⟩] [] []) ?_ ?_
 ·refine Gho.to _ _ _ [] ?_ ?_ ?_ rfl rfl ?_
  ·exact trivial
  ·exact rfl
  ·exact rfl
  ·exact ⟨rfl, rfl, trivial, trivial⟩
 replace h := oi h
 refine RetE.plain ?_
 exact ai rfl (ai (congrArg (fun r : Bool => AV.bool r) h) rfl)
theorem client_Right_ok (E : Pm.Env) [LaidM E] (a0 : S_Client) (r : Bool) (h : client_Right a0 = some r) : FnR E Tryz.prog 93 [S_Client.av a0] (AV.bool r) false := by
 refine FnR.of_ev (T := T) (rows := []) tOk mixed Tryz.func93 rfl (by kernel_rfl) (by kernel_rfl) rfl fun hwf => ?_
 unfold client_Right at h
 refine sj <| ai rfl <| sn <| sj <| ai ⟨lb rfl, lb rfl⟩ <| NormE.to (S_Reader.av a0.Reader) (fun _ => rfl) <| ai rfl ?_
 refine ai ⟨rfl, rfl, rfl, lb rfl⟩ (xi (S_Reader.cells a0.Reader) (ai (fun _ => rfl) ?_))
 refine sn <| sj <| sj <| ai ⟨lb rfl, lb rfl⟩ <| NormE.to (S_Reader.av a0.Reader) (fun _ => rfl) <| bind_elim h fun x1 hx1 h => CallH.data _ false rfl (wire_Right_ok E a0.Reader x1 hx1) <| ai id <| ai id <| ai (fun hg => (and_r hg)) <| ai id <| ai id <| ai (fun hg => (and_r hg)) <| ai id <| ai id <| NormE.to (AV.int .i64 (a0.Ready.length : Int)) (fun _ => len_list S_Message.av a0.Ready) <| ai id <| ai (fun hg => (and_r hg)) <| ai id <| ai ⟨lb rfl, lb rfl⟩ <| NormE.to (S_Queue.av a0.Out) (fun _ => rfl) <| bind_elim h fun x2 hx2 h => ai id <| ai rfl ?_
 refine CallF.mk _ false (fun hg => queue_Right_ok E a0.Out x2 (gcall_some hx2 hg)) (ai rfl ?_)
 refine ai id <| ai (fun hg => (and_r hg)) <| ai id <| ai id <| ai id <| ai (fun hg => (and_r hg)) ?_
 refine SeqN.via (St.of [⟨1, AV.ptr 0 0, none⟩, ⟨3, AV.ptr 1 0, none⟩, ⟨37, AV.bool (bif (bif (bif (bif (bif (!x1) then true else (!a0.Reader.Asks)) then true else (!(a0.Reader.Method == ([] : Bytes)))) then true else (decide ((a0.Ready.length : Int) > (8 : Int)))) then true else (!x2)) then true else (a0.Out.Cap != (16384 : Int))), none⟩] [.cells 77 (S_Client.cells a0) [], .cells 52 (S_Reader.cells a0.Reader) []] []) ?_ ?_
 ·refine Gho.to _ _ _ [] ?_ ?_ ?_ rfl rfl ?_
  ·exact ⟨⟨rfl, rfl, rfl⟩, ⟨⟨rfl, rfl, rfl⟩, trivial⟩⟩
  ·exact rfl
  ·exact rfl
  ·exact ⟨rfl, rfl, trivial, rfl, rfl, trivial, rfl, rfl, trivial, trivial⟩
 refine Br.mk (fun ht => ?_) (fun ht => ?_)
 ·replace h := cond_tt h ht
  refine sj <| sn ?_
  replace h := oi h
  refine RetE.plain ?_
  exact ai rfl (ai (congrArg (fun r : Bool => AV.bool r) h) rfl)
 ·replace h := cond_ff h ht
  refine sn <| sj <| ai id <| ai id <| ai (fun hg => (and_r hg)) <| sn <| sj <| ai id <| ai id <| ai id <| ai id <| ai id <| ai id <| ai id <| ai id <| ai id <| ai id <| ai id <| ai (fun hg => (and_r hg)) ?_
  refine SeqN.via (St.of [⟨2, AV.bool (bif (bif (a0.Fault == a0.Reader.Bad) then true else (a0.Fault == (4 : Int))) then (bif a0.Last then true else (bif (a0.Fault == (0 : Int)) then (!a0.Ends) else false)) else false), none⟩] [] []) ?_ ?_
  ·refine Gho.to _ _ _ [] ?_ ?_ ?_ rfl rfl ?_
   ·exact trivial
   ·exact rfl
   ·exact rfl
   ·exact ⟨rfl, rfl, trivial, trivial⟩
  replace h := oi h
  refine RetE.plain ?_
  exact ai rfl (ai (congrArg (fun r : Bool => AV.bool r) h) rfl)
theorem slices_Clip__api_Message_api_Message_ok (E : Pm.Env) [LaidM E] (a0 : (List S_Message)) (r : (List S_Message)) (h : slices_Clip__api_Message_api_Message a0 = some r) : FnR E Tryz.prog 85 [AV.list 7 (a0.map S_Message.av)] (AV.list 7 (r.map S_Message.av)) true := by
 refine FnR.of_ev (T := T) (rows := []) tOk mixed Tryz.func85 rfl (by kernel_rfl) (by kernel_rfl) rfl fun hwf => ?_
 unfold slices_Clip__api_Message_api_Message at h
 refine sj <| sn <| sj <| NormE.to (AV.int .i64 (a0.length : Int)) (fun _ => len_list S_Message.av a0) <| NormE.to (AV.int .i64 (a0.length : Int)) (fun _ => len_list S_Message.av a0) <| bind_elim h fun x1 hx1 h => ?_
 have qx1 := (slc_some hx1).1
 have hx1e := (slc_some hx1).2
 refine ai ⟨slc_cond S_Message.av qx1, rfl, rfl⟩ <| NormE.to (AV.list 7 (x1.map S_Message.av)) (fun _ => (slc_list 7 S_Message.av _ _ _).trans (congrArg (fun y => AV.list 7 (List.map S_Message.av y)) hx1e.symm)) <| sn ?_
 replace h := oi h
 exact RetE.own 2 1 rfl rfl rfl rfl (ai (congrArg (fun r : (List S_Message) => AV.list 7 (r.map S_Message.av)) h) rfl)
theorem client_Recv_1_ok (E : Pm.Env) [LaidM E] (o0 : S_Client) (c0 : Bytes) (r : (Int × Int)) (o0' : S_Client) (h : client_Recv_1 o0 c0 = some (r, o0')) : FnW E Tryz.prog 84 [AV.ptr 0 0, AV.iptr [AV.str c0]] [.cells 77 (S_Client.cells o0) []] [] (AV.tup [AV.int .i64 r.1, AV.int .i64 r.2]) none [.cells 77 (S_Client.cells o0') []] [] := by
 refine FnW.of_evB (T := T) (rows := []) tOk mixed Tryz.func84 rfl (by kernel_rfl) (by kernel_rfl) rfl rfl fun hwf => ?_
 unfold client_Recv_1 at h
 refine sj <| sn <| sj <| sj <| sn ?_
 refine Br.mk (fun ht => ?_) (fun ht => ?_)
 ·replace h := cond_tt h ht
  refine sj <| sn ?_
  replace h := oi h
  have h0 := (Prod.mk.inj h).1
  have h1 := (Prod.mk.inj h).2
  subst h0
  subst h1
  refine xi [⟨3, AV.int .i64 (0 : Int), none⟩, ⟨4, AV.int .i64 (0 : Int), none⟩] (ai (Gho.to _ _ _ [] ?_ ?_ ?_ rfl rfl ?_) (ai ?_ rfl))
  ·exact ⟨⟨rfl, rfl, rfl⟩, trivial⟩
  ·exact rfl
  ·exact rfl
  ·exact ⟨rfl, rfl, trivial, rfl, rfl, trivial, trivial⟩
  ·exact rfl
 ·replace h := cond_ff h ht
  refine sn <| sj <| ai ⟨lb rfl, lb rfl⟩ <| NormE.to (S_Reader.av o0.Reader) (fun _ => rfl) <| bind_elim h fun x1 hx1 h => CallH.data _ false rfl (wire_Feed_ok E o0.Reader c0 x1 hx1) <| ai rfl ?_
  refine ai ⟨rfl, rfl, rfl, lb rfl⟩ (xi (S_Reader.cells x1.1) (ai (fun _ => rfl) ?_))
  refine ai (by kernel_rfl) ?_
  refine SeqN.via (St.of [⟨0, AV.ptr 0 0, none⟩, ⟨5, AV.ptr 1 0, none⟩, ⟨6, AV.list 7 (x1.2.1.map S_Message.av), none⟩, ⟨7, AV.int .i64 x1.2.2, none⟩] [.cells 77 (S_Client.cells o0) [], .cells 52 (S_Reader.cells x1.1) []] []) ?_ ?_
  ·refine Gho.to _ _ _ [] ?_ ?_ ?_ rfl rfl ?_
   ·exact ⟨⟨rfl, rfl, rfl⟩, ⟨⟨rfl, rfl, rfl⟩, trivial⟩⟩
   ·exact rfl
   ·exact rfl
   ·exact ⟨rfl, rfl, trivial, rfl, rfl, trivial, rfl, rfl, trivial, rfl, rfl, trivial, trivial⟩
  refine sj <| NormE.to (AV.int .i64 (o0.Ready.length : Int)) (fun _ => len_list S_Message.av o0.Ready) <| sn <| sj <| ai ⟨lb rfl, lb rfl⟩ <| NormE.to (S_Reader.av x1.1) (fun _ => rfl) ?_
  refine ai ⟨rfl, rfl, rfl, lb rfl⟩ (xi [AV.bool x1.1.Asks, AV.str x1.1.Method, AV.str x1.1.Buf, AV.bool x1.1.In, AV.str x1.1.Head.Start.Method, AV.str x1.1.Head.Start.Target, AV.int .i64 x1.1.Head.Start.Code, AV.str x1.1.Head.Start.Reason, AV.int .i64 x1.1.Head.Start.Minor, AV.list 2 (x1.1.Head.Fields.map S_Field.av), AV.str x1.1.Head.Body, AV.int .i64 x1.1.Body.Kind, AV.int .i64 x1.1.Body.Size, AV.int .i64 x1.1.Chunk.Stage, AV.str x1.1.Chunk.Line, AV.int .i64 x1.1.Chunk.Left, AV.int .i64 x1.1.Chunk.Size, AV.int .i64 x1.1.Bad, AV.list 7 (o0.Ready.map S_Message.av), AV.bool o0.Last, AV.int .i64 o0.Fault, AV.str o0.Out.Bytes, AV.int .i64 o0.Out.Cap, AV.bool o0.Ends] (ai (fun _ => rfl) ?_))
  refine sn <| sj <| bind_elim h fun x2 hx2 h => CallH.data _ true rfl (slices_Clip__api_Message_api_Message_ok E o0.Ready x2 hx2) <| NormE.to (AV.int .i64 (x1.2.1.length : Int)) (fun _ => len_list S_Message.av x1.2.1) <| ai rfl <| bind_elim h fun x3 hx3 h => ?_
  have qx3 := (slc_some hx3).1
  have hx3e := (slc_some hx3).2
  refine ai ⟨(fun hg => slc_cond S_Message.av qx3), rfl⟩ <| NormE.to (AV.list 7 (x3.map S_Message.av)) (fun _ => (slc_list 7 S_Message.av _ _ _).trans (congrArg (fun y => AV.list 7 (List.map S_Message.av y)) hx3e.symm)) <| bind_elim h fun x4 hx4 h => ?_
  have qx4 := (app_some hx4).1
  have hx4e := (app_some hx4).2
  refine ai ⟨rfl, rfl, rfl⟩ <| ai rfl <| ai (app_cond S_Message.av qx4) <| NormE.to (AV.list 7 (x4.map S_Message.av)) (fun _ => (app_list 7 S_Message.av _ _).trans (congrArg (fun y => AV.list 7 (List.map S_Message.av y)) hx4e.symm)) ?_
  refine ai ⟨rfl, rfl, rfl, lb rfl⟩ (xi [AV.bool x1.1.Asks, AV.str x1.1.Method, AV.str x1.1.Buf, AV.bool x1.1.In, AV.str x1.1.Head.Start.Method, AV.str x1.1.Head.Start.Target, AV.int .i64 x1.1.Head.Start.Code, AV.str x1.1.Head.Start.Reason, AV.int .i64 x1.1.Head.Start.Minor, AV.list 2 (x1.1.Head.Fields.map S_Field.av), AV.str x1.1.Head.Body, AV.int .i64 x1.1.Body.Kind, AV.int .i64 x1.1.Body.Size, AV.int .i64 x1.1.Chunk.Stage, AV.str x1.1.Chunk.Line, AV.int .i64 x1.1.Chunk.Left, AV.int .i64 x1.1.Chunk.Size, AV.int .i64 x1.1.Bad, AV.list 7 (x4.map S_Message.av), AV.bool o0.Last, AV.int .i64 o0.Fault, AV.str o0.Out.Bytes, AV.int .i64 o0.Out.Cap, AV.bool o0.Ends] (ai (fun _ => rfl) ?_))
  refine ai (by kernel_rfl) ?_
  refine SeqN.via (St.of [⟨0, AV.ptr 0 0, none⟩, ⟨5, AV.ptr 1 0, none⟩, ⟨6, AV.list 7 (x1.2.1.map S_Message.av), none⟩, ⟨7, AV.int .i64 x1.2.2, none⟩, ⟨8, AV.int .i64 (IntKind.i64.wrap ((8 : Int) - (o0.Ready.length : Int))), none⟩] [.cells 77 [AV.bool x1.1.Asks, AV.str x1.1.Method, AV.str x1.1.Buf, AV.bool x1.1.In, AV.str x1.1.Head.Start.Method, AV.str x1.1.Head.Start.Target, AV.int .i64 x1.1.Head.Start.Code, AV.str x1.1.Head.Start.Reason, AV.int .i64 x1.1.Head.Start.Minor, AV.list 2 (x1.1.Head.Fields.map S_Field.av), AV.str x1.1.Head.Body, AV.int .i64 x1.1.Body.Kind, AV.int .i64 x1.1.Body.Size, AV.int .i64 x1.1.Chunk.Stage, AV.str x1.1.Chunk.Line, AV.int .i64 x1.1.Chunk.Left, AV.int .i64 x1.1.Chunk.Size, AV.int .i64 x1.1.Bad, AV.list 7 (x4.map S_Message.av), AV.bool o0.Last, AV.int .i64 o0.Fault, AV.str o0.Out.Bytes, AV.int .i64 o0.Out.Cap, AV.bool o0.Ends] [(18, 0)], .cells 52 (S_Reader.cells x1.1) []] [1]) ?_ ?_
  ·refine Gho.to _ _ _ [1] ?_ ?_ ?_ rfl rfl ?_
   ·exact ⟨⟨rfl, rfl, rfl⟩, ⟨⟨rfl, rfl, rfl⟩, trivial⟩⟩
   ·exact rfl
   ·exact rfl
   ·exact ⟨rfl, rfl, trivial, rfl, rfl, trivial, rfl, rfl, trivial, rfl, rfl, trivial, rfl, rfl, trivial, trivial⟩
  refine sj <| sj ?_
  refine ai ⟨rfl, rfl, rfl, lb rfl⟩ (xi [AV.bool x1.1.Asks, AV.str x1.1.Method, AV.str x1.1.Buf, AV.bool x1.1.In, AV.str x1.1.Head.Start.Method, AV.str x1.1.Head.Start.Target, AV.int .i64 x1.1.Head.Start.Code, AV.str x1.1.Head.Start.Reason, AV.int .i64 x1.1.Head.Start.Minor, AV.list 2 (x1.1.Head.Fields.map S_Field.av), AV.str x1.1.Head.Body, AV.int .i64 x1.1.Body.Kind, AV.int .i64 x1.1.Body.Size, AV.int .i64 x1.1.Chunk.Stage, AV.str x1.1.Chunk.Line, AV.int .i64 x1.1.Chunk.Left, AV.int .i64 x1.1.Chunk.Size, AV.int .i64 x1.1.Bad, AV.list 7 (x4.map S_Message.av), AV.bool o0.Last, AV.int .i64 x1.1.Bad, AV.str o0.Out.Bytes, AV.int .i64 o0.Out.Cap, AV.bool o0.Ends] (ai (fun _ => rfl) ?_))
  refine sn <| sj <| NormE.to (AV.int .i64 (x1.2.1.length : Int)) (fun _ => len_list S_Message.av x1.2.1) <| sn ?_
  refine Br.mk (fun ht => ?_) (fun ht => ?_)
  ·replace h := cond_tt h ht
   refine ai ⟨rfl, rfl, rfl, lb rfl⟩ (xi [AV.bool x1.1.Asks, AV.str x1.1.Method, AV.str x1.1.Buf, AV.bool x1.1.In, AV.str x1.1.Head.Start.Method, AV.str x1.1.Head.Start.Target, AV.int .i64 x1.1.Head.Start.Code, AV.str x1.1.Head.Start.Reason, AV.int .i64 x1.1.Head.Start.Minor, AV.list 2 (x1.1.Head.Fields.map S_Field.av), AV.str x1.1.Head.Body, AV.int .i64 x1.1.Body.Kind, AV.int .i64 x1.1.Body.Size, AV.int .i64 x1.1.Chunk.Stage, AV.str x1.1.Chunk.Line, AV.int .i64 x1.1.Chunk.Left, AV.int .i64 x1.1.Chunk.Size, AV.int .i64 x1.1.Bad, AV.list 7 (x4.map S_Message.av), AV.bool o0.Last, AV.int .i64 (4 : Int), AV.str o0.Out.Bytes, AV.int .i64 o0.Out.Cap, AV.bool o0.Ends] (ai (fun _ => rfl) ?_))
   refine sn <| sj ?_
   refine ai ⟨rfl, rfl, rfl, lb rfl⟩ (xi [AV.bool x1.1.Asks, AV.str x1.1.Method, AV.str x1.1.Buf, AV.bool x1.1.In, AV.str x1.1.Head.Start.Method, AV.str x1.1.Head.Start.Target, AV.int .i64 x1.1.Head.Start.Code, AV.str x1.1.Head.Start.Reason, AV.int .i64 x1.1.Head.Start.Minor, AV.list 2 (x1.1.Head.Fields.map S_Field.av), AV.str x1.1.Head.Body, AV.int .i64 x1.1.Body.Kind, AV.int .i64 x1.1.Body.Size, AV.int .i64 x1.1.Chunk.Stage, AV.str x1.1.Chunk.Line, AV.int .i64 x1.1.Chunk.Left, AV.int .i64 x1.1.Chunk.Size, AV.int .i64 x1.1.Bad, AV.list 7 (x4.map S_Message.av), AV.bool ((4 : Int) != (0 : Int)), AV.int .i64 (4 : Int), AV.str o0.Out.Bytes, AV.int .i64 o0.Out.Cap, AV.bool o0.Ends] (ai (fun _ => rfl) ?_))
   refine SeqN.via (St.of [⟨7, AV.int .i64 x1.2.2, none⟩] [.cells 77 [AV.bool x1.1.Asks, AV.str x1.1.Method, AV.str x1.1.Buf, AV.bool x1.1.In, AV.str x1.1.Head.Start.Method, AV.str x1.1.Head.Start.Target, AV.int .i64 x1.1.Head.Start.Code, AV.str x1.1.Head.Start.Reason, AV.int .i64 x1.1.Head.Start.Minor, AV.list 2 (x1.1.Head.Fields.map S_Field.av), AV.str x1.1.Head.Body, AV.int .i64 x1.1.Body.Kind, AV.int .i64 x1.1.Body.Size, AV.int .i64 x1.1.Chunk.Stage, AV.str x1.1.Chunk.Line, AV.int .i64 x1.1.Chunk.Left, AV.int .i64 x1.1.Chunk.Size, AV.int .i64 x1.1.Bad, AV.list 7 (x4.map S_Message.av), AV.bool ((4 : Int) != (0 : Int)), AV.int .i64 (4 : Int), AV.str o0.Out.Bytes, AV.int .i64 o0.Out.Cap, AV.bool o0.Ends] [(18, 0)]] [1]) ?_ ?_
   ·refine Gho.to _ _ _ [0] ?_ ?_ ?_ rfl rfl ?_
    ·exact ⟨⟨rfl, rfl, rfl⟩, trivial⟩
    ·exact rfl
    ·exact rfl
    ·exact ⟨rfl, rfl, trivial, trivial⟩
   refine sj <| sn ?_
   replace h := oi h
   have h0 := (Prod.mk.inj h).1
   have h1 := (Prod.mk.inj h).2
   subst h0
   subst h1
   refine xi [⟨3, AV.int .i64 (0 : Int), none⟩, ⟨4, AV.int .i64 x1.2.2, none⟩] (ai (Gho.to _ _ _ [] ?_ ?_ ?_ rfl rfl ?_) (ai ?_ rfl))
   ·exact ⟨⟨rfl, rfl, rfl⟩, trivial⟩
   ·exact rfl
   ·exact rfl
   ·exact ⟨rfl, rfl, trivial, rfl, rfl, trivial, trivial⟩
   ·exact rfl
  ·replace h := cond_ff h ht
   refine sn <| sj ?_
   refine ai ⟨rfl, rfl, rfl, lb rfl⟩ (xi [AV.bool x1.1.Asks, AV.str x1.1.Method, AV.str x1.1.Buf, AV.bool x1.1.In, AV.str x1.1.Head.Start.Method, AV.str x1.1.Head.Start.Target, AV.int .i64 x1.1.Head.Start.Code, AV.str x1.1.Head.Start.Reason, AV.int .i64 x1.1.Head.Start.Minor, AV.list 2 (x1.1.Head.Fields.map S_Field.av), AV.str x1.1.Head.Body, AV.int .i64 x1.1.Body.Kind, AV.int .i64 x1.1.Body.Size, AV.int .i64 x1.1.Chunk.Stage, AV.str x1.1.Chunk.Line, AV.int .i64 x1.1.Chunk.Left, AV.int .i64 x1.1.Chunk.Size, AV.int .i64 x1.1.Bad, AV.list 7 (x4.map S_Message.av), AV.bool (x1.1.Bad != (0 : Int)), AV.int .i64 x1.1.Bad, AV.str o0.Out.Bytes, AV.int .i64 o0.Out.Cap, AV.bool o0.Ends] (ai (fun _ => rfl) ?_))
   refine SeqN.via (St.of [⟨7, AV.int .i64 x1.2.2, none⟩] [.cells 77 [AV.bool x1.1.Asks, AV.str x1.1.Method, AV.str x1.1.Buf, AV.bool x1.1.In, AV.str x1.1.Head.Start.Method, AV.str x1.1.Head.Start.Target, AV.int .i64 x1.1.Head.Start.Code, AV.str x1.1.Head.Start.Reason, AV.int .i64 x1.1.Head.Start.Minor, AV.list 2 (x1.1.Head.Fields.map S_Field.av), AV.str x1.1.Head.Body, AV.int .i64 x1.1.Body.Kind, AV.int .i64 x1.1.Body.Size, AV.int .i64 x1.1.Chunk.Stage, AV.str x1.1.Chunk.Line, AV.int .i64 x1.1.Chunk.Left, AV.int .i64 x1.1.Chunk.Size, AV.int .i64 x1.1.Bad, AV.list 7 (x4.map S_Message.av), AV.bool (x1.1.Bad != (0 : Int)), AV.int .i64 x1.1.Bad, AV.str o0.Out.Bytes, AV.int .i64 o0.Out.Cap, AV.bool o0.Ends] [(18, 0)]] [1]) ?_ ?_
   ·refine Gho.to _ _ _ [0] ?_ ?_ ?_ rfl rfl ?_
    ·exact ⟨⟨rfl, rfl, rfl⟩, trivial⟩
    ·exact rfl
    ·exact rfl
    ·exact ⟨rfl, rfl, trivial, trivial⟩
   refine sj <| sn ?_
   replace h := oi h
   have h0 := (Prod.mk.inj h).1
   have h1 := (Prod.mk.inj h).2
   subst h0
   subst h1
   refine xi [⟨3, AV.int .i64 (0 : Int), none⟩, ⟨4, AV.int .i64 x1.2.2, none⟩] (ai (Gho.to _ _ _ [] ?_ ?_ ?_ rfl rfl ?_) (ai ?_ rfl))
   ·exact ⟨⟨rfl, rfl, rfl⟩, trivial⟩
   ·exact rfl
   ·exact rfl
   ·exact ⟨rfl, rfl, trivial, rfl, rfl, trivial, trivial⟩
   ·exact rfl
theorem client_call_int_client_Recv_1_ok (E : Pm.Env) [LaidM E] (a0 : S_Client) (a1k0 : Bytes) (r : (S_Client × Int × Int)) (h : client_call_int_client_Recv_1 a0 a1k0 = some r) : FnR E Tryz.prog 83 [S_Client.av a0, AV.fn 84 [] [AV.iptr [AV.str a1k0]]] (AV.tup [S_Client.av r.1, AV.int .i64 r.2.1, AV.int .i64 r.2.2]) false := by
 refine FnR.of_ev (T := T) (rows := []) tOk mixed Tryz.func83 rfl (by kernel_rfl) (by kernel_rfl) rfl fun hwf => ?_
 unfold client_call_int_client_Recv_1 at h
 refine sj <| ai rfl <| ai rfl <| sn <| sj <| sn <| sj <| sj <| ai ⟨lb rfl, lb rfl⟩ <| NormE.to (S_Client.av a0) (fun _ => rfl) <| bind_elim h fun x1 hx1 h => CallH.data _ false rfl (client_Right_ok E a0 x1 hx1) <| sn ?_
 refine Br.mk (fun ht => ?_) (fun ht => ?_)
 ·replace h := cond_tt h ht
  refine sj ?_
  refine xi (some 16777215) (ai (okM.mk (show (16777215 : Nat) = freeM T _ _ _ from by kernel_rfl)) ?_)
  refine ai ⟨rfl, rfl, rfl, lb rfl⟩ (xi [AV.bool false, AV.str ([] : Bytes), AV.str ([] : Bytes), AV.bool false, AV.str ([] : Bytes), AV.str ([] : Bytes), AV.int .i64 (0 : Int), AV.str ([] : Bytes), AV.int .i64 (0 : Int), AV.list 2 (([] : List S_Field).map S_Field.av), AV.str ([] : Bytes), AV.int .i64 (0 : Int), AV.int .i64 (0 : Int), AV.int .i64 (0 : Int), AV.str ([] : Bytes), AV.int .i64 (0 : Int), AV.int .i64 (0 : Int), AV.int .i64 (0 : Int), AV.list 7 (([] : List S_Message).map S_Message.av), AV.bool false, AV.int .i64 (0 : Int), AV.str ([] : Bytes), AV.int .i64 (0 : Int), AV.bool false] (ai (fun _ => rfl) ?_))
  refine sn ?_
  replace h := oi h
  refine RetE.plain ?_
  refine ai ⟨lb rfl, lb rfl⟩ (xi (AV.agg [AV.bool false, AV.str ([] : Bytes), AV.str ([] : Bytes), AV.bool false, AV.str ([] : Bytes), AV.str ([] : Bytes), AV.int .i64 (0 : Int), AV.str ([] : Bytes), AV.int .i64 (0 : Int), AV.list 2 (([] : List S_Field).map S_Field.av), AV.str ([] : Bytes), AV.int .i64 (0 : Int), AV.int .i64 (0 : Int), AV.int .i64 (0 : Int), AV.str ([] : Bytes), AV.int .i64 (0 : Int), AV.int .i64 (0 : Int), AV.int .i64 (0 : Int), AV.list 7 (([] : List S_Message).map S_Message.av), AV.bool false, AV.int .i64 (0 : Int), AV.str ([] : Bytes), AV.int .i64 (0 : Int), AV.bool false]) (ai rfl ?_))
  exact ai rfl (ai (congrArg (fun r : (S_Client × Int × Int) => AV.tup [S_Client.av r.1, AV.int .i64 r.2.1, AV.int .i64 r.2.2]) h) rfl)
 ·replace h := cond_ff h ht
  refine sn <| sj <| bind_elim h fun x2 hx2 h => CallH.ren [0] [] [.cells 77 (S_Client.cells x2.2) [], .cells 77 [AV.bool false, AV.str ([] : Bytes), AV.str ([] : Bytes), AV.bool false, AV.str ([] : Bytes), AV.str ([] : Bytes), AV.int .i64 (0 : Int), AV.str ([] : Bytes), AV.int .i64 (0 : Int), AV.list 2 (([] : List S_Field).map S_Field.av), AV.str ([] : Bytes), AV.int .i64 (0 : Int), AV.int .i64 (0 : Int), AV.int .i64 (0 : Int), AV.str ([] : Bytes), AV.int .i64 (0 : Int), AV.int .i64 (0 : Int), AV.int .i64 (0 : Int), AV.list 7 (([] : List S_Message).map S_Message.av), AV.bool false, AV.int .i64 (0 : Int), AV.str ([] : Bytes), AV.int .i64 (0 : Int), AV.bool false] [(9, 0), (18, 1)]] [2, 2] (client_Recv_1_ok E a0 a1k0 x2.1 x2.2 hx2) rfl rfl rfl rfl rfl rfl rfl rfl rfl <| sn <| sj <| sj ?_
  refine SeqN.via (St.of [⟨2, AV.ptr 0 0, none⟩, ⟨4, AV.ptr 1 0, none⟩, ⟨7, AV.int .i64 (0 : Int), none⟩, ⟨8, AV.int .i64 x2.1.1, none⟩, ⟨9, AV.int .i64 x2.1.2, none⟩, ⟨21, AV.bool (x2.1.2 != (0 : Int)), none⟩] [.cells 77 (S_Client.cells x2.2) [], .cells 77 [AV.bool false, AV.str ([] : Bytes), AV.str ([] : Bytes), AV.bool false, AV.str ([] : Bytes), AV.str ([] : Bytes), AV.int .i64 (0 : Int), AV.str ([] : Bytes), AV.int .i64 (0 : Int), AV.list 2 (([] : List S_Field).map S_Field.av), AV.str ([] : Bytes), AV.int .i64 (0 : Int), AV.int .i64 (0 : Int), AV.int .i64 (0 : Int), AV.str ([] : Bytes), AV.int .i64 (0 : Int), AV.int .i64 (0 : Int), AV.int .i64 (0 : Int), AV.list 7 (([] : List S_Message).map S_Message.av), AV.bool false, AV.int .i64 (0 : Int), AV.str ([] : Bytes), AV.int .i64 (0 : Int), AV.bool false] [(9, 0), (18, 1)]] [1, 1]) ?_ ?_
  ·refine Gho.to _ _ _ [0, 1] ?_ ?_ ?_ rfl rfl ?_
   ·exact ⟨⟨rfl, rfl, rfl⟩, ⟨⟨rfl, rfl, rfl⟩, trivial⟩⟩
   ·exact rfl
   ·exact rfl
   ·exact ⟨rfl, rfl, trivial, rfl, rfl, trivial, rfl, rfl, trivial, rfl, rfl, trivial, rfl, rfl, trivial, rfl, rfl, trivial, trivial⟩
  refine Br.mk (fun ht => ?_) (fun ht => ?_)
  ·replace h := cond_tt h ht
   refine sj ?_
   refine xi (some 16777215) (ai (okM.mk (show (16777215 : Nat) = freeM T _ _ _ from by kernel_rfl)) ?_)
   refine ai ⟨rfl, rfl, rfl, lb rfl⟩ (xi [AV.bool false, AV.str ([] : Bytes), AV.str ([] : Bytes), AV.bool false, AV.str ([] : Bytes), AV.str ([] : Bytes), AV.int .i64 (0 : Int), AV.str ([] : Bytes), AV.int .i64 (0 : Int), AV.list 2 (([] : List S_Field).map S_Field.av), AV.str ([] : Bytes), AV.int .i64 (0 : Int), AV.int .i64 (0 : Int), AV.int .i64 (0 : Int), AV.str ([] : Bytes), AV.int .i64 (0 : Int), AV.int .i64 (0 : Int), AV.int .i64 (0 : Int), AV.list 7 (([] : List S_Message).map S_Message.av), AV.bool false, AV.int .i64 (0 : Int), AV.str ([] : Bytes), AV.int .i64 (0 : Int), AV.bool false] (ai (fun _ => rfl) ?_))
   refine sn ?_
   replace h := oi h
   refine RetE.plain ?_
   refine ai ⟨lb rfl, lb rfl⟩ (xi (AV.agg [AV.bool false, AV.str ([] : Bytes), AV.str ([] : Bytes), AV.bool false, AV.str ([] : Bytes), AV.str ([] : Bytes), AV.int .i64 (0 : Int), AV.str ([] : Bytes), AV.int .i64 (0 : Int), AV.list 2 (([] : List S_Field).map S_Field.av), AV.str ([] : Bytes), AV.int .i64 (0 : Int), AV.int .i64 (0 : Int), AV.int .i64 (0 : Int), AV.str ([] : Bytes), AV.int .i64 (0 : Int), AV.int .i64 (0 : Int), AV.int .i64 (0 : Int), AV.list 7 (([] : List S_Message).map S_Message.av), AV.bool false, AV.int .i64 (0 : Int), AV.str ([] : Bytes), AV.int .i64 (0 : Int), AV.bool false]) (ai rfl ?_))
   exact ai rfl (ai (congrArg (fun r : (S_Client × Int × Int) => AV.tup [S_Client.av r.1, AV.int .i64 r.2.1, AV.int .i64 r.2.2]) h) rfl)
  ·replace h := cond_ff h ht
   refine sn <| sj <| ai ⟨lb rfl, lb rfl⟩ <| NormE.to (S_Client.av x2.2) (fun _ => rfl) ?_
   refine ai ⟨rfl, rfl, rfl, lb rfl⟩ (xi (S_Client.cells x2.2) (ai (fun _ => rfl) ?_))
   refine sn ?_
   replace h := oi h
   refine RetE.plain ?_
   refine ai ⟨lb rfl, lb rfl⟩ (xi (S_Client.av x2.2) (ai rfl ?_))
   exact ai rfl (ai (congrArg (fun r : (S_Client × Int × Int) => AV.tup [S_Client.av r.1, AV.int .i64 r.2.1, AV.int .i64 r.2.2]) h) rfl)
theorem client_Recv_ok (E : Pm.Env) [LaidM E] (a0 : S_Client) (a1 : Bytes) (r : (S_Client × Int)) (h : client_Recv a0 a1 = some r) : FnR E Tryz.prog 36 [S_Client.av a0, AV.str a1] (AV.tup [S_Client.av r.1, AV.int .i64 r.2]) false := by
 refine FnR.of_ev (T := T) (rows := []) tOk mixed Tryz.func36 rfl (by kernel_rfl) (by kernel_rfl) rfl fun hwf => ?_
 unfold client_Recv at h
 refine sj <| ai rfl <| ai rfl <| ai rfl ?_
 refine SeqN.via (St.of [⟨2, AV.ptr 0 0, none⟩, ⟨3, AV.iptr [AV.str a1], none⟩, ⟨4, AV.ptr 2 0, none⟩] [.cells 77 (S_Client.cells a0) [], .dead, .cells 77 [AV.bool false, AV.str ([] : Bytes), AV.str ([] : Bytes), AV.bool false, AV.str ([] : Bytes), AV.str ([] : Bytes), AV.int .i64 (0 : Int), AV.str ([] : Bytes), AV.int .i64 (0 : Int), AV.list 2 (([] : List S_Field).map S_Field.av), AV.str ([] : Bytes), AV.int .i64 (0 : Int), AV.int .i64 (0 : Int), AV.int .i64 (0 : Int), AV.str ([] : Bytes), AV.int .i64 (0 : Int), AV.int .i64 (0 : Int), AV.int .i64 (0 : Int), AV.list 7 (([] : List S_Message).map S_Message.av), AV.bool false, AV.int .i64 (0 : Int), AV.str ([] : Bytes), AV.int .i64 (0 : Int), AV.bool false] [(9, 0), (18, 1)]] [1, 1]) ?_ ?_
 ·refine Gho.trans (Gho.fz [1] [(3, AV.iptr [AV.str a1])] ⟨Frz.ptrD rfl rfl (lb rfl), trivial⟩) ?_
  refine Gho.to _ _ _ [0, 1] ?_ ?_ ?_ rfl rfl ?_
  ·exact ⟨⟨rfl, rfl, rfl⟩, ⟨trivial, ⟨⟨rfl, rfl, rfl⟩, trivial⟩⟩⟩
  ·exact rfl
  ·exact rfl
  ·exact ⟨rfl, rfl, trivial, rfl, rfl, trivial, rfl, rfl, trivial, trivial⟩
 refine sj <| ai ⟨lb rfl, lb rfl⟩ <| NormE.to (S_Client.av a0) (fun _ => rfl) <| bind_elim h fun x1 hx1 h => CallH.data _ false rfl (client_call_int_client_Recv_1_ok E a0 a1 x1 hx1) ?_
 refine ai ⟨rfl, rfl, rfl, lb rfl⟩ (xi (S_Client.cells x1.1) (ai (fun _ => rfl) ?_))
 refine sn <| sj <| ai ⟨lb rfl, lb rfl⟩ <| NormE.to (S_Client.av x1.1) (fun _ => rfl) ?_
 refine ai ⟨rfl, rfl, rfl, lb rfl⟩ (xi (S_Client.cells x1.1) (ai (fun _ => rfl) ?_))
 refine sn ?_
 replace h := oi h
 refine RetE.plain ?_
 refine ai ⟨lb rfl, lb rfl⟩ (xi (S_Client.av x1.1) (ai rfl ?_))
 exact ai rfl (ai (congrArg (fun r : (S_Client × Int) => AV.tup [S_Client.av r.1, AV.int .i64 r.2]) h) rfl)
theorem intarsialaw23_alive_ok (E : Pm.Env) [LaidM E] (r : Bool) (h : intarsialaw23_alive = some r) : FnR E Tryz.prog 38 [] (AV.bool r) false := by
 refine FnR.of_ev (T := T) (rows := []) tOk mixed Tryz.func38 rfl (by kernel_rfl) (by kernel_rfl) rfl fun hwf => ?_
 unfold intarsialaw23_alive at h
 refine sj <| sn <| sj <| bind_elim h fun x1 hx1 h => CallH.data _ false rfl (client_New_ok E  x1 hx1) <| bind_elim h fun x2 hx2 h => CallH.data _ false rfl (client_Recv_ok E x1 ([71, 69, 84, 32, 47, 32, 72, 84, 84, 80, 47, 49, 46, 49, 13, 10, 13, 10] : Bytes) x2 hx2) <| ai rfl ?_
 refine ai ⟨rfl, rfl, rfl, lb rfl⟩ (xi (S_Client.cells x2.1) (ai (fun _ => rfl) ?_))
 refine sn <| sj <| ai id <| ai id <| NormE.to (AV.int .i64 (x2.1.Ready.length : Int)) (fun _ => len_list S_Message.av x2.1.Ready) <| ai id <| ai (fun hg => (and_r hg)) <| ai id <| bind_elim h fun x3 hx3 h => ai id ?_
 refine ai rfl (xi (S_Message.av x3) (ai (fun hg => gidx_map _ hx3 hg) ?_))
 refine ai id <| ai id <| ai id <| ai id <| ai (fun hg => (and_r hg)) ?_
 refine SeqN.via (St.of [⟨0, AV.bool (bif (bif (x2.2 == (0 : Int)) then ((x2.1.Ready.length : Int) == (1 : Int)) else false) then (x3.Start.Target == ([47] : Bytes)) else false), none⟩] [] []) ?_ ?_
 ·refine Gho.to _ _ _ [] ?_ ?_ ?_ rfl rfl ?_
  ·exact trivial
  ·exact rfl
  ·exact rfl
  ·exact ⟨rfl, rfl, trivial, trivial⟩
 replace h := oi h
 refine RetE.plain ?_
 exact ai rfl (ai (congrArg (fun r : Bool => AV.bool r) h) rfl)
theorem intarsiaref23_Like_ok (E : Pm.Env) [LaidM E] (a0 : S_Client) (a1 : S_Client) (r : Bool) (h : intarsiaref23_Like a0 a1 = some r) : FnR E Tryz.prog 39 [S_Client.av a0, S_Client.av a1] (AV.bool r) false := by
 refine FnR.of_ev (T := T) (rows := []) tOk mixed Tryz.func39 rfl (by kernel_rfl) (by kernel_rfl) rfl fun hwf => ?_
 unfold intarsiaref23_Like at h
 refine sj <| ai rfl <| ai rfl <| sn <| sj <| ai ⟨lb rfl, lb rfl⟩ <| NormE.to (S_Reader.av a0.Reader) (fun _ => rfl) <| ai ⟨lb rfl, lb rfl⟩ <| NormE.to (S_Reader.av a1.Reader) (fun _ => rfl) <| bind_elim h fun x1 hx1 h => CallH.data _ false rfl (intarsiaref10_LikeReader_ok E a0.Reader a1.Reader x1 hx1) <| ai id <| ai id <| bind_elim h fun x2 hx2 h => ai id <| ai id <| ai rfl ?_
 refine CallF.mk _ false (fun hg => intarsiaref10_Same_ok E a0.Ready a1.Ready x2 (gcall_some hx2 hg)) (ai rfl ?_)
 refine ai (fun hg => (and_r hg)) <| ai id <| ai id <| ai id <| ai id <| ai rfl <| ai (fun hg => (and_r hg)) <| ai id <| ai id <| ai id <| ai id <| ai (fun hg => (and_r hg)) <| ai id <| ai ⟨lb rfl, lb rfl⟩ <| NormE.to (S_Queue.av a0.Out) (fun _ => rfl) <| ai id <| ai ⟨lb rfl, lb rfl⟩ <| NormE.to (S_Queue.av a1.Out) (fun _ => rfl) <| ai id <| ai id <| ai rfl <| ai (fun hg => (and_r hg)) <| ai id <| ai id <| ai id <| ai id <| ai rfl <| ai (fun hg => (and_r hg)) ?_
 refine SeqN.via (St.of [⟨4, AV.bool (bif (bif (bif (bif (bif x1 then x2 else false) then (a0.Last == a1.Last) else false) then (a0.Fault == a1.Fault) else false) then ((a0.Out.Bytes == a1.Out.Bytes) && ((a0.Out.Cap == a1.Out.Cap) && true)) else false) then (a0.Ends == a1.Ends) else false), none⟩] [] []) ?_ ?_
 ·refine Gho.to _ _ _ [] ?_ ?_ ?_ rfl rfl ?_
  ·exact trivial
  ·exact rfl
  ·exact rfl
  ·exact ⟨rfl, rfl, trivial, trivial⟩
 replace h := oi h
 refine RetE.plain ?_
 exact ai rfl (ai (congrArg (fun r : Bool => AV.bool r) h) rfl)
theorem client_End_1_ok (E : Pm.Env) [LaidM E] (o0 : S_Client) (r : (Int × Int)) (o0' : S_Client) (h : client_End_1 o0 = some (r, o0')) : FnW E Tryz.prog 92 [AV.ptr 0 0] [.cells 77 (S_Client.cells o0) []] [] (AV.tup [AV.int .i64 r.1, AV.int .i64 r.2]) none [.cells 77 (S_Client.cells o0') []] [] := by
 refine FnW.of_evB (T := T) (rows := []) tOk mixed Tryz.func92 rfl (by kernel_rfl) (by kernel_rfl) rfl rfl fun hwf => ?_
 unfold client_End_1 at h
 refine sj <| sn <| sj ?_
 refine ai ⟨rfl, rfl, rfl, lb rfl⟩ (xi [AV.bool o0.Reader.Asks, AV.str o0.Reader.Method, AV.str o0.Reader.Buf, AV.bool o0.Reader.In, AV.str o0.Reader.Head.Start.Method, AV.str o0.Reader.Head.Start.Target, AV.int .i64 o0.Reader.Head.Start.Code, AV.str o0.Reader.Head.Start.Reason, AV.int .i64 o0.Reader.Head.Start.Minor, AV.list 2 (o0.Reader.Head.Fields.map S_Field.av), AV.str o0.Reader.Head.Body, AV.int .i64 o0.Reader.Body.Kind, AV.int .i64 o0.Reader.Body.Size, AV.int .i64 o0.Reader.Chunk.Stage, AV.str o0.Reader.Chunk.Line, AV.int .i64 o0.Reader.Chunk.Left, AV.int .i64 o0.Reader.Chunk.Size, AV.int .i64 o0.Reader.Bad, AV.list 7 (o0.Ready.map S_Message.av), AV.bool o0.Last, AV.int .i64 o0.Fault, AV.str o0.Out.Bytes, AV.int .i64 o0.Out.Cap, AV.bool true] (ai (fun _ => rfl) ?_))
 refine ai ⟨rfl, rfl, rfl, lb rfl⟩ (xi [AV.bool o0.Reader.Asks, AV.str o0.Reader.Method, AV.str o0.Reader.Buf, AV.bool o0.Reader.In, AV.str o0.Reader.Head.Start.Method, AV.str o0.Reader.Head.Start.Target, AV.int .i64 o0.Reader.Head.Start.Code, AV.str o0.Reader.Head.Start.Reason, AV.int .i64 o0.Reader.Head.Start.Minor, AV.list 2 (o0.Reader.Head.Fields.map S_Field.av), AV.str o0.Reader.Head.Body, AV.int .i64 o0.Reader.Body.Kind, AV.int .i64 o0.Reader.Body.Size, AV.int .i64 o0.Reader.Chunk.Stage, AV.str o0.Reader.Chunk.Line, AV.int .i64 o0.Reader.Chunk.Left, AV.int .i64 o0.Reader.Chunk.Size, AV.int .i64 o0.Reader.Bad, AV.list 7 (o0.Ready.map S_Message.av), AV.bool true, AV.int .i64 o0.Fault, AV.str o0.Out.Bytes, AV.int .i64 o0.Out.Cap, AV.bool true] (ai (fun _ => rfl) ?_))
 refine sn <| sj <| sn ?_
 replace h := oi h
 have h0 := (Prod.mk.inj h).1
 have h1 := (Prod.mk.inj h).2
 subst h0
 subst h1
 refine xi [⟨2, AV.int .i64 (0 : Int), none⟩, ⟨3, AV.int .i64 (0 : Int), none⟩] (ai (Gho.to _ _ _ [] ?_ ?_ ?_ rfl rfl ?_) (ai ?_ rfl))
 ·exact ⟨⟨rfl, rfl, rfl⟩, trivial⟩
 ·exact rfl
 ·exact rfl
 ·exact ⟨rfl, rfl, trivial, rfl, rfl, trivial, trivial⟩
 ·exact rfl
theorem client_call_int_client_End_1_ok (E : Pm.Env) [LaidM E] (a0 : S_Client) (r : (S_Client × Int × Int)) (h : client_call_int_client_End_1 a0 = some r) : FnR E Tryz.prog 83 [S_Client.av a0, AV.fn 92 [] []] (AV.tup [S_Client.av r.1, AV.int .i64 r.2.1, AV.int .i64 r.2.2]) false := by
 refine FnR.of_ev (T := T) (rows := []) tOk mixed Tryz.func83 rfl (by kernel_rfl) (by kernel_rfl) rfl fun hwf => ?_
 unfold client_call_int_client_End_1 at h
 refine sj <| ai rfl <| ai rfl <| sn <| sj <| sn <| sj <| sj <| ai ⟨lb rfl, lb rfl⟩ <| NormE.to (S_Client.av a0) (fun _ => rfl) <| bind_elim h fun x1 hx1 h => CallH.data _ false rfl (client_Right_ok E a0 x1 hx1) <| sn ?_
 refine Br.mk (fun ht => ?_) (fun ht => ?_)
 ·replace h := cond_tt h ht
  refine sj ?_
  refine xi (some 16777215) (ai (okM.mk (show (16777215 : Nat) = freeM T _ _ _ from by kernel_rfl)) ?_)
  refine ai ⟨rfl, rfl, rfl, lb rfl⟩ (xi [AV.bool false, AV.str ([] : Bytes), AV.str ([] : Bytes), AV.bool false, AV.str ([] : Bytes), AV.str ([] : Bytes), AV.int .i64 (0 : Int), AV.str ([] : Bytes), AV.int .i64 (0 : Int), AV.list 2 (([] : List S_Field).map S_Field.av), AV.str ([] : Bytes), AV.int .i64 (0 : Int), AV.int .i64 (0 : Int), AV.int .i64 (0 : Int), AV.str ([] : Bytes), AV.int .i64 (0 : Int), AV.int .i64 (0 : Int), AV.int .i64 (0 : Int), AV.list 7 (([] : List S_Message).map S_Message.av), AV.bool false, AV.int .i64 (0 : Int), AV.str ([] : Bytes), AV.int .i64 (0 : Int), AV.bool false] (ai (fun _ => rfl) ?_))
  refine sn ?_
  replace h := oi h
  refine RetE.plain ?_
  refine ai ⟨lb rfl, lb rfl⟩ (xi (AV.agg [AV.bool false, AV.str ([] : Bytes), AV.str ([] : Bytes), AV.bool false, AV.str ([] : Bytes), AV.str ([] : Bytes), AV.int .i64 (0 : Int), AV.str ([] : Bytes), AV.int .i64 (0 : Int), AV.list 2 (([] : List S_Field).map S_Field.av), AV.str ([] : Bytes), AV.int .i64 (0 : Int), AV.int .i64 (0 : Int), AV.int .i64 (0 : Int), AV.str ([] : Bytes), AV.int .i64 (0 : Int), AV.int .i64 (0 : Int), AV.int .i64 (0 : Int), AV.list 7 (([] : List S_Message).map S_Message.av), AV.bool false, AV.int .i64 (0 : Int), AV.str ([] : Bytes), AV.int .i64 (0 : Int), AV.bool false]) (ai rfl ?_))
  exact ai rfl (ai (congrArg (fun r : (S_Client × Int × Int) => AV.tup [S_Client.av r.1, AV.int .i64 r.2.1, AV.int .i64 r.2.2]) h) rfl)
 ·replace h := cond_ff h ht
  refine sn <| sj <| bind_elim h fun x2 hx2 h => CallH.ren [0] [] [.cells 77 (S_Client.cells x2.2) [], .cells 77 [AV.bool false, AV.str ([] : Bytes), AV.str ([] : Bytes), AV.bool false, AV.str ([] : Bytes), AV.str ([] : Bytes), AV.int .i64 (0 : Int), AV.str ([] : Bytes), AV.int .i64 (0 : Int), AV.list 2 (([] : List S_Field).map S_Field.av), AV.str ([] : Bytes), AV.int .i64 (0 : Int), AV.int .i64 (0 : Int), AV.int .i64 (0 : Int), AV.str ([] : Bytes), AV.int .i64 (0 : Int), AV.int .i64 (0 : Int), AV.int .i64 (0 : Int), AV.list 7 (([] : List S_Message).map S_Message.av), AV.bool false, AV.int .i64 (0 : Int), AV.str ([] : Bytes), AV.int .i64 (0 : Int), AV.bool false] [(9, 0), (18, 1)]] [2, 2] (client_End_1_ok E a0 x2.1 x2.2 hx2) rfl rfl rfl rfl rfl rfl rfl rfl rfl <| sn <| sj <| sj ?_
  refine SeqN.via (St.of [⟨2, AV.ptr 0 0, none⟩, ⟨4, AV.ptr 1 0, none⟩, ⟨7, AV.int .i64 (0 : Int), none⟩, ⟨8, AV.int .i64 x2.1.1, none⟩, ⟨9, AV.int .i64 x2.1.2, none⟩, ⟨21, AV.bool (x2.1.2 != (0 : Int)), none⟩] [.cells 77 (S_Client.cells x2.2) [], .cells 77 [AV.bool false, AV.str ([] : Bytes), AV.str ([] : Bytes), AV.bool false, AV.str ([] : Bytes), AV.str ([] : Bytes), AV.int .i64 (0 : Int), AV.str ([] : Bytes), AV.int .i64 (0 : Int), AV.list 2 (([] : List S_Field).map S_Field.av), AV.str ([] : Bytes), AV.int .i64 (0 : Int), AV.int .i64 (0 : Int), AV.int .i64 (0 : Int), AV.str ([] : Bytes), AV.int .i64 (0 : Int), AV.int .i64 (0 : Int), AV.int .i64 (0 : Int), AV.list 7 (([] : List S_Message).map S_Message.av), AV.bool false, AV.int .i64 (0 : Int), AV.str ([] : Bytes), AV.int .i64 (0 : Int), AV.bool false] [(9, 0), (18, 1)]] [1, 1]) ?_ ?_
  ·refine Gho.to _ _ _ [0, 1] ?_ ?_ ?_ rfl rfl ?_
   ·exact ⟨⟨rfl, rfl, rfl⟩, ⟨⟨rfl, rfl, rfl⟩, trivial⟩⟩
   ·exact rfl
   ·exact rfl
   ·exact ⟨rfl, rfl, trivial, rfl, rfl, trivial, rfl, rfl, trivial, rfl, rfl, trivial, rfl, rfl, trivial, rfl, rfl, trivial, trivial⟩
  refine Br.mk (fun ht => ?_) (fun ht => ?_)
  ·replace h := cond_tt h ht
   refine sj ?_
   refine xi (some 16777215) (ai (okM.mk (show (16777215 : Nat) = freeM T _ _ _ from by kernel_rfl)) ?_)
   refine ai ⟨rfl, rfl, rfl, lb rfl⟩ (xi [AV.bool false, AV.str ([] : Bytes), AV.str ([] : Bytes), AV.bool false, AV.str ([] : Bytes), AV.str ([] : Bytes), AV.int .i64 (0 : Int), AV.str ([] : Bytes), AV.int .i64 (0 : Int), AV.list 2 (([] : List S_Field).map S_Field.av), AV.str ([] : Bytes), AV.int .i64 (0 : Int), AV.int .i64 (0 : Int), AV.int .i64 (0 : Int), AV.str ([] : Bytes), AV.int .i64 (0 : Int), AV.int .i64 (0 : Int), AV.int .i64 (0 : Int), AV.list 7 (([] : List S_Message).map S_Message.av), AV.bool false, AV.int .i64 (0 : Int), AV.str ([] : Bytes), AV.int .i64 (0 : Int), AV.bool false] (ai (fun _ => rfl) ?_))
   refine sn ?_
   replace h := oi h
   refine RetE.plain ?_
   refine ai ⟨lb rfl, lb rfl⟩ (xi (AV.agg [AV.bool false, AV.str ([] : Bytes), AV.str ([] : Bytes), AV.bool false, AV.str ([] : Bytes), AV.str ([] : Bytes), AV.int .i64 (0 : Int), AV.str ([] : Bytes), AV.int .i64 (0 : Int), AV.list 2 (([] : List S_Field).map S_Field.av), AV.str ([] : Bytes), AV.int .i64 (0 : Int), AV.int .i64 (0 : Int), AV.int .i64 (0 : Int), AV.str ([] : Bytes), AV.int .i64 (0 : Int), AV.int .i64 (0 : Int), AV.int .i64 (0 : Int), AV.list 7 (([] : List S_Message).map S_Message.av), AV.bool false, AV.int .i64 (0 : Int), AV.str ([] : Bytes), AV.int .i64 (0 : Int), AV.bool false]) (ai rfl ?_))
   exact ai rfl (ai (congrArg (fun r : (S_Client × Int × Int) => AV.tup [S_Client.av r.1, AV.int .i64 r.2.1, AV.int .i64 r.2.2]) h) rfl)
  ·replace h := cond_ff h ht
   refine sn <| sj <| ai ⟨lb rfl, lb rfl⟩ <| NormE.to (S_Client.av x2.2) (fun _ => rfl) ?_
   refine ai ⟨rfl, rfl, rfl, lb rfl⟩ (xi (S_Client.cells x2.2) (ai (fun _ => rfl) ?_))
   refine sn ?_
   replace h := oi h
   refine RetE.plain ?_
   refine ai ⟨lb rfl, lb rfl⟩ (xi (S_Client.av x2.2) (ai rfl ?_))
   exact ai rfl (ai (congrArg (fun r : (S_Client × Int × Int) => AV.tup [S_Client.av r.1, AV.int .i64 r.2.1, AV.int .i64 r.2.2]) h) rfl)
theorem client_End_ok (E : Pm.Env) [LaidM E] (a0 : S_Client) (r : (S_Client × Int)) (h : client_End a0 = some r) : FnR E Tryz.prog 42 [S_Client.av a0] (AV.tup [S_Client.av r.1, AV.int .i64 r.2]) false := by
 refine FnR.of_ev (T := T) (rows := []) tOk mixed Tryz.func42 rfl (by kernel_rfl) (by kernel_rfl) rfl fun hwf => ?_
 unfold client_End at h
 refine sj <| ai rfl <| ai rfl <| sn <| sj <| ai ⟨lb rfl, lb rfl⟩ <| NormE.to (S_Client.av a0) (fun _ => rfl) <| bind_elim h fun x1 hx1 h => CallH.data _ false rfl (client_call_int_client_End_1_ok E a0 x1 hx1) ?_
 refine ai ⟨rfl, rfl, rfl, lb rfl⟩ (xi (S_Client.cells x1.1) (ai (fun _ => rfl) ?_))
 refine sn <| sj <| ai ⟨lb rfl, lb rfl⟩ <| NormE.to (S_Client.av x1.1) (fun _ => rfl) ?_
 refine ai ⟨rfl, rfl, rfl, lb rfl⟩ (xi (S_Client.cells x1.1) (ai (fun _ => rfl) ?_))
 refine SeqN.via (St.of [⟨2, AV.ptr 1 0, none⟩, ⟨3, AV.int .i64 x1.2.2, none⟩] [.dead, .cells 77 (S_Client.cells x1.1) []] []) ?_ ?_
 ·refine Gho.to _ _ _ [] ?_ ?_ ?_ rfl rfl ?_
  ·exact ⟨trivial, ⟨⟨rfl, rfl, rfl⟩, trivial⟩⟩
  ·exact rfl
  ·exact rfl
  ·exact ⟨rfl, rfl, trivial, rfl, rfl, trivial, trivial⟩
 replace h := oi h
 refine RetE.plain ?_
 refine ai ⟨lb rfl, lb rfl⟩ (xi (S_Client.av x1.1) (ai rfl ?_))
 exact ai rfl (ai (congrArg (fun r : (S_Client × Int) => AV.tup [S_Client.av r.1, AV.int .i64 r.2]) h) rfl)
theorem queue_Room_ok (E : Pm.Env) [LaidM E] (a0 : S_Queue) (r : Int) (h : queue_Room a0 = some r) : FnR E Tryz.prog 141 [S_Queue.av a0] (AV.int .i64 r) false := by
 refine FnR.of_ev (T := T) (rows := []) tOk mixed Tryz.func141 rfl (by kernel_rfl) (by kernel_rfl) rfl fun hwf => ?_
 unfold queue_Room at h
 refine sj <| ai rfl <| sn <| sj <| sj <| ai ⟨lb rfl, lb rfl⟩ <| NormE.to (S_Queue.av a0) (fun _ => rfl) <| bind_elim h fun x1 hx1 h => CallH.data _ false rfl (queue_Right_ok E a0 x1 hx1) <| sn ?_
 refine Br.mk (fun ht => ?_) (fun ht => ?_)
 ·replace h := cond_tt h ht
  refine sj <| sn ?_
  replace h := oi h
  refine RetE.plain ?_
  exact ai rfl (ai (congrArg (fun r : Int => AV.int .i64 r) h) rfl)
 ·replace h := cond_ff h ht
  refine sn <| sj <| NormE.same <| sn ?_
  replace h := oi h
  refine RetE.plain ?_
  exact ai rfl (ai (congrArg (fun r : Int => AV.int .i64 r) h) rfl)
theorem queue_Put_ok (E : Pm.Env) [LaidM E] (a0 : S_Queue) (a1 : Bytes) (r : (S_Queue × Int × Int)) (h : queue_Put a0 a1 = some r) : FnR E Tryz.prog 88 [S_Queue.av a0, AV.str a1] (AV.tup [S_Queue.av r.1, AV.int .i64 r.2.1, AV.int .i64 r.2.2]) false := by
 refine FnR.of_ev (T := T) (rows := []) tOk mixed Tryz.func88 rfl (by kernel_rfl) (by kernel_rfl) rfl fun hwf => ?_
 unfold queue_Put at h
 refine sj <| ai rfl <| ai rfl <| sn <| sj <| sj <| ai ⟨lb rfl, lb rfl⟩ <| NormE.to (S_Queue.av a0) (fun _ => rfl) <| bind_elim h fun x1 hx1 h => CallH.data _ false rfl (queue_Right_ok E a0 x1 hx1) <| sn ?_
 refine Br.mk (fun ht => ?_) (fun ht => ?_)
 ·replace h := cond_tt h ht
  refine sj ?_
  refine xi none (ai trivial ?_)
  refine ai ⟨rfl, rfl, rfl, lb rfl⟩ (xi [AV.str ([] : Bytes), AV.int .i64 (0 : Int)] (ai (fun _ => rfl) ?_))
  refine sn ?_
  replace h := oi h
  refine RetE.plain ?_
  refine ai ⟨lb rfl, lb rfl⟩ (xi (AV.agg [AV.str ([] : Bytes), AV.int .i64 (0 : Int)]) (ai rfl ?_))
  exact ai rfl (ai (congrArg (fun r : (S_Queue × Int × Int) => AV.tup [S_Queue.av r.1, AV.int .i64 r.2.1, AV.int .i64 r.2.2]) h) rfl)
 ·replace h := cond_ff h ht
  refine sn <| sj <| NormE.same <| ai ⟨lb rfl, lb rfl⟩ <| NormE.to (S_Queue.av a0) (fun _ => rfl) <| bind_elim h fun x2 hx2 h => CallH.data _ false rfl (queue_Room_ok E a0 x2 hx2) <| ai rfl <| sn <| sj <| bind_elim h fun x3 hx3 h => ?_
  have qx3 := (slc_some hx3).1
  have hx3e := (slc_some hx3).2
  refine ai (fun _ => qx3) <| NormE.to (AV.str x3) (fun _ => congrArg AV.str hx3e.symm) <| bind_elim h fun x4 hx4 h => ?_
  have hx4c := (cat_some hx4).1
  have hx4e := (cat_some hx4).2
  refine ai (fun _ => hx4c) <| NormE.to (AV.str x4) (fun _ => congrArg AV.str hx4e.symm) ?_
  refine ai ⟨rfl, rfl, rfl, lb rfl⟩ (xi [AV.str x4, AV.int .i64 a0.Cap] (ai (fun _ => rfl) ?_))
  refine ai (by kernel_rfl) ?_
  refine SeqN.via (St.of [⟨2, AV.ptr 0 0, none⟩, ⟨4, AV.ptr 1 0, none⟩, ⟨7, AV.int .i64 (imin (a1.length : Int) x2), none⟩] [.cells 75 [AV.str x4, AV.int .i64 a0.Cap] [], .cells 75 [AV.str ([] : Bytes), AV.int .i64 (0 : Int)] []] []) ?_ ?_
  ·refine Gho.to _ _ _ [] ?_ ?_ ?_ rfl rfl ?_
   ·exact ⟨⟨rfl, rfl, rfl⟩, ⟨⟨rfl, rfl, rfl⟩, trivial⟩⟩
   ·exact rfl
   ·exact rfl
   ·exact ⟨rfl, rfl, trivial, rfl, rfl, trivial, rfl, rfl, trivial, trivial⟩
  refine sj <| ai ⟨lb rfl, lb rfl⟩ <| NormE.to (AV.agg [AV.str x4, AV.int .i64 a0.Cap]) (fun _ => rfl) ?_
  refine ai ⟨rfl, rfl, rfl, lb rfl⟩ (xi [AV.str x4, AV.int .i64 a0.Cap] (ai (fun _ => rfl) ?_))
  refine sn ?_
  replace h := oi h
  refine RetE.plain ?_
  refine ai ⟨lb rfl, lb rfl⟩ (xi (AV.agg [AV.str x4, AV.int .i64 a0.Cap]) (ai rfl ?_))
  exact ai rfl (ai (congrArg (fun r : (S_Queue × Int × Int) => AV.tup [S_Queue.av r.1, AV.int .i64 r.2.1, AV.int .i64 r.2.2]) h) rfl)
theorem client_Put_1_ok (E : Pm.Env) [LaidM E] (o0 : S_Client) (c0 : Bytes) (r : (Int × Int)) (o0' : S_Client) (h : client_Put_1 o0 c0 = some (r, o0')) : FnW E Tryz.prog 87 [AV.ptr 0 0, AV.iptr [AV.str c0]] [.cells 77 (S_Client.cells o0) []] [] (AV.tup [AV.int .i64 r.1, AV.int .i64 r.2]) none [.cells 77 (S_Client.cells o0') []] [] := by
 refine FnW.of_evB (T := T) (rows := []) tOk mixed Tryz.func87 rfl (by kernel_rfl) (by kernel_rfl) rfl rfl fun hwf => ?_
 unfold client_Put_1 at h
 refine sj <| sn <| sj <| sj <| sn ?_
 refine Br.mk (fun ht => ?_) (fun ht => ?_)
 ·replace h := cond_tt h ht
  refine sj <| sn ?_
  replace h := oi h
  have h0 := (Prod.mk.inj h).1
  have h1 := (Prod.mk.inj h).2
  subst h0
  subst h1
  refine xi [⟨3, AV.int .i64 (0 : Int), none⟩, ⟨4, AV.int .i64 (0 : Int), none⟩] (ai (Gho.to _ _ _ [] ?_ ?_ ?_ rfl rfl ?_) (ai ?_ rfl))
  ·exact ⟨⟨rfl, rfl, rfl⟩, trivial⟩
  ·exact rfl
  ·exact rfl
  ·exact ⟨rfl, rfl, trivial, rfl, rfl, trivial, trivial⟩
  ·exact rfl
 ·replace h := cond_ff h ht
  refine sn <| sj <| ai ⟨lb rfl, lb rfl⟩ <| NormE.to (S_Queue.av o0.Out) (fun _ => rfl) <| bind_elim h fun x1 hx1 h => CallH.data _ false rfl (queue_Put_ok E o0.Out c0 x1 hx1) <| ai rfl ?_
  refine ai ⟨rfl, rfl, rfl, lb rfl⟩ (xi (S_Queue.cells x1.1) (ai (fun _ => rfl) ?_))
  refine ai (by kernel_rfl) ?_
  refine SeqN.via (St.of [⟨0, AV.ptr 0 0, none⟩, ⟨5, AV.ptr 1 0, none⟩, ⟨6, AV.int .i64 x1.2.1, none⟩, ⟨7, AV.int .i64 x1.2.2, none⟩] [.cells 77 (S_Client.cells o0) [], .cells 75 (S_Queue.cells x1.1) []] []) ?_ ?_
  ·refine Gho.to _ _ _ [] ?_ ?_ ?_ rfl rfl ?_
   ·exact ⟨⟨rfl, rfl, rfl⟩, ⟨⟨rfl, rfl, rfl⟩, trivial⟩⟩
   ·exact rfl
   ·exact rfl
   ·exact ⟨rfl, rfl, trivial, rfl, rfl, trivial, rfl, rfl, trivial, rfl, rfl, trivial, trivial⟩
  refine sj <| ai ⟨lb rfl, lb rfl⟩ <| NormE.to (S_Queue.av x1.1) (fun _ => rfl) ?_
  refine ai ⟨rfl, rfl, rfl, lb rfl⟩ (xi [AV.bool o0.Reader.Asks, AV.str o0.Reader.Method, AV.str o0.Reader.Buf, AV.bool o0.Reader.In, AV.str o0.Reader.Head.Start.Method, AV.str o0.Reader.Head.Start.Target, AV.int .i64 o0.Reader.Head.Start.Code, AV.str o0.Reader.Head.Start.Reason, AV.int .i64 o0.Reader.Head.Start.Minor, AV.list 2 (o0.Reader.Head.Fields.map S_Field.av), AV.str o0.Reader.Head.Body, AV.int .i64 o0.Reader.Body.Kind, AV.int .i64 o0.Reader.Body.Size, AV.int .i64 o0.Reader.Chunk.Stage, AV.str o0.Reader.Chunk.Line, AV.int .i64 o0.Reader.Chunk.Left, AV.int .i64 o0.Reader.Chunk.Size, AV.int .i64 o0.Reader.Bad, AV.list 7 (o0.Ready.map S_Message.av), AV.bool o0.Last, AV.int .i64 o0.Fault, AV.str x1.1.Bytes, AV.int .i64 x1.1.Cap, AV.bool o0.Ends] (ai (fun _ => rfl) ?_))
  refine sn <| sj <| sn ?_
  replace h := oi h
  have h0 := (Prod.mk.inj h).1
  have h1 := (Prod.mk.inj h).2
  subst h0
  subst h1
  refine xi [⟨3, AV.int .i64 x1.2.1, none⟩, ⟨4, AV.int .i64 x1.2.2, none⟩] (ai (Gho.to _ _ _ [] ?_ ?_ ?_ rfl rfl ?_) (ai ?_ rfl))
  ·exact ⟨⟨rfl, rfl, rfl⟩, trivial⟩
  ·exact rfl
  ·exact rfl
  ·exact ⟨rfl, rfl, trivial, rfl, rfl, trivial, trivial⟩
  ·exact rfl
theorem client_call_int_client_Put_1_ok (E : Pm.Env) [LaidM E] (a0 : S_Client) (a1k0 : Bytes) (r : (S_Client × Int × Int)) (h : client_call_int_client_Put_1 a0 a1k0 = some r) : FnR E Tryz.prog 83 [S_Client.av a0, AV.fn 87 [] [AV.iptr [AV.str a1k0]]] (AV.tup [S_Client.av r.1, AV.int .i64 r.2.1, AV.int .i64 r.2.2]) false := by
 refine FnR.of_ev (T := T) (rows := []) tOk mixed Tryz.func83 rfl (by kernel_rfl) (by kernel_rfl) rfl fun hwf => ?_
 unfold client_call_int_client_Put_1 at h
 refine sj <| ai rfl <| ai rfl <| sn <| sj <| sn <| sj <| sj <| ai ⟨lb rfl, lb rfl⟩ <| NormE.to (S_Client.av a0) (fun _ => rfl) <| bind_elim h fun x1 hx1 h => CallH.data _ false rfl (client_Right_ok E a0 x1 hx1) <| sn ?_
 refine Br.mk (fun ht => ?_) (fun ht => ?_)
 ·replace h := cond_tt h ht
  refine sj ?_
  refine xi (some 16777215) (ai (okM.mk (show (16777215 : Nat) = freeM T _ _ _ from by kernel_rfl)) ?_)
  refine ai ⟨rfl, rfl, rfl, lb rfl⟩ (xi [AV.bool false, AV.str ([] : Bytes), AV.str ([] : Bytes), AV.bool false, AV.str ([] : Bytes), AV.str ([] : Bytes), AV.int .i64 (0 : Int), AV.str ([] : Bytes), AV.int .i64 (0 : Int), AV.list 2 (([] : List S_Field).map S_Field.av), AV.str ([] : Bytes), AV.int .i64 (0 : Int), AV.int .i64 (0 : Int), AV.int .i64 (0 : Int), AV.str ([] : Bytes), AV.int .i64 (0 : Int), AV.int .i64 (0 : Int), AV.int .i64 (0 : Int), AV.list 7 (([] : List S_Message).map S_Message.av), AV.bool false, AV.int .i64 (0 : Int), AV.str ([] : Bytes), AV.int .i64 (0 : Int), AV.bool false] (ai (fun _ => rfl) ?_))
  refine sn ?_
  replace h := oi h
  refine RetE.plain ?_
  refine ai ⟨lb rfl, lb rfl⟩ (xi (AV.agg [AV.bool false, AV.str ([] : Bytes), AV.str ([] : Bytes), AV.bool false, AV.str ([] : Bytes), AV.str ([] : Bytes), AV.int .i64 (0 : Int), AV.str ([] : Bytes), AV.int .i64 (0 : Int), AV.list 2 (([] : List S_Field).map S_Field.av), AV.str ([] : Bytes), AV.int .i64 (0 : Int), AV.int .i64 (0 : Int), AV.int .i64 (0 : Int), AV.str ([] : Bytes), AV.int .i64 (0 : Int), AV.int .i64 (0 : Int), AV.int .i64 (0 : Int), AV.list 7 (([] : List S_Message).map S_Message.av), AV.bool false, AV.int .i64 (0 : Int), AV.str ([] : Bytes), AV.int .i64 (0 : Int), AV.bool false]) (ai rfl ?_))
  exact ai rfl (ai (congrArg (fun r : (S_Client × Int × Int) => AV.tup [S_Client.av r.1, AV.int .i64 r.2.1, AV.int .i64 r.2.2]) h) rfl)
 ·replace h := cond_ff h ht
  refine sn <| sj <| bind_elim h fun x2 hx2 h => CallH.ren [0] [] [.cells 77 (S_Client.cells x2.2) [], .cells 77 [AV.bool false, AV.str ([] : Bytes), AV.str ([] : Bytes), AV.bool false, AV.str ([] : Bytes), AV.str ([] : Bytes), AV.int .i64 (0 : Int), AV.str ([] : Bytes), AV.int .i64 (0 : Int), AV.list 2 (([] : List S_Field).map S_Field.av), AV.str ([] : Bytes), AV.int .i64 (0 : Int), AV.int .i64 (0 : Int), AV.int .i64 (0 : Int), AV.str ([] : Bytes), AV.int .i64 (0 : Int), AV.int .i64 (0 : Int), AV.int .i64 (0 : Int), AV.list 7 (([] : List S_Message).map S_Message.av), AV.bool false, AV.int .i64 (0 : Int), AV.str ([] : Bytes), AV.int .i64 (0 : Int), AV.bool false] [(9, 0), (18, 1)]] [2, 2] (client_Put_1_ok E a0 a1k0 x2.1 x2.2 hx2) rfl rfl rfl rfl rfl rfl rfl rfl rfl <| sn <| sj <| sj ?_
  refine SeqN.via (St.of [⟨2, AV.ptr 0 0, none⟩, ⟨4, AV.ptr 1 0, none⟩, ⟨7, AV.int .i64 (0 : Int), none⟩, ⟨8, AV.int .i64 x2.1.1, none⟩, ⟨9, AV.int .i64 x2.1.2, none⟩, ⟨21, AV.bool (x2.1.2 != (0 : Int)), none⟩] [.cells 77 (S_Client.cells x2.2) [], .cells 77 [AV.bool false, AV.str ([] : Bytes), AV.str ([] : Bytes), AV.bool false, AV.str ([] : Bytes), AV.str ([] : Bytes), AV.int .i64 (0 : Int), AV.str ([] : Bytes), AV.int .i64 (0 : Int), AV.list 2 (([] : List S_Field).map S_Field.av), AV.str ([] : Bytes), AV.int .i64 (0 : Int), AV.int .i64 (0 : Int), AV.int .i64 (0 : Int), AV.str ([] : Bytes), AV.int .i64 (0 : Int), AV.int .i64 (0 : Int), AV.int .i64 (0 : Int), AV.list 7 (([] : List S_Message).map S_Message.av), AV.bool false, AV.int .i64 (0 : Int), AV.str ([] : Bytes), AV.int .i64 (0 : Int), AV.bool false] [(9, 0), (18, 1)]] [1, 1]) ?_ ?_
  ·refine Gho.to _ _ _ [0, 1] ?_ ?_ ?_ rfl rfl ?_
   ·exact ⟨⟨rfl, rfl, rfl⟩, ⟨⟨rfl, rfl, rfl⟩, trivial⟩⟩
   ·exact rfl
   ·exact rfl
   ·exact ⟨rfl, rfl, trivial, rfl, rfl, trivial, rfl, rfl, trivial, rfl, rfl, trivial, rfl, rfl, trivial, rfl, rfl, trivial, trivial⟩
  refine Br.mk (fun ht => ?_) (fun ht => ?_)
  ·replace h := cond_tt h ht
   refine sj ?_
   refine xi (some 16777215) (ai (okM.mk (show (16777215 : Nat) = freeM T _ _ _ from by kernel_rfl)) ?_)
   refine ai ⟨rfl, rfl, rfl, lb rfl⟩ (xi [AV.bool false, AV.str ([] : Bytes), AV.str ([] : Bytes), AV.bool false, AV.str ([] : Bytes), AV.str ([] : Bytes), AV.int .i64 (0 : Int), AV.str ([] : Bytes), AV.int .i64 (0 : Int), AV.list 2 (([] : List S_Field).map S_Field.av), AV.str ([] : Bytes), AV.int .i64 (0 : Int), AV.int .i64 (0 : Int), AV.int .i64 (0 : Int), AV.str ([] : Bytes), AV.int .i64 (0 : Int), AV.int .i64 (0 : Int), AV.int .i64 (0 : Int), AV.list 7 (([] : List S_Message).map S_Message.av), AV.bool false, AV.int .i64 (0 : Int), AV.str ([] : Bytes), AV.int .i64 (0 : Int), AV.bool false] (ai (fun _ => rfl) ?_))
   refine sn ?_
   replace h := oi h
   refine RetE.plain ?_
   refine ai ⟨lb rfl, lb rfl⟩ (xi (AV.agg [AV.bool false, AV.str ([] : Bytes), AV.str ([] : Bytes), AV.bool false, AV.str ([] : Bytes), AV.str ([] : Bytes), AV.int .i64 (0 : Int), AV.str ([] : Bytes), AV.int .i64 (0 : Int), AV.list 2 (([] : List S_Field).map S_Field.av), AV.str ([] : Bytes), AV.int .i64 (0 : Int), AV.int .i64 (0 : Int), AV.int .i64 (0 : Int), AV.str ([] : Bytes), AV.int .i64 (0 : Int), AV.int .i64 (0 : Int), AV.int .i64 (0 : Int), AV.list 7 (([] : List S_Message).map S_Message.av), AV.bool false, AV.int .i64 (0 : Int), AV.str ([] : Bytes), AV.int .i64 (0 : Int), AV.bool false]) (ai rfl ?_))
   exact ai rfl (ai (congrArg (fun r : (S_Client × Int × Int) => AV.tup [S_Client.av r.1, AV.int .i64 r.2.1, AV.int .i64 r.2.2]) h) rfl)
  ·replace h := cond_ff h ht
   refine sn <| sj <| ai ⟨lb rfl, lb rfl⟩ <| NormE.to (S_Client.av x2.2) (fun _ => rfl) ?_
   refine ai ⟨rfl, rfl, rfl, lb rfl⟩ (xi (S_Client.cells x2.2) (ai (fun _ => rfl) ?_))
   refine sn ?_
   replace h := oi h
   refine RetE.plain ?_
   refine ai ⟨lb rfl, lb rfl⟩ (xi (S_Client.av x2.2) (ai rfl ?_))
   exact ai rfl (ai (congrArg (fun r : (S_Client × Int × Int) => AV.tup [S_Client.av r.1, AV.int .i64 r.2.1, AV.int .i64 r.2.2]) h) rfl)
theorem client_Put_ok (E : Pm.Env) [LaidM E] (a0 : S_Client) (a1 : Bytes) (r : (S_Client × Int × Int)) (h : client_Put a0 a1 = some r) : FnR E Tryz.prog 40 [S_Client.av a0, AV.str a1] (AV.tup [S_Client.av r.1, AV.int .i64 r.2.1, AV.int .i64 r.2.2]) false := by
 refine FnR.of_ev (T := T) (rows := []) tOk mixed Tryz.func40 rfl (by kernel_rfl) (by kernel_rfl) rfl fun hwf => ?_
 unfold client_Put at h
 refine sj <| ai rfl <| ai rfl <| ai rfl ?_
 refine SeqN.via (St.of [⟨2, AV.ptr 0 0, none⟩, ⟨3, AV.iptr [AV.str a1], none⟩, ⟨4, AV.ptr 2 0, none⟩] [.cells 77 (S_Client.cells a0) [], .dead, .cells 77 [AV.bool false, AV.str ([] : Bytes), AV.str ([] : Bytes), AV.bool false, AV.str ([] : Bytes), AV.str ([] : Bytes), AV.int .i64 (0 : Int), AV.str ([] : Bytes), AV.int .i64 (0 : Int), AV.list 2 (([] : List S_Field).map S_Field.av), AV.str ([] : Bytes), AV.int .i64 (0 : Int), AV.int .i64 (0 : Int), AV.int .i64 (0 : Int), AV.str ([] : Bytes), AV.int .i64 (0 : Int), AV.int .i64 (0 : Int), AV.int .i64 (0 : Int), AV.list 7 (([] : List S_Message).map S_Message.av), AV.bool false, AV.int .i64 (0 : Int), AV.str ([] : Bytes), AV.int .i64 (0 : Int), AV.bool false] [(9, 0), (18, 1)]] [1, 1]) ?_ ?_
 ·refine Gho.trans (Gho.fz [1] [(3, AV.iptr [AV.str a1])] ⟨Frz.ptrD rfl rfl (lb rfl), trivial⟩) ?_
  refine Gho.to _ _ _ [0, 1] ?_ ?_ ?_ rfl rfl ?_
  ·exact ⟨⟨rfl, rfl, rfl⟩, ⟨trivial, ⟨⟨rfl, rfl, rfl⟩, trivial⟩⟩⟩
  ·exact rfl
  ·exact rfl
  ·exact ⟨rfl, rfl, trivial, rfl, rfl, trivial, rfl, rfl, trivial, trivial⟩
 refine sj <| ai ⟨lb rfl, lb rfl⟩ <| NormE.to (S_Client.av a0) (fun _ => rfl) <| bind_elim h fun x1 hx1 h => CallH.data _ false rfl (client_call_int_client_Put_1_ok E a0 a1 x1 hx1) ?_
 refine ai ⟨rfl, rfl, rfl, lb rfl⟩ (xi (S_Client.cells x1.1) (ai (fun _ => rfl) ?_))
 refine sn ?_
 replace h := oi h
 refine RetE.plain ?_
 refine ai ⟨lb rfl, lb rfl⟩ (xi (S_Client.av x1.1) (ai rfl ?_))
 exact ai rfl (ai (congrArg (fun r : (S_Client × Int × Int) => AV.tup [S_Client.av r.1, AV.int .i64 r.2.1, AV.int .i64 r.2.2]) h) rfl)
theorem client_Over_ok (E : Pm.Env) [LaidM E] (a0 : S_Client) (r : Bool) (h : client_Over a0 = some r) : FnR E Tryz.prog 43 [S_Client.av a0] (AV.bool r) false := by
 refine FnR.of_ev (T := T) (rows := []) tOk mixed Tryz.func43 rfl (by kernel_rfl) (by kernel_rfl) rfl fun hwf => ?_
 unfold client_Over at h
 refine sj <| ai rfl <| sn <| sj <| ai ⟨lb rfl, lb rfl⟩ <| NormE.to (S_Client.av a0) (fun _ => rfl) <| bind_elim h fun x1 hx1 h => CallH.data _ false rfl (client_Right_ok E a0 x1 hx1) <| ai id <| ai (fun hg => (and_r hg)) <| ai id <| ai id <| ai id <| ai (fun hg => (and_r hg)) <| sn ?_
 replace h := oi h
 refine RetE.plain ?_
 exact ai rfl (ai (congrArg (fun r : Bool => AV.bool r) h) rfl)
theorem queue_off_ok (E : Pm.Env) [LaidM E] (a0 : S_Queue) (a1 : FuncId) (a1c : List AV) (a1i : Bytes → Option Int) (a1h : ∀ (x0 : Bytes) (r : Int), a1i x0 = some r → FnR E Tryz.prog a1 ([AV.str x0] ++ a1c) (AV.int .i64 r) false) (a1p : a1c.all AV.puB = true) (r : (S_Queue × Bytes × Int)) (h : queue_off a0 a1i = some r) : FnR E Tryz.prog 142 [S_Queue.av a0, AV.fn a1 [] a1c] (AV.tup [S_Queue.av r.1, AV.str r.2.1, AV.int .i64 r.2.2]) false := by
 refine FnR.of_ev (T := T) (rows := []) tOk mixed Tryz.func142 rfl (by kernel_rfl) (by kernel_rfl) rfl fun hwf => ?_
 unfold queue_off at h
 refine sj <| ai rfl <| ai rfl <| sn <| sj <| sj <| ai ⟨lb rfl, lb rfl⟩ <| NormE.to (S_Queue.av a0) (fun _ => rfl) <| bind_elim h fun x1 hx1 h => CallH.data _ false rfl (queue_Right_ok E a0 x1 hx1) <| sn ?_
 refine Br.mk (fun ht => ?_) (fun ht => ?_)
 ·replace h := cond_tt h ht
  refine sj ?_
  refine xi none (ai trivial ?_)
  refine ai ⟨rfl, rfl, rfl, lb rfl⟩ (xi [AV.str ([] : Bytes), AV.int .i64 (0 : Int)] (ai (fun _ => rfl) ?_))
  refine sn ?_
  replace h := oi h
  refine RetE.plain ?_
  refine ai ⟨lb rfl, lb rfl⟩ (xi (AV.agg [AV.str ([] : Bytes), AV.int .i64 (0 : Int)]) (ai rfl ?_))
  exact ai rfl (ai (congrArg (fun r : (S_Queue × Bytes × Int) => AV.tup [S_Queue.av r.1, AV.str r.2.1, AV.int .i64 r.2.2]) h) rfl)
 ·replace h := cond_ff h ht
  refine sn <| sj <| bind_elim h fun x2 hx2 h => CallH.data _ false (puD_app rfl (puD_of a1p)) (a1h a0.Bytes x2 hx2) <| sn <| sj <| sj <| sn ?_
  refine Br.mk (fun ht => ?_) (fun ht => ?_)
  ·replace h := cond_tt h ht
   refine sj <| ai ⟨lb rfl, lb rfl⟩ <| NormE.to (S_Queue.av a0) (fun _ => rfl) ?_
   refine ai ⟨rfl, rfl, rfl, lb rfl⟩ (xi (S_Queue.cells a0) (ai (fun _ => rfl) ?_))
   refine SeqN.via (St.of [⟨4, AV.ptr 1 0, none⟩, ⟨5, AV.str ([] : Bytes), none⟩, ⟨6, AV.int .i64 (3 : Int), none⟩] [.dead, .cells 75 (S_Queue.cells a0) []] []) ?_ ?_
   ·refine Gho.to _ _ _ [] ?_ ?_ ?_ rfl rfl ?_
    ·exact ⟨trivial, ⟨⟨rfl, rfl, rfl⟩, trivial⟩⟩
    ·exact rfl
    ·exact rfl
    ·exact ⟨rfl, rfl, trivial, rfl, rfl, trivial, rfl, rfl, trivial, trivial⟩
   replace h := oi h
   refine RetE.plain ?_
   refine ai ⟨lb rfl, lb rfl⟩ (xi (S_Queue.av a0) (ai rfl ?_))
   exact ai rfl (ai (congrArg (fun r : (S_Queue × Bytes × Int) => AV.tup [S_Queue.av r.1, AV.str r.2.1, AV.int .i64 r.2.2]) h) rfl)
  ·replace h := cond_ff h ht
   refine sn <| sj <| bind_elim h fun x3 hx3 h => ?_
   have qx3 := (slc_some hx3).1
   have hx3e := (slc_some hx3).2
   refine ai (fun _ => qx3) <| NormE.to (AV.str x3) (fun _ => congrArg AV.str hx3e.symm) <| ai ⟨rfl, rfl, lb rfl⟩ <| ai ⟨rfl, rfl, lb rfl⟩ ?_
   refine xi none (ai trivial ?_)
   refine bind_elim h fun x4 hx4 h => ?_
   have qx4 := (slc_some hx4).1
   have hx4e := (slc_some hx4).2
   refine ai (fun _ => qx4) <| NormE.to (AV.str x4) (fun _ => congrArg AV.str hx4e.symm) ?_
   refine ai ⟨rfl, rfl, rfl, lb rfl⟩ (xi [AV.str x3, AV.int .i64 a0.Cap] (ai (fun _ => rfl) ?_))
   refine ai (by kernel_rfl) ?_
   refine SeqN.via (St.of [⟨4, AV.ptr 1 0, none⟩, ⟨5, AV.str x4, none⟩, ⟨6, AV.int .i64 (0 : Int), none⟩] [.dead, .cells 75 [AV.str x3, AV.int .i64 a0.Cap] []] []) ?_ ?_
   ·refine Gho.to _ _ _ [] ?_ ?_ ?_ rfl rfl ?_
    ·exact ⟨trivial, ⟨⟨rfl, rfl, rfl⟩, trivial⟩⟩
    ·exact rfl
    ·exact rfl
    ·exact ⟨rfl, rfl, trivial, rfl, rfl, trivial, rfl, rfl, trivial, trivial⟩
   replace h := oi h
   refine RetE.plain ?_
   refine ai ⟨lb rfl, lb rfl⟩ (xi (AV.agg [AV.str x3, AV.int .i64 a0.Cap]) (ai rfl ?_))
   exact ai rfl (ai (congrArg (fun r : (S_Queue × Bytes × Int) => AV.tup [S_Queue.av r.1, AV.str r.2.1, AV.int .i64 r.2.2]) h) rfl)
theorem queue_Take_1_ok (E : Pm.Env) [LaidM E] (a0 : Bytes) (c0 : Int) (r : Int) (h : queue_Take_1 a0 c0 = some r) : FnR E Tryz.prog 143 [AV.str a0, AV.iptr [AV.int .i64 c0]] (AV.int .i64 r) false := by
 refine FnR.of_ev (T := T) (rows := []) tOk mixed Tryz.func143 rfl (by kernel_rfl) (by kernel_rfl) rfl fun hwf => ?_
 unfold queue_Take_1 at h
 refine sj <| sn <| sj <| NormE.same <| ai rfl <| sn ?_
 replace h := oi h
 refine RetE.plain ?_
 exact ai rfl (ai (congrArg (fun r : Int => AV.int .i64 r) h) rfl)
theorem queue_Take_ok (E : Pm.Env) [LaidM E] (a0 : S_Queue) (a1 : Int) (r : (S_Queue × Bytes × Int)) (h : queue_Take a0 a1 = some r) : FnR E Tryz.prog 91 [S_Queue.av a0, AV.int .i64 a1] (AV.tup [S_Queue.av r.1, AV.str r.2.1, AV.int .i64 r.2.2]) false := by
 refine FnR.of_ev (T := T) (rows := []) tOk mixed Tryz.func91 rfl (by kernel_rfl) (by kernel_rfl) rfl fun hwf => ?_
 unfold queue_Take at h
 refine sj <| ai rfl <| ai rfl <| ai rfl <| sn <| sj <| sj <| sn ?_
 refine Br.mk (fun ht => ?_) (fun ht => ?_)
 ·replace h := cond_tt h ht
  refine sj ?_
  refine xi none (ai trivial ?_)
  refine ai ⟨rfl, rfl, rfl, lb rfl⟩ (xi [AV.str ([] : Bytes), AV.int .i64 (0 : Int)] (ai (fun _ => rfl) ?_))
  refine sn ?_
  replace h := oi h
  refine RetE.plain ?_
  refine ai ⟨lb rfl, lb rfl⟩ (xi (AV.agg [AV.str ([] : Bytes), AV.int .i64 (0 : Int)]) (ai rfl ?_))
  exact ai rfl (ai (congrArg (fun r : (S_Queue × Bytes × Int) => AV.tup [S_Queue.av r.1, AV.str r.2.1, AV.int .i64 r.2.2]) h) rfl)
 ·replace h := cond_ff h ht
  refine SeqN.via (St.of [⟨2, AV.ptr 0 0, none⟩, ⟨3, AV.iptr [AV.int .i64 a1], none⟩, ⟨4, AV.ptr 2 0, none⟩] [.cells 75 (S_Queue.cells a0) [], .dead, .cells 75 [AV.str ([] : Bytes), AV.int .i64 (0 : Int)] []] []) ?_ ?_
  ·refine Gho.trans (Gho.fz [1] [(3, AV.iptr [AV.int .i64 a1])] ⟨Frz.ptrD rfl rfl (lb rfl), trivial⟩) ?_
   refine Gho.to _ _ _ [] ?_ ?_ ?_ rfl rfl ?_
   ·exact ⟨⟨rfl, rfl, rfl⟩, ⟨trivial, ⟨⟨rfl, rfl, rfl⟩, trivial⟩⟩⟩
   ·exact rfl
   ·exact rfl
   ·exact ⟨rfl, rfl, trivial, rfl, rfl, trivial, rfl, rfl, trivial, trivial⟩
  refine sj <| ai ⟨lb rfl, lb rfl⟩ <| NormE.to (S_Queue.av a0) (fun _ => rfl) <| bind_elim h fun x1 hx1 h => CallH.data _ false rfl (queue_off_ok E a0 143 [AV.iptr [AV.int .i64 a1]] (fun x0 => queue_Take_1 x0 a1) (fun x0 r h => queue_Take_1_ok E x0 a1 r h) rfl x1 hx1) ?_
  refine ai ⟨rfl, rfl, rfl, lb rfl⟩ (xi (S_Queue.cells x1.1) (ai (fun _ => rfl) ?_))
  refine sn ?_
  replace h := oi h
  refine RetE.plain ?_
  refine ai ⟨lb rfl, lb rfl⟩ (xi (S_Queue.av x1.1) (ai rfl ?_))
  exact ai rfl (ai (congrArg (fun r : (S_Queue × Bytes × Int) => AV.tup [S_Queue.av r.1, AV.str r.2.1, AV.int .i64 r.2.2]) h) rfl)
theorem client_Write_1_ok (E : Pm.Env) [LaidM E] (o0 : S_Client) (c0 : Int) (r : (Bytes × Int)) (o0' : S_Client) (h : client_Write_1 o0 c0 = some (r, o0')) : FnW E Tryz.prog 90 [AV.ptr 0 0, AV.iptr [AV.int .i64 c0]] [.cells 77 (S_Client.cells o0) []] [] (AV.tup [AV.str r.1, AV.int .i64 r.2]) none [.cells 77 (S_Client.cells o0') []] [] := by
 refine FnW.of_evB (T := T) (rows := []) tOk mixed Tryz.func90 rfl (by kernel_rfl) (by kernel_rfl) rfl rfl fun hwf => ?_
 unfold client_Write_1 at h
 refine sj <| sn <| sj <| ai ⟨lb rfl, lb rfl⟩ <| NormE.to (S_Queue.av o0.Out) (fun _ => rfl) <| bind_elim h fun x1 hx1 h => CallH.data _ false rfl (queue_Take_ok E o0.Out c0 x1 hx1) <| ai rfl ?_
 refine ai ⟨rfl, rfl, rfl, lb rfl⟩ (xi (S_Queue.cells x1.1) (ai (fun _ => rfl) ?_))
 refine ai (by kernel_rfl) ?_
 refine SeqN.via (St.of [⟨0, AV.ptr 0 0, none⟩, ⟨5, AV.ptr 1 0, none⟩, ⟨6, AV.str x1.2.1, none⟩, ⟨7, AV.int .i64 x1.2.2, none⟩] [.cells 77 (S_Client.cells o0) [], .cells 75 (S_Queue.cells x1.1) []] []) ?_ ?_
 ·refine Gho.to _ _ _ [] ?_ ?_ ?_ rfl rfl ?_
  ·exact ⟨⟨rfl, rfl, rfl⟩, ⟨⟨rfl, rfl, rfl⟩, trivial⟩⟩
  ·exact rfl
  ·exact rfl
  ·exact ⟨rfl, rfl, trivial, rfl, rfl, trivial, rfl, rfl, trivial, rfl, rfl, trivial, trivial⟩
 refine sj <| ai ⟨lb rfl, lb rfl⟩ <| NormE.to (S_Queue.av x1.1) (fun _ => rfl) ?_
 refine ai ⟨rfl, rfl, rfl, lb rfl⟩ (xi [AV.bool o0.Reader.Asks, AV.str o0.Reader.Method, AV.str o0.Reader.Buf, AV.bool o0.Reader.In, AV.str o0.Reader.Head.Start.Method, AV.str o0.Reader.Head.Start.Target, AV.int .i64 o0.Reader.Head.Start.Code, AV.str o0.Reader.Head.Start.Reason, AV.int .i64 o0.Reader.Head.Start.Minor, AV.list 2 (o0.Reader.Head.Fields.map S_Field.av), AV.str o0.Reader.Head.Body, AV.int .i64 o0.Reader.Body.Kind, AV.int .i64 o0.Reader.Body.Size, AV.int .i64 o0.Reader.Chunk.Stage, AV.str o0.Reader.Chunk.Line, AV.int .i64 o0.Reader.Chunk.Left, AV.int .i64 o0.Reader.Chunk.Size, AV.int .i64 o0.Reader.Bad, AV.list 7 (o0.Ready.map S_Message.av), AV.bool o0.Last, AV.int .i64 o0.Fault, AV.str x1.1.Bytes, AV.int .i64 x1.1.Cap, AV.bool o0.Ends] (ai (fun _ => rfl) ?_))
 refine sn <| sj <| sn ?_
 replace h := oi h
 have h0 := (Prod.mk.inj h).1
 have h1 := (Prod.mk.inj h).2
 subst h0
 subst h1
 refine xi [⟨3, AV.str x1.2.1, none⟩, ⟨4, AV.int .i64 x1.2.2, none⟩] (ai (Gho.to _ _ _ [] ?_ ?_ ?_ rfl rfl ?_) (ai ?_ rfl))
 ·exact ⟨⟨rfl, rfl, rfl⟩, trivial⟩
 ·exact rfl
 ·exact rfl
 ·exact ⟨rfl, rfl, trivial, rfl, rfl, trivial, trivial⟩
 ·exact rfl
theorem client_call_string_client_Write_1_ok (E : Pm.Env) [LaidM E] (a0 : S_Client) (a1k0 : Int) (r : (S_Client × Bytes × Int)) (h : client_call_string_client_Write_1 a0 a1k0 = some r) : FnR E Tryz.prog 89 [S_Client.av a0, AV.fn 90 [] [AV.iptr [AV.int .i64 a1k0]]] (AV.tup [S_Client.av r.1, AV.str r.2.1, AV.int .i64 r.2.2]) false := by
 refine FnR.of_ev (T := T) (rows := []) tOk mixed Tryz.func89 rfl (by kernel_rfl) (by kernel_rfl) rfl fun hwf => ?_
 unfold client_call_string_client_Write_1 at h
 refine sj <| ai rfl <| ai rfl <| sn <| sj <| sn <| sj <| sj <| ai ⟨lb rfl, lb rfl⟩ <| NormE.to (S_Client.av a0) (fun _ => rfl) <| bind_elim h fun x1 hx1 h => CallH.data _ false rfl (client_Right_ok E a0 x1 hx1) <| sn ?_
 refine Br.mk (fun ht => ?_) (fun ht => ?_)
 ·replace h := cond_tt h ht
  refine sj ?_
  refine xi (some 16777215) (ai (okM.mk (show (16777215 : Nat) = freeM T _ _ _ from by kernel_rfl)) ?_)
  refine ai ⟨rfl, rfl, rfl, lb rfl⟩ (xi [AV.bool false, AV.str ([] : Bytes), AV.str ([] : Bytes), AV.bool false, AV.str ([] : Bytes), AV.str ([] : Bytes), AV.int .i64 (0 : Int), AV.str ([] : Bytes), AV.int .i64 (0 : Int), AV.list 2 (([] : List S_Field).map S_Field.av), AV.str ([] : Bytes), AV.int .i64 (0 : Int), AV.int .i64 (0 : Int), AV.int .i64 (0 : Int), AV.str ([] : Bytes), AV.int .i64 (0 : Int), AV.int .i64 (0 : Int), AV.int .i64 (0 : Int), AV.list 7 (([] : List S_Message).map S_Message.av), AV.bool false, AV.int .i64 (0 : Int), AV.str ([] : Bytes), AV.int .i64 (0 : Int), AV.bool false] (ai (fun _ => rfl) ?_))
  refine sn ?_
  replace h := oi h
  refine RetE.plain ?_
  refine ai ⟨lb rfl, lb rfl⟩ (xi (AV.agg [AV.bool false, AV.str ([] : Bytes), AV.str ([] : Bytes), AV.bool false, AV.str ([] : Bytes), AV.str ([] : Bytes), AV.int .i64 (0 : Int), AV.str ([] : Bytes), AV.int .i64 (0 : Int), AV.list 2 (([] : List S_Field).map S_Field.av), AV.str ([] : Bytes), AV.int .i64 (0 : Int), AV.int .i64 (0 : Int), AV.int .i64 (0 : Int), AV.str ([] : Bytes), AV.int .i64 (0 : Int), AV.int .i64 (0 : Int), AV.int .i64 (0 : Int), AV.list 7 (([] : List S_Message).map S_Message.av), AV.bool false, AV.int .i64 (0 : Int), AV.str ([] : Bytes), AV.int .i64 (0 : Int), AV.bool false]) (ai rfl ?_))
  exact ai rfl (ai (congrArg (fun r : (S_Client × Bytes × Int) => AV.tup [S_Client.av r.1, AV.str r.2.1, AV.int .i64 r.2.2]) h) rfl)
 ·replace h := cond_ff h ht
  refine sn <| sj <| bind_elim h fun x2 hx2 h => CallH.ren [0] [] [.cells 77 (S_Client.cells x2.2) [], .cells 77 [AV.bool false, AV.str ([] : Bytes), AV.str ([] : Bytes), AV.bool false, AV.str ([] : Bytes), AV.str ([] : Bytes), AV.int .i64 (0 : Int), AV.str ([] : Bytes), AV.int .i64 (0 : Int), AV.list 2 (([] : List S_Field).map S_Field.av), AV.str ([] : Bytes), AV.int .i64 (0 : Int), AV.int .i64 (0 : Int), AV.int .i64 (0 : Int), AV.str ([] : Bytes), AV.int .i64 (0 : Int), AV.int .i64 (0 : Int), AV.int .i64 (0 : Int), AV.list 7 (([] : List S_Message).map S_Message.av), AV.bool false, AV.int .i64 (0 : Int), AV.str ([] : Bytes), AV.int .i64 (0 : Int), AV.bool false] [(9, 0), (18, 1)]] [2, 2] (client_Write_1_ok E a0 a1k0 x2.1 x2.2 hx2) rfl rfl rfl rfl rfl rfl rfl rfl rfl <| sn <| sj <| sj ?_
  refine SeqN.via (St.of [⟨2, AV.ptr 0 0, none⟩, ⟨4, AV.ptr 1 0, none⟩, ⟨7, AV.str ([] : Bytes), none⟩, ⟨8, AV.str x2.1.1, none⟩, ⟨9, AV.int .i64 x2.1.2, none⟩, ⟨21, AV.bool (x2.1.2 != (0 : Int)), none⟩] [.cells 77 (S_Client.cells x2.2) [], .cells 77 [AV.bool false, AV.str ([] : Bytes), AV.str ([] : Bytes), AV.bool false, AV.str ([] : Bytes), AV.str ([] : Bytes), AV.int .i64 (0 : Int), AV.str ([] : Bytes), AV.int .i64 (0 : Int), AV.list 2 (([] : List S_Field).map S_Field.av), AV.str ([] : Bytes), AV.int .i64 (0 : Int), AV.int .i64 (0 : Int), AV.int .i64 (0 : Int), AV.str ([] : Bytes), AV.int .i64 (0 : Int), AV.int .i64 (0 : Int), AV.int .i64 (0 : Int), AV.list 7 (([] : List S_Message).map S_Message.av), AV.bool false, AV.int .i64 (0 : Int), AV.str ([] : Bytes), AV.int .i64 (0 : Int), AV.bool false] [(9, 0), (18, 1)]] [1, 1]) ?_ ?_
  ·refine Gho.to _ _ _ [0, 1] ?_ ?_ ?_ rfl rfl ?_
   ·exact ⟨⟨rfl, rfl, rfl⟩, ⟨⟨rfl, rfl, rfl⟩, trivial⟩⟩
   ·exact rfl
   ·exact rfl
   ·exact ⟨rfl, rfl, trivial, rfl, rfl, trivial, rfl, rfl, trivial, rfl, rfl, trivial, rfl, rfl, trivial, rfl, rfl, trivial, trivial⟩
  refine Br.mk (fun ht => ?_) (fun ht => ?_)
  ·replace h := cond_tt h ht
   refine sj ?_
   refine xi (some 16777215) (ai (okM.mk (show (16777215 : Nat) = freeM T _ _ _ from by kernel_rfl)) ?_)
   refine ai ⟨rfl, rfl, rfl, lb rfl⟩ (xi [AV.bool false, AV.str ([] : Bytes), AV.str ([] : Bytes), AV.bool false, AV.str ([] : Bytes), AV.str ([] : Bytes), AV.int .i64 (0 : Int), AV.str ([] : Bytes), AV.int .i64 (0 : Int), AV.list 2 (([] : List S_Field).map S_Field.av), AV.str ([] : Bytes), AV.int .i64 (0 : Int), AV.int .i64 (0 : Int), AV.int .i64 (0 : Int), AV.str ([] : Bytes), AV.int .i64 (0 : Int), AV.int .i64 (0 : Int), AV.int .i64 (0 : Int), AV.list 7 (([] : List S_Message).map S_Message.av), AV.bool false, AV.int .i64 (0 : Int), AV.str ([] : Bytes), AV.int .i64 (0 : Int), AV.bool false] (ai (fun _ => rfl) ?_))
   refine sn ?_
   replace h := oi h
   refine RetE.plain ?_
   refine ai ⟨lb rfl, lb rfl⟩ (xi (AV.agg [AV.bool false, AV.str ([] : Bytes), AV.str ([] : Bytes), AV.bool false, AV.str ([] : Bytes), AV.str ([] : Bytes), AV.int .i64 (0 : Int), AV.str ([] : Bytes), AV.int .i64 (0 : Int), AV.list 2 (([] : List S_Field).map S_Field.av), AV.str ([] : Bytes), AV.int .i64 (0 : Int), AV.int .i64 (0 : Int), AV.int .i64 (0 : Int), AV.str ([] : Bytes), AV.int .i64 (0 : Int), AV.int .i64 (0 : Int), AV.int .i64 (0 : Int), AV.list 7 (([] : List S_Message).map S_Message.av), AV.bool false, AV.int .i64 (0 : Int), AV.str ([] : Bytes), AV.int .i64 (0 : Int), AV.bool false]) (ai rfl ?_))
   exact ai rfl (ai (congrArg (fun r : (S_Client × Bytes × Int) => AV.tup [S_Client.av r.1, AV.str r.2.1, AV.int .i64 r.2.2]) h) rfl)
  ·replace h := cond_ff h ht
   refine sn <| sj <| ai ⟨lb rfl, lb rfl⟩ <| NormE.to (S_Client.av x2.2) (fun _ => rfl) ?_
   refine ai ⟨rfl, rfl, rfl, lb rfl⟩ (xi (S_Client.cells x2.2) (ai (fun _ => rfl) ?_))
   refine sn ?_
   replace h := oi h
   refine RetE.plain ?_
   refine ai ⟨lb rfl, lb rfl⟩ (xi (S_Client.av x2.2) (ai rfl ?_))
   exact ai rfl (ai (congrArg (fun r : (S_Client × Bytes × Int) => AV.tup [S_Client.av r.1, AV.str r.2.1, AV.int .i64 r.2.2]) h) rfl)
theorem client_Write_ok (E : Pm.Env) [LaidM E] (a0 : S_Client) (a1 : Int) (r : (S_Client × Bytes × Int)) (h : client_Write a0 a1 = some r) : FnR E Tryz.prog 41 [S_Client.av a0, AV.int .i64 a1] (AV.tup [S_Client.av r.1, AV.str r.2.1, AV.int .i64 r.2.2]) false := by
 refine FnR.of_ev (T := T) (rows := []) tOk mixed Tryz.func41 rfl (by kernel_rfl) (by kernel_rfl) rfl fun hwf => ?_
 unfold client_Write at h
 refine sj <| ai rfl <| ai rfl <| ai rfl ?_
 refine SeqN.via (St.of [⟨2, AV.ptr 0 0, none⟩, ⟨3, AV.iptr [AV.int .i64 a1], none⟩, ⟨4, AV.ptr 2 0, none⟩] [.cells 77 (S_Client.cells a0) [], .dead, .cells 77 [AV.bool false, AV.str ([] : Bytes), AV.str ([] : Bytes), AV.bool false, AV.str ([] : Bytes), AV.str ([] : Bytes), AV.int .i64 (0 : Int), AV.str ([] : Bytes), AV.int .i64 (0 : Int), AV.list 2 (([] : List S_Field).map S_Field.av), AV.str ([] : Bytes), AV.int .i64 (0 : Int), AV.int .i64 (0 : Int), AV.int .i64 (0 : Int), AV.str ([] : Bytes), AV.int .i64 (0 : Int), AV.int .i64 (0 : Int), AV.int .i64 (0 : Int), AV.list 7 (([] : List S_Message).map S_Message.av), AV.bool false, AV.int .i64 (0 : Int), AV.str ([] : Bytes), AV.int .i64 (0 : Int), AV.bool false] [(9, 0), (18, 1)]] [1, 1]) ?_ ?_
 ·refine Gho.trans (Gho.fz [1] [(3, AV.iptr [AV.int .i64 a1])] ⟨Frz.ptrD rfl rfl (lb rfl), trivial⟩) ?_
  refine Gho.to _ _ _ [0, 1] ?_ ?_ ?_ rfl rfl ?_
  ·exact ⟨⟨rfl, rfl, rfl⟩, ⟨trivial, ⟨⟨rfl, rfl, rfl⟩, trivial⟩⟩⟩
  ·exact rfl
  ·exact rfl
  ·exact ⟨rfl, rfl, trivial, rfl, rfl, trivial, rfl, rfl, trivial, trivial⟩
 refine sj <| ai ⟨lb rfl, lb rfl⟩ <| NormE.to (S_Client.av a0) (fun _ => rfl) <| bind_elim h fun x1 hx1 h => CallH.data _ false rfl (client_call_string_client_Write_1_ok E a0 a1 x1 hx1) ?_
 refine ai ⟨rfl, rfl, rfl, lb rfl⟩ (xi (S_Client.cells x1.1) (ai (fun _ => rfl) ?_))
 refine sn ?_
 replace h := oi h
 refine RetE.plain ?_
 refine ai ⟨lb rfl, lb rfl⟩ (xi (S_Client.av x1.1) (ai rfl ?_))
 exact ai rfl (ai (congrArg (fun r : (S_Client × Bytes × Int) => AV.tup [S_Client.av r.1, AV.str r.2.1, AV.int .i64 r.2.2]) h) rfl)
theorem intarsialaw23_ClientWrites_ok (E : Pm.Env) [LaidM E] (a0 : (List Bytes)) (a1 : (List Int)) (r : Bool) (h : intarsialaw23_ClientWrites a0 a1 = some r) : FnR E Tryz.prog 12 [AV.list 1 (a0.map AV.str), AV.list 1 (a1.map (AV.int .i64))] (AV.bool r) false := by
 refine FnR.of_ev (T := T) (rows := []) tOk mixed Tryz.func12 rfl (by kernel_rfl) (by kernel_rfl) rfl fun hwf => ?_
 unfold intarsialaw23_ClientWrites at h
 refine sj <| sn <| sj <| bind_elim h fun x1 hx1 h => CallH.data _ false rfl (client_New_ok E  x1 hx1) <| ai rfl ?_
 refine ai ⟨rfl, rfl, rfl, lb rfl⟩ (xi (S_Client.cells x1) (ai (fun _ => rfl) ?_))
 refine sn <| sj <| sn <| sj <| sj <| NormE.to (AV.int .i64 (a0.length : Int)) (fun _ => len_list AV.str a0) <| sn ?_
 refine LoopE.img (fun x : (Bytes × Bytes × Int × S_Client) => St.of [⟨1, AV.list 1 (a1.map (AV.int .i64)), none⟩, ⟨5, AV.ptr 0 0, none⟩, ⟨6, AV.str x.1, none⟩, ⟨7, AV.str x.2.1, none⟩, ⟨24, AV.list 1 (a0.map AV.str), none⟩, ⟨25, AV.int .i64 (a0.length : Int), none⟩, ⟨26, AV.int .i64 x.2.2.1, none⟩] [.cells 77 (S_Client.cells x.2.2.2) []] []) (intarsialaw23_ClientWrites_b1 a0 a1) (([] : Bytes), ([] : Bytes), (0 : Int), x1) h ?_ ?_
 ·refine Gho.to _ _ _ [] ?_ ?_ ?_ rfl rfl ?_
  ·exact ⟨⟨rfl, rfl, rfl⟩, trivial⟩
  ·exact rfl
  ·exact rfl
  ·exact ⟨rfl, rfl, trivial, rfl, rfl, trivial, rfl, rfl, trivial, rfl, rfl, trivial, rfl, rfl, trivial, rfl, rfl, trivial, rfl, rfl, trivial, trivial⟩
 intro n1 x y1 h hl1 hr1
 obtain ⟨s2, s3, s4, s5⟩ := x
 unfold intarsialaw23_ClientWrites_b1 at h
 dsimp only at h
 refine sj <| sn <| sj ?_
 refine Br.mk (fun ht => ?_) (fun ht => ?_)
 ·replace h := cond_tt h ht
  refine sn <| sj <| sj <| bind_elim h fun x6 hx6 h => ?_
  refine ai rfl (xi (AV.str x6) (ai (fun hg => idx_map _ hx6) ?_))
  refine sn <| sj <| sj <| sn ?_
  refine Br.mk (fun ht => ?_) (fun ht => ?_)
  ·replace h := cond_tt h ht
   refine sn <| sj <| ai ⟨lb rfl, lb rfl⟩ <| NormE.to (S_Client.av s5) (fun _ => rfl) <| bind_elim h fun x7 hx7 h => CallH.data _ false rfl (client_End_ok E s5 x7 hx7) ?_
   refine ai ⟨rfl, rfl, rfl, lb rfl⟩ (xi (S_Client.cells x7.1) (ai (fun _ => rfl) ?_))
   refine sn <| sj <| ai ⟨lb rfl, lb rfl⟩ <| NormE.to (S_Client.av x7.1) (fun _ => rfl) <| bind_elim h fun x8 hx8 h => CallH.data _ false rfl (client_Put_ok E x7.1 ([109, 111, 114, 101] : Bytes) x8 hx8) <| ai rfl ?_
   refine ai ⟨rfl, rfl, rfl, lb rfl⟩ (xi (S_Client.cells x8.1) (ai (fun _ => rfl) ?_))
   refine SeqN.via (St.of [⟨5, AV.ptr 0 0, none⟩, ⟨6, AV.str s2, none⟩, ⟨7, AV.str s3, none⟩, ⟨16, AV.int .i64 x7.2, none⟩, ⟨17, AV.ptr 1 0, none⟩, ⟨18, AV.int .i64 x8.2.1, none⟩, ⟨19, AV.int .i64 x8.2.2, none⟩] [.cells 77 (S_Client.cells x7.1) [], .cells 77 (S_Client.cells x8.1) []] []) ?_ ?_
   ·refine Gho.to _ _ _ [] ?_ ?_ ?_ rfl rfl ?_
    ·exact ⟨⟨rfl, rfl, rfl⟩, ⟨⟨rfl, rfl, rfl⟩, trivial⟩⟩
    ·exact rfl
    ·exact rfl
    ·exact ⟨rfl, rfl, trivial, rfl, rfl, trivial, rfl, rfl, trivial, rfl, rfl, trivial, rfl, rfl, trivial, rfl, rfl, trivial, rfl, rfl, trivial, trivial⟩
   refine sj <| sj <| ai id <| ai (fun hg => (and_r hg)) <| ai id <| ai (fun hg => (and_r hg)) <| ai ⟨lb rfl, lb rfl⟩ <| NormE.to (S_Client.av x7.1) (fun _ => rfl) <| ai ⟨lb rfl, lb rfl⟩ <| NormE.to (S_Client.av x8.1) (fun _ => rfl) <| bind_elim h fun x9 hx9 h => ai id <| ai id <| ai rfl ?_
   refine CallF.mk _ false (fun hg => intarsiaref23_Like_ok E x7.1 x8.1 x9 (gcall_some hx9 hg)) (ai rfl ?_)
   refine ai id <| ai (fun hg => (and_r hg)) <| ai ⟨lb rfl, lb rfl⟩ <| NormE.to (S_Client.av x7.1) (fun _ => rfl) <| bind_elim h fun x10 hx10 h => ai id <| ai rfl ?_
   refine CallF.mk _ false (fun hg => client_Over_ok E x7.1 x10 (gcall_some hx10 hg)) (ai rfl ?_)
   refine ai id <| ai id <| ai id <| ai id <| ai rfl <| ai (fun hg => (and_r hg)) <| bind_elim h fun x11 hx11 h => ai rfl ?_
   refine CallF.mk _ false (fun hg => intarsialaw23_alive_ok E  x11 (gcall_some hx11 hg)) (ai rfl ?_)
   refine ai id <| ai (fun hg => (and_r hg)) ?_
   refine SeqN.via (St.of [⟨5, AV.ptr 0 0, none⟩, ⟨6, AV.str s2, none⟩, ⟨7, AV.str s3, none⟩, ⟨133, AV.bool (bif (bif (bif (bif (bif (x7.2 != (0 : Int)) then true else (x8.2.2 != (0 : Int))) then true else (x8.2.1 != (0 : Int))) then true else (!x9)) then true else (!(x10 == (s2 == s3)))) then true else (!x11)), none⟩] [.cells 77 (S_Client.cells x7.1) []] []) ?_ ?_
   ·refine Gho.to _ _ _ [] ?_ ?_ ?_ rfl rfl ?_
    ·exact ⟨⟨rfl, rfl, rfl⟩, trivial⟩
    ·exact rfl
    ·exact rfl
    ·exact ⟨rfl, rfl, trivial, rfl, rfl, trivial, rfl, rfl, trivial, rfl, rfl, trivial, trivial⟩
   refine Br.mk (fun ht => ?_) (fun ht => ?_)
   ·replace h := cond_tt h ht
    refine sj <| sn ?_
    replace h := oi h
    replace h := hr1 _ h.symm
    refine RetE.plain ?_
    exact ai rfl (ai (congrArg (fun r : Bool => AV.bool r) h) rfl)
   ·replace h := cond_ff h ht
    refine sn <| sj <| ai ⟨lb rfl, lb rfl⟩ <| NormE.to (S_Client.av x7.1) (fun _ => rfl) <| bind_elim h fun x12 hx12 h => CallH.data _ false rfl (client_Write_ok E x7.1 (20000 : Int) x12 hx12) <| ai rfl ?_
    refine ai ⟨rfl, rfl, rfl, lb rfl⟩ (xi (S_Client.cells x12.1) (ai (fun _ => rfl) ?_))
    refine sn <| sj <| bind_elim h fun x13 hx13 h => ?_
    have hx13c := (gcat_some hx13).1
    have hx13e := (gcat_some hx13).2
    refine ai id <| ai id <| ai hx13c <| NormE.to (AV.str x13) (fun _ => congrArg AV.str hx13e.symm) <| ai id <| ai id <| ai (fun hg => (and_r hg)) <| ai ⟨lb rfl, lb rfl⟩ <| NormE.to (S_Client.av x12.1) (fun _ => rfl) <| bind_elim h fun x14 hx14 h => ai id <| ai rfl ?_
    refine CallF.mk _ false (fun hg => client_Over_ok E x12.1 x14 (gcall_some hx14 hg)) (ai rfl ?_)
    refine ai (fun hg => (and_r hg)) ?_
    refine SeqN.via (St.of [⟨4, AV.bool (bif (bif (x12.2.2 == (0 : Int)) then (x13 == s2) else false) then x14 else false), none⟩] [] []) ?_ ?_
    ·refine Gho.to _ _ _ [] ?_ ?_ ?_ rfl rfl ?_
     ·exact trivial
     ·exact rfl
     ·exact rfl
     ·exact ⟨rfl, rfl, trivial, trivial⟩
    replace h := oi h
    replace h := hr1 _ h.symm
    refine RetE.plain ?_
    exact ai rfl (ai (congrArg (fun r : Bool => AV.bool r) h) rfl)
  ·replace h := cond_ff h ht
   refine sn <| sj <| NormE.same <| ai rfl <| bind_elim h fun x15 hx15 h => ?_
   have qx15 := (slc_some hx15).1
   have hx15e := (slc_some hx15).2
   refine ai (fun _ => qx15) <| NormE.to (AV.str x15) (fun _ => congrArg AV.str hx15e.symm) <| sn <| sj <| ai ⟨lb rfl, lb rfl⟩ <| NormE.to (S_Client.av s5) (fun _ => rfl) <| bind_elim h fun x16 hx16 h => CallH.data _ false rfl (client_Put_ok E s5 x15 x16 hx16) <| ai rfl ?_
   refine ai ⟨rfl, rfl, rfl, lb rfl⟩ (xi (S_Client.cells x16.1) (ai (fun _ => rfl) ?_))
   refine SeqN.via (St.of [⟨1, AV.list 1 (a1.map (AV.int .i64)), none⟩, ⟨5, AV.ptr 0 0, none⟩, ⟨6, AV.str s2, none⟩, ⟨7, AV.str s3, none⟩, ⟨8, AV.int .i64 s4, none⟩, ⟨9, AV.str x15, none⟩, ⟨10, AV.ptr 1 0, none⟩, ⟨11, AV.int .i64 x16.2.1, none⟩, ⟨12, AV.int .i64 x16.2.2, none⟩, ⟨24, AV.list 1 (a0.map AV.str), none⟩, ⟨25, AV.int .i64 (a0.length : Int), none⟩, ⟨26, AV.int .i64 s4, none⟩] [.cells 77 (S_Client.cells s5) [], .cells 77 (S_Client.cells x16.1) []] []) ?_ ?_
   ·refine Gho.to _ _ _ [] ?_ ?_ ?_ rfl rfl ?_
    ·exact ⟨⟨rfl, rfl, rfl⟩, ⟨⟨rfl, rfl, rfl⟩, trivial⟩⟩
    ·exact rfl
    ·exact rfl
    ·exact ⟨rfl, rfl, trivial, rfl, rfl, trivial, rfl, rfl, trivial, rfl, rfl, trivial, rfl, rfl, trivial, rfl, rfl, trivial, rfl, rfl, trivial, rfl, rfl, trivial, rfl, rfl, trivial, rfl, rfl, trivial, rfl, rfl, trivial, rfl, rfl, trivial, trivial⟩
   refine sj <| sj <| ai id <| ai (fun hg => (and_r hg)) <| ai id <| NormE.same <| ai id <| ai id <| ai (fun hg => (and_r hg)) <| sn ?_
   refine Br.mk (fun ht => ?_) (fun ht => ?_)
   ·replace h := cond_tt h ht
    refine sj <| sn ?_
    replace h := oi h
    replace h := hr1 _ h.symm
    refine RetE.plain ?_
    exact ai rfl (ai (congrArg (fun r : Bool => AV.bool r) h) rfl)
   ·replace h := cond_ff h ht
    refine sn <| sj <| ai ⟨lb rfl, lb rfl⟩ <| NormE.to (S_Client.av x16.1) (fun _ => rfl) <| bind_elim h fun x17 hx17 h => ?_
    have qx17 := (slc_some hx17).1
    have hx17e := (slc_some hx17).2
    refine ai (fun _ => qx17) <| NormE.to (AV.str x17) (fun _ => congrArg AV.str hx17e.symm) <| bind_elim h fun x18 hx18 h => ?_
    have hx18c := (cat_some hx18).1
    have hx18e := (cat_some hx18).2
    refine ai (fun _ => hx18c) <| NormE.to (AV.str x18) (fun _ => congrArg AV.str hx18e.symm) ?_
    refine ai ⟨rfl, rfl, rfl, lb rfl⟩ (xi (S_Client.cells x16.1) (ai (fun _ => rfl) ?_))
    refine ai (by kernel_rfl) ?_
    refine SeqN.via (St.of [⟨1, AV.list 1 (a1.map (AV.int .i64)), none⟩, ⟨5, AV.ptr 0 0, none⟩, ⟨6, AV.str x18, none⟩, ⟨7, AV.str s3, none⟩, ⟨8, AV.int .i64 s4, none⟩, ⟨24, AV.list 1 (a0.map AV.str), none⟩, ⟨25, AV.int .i64 (a0.length : Int), none⟩, ⟨26, AV.int .i64 s4, none⟩] [.cells 77 (S_Client.cells x16.1) []] []) ?_ ?_
    ·refine Gho.to _ _ _ [] ?_ ?_ ?_ rfl rfl ?_
     ·exact ⟨⟨rfl, rfl, rfl⟩, trivial⟩
     ·exact rfl
     ·exact rfl
     ·exact ⟨rfl, rfl, trivial, rfl, rfl, trivial, rfl, rfl, trivial, rfl, rfl, trivial, rfl, rfl, trivial, rfl, rfl, trivial, rfl, rfl, trivial, rfl, rfl, trivial, trivial⟩
    refine sj <| NormE.to (AV.int .i64 (a1.length : Int)) (fun _ => len_list (AV.int .i64) a1) <| sn ?_
    refine Br.mk (fun ht => ?_) (fun ht => ?_)
    ·replace h := cond_tt h ht
     refine sj <| ai ⟨lb rfl, lb rfl⟩ <| NormE.to (S_Client.av x16.1) (fun _ => rfl) <| bind_elim h fun x19 hx19 h => ?_
     refine ai rfl (xi (AV.int .i64 x19) (ai (fun hg => idx_map _ hx19) ?_))
     refine ai rfl <| bind_elim h fun x20 hx20 h => CallH.data _ false rfl (client_Write_ok E x16.1 (imax x19 (0 : Int)) x20 hx20) <| ai rfl ?_
     refine ai ⟨rfl, rfl, rfl, lb rfl⟩ (xi (S_Client.cells x20.1) (ai (fun _ => rfl) ?_))
     refine ai (by kernel_rfl) ?_
     refine SeqN.via (St.of [⟨1, AV.list 1 (a1.map (AV.int .i64)), none⟩, ⟨5, AV.ptr 0 0, none⟩, ⟨6, AV.str x18, none⟩, ⟨7, AV.str s3, none⟩, ⟨8, AV.int .i64 s4, none⟩, ⟨13, AV.ptr 1 0, none⟩, ⟨14, AV.str x20.2.1, none⟩, ⟨15, AV.int .i64 x20.2.2, none⟩, ⟨24, AV.list 1 (a0.map AV.str), none⟩, ⟨25, AV.int .i64 (a0.length : Int), none⟩, ⟨26, AV.int .i64 s4, none⟩] [.cells 77 (S_Client.cells x16.1) [], .cells 77 (S_Client.cells x20.1) []] []) ?_ ?_
     ·refine Gho.to _ _ _ [] ?_ ?_ ?_ rfl rfl ?_
      ·exact ⟨⟨rfl, rfl, rfl⟩, ⟨⟨rfl, rfl, rfl⟩, trivial⟩⟩
      ·exact rfl
      ·exact rfl
      ·exact ⟨rfl, rfl, trivial, rfl, rfl, trivial, rfl, rfl, trivial, rfl, rfl, trivial, rfl, rfl, trivial, rfl, rfl, trivial, rfl, rfl, trivial, rfl, rfl, trivial, rfl, rfl, trivial, rfl, rfl, trivial, rfl, rfl, trivial, trivial⟩
     refine sj <| sj <| ai id <| NormE.same <| bind_elim h fun x21 hx21 h => ai id <| ai id ?_
     refine ai rfl (xi (AV.int .i64 x21) (ai (fun hg => gidx_map _ hx21 hg) ?_))
     refine ai id <| ai id <| ai rfl <| ai id <| ai id <| ai (fun hg => (and_r hg)) <| sn ?_
     refine Br.mk (fun ht => ?_) (fun ht => ?_)
     ·replace h := cond_tt h ht
      refine sj <| sn ?_
      replace h := oi h
      replace h := hr1 _ h.symm
      refine RetE.plain ?_
      exact ai rfl (ai (congrArg (fun r : Bool => AV.bool r) h) rfl)
     ·replace h := cond_ff h ht
      refine sn <| ai ⟨lb rfl, lb rfl⟩ <| NormE.to (S_Client.av x20.1) (fun _ => rfl) <| bind_elim h fun x22 hx22 h => ?_
      have hx22c := (cat_some hx22).1
      have hx22e := (cat_some hx22).2
      refine ai (fun _ => hx22c) <| NormE.to (AV.str x22) (fun _ => congrArg AV.str hx22e.symm) ?_
      refine ai ⟨rfl, rfl, rfl, lb rfl⟩ (xi (S_Client.cells x20.1) (ai (fun _ => rfl) ?_))
      refine SeqN.via (St.of [⟨1, AV.list 1 (a1.map (AV.int .i64)), none⟩, ⟨5, AV.ptr 0 0, none⟩, ⟨6, AV.str x18, none⟩, ⟨7, AV.str x22, none⟩, ⟨24, AV.list 1 (a0.map AV.str), none⟩, ⟨25, AV.int .i64 (a0.length : Int), none⟩, ⟨26, AV.int .i64 s4, none⟩] [.cells 77 (S_Client.cells x20.1) []] []) ?_ ?_
      ·refine Gho.to _ _ _ [] ?_ ?_ ?_ rfl rfl ?_
       ·exact ⟨⟨rfl, rfl, rfl⟩, trivial⟩
       ·exact rfl
       ·exact rfl
       ·exact ⟨rfl, rfl, trivial, rfl, rfl, trivial, rfl, rfl, trivial, rfl, rfl, trivial, rfl, rfl, trivial, rfl, rfl, trivial, rfl, rfl, trivial, trivial⟩
      replace h := oi h
      refine xi ⟨(n1, (x18, x22, (IntKind.i64.wrap (s4 + (1 : Int))), x20.1)), hl1 _ h.symm⟩ (ai (Nat.lt_succ_self _) ?_)
      refine Gho.to _ _ _ [] ?_ ?_ ?_ rfl rfl ?_
      ·exact ⟨⟨rfl, rfl, rfl⟩, trivial⟩
      ·exact rfl
      ·exact rfl
      ·exact ⟨rfl, rfl, trivial, rfl, rfl, trivial, rfl, rfl, trivial, rfl, rfl, trivial, rfl, rfl, trivial, rfl, rfl, trivial, rfl, rfl, trivial, trivial⟩
    ·replace h := cond_ff h ht
     refine sn ?_
     replace h := oi h
     refine xi ⟨(n1, (x18, s3, (IntKind.i64.wrap (s4 + (1 : Int))), x16.1)), hl1 _ h.symm⟩ (ai (Nat.lt_succ_self _) ?_)
     refine Gho.to _ _ _ [] ?_ ?_ ?_ rfl rfl ?_
     ·exact ⟨⟨rfl, rfl, rfl⟩, trivial⟩
     ·exact rfl
     ·exact rfl
     ·exact ⟨rfl, rfl, trivial, rfl, rfl, trivial, rfl, rfl, trivial, rfl, rfl, trivial, rfl, rfl, trivial, rfl, rfl, trivial, rfl, rfl, trivial, trivial⟩
 ·replace h := cond_ff h ht
  refine sn <| sj <| ai ⟨lb rfl, lb rfl⟩ <| NormE.to (S_Client.av s5) (fun _ => rfl) <| bind_elim h fun x23 hx23 h => CallH.data _ false rfl (client_End_ok E s5 x23 hx23) ?_
  refine ai ⟨rfl, rfl, rfl, lb rfl⟩ (xi (S_Client.cells x23.1) (ai (fun _ => rfl) ?_))
  refine sn <| sj <| ai ⟨lb rfl, lb rfl⟩ <| NormE.to (S_Client.av x23.1) (fun _ => rfl) <| bind_elim h fun x24 hx24 h => CallH.data _ false rfl (client_Put_ok E x23.1 ([109, 111, 114, 101] : Bytes) x24 hx24) <| ai rfl ?_
  refine ai ⟨rfl, rfl, rfl, lb rfl⟩ (xi (S_Client.cells x24.1) (ai (fun _ => rfl) ?_))
  refine SeqN.via (St.of [⟨5, AV.ptr 0 0, none⟩, ⟨6, AV.str s2, none⟩, ⟨7, AV.str s3, none⟩, ⟨16, AV.int .i64 x23.2, none⟩, ⟨17, AV.ptr 1 0, none⟩, ⟨18, AV.int .i64 x24.2.1, none⟩, ⟨19, AV.int .i64 x24.2.2, none⟩] [.cells 77 (S_Client.cells x23.1) [], .cells 77 (S_Client.cells x24.1) []] []) ?_ ?_
  ·refine Gho.to _ _ _ [] ?_ ?_ ?_ rfl rfl ?_
   ·exact ⟨⟨rfl, rfl, rfl⟩, ⟨⟨rfl, rfl, rfl⟩, trivial⟩⟩
   ·exact rfl
   ·exact rfl
   ·exact ⟨rfl, rfl, trivial, rfl, rfl, trivial, rfl, rfl, trivial, rfl, rfl, trivial, rfl, rfl, trivial, rfl, rfl, trivial, rfl, rfl, trivial, trivial⟩
  refine sj <| sj <| ai id <| ai (fun hg => (and_r hg)) <| ai id <| ai (fun hg => (and_r hg)) <| ai ⟨lb rfl, lb rfl⟩ <| NormE.to (S_Client.av x23.1) (fun _ => rfl) <| ai ⟨lb rfl, lb rfl⟩ <| NormE.to (S_Client.av x24.1) (fun _ => rfl) <| bind_elim h fun x25 hx25 h => ai id <| ai id <| ai rfl ?_
  refine CallF.mk _ false (fun hg => intarsiaref23_Like_ok E x23.1 x24.1 x25 (gcall_some hx25 hg)) (ai rfl ?_)
  refine ai id <| ai (fun hg => (and_r hg)) <| ai ⟨lb rfl, lb rfl⟩ <| NormE.to (S_Client.av x23.1) (fun _ => rfl) <| bind_elim h fun x26 hx26 h => ai id <| ai rfl ?_
  refine CallF.mk _ false (fun hg => client_Over_ok E x23.1 x26 (gcall_some hx26 hg)) (ai rfl ?_)
  refine ai id <| ai id <| ai id <| ai id <| ai rfl <| ai (fun hg => (and_r hg)) <| bind_elim h fun x27 hx27 h => ai rfl ?_
  refine CallF.mk _ false (fun hg => intarsialaw23_alive_ok E  x27 (gcall_some hx27 hg)) (ai rfl ?_)
  refine ai id <| ai (fun hg => (and_r hg)) ?_
  refine SeqN.via (St.of [⟨5, AV.ptr 0 0, none⟩, ⟨6, AV.str s2, none⟩, ⟨7, AV.str s3, none⟩, ⟨133, AV.bool (bif (bif (bif (bif (bif (x23.2 != (0 : Int)) then true else (x24.2.2 != (0 : Int))) then true else (x24.2.1 != (0 : Int))) then true else (!x25)) then true else (!(x26 == (s2 == s3)))) then true else (!x27)), none⟩] [.cells 77 (S_Client.cells x23.1) []] []) ?_ ?_
  ·refine Gho.to _ _ _ [] ?_ ?_ ?_ rfl rfl ?_
   ·exact ⟨⟨rfl, rfl, rfl⟩, trivial⟩
   ·exact rfl
   ·exact rfl
   ·exact ⟨rfl, rfl, trivial, rfl, rfl, trivial, rfl, rfl, trivial, rfl, rfl, trivial, trivial⟩
  refine Br.mk (fun ht => ?_) (fun ht => ?_)
  ·replace h := cond_tt h ht
   refine sj <| sn ?_
   replace h := oi h
   replace h := hr1 _ h.symm
   refine RetE.plain ?_
   exact ai rfl (ai (congrArg (fun r : Bool => AV.bool r) h) rfl)
  ·replace h := cond_ff h ht
   refine sn <| sj <| ai ⟨lb rfl, lb rfl⟩ <| NormE.to (S_Client.av x23.1) (fun _ => rfl) <| bind_elim h fun x28 hx28 h => CallH.data _ false rfl (client_Write_ok E x23.1 (20000 : Int) x28 hx28) <| ai rfl ?_
   refine ai ⟨rfl, rfl, rfl, lb rfl⟩ (xi (S_Client.cells x28.1) (ai (fun _ => rfl) ?_))
   refine sn <| sj <| bind_elim h fun x29 hx29 h => ?_
   have hx29c := (gcat_some hx29).1
   have hx29e := (gcat_some hx29).2
   refine ai id <| ai id <| ai hx29c <| NormE.to (AV.str x29) (fun _ => congrArg AV.str hx29e.symm) <| ai id <| ai id <| ai (fun hg => (and_r hg)) <| ai ⟨lb rfl, lb rfl⟩ <| NormE.to (S_Client.av x28.1) (fun _ => rfl) <| bind_elim h fun x30 hx30 h => ai id <| ai rfl ?_
   refine CallF.mk _ false (fun hg => client_Over_ok E x28.1 x30 (gcall_some hx30 hg)) (ai rfl ?_)
   refine ai (fun hg => (and_r hg)) ?_
   refine SeqN.via (St.of [⟨4, AV.bool (bif (bif (x28.2.2 == (0 : Int)) then (x29 == s2) else false) then x30 else false), none⟩] [] []) ?_ ?_
   ·refine Gho.to _ _ _ [] ?_ ?_ ?_ rfl rfl ?_
    ·exact trivial
    ·exact rfl
    ·exact rfl
    ·exact ⟨rfl, rfl, trivial, trivial⟩
   replace h := oi h
   replace h := hr1 _ h.symm
   refine RetE.plain ?_
   exact ai rfl (ai (congrArg (fun r : Bool => AV.bool r) h) rfl)
end Go.Proofs.YtkfoahoplndelaaGreatDoor
