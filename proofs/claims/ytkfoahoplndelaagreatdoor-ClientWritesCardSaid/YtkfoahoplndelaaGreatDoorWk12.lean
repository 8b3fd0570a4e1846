/-
  The functions do what their images say: walks, written by a program of mine (gen.py).
-/
import Derived.Test.YtkfoahoplndelaaGreatDoorIw1
import Derived.Test.YtkfoahoplndelaaGreatDoorWk11
namespace Go.Proofs.YtkfoahoplndelaaGreatDoor
open Go Go.Pm
open And renaming intro → ai
open Exists renaming intro → xi
open Option.some renaming inj → oi
open _root_.Nat renaming le_of_ble_eq_true → lb
open Go.Pm.SeqJ renaming go → sj
open Go.Pm.SeqN renaming go → sn
set_option maxRecDepth 100000
set_option maxHeartbeats 4000000
set_option linter.unusedVariables false
theorem wire_reading_begin_ok (E : Pm.Env) [LaidM E] (o0 : S_wire_reading) (r : Bool) (o0' : S_wire_reading) (h : wire_reading_begin o0 = some (r, o0')) : FnW E Tryz.prog 68 [AV.ptr 0 0] [.cells 113 (S_wire_reading.cells o0) [(18, 0)]] [1] (AV.bool r) none [.cells 113 (S_wire_reading.cells o0') [(18, 1)]] [0, 1] := by
 refine FnW.of_evB (T := T) (rows := []) tOk mixed Tryz.func68 rfl (by kernel_rfl) (by kernel_rfl) rfl rfl fun hwf => ?_
 unfold wire_reading_begin at h
 refine sj <| sn <| bind_elim h fun j1 hj1 h => ?_
 refine SeqJ.join (St.of [⟨0, AV.ptr 0 0, none⟩] [.cells 113 [AV.bool j1.Reader.Asks, AV.str j1.Reader.Method, AV.str j1.Reader.Buf, AV.bool j1.Reader.In, AV.str j1.Reader.Head.Start.Method, AV.str j1.Reader.Head.Start.Target, AV.int .i64 j1.Reader.Head.Start.Code, AV.str j1.Reader.Head.Start.Reason, AV.int .i64 j1.Reader.Head.Start.Minor, AV.list 2 (j1.Reader.Head.Fields.map S_Field.av), AV.str j1.Reader.Head.Body, AV.int .i64 j1.Reader.Body.Kind, AV.int .i64 j1.Reader.Body.Size, AV.int .i64 j1.Reader.Chunk.Stage, AV.str j1.Reader.Chunk.Line, AV.int .i64 j1.Reader.Chunk.Left, AV.int .i64 j1.Reader.Chunk.Size, AV.int .i64 j1.Reader.Bad, AV.list 7 (j1.out.map S_Message.av)] [(18, 1)]] [0, 1]) ?_ ?_
 ·clear h; have h := hj1; clear hj1
  refine LoopE.img (fun x : S_wire_reading => St.of [⟨0, AV.ptr 0 0, none⟩] [.cells 113 [AV.bool x.Reader.Asks, AV.str x.Reader.Method, AV.str x.Reader.Buf, AV.bool x.Reader.In, AV.str x.Reader.Head.Start.Method, AV.str x.Reader.Head.Start.Target, AV.int .i64 x.Reader.Head.Start.Code, AV.str x.Reader.Head.Start.Reason, AV.int .i64 x.Reader.Head.Start.Minor, AV.list 2 (x.Reader.Head.Fields.map S_Field.av), AV.str x.Reader.Head.Body, AV.int .i64 x.Reader.Body.Kind, AV.int .i64 x.Reader.Body.Size, AV.int .i64 x.Reader.Chunk.Stage, AV.str x.Reader.Chunk.Line, AV.int .i64 x.Reader.Chunk.Left, AV.int .i64 x.Reader.Chunk.Size, AV.int .i64 x.Reader.Bad, AV.list 7 (x.out.map S_Message.av)] [(18, 1)]] [0, 1]) wire_reading_begin_b1 o0 h ?_ ?_
  ·refine Gho.to _ _ _ [0, 0] ?_ ?_ ?_ rfl rfl ?_
   ·exact ⟨⟨rfl, rfl, rfl⟩, trivial⟩
   ·exact rfl
   ·exact rfl
   ·exact ⟨rfl, rfl, trivial, trivial⟩
  intro n1 x y1 h hl1 hr1
  revert h; revert x; intro s2 h
  unfold wire_reading_begin_b1 at h
  refine sj <| sj <| ai id <| ai id <| ai id <| ai id <| bind_elim h fun x3 hx3 h => ai id <| ai rfl ?_
  refine CallF.mk _ false (fun hg => strings_HasPrefix_ok E s2.Reader.Buf ([10] : Bytes) x3 (gcall_some hx3 hg)) (ai rfl ?_)
  refine ai id <| ai id <| ai id <| ai id <| ai id <| bind_elim h fun x4 hx4 h => ai id <| ai rfl ?_
  refine CallF.mk _ false (fun hg => strings_HasPrefix_ok E s2.Reader.Buf ([13, 10] : Bytes) x4 (gcall_some hx4 hg)) (ai rfl ?_)
  refine ai id <| ai id <| ai (fun hg => (and_r hg)) ?_
  refine SeqN.via (St.of [⟨0, AV.ptr 0 0, none⟩, ⟨30, AV.bool (bif s2.Reader.Asks then (bif x3 then true else x4) else false), none⟩] [.cells 113 [AV.bool s2.Reader.Asks, AV.str s2.Reader.Method, AV.str s2.Reader.Buf, AV.bool s2.Reader.In, AV.str s2.Reader.Head.Start.Method, AV.str s2.Reader.Head.Start.Target, AV.int .i64 s2.Reader.Head.Start.Code, AV.str s2.Reader.Head.Start.Reason, AV.int .i64 s2.Reader.Head.Start.Minor, AV.list 2 (s2.Reader.Head.Fields.map S_Field.av), AV.str s2.Reader.Head.Body, AV.int .i64 s2.Reader.Body.Kind, AV.int .i64 s2.Reader.Body.Size, AV.int .i64 s2.Reader.Chunk.Stage, AV.str s2.Reader.Chunk.Line, AV.int .i64 s2.Reader.Chunk.Left, AV.int .i64 s2.Reader.Chunk.Size, AV.int .i64 s2.Reader.Bad, AV.list 7 (s2.out.map S_Message.av)] [(18, 1)]] [0, 1]) ?_ ?_
  ·refine Gho.to _ _ _ [0, 1] ?_ ?_ ?_ rfl rfl ?_
   ·exact ⟨⟨rfl, rfl, rfl⟩, trivial⟩
   ·exact rfl
   ·exact rfl
   ·exact ⟨rfl, rfl, trivial, rfl, rfl, trivial, trivial⟩
  refine Br.mk (fun ht => ?_) (fun ht => ?_)
  ·replace h := cond_tt h ht
   refine sn <| bind_elim h fun x5 hx5 h => CallH.data _ false rfl (strings_TrimPrefix_ok E s2.Reader.Buf ([13] : Bytes) x5 hx5) <| bind_elim h fun x6 hx6 h => CallH.data _ false rfl (strings_TrimPrefix_ok E x5 ([10] : Bytes) x6 hx6) ?_
   refine ai ⟨rfl, rfl, rfl, lb rfl⟩ (xi [AV.bool s2.Reader.Asks, AV.str s2.Reader.Method, AV.str x6, AV.bool s2.Reader.In, AV.str s2.Reader.Head.Start.Method, AV.str s2.Reader.Head.Start.Target, AV.int .i64 s2.Reader.Head.Start.Code, AV.str s2.Reader.Head.Start.Reason, AV.int .i64 s2.Reader.Head.Start.Minor, AV.list 2 (s2.Reader.Head.Fields.map S_Field.av), AV.str s2.Reader.Head.Body, AV.int .i64 s2.Reader.Body.Kind, AV.int .i64 s2.Reader.Body.Size, AV.int .i64 s2.Reader.Chunk.Stage, AV.str s2.Reader.Chunk.Line, AV.int .i64 s2.Reader.Chunk.Left, AV.int .i64 s2.Reader.Chunk.Size, AV.int .i64 s2.Reader.Bad, AV.list 7 (s2.out.map S_Message.av)] (ai (fun _ => rfl) ?_))
   replace h := oi h
   refine xi ⟨(n1, (S_wire_reading.mk (S_Reader.mk s2.Reader.Asks s2.Reader.Method x6 s2.Reader.In s2.Reader.Head s2.Reader.Body s2.Reader.Chunk s2.Reader.Bad) s2.out)), hl1 _ h.symm⟩ (ai (Nat.lt_succ_self _) ?_)
   refine Gho.to _ _ _ [0, 1] ?_ ?_ ?_ rfl rfl ?_
   ·exact ⟨⟨rfl, rfl, rfl⟩, trivial⟩
   ·exact rfl
   ·exact rfl
   ·exact ⟨rfl, rfl, trivial, trivial⟩
  ·replace h := cond_ff h ht
   replace h := oi h
   replace h := hr1 _ h.symm
   subst h
   refine Gho.to _ _ _ [0, 1] ?_ ?_ ?_ rfl rfl ?_
   ·exact ⟨⟨rfl, rfl, rfl⟩, trivial⟩
   ·exact rfl
   ·exact rfl
   ·exact ⟨rfl, rfl, trivial, trivial⟩
 ·clear hj1
  refine sj <| bind_elim h fun x7 hx7 h => CallH.data _ false rfl (head_End_ok E j1.Reader.Buf x7 hx7) <| sn <| sj <| sj <| sn ?_
  refine Br.mk (fun ht => ?_) (fun ht => ?_)
  ·replace h := cond_tt h ht
   refine sj <| sn ?_
   replace h := oi h
   have h0 := (Prod.mk.inj h).1
   have h1 := (Prod.mk.inj h).2
   subst h0
   subst h1
   refine xi [⟨2, AV.bool false, none⟩] (ai (Gho.to _ _ _ [0, 1] ?_ ?_ ?_ rfl rfl ?_) (ai ?_ rfl))
   ·exact ⟨⟨rfl, rfl, rfl⟩, trivial⟩
   ·exact rfl
   ·exact rfl
   ·exact ⟨rfl, rfl, trivial, trivial⟩
   ·exact rfl
  ·replace h := cond_ff h ht
   refine sj ?_
   refine SeqN.via (St.of [⟨0, AV.ptr 0 0, none⟩, ⟨3, AV.int .i64 x7.1, none⟩, ⟨4, AV.int .i64 x7.2, none⟩, ⟨54, AV.bool (x7.2 != (0 : Int)), none⟩] [.cells 113 [AV.bool j1.Reader.Asks, AV.str j1.Reader.Method, AV.str j1.Reader.Buf, AV.bool j1.Reader.In, AV.str j1.Reader.Head.Start.Method, AV.str j1.Reader.Head.Start.Target, AV.int .i64 j1.Reader.Head.Start.Code, AV.str j1.Reader.Head.Start.Reason, AV.int .i64 j1.Reader.Head.Start.Minor, AV.list 2 (j1.Reader.Head.Fields.map S_Field.av), AV.str j1.Reader.Head.Body, AV.int .i64 j1.Reader.Body.Kind, AV.int .i64 j1.Reader.Body.Size, AV.int .i64 j1.Reader.Chunk.Stage, AV.str j1.Reader.Chunk.Line, AV.int .i64 j1.Reader.Chunk.Left, AV.int .i64 j1.Reader.Chunk.Size, AV.int .i64 j1.Reader.Bad, AV.list 7 (j1.out.map S_Message.av)] [(18, 1)]] [0, 1]) ?_ ?_
   ·refine Gho.to _ _ _ [0, 1] ?_ ?_ ?_ rfl rfl ?_
    ·exact ⟨⟨rfl, rfl, rfl⟩, trivial⟩
    ·exact rfl
    ·exact rfl
    ·exact ⟨rfl, rfl, trivial, rfl, rfl, trivial, rfl, rfl, trivial, rfl, rfl, trivial, trivial⟩
   refine Br.mk (fun ht => ?_) (fun ht => ?_)
   ·replace h := cond_tt h ht
    refine sj <| bind_elim h fun x8 hx8 h => CallH.ren [0] [1] [.cells 113 [AV.bool x8.2.Reader.Asks, AV.str x8.2.Reader.Method, AV.str x8.2.Reader.Buf, AV.bool x8.2.Reader.In, AV.str x8.2.Reader.Head.Start.Method, AV.str x8.2.Reader.Head.Start.Target, AV.int .i64 x8.2.Reader.Head.Start.Code, AV.str x8.2.Reader.Head.Start.Reason, AV.int .i64 x8.2.Reader.Head.Start.Minor, AV.list 2 (x8.2.Reader.Head.Fields.map S_Field.av), AV.str x8.2.Reader.Head.Body, AV.int .i64 x8.2.Reader.Body.Kind, AV.int .i64 x8.2.Reader.Body.Size, AV.int .i64 x8.2.Reader.Chunk.Stage, AV.str x8.2.Reader.Chunk.Line, AV.int .i64 x8.2.Reader.Chunk.Left, AV.int .i64 x8.2.Reader.Chunk.Size, AV.int .i64 x8.2.Reader.Bad, AV.list 7 (x8.2.out.map S_Message.av)] [(18, 2)]] [0, 0, 1] (wire_reading_fail_ok E j1 x7.2 x8.1 x8.2 hx8) rfl rfl rfl rfl rfl rfl rfl rfl rfl <| sn ?_
    replace h := oi h
    have h0 := (Prod.mk.inj h).1
    have h1 := (Prod.mk.inj h).2
    subst h0
    subst h1
    refine xi [⟨2, AV.bool x8.1, none⟩] (ai (Gho.to _ _ _ [0, 2] ?_ ?_ ?_ rfl rfl ?_) (ai ?_ rfl))
    ·exact ⟨⟨rfl, rfl, rfl⟩, trivial⟩
    ·exact rfl
    ·exact rfl
    ·exact ⟨rfl, rfl, trivial, trivial⟩
    ·exact rfl
   ·replace h := cond_ff h ht
    refine sn <| sj <| bind_elim h fun x9 hx9 h => ?_
    have qx9 := (slc_some hx9).1
    have hx9e := (slc_some hx9).2
    refine ai (fun _ => qx9) <| NormE.to (AV.str x9) (fun _ => congrArg AV.str hx9e.symm) <| bind_elim h fun x10 hx10 h => CallH.data _ false rfl (strings_Cut_ok E x9 ([10] : Bytes) x10 hx10) <| sn <| sj ?_
    refine SeqN.via (St.of [⟨0, AV.ptr 0 0, none⟩, ⟨3, AV.int .i64 x7.1, none⟩, ⟨5, AV.str x10.1, none⟩, ⟨6, AV.str x10.2.1, none⟩, ⟨8, AV.fn 123 [] [], none⟩] [.cells 113 [AV.bool j1.Reader.Asks, AV.str j1.Reader.Method, AV.str j1.Reader.Buf, AV.bool j1.Reader.In, AV.str j1.Reader.Head.Start.Method, AV.str j1.Reader.Head.Start.Target, AV.int .i64 j1.Reader.Head.Start.Code, AV.str j1.Reader.Head.Start.Reason, AV.int .i64 j1.Reader.Head.Start.Minor, AV.list 2 (j1.Reader.Head.Fields.map S_Field.av), AV.str j1.Reader.Head.Body, AV.int .i64 j1.Reader.Body.Kind, AV.int .i64 j1.Reader.Body.Size, AV.int .i64 j1.Reader.Chunk.Stage, AV.str j1.Reader.Chunk.Line, AV.int .i64 j1.Reader.Chunk.Left, AV.int .i64 j1.Reader.Chunk.Size, AV.int .i64 j1.Reader.Bad, AV.list 7 (j1.out.map S_Message.av)] [(18, 1)]] [0, 1]) ?_ ?_
    ·refine Gho.to _ _ _ [0, 1] ?_ ?_ ?_ rfl rfl ?_
     ·exact ⟨⟨rfl, rfl, rfl⟩, trivial⟩
     ·exact rfl
     ·exact rfl
     ·exact ⟨rfl, rfl, trivial, rfl, rfl, trivial, rfl, rfl, trivial, rfl, rfl, trivial, rfl, rfl, trivial, trivial⟩
    refine sj <| sj <| sn ?_
    refine Br.mk (fun ht => ?_) (fun ht => ?_)
    ·replace h := cond_tt h ht
     refine sn <| sj <| sj <| bind_elim h fun x11 hx11 h => CallH.data _ false rfl (strings_TrimSuffix_ok E x10.1 ([13] : Bytes) x11 hx11) <| bind_elim h fun x12 hx12 h => CallH.data _ false rfl (start_Parse_ok E x11 x12 hx12) ?_
     refine ai ⟨rfl, rfl, rfl, lb rfl⟩ (xi [AV.bool j1.Reader.Asks, AV.str j1.Reader.Method, AV.str j1.Reader.Buf, AV.bool j1.Reader.In, AV.str x12.1.Method, AV.str x12.1.Target, AV.int .i64 x12.1.Code, AV.str x12.1.Reason, AV.int .i64 x12.1.Minor, AV.list 2 (j1.Reader.Head.Fields.map S_Field.av), AV.str j1.Reader.Head.Body, AV.int .i64 j1.Reader.Body.Kind, AV.int .i64 j1.Reader.Body.Size, AV.int .i64 j1.Reader.Chunk.Stage, AV.str j1.Reader.Chunk.Line, AV.int .i64 j1.Reader.Chunk.Left, AV.int .i64 j1.Reader.Chunk.Size, AV.int .i64 j1.Reader.Bad, AV.list 7 (j1.out.map S_Message.av)] (ai (fun _ => rfl) ?_))
     refine SeqN.via (St.of [⟨0, AV.ptr 0 0, none⟩, ⟨3, AV.int .i64 x7.1, none⟩, ⟨4, AV.int .i64 x12.2, none⟩, ⟨6, AV.str x10.2.1, none⟩] [.cells 113 [AV.bool j1.Reader.Asks, AV.str j1.Reader.Method, AV.str j1.Reader.Buf, AV.bool j1.Reader.In, AV.str x12.1.Method, AV.str x12.1.Target, AV.int .i64 x12.1.Code, AV.str x12.1.Reason, AV.int .i64 x12.1.Minor, AV.list 2 (j1.Reader.Head.Fields.map S_Field.av), AV.str j1.Reader.Head.Body, AV.int .i64 j1.Reader.Body.Kind, AV.int .i64 j1.Reader.Body.Size, AV.int .i64 j1.Reader.Chunk.Stage, AV.str j1.Reader.Chunk.Line, AV.int .i64 j1.Reader.Chunk.Left, AV.int .i64 j1.Reader.Chunk.Size, AV.int .i64 j1.Reader.Bad, AV.list 7 (j1.out.map S_Message.av)] [(18, 1)]] [0, 1]) ?_ ?_
     ·refine Gho.to _ _ _ [0, 1] ?_ ?_ ?_ rfl rfl ?_
      ·exact ⟨⟨rfl, rfl, rfl⟩, trivial⟩
      ·exact rfl
      ·exact rfl
      ·exact ⟨rfl, rfl, trivial, rfl, rfl, trivial, rfl, rfl, trivial, rfl, rfl, trivial, trivial⟩
     refine sj <| sn ?_
     refine Br.mk (fun ht => ?_) (fun ht => ?_)
     ·replace h := cond_tt h ht
      refine sj <| bind_elim h fun x13 hx13 h => CallH.ren [0] [1] [.cells 113 [AV.bool x13.2.Reader.Asks, AV.str x13.2.Reader.Method, AV.str x13.2.Reader.Buf, AV.bool x13.2.Reader.In, AV.str x13.2.Reader.Head.Start.Method, AV.str x13.2.Reader.Head.Start.Target, AV.int .i64 x13.2.Reader.Head.Start.Code, AV.str x13.2.Reader.Head.Start.Reason, AV.int .i64 x13.2.Reader.Head.Start.Minor, AV.list 2 (x13.2.Reader.Head.Fields.map S_Field.av), AV.str x13.2.Reader.Head.Body, AV.int .i64 x13.2.Reader.Body.Kind, AV.int .i64 x13.2.Reader.Body.Size, AV.int .i64 x13.2.Reader.Chunk.Stage, AV.str x13.2.Reader.Chunk.Line, AV.int .i64 x13.2.Reader.Chunk.Left, AV.int .i64 x13.2.Reader.Chunk.Size, AV.int .i64 x13.2.Reader.Bad, AV.list 7 (x13.2.out.map S_Message.av)] [(18, 2)]] [0, 0, 1] (wire_reading_fail_ok E (S_wire_reading.mk (S_Reader.mk j1.Reader.Asks j1.Reader.Method j1.Reader.Buf j1.Reader.In (S_Message.mk x12.1 j1.Reader.Head.Fields j1.Reader.Head.Body) j1.Reader.Body j1.Reader.Chunk j1.Reader.Bad) j1.out) x12.2 x13.1 x13.2 hx13) rfl rfl rfl rfl rfl rfl rfl rfl rfl <| sn ?_
      replace h := oi h
      have h0 := (Prod.mk.inj h).1
      have h1 := (Prod.mk.inj h).2
      subst h0
      subst h1
      refine xi [⟨2, AV.bool x13.1, none⟩] (ai (Gho.to _ _ _ [0, 2] ?_ ?_ ?_ rfl rfl ?_) (ai ?_ rfl))
      ·exact ⟨⟨rfl, rfl, rfl⟩, trivial⟩
      ·exact rfl
      ·exact rfl
      ·exact ⟨rfl, rfl, trivial, trivial⟩
      ·exact rfl
     ·replace h := cond_ff h ht
      refine sn <| sj <| bind_elim h fun x14 hx14 h => CallH.data _ false rfl (strings_TrimSuffix_ok E x10.2.1 ([10] : Bytes) x14 hx14) <| bind_elim h fun x15 hx15 h => CallH.data _ false rfl (strings_TrimSuffix_ok E x14 ([13] : Bytes) x15 hx15) <| sn <| sj <| sj <| bind_elim h fun x16 hx16 h => CallH.data _ false rfl (head_Parse_ok E x15 x16 hx16) ?_
      refine ai ⟨rfl, rfl, rfl, lb rfl⟩ (xi [AV.bool j1.Reader.Asks, AV.str j1.Reader.Method, AV.str j1.Reader.Buf, AV.bool j1.Reader.In, AV.str x12.1.Method, AV.str x12.1.Target, AV.int .i64 x12.1.Code, AV.str x12.1.Reason, AV.int .i64 x12.1.Minor, AV.list 2 (x16.1.map S_Field.av), AV.str j1.Reader.Head.Body, AV.int .i64 j1.Reader.Body.Kind, AV.int .i64 j1.Reader.Body.Size, AV.int .i64 j1.Reader.Chunk.Stage, AV.str j1.Reader.Chunk.Line, AV.int .i64 j1.Reader.Chunk.Left, AV.int .i64 j1.Reader.Chunk.Size, AV.int .i64 j1.Reader.Bad, AV.list 7 (j1.out.map S_Message.av)] (ai (fun _ => rfl) ?_))
      refine SeqN.via (St.of [⟨0, AV.ptr 0 0, none⟩, ⟨3, AV.int .i64 x7.1, none⟩, ⟨4, AV.int .i64 x16.2, none⟩] [.cells 113 [AV.bool j1.Reader.Asks, AV.str j1.Reader.Method, AV.str j1.Reader.Buf, AV.bool j1.Reader.In, AV.str x12.1.Method, AV.str x12.1.Target, AV.int .i64 x12.1.Code, AV.str x12.1.Reason, AV.int .i64 x12.1.Minor, AV.list 2 (x16.1.map S_Field.av), AV.str j1.Reader.Head.Body, AV.int .i64 j1.Reader.Body.Kind, AV.int .i64 j1.Reader.Body.Size, AV.int .i64 j1.Reader.Chunk.Stage, AV.str j1.Reader.Chunk.Line, AV.int .i64 j1.Reader.Chunk.Left, AV.int .i64 j1.Reader.Chunk.Size, AV.int .i64 j1.Reader.Bad, AV.list 7 (j1.out.map S_Message.av)] [(18, 1)]] [0, 1]) ?_ ?_
      ·refine Gho.to _ _ _ [0, 1] ?_ ?_ ?_ rfl rfl ?_
       ·exact ⟨⟨rfl, rfl, rfl⟩, trivial⟩
       ·exact rfl
       ·exact rfl
       ·exact ⟨rfl, rfl, trivial, rfl, rfl, trivial, rfl, rfl, trivial, trivial⟩
      refine sj <| sn ?_
      refine Br.mk (fun ht => ?_) (fun ht => ?_)
      ·replace h := cond_tt h ht
       refine sj <| bind_elim h fun x17 hx17 h => CallH.ren [0] [1] [.cells 113 [AV.bool x17.2.Reader.Asks, AV.str x17.2.Reader.Method, AV.str x17.2.Reader.Buf, AV.bool x17.2.Reader.In, AV.str x17.2.Reader.Head.Start.Method, AV.str x17.2.Reader.Head.Start.Target, AV.int .i64 x17.2.Reader.Head.Start.Code, AV.str x17.2.Reader.Head.Start.Reason, AV.int .i64 x17.2.Reader.Head.Start.Minor, AV.list 2 (x17.2.Reader.Head.Fields.map S_Field.av), AV.str x17.2.Reader.Head.Body, AV.int .i64 x17.2.Reader.Body.Kind, AV.int .i64 x17.2.Reader.Body.Size, AV.int .i64 x17.2.Reader.Chunk.Stage, AV.str x17.2.Reader.Chunk.Line, AV.int .i64 x17.2.Reader.Chunk.Left, AV.int .i64 x17.2.Reader.Chunk.Size, AV.int .i64 x17.2.Reader.Bad, AV.list 7 (x17.2.out.map S_Message.av)] [(18, 2)]] [0, 0, 1] (wire_reading_fail_ok E (S_wire_reading.mk (S_Reader.mk j1.Reader.Asks j1.Reader.Method j1.Reader.Buf j1.Reader.In (S_Message.mk x12.1 x16.1 j1.Reader.Head.Body) j1.Reader.Body j1.Reader.Chunk j1.Reader.Bad) j1.out) x16.2 x17.1 x17.2 hx17) rfl rfl rfl rfl rfl rfl rfl rfl rfl <| sn ?_
       replace h := oi h
       have h0 := (Prod.mk.inj h).1
       have h1 := (Prod.mk.inj h).2
       subst h0
       subst h1
       refine xi [⟨2, AV.bool x17.1, none⟩] (ai (Gho.to _ _ _ [0, 2] ?_ ?_ ?_ rfl rfl ?_) (ai ?_ rfl))
       ·exact ⟨⟨rfl, rfl, rfl⟩, trivial⟩
       ·exact rfl
       ·exact rfl
       ·exact ⟨rfl, rfl, trivial, trivial⟩
       ·exact rfl
      ·replace h := cond_ff h ht
       refine sn <| sj <| sj <| ai ⟨lb rfl, lb rfl⟩ <| NormE.to (AV.agg [AV.bool j1.Reader.Asks, AV.str j1.Reader.Method, AV.str j1.Reader.Buf, AV.bool j1.Reader.In, AV.str x12.1.Method, AV.str x12.1.Target, AV.int .i64 x12.1.Code, AV.str x12.1.Reason, AV.int .i64 x12.1.Minor, AV.list 2 (x16.1.map S_Field.av), AV.str j1.Reader.Head.Body, AV.int .i64 j1.Reader.Body.Kind, AV.int .i64 j1.Reader.Body.Size, AV.int .i64 j1.Reader.Chunk.Stage, AV.str j1.Reader.Chunk.Line, AV.int .i64 j1.Reader.Chunk.Left, AV.int .i64 j1.Reader.Chunk.Size, AV.int .i64 j1.Reader.Bad]) (fun _ => rfl) <| bind_elim h fun x18 hx18 h => CallH.data _ false rfl (wire_body_ok E (S_Reader.mk j1.Reader.Asks j1.Reader.Method j1.Reader.Buf j1.Reader.In (S_Message.mk x12.1 x16.1 j1.Reader.Head.Body) j1.Reader.Body j1.Reader.Chunk j1.Reader.Bad) x18 hx18) ?_
       refine ai ⟨rfl, rfl, rfl, lb rfl⟩ (xi [AV.bool j1.Reader.Asks, AV.str j1.Reader.Method, AV.str j1.Reader.Buf, AV.bool j1.Reader.In, AV.str x12.1.Method, AV.str x12.1.Target, AV.int .i64 x12.1.Code, AV.str x12.1.Reason, AV.int .i64 x12.1.Minor, AV.list 2 (x16.1.map S_Field.av), AV.str j1.Reader.Head.Body, AV.int .i64 x18.1.Kind, AV.int .i64 x18.1.Size, AV.int .i64 j1.Reader.Chunk.Stage, AV.str j1.Reader.Chunk.Line, AV.int .i64 j1.Reader.Chunk.Left, AV.int .i64 j1.Reader.Chunk.Size, AV.int .i64 j1.Reader.Bad, AV.list 7 (j1.out.map S_Message.av)] (ai (fun _ => rfl) ?_))
       refine SeqN.via (St.of [⟨0, AV.ptr 0 0, none⟩, ⟨3, AV.int .i64 x7.1, none⟩, ⟨4, AV.int .i64 x18.2, none⟩] [.cells 113 [AV.bool j1.Reader.Asks, AV.str j1.Reader.Method, AV.str j1.Reader.Buf, AV.bool j1.Reader.In, AV.str x12.1.Method, AV.str x12.1.Target, AV.int .i64 x12.1.Code, AV.str x12.1.Reason, AV.int .i64 x12.1.Minor, AV.list 2 (x16.1.map S_Field.av), AV.str j1.Reader.Head.Body, AV.int .i64 x18.1.Kind, AV.int .i64 x18.1.Size, AV.int .i64 j1.Reader.Chunk.Stage, AV.str j1.Reader.Chunk.Line, AV.int .i64 j1.Reader.Chunk.Left, AV.int .i64 j1.Reader.Chunk.Size, AV.int .i64 j1.Reader.Bad, AV.list 7 (j1.out.map S_Message.av)] [(18, 1)]] [0, 1]) ?_ ?_
       ·refine Gho.to _ _ _ [0, 1] ?_ ?_ ?_ rfl rfl ?_
        ·exact ⟨⟨rfl, rfl, rfl⟩, trivial⟩
        ·exact rfl
        ·exact rfl
        ·exact ⟨rfl, rfl, trivial, rfl, rfl, trivial, rfl, rfl, trivial, trivial⟩
       refine sj <| sn ?_
       refine Br.mk (fun ht => ?_) (fun ht => ?_)
       ·replace h := cond_tt h ht
        refine sj <| bind_elim h fun x19 hx19 h => CallH.ren [0] [1] [.cells 113 [AV.bool x19.2.Reader.Asks, AV.str x19.2.Reader.Method, AV.str x19.2.Reader.Buf, AV.bool x19.2.Reader.In, AV.str x19.2.Reader.Head.Start.Method, AV.str x19.2.Reader.Head.Start.Target, AV.int .i64 x19.2.Reader.Head.Start.Code, AV.str x19.2.Reader.Head.Start.Reason, AV.int .i64 x19.2.Reader.Head.Start.Minor, AV.list 2 (x19.2.Reader.Head.Fields.map S_Field.av), AV.str x19.2.Reader.Head.Body, AV.int .i64 x19.2.Reader.Body.Kind, AV.int .i64 x19.2.Reader.Body.Size, AV.int .i64 x19.2.Reader.Chunk.Stage, AV.str x19.2.Reader.Chunk.Line, AV.int .i64 x19.2.Reader.Chunk.Left, AV.int .i64 x19.2.Reader.Chunk.Size, AV.int .i64 x19.2.Reader.Bad, AV.list 7 (x19.2.out.map S_Message.av)] [(18, 2)]] [0, 0, 1] (wire_reading_fail_ok E (S_wire_reading.mk (S_Reader.mk j1.Reader.Asks j1.Reader.Method j1.Reader.Buf j1.Reader.In (S_Message.mk x12.1 x16.1 j1.Reader.Head.Body) x18.1 j1.Reader.Chunk j1.Reader.Bad) j1.out) x18.2 x19.1 x19.2 hx19) rfl rfl rfl rfl rfl rfl rfl rfl rfl <| sn ?_
        replace h := oi h
        have h0 := (Prod.mk.inj h).1
        have h1 := (Prod.mk.inj h).2
        subst h0
        subst h1
        refine xi [⟨2, AV.bool x19.1, none⟩] (ai (Gho.to _ _ _ [0, 2] ?_ ?_ ?_ rfl rfl ?_) (ai ?_ rfl))
        ·exact ⟨⟨rfl, rfl, rfl⟩, trivial⟩
        ·exact rfl
        ·exact rfl
        ·exact ⟨rfl, rfl, trivial, trivial⟩
        ·exact rfl
       ·replace h := cond_ff h ht
        refine sn <| sj <| bind_elim h fun x20 hx20 h => ?_
        have qx20 := (slc_some hx20).1
        have hx20e := (slc_some hx20).2
        refine ai (fun _ => qx20) <| NormE.to (AV.str x20) (fun _ => congrArg AV.str hx20e.symm) ?_
        refine ai ⟨rfl, rfl, rfl, lb rfl⟩ (xi [AV.bool j1.Reader.Asks, AV.str j1.Reader.Method, AV.str x20, AV.bool j1.Reader.In, AV.str x12.1.Method, AV.str x12.1.Target, AV.int .i64 x12.1.Code, AV.str x12.1.Reason, AV.int .i64 x12.1.Minor, AV.list 2 (x16.1.map S_Field.av), AV.str j1.Reader.Head.Body, AV.int .i64 x18.1.Kind, AV.int .i64 x18.1.Size, AV.int .i64 j1.Reader.Chunk.Stage, AV.str j1.Reader.Chunk.Line, AV.int .i64 j1.Reader.Chunk.Left, AV.int .i64 j1.Reader.Chunk.Size, AV.int .i64 j1.Reader.Bad, AV.list 7 (j1.out.map S_Message.av)] (ai (fun _ => rfl) ?_))
        refine sn <| sj <| sj ?_
        refine SeqN.via (St.of [⟨0, AV.ptr 0 0, none⟩, ⟨9, AV.int .i64 x12.1.Code, none⟩] [.cells 113 [AV.bool j1.Reader.Asks, AV.str j1.Reader.Method, AV.str x20, AV.bool j1.Reader.In, AV.str x12.1.Method, AV.str x12.1.Target, AV.int .i64 x12.1.Code, AV.str x12.1.Reason, AV.int .i64 x12.1.Minor, AV.list 2 (x16.1.map S_Field.av), AV.str j1.Reader.Head.Body, AV.int .i64 x18.1.Kind, AV.int .i64 x18.1.Size, AV.int .i64 j1.Reader.Chunk.Stage, AV.str j1.Reader.Chunk.Line, AV.int .i64 j1.Reader.Chunk.Left, AV.int .i64 j1.Reader.Chunk.Size, AV.int .i64 j1.Reader.Bad, AV.list 7 (j1.out.map S_Message.av)] [(18, 1)]] [0, 1]) ?_ ?_
        ·refine Gho.to _ _ _ [0, 1] ?_ ?_ ?_ rfl rfl ?_
         ·exact ⟨⟨rfl, rfl, rfl⟩, trivial⟩
         ·exact rfl
         ·exact rfl
         ·exact ⟨rfl, rfl, trivial, rfl, rfl, trivial, trivial⟩
        refine sj <| ai id <| ai (fun hg => (and_r hg)) <| sn ?_
        refine Br.mk (fun ht => ?_) (fun ht => ?_)
        ·replace h := cond_tt h ht
         refine sj ?_
         refine xi (some 127) (ai (okM.mk (by kernel_rfl)) ?_)
         refine xi none (ai trivial ?_)
         refine ai ⟨rfl, rfl, rfl, lb rfl⟩ (xi [AV.bool j1.Reader.Asks, AV.str j1.Reader.Method, AV.str x20, AV.bool j1.Reader.In, AV.str ([] : Bytes), AV.str ([] : Bytes), AV.int .i64 (0 : Int), AV.str ([] : Bytes), AV.int .i64 (0 : Int), AV.list 2 (([] : List S_Field).map S_Field.av), AV.str ([] : Bytes), AV.int .i64 x18.1.Kind, AV.int .i64 x18.1.Size, AV.int .i64 j1.Reader.Chunk.Stage, AV.str j1.Reader.Chunk.Line, AV.int .i64 j1.Reader.Chunk.Left, AV.int .i64 j1.Reader.Chunk.Size, AV.int .i64 j1.Reader.Bad, AV.list 7 (j1.out.map S_Message.av)] (ai (fun _ => rfl) ?_))
         refine ai ⟨rfl, rfl, rfl, lb rfl⟩ (xi [AV.bool j1.Reader.Asks, AV.str j1.Reader.Method, AV.str x20, AV.bool j1.Reader.In, AV.str ([] : Bytes), AV.str ([] : Bytes), AV.int .i64 (0 : Int), AV.str ([] : Bytes), AV.int .i64 (0 : Int), AV.list 2 (([] : List S_Field).map S_Field.av), AV.str ([] : Bytes), AV.int .i64 (0 : Int), AV.int .i64 (0 : Int), AV.int .i64 j1.Reader.Chunk.Stage, AV.str j1.Reader.Chunk.Line, AV.int .i64 j1.Reader.Chunk.Left, AV.int .i64 j1.Reader.Chunk.Size, AV.int .i64 j1.Reader.Bad, AV.list 7 (j1.out.map S_Message.av)] (ai (fun _ => rfl) ?_))
         refine SeqN.via (St.of [] [.cells 113 [AV.bool j1.Reader.Asks, AV.str j1.Reader.Method, AV.str x20, AV.bool j1.Reader.In, AV.str ([] : Bytes), AV.str ([] : Bytes), AV.int .i64 (0 : Int), AV.str ([] : Bytes), AV.int .i64 (0 : Int), AV.list 2 (([] : List S_Field).map S_Field.av), AV.str ([] : Bytes), AV.int .i64 (0 : Int), AV.int .i64 (0 : Int), AV.int .i64 j1.Reader.Chunk.Stage, AV.str j1.Reader.Chunk.Line, AV.int .i64 j1.Reader.Chunk.Left, AV.int .i64 j1.Reader.Chunk.Size, AV.int .i64 j1.Reader.Bad, AV.list 7 (j1.out.map S_Message.av)] [(9, 1), (18, 2)]] [0, 1, 1]) ?_ ?_
         ·refine Gho.to _ _ _ [0, 2, 1] ?_ ?_ ?_ rfl rfl ?_
          ·exact ⟨⟨rfl, rfl, rfl⟩, trivial⟩
          ·exact rfl
          ·exact rfl
          ·exact trivial
         refine sj <| sn ?_
         replace h := oi h
         have h0 := (Prod.mk.inj h).1
         have h1 := (Prod.mk.inj h).2
         subst h0
         subst h1
         refine xi [⟨2, AV.bool true, none⟩] (ai (Gho.to _ _ _ [0, 2] ?_ ?_ ?_ rfl rfl ?_) (ai ?_ rfl))
         ·exact ⟨⟨rfl, rfl, rfl⟩, trivial⟩
         ·exact rfl
         ·exact rfl
         ·exact ⟨rfl, rfl, trivial, trivial⟩
         ·exact rfl
        ·replace h := cond_ff h ht
         refine sn <| sj ?_
         refine ai ⟨rfl, rfl, rfl, lb rfl⟩ (xi [AV.bool j1.Reader.Asks, AV.str j1.Reader.Method, AV.str x20, AV.bool true, AV.str x12.1.Method, AV.str x12.1.Target, AV.int .i64 x12.1.Code, AV.str x12.1.Reason, AV.int .i64 x12.1.Minor, AV.list 2 (x16.1.map S_Field.av), AV.str j1.Reader.Head.Body, AV.int .i64 x18.1.Kind, AV.int .i64 x18.1.Size, AV.int .i64 j1.Reader.Chunk.Stage, AV.str j1.Reader.Chunk.Line, AV.int .i64 j1.Reader.Chunk.Left, AV.int .i64 j1.Reader.Chunk.Size, AV.int .i64 j1.Reader.Bad, AV.list 7 (j1.out.map S_Message.av)] (ai (fun _ => rfl) ?_))
         refine sn <| sj <| sn ?_
         replace h := oi h
         have h0 := (Prod.mk.inj h).1
         have h1 := (Prod.mk.inj h).2
         subst h0
         subst h1
         refine xi [⟨2, AV.bool true, none⟩] (ai (Gho.to _ _ _ [0, 1] ?_ ?_ ?_ rfl rfl ?_) (ai ?_ rfl))
         ·exact ⟨⟨rfl, rfl, rfl⟩, trivial⟩
         ·exact rfl
         ·exact rfl
         ·exact ⟨rfl, rfl, trivial, trivial⟩
         ·exact rfl
    ·replace h := cond_ff h ht
     refine sn <| sj <| sj <| bind_elim h fun x21 hx21 h => CallH.data _ false rfl (strings_TrimSuffix_ok E x10.1 ([13] : Bytes) x21 hx21) <| bind_elim h fun x22 hx22 h => CallH.data _ false rfl (start_Status_ok E x21 x22 hx22) ?_
     refine ai ⟨rfl, rfl, rfl, lb rfl⟩ (xi [AV.bool j1.Reader.Asks, AV.str j1.Reader.Method, AV.str j1.Reader.Buf, AV.bool j1.Reader.In, AV.str x22.1.Method, AV.str x22.1.Target, AV.int .i64 x22.1.Code, AV.str x22.1.Reason, AV.int .i64 x22.1.Minor, AV.list 2 (j1.Reader.Head.Fields.map S_Field.av), AV.str j1.Reader.Head.Body, AV.int .i64 j1.Reader.Body.Kind, AV.int .i64 j1.Reader.Body.Size, AV.int .i64 j1.Reader.Chunk.Stage, AV.str j1.Reader.Chunk.Line, AV.int .i64 j1.Reader.Chunk.Left, AV.int .i64 j1.Reader.Chunk.Size, AV.int .i64 j1.Reader.Bad, AV.list 7 (j1.out.map S_Message.av)] (ai (fun _ => rfl) ?_))
     refine SeqN.via (St.of [⟨0, AV.ptr 0 0, none⟩, ⟨3, AV.int .i64 x7.1, none⟩, ⟨4, AV.int .i64 x22.2, none⟩, ⟨6, AV.str x10.2.1, none⟩] [.cells 113 [AV.bool j1.Reader.Asks, AV.str j1.Reader.Method, AV.str j1.Reader.Buf, AV.bool j1.Reader.In, AV.str x22.1.Method, AV.str x22.1.Target, AV.int .i64 x22.1.Code, AV.str x22.1.Reason, AV.int .i64 x22.1.Minor, AV.list 2 (j1.Reader.Head.Fields.map S_Field.av), AV.str j1.Reader.Head.Body, AV.int .i64 j1.Reader.Body.Kind, AV.int .i64 j1.Reader.Body.Size, AV.int .i64 j1.Reader.Chunk.Stage, AV.str j1.Reader.Chunk.Line, AV.int .i64 j1.Reader.Chunk.Left, AV.int .i64 j1.Reader.Chunk.Size, AV.int .i64 j1.Reader.Bad, AV.list 7 (j1.out.map S_Message.av)] [(18, 1)]] [0, 1]) ?_ ?_
     ·refine Gho.to _ _ _ [0, 1] ?_ ?_ ?_ rfl rfl ?_
      ·exact ⟨⟨rfl, rfl, rfl⟩, trivial⟩
      ·exact rfl
      ·exact rfl
      ·exact ⟨rfl, rfl, trivial, rfl, rfl, trivial, rfl, rfl, trivial, rfl, rfl, trivial, trivial⟩
     refine sj <| sn ?_
     refine Br.mk (fun ht => ?_) (fun ht => ?_)
     ·replace h := cond_tt h ht
      refine sj <| bind_elim h fun x23 hx23 h => CallH.ren [0] [1] [.cells 113 [AV.bool x23.2.Reader.Asks, AV.str x23.2.Reader.Method, AV.str x23.2.Reader.Buf, AV.bool x23.2.Reader.In, AV.str x23.2.Reader.Head.Start.Method, AV.str x23.2.Reader.Head.Start.Target, AV.int .i64 x23.2.Reader.Head.Start.Code, AV.str x23.2.Reader.Head.Start.Reason, AV.int .i64 x23.2.Reader.Head.Start.Minor, AV.list 2 (x23.2.Reader.Head.Fields.map S_Field.av), AV.str x23.2.Reader.Head.Body, AV.int .i64 x23.2.Reader.Body.Kind, AV.int .i64 x23.2.Reader.Body.Size, AV.int .i64 x23.2.Reader.Chunk.Stage, AV.str x23.2.Reader.Chunk.Line, AV.int .i64 x23.2.Reader.Chunk.Left, AV.int .i64 x23.2.Reader.Chunk.Size, AV.int .i64 x23.2.Reader.Bad, AV.list 7 (x23.2.out.map S_Message.av)] [(18, 2)]] [0, 0, 1] (wire_reading_fail_ok E (S_wire_reading.mk (S_Reader.mk j1.Reader.Asks j1.Reader.Method j1.Reader.Buf j1.Reader.In (S_Message.mk x22.1 j1.Reader.Head.Fields j1.Reader.Head.Body) j1.Reader.Body j1.Reader.Chunk j1.Reader.Bad) j1.out) x22.2 x23.1 x23.2 hx23) rfl rfl rfl rfl rfl rfl rfl rfl rfl <| sn ?_
      replace h := oi h
      have h0 := (Prod.mk.inj h).1
      have h1 := (Prod.mk.inj h).2
      subst h0
      subst h1
      refine xi [⟨2, AV.bool x23.1, none⟩] (ai (Gho.to _ _ _ [0, 2] ?_ ?_ ?_ rfl rfl ?_) (ai ?_ rfl))
      ·exact ⟨⟨rfl, rfl, rfl⟩, trivial⟩
      ·exact rfl
      ·exact rfl
      ·exact ⟨rfl, rfl, trivial, trivial⟩
      ·exact rfl
     ·replace h := cond_ff h ht
      refine sn <| sj <| bind_elim h fun x24 hx24 h => CallH.data _ false rfl (strings_TrimSuffix_ok E x10.2.1 ([10] : Bytes) x24 hx24) <| bind_elim h fun x25 hx25 h => CallH.data _ false rfl (strings_TrimSuffix_ok E x24 ([13] : Bytes) x25 hx25) <| sn <| sj <| sj <| bind_elim h fun x26 hx26 h => CallH.data _ false rfl (head_Parse_ok E x25 x26 hx26) ?_
      refine ai ⟨rfl, rfl, rfl, lb rfl⟩ (xi [AV.bool j1.Reader.Asks, AV.str j1.Reader.Method, AV.str j1.Reader.Buf, AV.bool j1.Reader.In, AV.str x22.1.Method, AV.str x22.1.Target, AV.int .i64 x22.1.Code, AV.str x22.1.Reason, AV.int .i64 x22.1.Minor, AV.list 2 (x26.1.map S_Field.av), AV.str j1.Reader.Head.Body, AV.int .i64 j1.Reader.Body.Kind, AV.int .i64 j1.Reader.Body.Size, AV.int .i64 j1.Reader.Chunk.Stage, AV.str j1.Reader.Chunk.Line, AV.int .i64 j1.Reader.Chunk.Left, AV.int .i64 j1.Reader.Chunk.Size, AV.int .i64 j1.Reader.Bad, AV.list 7 (j1.out.map S_Message.av)] (ai (fun _ => rfl) ?_))
      refine SeqN.via (St.of [⟨0, AV.ptr 0 0, none⟩, ⟨3, AV.int .i64 x7.1, none⟩, ⟨4, AV.int .i64 x26.2, none⟩] [.cells 113 [AV.bool j1.Reader.Asks, AV.str j1.Reader.Method, AV.str j1.Reader.Buf, AV.bool j1.Reader.In, AV.str x22.1.Method, AV.str x22.1.Target, AV.int .i64 x22.1.Code, AV.str x22.1.Reason, AV.int .i64 x22.1.Minor, AV.list 2 (x26.1.map S_Field.av), AV.str j1.Reader.Head.Body, AV.int .i64 j1.Reader.Body.Kind, AV.int .i64 j1.Reader.Body.Size, AV.int .i64 j1.Reader.Chunk.Stage, AV.str j1.Reader.Chunk.Line, AV.int .i64 j1.Reader.Chunk.Left, AV.int .i64 j1.Reader.Chunk.Size, AV.int .i64 j1.Reader.Bad, AV.list 7 (j1.out.map S_Message.av)] [(18, 1)]] [0, 1]) ?_ ?_
      ·refine Gho.to _ _ _ [0, 1] ?_ ?_ ?_ rfl rfl ?_
       ·exact ⟨⟨rfl, rfl, rfl⟩, trivial⟩
       ·exact rfl
       ·exact rfl
       ·exact ⟨rfl, rfl, trivial, rfl, rfl, trivial, rfl, rfl, trivial, trivial⟩
      refine sj <| sn ?_
      refine Br.mk (fun ht => ?_) (fun ht => ?_)
      ·replace h := cond_tt h ht
       refine sj <| bind_elim h fun x27 hx27 h => CallH.ren [0] [1] [.cells 113 [AV.bool x27.2.Reader.Asks, AV.str x27.2.Reader.Method, AV.str x27.2.Reader.Buf, AV.bool x27.2.Reader.In, AV.str x27.2.Reader.Head.Start.Method, AV.str x27.2.Reader.Head.Start.Target, AV.int .i64 x27.2.Reader.Head.Start.Code, AV.str x27.2.Reader.Head.Start.Reason, AV.int .i64 x27.2.Reader.Head.Start.Minor, AV.list 2 (x27.2.Reader.Head.Fields.map S_Field.av), AV.str x27.2.Reader.Head.Body, AV.int .i64 x27.2.Reader.Body.Kind, AV.int .i64 x27.2.Reader.Body.Size, AV.int .i64 x27.2.Reader.Chunk.Stage, AV.str x27.2.Reader.Chunk.Line, AV.int .i64 x27.2.Reader.Chunk.Left, AV.int .i64 x27.2.Reader.Chunk.Size, AV.int .i64 x27.2.Reader.Bad, AV.list 7 (x27.2.out.map S_Message.av)] [(18, 2)]] [0, 0, 1] (wire_reading_fail_ok E (S_wire_reading.mk (S_Reader.mk j1.Reader.Asks j1.Reader.Method j1.Reader.Buf j1.Reader.In (S_Message.mk x22.1 x26.1 j1.Reader.Head.Body) j1.Reader.Body j1.Reader.Chunk j1.Reader.Bad) j1.out) x26.2 x27.1 x27.2 hx27) rfl rfl rfl rfl rfl rfl rfl rfl rfl <| sn ?_
       replace h := oi h
       have h0 := (Prod.mk.inj h).1
       have h1 := (Prod.mk.inj h).2
       subst h0
       subst h1
       refine xi [⟨2, AV.bool x27.1, none⟩] (ai (Gho.to _ _ _ [0, 2] ?_ ?_ ?_ rfl rfl ?_) (ai ?_ rfl))
       ·exact ⟨⟨rfl, rfl, rfl⟩, trivial⟩
       ·exact rfl
       ·exact rfl
       ·exact ⟨rfl, rfl, trivial, trivial⟩
       ·exact rfl
      ·replace h := cond_ff h ht
       refine sn <| sj <| sj <| ai ⟨lb rfl, lb rfl⟩ <| NormE.to (AV.agg [AV.bool j1.Reader.Asks, AV.str j1.Reader.Method, AV.str j1.Reader.Buf, AV.bool j1.Reader.In, AV.str x22.1.Method, AV.str x22.1.Target, AV.int .i64 x22.1.Code, AV.str x22.1.Reason, AV.int .i64 x22.1.Minor, AV.list 2 (x26.1.map S_Field.av), AV.str j1.Reader.Head.Body, AV.int .i64 j1.Reader.Body.Kind, AV.int .i64 j1.Reader.Body.Size, AV.int .i64 j1.Reader.Chunk.Stage, AV.str j1.Reader.Chunk.Line, AV.int .i64 j1.Reader.Chunk.Left, AV.int .i64 j1.Reader.Chunk.Size, AV.int .i64 j1.Reader.Bad]) (fun _ => rfl) <| bind_elim h fun x28 hx28 h => CallH.data _ false rfl (wire_body_ok E (S_Reader.mk j1.Reader.Asks j1.Reader.Method j1.Reader.Buf j1.Reader.In (S_Message.mk x22.1 x26.1 j1.Reader.Head.Body) j1.Reader.Body j1.Reader.Chunk j1.Reader.Bad) x28 hx28) ?_
       refine ai ⟨rfl, rfl, rfl, lb rfl⟩ (xi [AV.bool j1.Reader.Asks, AV.str j1.Reader.Method, AV.str j1.Reader.Buf, AV.bool j1.Reader.In, AV.str x22.1.Method, AV.str x22.1.Target, AV.int .i64 x22.1.Code, AV.str x22.1.Reason, AV.int .i64 x22.1.Minor, AV.list 2 (x26.1.map S_Field.av), AV.str j1.Reader.Head.Body, AV.int .i64 x28.1.Kind, AV.int .i64 x28.1.Size, AV.int .i64 j1.Reader.Chunk.Stage, AV.str j1.Reader.Chunk.Line, AV.int .i64 j1.Reader.Chunk.Left, AV.int .i64 j1.Reader.Chunk.Size, AV.int .i64 j1.Reader.Bad, AV.list 7 (j1.out.map S_Message.av)] (ai (fun _ => rfl) ?_))
       refine SeqN.via (St.of [⟨0, AV.ptr 0 0, none⟩, ⟨3, AV.int .i64 x7.1, none⟩, ⟨4, AV.int .i64 x28.2, none⟩] [.cells 113 [AV.bool j1.Reader.Asks, AV.str j1.Reader.Method, AV.str j1.Reader.Buf, AV.bool j1.Reader.In, AV.str x22.1.Method, AV.str x22.1.Target, AV.int .i64 x22.1.Code, AV.str x22.1.Reason, AV.int .i64 x22.1.Minor, AV.list 2 (x26.1.map S_Field.av), AV.str j1.Reader.Head.Body, AV.int .i64 x28.1.Kind, AV.int .i64 x28.1.Size, AV.int .i64 j1.Reader.Chunk.Stage, AV.str j1.Reader.Chunk.Line, AV.int .i64 j1.Reader.Chunk.Left, AV.int .i64 j1.Reader.Chunk.Size, AV.int .i64 j1.Reader.Bad, AV.list 7 (j1.out.map S_Message.av)] [(18, 1)]] [0, 1]) ?_ ?_
       ·refine Gho.to _ _ _ [0, 1] ?_ ?_ ?_ rfl rfl ?_
        ·exact ⟨⟨rfl, rfl, rfl⟩, trivial⟩
        ·exact rfl
        ·exact rfl
        ·exact ⟨rfl, rfl, trivial, rfl, rfl, trivial, rfl, rfl, trivial, trivial⟩
       refine sj <| sn ?_
       refine Br.mk (fun ht => ?_) (fun ht => ?_)
       ·replace h := cond_tt h ht
        refine sj <| bind_elim h fun x29 hx29 h => CallH.ren [0] [1] [.cells 113 [AV.bool x29.2.Reader.Asks, AV.str x29.2.Reader.Method, AV.str x29.2.Reader.Buf, AV.bool x29.2.Reader.In, AV.str x29.2.Reader.Head.Start.Method, AV.str x29.2.Reader.Head.Start.Target, AV.int .i64 x29.2.Reader.Head.Start.Code, AV.str x29.2.Reader.Head.Start.Reason, AV.int .i64 x29.2.Reader.Head.Start.Minor, AV.list 2 (x29.2.Reader.Head.Fields.map S_Field.av), AV.str x29.2.Reader.Head.Body, AV.int .i64 x29.2.Reader.Body.Kind, AV.int .i64 x29.2.Reader.Body.Size, AV.int .i64 x29.2.Reader.Chunk.Stage, AV.str x29.2.Reader.Chunk.Line, AV.int .i64 x29.2.Reader.Chunk.Left, AV.int .i64 x29.2.Reader.Chunk.Size, AV.int .i64 x29.2.Reader.Bad, AV.list 7 (x29.2.out.map S_Message.av)] [(18, 2)]] [0, 0, 1] (wire_reading_fail_ok E (S_wire_reading.mk (S_Reader.mk j1.Reader.Asks j1.Reader.Method j1.Reader.Buf j1.Reader.In (S_Message.mk x22.1 x26.1 j1.Reader.Head.Body) x28.1 j1.Reader.Chunk j1.Reader.Bad) j1.out) x28.2 x29.1 x29.2 hx29) rfl rfl rfl rfl rfl rfl rfl rfl rfl <| sn ?_
        replace h := oi h
        have h0 := (Prod.mk.inj h).1
        have h1 := (Prod.mk.inj h).2
        subst h0
        subst h1
        refine xi [⟨2, AV.bool x29.1, none⟩] (ai (Gho.to _ _ _ [0, 2] ?_ ?_ ?_ rfl rfl ?_) (ai ?_ rfl))
        ·exact ⟨⟨rfl, rfl, rfl⟩, trivial⟩
        ·exact rfl
        ·exact rfl
        ·exact ⟨rfl, rfl, trivial, trivial⟩
        ·exact rfl
       ·replace h := cond_ff h ht
        refine sn <| sj <| bind_elim h fun x30 hx30 h => ?_
        have qx30 := (slc_some hx30).1
        have hx30e := (slc_some hx30).2
        refine ai (fun _ => qx30) <| NormE.to (AV.str x30) (fun _ => congrArg AV.str hx30e.symm) ?_
        refine ai ⟨rfl, rfl, rfl, lb rfl⟩ (xi [AV.bool j1.Reader.Asks, AV.str j1.Reader.Method, AV.str x30, AV.bool j1.Reader.In, AV.str x22.1.Method, AV.str x22.1.Target, AV.int .i64 x22.1.Code, AV.str x22.1.Reason, AV.int .i64 x22.1.Minor, AV.list 2 (x26.1.map S_Field.av), AV.str j1.Reader.Head.Body, AV.int .i64 x28.1.Kind, AV.int .i64 x28.1.Size, AV.int .i64 j1.Reader.Chunk.Stage, AV.str j1.Reader.Chunk.Line, AV.int .i64 j1.Reader.Chunk.Left, AV.int .i64 j1.Reader.Chunk.Size, AV.int .i64 j1.Reader.Bad, AV.list 7 (j1.out.map S_Message.av)] (ai (fun _ => rfl) ?_))
        refine sn <| sj <| sj ?_
        refine SeqN.via (St.of [⟨0, AV.ptr 0 0, none⟩, ⟨9, AV.int .i64 x22.1.Code, none⟩] [.cells 113 [AV.bool j1.Reader.Asks, AV.str j1.Reader.Method, AV.str x30, AV.bool j1.Reader.In, AV.str x22.1.Method, AV.str x22.1.Target, AV.int .i64 x22.1.Code, AV.str x22.1.Reason, AV.int .i64 x22.1.Minor, AV.list 2 (x26.1.map S_Field.av), AV.str j1.Reader.Head.Body, AV.int .i64 x28.1.Kind, AV.int .i64 x28.1.Size, AV.int .i64 j1.Reader.Chunk.Stage, AV.str j1.Reader.Chunk.Line, AV.int .i64 j1.Reader.Chunk.Left, AV.int .i64 j1.Reader.Chunk.Size, AV.int .i64 j1.Reader.Bad, AV.list 7 (j1.out.map S_Message.av)] [(18, 1)]] [0, 1]) ?_ ?_
        ·refine Gho.to _ _ _ [0, 1] ?_ ?_ ?_ rfl rfl ?_
         ·exact ⟨⟨rfl, rfl, rfl⟩, trivial⟩
         ·exact rfl
         ·exact rfl
         ·exact ⟨rfl, rfl, trivial, rfl, rfl, trivial, trivial⟩
        refine sj <| ai id <| ai (fun hg => (and_r hg)) <| sn ?_
        refine Br.mk (fun ht => ?_) (fun ht => ?_)
        ·replace h := cond_tt h ht
         refine sj ?_
         refine xi (some 127) (ai (okM.mk (by kernel_rfl)) ?_)
         refine xi none (ai trivial ?_)
         refine ai ⟨rfl, rfl, rfl, lb rfl⟩ (xi [AV.bool j1.Reader.Asks, AV.str j1.Reader.Method, AV.str x30, AV.bool j1.Reader.In, AV.str ([] : Bytes), AV.str ([] : Bytes), AV.int .i64 (0 : Int), AV.str ([] : Bytes), AV.int .i64 (0 : Int), AV.list 2 (([] : List S_Field).map S_Field.av), AV.str ([] : Bytes), AV.int .i64 x28.1.Kind, AV.int .i64 x28.1.Size, AV.int .i64 j1.Reader.Chunk.Stage, AV.str j1.Reader.Chunk.Line, AV.int .i64 j1.Reader.Chunk.Left, AV.int .i64 j1.Reader.Chunk.Size, AV.int .i64 j1.Reader.Bad, AV.list 7 (j1.out.map S_Message.av)] (ai (fun _ => rfl) ?_))
         refine ai ⟨rfl, rfl, rfl, lb rfl⟩ (xi [AV.bool j1.Reader.Asks, AV.str j1.Reader.Method, AV.str x30, AV.bool j1.Reader.In, AV.str ([] : Bytes), AV.str ([] : Bytes), AV.int .i64 (0 : Int), AV.str ([] : Bytes), AV.int .i64 (0 : Int), AV.list 2 (([] : List S_Field).map S_Field.av), AV.str ([] : Bytes), AV.int .i64 (0 : Int), AV.int .i64 (0 : Int), AV.int .i64 j1.Reader.Chunk.Stage, AV.str j1.Reader.Chunk.Line, AV.int .i64 j1.Reader.Chunk.Left, AV.int .i64 j1.Reader.Chunk.Size, AV.int .i64 j1.Reader.Bad, AV.list 7 (j1.out.map S_Message.av)] (ai (fun _ => rfl) ?_))
         refine SeqN.via (St.of [] [.cells 113 [AV.bool j1.Reader.Asks, AV.str j1.Reader.Method, AV.str x30, AV.bool j1.Reader.In, AV.str ([] : Bytes), AV.str ([] : Bytes), AV.int .i64 (0 : Int), AV.str ([] : Bytes), AV.int .i64 (0 : Int), AV.list 2 (([] : List S_Field).map S_Field.av), AV.str ([] : Bytes), AV.int .i64 (0 : Int), AV.int .i64 (0 : Int), AV.int .i64 j1.Reader.Chunk.Stage, AV.str j1.Reader.Chunk.Line, AV.int .i64 j1.Reader.Chunk.Left, AV.int .i64 j1.Reader.Chunk.Size, AV.int .i64 j1.Reader.Bad, AV.list 7 (j1.out.map S_Message.av)] [(9, 1), (18, 2)]] [0, 1, 1]) ?_ ?_
         ·refine Gho.to _ _ _ [0, 2, 1] ?_ ?_ ?_ rfl rfl ?_
          ·exact ⟨⟨rfl, rfl, rfl⟩, trivial⟩
          ·exact rfl
          ·exact rfl
          ·exact trivial
         refine sj <| sn ?_
         replace h := oi h
         have h0 := (Prod.mk.inj h).1
         have h1 := (Prod.mk.inj h).2
         subst h0
         subst h1
         refine xi [⟨2, AV.bool true, none⟩] (ai (Gho.to _ _ _ [0, 2] ?_ ?_ ?_ rfl rfl ?_) (ai ?_ rfl))
         ·exact ⟨⟨rfl, rfl, rfl⟩, trivial⟩
         ·exact rfl
         ·exact rfl
         ·exact ⟨rfl, rfl, trivial, trivial⟩
         ·exact rfl
        ·replace h := cond_ff h ht
         refine sn <| sj ?_
         refine ai ⟨rfl, rfl, rfl, lb rfl⟩ (xi [AV.bool j1.Reader.Asks, AV.str j1.Reader.Method, AV.str x30, AV.bool true, AV.str x22.1.Method, AV.str x22.1.Target, AV.int .i64 x22.1.Code, AV.str x22.1.Reason, AV.int .i64 x22.1.Minor, AV.list 2 (x26.1.map S_Field.av), AV.str j1.Reader.Head.Body, AV.int .i64 x28.1.Kind, AV.int .i64 x28.1.Size, AV.int .i64 j1.Reader.Chunk.Stage, AV.str j1.Reader.Chunk.Line, AV.int .i64 j1.Reader.Chunk.Left, AV.int .i64 j1.Reader.Chunk.Size, AV.int .i64 j1.Reader.Bad, AV.list 7 (j1.out.map S_Message.av)] (ai (fun _ => rfl) ?_))
         refine sn <| sj <| sn ?_
         replace h := oi h
         have h0 := (Prod.mk.inj h).1
         have h1 := (Prod.mk.inj h).2
         subst h0
         subst h1
         refine xi [⟨2, AV.bool true, none⟩] (ai (Gho.to _ _ _ [0, 1] ?_ ?_ ?_ rfl rfl ?_) (ai ?_ rfl))
         ·exact ⟨⟨rfl, rfl, rfl⟩, trivial⟩
         ·exact rfl
         ·exact rfl
         ·exact ⟨rfl, rfl, trivial, trivial⟩
         ·exact rfl
theorem wire_Feed_ok (E : Pm.Env) [LaidM E] (a0 : S_Reader) (a1 : Bytes) (r : (S_Reader × (List S_Message) × Int)) (h : wire_Feed a0 a1 = some r) : FnR E Tryz.prog 24 [S_Reader.av a0, AV.str a1] (AV.tup [S_Reader.av r.1, AV.list 7 (r.2.1.map S_Message.av), AV.int .i64 r.2.2]) false := by
 refine FnR.of_ev (T := T) (rows := []) tOk mixed Tryz.func24 rfl (by kernel_rfl) (by kernel_rfl) rfl fun hwf => ?_
 unfold wire_Feed at h
 refine sj <| ai rfl <| ai rfl <| sn <| sj <| sj <| ai ⟨lb rfl, lb rfl⟩ <| NormE.to (S_Reader.av a0) (fun _ => rfl) <| bind_elim h fun x1 hx1 h => CallH.data _ false rfl (wire_Right_ok E a0 x1 hx1) <| sn ?_
 refine Br.mk (fun ht => ?_) (fun ht => ?_)
 ·replace h := cond_tt h ht
  refine sj ?_
  refine xi (some 262143) (ai (okM.mk (by kernel_rfl)) ?_)
  refine ai ⟨rfl, rfl, rfl, lb rfl⟩ (xi [AV.bool false, AV.str ([] : Bytes), AV.str ([] : Bytes), AV.bool false, AV.str ([] : Bytes), AV.str ([] : Bytes), AV.int .i64 (0 : Int), AV.str ([] : Bytes), AV.int .i64 (0 : Int), AV.list 2 (([] : List S_Field).map S_Field.av), AV.str ([] : Bytes), AV.int .i64 (0 : Int), AV.int .i64 (0 : Int), AV.int .i64 (0 : Int), AV.str ([] : Bytes), AV.int .i64 (0 : Int), AV.int .i64 (0 : Int), AV.int .i64 (0 : Int)] (ai (fun _ => rfl) ?_))
  refine sn ?_
  replace h := oi h
  refine RetE.plain ?_
  refine ai ⟨lb rfl, lb rfl⟩ (xi (AV.agg [AV.bool false, AV.str ([] : Bytes), AV.str ([] : Bytes), AV.bool false, AV.str ([] : Bytes), AV.str ([] : Bytes), AV.int .i64 (0 : Int), AV.str ([] : Bytes), AV.int .i64 (0 : Int), AV.list 2 (([] : List S_Field).map S_Field.av), AV.str ([] : Bytes), AV.int .i64 (0 : Int), AV.int .i64 (0 : Int), AV.int .i64 (0 : Int), AV.str ([] : Bytes), AV.int .i64 (0 : Int), AV.int .i64 (0 : Int), AV.int .i64 (0 : Int)]) (ai rfl ?_))
  exact ai rfl (ai (congrArg (fun r : (S_Reader × (List S_Message) × Int) => AV.tup [S_Reader.av r.1, AV.list 7 (r.2.1.map S_Message.av), AV.int .i64 r.2.2]) h) rfl)
 ·replace h := cond_ff h ht
  refine sn <| sj <| sj <| sn ?_
  refine Br.mk (fun ht => ?_) (fun ht => ?_)
  ·replace h := cond_tt h ht
   refine sj <| ai ⟨lb rfl, lb rfl⟩ <| NormE.to (S_Reader.av a0) (fun _ => rfl) ?_
   refine ai ⟨rfl, rfl, rfl, lb rfl⟩ (xi (S_Reader.cells a0) (ai (fun _ => rfl) ?_))
   refine sn ?_
   replace h := oi h
   refine RetE.plain ?_
   refine ai ⟨lb rfl, lb rfl⟩ (xi (S_Reader.av a0) (ai rfl ?_))
   exact ai rfl (ai (congrArg (fun r : (S_Reader × (List S_Message) × Int) => AV.tup [S_Reader.av r.1, AV.list 7 (r.2.1.map S_Message.av), AV.int .i64 r.2.2]) h) rfl)
  ·replace h := cond_ff h ht
   refine sn <| sj <| ai ⟨lb rfl, lb rfl⟩ <| NormE.to (S_Reader.av a0) (fun _ => rfl) <| ai ⟨rfl, rfl, lb rfl⟩ ?_
   refine xi (some 262144) (ai (okM.mk (by kernel_rfl)) ?_)
   refine ai rfl <| sn <| sj <| bind_elim h fun x2 hx2 h => ?_
   have hx2c := (cat_some hx2).1
   have hx2e := (cat_some hx2).2
   refine ai (fun _ => hx2c) <| NormE.to (AV.str x2) (fun _ => congrArg AV.str hx2e.symm) ?_
   refine ai ⟨rfl, rfl, rfl, lb rfl⟩ (xi [AV.bool a0.Asks, AV.str a0.Method, AV.str x2, AV.bool a0.In, AV.str a0.Head.Start.Method, AV.str a0.Head.Start.Target, AV.int .i64 a0.Head.Start.Code, AV.str a0.Head.Start.Reason, AV.int .i64 a0.Head.Start.Minor, AV.list 2 (a0.Head.Fields.map S_Field.av), AV.str a0.Head.Body, AV.int .i64 a0.Body.Kind, AV.int .i64 a0.Body.Size, AV.int .i64 a0.Chunk.Stage, AV.str a0.Chunk.Line, AV.int .i64 a0.Chunk.Left, AV.int .i64 a0.Chunk.Size, AV.int .i64 a0.Bad, AV.list 7 (([] : List S_Message).map S_Message.av)] (ai (fun _ => rfl) ?_))
   refine SeqN.via (St.of [⟨4, AV.ptr 1 0, none⟩, ⟨7, AV.ptr 2 0, none⟩] [.dead, .cells 52 [AV.bool false, AV.str ([] : Bytes), AV.str ([] : Bytes), AV.bool false, AV.str ([] : Bytes), AV.str ([] : Bytes), AV.int .i64 (0 : Int), AV.str ([] : Bytes), AV.int .i64 (0 : Int), AV.list 2 (([] : List S_Field).map S_Field.av), AV.str ([] : Bytes), AV.int .i64 (0 : Int), AV.int .i64 (0 : Int), AV.int .i64 (0 : Int), AV.str ([] : Bytes), AV.int .i64 (0 : Int), AV.int .i64 (0 : Int), AV.int .i64 (0 : Int)] [(9, 0)], .cells 113 [AV.bool a0.Asks, AV.str a0.Method, AV.str x2, AV.bool a0.In, AV.str a0.Head.Start.Method, AV.str a0.Head.Start.Target, AV.int .i64 a0.Head.Start.Code, AV.str a0.Head.Start.Reason, AV.int .i64 a0.Head.Start.Minor, AV.list 2 (a0.Head.Fields.map S_Field.av), AV.str a0.Head.Body, AV.int .i64 a0.Body.Kind, AV.int .i64 a0.Body.Size, AV.int .i64 a0.Chunk.Stage, AV.str a0.Chunk.Line, AV.int .i64 a0.Chunk.Left, AV.int .i64 a0.Chunk.Size, AV.int .i64 a0.Bad, AV.list 7 (([] : List S_Message).map S_Message.av)] [(18, 1)]] [1, 1]) ?_ ?_
   ·refine Gho.to _ _ _ [0, 2] ?_ ?_ ?_ rfl rfl ?_
    ·exact ⟨trivial, ⟨⟨rfl, rfl, rfl⟩, ⟨⟨rfl, rfl, rfl⟩, trivial⟩⟩⟩
    ·exact rfl
    ·exact rfl
    ·exact ⟨rfl, rfl, trivial, rfl, rfl, trivial, trivial⟩
   refine LoopE.img (fun x : S_wire_reading => St.of [⟨4, AV.ptr 1 0, none⟩, ⟨7, AV.ptr 2 0, none⟩] [.dead, .cells 52 [AV.bool false, AV.str ([] : Bytes), AV.str ([] : Bytes), AV.bool false, AV.str ([] : Bytes), AV.str ([] : Bytes), AV.int .i64 (0 : Int), AV.str ([] : Bytes), AV.int .i64 (0 : Int), AV.list 2 (([] : List S_Field).map S_Field.av), AV.str ([] : Bytes), AV.int .i64 (0 : Int), AV.int .i64 (0 : Int), AV.int .i64 (0 : Int), AV.str ([] : Bytes), AV.int .i64 (0 : Int), AV.int .i64 (0 : Int), AV.int .i64 (0 : Int)] [(9, 0)], .cells 113 [AV.bool x.Reader.Asks, AV.str x.Reader.Method, AV.str x.Reader.Buf, AV.bool x.Reader.In, AV.str x.Reader.Head.Start.Method, AV.str x.Reader.Head.Start.Target, AV.int .i64 x.Reader.Head.Start.Code, AV.str x.Reader.Head.Start.Reason, AV.int .i64 x.Reader.Head.Start.Minor, AV.list 2 (x.Reader.Head.Fields.map S_Field.av), AV.str x.Reader.Head.Body, AV.int .i64 x.Reader.Body.Kind, AV.int .i64 x.Reader.Body.Size, AV.int .i64 x.Reader.Chunk.Stage, AV.str x.Reader.Chunk.Line, AV.int .i64 x.Reader.Chunk.Left, AV.int .i64 x.Reader.Chunk.Size, AV.int .i64 x.Reader.Bad, AV.list 7 (x.out.map S_Message.av)] [(18, 1)]] [1, 1]) wire_Feed_b1 (S_wire_reading.mk (S_Reader.mk a0.Asks a0.Method x2 a0.In a0.Head a0.Body a0.Chunk a0.Bad) ([] : List S_Message)) h ?_ ?_
   ·refine Gho.to _ _ _ [0, 1] ?_ ?_ ?_ rfl rfl ?_
    ·exact ⟨trivial, ⟨⟨rfl, rfl, rfl⟩, ⟨⟨rfl, rfl, rfl⟩, trivial⟩⟩⟩
    ·exact rfl
    ·exact rfl
    ·exact ⟨rfl, rfl, trivial, rfl, rfl, trivial, trivial⟩
   intro n1 x y1 h hl1 hr1
   revert h; revert x; intro s3 h
   unfold wire_Feed_b1 at h
   refine sj <| sn <| sj <| sj <| sn ?_
   refine Br.mk (fun ht => ?_) (fun ht => ?_)
   ·replace h := cond_tt h ht
    refine sn <| sj <| bind_elim h fun x4 hx4 h => CallH.ren [2] [1] [.dead, .cells 52 [AV.bool false, AV.str ([] : Bytes), AV.str ([] : Bytes), AV.bool false, AV.str ([] : Bytes), AV.str ([] : Bytes), AV.int .i64 (0 : Int), AV.str ([] : Bytes), AV.int .i64 (0 : Int), AV.list 2 (([] : List S_Field).map S_Field.av), AV.str ([] : Bytes), AV.int .i64 (0 : Int), AV.int .i64 (0 : Int), AV.int .i64 (0 : Int), AV.str ([] : Bytes), AV.int .i64 (0 : Int), AV.int .i64 (0 : Int), AV.int .i64 (0 : Int)] [(9, 0)], .cells 113 [AV.bool x4.2.Reader.Asks, AV.str x4.2.Reader.Method, AV.str x4.2.Reader.Buf, AV.bool x4.2.Reader.In, AV.str x4.2.Reader.Head.Start.Method, AV.str x4.2.Reader.Head.Start.Target, AV.int .i64 x4.2.Reader.Head.Start.Code, AV.str x4.2.Reader.Head.Start.Reason, AV.int .i64 x4.2.Reader.Head.Start.Minor, AV.list 2 (x4.2.Reader.Head.Fields.map S_Field.av), AV.str x4.2.Reader.Head.Body, AV.int .i64 x4.2.Reader.Body.Kind, AV.int .i64 x4.2.Reader.Body.Size, AV.int .i64 x4.2.Reader.Chunk.Stage, AV.str x4.2.Reader.Chunk.Line, AV.int .i64 x4.2.Reader.Chunk.Left, AV.int .i64 x4.2.Reader.Chunk.Size, AV.int .i64 x4.2.Reader.Bad, AV.list 7 (x4.2.out.map S_Message.av)] [(18, 2)]] [1, 0, 1] (wire_reading_more_ok E s3 x4.1 x4.2 hx4) rfl rfl rfl rfl rfl rfl rfl rfl rfl <| sn ?_
    refine Br.mk (fun ht => ?_) (fun ht => ?_)
    ·replace h := cond_tt h ht
     refine sj <| ai ⟨lb rfl, lb rfl⟩ <| NormE.to (AV.agg [AV.bool x4.2.Reader.Asks, AV.str x4.2.Reader.Method, AV.str x4.2.Reader.Buf, AV.bool x4.2.Reader.In, AV.str x4.2.Reader.Head.Start.Method, AV.str x4.2.Reader.Head.Start.Target, AV.int .i64 x4.2.Reader.Head.Start.Code, AV.str x4.2.Reader.Head.Start.Reason, AV.int .i64 x4.2.Reader.Head.Start.Minor, AV.list 2 (x4.2.Reader.Head.Fields.map S_Field.av), AV.str x4.2.Reader.Head.Body, AV.int .i64 x4.2.Reader.Body.Kind, AV.int .i64 x4.2.Reader.Body.Size, AV.int .i64 x4.2.Reader.Chunk.Stage, AV.str x4.2.Reader.Chunk.Line, AV.int .i64 x4.2.Reader.Chunk.Left, AV.int .i64 x4.2.Reader.Chunk.Size, AV.int .i64 x4.2.Reader.Bad]) (fun _ => rfl) ?_
     refine ai ⟨rfl, rfl, rfl, lb rfl⟩ (xi [AV.bool x4.2.Reader.Asks, AV.str x4.2.Reader.Method, AV.str x4.2.Reader.Buf, AV.bool x4.2.Reader.In, AV.str x4.2.Reader.Head.Start.Method, AV.str x4.2.Reader.Head.Start.Target, AV.int .i64 x4.2.Reader.Head.Start.Code, AV.str x4.2.Reader.Head.Start.Reason, AV.int .i64 x4.2.Reader.Head.Start.Minor, AV.list 2 (x4.2.Reader.Head.Fields.map S_Field.av), AV.str x4.2.Reader.Head.Body, AV.int .i64 x4.2.Reader.Body.Kind, AV.int .i64 x4.2.Reader.Body.Size, AV.int .i64 x4.2.Reader.Chunk.Stage, AV.str x4.2.Reader.Chunk.Line, AV.int .i64 x4.2.Reader.Chunk.Left, AV.int .i64 x4.2.Reader.Chunk.Size, AV.int .i64 x4.2.Reader.Bad] (ai (fun _ => rfl) ?_))
     refine ai (by kernel_rfl) ?_
     refine SeqN.via (St.of [⟨4, AV.ptr 1 0, none⟩, ⟨5, AV.list 7 (x4.2.out.map S_Message.av), some 0⟩, ⟨6, AV.int .i64 (0 : Int), none⟩] [.dead, .cells 52 [AV.bool x4.2.Reader.Asks, AV.str x4.2.Reader.Method, AV.str x4.2.Reader.Buf, AV.bool x4.2.Reader.In, AV.str x4.2.Reader.Head.Start.Method, AV.str x4.2.Reader.Head.Start.Target, AV.int .i64 x4.2.Reader.Head.Start.Code, AV.str x4.2.Reader.Head.Start.Reason, AV.int .i64 x4.2.Reader.Head.Start.Minor, AV.list 2 (x4.2.Reader.Head.Fields.map S_Field.av), AV.str x4.2.Reader.Head.Body, AV.int .i64 x4.2.Reader.Body.Kind, AV.int .i64 x4.2.Reader.Body.Size, AV.int .i64 x4.2.Reader.Chunk.Stage, AV.str x4.2.Reader.Chunk.Line, AV.int .i64 x4.2.Reader.Chunk.Left, AV.int .i64 x4.2.Reader.Chunk.Size, AV.int .i64 x4.2.Reader.Bad] []] [1]) ?_ ?_
     ·refine Gho.to _ _ _ [2] ?_ ?_ ?_ rfl rfl ?_
      ·exact ⟨trivial, ⟨⟨rfl, rfl, rfl⟩, trivial⟩⟩
      ·exact rfl
      ·exact rfl
      ·exact ⟨rfl, rfl, trivial, rfl, rfl, ⟨rfl, rfl, rfl⟩, rfl, rfl, trivial, trivial⟩
     replace h := oi h
     replace h := hr1 _ h.symm
     refine RetE.plain ?_
     refine ai ⟨lb rfl, lb rfl⟩ (xi (AV.agg [AV.bool x4.2.Reader.Asks, AV.str x4.2.Reader.Method, AV.str x4.2.Reader.Buf, AV.bool x4.2.Reader.In, AV.str x4.2.Reader.Head.Start.Method, AV.str x4.2.Reader.Head.Start.Target, AV.int .i64 x4.2.Reader.Head.Start.Code, AV.str x4.2.Reader.Head.Start.Reason, AV.int .i64 x4.2.Reader.Head.Start.Minor, AV.list 2 (x4.2.Reader.Head.Fields.map S_Field.av), AV.str x4.2.Reader.Head.Body, AV.int .i64 x4.2.Reader.Body.Kind, AV.int .i64 x4.2.Reader.Body.Size, AV.int .i64 x4.2.Reader.Chunk.Stage, AV.str x4.2.Reader.Chunk.Line, AV.int .i64 x4.2.Reader.Chunk.Left, AV.int .i64 x4.2.Reader.Chunk.Size, AV.int .i64 x4.2.Reader.Bad]) (ai rfl ?_))
     exact ai rfl (ai (congrArg (fun r : (S_Reader × (List S_Message) × Int) => AV.tup [S_Reader.av r.1, AV.list 7 (r.2.1.map S_Message.av), AV.int .i64 r.2.2]) h) rfl)
    ·replace h := cond_ff h ht
     replace h := oi h
     refine xi ⟨(n1, x4.2), hl1 _ h.symm⟩ (ai (Nat.lt_succ_self _) ?_)
     refine Gho.to _ _ _ [0, 2] ?_ ?_ ?_ rfl rfl ?_
     ·exact ⟨trivial, ⟨⟨rfl, rfl, rfl⟩, ⟨⟨rfl, rfl, rfl⟩, trivial⟩⟩⟩
     ·exact rfl
     ·exact rfl
     ·exact ⟨rfl, rfl, trivial, rfl, rfl, trivial, trivial⟩
   ·replace h := cond_ff h ht
    refine sn <| sj <| bind_elim h fun x5 hx5 h => CallH.ren [2] [1] [.dead, .cells 52 [AV.bool false, AV.str ([] : Bytes), AV.str ([] : Bytes), AV.bool false, AV.str ([] : Bytes), AV.str ([] : Bytes), AV.int .i64 (0 : Int), AV.str ([] : Bytes), AV.int .i64 (0 : Int), AV.list 2 (([] : List S_Field).map S_Field.av), AV.str ([] : Bytes), AV.int .i64 (0 : Int), AV.int .i64 (0 : Int), AV.int .i64 (0 : Int), AV.str ([] : Bytes), AV.int .i64 (0 : Int), AV.int .i64 (0 : Int), AV.int .i64 (0 : Int)] [(9, 0)], .cells 113 [AV.bool x5.2.Reader.Asks, AV.str x5.2.Reader.Method, AV.str x5.2.Reader.Buf, AV.bool x5.2.Reader.In, AV.str x5.2.Reader.Head.Start.Method, AV.str x5.2.Reader.Head.Start.Target, AV.int .i64 x5.2.Reader.Head.Start.Code, AV.str x5.2.Reader.Head.Start.Reason, AV.int .i64 x5.2.Reader.Head.Start.Minor, AV.list 2 (x5.2.Reader.Head.Fields.map S_Field.av), AV.str x5.2.Reader.Head.Body, AV.int .i64 x5.2.Reader.Body.Kind, AV.int .i64 x5.2.Reader.Body.Size, AV.int .i64 x5.2.Reader.Chunk.Stage, AV.str x5.2.Reader.Chunk.Line, AV.int .i64 x5.2.Reader.Chunk.Left, AV.int .i64 x5.2.Reader.Chunk.Size, AV.int .i64 x5.2.Reader.Bad, AV.list 7 (x5.2.out.map S_Message.av)] [(18, 2)]] [1, 0, 1] (wire_reading_begin_ok E s3 x5.1 x5.2 hx5) rfl rfl rfl rfl rfl rfl rfl rfl rfl <| sn ?_
    refine Br.mk (fun ht => ?_) (fun ht => ?_)
    ·replace h := cond_tt h ht
     refine sj <| ai ⟨lb rfl, lb rfl⟩ <| NormE.to (AV.agg [AV.bool x5.2.Reader.Asks, AV.str x5.2.Reader.Method, AV.str x5.2.Reader.Buf, AV.bool x5.2.Reader.In, AV.str x5.2.Reader.Head.Start.Method, AV.str x5.2.Reader.Head.Start.Target, AV.int .i64 x5.2.Reader.Head.Start.Code, AV.str x5.2.Reader.Head.Start.Reason, AV.int .i64 x5.2.Reader.Head.Start.Minor, AV.list 2 (x5.2.Reader.Head.Fields.map S_Field.av), AV.str x5.2.Reader.Head.Body, AV.int .i64 x5.2.Reader.Body.Kind, AV.int .i64 x5.2.Reader.Body.Size, AV.int .i64 x5.2.Reader.Chunk.Stage, AV.str x5.2.Reader.Chunk.Line, AV.int .i64 x5.2.Reader.Chunk.Left, AV.int .i64 x5.2.Reader.Chunk.Size, AV.int .i64 x5.2.Reader.Bad]) (fun _ => rfl) ?_
     refine ai ⟨rfl, rfl, rfl, lb rfl⟩ (xi [AV.bool x5.2.Reader.Asks, AV.str x5.2.Reader.Method, AV.str x5.2.Reader.Buf, AV.bool x5.2.Reader.In, AV.str x5.2.Reader.Head.Start.Method, AV.str x5.2.Reader.Head.Start.Target, AV.int .i64 x5.2.Reader.Head.Start.Code, AV.str x5.2.Reader.Head.Start.Reason, AV.int .i64 x5.2.Reader.Head.Start.Minor, AV.list 2 (x5.2.Reader.Head.Fields.map S_Field.av), AV.str x5.2.Reader.Head.Body, AV.int .i64 x5.2.Reader.Body.Kind, AV.int .i64 x5.2.Reader.Body.Size, AV.int .i64 x5.2.Reader.Chunk.Stage, AV.str x5.2.Reader.Chunk.Line, AV.int .i64 x5.2.Reader.Chunk.Left, AV.int .i64 x5.2.Reader.Chunk.Size, AV.int .i64 x5.2.Reader.Bad] (ai (fun _ => rfl) ?_))
     refine ai (by kernel_rfl) ?_
     refine SeqN.via (St.of [⟨4, AV.ptr 1 0, none⟩, ⟨5, AV.list 7 (x5.2.out.map S_Message.av), some 0⟩, ⟨6, AV.int .i64 (0 : Int), none⟩] [.dead, .cells 52 [AV.bool x5.2.Reader.Asks, AV.str x5.2.Reader.Method, AV.str x5.2.Reader.Buf, AV.bool x5.2.Reader.In, AV.str x5.2.Reader.Head.Start.Method, AV.str x5.2.Reader.Head.Start.Target, AV.int .i64 x5.2.Reader.Head.Start.Code, AV.str x5.2.Reader.Head.Start.Reason, AV.int .i64 x5.2.Reader.Head.Start.Minor, AV.list 2 (x5.2.Reader.Head.Fields.map S_Field.av), AV.str x5.2.Reader.Head.Body, AV.int .i64 x5.2.Reader.Body.Kind, AV.int .i64 x5.2.Reader.Body.Size, AV.int .i64 x5.2.Reader.Chunk.Stage, AV.str x5.2.Reader.Chunk.Line, AV.int .i64 x5.2.Reader.Chunk.Left, AV.int .i64 x5.2.Reader.Chunk.Size, AV.int .i64 x5.2.Reader.Bad] []] [1]) ?_ ?_
     ·refine Gho.to _ _ _ [2] ?_ ?_ ?_ rfl rfl ?_
      ·exact ⟨trivial, ⟨⟨rfl, rfl, rfl⟩, trivial⟩⟩
      ·exact rfl
      ·exact rfl
      ·exact ⟨rfl, rfl, trivial, rfl, rfl, ⟨rfl, rfl, rfl⟩, rfl, rfl, trivial, trivial⟩
     replace h := oi h
     replace h := hr1 _ h.symm
     refine RetE.plain ?_
     refine ai ⟨lb rfl, lb rfl⟩ (xi (AV.agg [AV.bool x5.2.Reader.Asks, AV.str x5.2.Reader.Method, AV.str x5.2.Reader.Buf, AV.bool x5.2.Reader.In, AV.str x5.2.Reader.Head.Start.Method, AV.str x5.2.Reader.Head.Start.Target, AV.int .i64 x5.2.Reader.Head.Start.Code, AV.str x5.2.Reader.Head.Start.Reason, AV.int .i64 x5.2.Reader.Head.Start.Minor, AV.list 2 (x5.2.Reader.Head.Fields.map S_Field.av), AV.str x5.2.Reader.Head.Body, AV.int .i64 x5.2.Reader.Body.Kind, AV.int .i64 x5.2.Reader.Body.Size, AV.int .i64 x5.2.Reader.Chunk.Stage, AV.str x5.2.Reader.Chunk.Line, AV.int .i64 x5.2.Reader.Chunk.Left, AV.int .i64 x5.2.Reader.Chunk.Size, AV.int .i64 x5.2.Reader.Bad]) (ai rfl ?_))
     exact ai rfl (ai (congrArg (fun r : (S_Reader × (List S_Message) × Int) => AV.tup [S_Reader.av r.1, AV.list 7 (r.2.1.map S_Message.av), AV.int .i64 r.2.2]) h) rfl)
    ·replace h := cond_ff h ht
     replace h := oi h
     refine xi ⟨(n1, x5.2), hl1 _ h.symm⟩ (ai (Nat.lt_succ_self _) ?_)
     refine Gho.to _ _ _ [0, 2] ?_ ?_ ?_ rfl rfl ?_
     ·exact ⟨trivial, ⟨⟨rfl, rfl, rfl⟩, ⟨⟨rfl, rfl, rfl⟩, trivial⟩⟩⟩
     ·exact rfl
     ·exact rfl
     ·exact ⟨rfl, rfl, trivial, rfl, rfl, trivial, trivial⟩
theorem wire_New_ok (E : Pm.Env) [LaidM E] (a0 : Bool) (a1 : Bytes) (r : S_Reader) (h : wire_New a0 a1 = some r) : FnR E Tryz.prog 25 [AV.bool a0, AV.str a1] (S_Reader.av r) false := by
 refine FnR.of_ev (T := T) (rows := []) tOk mixed Tryz.func25 rfl (by kernel_rfl) (by kernel_rfl) rfl fun hwf => ?_
 unfold wire_New at h
 refine sj <| ai rfl <| sn <| sj <| ai ⟨rfl, rfl, lb rfl⟩ <| ai ⟨rfl, rfl, lb rfl⟩ ?_
 refine xi (some 262140) (ai (okM.mk (by kernel_rfl)) ?_)
 refine ai ⟨rfl, rfl, rfl, lb rfl⟩ (xi [AV.bool a0, AV.str a1, AV.str ([] : Bytes), AV.bool false, AV.str ([] : Bytes), AV.str ([] : Bytes), AV.int .i64 (0 : Int), AV.str ([] : Bytes), AV.int .i64 (0 : Int), AV.list 2 (([] : List S_Field).map S_Field.av), AV.str ([] : Bytes), AV.int .i64 (0 : Int), AV.int .i64 (0 : Int), AV.int .i64 (0 : Int), AV.str ([] : Bytes), AV.int .i64 (0 : Int), AV.int .i64 (0 : Int), AV.int .i64 (0 : Int)] (ai (fun _ => rfl) ?_))
 refine sn ?_
 replace h := oi h
 refine RetE.plain ?_
 refine ai ⟨lb rfl, lb rfl⟩ (xi (AV.agg [AV.bool a0, AV.str a1, AV.str ([] : Bytes), AV.bool false, AV.str ([] : Bytes), AV.str ([] : Bytes), AV.int .i64 (0 : Int), AV.str ([] : Bytes), AV.int .i64 (0 : Int), AV.list 2 (([] : List S_Field).map S_Field.av), AV.str ([] : Bytes), AV.int .i64 (0 : Int), AV.int .i64 (0 : Int), AV.int .i64 (0 : Int), AV.str ([] : Bytes), AV.int .i64 (0 : Int), AV.int .i64 (0 : Int), AV.int .i64 (0 : Int)]) (ai rfl ?_))
 exact ai rfl (ai (congrArg (fun r : S_Reader => S_Reader.av r) h) rfl)
theorem intarsiaref04_Like_ok (E : Pm.Env) [LaidM E] (a0 : (List S_Field)) (a1 : (List S_Field)) (r : Bool) (h : intarsiaref04_Like a0 a1 = some r) : FnR E Tryz.prog 77 [AV.list 2 (a0.map S_Field.av), AV.list 2 (a1.map S_Field.av)] (AV.bool r) false := by
 refine FnR.of_ev (T := T) (rows := []) tOk mixed Tryz.func77 rfl (by kernel_rfl) (by kernel_rfl) rfl fun hwf => ?_
 unfold intarsiaref04_Like at h
 refine sj <| sn <| sj <| sj <| NormE.to (AV.int .i64 (a0.length : Int)) (fun _ => len_list S_Field.av a0) <| NormE.to (AV.int .i64 (a1.length : Int)) (fun _ => len_list S_Field.av a1) <| sn ?_
 refine Br.mk (fun ht => ?_) (fun ht => ?_)
 ·replace h := cond_tt h ht
  refine sj <| sn ?_
  replace h := oi h
  refine RetE.plain ?_
  exact ai rfl (ai (congrArg (fun r : Bool => AV.bool r) h) rfl)
 ·replace h := cond_ff h ht
  refine sn <| sj <| sj <| NormE.to (AV.int .i64 (a0.length : Int)) (fun _ => len_list S_Field.av a0) <| sn ?_
  refine LoopE.img (fun x : Int => St.of [⟨0, AV.list 2 (a0.map S_Field.av), none⟩, ⟨1, AV.list 2 (a1.map S_Field.av), none⟩, ⟨12, AV.int .i64 (a0.length : Int), none⟩, ⟨13, AV.int .i64 x, none⟩] [] []) (intarsiaref04_Like_b1 a0 a1) (0 : Int) h ?_ ?_
  ·refine Gho.to _ _ _ [] ?_ ?_ ?_ rfl rfl ?_
   ·exact trivial
   ·exact rfl
   ·exact rfl
   ·exact ⟨rfl, rfl, trivial, rfl, rfl, trivial, rfl, rfl, trivial, rfl, rfl, trivial, trivial⟩
  intro n1 x y1 h hl1 hr1
  revert h; revert x; intro s1 h
  unfold intarsiaref04_Like_b1 at h
  refine sj <| sn <| sj ?_
  refine Br.mk (fun ht => ?_) (fun ht => ?_)
  ·replace h := cond_tt h ht
   refine sn <| sj <| sj <| sn <| sj <| bind_elim h fun x2 hx2 h => ?_
   refine ai rfl (xi (S_Field.av x2) (ai (fun hg => idx_map _ hx2) ?_))
   refine ai (lb rfl) <| NormE.to (S_Field.av x2) (fun _ => rfl) <| bind_elim h fun x3 hx3 h => ?_
   refine ai rfl (xi (S_Field.av x3) (ai (fun hg => idx_map _ hx3) ?_))
   refine ai (lb rfl) <| NormE.to (S_Field.av x3) (fun _ => rfl) <| ai rfl <| ai (by kernel_rfl) <| sn ?_
   refine Br.mk (fun ht => ?_) (fun ht => ?_)
   ·replace h := cond_tt h ht
    refine sj <| sn ?_
    replace h := oi h
    replace h := hr1 _ h.symm
    refine RetE.plain ?_
    exact ai rfl (ai (congrArg (fun r : Bool => AV.bool r) h) rfl)
   ·replace h := cond_ff h ht
    refine sn ?_
    replace h := oi h
    refine xi ⟨(n1, (IntKind.i64.wrap (s1 + (1 : Int)))), hl1 _ h.symm⟩ (ai (Nat.lt_succ_self _) ?_)
    refine Gho.to _ _ _ [] ?_ ?_ ?_ rfl rfl ?_
    ·exact trivial
    ·exact rfl
    ·exact rfl
    ·exact ⟨rfl, rfl, trivial, rfl, rfl, trivial, rfl, rfl, trivial, rfl, rfl, trivial, trivial⟩
  ·replace h := cond_ff h ht
   refine sn <| sj <| sn ?_
   replace h := oi h
   replace h := hr1 _ h.symm
   refine RetE.plain ?_
   exact ai rfl (ai (congrArg (fun r : Bool => AV.bool r) h) rfl)
theorem intarsiaref10_Like_ok (E : Pm.Env) [LaidM E] (a0 : S_Message) (a1 : S_Message) (r : Bool) (h : intarsiaref10_Like a0 a1 = some r) : FnR E Tryz.prog 32 [S_Message.av a0, S_Message.av a1] (AV.bool r) false := by
 refine FnR.of_ev (T := T) (rows := []) tOk mixed Tryz.func32 rfl (by kernel_rfl) (by kernel_rfl) rfl fun hwf => ?_
 unfold intarsiaref10_Like at h
 refine sj <| ai rfl <| ai rfl <| sn <| sj <| ai ⟨lb rfl, lb rfl⟩ <| NormE.to (S_Start.av a0.Start) (fun _ => rfl) <| ai ⟨lb rfl, lb rfl⟩ <| NormE.to (S_Start.av a1.Start) (fun _ => rfl) <| ai rfl <| ai id <| ai id <| bind_elim h fun x1 hx1 h => ai id <| ai id <| ai rfl ?_
 refine CallF.mk _ false (fun hg => intarsiaref04_Like_ok E a0.Fields a1.Fields x1 (gcall_some hx1 hg)) (ai rfl ?_)
 refine ai (fun hg => (and_r hg)) <| ai id <| ai id <| ai id <| ai id <| ai (fun hg => (and_r hg)) ?_
 refine SeqN.via (St.of [⟨4, AV.bool (bif (bif ((a0.Start.Method == a1.Start.Method) && ((a0.Start.Target == a1.Start.Target) && ((a0.Start.Code == a1.Start.Code) && ((a0.Start.Reason == a1.Start.Reason) && ((a0.Start.Minor == a1.Start.Minor) && true))))) then x1 else false) then (a0.Body == a1.Body) else false), none⟩] [] []) ?_ ?_
 ·refine Gho.to _ _ _ [] ?_ ?_ ?_ rfl rfl ?_
  ·exact trivial
  ·exact rfl
  ·exact rfl
  ·exact ⟨rfl, rfl, trivial, trivial⟩
 replace h := oi h
 refine RetE.plain ?_
 exact ai rfl (ai (congrArg (fun r : Bool => AV.bool r) h) rfl)
theorem intarsiaref10_LikeReader_ok (E : Pm.Env) [LaidM E] (a0 : S_Reader) (a1 : S_Reader) (r : Bool) (h : intarsiaref10_LikeReader a0 a1 = some r) : FnR E Tryz.prog 29 [S_Reader.av a0, S_Reader.av a1] (AV.bool r) false := by
 refine FnR.of_ev (T := T) (rows := []) tOk mixed Tryz.func29 rfl (by kernel_rfl) (by kernel_rfl) rfl fun hwf => ?_
 unfold intarsiaref10_LikeReader at h
 refine sj <| ai rfl <| ai rfl <| sn <| sj <| ai rfl <| ai id <| ai id <| ai id <| ai id <| ai (fun hg => (and_r hg)) <| ai id <| ai id <| ai id <| ai id <| ai (fun hg => (and_r hg)) <| ai id <| ai id <| ai id <| ai id <| ai rfl <| ai (fun hg => (and_r hg)) <| ai id <| ai ⟨lb rfl, lb rfl⟩ <| NormE.to (S_Message.av a0.Head) (fun _ => rfl) <| ai id <| ai ⟨lb rfl, lb rfl⟩ <| NormE.to (S_Message.av a1.Head) (fun _ => rfl) <| bind_elim h fun x1 hx1 h => ai id <| ai id <| ai rfl ?_
 refine CallF.mk _ false (fun hg => intarsiaref10_Like_ok E a0.Head a1.Head x1 (gcall_some hx1 hg)) (ai rfl ?_)
 refine ai (fun hg => (and_r hg)) <| ai id <| ai ⟨lb rfl, lb rfl⟩ <| NormE.to (S_Body.av a0.Body) (fun _ => rfl) <| ai id <| ai ⟨lb rfl, lb rfl⟩ <| NormE.to (S_Body.av a1.Body) (fun _ => rfl) <| ai id <| ai id <| ai rfl <| ai (fun hg => (and_r hg)) <| ai id <| ai ⟨lb rfl, lb rfl⟩ <| NormE.to (S_Chunked.av a0.Chunk) (fun _ => rfl) <| ai id <| ai ⟨lb rfl, lb rfl⟩ <| NormE.to (S_Chunked.av a1.Chunk) (fun _ => rfl) <| ai id <| ai id <| ai rfl <| ai (fun hg => (and_r hg)) <| ai id <| ai id <| ai id <| ai id <| ai (fun hg => (and_r hg)) ?_
 refine SeqN.via (St.of [⟨4, AV.bool (bif (bif (bif (bif (bif (bif (bif (a0.Asks == a1.Asks) then (a0.Method == a1.Method) else false) then (a0.Buf == a1.Buf) else false) then (a0.In == a1.In) else false) then x1 else false) then ((a0.Body.Kind == a1.Body.Kind) && ((a0.Body.Size == a1.Body.Size) && true)) else false) then ((a0.Chunk.Stage == a1.Chunk.Stage) && ((a0.Chunk.Line == a1.Chunk.Line) && ((a0.Chunk.Left == a1.Chunk.Left) && ((a0.Chunk.Size == a1.Chunk.Size) && true)))) else false) then (a0.Bad == a1.Bad) else false), none⟩] [] []) ?_ ?_
 ·refine Gho.to _ _ _ [] ?_ ?_ ?_ rfl rfl ?_
  ·exact trivial
  ·exact rfl
  ·exact rfl
  ·exact ⟨rfl, rfl, trivial, trivial⟩
 replace h := oi h
 refine RetE.plain ?_
 exact ai rfl (ai (congrArg (fun r : Bool => AV.bool r) h) rfl)
theorem intarsiaref10_Same_ok (E : Pm.Env) [LaidM E] (a0 : (List S_Message)) (a1 : (List S_Message)) (r : Bool) (h : intarsiaref10_Same a0 a1 = some r) : FnR E Tryz.prog 28 [AV.list 7 (a0.map S_Message.av), AV.list 7 (a1.map S_Message.av)] (AV.bool r) false := by
 refine FnR.of_ev (T := T) (rows := []) tOk mixed Tryz.func28 rfl (by kernel_rfl) (by kernel_rfl) rfl fun hwf => ?_
 unfold intarsiaref10_Same at h
 refine sj <| sn <| sj <| sj <| NormE.to (AV.int .i64 (a0.length : Int)) (fun _ => len_list S_Message.av a0) <| NormE.to (AV.int .i64 (a1.length : Int)) (fun _ => len_list S_Message.av a1) <| sn ?_
 refine Br.mk (fun ht => ?_) (fun ht => ?_)
 ·replace h := cond_tt h ht
  refine sj <| sn ?_
  replace h := oi h
  refine RetE.plain ?_
  exact ai rfl (ai (congrArg (fun r : Bool => AV.bool r) h) rfl)
 ·replace h := cond_ff h ht
  refine sn <| sj <| sj <| NormE.to (AV.int .i64 (a0.length : Int)) (fun _ => len_list S_Message.av a0) <| sn ?_
  refine LoopE.img (fun x : Int => St.of [⟨0, AV.list 7 (a0.map S_Message.av), none⟩, ⟨1, AV.list 7 (a1.map S_Message.av), none⟩, ⟨12, AV.int .i64 (a0.length : Int), none⟩, ⟨13, AV.int .i64 x, none⟩] [] []) (intarsiaref10_Same_b1 a0 a1) (0 : Int) h ?_ ?_
  ·refine Gho.to _ _ _ [] ?_ ?_ ?_ rfl rfl ?_
   ·exact trivial
   ·exact rfl
   ·exact rfl
   ·exact ⟨rfl, rfl, trivial, rfl, rfl, trivial, rfl, rfl, trivial, rfl, rfl, trivial, trivial⟩
  intro n1 x y1 h hl1 hr1
  revert h; revert x; intro s1 h
  unfold intarsiaref10_Same_b1 at h
  refine sj <| sn <| sj ?_
  refine Br.mk (fun ht => ?_) (fun ht => ?_)
  ·replace h := cond_tt h ht
   refine sn <| sj <| sj <| sn <| sj <| bind_elim h fun x2 hx2 h => ?_
   refine ai rfl (xi (S_Message.av x2) (ai (fun hg => idx_map _ hx2) ?_))
   refine ai (lb rfl) <| NormE.to (S_Message.av x2) (fun _ => rfl) <| bind_elim h fun x3 hx3 h => ?_
   refine ai rfl (xi (S_Message.av x3) (ai (fun hg => idx_map _ hx3) ?_))
   refine ai (lb rfl) <| NormE.to (S_Message.av x3) (fun _ => rfl) <| bind_elim h fun x4 hx4 h => CallH.data _ false rfl (intarsiaref10_Like_ok E x2 x3 x4 hx4) <| ai (by kernel_rfl) <| sn ?_
   refine Br.mk (fun ht => ?_) (fun ht => ?_)
   ·replace h := cond_tt h ht
    refine sj <| sn ?_
    replace h := oi h
    replace h := hr1 _ h.symm
    refine RetE.plain ?_
    exact ai rfl (ai (congrArg (fun r : Bool => AV.bool r) h) rfl)
   ·replace h := cond_ff h ht
    refine sn ?_
    replace h := oi h
    refine xi ⟨(n1, (IntKind.i64.wrap (s1 + (1 : Int)))), hl1 _ h.symm⟩ (ai (Nat.lt_succ_self _) ?_)
    refine Gho.to _ _ _ [] ?_ ?_ ?_ rfl rfl ?_
    ·exact trivial
    ·exact rfl
    ·exact rfl
    ·exact ⟨rfl, rfl, trivial, rfl, rfl, trivial, rfl, rfl, trivial, rfl, rfl, trivial, trivial⟩
  ·replace h := cond_ff h ht
   refine sn <| sj <| sn ?_
   replace h := oi h
   replace h := hr1 _ h.symm
   refine RetE.plain ?_
   exact ai rfl (ai (congrArg (fun r : Bool => AV.bool r) h) rfl)
end Go.Proofs.YtkfoahoplndelaaGreatDoor
