/-
  The functions do what their images say: walks, written by a program of mine (gen.py).
-/
import Derived.Test.YtommkfooolabhaaGreatDoorIw1
import Derived.Test.YtommkfooolabhaaGreatDoorWk11
import Derived.Test.YtommkfooolabhaaGreatDoorPm31
namespace Go.Proofs.YtommkfooolabhaaGreatDoor
open Go Go.Pm
set_option linter.unusedSimpArgs false
open And renaming intro -> ai
open Exists renaming intro -> xi
open Option.some renaming inj -> oi
open _root_.Nat renaming le_of_ble_eq_true -> lb
open Go.Pm.SeqJ renaming go -> sj
open Go.Pm.SeqN renaming go -> sn
set_option maxRecDepth 100000
set_option maxHeartbeats 4000000
set_option linter.unusedVariables false
instance chunk_Feed_ok (E : Pm.Env) [LaidM E] (a0 : S_Chunked) (a1 : Bytes) : Ok E (chunk_Feed a0 a1) (fun r => FnR E Tryz.prog 109 [S_Chunked.av a0, ss a1] (AV.tup [S_Chunked.av r.1, ss r.2.1, ii r.2.2.1, ii r.2.2.2]) false) := ⟨fun r h => by
 refine FnR.of_ev (T := T) (rows := [9]) tOk mixed Tryz.func109 rfl (by kernel_rfl) (by kernel_rfl) rfl fun hwf => ?_
 unfold chunk_Feed at h
 refine sj <| ai rfl ?_
 refine xi [] (xi 0 (ai ⟨rfl, rfl⟩ ?_))
 refine ai rfl <| sn <| sj <| sj <| ai ⟨lb rfl, lb rfl⟩ ?_
 refine xi none (ai rfl ?_)
 refine NormE.to (S_Chunked.av a0) (fun _ => rfl) <| bind_elim h fun x1 hx1 h => CallH.data _ false rfl ((chunk_Right_ok E a0).1 x1 hx1) <| sn ?_
 refine Br.of h (fun ht h => ?_) fun ht h => ?_
 ·exact W
 ·refine sn <| sj <| ai ⟨lb rfl, lb rfl⟩ ?_
  refine xi none (ai rfl ?_)
  refine NormE.to (S_Chunked.av a0) (fun _ => rfl) <| ai ⟨rfl, rfl, lb rfl⟩ ?_
  refine xi none (ai trivial ?_)
  refine ai rfl ?_
  refine xi [] (xi 0 (ai ⟨rfl, rfl⟩ ?_))
  refine sn <| sj ?_
  refine xi 5 (ai rfl ?_)
  refine sn <| sj <| sn <| sj ?_
  refine LoopE.img (fun x : (Int × S_chunk_state × Bytes) => St.of [⟨1, ss a1, none⟩, ⟨4, AV.ptr 1 0, none⟩, ⟨8, AV.ptr 2 0, none⟩, ⟨9, AV.ptr 3 0, none⟩, ⟨10, ii x.1, none⟩] [.dead, .cells 44 [ii 0, ss [], ii 0, ii 0] [], .cells 199 (S_chunk_state.cells x.2.1) [], .mp (.bld 176 5 x.2.2)] []) (chunk_Feed_b1 a1) ((0 : Int), (S_chunk_state.mk a0 (0 : Int)), ([] : Bytes)) h ?_ ?_
  ·exact W
  intro n1 x y1 h hl1 hr1
  obtain ⟨s2, s3, s4⟩ := x
  unfold chunk_Feed_b1 at h
  dsimp only at h
  refine sj <| sj <| NormE.same <| ai id <| ai id <| ai id <| ai id <| ai id <| ai (fun hg => (and_r hg)) <| sn ?_
  refine Br.of h (fun ht h => ?_) fun ht h => ?_
  ·refine sn <| sj <| sj <| sn ?_
   refine Br.of h (fun ht h => ?_) fun ht h => ?_
   ·refine sj <| bind_elim h fun x5 hx5 h => ?_
    have qx5 := (slc_some hx5).1
    have hx5e := (slc_some hx5).2
    refine ai (fun _ => qx5) <| NormE.to (ss x5) (fun _ => congrArg ss hx5e.symm) <| bind_elim h fun x6 hx6 h => CallH.ren [2] [] [.dead, .cells 44 [ii 0, ss [], ii 0, ii 0] [], .cells 199 (S_chunk_state.cells x6.2) [], .mp (.bld 176 5 s4)] [] (chunk_state_line_ok E s3 x5 x6.1 x6.2 hx6) rfl rfl rfl rfl rfl rfl rfl rfl rfl <| sn <| sj <| sj <| sn ?_
    exact W
   ·refine sn <| sj <| NormE.same <| ai rfl <| sn <| sj <| bind_elim h fun x7 hx7 h => ?_
    have qx7 := (slc_some hx7).1
    have hx7e := (slc_some hx7).2
    refine ai (fun _ => qx7) <| NormE.to (ss x7) (fun _ => congrArg ss hx7e.symm) <| bind_elim h fun x8 hx8 h => ?_
    have qx8 := (bcat_some hx8).1
    have hx8e := (bcat_some hx8).2
    refine CallH.bldW L166 XB 3 s4 x7 rfl 176 5 rfl rfl [.dead, .cells 44 [ii 0, ss [], ii 0, ii 0] [], .cells 199 (S_chunk_state.cells s3) [], .mp (.bld 176 5 (s4 ++ x7))] [] rfl qx8 rfl rfl <| sn <| sj <| sn <| sj ?_
    refine ai ⟨rfl, rfl, rfl, lb rfl⟩ (xi [ii s3.Chunked.Stage, ss s3.Chunked.Line, ii s3.Chunked.Left, ii (IntKind.i64.wrap (s3.Chunked.Size + (imin s3.Chunked.Left (IntKind.i64.wrap ((a1.length : Int) - s2))))), ii s3.bad] (ai (fun _ => rfl) ?_))
    refine sn <| sj ?_
    refine ai ⟨rfl, rfl, rfl, lb rfl⟩ (xi [ii s3.Chunked.Stage, ss s3.Chunked.Line, ii (IntKind.i64.wrap (s3.Chunked.Left - (imin s3.Chunked.Left (IntKind.i64.wrap ((a1.length : Int) - s2))))), ii (IntKind.i64.wrap (s3.Chunked.Size + (imin s3.Chunked.Left (IntKind.i64.wrap ((a1.length : Int) - s2))))), ii s3.bad] (ai (fun _ => rfl) ?_))
    refine sn <| sj <| sn ?_
    refine Br.of h (fun ht h => ?_) fun ht h => ?_
    ·exact W
    ·exact W
  ·refine sn <| sj <| Or.inl <| ai ⟨lb rfl, lb rfl⟩ ?_
   refine xi none (ai rfl ?_)
   refine NormE.to (S_Chunked.av s3.Chunked) (fun _ => rfl) <| bind_elim h fun x9 hx9 h => ?_
   have qx9 := (bcat_some hx9).1
   have hx9e := (bcat_some hx9).2
   refine CallH.bldS L169 XB 3 s4 rfl 176 5 rfl rfl [.dead, .cells 44 [ii 0, ss [], ii 0, ii 0] [], .cells 199 (S_chunk_state.cells s3) [], .dead] [] rfl qx9 rfl rfl ?_
   exact W⟩
theorem wire_reading_fail_ok (E : Pm.Env) [LaidM E] (o0 : S_wire_reading) (a1 : Int) (r : Bool) (o0' : S_wire_reading) (h : wire_reading_fail o0 a1 = some (r, o0')) : FnW E Tryz.prog 102 [AV.ptr 0 0, ii a1] [.cells 122 (S_wire_reading.cells o0) [(18, 0)]] [1] (bb r) none [.cells 122 (S_wire_reading.cells o0') [(18, 1)]] [0, 1] := by
 refine FnW.of_evB (T := T) (rows := []) tOk mixed Tryz.func102 rfl (by kernel_rfl) (by kernel_rfl) rfl rfl fun hwf => ?_
 unfold wire_reading_fail at h
 refine sj <| sn <| sj <| Or.inl <| ai ⟨rfl, rfl, lb rfl⟩ <| ai ⟨rfl, rfl, lb rfl⟩ <| ai ⟨rfl, rfl, lb rfl⟩ ?_
 refine xi (some 80485752395443136602965282816) (ai (okM.mk (show (80485752395443136602965282816 : Nat) = freeM T _ _ _ from by kernel_rfl)) ?_)
 refine ai ⟨rfl, rfl, rfl, lb rfl⟩ (xi [bb o0.Reader.Asks, ss o0.Reader.Method, ss [], bb false, ss [], ss [], ii 0, ss [], ii 0, AV.list 2 (([] : List S_Field).map S_Field.av), ss [], ii 0, ii 0, ii 0, ss [], ii 0, ii 0, ii a1, AV.list 7 (o0.out.map S_Message.av)] (ai (fun _ => rfl) ?_))
 refine xi [(9, 1), (18, 0)] (xi 1 (ai ⟨(by kernel_rfl), rfl⟩ ?_))
 refine ai (by kernel_rfl) <| sn <| sj <| sn ?_
 replace h := oi h
 have h0 := (Prod.mk.inj h).1
 have h1 := (Prod.mk.inj h).2
 subst h0
 subst h1
 refine xi [⟨4, bb false, none⟩] (xi [.cells 122 [bb o0.Reader.Asks, ss o0.Reader.Method, ss [], bb false, ss [], ss [], ii 0, ss [], ii 0, AV.list 2 (([] : List S_Field).map S_Field.av), ss [], ii 0, ii 0, ii 0, ss [], ii 0, ii 0, ii a1, AV.list 7 (o0.out.map S_Message.av)] [(18, 1)]] (ai rfl (ai (Gho.to _ _ _ [0, 0] ?_ ?_ ?_ rfl rfl ?_) (ai ?_ rfl))))
 ·exact ⟨⟨rfl, rfl, rfl⟩, trivial⟩
 ·exact rfl
 ·exact rfl
 ·exact tr3 <| trivial
 ·exact rfl
theorem wire_reading_more_ok (E : Pm.Env) [LaidM E] (o0 : S_wire_reading) (r : Bool) (o0' : S_wire_reading) (h : wire_reading_more o0 = some (r, o0')) : FnW E Tryz.prog 64 [AV.ptr 0 0] [.cells 122 (S_wire_reading.cells o0) [(18, 0)]] [1] (bb r) none [.cells 122 (S_wire_reading.cells o0') [(18, 1)]] [0, 1] := by
 refine FnW.of_evB (T := T) (rows := [87, 145]) tOk mixed Tryz.func64 rfl (by kernel_rfl) (by kernel_rfl) rfl rfl fun hwf => ?_
 unfold wire_reading_more at h
 refine sj <| sn <| sj <| NormE.same <| sn <| sj <| sj <| sn <| sj <| sn ?_
 refine Br.of h (fun ht h => ?_) fun ht h => ?_
 ·refine sj <| bind_elim h fun x1 hx1 h => CallH.ren [0] [0] [.cells 122 [bb x1.2.Reader.Asks, ss x1.2.Reader.Method, ss x1.2.Reader.Buf, bb x1.2.Reader.In, ss x1.2.Reader.Head.Start.Method, ss x1.2.Reader.Head.Start.Target, ii x1.2.Reader.Head.Start.Code, ss x1.2.Reader.Head.Start.Reason, ii x1.2.Reader.Head.Start.Minor, AV.list 2 (x1.2.Reader.Head.Fields.map S_Field.av), ss x1.2.Reader.Head.Body, ii x1.2.Reader.Body.Kind, ii x1.2.Reader.Body.Size, ii x1.2.Reader.Chunk.Stage, ss x1.2.Reader.Chunk.Line, ii x1.2.Reader.Chunk.Left, ii x1.2.Reader.Chunk.Size, ii x1.2.Reader.Bad, AV.list 7 (x1.2.out.map S_Message.av)] [(18, 1)]] [0, 1] (wire_reading_whole_ok E o0 x1.1 x1.2 hx1) rfl rfl rfl rfl rfl rfl rfl rfl rfl <| sn ?_
  replace h := oi h
  have h0 := (Prod.mk.inj h).1
  have h1 := (Prod.mk.inj h).2
  subst h0
  subst h1
  refine xi [⟨2, bb x1.1, none⟩] (xi [.cells 122 [bb x1.2.Reader.Asks, ss x1.2.Reader.Method, ss x1.2.Reader.Buf, bb x1.2.Reader.In, ss x1.2.Reader.Head.Start.Method, ss x1.2.Reader.Head.Start.Target, ii x1.2.Reader.Head.Start.Code, ss x1.2.Reader.Head.Start.Reason, ii x1.2.Reader.Head.Start.Minor, AV.list 2 (x1.2.Reader.Head.Fields.map S_Field.av), ss x1.2.Reader.Head.Body, ii x1.2.Reader.Body.Kind, ii x1.2.Reader.Body.Size, ii x1.2.Reader.Chunk.Stage, ss x1.2.Reader.Chunk.Line, ii x1.2.Reader.Chunk.Left, ii x1.2.Reader.Chunk.Size, ii x1.2.Reader.Bad, AV.list 7 (x1.2.out.map S_Message.av)] [(18, 1)]] (ai rfl (ai (Gho.to _ _ _ [0, 1] ?_ ?_ ?_ rfl rfl ?_) (ai ?_ rfl))))
  ·exact ⟨⟨rfl, rfl, rfl⟩, trivial⟩
  ·exact rfl
  ·exact rfl
  ·exact tr3 <| trivial
  ·exact rfl
 ·refine sj <| sn ?_
  refine Br.of h (fun ht h => ?_) fun ht h => ?_
  ·refine sj <| Or.inl <| NormE.same <| ai rfl <| ai (by kernel_rfl) <| sn <| sj <| Or.inl <| bind_elim h fun x2 hx2 h => ?_
   have qx2 := (slc_some hx2).1
   have hx2e := (slc_some hx2).2
   refine ai (fun _ => qx2) <| NormE.to (ss x2) (fun _ => congrArg ss hx2e.symm) <| bind_elim h fun x3 hx3 h => ?_
   have hx3c := (cat_some hx3).1
   have hx3e := (cat_some hx3).2
   refine ai (fun _ => hx3c) <| NormE.to (ss x3) (fun _ => congrArg ss hx3e.symm) ?_
   refine ai ⟨rfl, rfl, rfl, lb rfl⟩ (xi [bb o0.Reader.Asks, ss o0.Reader.Method, ss o0.Reader.Buf, bb o0.Reader.In, ss o0.Reader.Head.Start.Method, ss o0.Reader.Head.Start.Target, ii o0.Reader.Head.Start.Code, ss o0.Reader.Head.Start.Reason, ii o0.Reader.Head.Start.Minor, AV.list 2 (o0.Reader.Head.Fields.map S_Field.av), ss x3, ii o0.Reader.Body.Kind, ii o0.Reader.Body.Size, ii o0.Reader.Chunk.Stage, ss o0.Reader.Chunk.Line, ii o0.Reader.Chunk.Left, ii o0.Reader.Chunk.Size, ii o0.Reader.Bad, AV.list 7 (o0.out.map S_Message.av)] (ai (fun _ => rfl) ?_))
   refine ai (by kernel_rfl) <| sn <| sj <| bind_elim h fun x4 hx4 h => ?_
   have qx4 := (slc_some hx4).1
   have hx4e := (slc_some hx4).2
   refine ai (fun _ => qx4) <| NormE.to (ss x4) (fun _ => congrArg ss hx4e.symm) ?_
   refine ai ⟨rfl, rfl, rfl, lb rfl⟩ (xi [bb o0.Reader.Asks, ss o0.Reader.Method, ss x4, bb o0.Reader.In, ss o0.Reader.Head.Start.Method, ss o0.Reader.Head.Start.Target, ii o0.Reader.Head.Start.Code, ss o0.Reader.Head.Start.Reason, ii o0.Reader.Head.Start.Minor, AV.list 2 (o0.Reader.Head.Fields.map S_Field.av), ss x3, ii o0.Reader.Body.Kind, ii o0.Reader.Body.Size, ii o0.Reader.Chunk.Stage, ss o0.Reader.Chunk.Line, ii o0.Reader.Chunk.Left, ii o0.Reader.Chunk.Size, ii o0.Reader.Bad, AV.list 7 (o0.out.map S_Message.av)] (ai (fun _ => rfl) ?_))
   refine sn <| sj <| Or.inl <| NormE.same ?_
   refine and_of h (fun ht h => ?_) fun ht h => ?_
   ·refine bind_elim h fun x5 hx5 h => ai (fun _ => id ht) <| CallH.ren [0] [0] [.cells 122 [bb x5.2.Reader.Asks, ss x5.2.Reader.Method, ss x5.2.Reader.Buf, bb x5.2.Reader.In, ss x5.2.Reader.Head.Start.Method, ss x5.2.Reader.Head.Start.Target, ii x5.2.Reader.Head.Start.Code, ss x5.2.Reader.Head.Start.Reason, ii x5.2.Reader.Head.Start.Minor, AV.list 2 (x5.2.Reader.Head.Fields.map S_Field.av), ss x5.2.Reader.Head.Body, ii x5.2.Reader.Body.Kind, ii x5.2.Reader.Body.Size, ii x5.2.Reader.Chunk.Stage, ss x5.2.Reader.Chunk.Line, ii x5.2.Reader.Chunk.Left, ii x5.2.Reader.Chunk.Size, ii x5.2.Reader.Bad, AV.list 7 (x5.2.out.map S_Message.av)] [(18, 1)]] [0, 1] (wire_reading_whole_ok E (S_wire_reading.mk (S_Reader.mk o0.Reader.Asks o0.Reader.Method x4 o0.Reader.In (S_Message.mk o0.Reader.Head.Start o0.Reader.Head.Fields x3) o0.Reader.Body o0.Reader.Chunk o0.Reader.Bad) o0.out) x5.1 x5.2 hx5) rfl rfl rfl rfl rfl rfl rfl rfl rfl <| ai (by kernel_rfl) <| sn ?_
    replace h := oi h
    have h0 := (Prod.mk.inj h).1
    have h1 := (Prod.mk.inj h).2
    subst h0
    subst h1
    refine xi [⟨2, bb (bif ((x3.length : Int) == o0.Reader.Body.Size) then x5.1 else false), none⟩] (xi [.cells 122 [bb x5.2.Reader.Asks, ss x5.2.Reader.Method, ss x5.2.Reader.Buf, bb x5.2.Reader.In, ss x5.2.Reader.Head.Start.Method, ss x5.2.Reader.Head.Start.Target, ii x5.2.Reader.Head.Start.Code, ss x5.2.Reader.Head.Start.Reason, ii x5.2.Reader.Head.Start.Minor, AV.list 2 (x5.2.Reader.Head.Fields.map S_Field.av), ss x5.2.Reader.Head.Body, ii x5.2.Reader.Body.Kind, ii x5.2.Reader.Body.Size, ii x5.2.Reader.Chunk.Stage, ss x5.2.Reader.Chunk.Line, ii x5.2.Reader.Chunk.Left, ii x5.2.Reader.Chunk.Size, ii x5.2.Reader.Bad, AV.list 7 (x5.2.out.map S_Message.av)] [(18, 1)]] (ai rfl (ai (Gho.to _ _ _ [0, 1] ?_ ?_ ?_ rfl rfl ?_) (ai ?_ rfl))))
    ·exact ⟨⟨rfl, rfl, rfl⟩, trivial⟩
    ·exact rfl
    ·exact rfl
    ·exact tr3 <| trivial
    ·exact rfl
   ·refine xi (bb false) <| ai (fun hg => ht.symm.trans hg) <| ai (by kernel_rfl) <| sn ?_
    replace h := oi h
    have h0 := (Prod.mk.inj h).1
    have h1 := (Prod.mk.inj h).2
    subst h0
    subst h1
    refine xi [⟨2, bb (bif ((x3.length : Int) == o0.Reader.Body.Size) then false else false), none⟩] (xi [.cells 122 [bb o0.Reader.Asks, ss o0.Reader.Method, ss x4, bb o0.Reader.In, ss o0.Reader.Head.Start.Method, ss o0.Reader.Head.Start.Target, ii o0.Reader.Head.Start.Code, ss o0.Reader.Head.Start.Reason, ii o0.Reader.Head.Start.Minor, AV.list 2 (o0.Reader.Head.Fields.map S_Field.av), ss x3, ii o0.Reader.Body.Kind, ii o0.Reader.Body.Size, ii o0.Reader.Chunk.Stage, ss o0.Reader.Chunk.Line, ii o0.Reader.Chunk.Left, ii o0.Reader.Chunk.Size, ii o0.Reader.Bad, AV.list 7 (o0.out.map S_Message.av)] [(18, 1)]] (ai rfl (ai (Gho.to _ _ _ [0, 0] ?_ ?_ ?_ rfl rfl ?_) (ai ?_ rfl))))
    ·exact ⟨⟨rfl, rfl, rfl⟩, trivial⟩
    ·exact rfl
    ·exact rfl
    ·exact tr3 <| trivial
    ·exact rfl
  ·refine sj <| sn ?_
   refine Br.of h (fun ht h => ?_) fun ht h => ?_
   ·refine sj <| Or.inl <| ai ⟨lb rfl, lb rfl⟩ ?_
    refine xi (some 0) (ai (show aggT [(18, 0)] 13 4 = some 0 from by kernel_rfl) ?_)
    refine NormE.to (AV.agg [ii o0.Reader.Chunk.Stage, ss o0.Reader.Chunk.Line, ii o0.Reader.Chunk.Left, ii o0.Reader.Chunk.Size]) (fun _ => rfl) <| bind_elim h fun x6 hx6 h => CallH.data _ false rfl ((chunk_Feed_ok E o0.Reader.Chunk o0.Reader.Buf).1 x6 hx6) <| ai rfl ?_
    refine ai ⟨rfl, rfl, rfl, lb rfl⟩ (xi (S_Chunked.cells x6.1) (ai (fun _ => rfl) ?_))
    refine ai (by kernel_rfl) <| sn <| sj <| sj <| sn ?_
    refine Br.of h (fun ht h => ?_) fun ht h => ?_
    ·refine sj <| bind_elim h fun x7 hx7 h => CallH.ren [0] [0] [.cells 122 [bb x7.2.Reader.Asks, ss x7.2.Reader.Method, ss x7.2.Reader.Buf, bb x7.2.Reader.In, ss x7.2.Reader.Head.Start.Method, ss x7.2.Reader.Head.Start.Target, ii x7.2.Reader.Head.Start.Code, ss x7.2.Reader.Head.Start.Reason, ii x7.2.Reader.Head.Start.Minor, AV.list 2 (x7.2.Reader.Head.Fields.map S_Field.av), ss x7.2.Reader.Head.Body, ii x7.2.Reader.Body.Kind, ii x7.2.Reader.Body.Size, ii x7.2.Reader.Chunk.Stage, ss x7.2.Reader.Chunk.Line, ii x7.2.Reader.Chunk.Left, ii x7.2.Reader.Chunk.Size, ii x7.2.Reader.Bad, AV.list 7 (x7.2.out.map S_Message.av)] [(18, 1)], .cells 44 (S_Chunked.cells x6.1) []] [0, 1] (wire_reading_fail_ok E o0 x6.2.2.2 x7.1 x7.2 hx7) rfl rfl rfl rfl rfl rfl rfl rfl rfl <| sn ?_
     replace h := oi h
     have h0 := (Prod.mk.inj h).1
     have h1 := (Prod.mk.inj h).2
     subst h0
     subst h1
     refine xi [⟨2, bb x7.1, none⟩] (xi [.cells 122 [bb x7.2.Reader.Asks, ss x7.2.Reader.Method, ss x7.2.Reader.Buf, bb x7.2.Reader.In, ss x7.2.Reader.Head.Start.Method, ss x7.2.Reader.Head.Start.Target, ii x7.2.Reader.Head.Start.Code, ss x7.2.Reader.Head.Start.Reason, ii x7.2.Reader.Head.Start.Minor, AV.list 2 (x7.2.Reader.Head.Fields.map S_Field.av), ss x7.2.Reader.Head.Body, ii x7.2.Reader.Body.Kind, ii x7.2.Reader.Body.Size, ii x7.2.Reader.Chunk.Stage, ss x7.2.Reader.Chunk.Line, ii x7.2.Reader.Chunk.Left, ii x7.2.Reader.Chunk.Size, ii x7.2.Reader.Bad, AV.list 7 (x7.2.out.map S_Message.av)] [(18, 1)]] (ai rfl (ai (Gho.to _ _ _ [0, 1] ?_ ?_ ?_ rfl rfl ?_) (ai ?_ rfl))))
     ·exact ⟨⟨rfl, rfl, rfl⟩, trivial⟩
     ·exact rfl
     ·exact rfl
     ·exact tr3 <| trivial
     ·exact rfl
    ·refine sn <| sj <| ai ⟨lb rfl, lb rfl⟩ ?_
     refine xi none (ai rfl ?_)
     refine NormE.to (S_Chunked.av x6.1) (fun _ => rfl) ?_
     refine ai ⟨rfl, rfl, rfl, lb rfl⟩ (xi [bb o0.Reader.Asks, ss o0.Reader.Method, ss o0.Reader.Buf, bb o0.Reader.In, ss o0.Reader.Head.Start.Method, ss o0.Reader.Head.Start.Target, ii o0.Reader.Head.Start.Code, ss o0.Reader.Head.Start.Reason, ii o0.Reader.Head.Start.Minor, AV.list 2 (o0.Reader.Head.Fields.map S_Field.av), ss o0.Reader.Head.Body, ii o0.Reader.Body.Kind, ii o0.Reader.Body.Size, ii x6.1.Stage, ss x6.1.Line, ii x6.1.Left, ii x6.1.Size, ii o0.Reader.Bad, AV.list 7 (o0.out.map S_Message.av)] (ai (fun _ => rfl) ?_))
     refine sn <| sj <| bind_elim h fun x8 hx8 h => ?_
     have hx8c := (cat_some hx8).1
     have hx8e := (cat_some hx8).2
     refine ai (fun _ => hx8c) <| NormE.to (ss x8) (fun _ => congrArg ss hx8e.symm) ?_
     refine ai ⟨rfl, rfl, rfl, lb rfl⟩ (xi [bb o0.Reader.Asks, ss o0.Reader.Method, ss o0.Reader.Buf, bb o0.Reader.In, ss o0.Reader.Head.Start.Method, ss o0.Reader.Head.Start.Target, ii o0.Reader.Head.Start.Code, ss o0.Reader.Head.Start.Reason, ii o0.Reader.Head.Start.Minor, AV.list 2 (o0.Reader.Head.Fields.map S_Field.av), ss x8, ii o0.Reader.Body.Kind, ii o0.Reader.Body.Size, ii x6.1.Stage, ss x6.1.Line, ii x6.1.Left, ii x6.1.Size, ii o0.Reader.Bad, AV.list 7 (o0.out.map S_Message.av)] (ai (fun _ => rfl) ?_))
     refine sn <| sj <| bind_elim h fun x9 hx9 h => ?_
     have qx9 := (slc_some hx9).1
     have hx9e := (slc_some hx9).2
     refine ai (fun _ => qx9) <| NormE.to (ss x9) (fun _ => congrArg ss hx9e.symm) ?_
     refine ai ⟨rfl, rfl, rfl, lb rfl⟩ (xi [bb o0.Reader.Asks, ss o0.Reader.Method, ss x9, bb o0.Reader.In, ss o0.Reader.Head.Start.Method, ss o0.Reader.Head.Start.Target, ii o0.Reader.Head.Start.Code, ss o0.Reader.Head.Start.Reason, ii o0.Reader.Head.Start.Minor, AV.list 2 (o0.Reader.Head.Fields.map S_Field.av), ss x8, ii o0.Reader.Body.Kind, ii o0.Reader.Body.Size, ii x6.1.Stage, ss x6.1.Line, ii x6.1.Left, ii x6.1.Size, ii o0.Reader.Bad, AV.list 7 (o0.out.map S_Message.av)] (ai (fun _ => rfl) ?_))
     refine sn <| sj ?_
     refine and_of h (fun ht h => ?_) fun ht h => ?_
     ·refine bind_elim h fun x10 hx10 h => ai (fun _ => id ht) <| CallH.ren [0] [0] [.cells 122 [bb x10.2.Reader.Asks, ss x10.2.Reader.Method, ss x10.2.Reader.Buf, bb x10.2.Reader.In, ss x10.2.Reader.Head.Start.Method, ss x10.2.Reader.Head.Start.Target, ii x10.2.Reader.Head.Start.Code, ss x10.2.Reader.Head.Start.Reason, ii x10.2.Reader.Head.Start.Minor, AV.list 2 (x10.2.Reader.Head.Fields.map S_Field.av), ss x10.2.Reader.Head.Body, ii x10.2.Reader.Body.Kind, ii x10.2.Reader.Body.Size, ii x10.2.Reader.Chunk.Stage, ss x10.2.Reader.Chunk.Line, ii x10.2.Reader.Chunk.Left, ii x10.2.Reader.Chunk.Size, ii x10.2.Reader.Bad, AV.list 7 (x10.2.out.map S_Message.av)] [(18, 1)], .cells 44 (S_Chunked.cells x6.1) []] [0, 1] (wire_reading_whole_ok E (S_wire_reading.mk (S_Reader.mk o0.Reader.Asks o0.Reader.Method x9 o0.Reader.In (S_Message.mk o0.Reader.Head.Start o0.Reader.Head.Fields x8) o0.Reader.Body x6.1 o0.Reader.Bad) o0.out) x10.1 x10.2 hx10) rfl rfl rfl rfl rfl rfl rfl rfl rfl <| sn ?_
      replace h := oi h
      have h0 := (Prod.mk.inj h).1
      have h1 := (Prod.mk.inj h).2
      subst h0
      subst h1
      refine xi [⟨2, bb (bif (x6.1.Stage == (4 : Int)) then x10.1 else false), none⟩] (xi [.cells 122 [bb x10.2.Reader.Asks, ss x10.2.Reader.Method, ss x10.2.Reader.Buf, bb x10.2.Reader.In, ss x10.2.Reader.Head.Start.Method, ss x10.2.Reader.Head.Start.Target, ii x10.2.Reader.Head.Start.Code, ss x10.2.Reader.Head.Start.Reason, ii x10.2.Reader.Head.Start.Minor, AV.list 2 (x10.2.Reader.Head.Fields.map S_Field.av), ss x10.2.Reader.Head.Body, ii x10.2.Reader.Body.Kind, ii x10.2.Reader.Body.Size, ii x10.2.Reader.Chunk.Stage, ss x10.2.Reader.Chunk.Line, ii x10.2.Reader.Chunk.Left, ii x10.2.Reader.Chunk.Size, ii x10.2.Reader.Bad, AV.list 7 (x10.2.out.map S_Message.av)] [(18, 1)]] (ai rfl (ai (Gho.to _ _ _ [0, 1] ?_ ?_ ?_ rfl rfl ?_) (ai ?_ rfl))))
      ·exact ⟨⟨rfl, rfl, rfl⟩, trivial⟩
      ·exact rfl
      ·exact rfl
      ·exact tr3 <| trivial
      ·exact rfl
     ·refine xi (bb false) <| ai (fun hg => ht.symm.trans hg) <| sn ?_
      replace h := oi h
      have h0 := (Prod.mk.inj h).1
      have h1 := (Prod.mk.inj h).2
      subst h0
      subst h1
      refine xi [⟨2, bb (bif (x6.1.Stage == (4 : Int)) then false else false), none⟩] (xi [.cells 122 [bb o0.Reader.Asks, ss o0.Reader.Method, ss x9, bb o0.Reader.In, ss o0.Reader.Head.Start.Method, ss o0.Reader.Head.Start.Target, ii o0.Reader.Head.Start.Code, ss o0.Reader.Head.Start.Reason, ii o0.Reader.Head.Start.Minor, AV.list 2 (o0.Reader.Head.Fields.map S_Field.av), ss x8, ii o0.Reader.Body.Kind, ii o0.Reader.Body.Size, ii x6.1.Stage, ss x6.1.Line, ii x6.1.Left, ii x6.1.Size, ii o0.Reader.Bad, AV.list 7 (o0.out.map S_Message.av)] [(18, 1)]] (ai rfl (ai (Gho.to _ _ _ [0, 0] ?_ ?_ ?_ rfl rfl ?_) (ai ?_ rfl))))
      ·exact ⟨⟨rfl, rfl, rfl⟩, trivial⟩
      ·exact rfl
      ·exact rfl
      ·exact tr3 <| trivial
      ·exact rfl
   ·refine sn <| sj <| sj <| Or.inl <| bind_elim h fun x11 hx11 h => ?_
    have hx11c := (cat_some hx11).1
    have hx11e := (cat_some hx11).2
    refine ai (fun _ => hx11c) <| NormE.to (ss x11) (fun _ => congrArg ss hx11e.symm) ?_
    refine ai ⟨rfl, rfl, rfl, lb rfl⟩ (xi [bb o0.Reader.Asks, ss o0.Reader.Method, ss o0.Reader.Buf, bb o0.Reader.In, ss o0.Reader.Head.Start.Method, ss o0.Reader.Head.Start.Target, ii o0.Reader.Head.Start.Code, ss o0.Reader.Head.Start.Reason, ii o0.Reader.Head.Start.Minor, AV.list 2 (o0.Reader.Head.Fields.map S_Field.av), ss x11, ii o0.Reader.Body.Kind, ii o0.Reader.Body.Size, ii o0.Reader.Chunk.Stage, ss o0.Reader.Chunk.Line, ii o0.Reader.Chunk.Left, ii o0.Reader.Chunk.Size, ii o0.Reader.Bad, AV.list 7 (o0.out.map S_Message.av)] (ai (fun _ => rfl) ?_))
    refine ai (by kernel_rfl) <| sn <| sj <| NormE.same <| sn ?_
    refine Br.of h (fun ht h => ?_) fun ht h => ?_
    ·refine sj <| bind_elim h fun x12 hx12 h => CallH.ren [0] [0] [.cells 122 [bb x12.2.Reader.Asks, ss x12.2.Reader.Method, ss x12.2.Reader.Buf, bb x12.2.Reader.In, ss x12.2.Reader.Head.Start.Method, ss x12.2.Reader.Head.Start.Target, ii x12.2.Reader.Head.Start.Code, ss x12.2.Reader.Head.Start.Reason, ii x12.2.Reader.Head.Start.Minor, AV.list 2 (x12.2.Reader.Head.Fields.map S_Field.av), ss x12.2.Reader.Head.Body, ii x12.2.Reader.Body.Kind, ii x12.2.Reader.Body.Size, ii x12.2.Reader.Chunk.Stage, ss x12.2.Reader.Chunk.Line, ii x12.2.Reader.Chunk.Left, ii x12.2.Reader.Chunk.Size, ii x12.2.Reader.Bad, AV.list 7 (x12.2.out.map S_Message.av)] [(18, 1)]] [0, 1] (wire_reading_fail_ok E (S_wire_reading.mk (S_Reader.mk o0.Reader.Asks o0.Reader.Method o0.Reader.Buf o0.Reader.In (S_Message.mk o0.Reader.Head.Start o0.Reader.Head.Fields x11) o0.Reader.Body o0.Reader.Chunk o0.Reader.Bad) o0.out) (2 : Int) x12.1 x12.2 hx12) rfl rfl rfl rfl rfl rfl rfl rfl rfl <| sn ?_
     replace h := oi h
     have h0 := (Prod.mk.inj h).1
     have h1 := (Prod.mk.inj h).2
     subst h0
     subst h1
     refine xi [⟨2, bb x12.1, none⟩] (xi [.cells 122 [bb x12.2.Reader.Asks, ss x12.2.Reader.Method, ss x12.2.Reader.Buf, bb x12.2.Reader.In, ss x12.2.Reader.Head.Start.Method, ss x12.2.Reader.Head.Start.Target, ii x12.2.Reader.Head.Start.Code, ss x12.2.Reader.Head.Start.Reason, ii x12.2.Reader.Head.Start.Minor, AV.list 2 (x12.2.Reader.Head.Fields.map S_Field.av), ss x12.2.Reader.Head.Body, ii x12.2.Reader.Body.Kind, ii x12.2.Reader.Body.Size, ii x12.2.Reader.Chunk.Stage, ss x12.2.Reader.Chunk.Line, ii x12.2.Reader.Chunk.Left, ii x12.2.Reader.Chunk.Size, ii x12.2.Reader.Bad, AV.list 7 (x12.2.out.map S_Message.av)] [(18, 1)]] (ai rfl (ai (Gho.to _ _ _ [0, 1] ?_ ?_ ?_ rfl rfl ?_) (ai ?_ rfl))))
     ·exact ⟨⟨rfl, rfl, rfl⟩, trivial⟩
     ·exact rfl
     ·exact rfl
     ·exact tr3 <| trivial
     ·exact rfl
    ·refine sn <| sj ?_
     refine ai ⟨rfl, rfl, rfl, lb rfl⟩ (xi [bb o0.Reader.Asks, ss o0.Reader.Method, ss [], bb o0.Reader.In, ss o0.Reader.Head.Start.Method, ss o0.Reader.Head.Start.Target, ii o0.Reader.Head.Start.Code, ss o0.Reader.Head.Start.Reason, ii o0.Reader.Head.Start.Minor, AV.list 2 (o0.Reader.Head.Fields.map S_Field.av), ss x11, ii o0.Reader.Body.Kind, ii o0.Reader.Body.Size, ii o0.Reader.Chunk.Stage, ss o0.Reader.Chunk.Line, ii o0.Reader.Chunk.Left, ii o0.Reader.Chunk.Size, ii o0.Reader.Bad, AV.list 7 (o0.out.map S_Message.av)] (ai (fun _ => rfl) ?_))
     refine sn <| sj <| sn ?_
     replace h := oi h
     have h0 := (Prod.mk.inj h).1
     have h1 := (Prod.mk.inj h).2
     subst h0
     subst h1
     refine xi [⟨2, bb false, none⟩] (xi [.cells 122 [bb o0.Reader.Asks, ss o0.Reader.Method, ss [], bb o0.Reader.In, ss o0.Reader.Head.Start.Method, ss o0.Reader.Head.Start.Target, ii o0.Reader.Head.Start.Code, ss o0.Reader.Head.Start.Reason, ii o0.Reader.Head.Start.Minor, AV.list 2 (o0.Reader.Head.Fields.map S_Field.av), ss x11, ii o0.Reader.Body.Kind, ii o0.Reader.Body.Size, ii o0.Reader.Chunk.Stage, ss o0.Reader.Chunk.Line, ii o0.Reader.Chunk.Left, ii o0.Reader.Chunk.Size, ii o0.Reader.Bad, AV.list 7 (o0.out.map S_Message.av)] [(18, 1)]] (ai rfl (ai (Gho.to _ _ _ [0, 0] ?_ ?_ ?_ rfl rfl ?_) (ai ?_ rfl))))
     ·exact ⟨⟨rfl, rfl, rfl⟩, trivial⟩
     ·exact rfl
     ·exact rfl
     ·exact tr3 <| trivial
     ·exact rfl
instance stringslite_TrimPrefix_ok (E : Pm.Env) [LaidM E] (a0 : Bytes) (a1 : Bytes) : Ok E (stringslite_TrimPrefix a0 a1) (fun r => FnR E Tryz.prog 133 [ss a0, ss a1] (ss r) false) := ⟨fun r h => by
 refine FnR.of_ev (T := T) (rows := []) tOk mixed Tryz.func133 rfl (by kernel_rfl) (by kernel_rfl) rfl fun hwf => ?_
 unfold stringslite_TrimPrefix at h
 exact W⟩
instance strings_TrimPrefix_ok (E : Pm.Env) [LaidM E] (a0 : Bytes) (a1 : Bytes) : Ok E (strings_TrimPrefix a0 a1) (fun r => FnR E Tryz.prog 100 [ss a0, ss a1] (ss r) false) := ⟨fun r h => by
 refine FnR.of_ev (T := T) (rows := []) tOk mixed Tryz.func100 rfl (by kernel_rfl) (by kernel_rfl) rfl fun hwf => ?_
 unfold strings_TrimPrefix at h
 exact W⟩
instance start_minor_ok (E : Pm.Env) [LaidM E] (a0 : Bytes) : Ok E (start_minor a0) (fun r => FnR E Tryz.prog 138 [ss a0] (ii r) false) := ⟨fun r h => by
 refine FnR.of_ev (T := T) (rows := []) tOk mixed Tryz.func138 rfl (by kernel_rfl) (by kernel_rfl) rfl fun hwf => ?_
 unfold start_minor at h
 exact W⟩
instance start_Parse_ok (E : Pm.Env) [LaidM E] (a0 : Bytes) : Ok E (start_Parse a0) (fun r => FnR E Tryz.prog 105 [ss a0] (AV.tup [S_Start.av r.1, ii r.2]) false) := ⟨fun r h => by
 refine FnR.of_ev (T := T) (rows := []) tOk mixed Tryz.func105 rfl (by kernel_rfl) (by kernel_rfl) rfl fun hwf => ?_
 unfold start_Parse at h
 exact W⟩
instance start_Status_ok (E : Pm.Env) [LaidM E] (a0 : Bytes) : Ok E (start_Status a0) (fun r => FnR E Tryz.prog 104 [ss a0] (AV.tup [S_Start.av r.1, ii r.2]) false) := ⟨fun r h => by
 refine FnR.of_ev (T := T) (rows := []) tOk mixed Tryz.func104 rfl (by kernel_rfl) (by kernel_rfl) rfl fun hwf => ?_
 unfold start_Status at h
 exact W⟩
theorem wire_reading_begin_ok (E : Pm.Env) [LaidM E] (o0 : S_wire_reading) (r : Bool) (o0' : S_wire_reading) (h : wire_reading_begin o0 = some (r, o0')) : FnW E Tryz.prog 63 [AV.ptr 0 0] [.cells 122 (S_wire_reading.cells o0) [(18, 0)]] [1] (bb r) none [.cells 122 (S_wire_reading.cells o0') [(18, 1)]] [0, 1] := by
 refine FnW.of_evB (T := T) (rows := []) tOk mixed Tryz.func63 rfl (by kernel_rfl) (by kernel_rfl) rfl rfl fun hwf => ?_
 unfold wire_reading_begin at h
 refine sj <| sn <| bind_elim h fun j1 hj1 h => ?_
 refine SeqJ.join (St.of [⟨0, AV.ptr 0 0, none⟩] [.cells 122 [bb j1.Reader.Asks, ss j1.Reader.Method, ss j1.Reader.Buf, bb j1.Reader.In, ss j1.Reader.Head.Start.Method, ss j1.Reader.Head.Start.Target, ii j1.Reader.Head.Start.Code, ss j1.Reader.Head.Start.Reason, ii j1.Reader.Head.Start.Minor, AV.list 2 (j1.Reader.Head.Fields.map S_Field.av), ss j1.Reader.Head.Body, ii j1.Reader.Body.Kind, ii j1.Reader.Body.Size, ii j1.Reader.Chunk.Stage, ss j1.Reader.Chunk.Line, ii j1.Reader.Chunk.Left, ii j1.Reader.Chunk.Size, ii j1.Reader.Bad, AV.list 7 (j1.out.map S_Message.av)] [(18, 1)]] [0, 1]) ?_ ?_
 ·clear h; have h := hj1; clear hj1
  refine LoopE.img (fun x : S_wire_reading => St.of [⟨0, AV.ptr 0 0, none⟩] [.cells 122 [bb x.Reader.Asks, ss x.Reader.Method, ss x.Reader.Buf, bb x.Reader.In, ss x.Reader.Head.Start.Method, ss x.Reader.Head.Start.Target, ii x.Reader.Head.Start.Code, ss x.Reader.Head.Start.Reason, ii x.Reader.Head.Start.Minor, AV.list 2 (x.Reader.Head.Fields.map S_Field.av), ss x.Reader.Head.Body, ii x.Reader.Body.Kind, ii x.Reader.Body.Size, ii x.Reader.Chunk.Stage, ss x.Reader.Chunk.Line, ii x.Reader.Chunk.Left, ii x.Reader.Chunk.Size, ii x.Reader.Bad, AV.list 7 (x.out.map S_Message.av)] [(18, 1)]] [0, 1]) wire_reading_begin_b1 o0 h ?_ ?_
  ·refine Gho.to _ _ _ [0, 0] ?_ ?_ ?_ rfl rfl ?_
   ·exact ⟨⟨rfl, rfl, rfl⟩, trivial⟩
   ·exact rfl
   ·exact rfl
   ·exact tr3 <| trivial
  intro n1 x y1 h hl1 hr1
  revert h; revert x; intro s2 h
  unfold wire_reading_begin_b1 at h
  refine sj <| sj <| ai id <| ai id <| ai id <| ai id <| bind_elim h fun x3 hx3 h => ai id <| ai rfl ?_
  refine CallF.mk _ false (fun hg => (strings_HasPrefix_ok E s2.Reader.Buf ([10] : Bytes)).1 x3 (gcall_some hx3 hg)) (ai rfl ?_)
  refine ai id <| ai id <| ai id <| ai id <| ai id <| bind_elim h fun x4 hx4 h => ai id <| ai rfl ?_
  refine CallF.mk _ false (fun hg => (strings_HasPrefix_ok E s2.Reader.Buf ([13, 10] : Bytes)).1 x4 (gcall_some hx4 hg)) (ai rfl ?_)
  refine ai id <| ai id <| ai (fun hg => (and_r hg)) <| sn ?_
  refine Br.of h (fun ht h => ?_) fun ht h => ?_
  ·refine sn <| bind_elim h fun x5 hx5 h => CallH.data _ false rfl ((strings_TrimPrefix_ok E s2.Reader.Buf ([13] : Bytes)).1 x5 hx5) <| bind_elim h fun x6 hx6 h => CallH.data _ false rfl ((strings_TrimPrefix_ok E x5 ([10] : Bytes)).1 x6 hx6) ?_
   refine ai ⟨rfl, rfl, rfl, lb rfl⟩ (xi [bb s2.Reader.Asks, ss s2.Reader.Method, ss x6, bb s2.Reader.In, ss s2.Reader.Head.Start.Method, ss s2.Reader.Head.Start.Target, ii s2.Reader.Head.Start.Code, ss s2.Reader.Head.Start.Reason, ii s2.Reader.Head.Start.Minor, AV.list 2 (s2.Reader.Head.Fields.map S_Field.av), ss s2.Reader.Head.Body, ii s2.Reader.Body.Kind, ii s2.Reader.Body.Size, ii s2.Reader.Chunk.Stage, ss s2.Reader.Chunk.Line, ii s2.Reader.Chunk.Left, ii s2.Reader.Chunk.Size, ii s2.Reader.Bad, AV.list 7 (s2.out.map S_Message.av)] (ai (fun _ => rfl) ?_))
   replace h := oi h
   refine xi ⟨(n1, (S_wire_reading.mk (S_Reader.mk s2.Reader.Asks s2.Reader.Method x6 s2.Reader.In s2.Reader.Head s2.Reader.Body s2.Reader.Chunk s2.Reader.Bad) s2.out)), hl1 _ h.symm⟩ (ai (Nat.lt_succ_self _) ?_)
   refine Gho.to _ _ _ [0, 1] ?_ ?_ ?_ rfl rfl ?_
   ·exact ⟨⟨rfl, rfl, rfl⟩, trivial⟩
   ·exact rfl
   ·exact rfl
   ·exact tr3 <| trivial
  ·replace h := oi h
   replace h := hr1 _ h.symm
   subst h
   refine Gho.to _ _ _ [0, 1] ?_ ?_ ?_ rfl rfl ?_
   ·exact ⟨⟨rfl, rfl, rfl⟩, trivial⟩
   ·exact rfl
   ·exact rfl
   ·exact tr3 <| trivial
 ·clear hj1
  refine sj <| bind_elim h fun x7 hx7 h => CallH.data _ false rfl (head_End_ok E j1.Reader.Buf x7 hx7) <| sn <| sj <| sj <| sn ?_
  refine Br.of h (fun ht h => ?_) fun ht h => ?_
  ·refine sj <| sn ?_
   replace h := oi h
   have h0 := (Prod.mk.inj h).1
   have h1 := (Prod.mk.inj h).2
   subst h0
   subst h1
   refine xi [⟨2, bb false, none⟩] (xi [.cells 122 [bb j1.Reader.Asks, ss j1.Reader.Method, ss j1.Reader.Buf, bb j1.Reader.In, ss j1.Reader.Head.Start.Method, ss j1.Reader.Head.Start.Target, ii j1.Reader.Head.Start.Code, ss j1.Reader.Head.Start.Reason, ii j1.Reader.Head.Start.Minor, AV.list 2 (j1.Reader.Head.Fields.map S_Field.av), ss j1.Reader.Head.Body, ii j1.Reader.Body.Kind, ii j1.Reader.Body.Size, ii j1.Reader.Chunk.Stage, ss j1.Reader.Chunk.Line, ii j1.Reader.Chunk.Left, ii j1.Reader.Chunk.Size, ii j1.Reader.Bad, AV.list 7 (j1.out.map S_Message.av)] [(18, 1)]] (ai rfl (ai (Gho.to _ _ _ [0, 1] ?_ ?_ ?_ rfl rfl ?_) (ai ?_ rfl))))
   ·exact ⟨⟨rfl, rfl, rfl⟩, trivial⟩
   ·exact rfl
   ·exact rfl
   ·exact tr3 <| trivial
   ·exact rfl
  ·refine sj <| sn ?_
   refine Br.of h (fun ht h => ?_) fun ht h => ?_
   ·refine sj <| bind_elim h fun x8 hx8 h => CallH.ren [0] [1] [.cells 122 [bb x8.2.Reader.Asks, ss x8.2.Reader.Method, ss x8.2.Reader.Buf, bb x8.2.Reader.In, ss x8.2.Reader.Head.Start.Method, ss x8.2.Reader.Head.Start.Target, ii x8.2.Reader.Head.Start.Code, ss x8.2.Reader.Head.Start.Reason, ii x8.2.Reader.Head.Start.Minor, AV.list 2 (x8.2.Reader.Head.Fields.map S_Field.av), ss x8.2.Reader.Head.Body, ii x8.2.Reader.Body.Kind, ii x8.2.Reader.Body.Size, ii x8.2.Reader.Chunk.Stage, ss x8.2.Reader.Chunk.Line, ii x8.2.Reader.Chunk.Left, ii x8.2.Reader.Chunk.Size, ii x8.2.Reader.Bad, AV.list 7 (x8.2.out.map S_Message.av)] [(18, 2)]] [0, 0, 1] (wire_reading_fail_ok E j1 x7.2 x8.1 x8.2 hx8) rfl rfl rfl rfl rfl rfl rfl rfl rfl <| sn ?_
    replace h := oi h
    have h0 := (Prod.mk.inj h).1
    have h1 := (Prod.mk.inj h).2
    subst h0
    subst h1
    refine xi [⟨2, bb x8.1, none⟩] (xi [.cells 122 [bb x8.2.Reader.Asks, ss x8.2.Reader.Method, ss x8.2.Reader.Buf, bb x8.2.Reader.In, ss x8.2.Reader.Head.Start.Method, ss x8.2.Reader.Head.Start.Target, ii x8.2.Reader.Head.Start.Code, ss x8.2.Reader.Head.Start.Reason, ii x8.2.Reader.Head.Start.Minor, AV.list 2 (x8.2.Reader.Head.Fields.map S_Field.av), ss x8.2.Reader.Head.Body, ii x8.2.Reader.Body.Kind, ii x8.2.Reader.Body.Size, ii x8.2.Reader.Chunk.Stage, ss x8.2.Reader.Chunk.Line, ii x8.2.Reader.Chunk.Left, ii x8.2.Reader.Chunk.Size, ii x8.2.Reader.Bad, AV.list 7 (x8.2.out.map S_Message.av)] [(18, 1)]] (ai rfl (ai (Gho.to _ _ _ [0, 2] ?_ ?_ ?_ rfl rfl ?_) (ai ?_ rfl))))
    ·exact ⟨⟨rfl, rfl, rfl⟩, trivial⟩
    ·exact rfl
    ·exact rfl
    ·exact tr3 <| trivial
    ·exact rfl
   ·refine sn <| sj <| bind_elim h fun x9 hx9 h => ?_
    have qx9 := (slc_some hx9).1
    have hx9e := (slc_some hx9).2
    refine ai (fun _ => qx9) <| NormE.to (ss x9) (fun _ => congrArg ss hx9e.symm) <| bind_elim h fun x10 hx10 h => CallH.data _ false rfl ((strings_Cut_ok E x9 ([10] : Bytes)).1 x10 hx10) <| sn <| sj <| sn <| sj <| sj <| sn ?_
    refine Br.of h (fun ht h => ?_) fun ht h => ?_
    ·refine sn <| sj <| sj <| bind_elim h fun x11 hx11 h => CallH.data _ false rfl ((strings_TrimSuffix_ok E x10.1 ([13] : Bytes)).1 x11 hx11) <| bind_elim h fun x12 hx12 h => CallH.data _ false rfl ((start_Parse_ok E x11).1 x12 hx12) ?_
     refine ai ⟨rfl, rfl, rfl, lb rfl⟩ (xi [bb j1.Reader.Asks, ss j1.Reader.Method, ss j1.Reader.Buf, bb j1.Reader.In, ss x12.1.Method, ss x12.1.Target, ii x12.1.Code, ss x12.1.Reason, ii x12.1.Minor, AV.list 2 (j1.Reader.Head.Fields.map S_Field.av), ss j1.Reader.Head.Body, ii j1.Reader.Body.Kind, ii j1.Reader.Body.Size, ii j1.Reader.Chunk.Stage, ss j1.Reader.Chunk.Line, ii j1.Reader.Chunk.Left, ii j1.Reader.Chunk.Size, ii j1.Reader.Bad, AV.list 7 (j1.out.map S_Message.av)] (ai (fun _ => rfl) ?_))
     refine sn <| sj <| sn ?_
     refine Br.of h (fun ht h => ?_) fun ht h => ?_
     ·refine sj <| bind_elim h fun x13 hx13 h => CallH.ren [0] [1] [.cells 122 [bb x13.2.Reader.Asks, ss x13.2.Reader.Method, ss x13.2.Reader.Buf, bb x13.2.Reader.In, ss x13.2.Reader.Head.Start.Method, ss x13.2.Reader.Head.Start.Target, ii x13.2.Reader.Head.Start.Code, ss x13.2.Reader.Head.Start.Reason, ii x13.2.Reader.Head.Start.Minor, AV.list 2 (x13.2.Reader.Head.Fields.map S_Field.av), ss x13.2.Reader.Head.Body, ii x13.2.Reader.Body.Kind, ii x13.2.Reader.Body.Size, ii x13.2.Reader.Chunk.Stage, ss x13.2.Reader.Chunk.Line, ii x13.2.Reader.Chunk.Left, ii x13.2.Reader.Chunk.Size, ii x13.2.Reader.Bad, AV.list 7 (x13.2.out.map S_Message.av)] [(18, 2)]] [0, 0, 1] (wire_reading_fail_ok E (S_wire_reading.mk (S_Reader.mk j1.Reader.Asks j1.Reader.Method j1.Reader.Buf j1.Reader.In (S_Message.mk x12.1 j1.Reader.Head.Fields j1.Reader.Head.Body) j1.Reader.Body j1.Reader.Chunk j1.Reader.Bad) j1.out) x12.2 x13.1 x13.2 hx13) rfl rfl rfl rfl rfl rfl rfl rfl rfl <| sn ?_
      replace h := oi h
      have h0 := (Prod.mk.inj h).1
      have h1 := (Prod.mk.inj h).2
      subst h0
      subst h1
      refine xi [⟨2, bb x13.1, none⟩] (xi [.cells 122 [bb x13.2.Reader.Asks, ss x13.2.Reader.Method, ss x13.2.Reader.Buf, bb x13.2.Reader.In, ss x13.2.Reader.Head.Start.Method, ss x13.2.Reader.Head.Start.Target, ii x13.2.Reader.Head.Start.Code, ss x13.2.Reader.Head.Start.Reason, ii x13.2.Reader.Head.Start.Minor, AV.list 2 (x13.2.Reader.Head.Fields.map S_Field.av), ss x13.2.Reader.Head.Body, ii x13.2.Reader.Body.Kind, ii x13.2.Reader.Body.Size, ii x13.2.Reader.Chunk.Stage, ss x13.2.Reader.Chunk.Line, ii x13.2.Reader.Chunk.Left, ii x13.2.Reader.Chunk.Size, ii x13.2.Reader.Bad, AV.list 7 (x13.2.out.map S_Message.av)] [(18, 1)]] (ai rfl (ai (Gho.to _ _ _ [0, 2] ?_ ?_ ?_ rfl rfl ?_) (ai ?_ rfl))))
      ·exact ⟨⟨rfl, rfl, rfl⟩, trivial⟩
      ·exact rfl
      ·exact rfl
      ·exact tr3 <| trivial
      ·exact rfl
     ·refine sn <| sj <| bind_elim h fun x14 hx14 h => CallH.data _ false rfl ((strings_TrimSuffix_ok E x10.2.1 ([10] : Bytes)).1 x14 hx14) <| bind_elim h fun x15 hx15 h => CallH.data _ false rfl ((strings_TrimSuffix_ok E x14 ([13] : Bytes)).1 x15 hx15) <| sn <| sj <| sj <| bind_elim h fun x16 hx16 h => CallH.data _ false rfl (head_Parse_ok E x15 x16 hx16) ?_
      refine ai ⟨rfl, rfl, rfl, lb rfl⟩ (xi [bb j1.Reader.Asks, ss j1.Reader.Method, ss j1.Reader.Buf, bb j1.Reader.In, ss x12.1.Method, ss x12.1.Target, ii x12.1.Code, ss x12.1.Reason, ii x12.1.Minor, AV.list 2 (x16.1.map S_Field.av), ss j1.Reader.Head.Body, ii j1.Reader.Body.Kind, ii j1.Reader.Body.Size, ii j1.Reader.Chunk.Stage, ss j1.Reader.Chunk.Line, ii j1.Reader.Chunk.Left, ii j1.Reader.Chunk.Size, ii j1.Reader.Bad, AV.list 7 (j1.out.map S_Message.av)] (ai (fun _ => rfl) ?_))
      refine sn <| sj <| sn ?_
      refine Br.of h (fun ht h => ?_) fun ht h => ?_
      ·refine sj <| bind_elim h fun x17 hx17 h => CallH.ren [0] [1] [.cells 122 [bb x17.2.Reader.Asks, ss x17.2.Reader.Method, ss x17.2.Reader.Buf, bb x17.2.Reader.In, ss x17.2.Reader.Head.Start.Method, ss x17.2.Reader.Head.Start.Target, ii x17.2.Reader.Head.Start.Code, ss x17.2.Reader.Head.Start.Reason, ii x17.2.Reader.Head.Start.Minor, AV.list 2 (x17.2.Reader.Head.Fields.map S_Field.av), ss x17.2.Reader.Head.Body, ii x17.2.Reader.Body.Kind, ii x17.2.Reader.Body.Size, ii x17.2.Reader.Chunk.Stage, ss x17.2.Reader.Chunk.Line, ii x17.2.Reader.Chunk.Left, ii x17.2.Reader.Chunk.Size, ii x17.2.Reader.Bad, AV.list 7 (x17.2.out.map S_Message.av)] [(18, 2)]] [0, 0, 1] (wire_reading_fail_ok E (S_wire_reading.mk (S_Reader.mk j1.Reader.Asks j1.Reader.Method j1.Reader.Buf j1.Reader.In (S_Message.mk x12.1 x16.1 j1.Reader.Head.Body) j1.Reader.Body j1.Reader.Chunk j1.Reader.Bad) j1.out) x16.2 x17.1 x17.2 hx17) rfl rfl rfl rfl rfl rfl rfl rfl rfl <| sn ?_
       replace h := oi h
       have h0 := (Prod.mk.inj h).1
       have h1 := (Prod.mk.inj h).2
       subst h0
       subst h1
       refine xi [⟨2, bb x17.1, none⟩] (xi [.cells 122 [bb x17.2.Reader.Asks, ss x17.2.Reader.Method, ss x17.2.Reader.Buf, bb x17.2.Reader.In, ss x17.2.Reader.Head.Start.Method, ss x17.2.Reader.Head.Start.Target, ii x17.2.Reader.Head.Start.Code, ss x17.2.Reader.Head.Start.Reason, ii x17.2.Reader.Head.Start.Minor, AV.list 2 (x17.2.Reader.Head.Fields.map S_Field.av), ss x17.2.Reader.Head.Body, ii x17.2.Reader.Body.Kind, ii x17.2.Reader.Body.Size, ii x17.2.Reader.Chunk.Stage, ss x17.2.Reader.Chunk.Line, ii x17.2.Reader.Chunk.Left, ii x17.2.Reader.Chunk.Size, ii x17.2.Reader.Bad, AV.list 7 (x17.2.out.map S_Message.av)] [(18, 1)]] (ai rfl (ai (Gho.to _ _ _ [0, 2] ?_ ?_ ?_ rfl rfl ?_) (ai ?_ rfl))))
       ·exact ⟨⟨rfl, rfl, rfl⟩, trivial⟩
       ·exact rfl
       ·exact rfl
       ·exact tr3 <| trivial
       ·exact rfl
      ·refine sn <| sj <| sj <| ai ⟨lb rfl, lb rfl⟩ ?_
       refine xi (some 0) (ai (show aggT [(18, 1)] 0 18 = some 0 from by kernel_rfl) ?_)
       refine NormE.to (AV.agg [bb j1.Reader.Asks, ss j1.Reader.Method, ss j1.Reader.Buf, bb j1.Reader.In, ss x12.1.Method, ss x12.1.Target, ii x12.1.Code, ss x12.1.Reason, ii x12.1.Minor, AV.list 2 (x16.1.map S_Field.av), ss j1.Reader.Head.Body, ii j1.Reader.Body.Kind, ii j1.Reader.Body.Size, ii j1.Reader.Chunk.Stage, ss j1.Reader.Chunk.Line, ii j1.Reader.Chunk.Left, ii j1.Reader.Chunk.Size, ii j1.Reader.Bad]) (fun _ => rfl) <| bind_elim h fun x18 hx18 h => CallH.data _ false rfl ((wire_body_ok E (S_Reader.mk j1.Reader.Asks j1.Reader.Method j1.Reader.Buf j1.Reader.In (S_Message.mk x12.1 x16.1 j1.Reader.Head.Body) j1.Reader.Body j1.Reader.Chunk j1.Reader.Bad)).1 x18 hx18) ?_
       refine ai ⟨rfl, rfl, rfl, lb rfl⟩ (xi [bb j1.Reader.Asks, ss j1.Reader.Method, ss j1.Reader.Buf, bb j1.Reader.In, ss x12.1.Method, ss x12.1.Target, ii x12.1.Code, ss x12.1.Reason, ii x12.1.Minor, AV.list 2 (x16.1.map S_Field.av), ss j1.Reader.Head.Body, ii x18.1.Kind, ii x18.1.Size, ii j1.Reader.Chunk.Stage, ss j1.Reader.Chunk.Line, ii j1.Reader.Chunk.Left, ii j1.Reader.Chunk.Size, ii j1.Reader.Bad, AV.list 7 (j1.out.map S_Message.av)] (ai (fun _ => rfl) ?_))
       refine sn <| sj <| sn ?_
       refine Br.of h (fun ht h => ?_) fun ht h => ?_
       ·refine sj <| bind_elim h fun x19 hx19 h => CallH.ren [0] [1] [.cells 122 [bb x19.2.Reader.Asks, ss x19.2.Reader.Method, ss x19.2.Reader.Buf, bb x19.2.Reader.In, ss x19.2.Reader.Head.Start.Method, ss x19.2.Reader.Head.Start.Target, ii x19.2.Reader.Head.Start.Code, ss x19.2.Reader.Head.Start.Reason, ii x19.2.Reader.Head.Start.Minor, AV.list 2 (x19.2.Reader.Head.Fields.map S_Field.av), ss x19.2.Reader.Head.Body, ii x19.2.Reader.Body.Kind, ii x19.2.Reader.Body.Size, ii x19.2.Reader.Chunk.Stage, ss x19.2.Reader.Chunk.Line, ii x19.2.Reader.Chunk.Left, ii x19.2.Reader.Chunk.Size, ii x19.2.Reader.Bad, AV.list 7 (x19.2.out.map S_Message.av)] [(18, 2)]] [0, 0, 1] (wire_reading_fail_ok E (S_wire_reading.mk (S_Reader.mk j1.Reader.Asks j1.Reader.Method j1.Reader.Buf j1.Reader.In (S_Message.mk x12.1 x16.1 j1.Reader.Head.Body) x18.1 j1.Reader.Chunk j1.Reader.Bad) j1.out) x18.2 x19.1 x19.2 hx19) rfl rfl rfl rfl rfl rfl rfl rfl rfl <| sn ?_
        replace h := oi h
        have h0 := (Prod.mk.inj h).1
        have h1 := (Prod.mk.inj h).2
        subst h0
        subst h1
        refine xi [⟨2, bb x19.1, none⟩] (xi [.cells 122 [bb x19.2.Reader.Asks, ss x19.2.Reader.Method, ss x19.2.Reader.Buf, bb x19.2.Reader.In, ss x19.2.Reader.Head.Start.Method, ss x19.2.Reader.Head.Start.Target, ii x19.2.Reader.Head.Start.Code, ss x19.2.Reader.Head.Start.Reason, ii x19.2.Reader.Head.Start.Minor, AV.list 2 (x19.2.Reader.Head.Fields.map S_Field.av), ss x19.2.Reader.Head.Body, ii x19.2.Reader.Body.Kind, ii x19.2.Reader.Body.Size, ii x19.2.Reader.Chunk.Stage, ss x19.2.Reader.Chunk.Line, ii x19.2.Reader.Chunk.Left, ii x19.2.Reader.Chunk.Size, ii x19.2.Reader.Bad, AV.list 7 (x19.2.out.map S_Message.av)] [(18, 1)]] (ai rfl (ai (Gho.to _ _ _ [0, 2] ?_ ?_ ?_ rfl rfl ?_) (ai ?_ rfl))))
        ·exact ⟨⟨rfl, rfl, rfl⟩, trivial⟩
        ·exact rfl
        ·exact rfl
        ·exact tr3 <| trivial
        ·exact rfl
       ·refine sn <| sj <| bind_elim h fun x20 hx20 h => ?_
        have qx20 := (slc_some hx20).1
        have hx20e := (slc_some hx20).2
        refine ai (fun _ => qx20) <| NormE.to (ss x20) (fun _ => congrArg ss hx20e.symm) ?_
        refine ai ⟨rfl, rfl, rfl, lb rfl⟩ (xi [bb j1.Reader.Asks, ss j1.Reader.Method, ss x20, bb j1.Reader.In, ss x12.1.Method, ss x12.1.Target, ii x12.1.Code, ss x12.1.Reason, ii x12.1.Minor, AV.list 2 (x16.1.map S_Field.av), ss j1.Reader.Head.Body, ii x18.1.Kind, ii x18.1.Size, ii j1.Reader.Chunk.Stage, ss j1.Reader.Chunk.Line, ii j1.Reader.Chunk.Left, ii j1.Reader.Chunk.Size, ii j1.Reader.Bad, AV.list 7 (j1.out.map S_Message.av)] (ai (fun _ => rfl) ?_))
        refine sn <| sj <| sj <| sn <| sj <| ai id <| ai (fun hg => (and_r hg)) <| sn ?_
        refine Br.of h (fun ht h => ?_) fun ht h => ?_
        ·refine sj ?_
         refine xi (some 69810262081) (ai (okM.mk (show (69810262081 : Nat) = freeM T _ _ _ from by kernel_rfl)) ?_)
         refine xi none (ai trivial ?_)
         refine ai ⟨rfl, rfl, rfl, lb rfl⟩ (xi [bb j1.Reader.Asks, ss j1.Reader.Method, ss x20, bb j1.Reader.In, ss [], ss [], ii 0, ss [], ii 0, AV.list 2 (([] : List S_Field).map S_Field.av), ss [], ii x18.1.Kind, ii x18.1.Size, ii j1.Reader.Chunk.Stage, ss j1.Reader.Chunk.Line, ii j1.Reader.Chunk.Left, ii j1.Reader.Chunk.Size, ii j1.Reader.Bad, AV.list 7 (j1.out.map S_Message.av)] (ai (fun _ => rfl) ?_))
         refine xi [(9, 2), (18, 1)] (xi 1 (ai ⟨(by kernel_rfl), rfl⟩ ?_))
         refine ai ⟨rfl, rfl, rfl, lb rfl⟩ (xi [bb j1.Reader.Asks, ss j1.Reader.Method, ss x20, bb j1.Reader.In, ss [], ss [], ii 0, ss [], ii 0, AV.list 2 (([] : List S_Field).map S_Field.av), ss [], ii 0, ii 0, ii j1.Reader.Chunk.Stage, ss j1.Reader.Chunk.Line, ii j1.Reader.Chunk.Left, ii j1.Reader.Chunk.Size, ii j1.Reader.Bad, AV.list 7 (j1.out.map S_Message.av)] (ai (fun _ => rfl) ?_))
         refine sn <| sj <| sn ?_
         replace h := oi h
         have h0 := (Prod.mk.inj h).1
         have h1 := (Prod.mk.inj h).2
         subst h0
         subst h1
         refine xi [⟨2, bb true, none⟩] (xi [.cells 122 [bb j1.Reader.Asks, ss j1.Reader.Method, ss x20, bb j1.Reader.In, ss [], ss [], ii 0, ss [], ii 0, AV.list 2 (([] : List S_Field).map S_Field.av), ss [], ii 0, ii 0, ii j1.Reader.Chunk.Stage, ss j1.Reader.Chunk.Line, ii j1.Reader.Chunk.Left, ii j1.Reader.Chunk.Size, ii j1.Reader.Bad, AV.list 7 (j1.out.map S_Message.av)] [(18, 1)]] (ai rfl (ai (Gho.to _ _ _ [0, 1] ?_ ?_ ?_ rfl rfl ?_) (ai ?_ rfl))))
         ·exact ⟨⟨rfl, rfl, rfl⟩, trivial⟩
         ·exact rfl
         ·exact rfl
         ·exact tr3 <| trivial
         ·exact rfl
        ·refine sn <| sj ?_
         refine ai ⟨rfl, rfl, rfl, lb rfl⟩ (xi [bb j1.Reader.Asks, ss j1.Reader.Method, ss x20, bb true, ss x12.1.Method, ss x12.1.Target, ii x12.1.Code, ss x12.1.Reason, ii x12.1.Minor, AV.list 2 (x16.1.map S_Field.av), ss j1.Reader.Head.Body, ii x18.1.Kind, ii x18.1.Size, ii j1.Reader.Chunk.Stage, ss j1.Reader.Chunk.Line, ii j1.Reader.Chunk.Left, ii j1.Reader.Chunk.Size, ii j1.Reader.Bad, AV.list 7 (j1.out.map S_Message.av)] (ai (fun _ => rfl) ?_))
         refine sn <| sj <| sn ?_
         replace h := oi h
         have h0 := (Prod.mk.inj h).1
         have h1 := (Prod.mk.inj h).2
         subst h0
         subst h1
         refine xi [⟨2, bb true, none⟩] (xi [.cells 122 [bb j1.Reader.Asks, ss j1.Reader.Method, ss x20, bb true, ss x12.1.Method, ss x12.1.Target, ii x12.1.Code, ss x12.1.Reason, ii x12.1.Minor, AV.list 2 (x16.1.map S_Field.av), ss j1.Reader.Head.Body, ii x18.1.Kind, ii x18.1.Size, ii j1.Reader.Chunk.Stage, ss j1.Reader.Chunk.Line, ii j1.Reader.Chunk.Left, ii j1.Reader.Chunk.Size, ii j1.Reader.Bad, AV.list 7 (j1.out.map S_Message.av)] [(18, 1)]] (ai rfl (ai (Gho.to _ _ _ [0, 1] ?_ ?_ ?_ rfl rfl ?_) (ai ?_ rfl))))
         ·exact ⟨⟨rfl, rfl, rfl⟩, trivial⟩
         ·exact rfl
         ·exact rfl
         ·exact tr3 <| trivial
         ·exact rfl
    ·refine sn <| sj <| sj <| bind_elim h fun x21 hx21 h => CallH.data _ false rfl ((strings_TrimSuffix_ok E x10.1 ([13] : Bytes)).1 x21 hx21) <| bind_elim h fun x22 hx22 h => CallH.data _ false rfl ((start_Status_ok E x21).1 x22 hx22) ?_
     refine ai ⟨rfl, rfl, rfl, lb rfl⟩ (xi [bb j1.Reader.Asks, ss j1.Reader.Method, ss j1.Reader.Buf, bb j1.Reader.In, ss x22.1.Method, ss x22.1.Target, ii x22.1.Code, ss x22.1.Reason, ii x22.1.Minor, AV.list 2 (j1.Reader.Head.Fields.map S_Field.av), ss j1.Reader.Head.Body, ii j1.Reader.Body.Kind, ii j1.Reader.Body.Size, ii j1.Reader.Chunk.Stage, ss j1.Reader.Chunk.Line, ii j1.Reader.Chunk.Left, ii j1.Reader.Chunk.Size, ii j1.Reader.Bad, AV.list 7 (j1.out.map S_Message.av)] (ai (fun _ => rfl) ?_))
     refine sn <| sj <| sn ?_
     refine Br.of h (fun ht h => ?_) fun ht h => ?_
     ·refine sj <| bind_elim h fun x23 hx23 h => CallH.ren [0] [1] [.cells 122 [bb x23.2.Reader.Asks, ss x23.2.Reader.Method, ss x23.2.Reader.Buf, bb x23.2.Reader.In, ss x23.2.Reader.Head.Start.Method, ss x23.2.Reader.Head.Start.Target, ii x23.2.Reader.Head.Start.Code, ss x23.2.Reader.Head.Start.Reason, ii x23.2.Reader.Head.Start.Minor, AV.list 2 (x23.2.Reader.Head.Fields.map S_Field.av), ss x23.2.Reader.Head.Body, ii x23.2.Reader.Body.Kind, ii x23.2.Reader.Body.Size, ii x23.2.Reader.Chunk.Stage, ss x23.2.Reader.Chunk.Line, ii x23.2.Reader.Chunk.Left, ii x23.2.Reader.Chunk.Size, ii x23.2.Reader.Bad, AV.list 7 (x23.2.out.map S_Message.av)] [(18, 2)]] [0, 0, 1] (wire_reading_fail_ok E (S_wire_reading.mk (S_Reader.mk j1.Reader.Asks j1.Reader.Method j1.Reader.Buf j1.Reader.In (S_Message.mk x22.1 j1.Reader.Head.Fields j1.Reader.Head.Body) j1.Reader.Body j1.Reader.Chunk j1.Reader.Bad) j1.out) x22.2 x23.1 x23.2 hx23) rfl rfl rfl rfl rfl rfl rfl rfl rfl <| sn ?_
      replace h := oi h
      have h0 := (Prod.mk.inj h).1
      have h1 := (Prod.mk.inj h).2
      subst h0
      subst h1
      refine xi [⟨2, bb x23.1, none⟩] (xi [.cells 122 [bb x23.2.Reader.Asks, ss x23.2.Reader.Method, ss x23.2.Reader.Buf, bb x23.2.Reader.In, ss x23.2.Reader.Head.Start.Method, ss x23.2.Reader.Head.Start.Target, ii x23.2.Reader.Head.Start.Code, ss x23.2.Reader.Head.Start.Reason, ii x23.2.Reader.Head.Start.Minor, AV.list 2 (x23.2.Reader.Head.Fields.map S_Field.av), ss x23.2.Reader.Head.Body, ii x23.2.Reader.Body.Kind, ii x23.2.Reader.Body.Size, ii x23.2.Reader.Chunk.Stage, ss x23.2.Reader.Chunk.Line, ii x23.2.Reader.Chunk.Left, ii x23.2.Reader.Chunk.Size, ii x23.2.Reader.Bad, AV.list 7 (x23.2.out.map S_Message.av)] [(18, 1)]] (ai rfl (ai (Gho.to _ _ _ [0, 2] ?_ ?_ ?_ rfl rfl ?_) (ai ?_ rfl))))
      ·exact ⟨⟨rfl, rfl, rfl⟩, trivial⟩
      ·exact rfl
      ·exact rfl
      ·exact tr3 <| trivial
      ·exact rfl
     ·refine sn <| sj <| bind_elim h fun x24 hx24 h => CallH.data _ false rfl ((strings_TrimSuffix_ok E x10.2.1 ([10] : Bytes)).1 x24 hx24) <| bind_elim h fun x25 hx25 h => CallH.data _ false rfl ((strings_TrimSuffix_ok E x24 ([13] : Bytes)).1 x25 hx25) <| sn <| sj <| sj <| bind_elim h fun x26 hx26 h => CallH.data _ false rfl (head_Parse_ok E x25 x26 hx26) ?_
      refine ai ⟨rfl, rfl, rfl, lb rfl⟩ (xi [bb j1.Reader.Asks, ss j1.Reader.Method, ss j1.Reader.Buf, bb j1.Reader.In, ss x22.1.Method, ss x22.1.Target, ii x22.1.Code, ss x22.1.Reason, ii x22.1.Minor, AV.list 2 (x26.1.map S_Field.av), ss j1.Reader.Head.Body, ii j1.Reader.Body.Kind, ii j1.Reader.Body.Size, ii j1.Reader.Chunk.Stage, ss j1.Reader.Chunk.Line, ii j1.Reader.Chunk.Left, ii j1.Reader.Chunk.Size, ii j1.Reader.Bad, AV.list 7 (j1.out.map S_Message.av)] (ai (fun _ => rfl) ?_))
      refine sn <| sj <| sn ?_
      refine Br.of h (fun ht h => ?_) fun ht h => ?_
      ·refine sj <| bind_elim h fun x27 hx27 h => CallH.ren [0] [1] [.cells 122 [bb x27.2.Reader.Asks, ss x27.2.Reader.Method, ss x27.2.Reader.Buf, bb x27.2.Reader.In, ss x27.2.Reader.Head.Start.Method, ss x27.2.Reader.Head.Start.Target, ii x27.2.Reader.Head.Start.Code, ss x27.2.Reader.Head.Start.Reason, ii x27.2.Reader.Head.Start.Minor, AV.list 2 (x27.2.Reader.Head.Fields.map S_Field.av), ss x27.2.Reader.Head.Body, ii x27.2.Reader.Body.Kind, ii x27.2.Reader.Body.Size, ii x27.2.Reader.Chunk.Stage, ss x27.2.Reader.Chunk.Line, ii x27.2.Reader.Chunk.Left, ii x27.2.Reader.Chunk.Size, ii x27.2.Reader.Bad, AV.list 7 (x27.2.out.map S_Message.av)] [(18, 2)]] [0, 0, 1] (wire_reading_fail_ok E (S_wire_reading.mk (S_Reader.mk j1.Reader.Asks j1.Reader.Method j1.Reader.Buf j1.Reader.In (S_Message.mk x22.1 x26.1 j1.Reader.Head.Body) j1.Reader.Body j1.Reader.Chunk j1.Reader.Bad) j1.out) x26.2 x27.1 x27.2 hx27) rfl rfl rfl rfl rfl rfl rfl rfl rfl <| sn ?_
       replace h := oi h
       have h0 := (Prod.mk.inj h).1
       have h1 := (Prod.mk.inj h).2
       subst h0
       subst h1
       refine xi [⟨2, bb x27.1, none⟩] (xi [.cells 122 [bb x27.2.Reader.Asks, ss x27.2.Reader.Method, ss x27.2.Reader.Buf, bb x27.2.Reader.In, ss x27.2.Reader.Head.Start.Method, ss x27.2.Reader.Head.Start.Target, ii x27.2.Reader.Head.Start.Code, ss x27.2.Reader.Head.Start.Reason, ii x27.2.Reader.Head.Start.Minor, AV.list 2 (x27.2.Reader.Head.Fields.map S_Field.av), ss x27.2.Reader.Head.Body, ii x27.2.Reader.Body.Kind, ii x27.2.Reader.Body.Size, ii x27.2.Reader.Chunk.Stage, ss x27.2.Reader.Chunk.Line, ii x27.2.Reader.Chunk.Left, ii x27.2.Reader.Chunk.Size, ii x27.2.Reader.Bad, AV.list 7 (x27.2.out.map S_Message.av)] [(18, 1)]] (ai rfl (ai (Gho.to _ _ _ [0, 2] ?_ ?_ ?_ rfl rfl ?_) (ai ?_ rfl))))
       ·exact ⟨⟨rfl, rfl, rfl⟩, trivial⟩
       ·exact rfl
       ·exact rfl
       ·exact tr3 <| trivial
       ·exact rfl
      ·refine sn <| sj <| sj <| ai ⟨lb rfl, lb rfl⟩ ?_
       refine xi (some 0) (ai (show aggT [(18, 1)] 0 18 = some 0 from by kernel_rfl) ?_)
       refine NormE.to (AV.agg [bb j1.Reader.Asks, ss j1.Reader.Method, ss j1.Reader.Buf, bb j1.Reader.In, ss x22.1.Method, ss x22.1.Target, ii x22.1.Code, ss x22.1.Reason, ii x22.1.Minor, AV.list 2 (x26.1.map S_Field.av), ss j1.Reader.Head.Body, ii j1.Reader.Body.Kind, ii j1.Reader.Body.Size, ii j1.Reader.Chunk.Stage, ss j1.Reader.Chunk.Line, ii j1.Reader.Chunk.Left, ii j1.Reader.Chunk.Size, ii j1.Reader.Bad]) (fun _ => rfl) <| bind_elim h fun x28 hx28 h => CallH.data _ false rfl ((wire_body_ok E (S_Reader.mk j1.Reader.Asks j1.Reader.Method j1.Reader.Buf j1.Reader.In (S_Message.mk x22.1 x26.1 j1.Reader.Head.Body) j1.Reader.Body j1.Reader.Chunk j1.Reader.Bad)).1 x28 hx28) ?_
       refine ai ⟨rfl, rfl, rfl, lb rfl⟩ (xi [bb j1.Reader.Asks, ss j1.Reader.Method, ss j1.Reader.Buf, bb j1.Reader.In, ss x22.1.Method, ss x22.1.Target, ii x22.1.Code, ss x22.1.Reason, ii x22.1.Minor, AV.list 2 (x26.1.map S_Field.av), ss j1.Reader.Head.Body, ii x28.1.Kind, ii x28.1.Size, ii j1.Reader.Chunk.Stage, ss j1.Reader.Chunk.Line, ii j1.Reader.Chunk.Left, ii j1.Reader.Chunk.Size, ii j1.Reader.Bad, AV.list 7 (j1.out.map S_Message.av)] (ai (fun _ => rfl) ?_))
       refine sn <| sj <| sn ?_
       refine Br.of h (fun ht h => ?_) fun ht h => ?_
       ·refine sj <| bind_elim h fun x29 hx29 h => CallH.ren [0] [1] [.cells 122 [bb x29.2.Reader.Asks, ss x29.2.Reader.Method, ss x29.2.Reader.Buf, bb x29.2.Reader.In, ss x29.2.Reader.Head.Start.Method, ss x29.2.Reader.Head.Start.Target, ii x29.2.Reader.Head.Start.Code, ss x29.2.Reader.Head.Start.Reason, ii x29.2.Reader.Head.Start.Minor, AV.list 2 (x29.2.Reader.Head.Fields.map S_Field.av), ss x29.2.Reader.Head.Body, ii x29.2.Reader.Body.Kind, ii x29.2.Reader.Body.Size, ii x29.2.Reader.Chunk.Stage, ss x29.2.Reader.Chunk.Line, ii x29.2.Reader.Chunk.Left, ii x29.2.Reader.Chunk.Size, ii x29.2.Reader.Bad, AV.list 7 (x29.2.out.map S_Message.av)] [(18, 2)]] [0, 0, 1] (wire_reading_fail_ok E (S_wire_reading.mk (S_Reader.mk j1.Reader.Asks j1.Reader.Method j1.Reader.Buf j1.Reader.In (S_Message.mk x22.1 x26.1 j1.Reader.Head.Body) x28.1 j1.Reader.Chunk j1.Reader.Bad) j1.out) x28.2 x29.1 x29.2 hx29) rfl rfl rfl rfl rfl rfl rfl rfl rfl <| sn ?_
        replace h := oi h
        have h0 := (Prod.mk.inj h).1
        have h1 := (Prod.mk.inj h).2
        subst h0
        subst h1
        refine xi [⟨2, bb x29.1, none⟩] (xi [.cells 122 [bb x29.2.Reader.Asks, ss x29.2.Reader.Method, ss x29.2.Reader.Buf, bb x29.2.Reader.In, ss x29.2.Reader.Head.Start.Method, ss x29.2.Reader.Head.Start.Target, ii x29.2.Reader.Head.Start.Code, ss x29.2.Reader.Head.Start.Reason, ii x29.2.Reader.Head.Start.Minor, AV.list 2 (x29.2.Reader.Head.Fields.map S_Field.av), ss x29.2.Reader.Head.Body, ii x29.2.Reader.Body.Kind, ii x29.2.Reader.Body.Size, ii x29.2.Reader.Chunk.Stage, ss x29.2.Reader.Chunk.Line, ii x29.2.Reader.Chunk.Left, ii x29.2.Reader.Chunk.Size, ii x29.2.Reader.Bad, AV.list 7 (x29.2.out.map S_Message.av)] [(18, 1)]] (ai rfl (ai (Gho.to _ _ _ [0, 2] ?_ ?_ ?_ rfl rfl ?_) (ai ?_ rfl))))
        ·exact ⟨⟨rfl, rfl, rfl⟩, trivial⟩
        ·exact rfl
        ·exact rfl
        ·exact tr3 <| trivial
        ·exact rfl
       ·refine sn <| sj <| bind_elim h fun x30 hx30 h => ?_
        have qx30 := (slc_some hx30).1
        have hx30e := (slc_some hx30).2
        refine ai (fun _ => qx30) <| NormE.to (ss x30) (fun _ => congrArg ss hx30e.symm) ?_
        refine ai ⟨rfl, rfl, rfl, lb rfl⟩ (xi [bb j1.Reader.Asks, ss j1.Reader.Method, ss x30, bb j1.Reader.In, ss x22.1.Method, ss x22.1.Target, ii x22.1.Code, ss x22.1.Reason, ii x22.1.Minor, AV.list 2 (x26.1.map S_Field.av), ss j1.Reader.Head.Body, ii x28.1.Kind, ii x28.1.Size, ii j1.Reader.Chunk.Stage, ss j1.Reader.Chunk.Line, ii j1.Reader.Chunk.Left, ii j1.Reader.Chunk.Size, ii j1.Reader.Bad, AV.list 7 (j1.out.map S_Message.av)] (ai (fun _ => rfl) ?_))
        refine sn <| sj <| sj <| sn <| sj <| ai id <| ai (fun hg => (and_r hg)) <| sn ?_
        refine Br.of h (fun ht h => ?_) fun ht h => ?_
        ·refine sj ?_
         refine xi (some 69810262081) (ai (okM.mk (show (69810262081 : Nat) = freeM T _ _ _ from by kernel_rfl)) ?_)
         refine xi none (ai trivial ?_)
         refine ai ⟨rfl, rfl, rfl, lb rfl⟩ (xi [bb j1.Reader.Asks, ss j1.Reader.Method, ss x30, bb j1.Reader.In, ss [], ss [], ii 0, ss [], ii 0, AV.list 2 (([] : List S_Field).map S_Field.av), ss [], ii x28.1.Kind, ii x28.1.Size, ii j1.Reader.Chunk.Stage, ss j1.Reader.Chunk.Line, ii j1.Reader.Chunk.Left, ii j1.Reader.Chunk.Size, ii j1.Reader.Bad, AV.list 7 (j1.out.map S_Message.av)] (ai (fun _ => rfl) ?_))
         refine xi [(9, 2), (18, 1)] (xi 1 (ai ⟨(by kernel_rfl), rfl⟩ ?_))
         refine ai ⟨rfl, rfl, rfl, lb rfl⟩ (xi [bb j1.Reader.Asks, ss j1.Reader.Method, ss x30, bb j1.Reader.In, ss [], ss [], ii 0, ss [], ii 0, AV.list 2 (([] : List S_Field).map S_Field.av), ss [], ii 0, ii 0, ii j1.Reader.Chunk.Stage, ss j1.Reader.Chunk.Line, ii j1.Reader.Chunk.Left, ii j1.Reader.Chunk.Size, ii j1.Reader.Bad, AV.list 7 (j1.out.map S_Message.av)] (ai (fun _ => rfl) ?_))
         refine sn <| sj <| sn ?_
         replace h := oi h
         have h0 := (Prod.mk.inj h).1
         have h1 := (Prod.mk.inj h).2
         subst h0
         subst h1
         refine xi [⟨2, bb true, none⟩] (xi [.cells 122 [bb j1.Reader.Asks, ss j1.Reader.Method, ss x30, bb j1.Reader.In, ss [], ss [], ii 0, ss [], ii 0, AV.list 2 (([] : List S_Field).map S_Field.av), ss [], ii 0, ii 0, ii j1.Reader.Chunk.Stage, ss j1.Reader.Chunk.Line, ii j1.Reader.Chunk.Left, ii j1.Reader.Chunk.Size, ii j1.Reader.Bad, AV.list 7 (j1.out.map S_Message.av)] [(18, 1)]] (ai rfl (ai (Gho.to _ _ _ [0, 1] ?_ ?_ ?_ rfl rfl ?_) (ai ?_ rfl))))
         ·exact ⟨⟨rfl, rfl, rfl⟩, trivial⟩
         ·exact rfl
         ·exact rfl
         ·exact tr3 <| trivial
         ·exact rfl
        ·refine sn <| sj ?_
         refine ai ⟨rfl, rfl, rfl, lb rfl⟩ (xi [bb j1.Reader.Asks, ss j1.Reader.Method, ss x30, bb true, ss x22.1.Method, ss x22.1.Target, ii x22.1.Code, ss x22.1.Reason, ii x22.1.Minor, AV.list 2 (x26.1.map S_Field.av), ss j1.Reader.Head.Body, ii x28.1.Kind, ii x28.1.Size, ii j1.Reader.Chunk.Stage, ss j1.Reader.Chunk.Line, ii j1.Reader.Chunk.Left, ii j1.Reader.Chunk.Size, ii j1.Reader.Bad, AV.list 7 (j1.out.map S_Message.av)] (ai (fun _ => rfl) ?_))
         refine sn <| sj <| sn ?_
         replace h := oi h
         have h0 := (Prod.mk.inj h).1
         have h1 := (Prod.mk.inj h).2
         subst h0
         subst h1
         refine xi [⟨2, bb true, none⟩] (xi [.cells 122 [bb j1.Reader.Asks, ss j1.Reader.Method, ss x30, bb true, ss x22.1.Method, ss x22.1.Target, ii x22.1.Code, ss x22.1.Reason, ii x22.1.Minor, AV.list 2 (x26.1.map S_Field.av), ss j1.Reader.Head.Body, ii x28.1.Kind, ii x28.1.Size, ii j1.Reader.Chunk.Stage, ss j1.Reader.Chunk.Line, ii j1.Reader.Chunk.Left, ii j1.Reader.Chunk.Size, ii j1.Reader.Bad, AV.list 7 (j1.out.map S_Message.av)] [(18, 1)]] (ai rfl (ai (Gho.to _ _ _ [0, 1] ?_ ?_ ?_ rfl rfl ?_) (ai ?_ rfl))))
         ·exact ⟨⟨rfl, rfl, rfl⟩, trivial⟩
         ·exact rfl
         ·exact rfl
         ·exact tr3 <| trivial
         ·exact rfl
instance wire_Feed_ok (E : Pm.Env) [LaidM E] (a0 : S_Reader) (a1 : Bytes) : Ok E (wire_Feed a0 a1) (fun r => FnR E Tryz.prog 27 [S_Reader.av a0, ss a1] (AV.tup [S_Reader.av r.1, AV.list 7 (r.2.1.map S_Message.av), ii r.2.2]) false) := ⟨fun r h => by
 refine FnR.of_ev (T := T) (rows := []) tOk mixed Tryz.func27 rfl (by kernel_rfl) (by kernel_rfl) rfl fun hwf => ?_
 unfold wire_Feed at h
 refine sj <| ai rfl ?_
 refine xi [] (xi 0 (ai ⟨rfl, rfl⟩ ?_))
 refine ai rfl <| sn <| sj <| sj <| ai ⟨lb rfl, lb rfl⟩ ?_
 refine xi none (ai rfl ?_)
 refine NormE.to (S_Reader.av a0) (fun _ => rfl) <| bind_elim h fun x1 hx1 h => CallH.data _ false rfl ((wire_Right_ok E a0).1 x1 hx1) <| sn ?_
 refine Br.of h (fun ht h => ?_) fun ht h => ?_
 ·refine sj ?_
  refine xi (some 5151088153308360742589778104385) (ai (okM.mk (show (5151088153308360742589778104385 : Nat) = freeM T _ _ _ from by kernel_rfl)) ?_)
  refine ai ⟨rfl, rfl, rfl, lb rfl⟩ (xi [bb false, ss [], ss [], bb false, ss [], ss [], ii 0, ss [], ii 0, AV.list 2 (([] : List S_Field).map S_Field.av), ss [], ii 0, ii 0, ii 0, ss [], ii 0, ii 0, ii 0] (ai (fun _ => rfl) ?_))
  refine xi [(9, 2)] (xi 1 (ai ⟨(by kernel_rfl), rfl⟩ ?_))
  exact W
 ·refine sn <| sj <| sj <| sn ?_
  refine Br.of h (fun ht h => ?_) fun ht h => ?_
  ·exact W
  ·refine sn <| sj <| ai ⟨lb rfl, lb rfl⟩ ?_
   refine xi none (ai rfl ?_)
   refine NormE.to (S_Reader.av a0) (fun _ => rfl) <| ai ⟨rfl, rfl, lb rfl⟩ ?_
   refine xi (some 324518553658426726783156020576256) (ai (okM.mk (show (324518553658426726783156020576256 : Nat) = freeM T _ _ _ from by kernel_rfl)) ?_)
   refine ai rfl ?_
   refine xi [(18, 2)] (xi 1 (ai ⟨(by kernel_rfl), rfl⟩ ?_))
   refine sn <| sj <| bind_elim h fun x2 hx2 h => ?_
   have hx2c := (cat_some hx2).1
   have hx2e := (cat_some hx2).2
   refine ai (fun _ => hx2c) <| NormE.to (ss x2) (fun _ => congrArg ss hx2e.symm) ?_
   refine ai ⟨rfl, rfl, rfl, lb rfl⟩ (xi [bb a0.Asks, ss a0.Method, ss x2, bb a0.In, ss a0.Head.Start.Method, ss a0.Head.Start.Target, ii a0.Head.Start.Code, ss a0.Head.Start.Reason, ii a0.Head.Start.Minor, AV.list 2 (a0.Head.Fields.map S_Field.av), ss a0.Head.Body, ii a0.Body.Kind, ii a0.Body.Size, ii a0.Chunk.Stage, ss a0.Chunk.Line, ii a0.Chunk.Left, ii a0.Chunk.Size, ii a0.Bad, AV.list 7 (([] : List S_Message).map S_Message.av)] (ai (fun _ => rfl) ?_))
   refine SeqN.via (St.of [⟨4, AV.ptr 1 0, none⟩, ⟨7, AV.ptr 2 0, none⟩] [.dead, .cells 46 [bb false, ss [], ss [], bb false, ss [], ss [], ii 0, ss [], ii 0, AV.list 2 (([] : List S_Field).map S_Field.av), ss [], ii 0, ii 0, ii 0, ss [], ii 0, ii 0, ii 0] [(9, 0)], .cells 122 [bb a0.Asks, ss a0.Method, ss x2, bb a0.In, ss a0.Head.Start.Method, ss a0.Head.Start.Target, ii a0.Head.Start.Code, ss a0.Head.Start.Reason, ii a0.Head.Start.Minor, AV.list 2 (a0.Head.Fields.map S_Field.av), ss a0.Head.Body, ii a0.Body.Kind, ii a0.Body.Size, ii a0.Chunk.Stage, ss a0.Chunk.Line, ii a0.Chunk.Left, ii a0.Chunk.Size, ii a0.Bad, AV.list 7 (([] : List S_Message).map S_Message.av)] [(18, 1)]] [1, 1]) ?_ ?_
   ·refine Gho.to _ _ _ [0, 2] ?_ ?_ ?_ rfl rfl ?_
    ·exact ⟨trivial, ⟨⟨rfl, rfl, rfl⟩, ⟨⟨rfl, rfl, rfl⟩, trivial⟩⟩⟩
    ·exact rfl
    ·exact rfl
    ·exact tr3 <| tr3 <| trivial
   refine LoopE.img (fun x : S_wire_reading => St.of [⟨4, AV.ptr 1 0, none⟩, ⟨7, AV.ptr 2 0, none⟩] [.dead, .cells 46 [bb false, ss [], ss [], bb false, ss [], ss [], ii 0, ss [], ii 0, AV.list 2 (([] : List S_Field).map S_Field.av), ss [], ii 0, ii 0, ii 0, ss [], ii 0, ii 0, ii 0] [(9, 0)], .cells 122 [bb x.Reader.Asks, ss x.Reader.Method, ss x.Reader.Buf, bb x.Reader.In, ss x.Reader.Head.Start.Method, ss x.Reader.Head.Start.Target, ii x.Reader.Head.Start.Code, ss x.Reader.Head.Start.Reason, ii x.Reader.Head.Start.Minor, AV.list 2 (x.Reader.Head.Fields.map S_Field.av), ss x.Reader.Head.Body, ii x.Reader.Body.Kind, ii x.Reader.Body.Size, ii x.Reader.Chunk.Stage, ss x.Reader.Chunk.Line, ii x.Reader.Chunk.Left, ii x.Reader.Chunk.Size, ii x.Reader.Bad, AV.list 7 (x.out.map S_Message.av)] [(18, 1)]] [1, 1]) wire_Feed_b1 (S_wire_reading.mk (S_Reader.mk a0.Asks a0.Method x2 a0.In a0.Head a0.Body a0.Chunk a0.Bad) ([] : List S_Message)) h ?_ ?_
   ·refine Gho.to _ _ _ [0, 1] ?_ ?_ ?_ rfl rfl ?_
    ·exact ⟨trivial, ⟨⟨rfl, rfl, rfl⟩, ⟨⟨rfl, rfl, rfl⟩, trivial⟩⟩⟩
    ·exact rfl
    ·exact rfl
    ·exact tr3 <| tr3 <| trivial
   intro n1 x y1 h hl1 hr1
   revert h; revert x; intro s3 h
   unfold wire_Feed_b1 at h
   refine sj <| sn <| sj <| sj <| sn ?_
   refine Br.of h (fun ht h => ?_) fun ht h => ?_
   ·refine sn <| sj <| bind_elim h fun x4 hx4 h => CallH.ren [2] [1] [.dead, .cells 46 [bb false, ss [], ss [], bb false, ss [], ss [], ii 0, ss [], ii 0, AV.list 2 (([] : List S_Field).map S_Field.av), ss [], ii 0, ii 0, ii 0, ss [], ii 0, ii 0, ii 0] [(9, 0)], .cells 122 [bb x4.2.Reader.Asks, ss x4.2.Reader.Method, ss x4.2.Reader.Buf, bb x4.2.Reader.In, ss x4.2.Reader.Head.Start.Method, ss x4.2.Reader.Head.Start.Target, ii x4.2.Reader.Head.Start.Code, ss x4.2.Reader.Head.Start.Reason, ii x4.2.Reader.Head.Start.Minor, AV.list 2 (x4.2.Reader.Head.Fields.map S_Field.av), ss x4.2.Reader.Head.Body, ii x4.2.Reader.Body.Kind, ii x4.2.Reader.Body.Size, ii x4.2.Reader.Chunk.Stage, ss x4.2.Reader.Chunk.Line, ii x4.2.Reader.Chunk.Left, ii x4.2.Reader.Chunk.Size, ii x4.2.Reader.Bad, AV.list 7 (x4.2.out.map S_Message.av)] [(18, 2)]] [1, 0, 1] (wire_reading_more_ok E s3 x4.1 x4.2 hx4) rfl rfl rfl rfl rfl rfl rfl rfl rfl <| sn ?_
    refine Br.of h (fun ht h => ?_) fun ht h => ?_
    ·refine sj <| Or.inl <| ai ⟨lb rfl, lb rfl⟩ ?_
     refine xi (some 0) (ai (show aggT [(18, 2)] 0 18 = some 0 from by kernel_rfl) ?_)
     exact W
    ·replace h := oi h
     refine xi ⟨(n1, x4.2), hl1 _ h.symm⟩ (ai (Nat.lt_succ_self _) ?_)
     refine Gho.to _ _ _ [0, 2] ?_ ?_ ?_ rfl rfl ?_
     ·exact ⟨trivial, ⟨⟨rfl, rfl, rfl⟩, ⟨⟨rfl, rfl, rfl⟩, trivial⟩⟩⟩
     ·exact rfl
     ·exact rfl
     ·exact tr3 <| tr3 <| trivial
   ·refine sn <| sj <| bind_elim h fun x5 hx5 h => CallH.ren [2] [1] [.dead, .cells 46 [bb false, ss [], ss [], bb false, ss [], ss [], ii 0, ss [], ii 0, AV.list 2 (([] : List S_Field).map S_Field.av), ss [], ii 0, ii 0, ii 0, ss [], ii 0, ii 0, ii 0] [(9, 0)], .cells 122 [bb x5.2.Reader.Asks, ss x5.2.Reader.Method, ss x5.2.Reader.Buf, bb x5.2.Reader.In, ss x5.2.Reader.Head.Start.Method, ss x5.2.Reader.Head.Start.Target, ii x5.2.Reader.Head.Start.Code, ss x5.2.Reader.Head.Start.Reason, ii x5.2.Reader.Head.Start.Minor, AV.list 2 (x5.2.Reader.Head.Fields.map S_Field.av), ss x5.2.Reader.Head.Body, ii x5.2.Reader.Body.Kind, ii x5.2.Reader.Body.Size, ii x5.2.Reader.Chunk.Stage, ss x5.2.Reader.Chunk.Line, ii x5.2.Reader.Chunk.Left, ii x5.2.Reader.Chunk.Size, ii x5.2.Reader.Bad, AV.list 7 (x5.2.out.map S_Message.av)] [(18, 2)]] [1, 0, 1] (wire_reading_begin_ok E s3 x5.1 x5.2 hx5) rfl rfl rfl rfl rfl rfl rfl rfl rfl <| sn ?_
    refine Br.of h (fun ht h => ?_) fun ht h => ?_
    ·refine sj <| Or.inl <| ai ⟨lb rfl, lb rfl⟩ ?_
     refine xi (some 0) (ai (show aggT [(18, 2)] 0 18 = some 0 from by kernel_rfl) ?_)
     exact W
    ·replace h := oi h
     refine xi ⟨(n1, x5.2), hl1 _ h.symm⟩ (ai (Nat.lt_succ_self _) ?_)
     refine Gho.to _ _ _ [0, 2] ?_ ?_ ?_ rfl rfl ?_
     ·exact ⟨trivial, ⟨⟨rfl, rfl, rfl⟩, ⟨⟨rfl, rfl, rfl⟩, trivial⟩⟩⟩
     ·exact rfl
     ·exact rfl
     ·exact tr3 <| tr3 <| trivial⟩
instance hop_words_ok (E : Pm.Env) [LaidM E] (a0 : (List S_Field)) : Ok E (hop_words a0) (fun r => FnR E Tryz.prog 124 [AV.list 2 (a0.map S_Field.av)] (AV.list 1 (r.map AV.str)) true) := ⟨fun r h => by
 refine FnR.of_ev (T := T) (rows := []) tOk mixed Tryz.func124 rfl (by kernel_rfl) (by kernel_rfl) rfl fun hwf => ?_
 unfold hop_words at h
 refine sj <| sn <| sj <| bind_elim h fun x1 hx1 h => CallH.data _ false rfl ((table_Joined_ok E a0 ([67, 111, 110, 110, 101, 99, 116, 105, 111, 110] : Bytes)).1 x1 hx1) <| sn <| sj <| sn <| bind_elim h fun j2 hj2 h => ?_
 refine SeqJ.join (St.of [⟨5, AV.list 1 (j2.map AV.str), some 0⟩] [] [1]) ?_ ?_
 ·clear h; have h := hj2; clear hj2
  refine sj <| bind_elim h fun x3 hx3 h => CallH.data _ false rfl (strings_Split_ok E x1.1 ([44] : Bytes) x3 hx3) <| NormE.to (ii (x3.length : Int)) (fun _ => len_list ss x3) <| sn ?_
  refine LoopE.img (fun x : ((List Bytes) × Int) => St.of [⟨5, AV.list 1 (x.1.map AV.str), some 0⟩, ⟨14, AV.list 1 (x3.map AV.str), none⟩, ⟨15, ii (x3.length : Int), none⟩, ⟨16, ii x.2, none⟩] [] [1]) (hop_words_b1 x3) (([] : List Bytes), (0 : Int)) h ?_ ?_
  ·exact W
  intro n1 x y1 h hl1 hr1
  obtain ⟨s4, s5⟩ := x
  unfold hop_words_b1 at h
  dsimp only at h
  exact W
 ·clear hj2
  exact W⟩
instance hop_Keeps_ok (E : Pm.Env) [LaidM E] (a0 : S_Start) (a1 : (List S_Field)) : Ok E (hop_Keeps a0 a1) (fun r => FnR E Tryz.prog 82 [S_Start.av a0, AV.list 2 (a1.map S_Field.av)] (bb r) false) := ⟨fun r h => by
 refine FnR.of_ev (T := T) (rows := []) tOk mixed Tryz.func82 rfl (by kernel_rfl) (by kernel_rfl) rfl fun hwf => ?_
 unfold hop_Keeps at h
 refine sj <| ai rfl ?_
 refine xi [] (xi 0 (ai ⟨rfl, rfl⟩ ?_))
 refine sn <| sj <| sn <| sj <| sj <| bind_elim h fun x1 hx1 h => CallH.data _ true rfl ((hop_words_ok E a1).1 x1 hx1) <| NormE.to (ii (x1.length : Int)) (fun _ => len_list ss x1) <| sn ?_
 refine LoopE.img (fun x : (Bool × Int) => St.of [⟨5, bb x.1, none⟩, ⟨12, AV.list 1 (x1.map AV.str), some 0⟩, ⟨13, ii (x1.length : Int), none⟩, ⟨14, ii x.2, none⟩] [] [1]) (hop_Keeps_b1 x1) ((a0.Minor == (1 : Int)), (0 : Int)) h ?_ ?_
 ·exact W
 intro n1 x y1 h hl1 hr1
 obtain ⟨s2, s3⟩ := x
 unfold hop_Keeps_b1 at h
 dsimp only at h
 exact W⟩
instance upstream_Recv_ok (E : Pm.Env) [LaidM E] (a0 : S_Up) (a1 : Int) (a2 : Bytes) : Ok E (upstream_Recv a0 a1 a2) (fun r => FnR E Tryz.prog 11 [S_Up.av a0, ii a1, ss a2] (AV.tup [S_Up.av r.1, AV.list 13 (r.2.1.map S_Act.av), ii r.2.2]) false) := ⟨fun r h => by
 refine FnR.of_ev (T := T) (rows := [31, 48, 50, 87, 101, 104, 106]) tOk mixed Tryz.func11 rfl (by kernel_rfl) (by kernel_rfl) rfl fun hwf => ?_
 unfold upstream_Recv at h
 refine sj <| ai rfl ?_
 refine xi [] (xi 0 (ai ⟨rfl, rfl⟩ ?_))
 refine ai rfl <| sn <| sj <| ai ⟨lb rfl, lb rfl⟩ ?_
 refine xi none (ai rfl ?_)
 refine NormE.to (S_Up.av a0) (fun _ => rfl) <| bind_elim h fun x1 hx1 h => CallH.data _ false rfl ((upstream_find_ok E a0 a1).1 x1 hx1) <| sn <| sj <| sj <| ai ⟨lb rfl, lb rfl⟩ ?_
 refine xi none (ai rfl ?_)
 refine NormE.to (S_Up.av a0) (fun _ => rfl) <| bind_elim h fun x2 hx2 h => CallH.data _ false rfl ((upstream_Right_ok E a0).1 x2 hx2) <| ai id <| ai (fun hg => (and_r hg)) ?_
 refine SeqN.via (St.of [⟨2, ss a2, none⟩, ⟨3, AV.ptr 0 0, none⟩, ⟨6, AV.ptr 1 0, none⟩, ⟨9, ii x1.1, none⟩, ⟨28, bb (bif (!x2) then true else (!x1.2)), none⟩] [.cells 28 (S_Up.cells a0) [], .cells 28 [ii 0, ii 0, AV.list 29 (([] : List S_Conn).map S_Conn.av), AV.list 7 (([] : List S_Fetch).map S_Fetch.av)] [(2, 0), (3, 1)]] [1, 1]) ?_ ?_
 ·refine Gho.to _ _ _ [0, 1] ?_ ?_ ?_ rfl rfl ?_
  ·exact ⟨⟨rfl, rfl, rfl⟩, ⟨⟨rfl, rfl, rfl⟩, trivial⟩⟩
  ·exact rfl
  ·exact rfl
  ·exact tr3 <| tr3 <| tr3 <| tr3 <| tr3 <| trivial
 refine Br.of h (fun ht h => ?_) fun ht h => ?_
 ·refine sj ?_
  refine xi (some 266305) (ai (okM.mk (show (266305 : Nat) = freeM T _ _ _ from by kernel_rfl)) ?_)
  refine ai ⟨rfl, rfl, rfl, lb rfl⟩ (xi [ii 0, ii 0, AV.list 29 (([] : List S_Conn).map S_Conn.av), AV.list 7 (([] : List S_Fetch).map S_Fetch.av)] (ai (fun _ => rfl) ?_))
  refine xi [(2, 2), (3, 3)] (xi 2 (ai ⟨(by kernel_rfl), rfl⟩ ?_))
  exact W
 ·refine sn <| sj <| ai ⟨lb rfl, lb rfl⟩ ?_
  refine xi none (ai rfl ?_)
  refine NormE.to (S_Up.av a0) (fun _ => rfl) <| FnC.of_ev (T := T) (rows := []) tOk mixed Tryz.func33 rfl (by kernel_rfl) (by kernel_rfl) rfl rfl <| sj <| ai rfl ?_
  refine xi [] (xi 0 (ai ⟨rfl, rfl⟩ ?_))
  refine sn <| sj <| Or.inl <| bind_elim h fun x3 hx3 h => ?_
  have qx3 := chk2_some hx3
  refine CallH.rows _ _ _ _ rfl (slices_Clone_Conn_row E a0.Conns qx3) <| bind_elim h fun x4 hx4 h => ?_
  have qx4 := chk2_some hx4
  refine CallH.rows _ _ _ _ rfl (slices_Clone_Fetch_row E a0.Wait qx4) ?_
  refine ai ⟨rfl, rfl, rfl, lb rfl⟩ (xi [ii a0.Now, ii a0.Next, AV.row 3 0 a0.Conns.length 29, AV.list 7 (a0.Wait.map S_Fetch.av)] (ai (fun _ => rfl) ?_))
  refine ai ⟨rfl, rfl, rfl, lb rfl⟩ (xi [ii a0.Now, ii a0.Next, AV.row 3 0 a0.Conns.length 29, AV.row 4 0 a0.Wait.length 7] (ai (fun _ => rfl) ?_))
  refine ai (by kernel_rfl) <| sn <| sj <| ai ⟨lb rfl, lb rfl⟩ ?_
  refine xi none (ai rfl ?_)
  refine NormE.to (AV.agg [ii a0.Now, ii a0.Next, AV.row 3 0 a0.Conns.length 29, AV.row 4 0 a0.Wait.length 7]) (fun _ => rfl) <| ai ⟨rfl, rfl, lb rfl⟩ ?_
  refine xi (some 16777216) (ai (okM.mk (show (16777216 : Nat) = freeM T _ _ _ from by kernel_rfl)) ?_)
  refine ai rfl ?_
  refine xi [(4, 2)] (xi 1 (ai ⟨(by kernel_rfl), rfl⟩ ?_))
  refine SeqN.via (St.of [⟨2, AV.ptr 5 0, none⟩] [.cells 28 (S_Up.cells a0) [], .cells 28 [ii 0, ii 0, AV.list 29 (([] : List S_Conn).map S_Conn.av), AV.list 7 (([] : List S_Fetch).map S_Fetch.av)] [(2, 0), (3, 1)], .dead, .cells 48 (a0.Conns.flatMap S_Conn.cells) [], .cells 23 (a0.Wait.flatMap S_Fetch.cells) [], .cells 91 [ii a0.Now, ii a0.Next, AV.row 3 0 a0.Conns.length 29, AV.row 4 0 a0.Wait.length 7, AV.list 13 (([] : List S_Act).map S_Act.av)] [(4, 2)]] [1, 1, 1]) ?_ ?_
  ·refine Gho.to _ _ _ [0, 1, 2] ?_ ?_ ?_ rfl rfl ?_
   ·exact ⟨⟨rfl, rfl, rfl⟩, ⟨⟨rfl, rfl, rfl⟩, ⟨trivial, ⟨⟨rfl, rfl, rfl⟩, ⟨⟨rfl, rfl, rfl⟩, ⟨⟨rfl, rfl, rfl⟩, trivial⟩⟩⟩⟩⟩⟩
   ·exact (keepN_c rfl (keepN_c rfl (keepN_d (keepN_c (noB_flat _ (fun _ => rfl) _) (keepN_c (noB_flat _ (fun _ => rfl) _) (keepN_c rfl rfl))))))
   ·exact rfl
   ·exact tr3 <| trivial
  refine sn <| sj <| chk_elim h fun q5 h => ai (fun _ => q5) <| sn <| sj <| sj <| sn ?_
  refine Br.of h (fun ht h => ?_) fun ht h => ?_
  ·refine sj <| ai ⟨lb rfl, lb rfl⟩ ?_
   refine xi none (ai rfl ?_)
   refine NormE.to (S_Up.av a0) (fun _ => rfl) ?_
   refine ai ⟨rfl, rfl, rfl, lb rfl⟩ (xi (S_Up.cells a0) (ai (fun _ => rfl) ?_))
   refine SeqN.via (St.of [⟨6, AV.ptr 1 0, none⟩, ⟨7, AV.list 13 (([] : List S_Act).map S_Act.av), some 0⟩, ⟨8, ii 0, none⟩] [.dead, .cells 28 (S_Up.cells a0) []] [2]) ?_ ?_
   ·exact W
   exact W
  ·refine sn <| sj <| sj <| bind_elim h fun x6 hx6 h => ai ⟨lb rfl, flat_fits S_Conn.cells 29 (fun _ => rfl) hx6⟩ ?_
   refine xi none (ai rfl ?_)
   refine NormE.to (S_Conn.av x6) (fun _ => congrArg AV.agg (flat_load S_Conn.cells 29 (fun _ => rfl) hx6)) <| bind_elim h fun x7 hx7 h => CallH.data _ false rfl ((upstream_idle_ok E x6).1 x7 hx7) ?_
   refine SeqN.via (St.of [⟨2, ss a2, none⟩, ⟨6, AV.ptr 1 0, none⟩, ⟨9, ii x1.1, none⟩, ⟨11, AV.ptr 5 0, none⟩, ⟨12, AV.ptr 3 (0 + x1.1.toNat * 29), none⟩, ⟨45, bb x7, none⟩] [.dead, .cells 28 [ii 0, ii 0, AV.list 29 (([] : List S_Conn).map S_Conn.av), AV.list 7 (([] : List S_Fetch).map S_Fetch.av)] [(2, 0), (3, 1)], .dead, .cells 48 (a0.Conns.flatMap S_Conn.cells) [], .cells 23 (a0.Wait.flatMap S_Fetch.cells) [], .cells 91 [ii a0.Now, ii a0.Next, AV.row 3 0 a0.Conns.length 29, AV.row 4 0 a0.Wait.length 7, AV.list 13 (([] : List S_Act).map S_Act.av)] [(4, 2)]] [1, 1, 1]) ?_ ?_
   ·refine Gho.to _ _ _ [0, 1, 2] ?_ ?_ ?_ rfl rfl ?_
    ·exact ⟨trivial, ⟨⟨rfl, rfl, rfl⟩, ⟨trivial, ⟨⟨rfl, rfl, rfl⟩, ⟨⟨rfl, rfl, rfl⟩, ⟨⟨rfl, rfl, rfl⟩, trivial⟩⟩⟩⟩⟩⟩
    ·exact (keepN_d (keepN_c rfl (keepN_d (keepN_c (noB_flat _ (fun _ => rfl) _) (keepN_c (noB_flat _ (fun _ => rfl) _) (keepN_c rfl rfl))))))
    ·exact rfl
    ·exact tr3 <| tr3 <| tr3 <| tr3 <| tr3 <| tr3 <| trivial
   refine Br.of h (fun ht h => ?_) fun ht h => ?_
   ·refine sj <| FnC.of_ev (T := T) (rows := [15, 25]) tOk mixed Tryz.func38 rfl (by kernel_rfl) (by kernel_rfl) rfl rfl <| sj <| chk_elim h fun q8 h => ai (fun _ => q8) <| bind_elim h fun x9 hx9 h => optE.mk (α := AV) (c := ii x9.Id) (flat_getF S_Conn.cells 29 (fun _ => rfl) hx9 (o := 0) (lb rfl) rfl) <| ai ⟨rfl, rfl, lb rfl⟩ <| ai ⟨rfl, rfl, lb rfl⟩ ?_
    refine xi (some 4797324681010433232896) (ai (okM.mk (show (4797324681010433232896 : Nat) = freeM T _ _ _ from by kernel_rfl)) ?_)
    refine FnC.of_ev (T := T) (rows := []) tOk mixed Tryz.func78 rfl (by kernel_rfl) (by kernel_rfl) rfl rfl <| sj <| ai rfl ?_
    refine xi [(10, 3)] (xi 1 (ai ⟨(by kernel_rfl), rfl⟩ ?_))
    refine sn <| Or.inl <| ai ⟨lb rfl, lb rfl⟩ ?_
    refine xi (some 5764607523034234880) (ai (show aggT [(10, 3)] 0 13 = some 5764607523034234880 from by kernel_rfl) ?_)
    refine NormE.to (AV.agg [ii 3, ii x9.Id, ss [], ss [], ii 0, ss [], ss [], ii 0, ss [], ii 0, AV.list 2 (([] : List S_Field).map S_Field.av), ss [], ii 0]) (fun _ => rfl) <| ai ⟨rfl, rfl, rfl, rfl⟩ <| ai ⟨rfl, rfl, rfl⟩ <| NormE.to (AV.list 13 (([(S_Act.mk (3 : Int) x9.Id ([] : Bytes) ([] : Bytes) (0 : Int) (S_Message.mk (S_Start.mk ([] : Bytes) ([] : Bytes) (0 : Int) ([] : Bytes) (0 : Int)) ([] : List S_Field) ([] : Bytes)) (0 : Int))] : List S_Act).map S_Act.av)) (fun _ => rfl) <| bind_elim h fun x10 hx10 h => ?_
    have qx10 := (app_some hx10).1
    have hx10e := (app_some hx10).2
    refine ai ⟨rfl, rfl, rfl⟩ <| ai rfl <| ai (app_cond S_Act.av qx10) <| NormE.to (AV.list 13 (x10.map S_Act.av)) (fun _ => (app_list 13 S_Act.av _ _).trans (congrArg (fun y => AV.list 13 (List.map S_Act.av y)) hx10e.symm)) ?_
    refine ai ⟨rfl, rfl, rfl, lb rfl⟩ (xi [ii a0.Now, ii a0.Next, AV.row 3 0 a0.Conns.length 29, AV.row 4 0 a0.Wait.length 7, AV.list 13 (x10.map S_Act.av)] (ai (fun _ => rfl) ?_))
    refine ai (by kernel_rfl) <| sn <| bind_elim h fun x11 hx11 h => slices_Delete_Conn_ok (f := S_Conn.av) E rfl rfl hx11 ?_
    refine ai ⟨rfl, rfl, rfl, lb rfl⟩ (xi [ii a0.Now, ii a0.Next, AV.row 3 0 x11.length 29, AV.row 4 0 a0.Wait.length 7, AV.list 13 (x10.map S_Act.av)] (ai (fun _ => rfl) ?_))
    refine sn <| sj <| FnC.of_ev (T := T) (rows := []) tOk mixed Tryz.func39 rfl (by kernel_rfl) (by kernel_rfl) rfl rfl <| sj <| ai rfl <| sn <| bind_elim h fun j12 hj12 h => ?_
    refine SeqJ.join (St.of [⟨0, AV.ptr 5 0, none⟩, ⟨2, AV.ptr 7 0, none⟩] [.dead, .cells 28 [ii 0, ii 0, AV.list 29 (([] : List S_Conn).map S_Conn.av), AV.list 7 (([] : List S_Fetch).map S_Fetch.av)] [(2, 0), (3, 1)], .dead, .cells 48 (x11.flatMap S_Conn.cells) [], .cells 23 (a0.Wait.flatMap S_Fetch.cells) [], .cells 91 [ii a0.Now, ii a0.Next, AV.row 3 0 x11.length 29, AV.row 4 0 a0.Wait.length 7, AV.list 13 (x10.map S_Act.av)] [(4, 5)], .cells 40 [ii 3, ii x9.Id, ss [], ss [], ii 0, ss [], ss [], ii 0, ss [], ii 0, AV.list 2 (([] : List S_Field).map S_Field.av), ss [], ii 0] [(10, 3)], .cells 28 [ii 0, ii 0, AV.list 29 (([] : List S_Conn).map S_Conn.av), AV.list 7 (([] : List S_Fetch).map S_Fetch.av)] [(2, 7), (3, 8)]] [1, 1, 0, 2, 2, 1, 2, 1, 1]) ?_ ?_
    ·clear h; have h := hj12; clear hj12
     refine sj <| sn ?_
     refine LoopE.img (fun x : Int => St.of [⟨0, AV.ptr 5 0, none⟩, ⟨2, AV.ptr 7 0, none⟩, ⟨5, ii x, none⟩] [.dead, .cells 28 [ii 0, ii 0, AV.list 29 (([] : List S_Conn).map S_Conn.av), AV.list 7 (([] : List S_Fetch).map S_Fetch.av)] [(2, 0), (3, 1)], .dead, .cells 48 (x11.flatMap S_Conn.cells) [], .cells 23 (a0.Wait.flatMap S_Fetch.cells) [], .cells 91 [ii a0.Now, ii a0.Next, AV.row 3 0 x11.length 29, AV.row 4 0 a0.Wait.length 7, AV.list 13 (x10.map S_Act.av)] [(4, 5)], .cells 40 [ii 3, ii x9.Id, ss [], ss [], ii 0, ss [], ss [], ii 0, ss [], ii 0, AV.list 2 (([] : List S_Field).map S_Field.av), ss [], ii 0] [(10, 3)], .cells 28 [ii 0, ii 0, AV.list 29 (([] : List S_Conn).map S_Conn.av), AV.list 7 (([] : List S_Fetch).map S_Fetch.av)] [(2, 7), (3, 8)]] [1, 1, 0, 2, 2, 1, 2, 1, 1]) (upstream_Recv_b1 a0) (0 : Int) h ?_ ?_
     ·refine Gho.to _ _ _ [0, 1, 2, 3, 4, 5, 6, 7, 8] ?_ ?_ ?_ rfl rfl ?_
      ·exact ⟨trivial, ⟨⟨rfl, rfl, rfl⟩, ⟨trivial, ⟨⟨rfl, rfl, rfl⟩, ⟨⟨rfl, rfl, rfl⟩, ⟨⟨rfl, rfl, rfl⟩, ⟨⟨rfl, rfl, rfl⟩, ⟨⟨rfl, rfl, rfl⟩, trivial⟩⟩⟩⟩⟩⟩⟩⟩
      ·exact (keepN_d (keepN_c rfl (keepN_d (keepN_c (noB_flat _ (fun _ => rfl) _) (keepN_c (noB_flat _ (fun _ => rfl) _) (keepN_c rfl (keepN_c rfl (keepN_c rfl rfl))))))))
      ·exact rfl
      ·exact tr3 <| tr3 <| tr3 <| trivial
     intro n1 x y1 h hl1 hr1
     revert h; revert x; intro s13 h
     unfold upstream_Recv_b1 at h
     refine sj <| sj <| NormE.same <| sn ?_
     refine Br.of h (fun ht h => ?_) fun ht h => ?_
     ·exact W
     ·replace h := oi h
      replace h := hr1 _ h.symm
      subst h
      refine Gho.to _ _ _ [0, 1, 2, 3, 4, 5, 6, 7, 8] ?_ ?_ ?_ rfl rfl ?_
      ·exact ⟨trivial, ⟨⟨rfl, rfl, rfl⟩, ⟨trivial, ⟨⟨rfl, rfl, rfl⟩, ⟨⟨rfl, rfl, rfl⟩, ⟨⟨rfl, rfl, rfl⟩, ⟨⟨rfl, rfl, rfl⟩, ⟨⟨rfl, rfl, rfl⟩, trivial⟩⟩⟩⟩⟩⟩⟩⟩
      ·exact (keepN_d (keepN_c rfl (keepN_d (keepN_c (noB_flat _ (fun _ => rfl) _) (keepN_c (noB_flat _ (fun _ => rfl) _) (keepN_c rfl (keepN_c rfl (keepN_c rfl rfl))))))))
      ·exact rfl
      ·exact tr3 <| tr3 <| trivial
    ·clear hj12
     refine sj <| Or.inl <| ai ⟨lb rfl, lb rfl⟩ ?_
     refine xi (some 0) (ai (show aggT [(4, 5)] 0 4 = some 0 from by kernel_rfl) ?_)
     refine NormE.to (AV.agg [ii a0.Now, ii a0.Next, AV.row 3 0 x11.length 29, AV.row 4 0 a0.Wait.length 7]) (fun _ => rfl) ?_
     refine ai ⟨rfl, rfl, rfl, lb rfl⟩ (xi [ii a0.Now, ii a0.Next, AV.row 3 0 x11.length 29, AV.row 4 0 a0.Wait.length 7] (ai (fun _ => rfl) ?_))
     refine ai (by kernel_rfl) <| sn ?_
     refine ai ⟨lb rfl, lb rfl⟩ (xi (AV.agg [ii a0.Now, ii a0.Next, AV.row 3 0 x11.length 29, AV.row 4 0 a0.Wait.length 7]) (ai rfl ?_))
     refine ai ⟨rfl, rfl, rfl, lb rfl⟩ (xi [ii a0.Now, ii a0.Next, AV.row 3 0 x11.length 29, AV.row 4 0 a0.Wait.length 7] (ai (fun _ => rfl) ?_))
     refine sn ?_
     replace h := oi h
     refine RetE.frz ?_
     refine ai ⟨lb rfl, lb rfl⟩ (xi (AV.agg [ii a0.Now, ii a0.Next, AV.row 3 0 x11.length 29, AV.row 4 0 a0.Wait.length 7]) (ai rfl ?_))
     exact xi (AV.tup [AV.agg [ii a0.Now, ii a0.Next, AV.list 29 (x11.map S_Conn.av), AV.list 7 (a0.Wait.map S_Fetch.av)], AV.list 13 (x10.map S_Act.av), ii 0]) (ai (Frz.tupL ⟨Frz.aggL ⟨Frz.pure _ (AV.puD_ok rfl), Frz.pure _ (AV.puD_ok rfl), Frz.rowsW S_Conn.av 29 (lb rfl) (fun _ => rfl) (fun _ => rfl) rfl (flat_from _ _) rfl, Frz.rowsW S_Fetch.av 7 (lb rfl) (fun _ => rfl) (fun _ => rfl) rfl (flat_from _ _) rfl, trivial⟩, Frz.pure _ (AV.puD_ok rfl), Frz.pure _ (AV.puD_ok rfl), trivial⟩) (ai (congrArg (fun r : (S_Up × (List S_Act) × Int) => AV.tup [S_Up.av r.1, AV.list 13 (r.2.1.map S_Act.av), ii r.2.2]) h) rfl))
   ·refine sn <| sj <| bind_elim h fun x14 hx14 h => ai ⟨lb rfl, flat_fitsF S_Conn.cells 29 (fun _ => rfl) hx14 (o := 9) (n' := 18) (lb rfl)⟩ ?_
    refine xi none (ai rfl ?_)
    refine NormE.to (S_Reader.av x14.Reader) (fun _ => congrArg AV.agg (flat_loadF S_Conn.cells 29 (fun _ => rfl) hx14 (o := 9) (n' := 18) (lb rfl) rfl)) <| bind_elim h fun x15 hx15 h => CallH.data _ false rfl ((wire_Feed_ok E x14.Reader a2).1 x15 hx15) <| ai rfl ?_
    refine ai ⟨rfl, rfl, rfl, lb rfl⟩ (xi (S_Reader.cells x15.1) (ai (fun _ => rfl) ?_))
    refine sn <| sj <| ai ⟨lb rfl, lb rfl⟩ ?_
    refine xi none (ai rfl ?_)
    refine NormE.to (S_Reader.av x15.1) (fun _ => rfl) <| bind_elim h fun x16 hx16 h => ?_
    refine ai ⟨rfl, rfl, rfl, flat_lenF S_Conn.cells 29 (fun _ => rfl) hx16 (o := 9) (lb rfl)⟩ (xi ((a0.Conns.set x1.1.toNat (S_Conn.mk x16.Id x16.Origin x16.Fetch x15.1 x16.Got x16.Used)).flatMap S_Conn.cells) (ai (fun _ => flat_storeF S_Conn.cells 29 (fun _ => rfl) hx16 (o := 9) (lb rfl) rfl) ?_))
    refine bind_elim h fun x17 hx17 h => ?_
    refine ai ⟨rfl, rfl, rfl, flat_lenF S_Conn.cells 29 (fun _ => rfl) hx17 (o := 27) (lb rfl)⟩ (xi (((a0.Conns.set x1.1.toNat (S_Conn.mk x16.Id x16.Origin x16.Fetch x15.1 x16.Got x16.Used)).set x1.1.toNat (S_Conn.mk x17.Id x17.Origin x17.Fetch x17.Reader true x17.Used)).flatMap S_Conn.cells) (ai (fun _ => flat_storeF S_Conn.cells 29 (fun _ => rfl) hx17 (o := 27) (lb rfl) rfl) ?_))
    refine SeqN.via (St.of [⟨6, AV.ptr 1 0, none⟩, ⟨9, ii x1.1, none⟩, ⟨11, AV.ptr 5 0, none⟩, ⟨12, AV.ptr 3 (0 + x1.1.toNat * 29), none⟩, ⟨13, AV.ptr 6 0, none⟩, ⟨14, AV.list 7 (x15.2.1.map S_Message.av), none⟩] [.dead, .cells 28 [ii 0, ii 0, AV.list 29 (([] : List S_Conn).map S_Conn.av), AV.list 7 (([] : List S_Fetch).map S_Fetch.av)] [(2, 0), (3, 1)], .dead, .cells 48 (((a0.Conns.set x1.1.toNat (S_Conn.mk x16.Id x16.Origin x16.Fetch x15.1 x16.Got x16.Used)).set x1.1.toNat (S_Conn.mk x17.Id x17.Origin x17.Fetch x17.Reader true x17.Used)).flatMap S_Conn.cells) [], .cells 23 (a0.Wait.flatMap S_Fetch.cells) [], .cells 91 [ii a0.Now, ii a0.Next, AV.row 3 0 a0.Conns.length 29, AV.row 4 0 a0.Wait.length 7, AV.list 13 (([] : List S_Act).map S_Act.av)] [(4, 2)], .cells 46 (S_Reader.cells x15.1) []] [1, 1, 1]) ?_ ?_
    ·refine Gho.to _ _ _ [0, 1, 2] ?_ ?_ ?_ rfl rfl ?_
     ·exact ⟨trivial, ⟨⟨rfl, rfl, rfl⟩, ⟨trivial, ⟨⟨rfl, rfl, rfl⟩, ⟨⟨rfl, rfl, rfl⟩, ⟨⟨rfl, rfl, rfl⟩, ⟨⟨rfl, rfl, rfl⟩, trivial⟩⟩⟩⟩⟩⟩⟩
     ·exact (keepN_d (keepN_c rfl (keepN_d (keepN_c (noB_flat _ (fun _ => rfl) _) (keepN_c (noB_flat _ (fun _ => rfl) _) (keepN_c rfl (keepN_c rfl rfl)))))))
     ·exact rfl
     ·exact tr3 <| tr3 <| tr3 <| tr3 <| tr3 <| tr3 <| trivial
    refine sj <| sj <| NormE.to (ii (x15.2.1.length : Int)) (fun _ => len_list S_Message.av x15.2.1) <| sn ?_
    refine Br.of h (fun ht h => ?_) fun ht h => ?_
    ·refine bind_elim h fun x18 hx18 h => ?_
     refine ai rfl (xi (S_Message.av x18) (ai (fun hg => idx_map _ hx18) ?_))
     refine ai (lb rfl) <| NormE.to (S_Message.av x18) (fun _ => rfl) <| NormE.to (ii (x15.2.1.length : Int)) (fun _ => len_list S_Message.av x15.2.1) <| ai ⟨lb rfl, lb rfl⟩ ?_
     refine xi none (ai rfl ?_)
     refine NormE.to (S_Reader.av x15.1) (fun _ => rfl) <| bind_elim h fun x19 hx19 h => ai id <| ai rfl ?_
     refine CallF.mk _ false (fun hg => (upstream_fresh_ok E x15.1).1 x19 (gcall_some hx19 hg)) (ai rfl ?_)
     refine ai (fun hg => (and_r hg)) <| ai ⟨by kernel_rfl, by kernel_rfl⟩ <| FnC.of_ev (T := T) (rows := [25, 62, 999999]) tOk mixed Tryz.func40 rfl (by kernel_rfl) (by kernel_rfl) rfl rfl <| sj <| ai rfl ?_
     refine xi [] (xi 0 (ai ⟨rfl, rfl⟩ ?_))
     refine sn <| sj <| chk_elim h fun q20 h => ai (fun _ => q20) <| sn <| sj <| bind_elim h fun x21 hx21 h => optE.mk (α := AV) (c := ii x21.Fetch.Id) (flat_getF S_Conn.cells 29 (fun _ => rfl) hx21 (o := 2) (lb rfl) rfl) <| ai ⟨lb rfl, lb rfl⟩ ?_
     refine xi none (ai rfl ?_)
     refine NormE.to (S_Message.av x18) (fun _ => rfl) <| ai ⟨by kernel_rfl, by kernel_rfl⟩ <| FnC.of_ev (T := T) (rows := [13]) tOk mixed Tryz.func35 rfl (by kernel_rfl) (by kernel_rfl) rfl rfl <| sj <| ai rfl ?_
     refine xi [] (xi 0 (ai ⟨rfl, rfl⟩ ?_))
     refine sn <| ai ⟨lb rfl, lb rfl⟩ ?_
     refine xi none (ai rfl ?_)
     refine NormE.to (S_Message.av x18) (fun _ => rfl) <| ai ⟨rfl, rfl, lb rfl⟩ <| ai ⟨rfl, rfl, lb rfl⟩ <| ai ⟨rfl, rfl, lb rfl⟩ <| ai ⟨rfl, rfl, lb rfl⟩ ?_
     refine xi none (ai trivial ?_)
     refine FnC.of_ev (T := T) (rows := []) tOk mixed Tryz.func78 rfl (by kernel_rfl) (by kernel_rfl) rfl rfl <| sj <| ai rfl ?_
     refine xi [] (xi 0 (ai ⟨rfl, rfl⟩ ?_))
     refine sn <| Or.inl <| ai ⟨lb rfl, lb rfl⟩ ?_
     refine xi none (ai rfl ?_)
     refine NormE.to (AV.agg [ii 4, ii 0, ss [], ss [], ii x21.Fetch.Id, ss x18.Start.Method, ss x18.Start.Target, ii x18.Start.Code, ss x18.Start.Reason, ii x18.Start.Minor, AV.list 2 (x18.Fields.map S_Field.av), ss x18.Body, ii 0]) (fun _ => rfl) <| ai ⟨rfl, rfl, rfl, rfl⟩ <| ai ⟨rfl, rfl, rfl⟩ <| NormE.to (AV.list 13 (([(S_Act.mk (4 : Int) (0 : Int) ([] : Bytes) ([] : Bytes) x21.Fetch.Id x18 (0 : Int))] : List S_Act).map S_Act.av)) (fun _ => rfl) <| bind_elim h fun x22 hx22 h => ?_
     have qx22 := (app_some hx22).1
     have hx22e := (app_some hx22).2
     refine ai ⟨rfl, rfl, rfl⟩ <| ai rfl <| ai (app_cond S_Act.av qx22) <| NormE.to (AV.list 13 (x22.map S_Act.av)) (fun _ => (app_list 13 S_Act.av _ _).trans (congrArg (fun y => AV.list 13 (List.map S_Act.av y)) hx22e.symm)) ?_
     refine ai ⟨rfl, rfl, rfl, lb rfl⟩ (xi [ii a0.Now, ii a0.Next, AV.row 3 0 a0.Conns.length 29, AV.row 4 0 a0.Wait.length 7, AV.list 13 (x22.map S_Act.av)] (ai (fun _ => rfl) ?_))
     refine ai (by kernel_rfl) ?_
     refine SeqN.via (St.of [⟨0, AV.ptr 5 0, none⟩, ⟨1, ii x1.1, none⟩, ⟨3, bb (bif ((x15.2.1.length : Int) == (1 : Int)) then x19 else false), none⟩, ⟨6, AV.ptr 7 0, none⟩, ⟨8, AV.ptr 3 (0 + x1.1.toNat * 29), none⟩] [.dead, .cells 28 [ii 0, ii 0, AV.list 29 (([] : List S_Conn).map S_Conn.av), AV.list 7 (([] : List S_Fetch).map S_Fetch.av)] [(2, 0), (3, 1)], .dead, .cells 48 (((a0.Conns.set x1.1.toNat (S_Conn.mk x16.Id x16.Origin x16.Fetch x15.1 x16.Got x16.Used)).set x1.1.toNat (S_Conn.mk x17.Id x17.Origin x17.Fetch x17.Reader true x17.Used)).flatMap S_Conn.cells) [], .cells 23 (a0.Wait.flatMap S_Fetch.cells) [], .cells 91 [ii a0.Now, ii a0.Next, AV.row 3 0 a0.Conns.length 29, AV.row 4 0 a0.Wait.length 7, AV.list 13 (x22.map S_Act.av)] [(4, 3)], .cells 46 (S_Reader.cells x15.1) [], .cells 38 (S_Message.cells x18) []] [1, 1, 0, 1]) ?_ ?_
     ·refine Gho.to _ _ _ [0, 1, 2, 4] ?_ ?_ ?_ rfl rfl ?_
      ·exact ⟨trivial, ⟨⟨rfl, rfl, rfl⟩, ⟨trivial, ⟨⟨rfl, rfl, rfl⟩, ⟨⟨rfl, rfl, rfl⟩, ⟨⟨rfl, rfl, rfl⟩, ⟨⟨rfl, rfl, rfl⟩, ⟨⟨rfl, rfl, rfl⟩, trivial⟩⟩⟩⟩⟩⟩⟩⟩
      ·exact (keepN_d (keepN_c rfl (keepN_d (keepN_c (noB_flat _ (fun _ => rfl) _) (keepN_c (noB_flat _ (fun _ => rfl) _) (keepN_c rfl (keepN_c rfl (keepN_c rfl rfl))))))))
      ·exact rfl
      ·exact tr3 <| tr3 <| tr3 <| tr3 <| tr3 <| trivial
     refine sj <| Or.inl <| bind_elim h fun x23 hx23 h => optE.mk (α := AV) (c := ss x23.Origin) (flat_getF S_Conn.cells 29 (fun _ => rfl) hx23 (o := 1) (lb rfl) rfl) <| bind_elim h fun x24 hx24 h => CallH.lend [3] _ _ _ rfl ((upstream_free_ok E ((a0.Conns.set x1.1.toNat (S_Conn.mk x16.Id x16.Origin x16.Fetch x15.1 x16.Got x16.Used)).set x1.1.toNat (S_Conn.mk x17.Id x17.Origin x17.Fetch x17.Reader true x17.Used)) x23.Origin).1 x24 hx24) (Lend.of [3] ⟨Frz.rowsW S_Conn.av 29 (lb rfl) (fun _ => rfl) (fun _ => rfl) rfl (flat_from _ _) (by simp only [List.length_set]), Frz.pure _ (AV.puD_ok rfl), trivial⟩) <| ai (by kernel_rfl) <| sn <| sj <| sj <| ai id <| ai ⟨lb rfl, lb rfl⟩ ?_
     refine xi none (ai rfl ?_)
     refine NormE.to (S_Start.av x18.Start) (fun _ => rfl) <| ai id <| bind_elim h fun x25 hx25 h => ai id <| ai id <| ai rfl ?_
     refine CallF.mk _ false (fun hg => (hop_Keeps_ok E x18.Start x18.Fields).1 x25 (gcall_some hx25 hg)) (ai rfl ?_)
     refine ai id <| ai (fun hg => (and_r hg)) <| ai id <| ai (fun hg => (and_r hg)) <| ai id <| ai id <| bind_elim h fun x26 hx26 h => ai id <| optE.mk (α := AV) (c := ii x26.Used) (flat_getF S_Conn.cells 29 (fun _ => rfl) hx26 (o := 28) (lb rfl) rfl) <| ai id <| ai (fun hg => (and_r hg)) ?_
     refine SeqN.via (St.of [⟨0, AV.ptr 5 0, none⟩, ⟨1, ii x1.1, none⟩, ⟨8, AV.ptr 3 (0 + x1.1.toNat * 29), none⟩, ⟨59, bb (bif (bif (bif (!(bif ((x15.2.1.length : Int) == (1 : Int)) then x19 else false)) then true else (!x25)) then true else (decide (x24.1 ≥ (2 : Int)))) then true else (decide (x26.Used ≥ (1000000000 : Int)))), none⟩] [.dead, .cells 28 [ii 0, ii 0, AV.list 29 (([] : List S_Conn).map S_Conn.av), AV.list 7 (([] : List S_Fetch).map S_Fetch.av)] [(2, 0), (3, 1)], .dead, .cells 48 (((a0.Conns.set x1.1.toNat (S_Conn.mk x16.Id x16.Origin x16.Fetch x15.1 x16.Got x16.Used)).set x1.1.toNat (S_Conn.mk x17.Id x17.Origin x17.Fetch x17.Reader true x17.Used)).flatMap S_Conn.cells) [], .cells 23 (a0.Wait.flatMap S_Fetch.cells) [], .cells 91 [ii a0.Now, ii a0.Next, AV.row 3 0 a0.Conns.length 29, AV.row 4 0 a0.Wait.length 7, AV.list 13 (x22.map S_Act.av)] [(4, 3)], .cells 46 (S_Reader.cells x15.1) []] [1, 1, 0, 1]) ?_ ?_
     ·refine Gho.to _ _ _ [0, 1, 2, 3] ?_ ?_ ?_ rfl rfl ?_
      ·exact ⟨trivial, ⟨⟨rfl, rfl, rfl⟩, ⟨trivial, ⟨⟨rfl, rfl, rfl⟩, ⟨⟨rfl, rfl, rfl⟩, ⟨⟨rfl, rfl, rfl⟩, ⟨⟨rfl, rfl, rfl⟩, trivial⟩⟩⟩⟩⟩⟩⟩
      ·exact (keepN_d (keepN_c rfl (keepN_d (keepN_c (noB_flat _ (fun _ => rfl) _) (keepN_c (noB_flat _ (fun _ => rfl) _) (keepN_c rfl (keepN_c rfl rfl)))))))
      ·exact rfl
      ·exact tr3 <| tr3 <| tr3 <| tr3 <| trivial
     refine Br.of h (fun ht h => ?_) fun ht h => ?_
     ·refine sj <| FnC.of_ev (T := T) (rows := [15, 25]) tOk mixed Tryz.func38 rfl (by kernel_rfl) (by kernel_rfl) rfl rfl <| sj <| chk_elim h fun q27 h => ai (fun _ => q27) <| bind_elim h fun x28 hx28 h => optE.mk (α := AV) (c := ii x28.Id) (flat_getF S_Conn.cells 29 (fun _ => rfl) hx28 (o := 0) (lb rfl) rfl) <| ai ⟨rfl, rfl, lb rfl⟩ <| ai ⟨rfl, rfl, lb rfl⟩ ?_
      refine xi (some 4797324681010433232896) (ai (okM.mk (show (4797324681010433232896 : Nat) = freeM T _ _ _ from by kernel_rfl)) ?_)
      refine FnC.of_ev (T := T) (rows := []) tOk mixed Tryz.func78 rfl (by kernel_rfl) (by kernel_rfl) rfl rfl <| sj <| ai rfl ?_
      refine xi [(10, 4)] (xi 1 (ai ⟨(by kernel_rfl), rfl⟩ ?_))
      refine sn <| Or.inl <| ai ⟨lb rfl, lb rfl⟩ ?_
      refine xi (some 6917529027641081856) (ai (show aggT [(10, 4)] 0 13 = some 6917529027641081856 from by kernel_rfl) ?_)
      refine NormE.to (AV.agg [ii 3, ii x28.Id, ss [], ss [], ii 0, ss [], ss [], ii 0, ss [], ii 0, AV.list 2 (([] : List S_Field).map S_Field.av), ss [], ii 0]) (fun _ => rfl) <| ai ⟨rfl, rfl, rfl, rfl⟩ <| ai ⟨rfl, rfl, rfl⟩ <| NormE.to (AV.list 13 (([(S_Act.mk (3 : Int) x28.Id ([] : Bytes) ([] : Bytes) (0 : Int) (S_Message.mk (S_Start.mk ([] : Bytes) ([] : Bytes) (0 : Int) ([] : Bytes) (0 : Int)) ([] : List S_Field) ([] : Bytes)) (0 : Int))] : List S_Act).map S_Act.av)) (fun _ => rfl) <| bind_elim h fun x29 hx29 h => ?_
      have qx29 := (app_some hx29).1
      have hx29e := (app_some hx29).2
      refine ai ⟨rfl, rfl, rfl⟩ <| ai rfl <| ai (app_cond S_Act.av qx29) <| NormE.to (AV.list 13 (x29.map S_Act.av)) (fun _ => (app_list 13 S_Act.av _ _).trans (congrArg (fun y => AV.list 13 (List.map S_Act.av y)) hx29e.symm)) ?_
      refine ai ⟨rfl, rfl, rfl, lb rfl⟩ (xi [ii a0.Now, ii a0.Next, AV.row 3 0 a0.Conns.length 29, AV.row 4 0 a0.Wait.length 7, AV.list 13 (x29.map S_Act.av)] (ai (fun _ => rfl) ?_))
      refine ai (by kernel_rfl) <| sn <| bind_elim h fun x30 hx30 h => slices_Delete_Conn_ok (f := S_Conn.av) E rfl (by simp only [List.length_set]) hx30 ?_
      refine ai ⟨rfl, rfl, rfl, lb rfl⟩ (xi [ii a0.Now, ii a0.Next, AV.row 3 0 x30.length 29, AV.row 4 0 a0.Wait.length 7, AV.list 13 (x29.map S_Act.av)] (ai (fun _ => rfl) ?_))
      refine sn ?_
      refine SeqN.via (St.of [⟨6, AV.ptr 1 0, none⟩, ⟨11, AV.ptr 5 0, none⟩] [.dead, .cells 28 [ii 0, ii 0, AV.list 29 (([] : List S_Conn).map S_Conn.av), AV.list 7 (([] : List S_Fetch).map S_Fetch.av)] [(2, 0), (3, 1)], .dead, .cells 48 (x30.flatMap S_Conn.cells) [], .cells 23 (a0.Wait.flatMap S_Fetch.cells) [], .cells 91 [ii a0.Now, ii a0.Next, AV.row 3 0 x30.length 29, AV.row 4 0 a0.Wait.length 7, AV.list 13 (x29.map S_Act.av)] [(4, 2)]] [1, 1, 1]) ?_ ?_
      ·refine Gho.to _ _ _ [0, 1, 6] ?_ ?_ ?_ rfl rfl ?_
       ·exact ⟨trivial, ⟨⟨rfl, rfl, rfl⟩, ⟨trivial, ⟨⟨rfl, rfl, rfl⟩, ⟨⟨rfl, rfl, rfl⟩, ⟨⟨rfl, rfl, rfl⟩, trivial⟩⟩⟩⟩⟩⟩
       ·exact (keepN_d (keepN_c rfl (keepN_d (keepN_c (noB_flat _ (fun _ => rfl) _) (keepN_c (noB_flat _ (fun _ => rfl) _) (keepN_c rfl rfl))))))
       ·exact rfl
       ·exact tr3 <| tr3 <| trivial
      refine sj <| FnC.of_ev (T := T) (rows := []) tOk mixed Tryz.func39 rfl (by kernel_rfl) (by kernel_rfl) rfl rfl <| sj <| ai rfl <| sn <| bind_elim h fun j31 hj31 h => ?_
      refine SeqJ.join (St.of [⟨0, AV.ptr 5 0, none⟩, ⟨2, AV.ptr 6 0, none⟩] [.dead, .cells 28 [ii 0, ii 0, AV.list 29 (([] : List S_Conn).map S_Conn.av), AV.list 7 (([] : List S_Fetch).map S_Fetch.av)] [(2, 0), (3, 1)], .dead, .cells 48 (x30.flatMap S_Conn.cells) [], .cells 23 (a0.Wait.flatMap S_Fetch.cells) [], .cells 91 [ii a0.Now, ii a0.Next, AV.row 3 0 x30.length 29, AV.row 4 0 a0.Wait.length 7, AV.list 13 (x29.map S_Act.av)] [(4, 2)], .cells 28 [ii 0, ii 0, AV.list 29 (([] : List S_Conn).map S_Conn.av), AV.list 7 (([] : List S_Fetch).map S_Fetch.av)] [(2, 3), (3, 4)]] [1, 1, 1, 1, 1]) ?_ ?_
      ·clear h; have h := hj31; clear hj31
       refine sj <| sn ?_
       refine LoopE.img (fun x : Int => St.of [⟨0, AV.ptr 5 0, none⟩, ⟨2, AV.ptr 6 0, none⟩, ⟨5, ii x, none⟩] [.dead, .cells 28 [ii 0, ii 0, AV.list 29 (([] : List S_Conn).map S_Conn.av), AV.list 7 (([] : List S_Fetch).map S_Fetch.av)] [(2, 0), (3, 1)], .dead, .cells 48 (x30.flatMap S_Conn.cells) [], .cells 23 (a0.Wait.flatMap S_Fetch.cells) [], .cells 91 [ii a0.Now, ii a0.Next, AV.row 3 0 x30.length 29, AV.row 4 0 a0.Wait.length 7, AV.list 13 (x29.map S_Act.av)] [(4, 2)], .cells 28 [ii 0, ii 0, AV.list 29 (([] : List S_Conn).map S_Conn.av), AV.list 7 (([] : List S_Fetch).map S_Fetch.av)] [(2, 3), (3, 4)]] [1, 1, 1, 1, 1]) (upstream_Recv_b2 a0) (0 : Int) h ?_ ?_
       ·refine Gho.to _ _ _ [0, 1, 2, 3, 4] ?_ ?_ ?_ rfl rfl ?_
        ·exact ⟨trivial, ⟨⟨rfl, rfl, rfl⟩, ⟨trivial, ⟨⟨rfl, rfl, rfl⟩, ⟨⟨rfl, rfl, rfl⟩, ⟨⟨rfl, rfl, rfl⟩, ⟨⟨rfl, rfl, rfl⟩, trivial⟩⟩⟩⟩⟩⟩⟩
        ·exact (keepN_d (keepN_c rfl (keepN_d (keepN_c (noB_flat _ (fun _ => rfl) _) (keepN_c (noB_flat _ (fun _ => rfl) _) (keepN_c rfl (keepN_c rfl rfl)))))))
        ·exact rfl
        ·exact tr3 <| tr3 <| tr3 <| trivial
       intro n2 x y2 h hl2 hr2
       revert h; revert x; intro s32 h
       unfold upstream_Recv_b2 at h
       refine sj <| sj <| NormE.same <| sn ?_
       refine Br.of h (fun ht h => ?_) fun ht h => ?_
       ·exact W
       ·replace h := oi h
        replace h := hr2 _ h.symm
        subst h
        refine Gho.to _ _ _ [0, 1, 2, 3, 4] ?_ ?_ ?_ rfl rfl ?_
        ·exact ⟨trivial, ⟨⟨rfl, rfl, rfl⟩, ⟨trivial, ⟨⟨rfl, rfl, rfl⟩, ⟨⟨rfl, rfl, rfl⟩, ⟨⟨rfl, rfl, rfl⟩, ⟨⟨rfl, rfl, rfl⟩, trivial⟩⟩⟩⟩⟩⟩⟩
        ·exact (keepN_d (keepN_c rfl (keepN_d (keepN_c (noB_flat _ (fun _ => rfl) _) (keepN_c (noB_flat _ (fun _ => rfl) _) (keepN_c rfl (keepN_c rfl rfl)))))))
        ·exact rfl
        ·exact tr3 <| tr3 <| trivial
      ·clear hj31
       refine sj <| Or.inl <| ai ⟨lb rfl, lb rfl⟩ ?_
       refine xi (some 0) (ai (show aggT [(4, 2)] 0 4 = some 0 from by kernel_rfl) ?_)
       refine NormE.to (AV.agg [ii a0.Now, ii a0.Next, AV.row 3 0 x30.length 29, AV.row 4 0 a0.Wait.length 7]) (fun _ => rfl) ?_
       refine ai ⟨rfl, rfl, rfl, lb rfl⟩ (xi [ii a0.Now, ii a0.Next, AV.row 3 0 x30.length 29, AV.row 4 0 a0.Wait.length 7] (ai (fun _ => rfl) ?_))
       refine ai (by kernel_rfl) <| sn ?_
       refine ai ⟨lb rfl, lb rfl⟩ (xi (AV.agg [ii a0.Now, ii a0.Next, AV.row 3 0 x30.length 29, AV.row 4 0 a0.Wait.length 7]) (ai rfl ?_))
       refine ai ⟨rfl, rfl, rfl, lb rfl⟩ (xi [ii a0.Now, ii a0.Next, AV.row 3 0 x30.length 29, AV.row 4 0 a0.Wait.length 7] (ai (fun _ => rfl) ?_))
       refine sn ?_
       replace h := oi h
       refine RetE.frz ?_
       refine ai ⟨lb rfl, lb rfl⟩ (xi (AV.agg [ii a0.Now, ii a0.Next, AV.row 3 0 x30.length 29, AV.row 4 0 a0.Wait.length 7]) (ai rfl ?_))
       exact xi (AV.tup [AV.agg [ii a0.Now, ii a0.Next, AV.list 29 (x30.map S_Conn.av), AV.list 7 (a0.Wait.map S_Fetch.av)], AV.list 13 (x29.map S_Act.av), ii 0]) (ai (Frz.tupL ⟨Frz.aggL ⟨Frz.pure _ (AV.puD_ok rfl), Frz.pure _ (AV.puD_ok rfl), Frz.rowsW S_Conn.av 29 (lb rfl) (fun _ => rfl) (fun _ => rfl) rfl (flat_from _ _) rfl, Frz.rowsW S_Fetch.av 7 (lb rfl) (fun _ => rfl) (fun _ => rfl) rfl (flat_from _ _) rfl, trivial⟩, Frz.pure _ (AV.puD_ok rfl), Frz.pure _ (AV.puD_ok rfl), trivial⟩) (ai (congrArg (fun r : (S_Up × (List S_Act) × Int) => AV.tup [S_Up.av r.1, AV.list 13 (r.2.1.map S_Act.av), ii r.2.2]) h) rfl))
     ·refine sn <| sj ?_
      refine xi none (ai trivial ?_)
      refine xi (some 5151088153308360742589778104385) (ai (okM.mk (show (5151088153308360742589778104385 : Nat) = freeM T _ _ _ from by kernel_rfl)) ?_)
      refine bind_elim h fun x33 hx33 h => ?_
      refine ai ⟨rfl, rfl, rfl, flat_lenF S_Conn.cells 29 (fun _ => rfl) hx33 (o := 2) (lb rfl)⟩ (xi ((((a0.Conns.set x1.1.toNat (S_Conn.mk x16.Id x16.Origin x16.Fetch x15.1 x16.Got x16.Used)).set x1.1.toNat (S_Conn.mk x17.Id x17.Origin x17.Fetch x17.Reader true x17.Used)).set x1.1.toNat (S_Conn.mk x33.Id x33.Origin (S_Fetch.mk (0 : Int) ([] : Bytes) ([] : Bytes) ([] : Bytes) false (0 : Int) false) x33.Reader x33.Got x33.Used)).flatMap S_Conn.cells) (ai (fun _ => flat_storeF S_Conn.cells 29 (fun _ => rfl) hx33 (o := 2) (lb rfl) rfl) ?_))
      refine bind_elim h fun x34 hx34 h => ?_
      refine ai ⟨rfl, rfl, rfl, flat_lenF S_Conn.cells 29 (fun _ => rfl) hx34 (o := 9) (lb rfl)⟩ (xi (((((a0.Conns.set x1.1.toNat (S_Conn.mk x16.Id x16.Origin x16.Fetch x15.1 x16.Got x16.Used)).set x1.1.toNat (S_Conn.mk x17.Id x17.Origin x17.Fetch x17.Reader true x17.Used)).set x1.1.toNat (S_Conn.mk x33.Id x33.Origin (S_Fetch.mk (0 : Int) ([] : Bytes) ([] : Bytes) ([] : Bytes) false (0 : Int) false) x33.Reader x33.Got x33.Used)).set x1.1.toNat (S_Conn.mk x34.Id x34.Origin x34.Fetch (S_Reader.mk false ([] : Bytes) ([] : Bytes) false (S_Message.mk (S_Start.mk ([] : Bytes) ([] : Bytes) (0 : Int) ([] : Bytes) (0 : Int)) ([] : List S_Field) ([] : Bytes)) (S_Body.mk (0 : Int) (0 : Int)) (S_Chunked.mk (0 : Int) ([] : Bytes) (0 : Int) (0 : Int)) (0 : Int)) x34.Got x34.Used)).flatMap S_Conn.cells) (ai (fun _ => flat_storeF S_Conn.cells 29 (fun _ => rfl) hx34 (o := 9) (lb rfl) rfl) ?_))
      refine bind_elim h fun x35 hx35 h => ?_
      refine ai ⟨rfl, rfl, rfl, flat_lenF S_Conn.cells 29 (fun _ => rfl) hx35 (o := 27) (lb rfl)⟩ (xi ((((((a0.Conns.set x1.1.toNat (S_Conn.mk x16.Id x16.Origin x16.Fetch x15.1 x16.Got x16.Used)).set x1.1.toNat (S_Conn.mk x17.Id x17.Origin x17.Fetch x17.Reader true x17.Used)).set x1.1.toNat (S_Conn.mk x33.Id x33.Origin (S_Fetch.mk (0 : Int) ([] : Bytes) ([] : Bytes) ([] : Bytes) false (0 : Int) false) x33.Reader x33.Got x33.Used)).set x1.1.toNat (S_Conn.mk x34.Id x34.Origin x34.Fetch (S_Reader.mk false ([] : Bytes) ([] : Bytes) false (S_Message.mk (S_Start.mk ([] : Bytes) ([] : Bytes) (0 : Int) ([] : Bytes) (0 : Int)) ([] : List S_Field) ([] : Bytes)) (S_Body.mk (0 : Int) (0 : Int)) (S_Chunked.mk (0 : Int) ([] : Bytes) (0 : Int) (0 : Int)) (0 : Int)) x34.Got x34.Used)).set x1.1.toNat (S_Conn.mk x35.Id x35.Origin x35.Fetch x35.Reader false x35.Used)).flatMap S_Conn.cells) (ai (fun _ => flat_storeF S_Conn.cells 29 (fun _ => rfl) hx35 (o := 27) (lb rfl) rfl) ?_))
      refine sn <| bind_elim h fun x36 hx36 h => optE.mk (α := AV) (c := ii x36.Used) (flat_getF S_Conn.cells 29 (fun _ => rfl) hx36 (o := 28) (lb rfl) rfl) <| bind_elim h fun x37 hx37 h => ?_
      refine ai ⟨rfl, rfl, rfl, flat_lenF S_Conn.cells 29 (fun _ => rfl) hx37 (o := 28) (lb rfl)⟩ (xi (((((((a0.Conns.set x1.1.toNat (S_Conn.mk x16.Id x16.Origin x16.Fetch x15.1 x16.Got x16.Used)).set x1.1.toNat (S_Conn.mk x17.Id x17.Origin x17.Fetch x17.Reader true x17.Used)).set x1.1.toNat (S_Conn.mk x33.Id x33.Origin (S_Fetch.mk (0 : Int) ([] : Bytes) ([] : Bytes) ([] : Bytes) false (0 : Int) false) x33.Reader x33.Got x33.Used)).set x1.1.toNat (S_Conn.mk x34.Id x34.Origin x34.Fetch (S_Reader.mk false ([] : Bytes) ([] : Bytes) false (S_Message.mk (S_Start.mk ([] : Bytes) ([] : Bytes) (0 : Int) ([] : Bytes) (0 : Int)) ([] : List S_Field) ([] : Bytes)) (S_Body.mk (0 : Int) (0 : Int)) (S_Chunked.mk (0 : Int) ([] : Bytes) (0 : Int) (0 : Int)) (0 : Int)) x34.Got x34.Used)).set x1.1.toNat (S_Conn.mk x35.Id x35.Origin x35.Fetch x35.Reader false x35.Used)).set x1.1.toNat (S_Conn.mk x37.Id x37.Origin x37.Fetch x37.Reader x37.Got (IntKind.i64.wrap (x36.Used + (1 : Int))))).flatMap S_Conn.cells) (ai (fun _ => flat_storeF S_Conn.cells 29 (fun _ => rfl) hx37 (o := 28) (lb rfl) rfl) ?_))
      refine SeqN.via (St.of [⟨6, AV.ptr 1 0, none⟩, ⟨11, AV.ptr 5 0, none⟩] [.dead, .cells 28 [ii 0, ii 0, AV.list 29 (([] : List S_Conn).map S_Conn.av), AV.list 7 (([] : List S_Fetch).map S_Fetch.av)] [(2, 0), (3, 1)], .dead, .cells 48 (((((((a0.Conns.set x1.1.toNat (S_Conn.mk x16.Id x16.Origin x16.Fetch x15.1 x16.Got x16.Used)).set x1.1.toNat (S_Conn.mk x17.Id x17.Origin x17.Fetch x17.Reader true x17.Used)).set x1.1.toNat (S_Conn.mk x33.Id x33.Origin (S_Fetch.mk (0 : Int) ([] : Bytes) ([] : Bytes) ([] : Bytes) false (0 : Int) false) x33.Reader x33.Got x33.Used)).set x1.1.toNat (S_Conn.mk x34.Id x34.Origin x34.Fetch (S_Reader.mk false ([] : Bytes) ([] : Bytes) false (S_Message.mk (S_Start.mk ([] : Bytes) ([] : Bytes) (0 : Int) ([] : Bytes) (0 : Int)) ([] : List S_Field) ([] : Bytes)) (S_Body.mk (0 : Int) (0 : Int)) (S_Chunked.mk (0 : Int) ([] : Bytes) (0 : Int) (0 : Int)) (0 : Int)) x34.Got x34.Used)).set x1.1.toNat (S_Conn.mk x35.Id x35.Origin x35.Fetch x35.Reader false x35.Used)).set x1.1.toNat (S_Conn.mk x37.Id x37.Origin x37.Fetch x37.Reader x37.Got (IntKind.i64.wrap (x36.Used + (1 : Int))))).flatMap S_Conn.cells) [], .cells 23 (a0.Wait.flatMap S_Fetch.cells) [], .cells 91 [ii a0.Now, ii a0.Next, AV.row 3 0 a0.Conns.length 29, AV.row 4 0 a0.Wait.length 7, AV.list 13 (x22.map S_Act.av)] [(4, 2)]] [1, 1, 1]) ?_ ?_
      ·refine Gho.to _ _ _ [0, 1, 3] ?_ ?_ ?_ rfl rfl ?_
       ·exact ⟨trivial, ⟨⟨rfl, rfl, rfl⟩, ⟨trivial, ⟨⟨rfl, rfl, rfl⟩, ⟨⟨rfl, rfl, rfl⟩, ⟨⟨rfl, rfl, rfl⟩, trivial⟩⟩⟩⟩⟩⟩
       ·exact (keepN_d (keepN_c rfl (keepN_d (keepN_c (noB_flat _ (fun _ => rfl) _) (keepN_c (noB_flat _ (fun _ => rfl) _) (keepN_c rfl rfl))))))
       ·exact rfl
       ·exact tr3 <| tr3 <| trivial
      refine sj <| FnC.of_ev (T := T) (rows := []) tOk mixed Tryz.func39 rfl (by kernel_rfl) (by kernel_rfl) rfl rfl <| sj <| ai rfl <| sn <| bind_elim h fun j38 hj38 h => ?_
      refine SeqJ.join (St.of [⟨0, AV.ptr 5 0, none⟩, ⟨2, AV.ptr 6 0, none⟩] [.dead, .cells 28 [ii 0, ii 0, AV.list 29 (([] : List S_Conn).map S_Conn.av), AV.list 7 (([] : List S_Fetch).map S_Fetch.av)] [(2, 0), (3, 1)], .dead, .cells 48 (((((((a0.Conns.set x1.1.toNat (S_Conn.mk x16.Id x16.Origin x16.Fetch x15.1 x16.Got x16.Used)).set x1.1.toNat (S_Conn.mk x17.Id x17.Origin x17.Fetch x17.Reader true x17.Used)).set x1.1.toNat (S_Conn.mk x33.Id x33.Origin (S_Fetch.mk (0 : Int) ([] : Bytes) ([] : Bytes) ([] : Bytes) false (0 : Int) false) x33.Reader x33.Got x33.Used)).set x1.1.toNat (S_Conn.mk x34.Id x34.Origin x34.Fetch (S_Reader.mk false ([] : Bytes) ([] : Bytes) false (S_Message.mk (S_Start.mk ([] : Bytes) ([] : Bytes) (0 : Int) ([] : Bytes) (0 : Int)) ([] : List S_Field) ([] : Bytes)) (S_Body.mk (0 : Int) (0 : Int)) (S_Chunked.mk (0 : Int) ([] : Bytes) (0 : Int) (0 : Int)) (0 : Int)) x34.Got x34.Used)).set x1.1.toNat (S_Conn.mk x35.Id x35.Origin x35.Fetch x35.Reader false x35.Used)).set x1.1.toNat (S_Conn.mk x37.Id x37.Origin x37.Fetch x37.Reader x37.Got (IntKind.i64.wrap (x36.Used + (1 : Int))))).flatMap S_Conn.cells) [], .cells 23 (a0.Wait.flatMap S_Fetch.cells) [], .cells 91 [ii a0.Now, ii a0.Next, AV.row 3 0 a0.Conns.length 29, AV.row 4 0 a0.Wait.length 7, AV.list 13 (x22.map S_Act.av)] [(4, 2)], .cells 28 [ii 0, ii 0, AV.list 29 (([] : List S_Conn).map S_Conn.av), AV.list 7 (([] : List S_Fetch).map S_Fetch.av)] [(2, 3), (3, 4)]] [1, 1, 1, 1, 1]) ?_ ?_
      ·clear h; have h := hj38; clear hj38
       refine sj <| sn ?_
       refine LoopE.img (fun x : Int => St.of [⟨0, AV.ptr 5 0, none⟩, ⟨2, AV.ptr 6 0, none⟩, ⟨5, ii x, none⟩] [.dead, .cells 28 [ii 0, ii 0, AV.list 29 (([] : List S_Conn).map S_Conn.av), AV.list 7 (([] : List S_Fetch).map S_Fetch.av)] [(2, 0), (3, 1)], .dead, .cells 48 (((((((a0.Conns.set x1.1.toNat (S_Conn.mk x16.Id x16.Origin x16.Fetch x15.1 x16.Got x16.Used)).set x1.1.toNat (S_Conn.mk x17.Id x17.Origin x17.Fetch x17.Reader true x17.Used)).set x1.1.toNat (S_Conn.mk x33.Id x33.Origin (S_Fetch.mk (0 : Int) ([] : Bytes) ([] : Bytes) ([] : Bytes) false (0 : Int) false) x33.Reader x33.Got x33.Used)).set x1.1.toNat (S_Conn.mk x34.Id x34.Origin x34.Fetch (S_Reader.mk false ([] : Bytes) ([] : Bytes) false (S_Message.mk (S_Start.mk ([] : Bytes) ([] : Bytes) (0 : Int) ([] : Bytes) (0 : Int)) ([] : List S_Field) ([] : Bytes)) (S_Body.mk (0 : Int) (0 : Int)) (S_Chunked.mk (0 : Int) ([] : Bytes) (0 : Int) (0 : Int)) (0 : Int)) x34.Got x34.Used)).set x1.1.toNat (S_Conn.mk x35.Id x35.Origin x35.Fetch x35.Reader false x35.Used)).set x1.1.toNat (S_Conn.mk x37.Id x37.Origin x37.Fetch x37.Reader x37.Got (IntKind.i64.wrap (x36.Used + (1 : Int))))).flatMap S_Conn.cells) [], .cells 23 (a0.Wait.flatMap S_Fetch.cells) [], .cells 91 [ii a0.Now, ii a0.Next, AV.row 3 0 a0.Conns.length 29, AV.row 4 0 a0.Wait.length 7, AV.list 13 (x22.map S_Act.av)] [(4, 2)], .cells 28 [ii 0, ii 0, AV.list 29 (([] : List S_Conn).map S_Conn.av), AV.list 7 (([] : List S_Fetch).map S_Fetch.av)] [(2, 3), (3, 4)]] [1, 1, 1, 1, 1]) (upstream_Recv_b3 a0) (0 : Int) h ?_ ?_
       ·refine Gho.to _ _ _ [0, 1, 2, 3, 4] ?_ ?_ ?_ rfl rfl ?_
        ·exact ⟨trivial, ⟨⟨rfl, rfl, rfl⟩, ⟨trivial, ⟨⟨rfl, rfl, rfl⟩, ⟨⟨rfl, rfl, rfl⟩, ⟨⟨rfl, rfl, rfl⟩, ⟨⟨rfl, rfl, rfl⟩, trivial⟩⟩⟩⟩⟩⟩⟩
        ·exact (keepN_d (keepN_c rfl (keepN_d (keepN_c (noB_flat _ (fun _ => rfl) _) (keepN_c (noB_flat _ (fun _ => rfl) _) (keepN_c rfl (keepN_c rfl rfl)))))))
        ·exact rfl
        ·exact tr3 <| tr3 <| tr3 <| trivial
       intro n3 x y3 h hl3 hr3
       revert h; revert x; intro s39 h
       unfold upstream_Recv_b3 at h
       refine sj <| sj <| NormE.same <| sn ?_
       refine Br.of h (fun ht h => ?_) fun ht h => ?_
       ·exact W
       ·replace h := oi h
        replace h := hr3 _ h.symm
        subst h
        refine Gho.to _ _ _ [0, 1, 2, 3, 4] ?_ ?_ ?_ rfl rfl ?_
        ·exact ⟨trivial, ⟨⟨rfl, rfl, rfl⟩, ⟨trivial, ⟨⟨rfl, rfl, rfl⟩, ⟨⟨rfl, rfl, rfl⟩, ⟨⟨rfl, rfl, rfl⟩, ⟨⟨rfl, rfl, rfl⟩, trivial⟩⟩⟩⟩⟩⟩⟩
        ·exact (keepN_d (keepN_c rfl (keepN_d (keepN_c (noB_flat _ (fun _ => rfl) _) (keepN_c (noB_flat _ (fun _ => rfl) _) (keepN_c rfl (keepN_c rfl rfl)))))))
        ·exact rfl
        ·exact tr3 <| tr3 <| trivial
      ·clear hj38
       refine sj <| Or.inl <| ai ⟨lb rfl, lb rfl⟩ ?_
       refine xi (some 0) (ai (show aggT [(4, 2)] 0 4 = some 0 from by kernel_rfl) ?_)
       refine NormE.to (AV.agg [ii a0.Now, ii a0.Next, AV.row 3 0 a0.Conns.length 29, AV.row 4 0 a0.Wait.length 7]) (fun _ => rfl) ?_
       refine ai ⟨rfl, rfl, rfl, lb rfl⟩ (xi [ii a0.Now, ii a0.Next, AV.row 3 0 a0.Conns.length 29, AV.row 4 0 a0.Wait.length 7] (ai (fun _ => rfl) ?_))
       refine ai (by kernel_rfl) <| sn ?_
       refine ai ⟨lb rfl, lb rfl⟩ (xi (AV.agg [ii a0.Now, ii a0.Next, AV.row 3 0 a0.Conns.length 29, AV.row 4 0 a0.Wait.length 7]) (ai rfl ?_))
       refine ai ⟨rfl, rfl, rfl, lb rfl⟩ (xi [ii a0.Now, ii a0.Next, AV.row 3 0 a0.Conns.length 29, AV.row 4 0 a0.Wait.length 7] (ai (fun _ => rfl) ?_))
       refine sn ?_
       replace h := oi h
       refine RetE.frz ?_
       refine ai ⟨lb rfl, lb rfl⟩ (xi (AV.agg [ii a0.Now, ii a0.Next, AV.row 3 0 a0.Conns.length 29, AV.row 4 0 a0.Wait.length 7]) (ai rfl ?_))
       exact xi (AV.tup [AV.agg [ii a0.Now, ii a0.Next, AV.list 29 (((((((a0.Conns.set x1.1.toNat (S_Conn.mk x16.Id x16.Origin x16.Fetch x15.1 x16.Got x16.Used)).set x1.1.toNat (S_Conn.mk x17.Id x17.Origin x17.Fetch x17.Reader true x17.Used)).set x1.1.toNat (S_Conn.mk x33.Id x33.Origin (S_Fetch.mk (0 : Int) ([] : Bytes) ([] : Bytes) ([] : Bytes) false (0 : Int) false) x33.Reader x33.Got x33.Used)).set x1.1.toNat (S_Conn.mk x34.Id x34.Origin x34.Fetch (S_Reader.mk false ([] : Bytes) ([] : Bytes) false (S_Message.mk (S_Start.mk ([] : Bytes) ([] : Bytes) (0 : Int) ([] : Bytes) (0 : Int)) ([] : List S_Field) ([] : Bytes)) (S_Body.mk (0 : Int) (0 : Int)) (S_Chunked.mk (0 : Int) ([] : Bytes) (0 : Int) (0 : Int)) (0 : Int)) x34.Got x34.Used)).set x1.1.toNat (S_Conn.mk x35.Id x35.Origin x35.Fetch x35.Reader false x35.Used)).set x1.1.toNat (S_Conn.mk x37.Id x37.Origin x37.Fetch x37.Reader x37.Got (IntKind.i64.wrap (x36.Used + (1 : Int))))).map S_Conn.av), AV.list 7 (a0.Wait.map S_Fetch.av)], AV.list 13 (x22.map S_Act.av), ii 0]) (ai (Frz.tupL ⟨Frz.aggL ⟨Frz.pure _ (AV.puD_ok rfl), Frz.pure _ (AV.puD_ok rfl), Frz.rowsW S_Conn.av 29 (lb rfl) (fun _ => rfl) (fun _ => rfl) rfl (flat_from _ _) (by simp only [List.length_set]), Frz.rowsW S_Fetch.av 7 (lb rfl) (fun _ => rfl) (fun _ => rfl) rfl (flat_from _ _) rfl, trivial⟩, Frz.pure _ (AV.puD_ok rfl), Frz.pure _ (AV.puD_ok rfl), trivial⟩) (ai (congrArg (fun r : (S_Up × (List S_Act) × Int) => AV.tup [S_Up.av r.1, AV.list 13 (r.2.1.map S_Act.av), ii r.2.2]) h) rfl))
    ·refine sj <| sn ?_
     refine Br.of h (fun ht h => ?_) fun ht h => ?_
     ·refine sj <| bind_elim h fun x40 hx40 h => optE.mk (α := AV) (c := ii x40.Fetch.Id) (flat_getF S_Conn.cells 29 (fun _ => rfl) hx40 (o := 2) (lb rfl) rfl) ?_
      refine xi (some 69810262081) (ai (okM.mk (show (69810262081 : Nat) = freeM T _ _ _ from by kernel_rfl)) ?_)
      refine ai ⟨by kernel_rfl, by kernel_rfl⟩ <| FnC.of_ev (T := T) (rows := [13]) tOk mixed Tryz.func35 rfl (by kernel_rfl) (by kernel_rfl) rfl rfl <| sj <| ai rfl ?_
      refine xi [(5, 3)] (xi 1 (ai ⟨(by kernel_rfl), rfl⟩ ?_))
      refine sn <| ai ⟨lb rfl, lb rfl⟩ ?_
      refine xi (some 5368709120) (ai (show aggT [(5, 3)] 0 7 = some 5368709120 from by kernel_rfl) ?_)
      refine NormE.to (AV.agg [ss [], ss [], ii 0, ss [], ii 0, AV.list 2 (([] : List S_Field).map S_Field.av), ss []]) (fun _ => rfl) <| ai ⟨rfl, rfl, lb rfl⟩ <| ai ⟨rfl, rfl, lb rfl⟩ <| ai ⟨rfl, rfl, lb rfl⟩ <| ai ⟨rfl, rfl, lb rfl⟩ ?_
      refine xi none (ai trivial ?_)
      refine FnC.of_ev (T := T) (rows := []) tOk mixed Tryz.func78 rfl (by kernel_rfl) (by kernel_rfl) rfl rfl <| sj <| ai rfl ?_
      refine xi [] (xi 0 (ai ⟨rfl, rfl⟩ ?_))
      refine sn <| Or.inl <| ai ⟨lb rfl, lb rfl⟩ ?_
      refine xi none (ai rfl ?_)
      refine NormE.to (AV.agg [ii 4, ii 0, ss [], ss [], ii x40.Fetch.Id, ss [], ss [], ii 0, ss [], ii 0, AV.list 2 (([] : List S_Field).map S_Field.av), ss [], ii x15.1.Bad]) (fun _ => rfl) <| ai ⟨rfl, rfl, rfl, rfl⟩ <| ai ⟨rfl, rfl, rfl⟩ <| NormE.to (AV.list 13 (([(S_Act.mk (4 : Int) (0 : Int) ([] : Bytes) ([] : Bytes) x40.Fetch.Id (S_Message.mk (S_Start.mk ([] : Bytes) ([] : Bytes) (0 : Int) ([] : Bytes) (0 : Int)) ([] : List S_Field) ([] : Bytes)) x15.1.Bad)] : List S_Act).map S_Act.av)) (fun _ => rfl) <| bind_elim h fun x41 hx41 h => ?_
      have qx41 := (app_some hx41).1
      have hx41e := (app_some hx41).2
      refine ai ⟨rfl, rfl, rfl⟩ <| ai rfl <| ai (app_cond S_Act.av qx41) <| NormE.to (AV.list 13 (x41.map S_Act.av)) (fun _ => (app_list 13 S_Act.av _ _).trans (congrArg (fun y => AV.list 13 (List.map S_Act.av y)) hx41e.symm)) ?_
      refine ai ⟨rfl, rfl, rfl, lb rfl⟩ (xi [ii a0.Now, ii a0.Next, AV.row 3 0 a0.Conns.length 29, AV.row 4 0 a0.Wait.length 7, AV.list 13 (x41.map S_Act.av)] (ai (fun _ => rfl) ?_))
      refine ai (by kernel_rfl) ?_
      refine SeqN.via (St.of [⟨6, AV.ptr 1 0, none⟩, ⟨9, ii x1.1, none⟩, ⟨11, AV.ptr 5 0, none⟩] [.dead, .cells 28 [ii 0, ii 0, AV.list 29 (([] : List S_Conn).map S_Conn.av), AV.list 7 (([] : List S_Fetch).map S_Fetch.av)] [(2, 0), (3, 1)], .dead, .cells 48 (((a0.Conns.set x1.1.toNat (S_Conn.mk x16.Id x16.Origin x16.Fetch x15.1 x16.Got x16.Used)).set x1.1.toNat (S_Conn.mk x17.Id x17.Origin x17.Fetch x17.Reader true x17.Used)).flatMap S_Conn.cells) [], .cells 23 (a0.Wait.flatMap S_Fetch.cells) [], .cells 91 [ii a0.Now, ii a0.Next, AV.row 3 0 a0.Conns.length 29, AV.row 4 0 a0.Wait.length 7, AV.list 13 (x41.map S_Act.av)] [(4, 2)]] [1, 1, 1]) ?_ ?_
      ·refine Gho.to _ _ _ [0, 1, 5] ?_ ?_ ?_ rfl rfl ?_
       ·exact ⟨trivial, ⟨⟨rfl, rfl, rfl⟩, ⟨trivial, ⟨⟨rfl, rfl, rfl⟩, ⟨⟨rfl, rfl, rfl⟩, ⟨⟨rfl, rfl, rfl⟩, trivial⟩⟩⟩⟩⟩⟩
       ·exact (keepN_d (keepN_c rfl (keepN_d (keepN_c (noB_flat _ (fun _ => rfl) _) (keepN_c (noB_flat _ (fun _ => rfl) _) (keepN_c rfl rfl))))))
       ·exact rfl
       ·exact tr3 <| tr3 <| tr3 <| trivial
      refine FnC.of_ev (T := T) (rows := [15, 25]) tOk mixed Tryz.func38 rfl (by kernel_rfl) (by kernel_rfl) rfl rfl <| sj <| chk_elim h fun q42 h => ai (fun _ => q42) <| bind_elim h fun x43 hx43 h => optE.mk (α := AV) (c := ii x43.Id) (flat_getF S_Conn.cells 29 (fun _ => rfl) hx43 (o := 0) (lb rfl) rfl) <| ai ⟨rfl, rfl, lb rfl⟩ <| ai ⟨rfl, rfl, lb rfl⟩ ?_
      refine xi (some 4797324681010433232896) (ai (okM.mk (show (4797324681010433232896 : Nat) = freeM T _ _ _ from by kernel_rfl)) ?_)
      refine FnC.of_ev (T := T) (rows := []) tOk mixed Tryz.func78 rfl (by kernel_rfl) (by kernel_rfl) rfl rfl <| sj <| ai rfl ?_
      refine xi [(10, 3)] (xi 1 (ai ⟨(by kernel_rfl), rfl⟩ ?_))
      refine sn <| Or.inl <| ai ⟨lb rfl, lb rfl⟩ ?_
      refine xi (some 5764607523034234880) (ai (show aggT [(10, 3)] 0 13 = some 5764607523034234880 from by kernel_rfl) ?_)
      refine NormE.to (AV.agg [ii 3, ii x43.Id, ss [], ss [], ii 0, ss [], ss [], ii 0, ss [], ii 0, AV.list 2 (([] : List S_Field).map S_Field.av), ss [], ii 0]) (fun _ => rfl) <| ai ⟨rfl, rfl, rfl, rfl⟩ <| ai ⟨rfl, rfl, rfl⟩ <| NormE.to (AV.list 13 (([(S_Act.mk (3 : Int) x43.Id ([] : Bytes) ([] : Bytes) (0 : Int) (S_Message.mk (S_Start.mk ([] : Bytes) ([] : Bytes) (0 : Int) ([] : Bytes) (0 : Int)) ([] : List S_Field) ([] : Bytes)) (0 : Int))] : List S_Act).map S_Act.av)) (fun _ => rfl) <| bind_elim h fun x44 hx44 h => ?_
      have qx44 := (app_some hx44).1
      have hx44e := (app_some hx44).2
      refine ai ⟨rfl, rfl, rfl⟩ <| ai rfl <| ai (app_cond S_Act.av qx44) <| NormE.to (AV.list 13 (x44.map S_Act.av)) (fun _ => (app_list 13 S_Act.av _ _).trans (congrArg (fun y => AV.list 13 (List.map S_Act.av y)) hx44e.symm)) ?_
      refine ai ⟨rfl, rfl, rfl, lb rfl⟩ (xi [ii a0.Now, ii a0.Next, AV.row 3 0 a0.Conns.length 29, AV.row 4 0 a0.Wait.length 7, AV.list 13 (x44.map S_Act.av)] (ai (fun _ => rfl) ?_))
      refine ai (by kernel_rfl) <| sn <| bind_elim h fun x45 hx45 h => slices_Delete_Conn_ok (f := S_Conn.av) E rfl (by simp only [List.length_set]) hx45 ?_
      refine ai ⟨rfl, rfl, rfl, lb rfl⟩ (xi [ii a0.Now, ii a0.Next, AV.row 3 0 x45.length 29, AV.row 4 0 a0.Wait.length 7, AV.list 13 (x44.map S_Act.av)] (ai (fun _ => rfl) ?_))
      refine sn <| sj <| FnC.of_ev (T := T) (rows := []) tOk mixed Tryz.func39 rfl (by kernel_rfl) (by kernel_rfl) rfl rfl <| sj <| ai rfl <| sn <| bind_elim h fun j46 hj46 h => ?_
      refine SeqJ.join (St.of [⟨0, AV.ptr 5 0, none⟩, ⟨2, AV.ptr 7 0, none⟩] [.dead, .cells 28 [ii 0, ii 0, AV.list 29 (([] : List S_Conn).map S_Conn.av), AV.list 7 (([] : List S_Fetch).map S_Fetch.av)] [(2, 0), (3, 1)], .dead, .cells 48 (x45.flatMap S_Conn.cells) [], .cells 23 (a0.Wait.flatMap S_Fetch.cells) [], .cells 91 [ii a0.Now, ii a0.Next, AV.row 3 0 x45.length 29, AV.row 4 0 a0.Wait.length 7, AV.list 13 (x44.map S_Act.av)] [(4, 5)], .cells 40 [ii 3, ii x43.Id, ss [], ss [], ii 0, ss [], ss [], ii 0, ss [], ii 0, AV.list 2 (([] : List S_Field).map S_Field.av), ss [], ii 0] [(10, 3)], .cells 28 [ii 0, ii 0, AV.list 29 (([] : List S_Conn).map S_Conn.av), AV.list 7 (([] : List S_Fetch).map S_Fetch.av)] [(2, 7), (3, 8)]] [1, 1, 0, 2, 2, 1, 2, 1, 1]) ?_ ?_
      ·clear h; have h := hj46; clear hj46
       refine sj <| sn ?_
       refine LoopE.img (fun x : Int => St.of [⟨0, AV.ptr 5 0, none⟩, ⟨2, AV.ptr 7 0, none⟩, ⟨5, ii x, none⟩] [.dead, .cells 28 [ii 0, ii 0, AV.list 29 (([] : List S_Conn).map S_Conn.av), AV.list 7 (([] : List S_Fetch).map S_Fetch.av)] [(2, 0), (3, 1)], .dead, .cells 48 (x45.flatMap S_Conn.cells) [], .cells 23 (a0.Wait.flatMap S_Fetch.cells) [], .cells 91 [ii a0.Now, ii a0.Next, AV.row 3 0 x45.length 29, AV.row 4 0 a0.Wait.length 7, AV.list 13 (x44.map S_Act.av)] [(4, 5)], .cells 40 [ii 3, ii x43.Id, ss [], ss [], ii 0, ss [], ss [], ii 0, ss [], ii 0, AV.list 2 (([] : List S_Field).map S_Field.av), ss [], ii 0] [(10, 3)], .cells 28 [ii 0, ii 0, AV.list 29 (([] : List S_Conn).map S_Conn.av), AV.list 7 (([] : List S_Fetch).map S_Fetch.av)] [(2, 7), (3, 8)]] [1, 1, 0, 2, 2, 1, 2, 1, 1]) (upstream_Recv_b4 a0) (0 : Int) h ?_ ?_
       ·refine Gho.to _ _ _ [0, 1, 2, 3, 4, 5, 6, 7, 8] ?_ ?_ ?_ rfl rfl ?_
        ·exact ⟨trivial, ⟨⟨rfl, rfl, rfl⟩, ⟨trivial, ⟨⟨rfl, rfl, rfl⟩, ⟨⟨rfl, rfl, rfl⟩, ⟨⟨rfl, rfl, rfl⟩, ⟨⟨rfl, rfl, rfl⟩, ⟨⟨rfl, rfl, rfl⟩, trivial⟩⟩⟩⟩⟩⟩⟩⟩
        ·exact (keepN_d (keepN_c rfl (keepN_d (keepN_c (noB_flat _ (fun _ => rfl) _) (keepN_c (noB_flat _ (fun _ => rfl) _) (keepN_c rfl (keepN_c rfl (keepN_c rfl rfl))))))))
        ·exact rfl
        ·exact tr3 <| tr3 <| tr3 <| trivial
       intro n4 x y4 h hl4 hr4
       revert h; revert x; intro s47 h
       unfold upstream_Recv_b4 at h
       refine sj <| sj <| NormE.same <| sn ?_
       refine Br.of h (fun ht h => ?_) fun ht h => ?_
       ·exact W
       ·replace h := oi h
        replace h := hr4 _ h.symm
        subst h
        refine Gho.to _ _ _ [0, 1, 2, 3, 4, 5, 6, 7, 8] ?_ ?_ ?_ rfl rfl ?_
        ·exact ⟨trivial, ⟨⟨rfl, rfl, rfl⟩, ⟨trivial, ⟨⟨rfl, rfl, rfl⟩, ⟨⟨rfl, rfl, rfl⟩, ⟨⟨rfl, rfl, rfl⟩, ⟨⟨rfl, rfl, rfl⟩, ⟨⟨rfl, rfl, rfl⟩, trivial⟩⟩⟩⟩⟩⟩⟩⟩
        ·exact (keepN_d (keepN_c rfl (keepN_d (keepN_c (noB_flat _ (fun _ => rfl) _) (keepN_c (noB_flat _ (fun _ => rfl) _) (keepN_c rfl (keepN_c rfl (keepN_c rfl rfl))))))))
        ·exact rfl
        ·exact tr3 <| tr3 <| trivial
      ·clear hj46
       refine sj <| Or.inl <| ai ⟨lb rfl, lb rfl⟩ ?_
       refine xi (some 0) (ai (show aggT [(4, 5)] 0 4 = some 0 from by kernel_rfl) ?_)
       refine NormE.to (AV.agg [ii a0.Now, ii a0.Next, AV.row 3 0 x45.length 29, AV.row 4 0 a0.Wait.length 7]) (fun _ => rfl) ?_
       refine ai ⟨rfl, rfl, rfl, lb rfl⟩ (xi [ii a0.Now, ii a0.Next, AV.row 3 0 x45.length 29, AV.row 4 0 a0.Wait.length 7] (ai (fun _ => rfl) ?_))
       refine ai (by kernel_rfl) <| sn ?_
       refine ai ⟨lb rfl, lb rfl⟩ (xi (AV.agg [ii a0.Now, ii a0.Next, AV.row 3 0 x45.length 29, AV.row 4 0 a0.Wait.length 7]) (ai rfl ?_))
       refine ai ⟨rfl, rfl, rfl, lb rfl⟩ (xi [ii a0.Now, ii a0.Next, AV.row 3 0 x45.length 29, AV.row 4 0 a0.Wait.length 7] (ai (fun _ => rfl) ?_))
       refine sn ?_
       replace h := oi h
       refine RetE.frz ?_
       refine ai ⟨lb rfl, lb rfl⟩ (xi (AV.agg [ii a0.Now, ii a0.Next, AV.row 3 0 x45.length 29, AV.row 4 0 a0.Wait.length 7]) (ai rfl ?_))
       exact xi (AV.tup [AV.agg [ii a0.Now, ii a0.Next, AV.list 29 (x45.map S_Conn.av), AV.list 7 (a0.Wait.map S_Fetch.av)], AV.list 13 (x44.map S_Act.av), ii 0]) (ai (Frz.tupL ⟨Frz.aggL ⟨Frz.pure _ (AV.puD_ok rfl), Frz.pure _ (AV.puD_ok rfl), Frz.rowsW S_Conn.av 29 (lb rfl) (fun _ => rfl) (fun _ => rfl) rfl (flat_from _ _) rfl, Frz.rowsW S_Fetch.av 7 (lb rfl) (fun _ => rfl) (fun _ => rfl) rfl (flat_from _ _) rfl, trivial⟩, Frz.pure _ (AV.puD_ok rfl), Frz.pure _ (AV.puD_ok rfl), trivial⟩) (ai (congrArg (fun r : (S_Up × (List S_Act) × Int) => AV.tup [S_Up.av r.1, AV.list 13 (r.2.1.map S_Act.av), ii r.2.2]) h) rfl))
     ·refine sn <| sj <| FnC.of_ev (T := T) (rows := []) tOk mixed Tryz.func39 rfl (by kernel_rfl) (by kernel_rfl) rfl rfl <| sj <| ai rfl <| sn <| bind_elim h fun j48 hj48 h => ?_
      refine SeqJ.join (St.of [⟨0, AV.ptr 5 0, none⟩, ⟨2, AV.ptr 7 0, none⟩] [.dead, .cells 28 [ii 0, ii 0, AV.list 29 (([] : List S_Conn).map S_Conn.av), AV.list 7 (([] : List S_Fetch).map S_Fetch.av)] [(2, 0), (3, 1)], .dead, .cells 48 (((a0.Conns.set x1.1.toNat (S_Conn.mk x16.Id x16.Origin x16.Fetch x15.1 x16.Got x16.Used)).set x1.1.toNat (S_Conn.mk x17.Id x17.Origin x17.Fetch x17.Reader true x17.Used)).flatMap S_Conn.cells) [], .cells 23 (a0.Wait.flatMap S_Fetch.cells) [], .cells 91 [ii a0.Now, ii a0.Next, AV.row 3 0 a0.Conns.length 29, AV.row 4 0 a0.Wait.length 7, AV.list 13 (([] : List S_Act).map S_Act.av)] [(4, 2)], .cells 46 (S_Reader.cells x15.1) [], .cells 28 [ii 0, ii 0, AV.list 29 (([] : List S_Conn).map S_Conn.av), AV.list 7 (([] : List S_Fetch).map S_Fetch.av)] [(2, 3), (3, 4)]] [1, 1, 1, 1, 1]) ?_ ?_
      ·clear h; have h := hj48; clear hj48
       refine sj <| sn ?_
       refine LoopE.img (fun x : Int => St.of [⟨0, AV.ptr 5 0, none⟩, ⟨2, AV.ptr 7 0, none⟩, ⟨5, ii x, none⟩] [.dead, .cells 28 [ii 0, ii 0, AV.list 29 (([] : List S_Conn).map S_Conn.av), AV.list 7 (([] : List S_Fetch).map S_Fetch.av)] [(2, 0), (3, 1)], .dead, .cells 48 (((a0.Conns.set x1.1.toNat (S_Conn.mk x16.Id x16.Origin x16.Fetch x15.1 x16.Got x16.Used)).set x1.1.toNat (S_Conn.mk x17.Id x17.Origin x17.Fetch x17.Reader true x17.Used)).flatMap S_Conn.cells) [], .cells 23 (a0.Wait.flatMap S_Fetch.cells) [], .cells 91 [ii a0.Now, ii a0.Next, AV.row 3 0 a0.Conns.length 29, AV.row 4 0 a0.Wait.length 7, AV.list 13 (([] : List S_Act).map S_Act.av)] [(4, 2)], .cells 46 (S_Reader.cells x15.1) [], .cells 28 [ii 0, ii 0, AV.list 29 (([] : List S_Conn).map S_Conn.av), AV.list 7 (([] : List S_Fetch).map S_Fetch.av)] [(2, 3), (3, 4)]] [1, 1, 1, 1, 1]) (upstream_Recv_b5 a0) (0 : Int) h ?_ ?_
       ·refine Gho.to _ _ _ [0, 1, 2, 3, 4] ?_ ?_ ?_ rfl rfl ?_
        ·exact ⟨trivial, ⟨⟨rfl, rfl, rfl⟩, ⟨trivial, ⟨⟨rfl, rfl, rfl⟩, ⟨⟨rfl, rfl, rfl⟩, ⟨⟨rfl, rfl, rfl⟩, ⟨⟨rfl, rfl, rfl⟩, ⟨⟨rfl, rfl, rfl⟩, trivial⟩⟩⟩⟩⟩⟩⟩⟩
        ·exact (keepN_d (keepN_c rfl (keepN_d (keepN_c (noB_flat _ (fun _ => rfl) _) (keepN_c (noB_flat _ (fun _ => rfl) _) (keepN_c rfl (keepN_c rfl (keepN_c rfl rfl))))))))
        ·exact rfl
        ·exact tr3 <| tr3 <| tr3 <| trivial
       intro n5 x y5 h hl5 hr5
       revert h; revert x; intro s49 h
       unfold upstream_Recv_b5 at h
       refine sj <| sj <| NormE.same <| sn ?_
       refine Br.of h (fun ht h => ?_) fun ht h => ?_
       ·exact W
       ·replace h := oi h
        replace h := hr5 _ h.symm
        subst h
        refine Gho.to _ _ _ [0, 1, 2, 3, 4] ?_ ?_ ?_ rfl rfl ?_
        ·exact ⟨trivial, ⟨⟨rfl, rfl, rfl⟩, ⟨trivial, ⟨⟨rfl, rfl, rfl⟩, ⟨⟨rfl, rfl, rfl⟩, ⟨⟨rfl, rfl, rfl⟩, ⟨⟨rfl, rfl, rfl⟩, ⟨⟨rfl, rfl, rfl⟩, trivial⟩⟩⟩⟩⟩⟩⟩⟩
        ·exact (keepN_d (keepN_c rfl (keepN_d (keepN_c (noB_flat _ (fun _ => rfl) _) (keepN_c (noB_flat _ (fun _ => rfl) _) (keepN_c rfl (keepN_c rfl (keepN_c rfl rfl))))))))
        ·exact rfl
        ·exact tr3 <| tr3 <| trivial
      ·clear hj48
       refine sj <| Or.inl <| ai ⟨lb rfl, lb rfl⟩ ?_
       refine xi (some 0) (ai (show aggT [(4, 2)] 0 4 = some 0 from by kernel_rfl) ?_)
       refine NormE.to (AV.agg [ii a0.Now, ii a0.Next, AV.row 3 0 a0.Conns.length 29, AV.row 4 0 a0.Wait.length 7]) (fun _ => rfl) ?_
       refine ai ⟨rfl, rfl, rfl, lb rfl⟩ (xi [ii a0.Now, ii a0.Next, AV.row 3 0 a0.Conns.length 29, AV.row 4 0 a0.Wait.length 7] (ai (fun _ => rfl) ?_))
       refine ai (by kernel_rfl) <| sn ?_
       refine ai ⟨lb rfl, lb rfl⟩ (xi (AV.agg [ii a0.Now, ii a0.Next, AV.row 3 0 a0.Conns.length 29, AV.row 4 0 a0.Wait.length 7]) (ai rfl ?_))
       refine ai ⟨rfl, rfl, rfl, lb rfl⟩ (xi [ii a0.Now, ii a0.Next, AV.row 3 0 a0.Conns.length 29, AV.row 4 0 a0.Wait.length 7] (ai (fun _ => rfl) ?_))
       refine SeqN.via (St.of [⟨6, AV.ptr 1 0, none⟩, ⟨7, AV.list 13 (([] : List S_Act).map S_Act.av), none⟩, ⟨8, ii 0, none⟩] [.dead, .cells 28 [ii a0.Now, ii a0.Next, AV.row 3 0 a0.Conns.length 29, AV.row 4 0 a0.Wait.length 7] [], .dead, .cells 48 (((a0.Conns.set x1.1.toNat (S_Conn.mk x16.Id x16.Origin x16.Fetch x15.1 x16.Got x16.Used)).set x1.1.toNat (S_Conn.mk x17.Id x17.Origin x17.Fetch x17.Reader true x17.Used)).flatMap S_Conn.cells) [], .cells 23 (a0.Wait.flatMap S_Fetch.cells) []] []) ?_ ?_
       ·refine Gho.to _ _ _ [] ?_ ?_ ?_ rfl rfl ?_
        ·exact ⟨trivial, ⟨⟨rfl, rfl, rfl⟩, ⟨trivial, ⟨⟨rfl, rfl, rfl⟩, ⟨⟨rfl, rfl, rfl⟩, trivial⟩⟩⟩⟩⟩
        ·exact (keepN_d (keepN_c rfl (keepN_d (keepN_c (noB_flat _ (fun _ => rfl) _) (keepN_c (noB_flat _ (fun _ => rfl) _) rfl)))))
        ·exact rfl
        ·exact tr3 <| tr3 <| tr3 <| trivial
       replace h := oi h
       refine RetE.frz ?_
       refine ai ⟨lb rfl, lb rfl⟩ (xi (AV.agg [ii a0.Now, ii a0.Next, AV.row 3 0 a0.Conns.length 29, AV.row 4 0 a0.Wait.length 7]) (ai rfl ?_))
       exact xi (AV.tup [AV.agg [ii a0.Now, ii a0.Next, AV.list 29 (((a0.Conns.set x1.1.toNat (S_Conn.mk x16.Id x16.Origin x16.Fetch x15.1 x16.Got x16.Used)).set x1.1.toNat (S_Conn.mk x17.Id x17.Origin x17.Fetch x17.Reader true x17.Used)).map S_Conn.av), AV.list 7 (a0.Wait.map S_Fetch.av)], AV.list 13 (([] : List S_Act).map S_Act.av), ii 0]) (ai (Frz.tupL ⟨Frz.aggL ⟨Frz.pure _ (AV.puD_ok rfl), Frz.pure _ (AV.puD_ok rfl), Frz.rowsW S_Conn.av 29 (lb rfl) (fun _ => rfl) (fun _ => rfl) rfl (flat_from _ _) (by simp only [List.length_set]), Frz.rowsW S_Fetch.av 7 (lb rfl) (fun _ => rfl) (fun _ => rfl) rfl (flat_from _ _) rfl, trivial⟩, Frz.pure _ (AV.puD_ok rfl), Frz.pure _ (AV.puD_ok rfl), trivial⟩) (ai (congrArg (fun r : (S_Up × (List S_Act) × Int) => AV.tup [S_Up.av r.1, AV.list 13 (r.2.1.map S_Act.av), ii r.2.2]) h) rfl))⟩
instance wire_Close_ok (E : Pm.Env) [LaidM E] (a0 : S_Reader) : Ok E (wire_Close a0) (fun r => FnR E Tryz.prog 43 [S_Reader.av a0] (AV.tup [AV.list 7 (r.1.map S_Message.av), ii r.2]) false) := ⟨fun r h => by
 refine FnR.of_ev (T := T) (rows := []) tOk mixed Tryz.func43 rfl (by kernel_rfl) (by kernel_rfl) rfl fun hwf => ?_
 unfold wire_Close at h
 exact W⟩
end Go.Proofs.YtommkfooolabhaaGreatDoor
