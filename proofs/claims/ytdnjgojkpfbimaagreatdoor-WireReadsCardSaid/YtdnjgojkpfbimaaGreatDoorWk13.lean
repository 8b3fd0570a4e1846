/-
  The functions do what their images say: walks, written by a program of mine (gen.py).
-/
import Derived.Test.YtdnjgojkpfbimaaGreatDoorIw1
import Derived.Test.YtdnjgojkpfbimaaGreatDoorWk12
import Derived.Test.YtdnjgojkpfbimaaGreatDoorPm31
namespace Go.Proofs.YtdnjgojkpfbimaaGreatDoor
open Go Go.Pm
set_option linter.unusedSimpArgs false
open Go.Pm.RetE renaming plain -> rp
open Go.Pm.CallH renaming data -> cd
open Go.Pm.SeqN renaming via -> sv
open Go.Pm.Gho renaming to -> gt
open Go.Pm.Br renaming of -> bo
open Go.Pm.NormE renaming to -> nt
open Go.Pm renaming bind_elim -> be
open And renaming intro -> ai
open Exists renaming intro -> xi
open Option.some renaming inj -> oi
open _root_.Nat renaming le_of_ble_eq_true -> lb
open Go.Pm.SeqJ renaming go -> sj
open Go.Pm.SeqN renaming go -> sn
set_option maxRecDepth 100000
set_option maxHeartbeats 4000000
set_option linter.unusedVariables false
theorem intarsiaref10_body_ok (E : Pm.Env) [LaidM E] (a0 : S_intarsiaref10_T) (a1 : S_Message) (a2 : S_Body) (r : S_intarsiaref10_T) (h : intarsiaref10_body a0 a1 a2 = some r) : FnT E Tryz.prog 18 [S_intarsiaref10_T.av a0, S_Message.av a1, S_Body.av a2] [some 2, none, none] [] [1] (S_intarsiaref10_T.av r) (some 3) [] [0, 1] := by
 refine FnT.of_evB (T := T) (rows := []) tOk mixed Tryz.func18 rfl (by kernel_rfl) (by kernel_rfl) rfl rfl rfl fun hwf => ?_
 unfold intarsiaref10_body at h
 refine sj <| ai rfl ?_
 refine xi [(0, 0)] (xi 0 (ai ⟨(by kernel_rfl), rfl⟩ ?_))
 refine ai rfl ?_
 refine xi [] (xi 0 (ai ⟨rfl, rfl⟩ ?_))
 refine ai rfl ?_
 refine xi [] (xi 0 (ai ⟨rfl, rfl⟩ ?_))
 refine ai rfl <| sn <| sj ?_
 refine ai ⟨rfl, rfl, rfl, lb rfl⟩ (xi [AV.list 7 (a0.Out.map S_Message.av), ss a0.Left, bb a0.In, ss a0.Last.Start.Method, ss a0.Last.Start.Target, ii a0.Last.Start.Code, ss a0.Last.Start.Reason, ii a0.Last.Start.Minor, AV.list 2 (a0.Last.Fields.map S_Field.av), ss a0.Last.Body, ii a2.Kind, ii a0.Bad] (ai (fun _ => rfl) ?_))
 refine sn <| sj <| sn <| sj <| sj <| sn <| sj <| sn ?_
 refine bo h (fun ht h => ?_) fun ht h => ?_
 ·refine sj ?_
  refine sv (St.of [⟨3, AV.ptr 0 0, none⟩, ⟨4, AV.ptr 1 0, none⟩, ⟨6, AV.ptr 3 0, none⟩, ⟨7, ii a2.Size, none⟩] [.cells 39 [AV.list 7 (a0.Out.map S_Message.av), ss a0.Left, bb a0.In, ss a0.Last.Start.Method, ss a0.Last.Start.Target, ii a0.Last.Start.Code, ss a0.Last.Start.Reason, ii a0.Last.Start.Minor, AV.list 2 (a0.Last.Fields.map S_Field.av), ss a0.Last.Body, ii a2.Kind, ii a0.Bad] [(0, 1)], .cells 26 (S_Message.cells a1) [], .dead, .cells 39 [AV.list 7 (([] : List S_Message).map S_Message.av), ss [], bb false, ss [], ss [], ii 0, ss [], ii 0, AV.list 2 (([] : List S_Field).map S_Field.av), ss [], ii 0, ii 0] [(0, 2), (8, 3)]] [0, 1, 1, 1]) (gt _ _ _ [0, 0, 1, 2] (⟨⟨rfl, rfl, rfl⟩, ⟨⟨rfl, rfl, rfl⟩, ⟨trivial, ⟨⟨rfl, rfl, rfl⟩, trivial⟩⟩⟩⟩) rfl rfl rfl rfl (tr3 <| tr3 <| tr3 <| tr3 <| trivial)) ?_
  refine sj ?_
  refine ai ⟨rfl, rfl, rfl, lb rfl⟩ (xi [ss a1.Start.Method, ss a1.Start.Target, ii a1.Start.Code, ss a1.Start.Reason, ii a1.Start.Minor, AV.list 2 (a1.Fields.map S_Field.av), ss a0.Left] (ai (fun _ => rfl) ?_))
  refine sn <| sj <| NormE.same <| sn ?_
  refine bo h (fun ht h => ?_) fun ht h => ?_
  ·refine be h fun x1 hx1 h => ?_
   have qx1 := (slc_some hx1).1
   have hx1e := (slc_some hx1).2
   refine ai (fun _ => qx1) <| nt (ss x1) (fun _ => congrArg ss hx1e.symm) ?_
   refine ai ⟨rfl, rfl, rfl, lb rfl⟩ (xi [ss a1.Start.Method, ss a1.Start.Target, ii a1.Start.Code, ss a1.Start.Reason, ii a1.Start.Minor, AV.list 2 (a1.Fields.map S_Field.av), ss x1] (ai (fun _ => rfl) ?_))
   refine sn <| sj <| sj ?_
   refine sv (St.of [⟨3, AV.ptr 0 0, none⟩, ⟨4, AV.ptr 1 0, none⟩, ⟨6, AV.ptr 3 0, none⟩, ⟨7, ii a2.Size, none⟩, ⟨68, bb (a0.Bad != (0 : Int)), none⟩] [.cells 39 [AV.list 7 (a0.Out.map S_Message.av), ss a0.Left, bb a0.In, ss a0.Last.Start.Method, ss a0.Last.Start.Target, ii a0.Last.Start.Code, ss a0.Last.Start.Reason, ii a0.Last.Start.Minor, AV.list 2 (a0.Last.Fields.map S_Field.av), ss a0.Last.Body, ii a2.Kind, ii a0.Bad] [(0, 1)], .cells 26 [ss a1.Start.Method, ss a1.Start.Target, ii a1.Start.Code, ss a1.Start.Reason, ii a1.Start.Minor, AV.list 2 (a1.Fields.map S_Field.av), ss x1] [], .dead, .cells 39 [AV.list 7 (([] : List S_Message).map S_Message.av), ss [], bb false, ss [], ss [], ii 0, ss [], ii 0, AV.list 2 (([] : List S_Field).map S_Field.av), ss [], ii 0, ii 0] [(0, 2), (8, 3)]] [0, 1, 1, 1]) (gt _ _ _ [0, 1, 2, 3] (⟨⟨rfl, rfl, rfl⟩, ⟨⟨rfl, rfl, rfl⟩, ⟨trivial, ⟨⟨rfl, rfl, rfl⟩, trivial⟩⟩⟩⟩) rfl rfl rfl rfl (tr3 <| tr3 <| tr3 <| tr3 <| tr3 <| trivial)) ?_
   refine bo h (fun ht h => ?_) fun ht h => ?_
   ·refine sj <| ai ⟨lb rfl, lb rfl⟩ ?_
    refine xi (some 3) (ai (show aggT [(0, 1)] 0 12 = some 3 from by kernel_rfl) ?_)
    refine nt (AV.agg [AV.list 7 (a0.Out.map S_Message.av), ss a0.Left, bb a0.In, ss a0.Last.Start.Method, ss a0.Last.Start.Target, ii a0.Last.Start.Code, ss a0.Last.Start.Reason, ii a0.Last.Start.Minor, AV.list 2 (a0.Last.Fields.map S_Field.av), ss a0.Last.Body, ii a2.Kind, ii a0.Bad]) (fun _ => rfl) ?_
    refine ai ⟨rfl, rfl, rfl, lb rfl⟩ (xi [AV.list 7 (a0.Out.map S_Message.av), ss a0.Left, bb a0.In, ss a0.Last.Start.Method, ss a0.Last.Start.Target, ii a0.Last.Start.Code, ss a0.Last.Start.Reason, ii a0.Last.Start.Minor, AV.list 2 (a0.Last.Fields.map S_Field.av), ss a0.Last.Body, ii a2.Kind, ii a0.Bad] (ai (fun _ => rfl) ?_))
    refine xi [(0, 1)] (xi 0 (ai ⟨(by kernel_rfl), rfl⟩ ?_))
    refine sn ?_
    replace h := oi h
    subst h
    refine xi [⟨6, AV.ptr 3 0, none⟩] (xi [.dead, .dead, .dead, .cells 39 [AV.list 7 (a0.Out.map S_Message.av), ss a0.Left, bb a0.In, ss a0.Last.Start.Method, ss a0.Last.Start.Target, ii a0.Last.Start.Code, ss a0.Last.Start.Reason, ii a0.Last.Start.Minor, AV.list 2 (a0.Last.Fields.map S_Field.av), ss a0.Last.Body, ii a2.Kind, ii a0.Bad] [(0, 1)]] (ai rfl (ai (gt _ _ _ [0, 1] ?_ ?_ ?_ rfl rfl ?_) (ai ?_ (by kernel_rfl)))))
    ·exact ⟨trivial, ⟨trivial, ⟨trivial, ⟨⟨rfl, rfl, rfl⟩, trivial⟩⟩⟩⟩
    ·exact rfl
    ·exact rfl
    ·exact tr3 <| trivial
    ·refine ai ⟨lb rfl, lb rfl⟩ (xi (AV.agg [AV.list 7 (a0.Out.map S_Message.av), ss a0.Left, bb a0.In, ss a0.Last.Start.Method, ss a0.Last.Start.Target, ii a0.Last.Start.Code, ss a0.Last.Start.Reason, ii a0.Last.Start.Minor, AV.list 2 (a0.Last.Fields.map S_Field.av), ss a0.Last.Body, ii a2.Kind, ii a0.Bad]) (ai rfl ?_))
     exact rfl
   ·refine sn <| sj <| sj <| sn ?_
    refine bo h (fun ht h => ?_) fun ht h => ?_
    ·refine sj <| ai ⟨lb rfl, lb rfl⟩ ?_
     refine xi none (ai rfl ?_)
     refine nt (AV.agg [ss a1.Start.Method, ss a1.Start.Target, ii a1.Start.Code, ss a1.Start.Reason, ii a1.Start.Minor, AV.list 2 (a1.Fields.map S_Field.av), ss x1]) (fun _ => rfl) ?_
     refine ai ⟨rfl, rfl, rfl, lb rfl⟩ (xi [AV.list 7 (a0.Out.map S_Message.av), ss a0.Left, bb a0.In, ss a1.Start.Method, ss a1.Start.Target, ii a1.Start.Code, ss a1.Start.Reason, ii a1.Start.Minor, AV.list 2 (a1.Fields.map S_Field.av), ss x1, ii a2.Kind, ii a0.Bad] (ai (fun _ => rfl) ?_))
     refine sn <| sj ?_
     refine ai ⟨rfl, rfl, rfl, lb rfl⟩ (xi [AV.list 7 (a0.Out.map S_Message.av), ss [], bb a0.In, ss a1.Start.Method, ss a1.Start.Target, ii a1.Start.Code, ss a1.Start.Reason, ii a1.Start.Minor, AV.list 2 (a1.Fields.map S_Field.av), ss x1, ii a2.Kind, ii a0.Bad] (ai (fun _ => rfl) ?_))
     refine sn <| sj <| ai ⟨lb rfl, lb rfl⟩ ?_
     refine xi (some 3) (ai (show aggT [(0, 1)] 0 12 = some 3 from by kernel_rfl) ?_)
     refine nt (AV.agg [AV.list 7 (a0.Out.map S_Message.av), ss [], bb a0.In, ss a1.Start.Method, ss a1.Start.Target, ii a1.Start.Code, ss a1.Start.Reason, ii a1.Start.Minor, AV.list 2 (a1.Fields.map S_Field.av), ss x1, ii a2.Kind, ii a0.Bad]) (fun _ => rfl) ?_
     refine ai ⟨rfl, rfl, rfl, lb rfl⟩ (xi [AV.list 7 (a0.Out.map S_Message.av), ss [], bb a0.In, ss a1.Start.Method, ss a1.Start.Target, ii a1.Start.Code, ss a1.Start.Reason, ii a1.Start.Minor, AV.list 2 (a1.Fields.map S_Field.av), ss x1, ii a2.Kind, ii a0.Bad] (ai (fun _ => rfl) ?_))
     refine xi [(0, 1)] (xi 0 (ai ⟨(by kernel_rfl), rfl⟩ ?_))
     refine sn ?_
     replace h := oi h
     subst h
     refine xi [⟨6, AV.ptr 3 0, none⟩] (xi [.dead, .dead, .dead, .cells 39 [AV.list 7 (a0.Out.map S_Message.av), ss [], bb a0.In, ss a1.Start.Method, ss a1.Start.Target, ii a1.Start.Code, ss a1.Start.Reason, ii a1.Start.Minor, AV.list 2 (a1.Fields.map S_Field.av), ss x1, ii a2.Kind, ii a0.Bad] [(0, 1)]] (ai rfl (ai (gt _ _ _ [0, 1] ?_ ?_ ?_ rfl rfl ?_) (ai ?_ (by kernel_rfl)))))
     ·exact ⟨trivial, ⟨trivial, ⟨trivial, ⟨⟨rfl, rfl, rfl⟩, trivial⟩⟩⟩⟩
     ·exact rfl
     ·exact rfl
     ·exact tr3 <| trivial
     ·refine ai ⟨lb rfl, lb rfl⟩ (xi (AV.agg [AV.list 7 (a0.Out.map S_Message.av), ss [], bb a0.In, ss a1.Start.Method, ss a1.Start.Target, ii a1.Start.Code, ss a1.Start.Reason, ii a1.Start.Minor, AV.list 2 (a1.Fields.map S_Field.av), ss x1, ii a2.Kind, ii a0.Bad]) (ai rfl ?_))
      exact rfl
    ·refine sn <| sj <| ai ⟨lb rfl, lb rfl⟩ ?_
     refine xi none (ai rfl ?_)
     refine nt (AV.agg [ss a1.Start.Method, ss a1.Start.Target, ii a1.Start.Code, ss a1.Start.Reason, ii a1.Start.Minor, AV.list 2 (a1.Fields.map S_Field.av), ss x1]) (fun _ => rfl) <| ai ⟨rfl, rfl, rfl, rfl⟩ <| ai ⟨rfl, rfl, rfl⟩ <| nt (AV.list 7 (([(S_Message.mk a1.Start a1.Fields x1)] : List S_Message).map S_Message.av)) (fun _ => rfl) <| be h fun x2 hx2 h => ?_
     have qx2 := (app_some hx2).1
     have hx2e := (app_some hx2).2
     refine ai ⟨rfl, rfl, rfl⟩ <| ai rfl <| ai (app_cond S_Message.av qx2) <| nt (AV.list 7 (x2.map S_Message.av)) (fun _ => (app_list 7 S_Message.av _ _).trans (congrArg (fun y => AV.list 7 (List.map S_Message.av y)) hx2e.symm)) ?_
     refine ai ⟨rfl, rfl, rfl, lb rfl⟩ (xi [AV.list 7 (x2.map S_Message.av), ss a0.Left, bb a0.In, ss a0.Last.Start.Method, ss a0.Last.Start.Target, ii a0.Last.Start.Code, ss a0.Last.Start.Reason, ii a0.Last.Start.Minor, AV.list 2 (a0.Last.Fields.map S_Field.av), ss a0.Last.Body, ii a2.Kind, ii a0.Bad] (ai (fun _ => rfl) ?_))
     refine sn <| sj <| be h fun x3 hx3 h => ?_
     have qx3 := (slc_some hx3).1
     have hx3e := (slc_some hx3).2
     refine ai (fun _ => qx3) <| nt (ss x3) (fun _ => congrArg ss hx3e.symm) ?_
     refine ai ⟨rfl, rfl, rfl, lb rfl⟩ (xi [AV.list 7 (x2.map S_Message.av), ss x3, bb a0.In, ss a0.Last.Start.Method, ss a0.Last.Start.Target, ii a0.Last.Start.Code, ss a0.Last.Start.Reason, ii a0.Last.Start.Minor, AV.list 2 (a0.Last.Fields.map S_Field.av), ss a0.Last.Body, ii a2.Kind, ii a0.Bad] (ai (fun _ => rfl) ?_))
     refine sn <| sj <| ai ⟨lb rfl, lb rfl⟩ ?_
     refine xi (some 7) (ai (show aggT [(0, 5)] 0 12 = some 7 from by kernel_rfl) ?_)
     refine nt (AV.agg [AV.list 7 (x2.map S_Message.av), ss x3, bb a0.In, ss a0.Last.Start.Method, ss a0.Last.Start.Target, ii a0.Last.Start.Code, ss a0.Last.Start.Reason, ii a0.Last.Start.Minor, AV.list 2 (a0.Last.Fields.map S_Field.av), ss a0.Last.Body, ii a2.Kind, ii a0.Bad]) (fun _ => rfl) ?_
     refine ai ⟨rfl, rfl, rfl, lb rfl⟩ (xi [AV.list 7 (x2.map S_Message.av), ss x3, bb a0.In, ss a0.Last.Start.Method, ss a0.Last.Start.Target, ii a0.Last.Start.Code, ss a0.Last.Start.Reason, ii a0.Last.Start.Minor, AV.list 2 (a0.Last.Fields.map S_Field.av), ss a0.Last.Body, ii a2.Kind, ii a0.Bad] (ai (fun _ => rfl) ?_))
     refine xi [(0, 5)] (xi 0 (ai ⟨(by kernel_rfl), rfl⟩ ?_))
     refine sv (St.of [⟨6, AV.ptr 3 0, none⟩] [.dead, .dead, .dead, .cells 39 [AV.list 7 (x2.map S_Message.av), ss x3, bb a0.In, ss a0.Last.Start.Method, ss a0.Last.Start.Target, ii a0.Last.Start.Code, ss a0.Last.Start.Reason, ii a0.Last.Start.Minor, AV.list 2 (a0.Last.Fields.map S_Field.av), ss a0.Last.Body, ii a2.Kind, ii a0.Bad] [(0, 1)]] [0, 1]) (gt _ _ _ [0, 5] (⟨trivial, ⟨trivial, ⟨trivial, ⟨⟨rfl, rfl, rfl⟩, trivial⟩⟩⟩⟩) rfl rfl rfl rfl (tr3 <| trivial)) ?_
     replace h := oi h
     subst h
     refine xi [⟨6, AV.ptr 3 0, none⟩] (xi [.dead, .dead, .dead, .cells 39 [AV.list 7 (x2.map S_Message.av), ss x3, bb a0.In, ss a0.Last.Start.Method, ss a0.Last.Start.Target, ii a0.Last.Start.Code, ss a0.Last.Start.Reason, ii a0.Last.Start.Minor, AV.list 2 (a0.Last.Fields.map S_Field.av), ss a0.Last.Body, ii a2.Kind, ii a0.Bad] [(0, 1)]] (ai rfl (ai (gt _ _ _ [0, 1] ?_ ?_ ?_ rfl rfl ?_) (ai ?_ (by kernel_rfl)))))
     ·exact ⟨trivial, ⟨trivial, ⟨trivial, ⟨⟨rfl, rfl, rfl⟩, trivial⟩⟩⟩⟩
     ·exact rfl
     ·exact rfl
     ·exact tr3 <| trivial
     ·refine ai ⟨lb rfl, lb rfl⟩ (xi (AV.agg [AV.list 7 (x2.map S_Message.av), ss x3, bb a0.In, ss a0.Last.Start.Method, ss a0.Last.Start.Target, ii a0.Last.Start.Code, ss a0.Last.Start.Reason, ii a0.Last.Start.Minor, AV.list 2 (a0.Last.Fields.map S_Field.av), ss a0.Last.Body, ii a2.Kind, ii a0.Bad]) (ai rfl ?_))
      exact rfl
  ·refine ai ⟨rfl, rfl, rfl, lb rfl⟩ (xi [AV.list 7 (a0.Out.map S_Message.av), ss a0.Left, bb true, ss a0.Last.Start.Method, ss a0.Last.Start.Target, ii a0.Last.Start.Code, ss a0.Last.Start.Reason, ii a0.Last.Start.Minor, AV.list 2 (a0.Last.Fields.map S_Field.av), ss a0.Last.Body, ii a2.Kind, ii a0.Bad] (ai (fun _ => rfl) ?_))
   refine sn <| sj <| sj <| sn ?_
   refine bo h (fun ht h => ?_) fun ht h => ?_
   ·refine sj <| ai ⟨lb rfl, lb rfl⟩ ?_
    refine xi (some 3) (ai (show aggT [(0, 1)] 0 12 = some 3 from by kernel_rfl) ?_)
    refine nt (AV.agg [AV.list 7 (a0.Out.map S_Message.av), ss a0.Left, bb true, ss a0.Last.Start.Method, ss a0.Last.Start.Target, ii a0.Last.Start.Code, ss a0.Last.Start.Reason, ii a0.Last.Start.Minor, AV.list 2 (a0.Last.Fields.map S_Field.av), ss a0.Last.Body, ii a2.Kind, ii a0.Bad]) (fun _ => rfl) ?_
    refine ai ⟨rfl, rfl, rfl, lb rfl⟩ (xi [AV.list 7 (a0.Out.map S_Message.av), ss a0.Left, bb true, ss a0.Last.Start.Method, ss a0.Last.Start.Target, ii a0.Last.Start.Code, ss a0.Last.Start.Reason, ii a0.Last.Start.Minor, AV.list 2 (a0.Last.Fields.map S_Field.av), ss a0.Last.Body, ii a2.Kind, ii a0.Bad] (ai (fun _ => rfl) ?_))
    refine xi [(0, 1)] (xi 0 (ai ⟨(by kernel_rfl), rfl⟩ ?_))
    refine sv (St.of [⟨6, AV.ptr 3 0, none⟩] [.dead, .dead, .dead, .cells 39 [AV.list 7 (a0.Out.map S_Message.av), ss a0.Left, bb true, ss a0.Last.Start.Method, ss a0.Last.Start.Target, ii a0.Last.Start.Code, ss a0.Last.Start.Reason, ii a0.Last.Start.Minor, AV.list 2 (a0.Last.Fields.map S_Field.av), ss a0.Last.Body, ii a2.Kind, ii a0.Bad] [(0, 1)]] [0, 1]) (gt _ _ _ [0, 1] (⟨trivial, ⟨trivial, ⟨trivial, ⟨⟨rfl, rfl, rfl⟩, trivial⟩⟩⟩⟩) rfl rfl rfl rfl (tr3 <| trivial)) ?_
    replace h := oi h
    subst h
    refine xi [⟨6, AV.ptr 3 0, none⟩] (xi [.dead, .dead, .dead, .cells 39 [AV.list 7 (a0.Out.map S_Message.av), ss a0.Left, bb true, ss a0.Last.Start.Method, ss a0.Last.Start.Target, ii a0.Last.Start.Code, ss a0.Last.Start.Reason, ii a0.Last.Start.Minor, AV.list 2 (a0.Last.Fields.map S_Field.av), ss a0.Last.Body, ii a2.Kind, ii a0.Bad] [(0, 1)]] (ai rfl (ai (gt _ _ _ [0, 1] ?_ ?_ ?_ rfl rfl ?_) (ai ?_ (by kernel_rfl)))))
    ·exact ⟨trivial, ⟨trivial, ⟨trivial, ⟨⟨rfl, rfl, rfl⟩, trivial⟩⟩⟩⟩
    ·exact rfl
    ·exact rfl
    ·exact tr3 <| trivial
    ·refine ai ⟨lb rfl, lb rfl⟩ (xi (AV.agg [AV.list 7 (a0.Out.map S_Message.av), ss a0.Left, bb true, ss a0.Last.Start.Method, ss a0.Last.Start.Target, ii a0.Last.Start.Code, ss a0.Last.Start.Reason, ii a0.Last.Start.Minor, AV.list 2 (a0.Last.Fields.map S_Field.av), ss a0.Last.Body, ii a2.Kind, ii a0.Bad]) (ai rfl ?_))
     exact rfl
   ·refine sn <| sj <| sj ?_
    refine sv (St.of [⟨3, AV.ptr 0 0, none⟩, ⟨4, AV.ptr 1 0, none⟩, ⟨6, AV.ptr 3 0, none⟩, ⟨7, ii a2.Size, none⟩, ⟨71, bb true, none⟩] [.cells 39 [AV.list 7 (a0.Out.map S_Message.av), ss a0.Left, bb true, ss a0.Last.Start.Method, ss a0.Last.Start.Target, ii a0.Last.Start.Code, ss a0.Last.Start.Reason, ii a0.Last.Start.Minor, AV.list 2 (a0.Last.Fields.map S_Field.av), ss a0.Last.Body, ii a2.Kind, ii a0.Bad] [(0, 1)], .cells 26 [ss a1.Start.Method, ss a1.Start.Target, ii a1.Start.Code, ss a1.Start.Reason, ii a1.Start.Minor, AV.list 2 (a1.Fields.map S_Field.av), ss a0.Left] [], .dead, .cells 39 [AV.list 7 (([] : List S_Message).map S_Message.av), ss [], bb false, ss [], ss [], ii 0, ss [], ii 0, AV.list 2 (([] : List S_Field).map S_Field.av), ss [], ii 0, ii 0] [(0, 2), (8, 3)]] [0, 1, 1, 1]) (gt _ _ _ [0, 1, 2, 3] (⟨⟨rfl, rfl, rfl⟩, ⟨⟨rfl, rfl, rfl⟩, ⟨trivial, ⟨⟨rfl, rfl, rfl⟩, trivial⟩⟩⟩⟩) rfl rfl rfl rfl (tr3 <| tr3 <| tr3 <| tr3 <| tr3 <| trivial)) ?_
    refine Br.mk (fun _ => ?_) (fun hf => absurd hf (by decide))
    refine sj <| ai ⟨lb rfl, lb rfl⟩ ?_
    refine xi none (ai rfl ?_)
    refine nt (AV.agg [ss a1.Start.Method, ss a1.Start.Target, ii a1.Start.Code, ss a1.Start.Reason, ii a1.Start.Minor, AV.list 2 (a1.Fields.map S_Field.av), ss a0.Left]) (fun _ => rfl) ?_
    refine ai ⟨rfl, rfl, rfl, lb rfl⟩ (xi [AV.list 7 (a0.Out.map S_Message.av), ss a0.Left, bb true, ss a1.Start.Method, ss a1.Start.Target, ii a1.Start.Code, ss a1.Start.Reason, ii a1.Start.Minor, AV.list 2 (a1.Fields.map S_Field.av), ss a0.Left, ii a2.Kind, ii a0.Bad] (ai (fun _ => rfl) ?_))
    refine sn <| sj ?_
    refine ai ⟨rfl, rfl, rfl, lb rfl⟩ (xi [AV.list 7 (a0.Out.map S_Message.av), ss [], bb true, ss a1.Start.Method, ss a1.Start.Target, ii a1.Start.Code, ss a1.Start.Reason, ii a1.Start.Minor, AV.list 2 (a1.Fields.map S_Field.av), ss a0.Left, ii a2.Kind, ii a0.Bad] (ai (fun _ => rfl) ?_))
    refine sn <| sj <| ai ⟨lb rfl, lb rfl⟩ ?_
    refine xi (some 3) (ai (show aggT [(0, 1)] 0 12 = some 3 from by kernel_rfl) ?_)
    refine nt (AV.agg [AV.list 7 (a0.Out.map S_Message.av), ss [], bb true, ss a1.Start.Method, ss a1.Start.Target, ii a1.Start.Code, ss a1.Start.Reason, ii a1.Start.Minor, AV.list 2 (a1.Fields.map S_Field.av), ss a0.Left, ii a2.Kind, ii a0.Bad]) (fun _ => rfl) ?_
    refine ai ⟨rfl, rfl, rfl, lb rfl⟩ (xi [AV.list 7 (a0.Out.map S_Message.av), ss [], bb true, ss a1.Start.Method, ss a1.Start.Target, ii a1.Start.Code, ss a1.Start.Reason, ii a1.Start.Minor, AV.list 2 (a1.Fields.map S_Field.av), ss a0.Left, ii a2.Kind, ii a0.Bad] (ai (fun _ => rfl) ?_))
    refine xi [(0, 1)] (xi 0 (ai ⟨(by kernel_rfl), rfl⟩ ?_))
    refine sn ?_
    replace h := oi h
    subst h
    refine xi [⟨6, AV.ptr 3 0, none⟩] (xi [.dead, .dead, .dead, .cells 39 [AV.list 7 (a0.Out.map S_Message.av), ss [], bb true, ss a1.Start.Method, ss a1.Start.Target, ii a1.Start.Code, ss a1.Start.Reason, ii a1.Start.Minor, AV.list 2 (a1.Fields.map S_Field.av), ss a0.Left, ii a2.Kind, ii a0.Bad] [(0, 1)]] (ai rfl (ai (gt _ _ _ [0, 1] ?_ ?_ ?_ rfl rfl ?_) (ai ?_ (by kernel_rfl)))))
    ·exact ⟨trivial, ⟨trivial, ⟨trivial, ⟨⟨rfl, rfl, rfl⟩, trivial⟩⟩⟩⟩
    ·exact rfl
    ·exact rfl
    ·exact tr3 <| trivial
    ·refine ai ⟨lb rfl, lb rfl⟩ (xi (AV.agg [AV.list 7 (a0.Out.map S_Message.av), ss [], bb true, ss a1.Start.Method, ss a1.Start.Target, ii a1.Start.Code, ss a1.Start.Reason, ii a1.Start.Minor, AV.list 2 (a1.Fields.map S_Field.av), ss a0.Left, ii a2.Kind, ii a0.Bad]) (ai rfl ?_))
     exact rfl
 ·refine sj <| sn ?_
  refine bo h (fun ht h => ?_) fun ht h => ?_
  ·refine sj ?_
   refine xi none (ai trivial ?_)
   refine be h fun x4 hx4 h => cd _ false rfl ((intarsiaref08_Feed_ok E (S_Chunked.mk (0 : Int) ([] : Bytes) (0 : Int) (0 : Int)) a0.Left).1 x4 hx4) <| ai rfl ?_
   refine ai ⟨rfl, rfl, rfl, lb rfl⟩ (xi (S_Chunked.cells x4.1) (ai (fun _ => rfl) ?_))
   refine sv (St.of [⟨3, AV.ptr 0 0, none⟩, ⟨4, AV.ptr 1 0, none⟩, ⟨6, AV.ptr 3 0, none⟩, ⟨8, AV.ptr 4 0, none⟩, ⟨9, ss x4.2.1, none⟩, ⟨10, ii x4.2.2.1, none⟩, ⟨11, ii x4.2.2.2, none⟩] [.cells 39 [AV.list 7 (a0.Out.map S_Message.av), ss a0.Left, bb a0.In, ss a0.Last.Start.Method, ss a0.Last.Start.Target, ii a0.Last.Start.Code, ss a0.Last.Start.Reason, ii a0.Last.Start.Minor, AV.list 2 (a0.Last.Fields.map S_Field.av), ss a0.Last.Body, ii a2.Kind, ii a0.Bad] [(0, 1)], .cells 26 (S_Message.cells a1) [], .dead, .cells 39 [AV.list 7 (([] : List S_Message).map S_Message.av), ss [], bb false, ss [], ss [], ii 0, ss [], ii 0, AV.list 2 (([] : List S_Field).map S_Field.av), ss [], ii 0, ii 0] [(0, 2), (8, 3)], .cells 30 (S_Chunked.cells x4.1) []] [0, 1, 1, 1]) (gt _ _ _ [0, 0, 1, 2] (⟨⟨rfl, rfl, rfl⟩, ⟨⟨rfl, rfl, rfl⟩, ⟨trivial, ⟨⟨rfl, rfl, rfl⟩, ⟨⟨rfl, rfl, rfl⟩, trivial⟩⟩⟩⟩⟩) rfl rfl rfl rfl (tr3 <| tr3 <| tr3 <| tr3 <| tr3 <| tr3 <| tr3 <| trivial)) ?_
   refine sj ?_
   refine ai ⟨rfl, rfl, rfl, lb rfl⟩ (xi [AV.list 7 (a0.Out.map S_Message.av), ss a0.Left, bb a0.In, ss a0.Last.Start.Method, ss a0.Last.Start.Target, ii a0.Last.Start.Code, ss a0.Last.Start.Reason, ii a0.Last.Start.Minor, AV.list 2 (a0.Last.Fields.map S_Field.av), ss a0.Last.Body, ii a2.Kind, ii x4.2.2.2] (ai (fun _ => rfl) ?_))
   refine sn <| sj ?_
   refine ai ⟨rfl, rfl, rfl, lb rfl⟩ (xi [ss a1.Start.Method, ss a1.Start.Target, ii a1.Start.Code, ss a1.Start.Reason, ii a1.Start.Minor, AV.list 2 (a1.Fields.map S_Field.av), ss x4.2.1] (ai (fun _ => rfl) ?_))
   refine sn <| sj <| sn ?_
   refine ai ⟨rfl, rfl, rfl, lb rfl⟩ (xi [AV.list 7 (a0.Out.map S_Message.av), ss a0.Left, bb (x4.1.Stage != (4 : Int)), ss a0.Last.Start.Method, ss a0.Last.Start.Target, ii a0.Last.Start.Code, ss a0.Last.Start.Reason, ii a0.Last.Start.Minor, AV.list 2 (a0.Last.Fields.map S_Field.av), ss a0.Last.Body, ii a2.Kind, ii x4.2.2.2] (ai (fun _ => rfl) ?_))
   refine sn <| sj <| sj ?_
   refine sv (St.of [⟨3, AV.ptr 0 0, none⟩, ⟨4, AV.ptr 1 0, none⟩, ⟨6, AV.ptr 3 0, none⟩, ⟨7, ii x4.2.2.1, none⟩, ⟨68, bb (x4.2.2.2 != (0 : Int)), none⟩] [.cells 39 [AV.list 7 (a0.Out.map S_Message.av), ss a0.Left, bb (x4.1.Stage != (4 : Int)), ss a0.Last.Start.Method, ss a0.Last.Start.Target, ii a0.Last.Start.Code, ss a0.Last.Start.Reason, ii a0.Last.Start.Minor, AV.list 2 (a0.Last.Fields.map S_Field.av), ss a0.Last.Body, ii a2.Kind, ii x4.2.2.2] [(0, 1)], .cells 26 [ss a1.Start.Method, ss a1.Start.Target, ii a1.Start.Code, ss a1.Start.Reason, ii a1.Start.Minor, AV.list 2 (a1.Fields.map S_Field.av), ss x4.2.1] [], .dead, .cells 39 [AV.list 7 (([] : List S_Message).map S_Message.av), ss [], bb false, ss [], ss [], ii 0, ss [], ii 0, AV.list 2 (([] : List S_Field).map S_Field.av), ss [], ii 0, ii 0] [(0, 2), (8, 3)]] [0, 1, 1, 1]) (gt _ _ _ [0, 1, 2, 3] (⟨⟨rfl, rfl, rfl⟩, ⟨⟨rfl, rfl, rfl⟩, ⟨trivial, ⟨⟨rfl, rfl, rfl⟩, trivial⟩⟩⟩⟩) rfl rfl rfl rfl (tr3 <| tr3 <| tr3 <| tr3 <| tr3 <| trivial)) ?_
   refine bo h (fun ht h => ?_) fun ht h => ?_
   ·refine sj <| ai ⟨lb rfl, lb rfl⟩ ?_
    refine xi (some 3) (ai (show aggT [(0, 1)] 0 12 = some 3 from by kernel_rfl) ?_)
    refine nt (AV.agg [AV.list 7 (a0.Out.map S_Message.av), ss a0.Left, bb (x4.1.Stage != (4 : Int)), ss a0.Last.Start.Method, ss a0.Last.Start.Target, ii a0.Last.Start.Code, ss a0.Last.Start.Reason, ii a0.Last.Start.Minor, AV.list 2 (a0.Last.Fields.map S_Field.av), ss a0.Last.Body, ii a2.Kind, ii x4.2.2.2]) (fun _ => rfl) ?_
    refine ai ⟨rfl, rfl, rfl, lb rfl⟩ (xi [AV.list 7 (a0.Out.map S_Message.av), ss a0.Left, bb (x4.1.Stage != (4 : Int)), ss a0.Last.Start.Method, ss a0.Last.Start.Target, ii a0.Last.Start.Code, ss a0.Last.Start.Reason, ii a0.Last.Start.Minor, AV.list 2 (a0.Last.Fields.map S_Field.av), ss a0.Last.Body, ii a2.Kind, ii x4.2.2.2] (ai (fun _ => rfl) ?_))
    refine xi [(0, 1)] (xi 0 (ai ⟨(by kernel_rfl), rfl⟩ ?_))
    refine sn ?_
    replace h := oi h
    subst h
    refine xi [⟨6, AV.ptr 3 0, none⟩] (xi [.dead, .dead, .dead, .cells 39 [AV.list 7 (a0.Out.map S_Message.av), ss a0.Left, bb (x4.1.Stage != (4 : Int)), ss a0.Last.Start.Method, ss a0.Last.Start.Target, ii a0.Last.Start.Code, ss a0.Last.Start.Reason, ii a0.Last.Start.Minor, AV.list 2 (a0.Last.Fields.map S_Field.av), ss a0.Last.Body, ii a2.Kind, ii x4.2.2.2] [(0, 1)]] (ai rfl (ai (gt _ _ _ [0, 1] ?_ ?_ ?_ rfl rfl ?_) (ai ?_ (by kernel_rfl)))))
    ·exact ⟨trivial, ⟨trivial, ⟨trivial, ⟨⟨rfl, rfl, rfl⟩, trivial⟩⟩⟩⟩
    ·exact rfl
    ·exact rfl
    ·exact tr3 <| trivial
    ·refine ai ⟨lb rfl, lb rfl⟩ (xi (AV.agg [AV.list 7 (a0.Out.map S_Message.av), ss a0.Left, bb (x4.1.Stage != (4 : Int)), ss a0.Last.Start.Method, ss a0.Last.Start.Target, ii a0.Last.Start.Code, ss a0.Last.Start.Reason, ii a0.Last.Start.Minor, AV.list 2 (a0.Last.Fields.map S_Field.av), ss a0.Last.Body, ii a2.Kind, ii x4.2.2.2]) (ai rfl ?_))
     exact rfl
   ·refine sn <| sj <| sj <| sn ?_
    refine bo h (fun ht h => ?_) fun ht h => ?_
    ·refine sj <| ai ⟨lb rfl, lb rfl⟩ ?_
     refine xi none (ai rfl ?_)
     refine nt (AV.agg [ss a1.Start.Method, ss a1.Start.Target, ii a1.Start.Code, ss a1.Start.Reason, ii a1.Start.Minor, AV.list 2 (a1.Fields.map S_Field.av), ss x4.2.1]) (fun _ => rfl) ?_
     refine ai ⟨rfl, rfl, rfl, lb rfl⟩ (xi [AV.list 7 (a0.Out.map S_Message.av), ss a0.Left, bb (x4.1.Stage != (4 : Int)), ss a1.Start.Method, ss a1.Start.Target, ii a1.Start.Code, ss a1.Start.Reason, ii a1.Start.Minor, AV.list 2 (a1.Fields.map S_Field.av), ss x4.2.1, ii a2.Kind, ii x4.2.2.2] (ai (fun _ => rfl) ?_))
     refine sn <| sj ?_
     refine ai ⟨rfl, rfl, rfl, lb rfl⟩ (xi [AV.list 7 (a0.Out.map S_Message.av), ss [], bb (x4.1.Stage != (4 : Int)), ss a1.Start.Method, ss a1.Start.Target, ii a1.Start.Code, ss a1.Start.Reason, ii a1.Start.Minor, AV.list 2 (a1.Fields.map S_Field.av), ss x4.2.1, ii a2.Kind, ii x4.2.2.2] (ai (fun _ => rfl) ?_))
     refine sn <| sj <| ai ⟨lb rfl, lb rfl⟩ ?_
     refine xi (some 3) (ai (show aggT [(0, 1)] 0 12 = some 3 from by kernel_rfl) ?_)
     refine nt (AV.agg [AV.list 7 (a0.Out.map S_Message.av), ss [], bb (x4.1.Stage != (4 : Int)), ss a1.Start.Method, ss a1.Start.Target, ii a1.Start.Code, ss a1.Start.Reason, ii a1.Start.Minor, AV.list 2 (a1.Fields.map S_Field.av), ss x4.2.1, ii a2.Kind, ii x4.2.2.2]) (fun _ => rfl) ?_
     refine ai ⟨rfl, rfl, rfl, lb rfl⟩ (xi [AV.list 7 (a0.Out.map S_Message.av), ss [], bb (x4.1.Stage != (4 : Int)), ss a1.Start.Method, ss a1.Start.Target, ii a1.Start.Code, ss a1.Start.Reason, ii a1.Start.Minor, AV.list 2 (a1.Fields.map S_Field.av), ss x4.2.1, ii a2.Kind, ii x4.2.2.2] (ai (fun _ => rfl) ?_))
     refine xi [(0, 1)] (xi 0 (ai ⟨(by kernel_rfl), rfl⟩ ?_))
     refine sn ?_
     replace h := oi h
     subst h
     refine xi [⟨6, AV.ptr 3 0, none⟩] (xi [.dead, .dead, .dead, .cells 39 [AV.list 7 (a0.Out.map S_Message.av), ss [], bb (x4.1.Stage != (4 : Int)), ss a1.Start.Method, ss a1.Start.Target, ii a1.Start.Code, ss a1.Start.Reason, ii a1.Start.Minor, AV.list 2 (a1.Fields.map S_Field.av), ss x4.2.1, ii a2.Kind, ii x4.2.2.2] [(0, 1)]] (ai rfl (ai (gt _ _ _ [0, 1] ?_ ?_ ?_ rfl rfl ?_) (ai ?_ (by kernel_rfl)))))
     ·exact ⟨trivial, ⟨trivial, ⟨trivial, ⟨⟨rfl, rfl, rfl⟩, trivial⟩⟩⟩⟩
     ·exact rfl
     ·exact rfl
     ·exact tr3 <| trivial
     ·refine ai ⟨lb rfl, lb rfl⟩ (xi (AV.agg [AV.list 7 (a0.Out.map S_Message.av), ss [], bb (x4.1.Stage != (4 : Int)), ss a1.Start.Method, ss a1.Start.Target, ii a1.Start.Code, ss a1.Start.Reason, ii a1.Start.Minor, AV.list 2 (a1.Fields.map S_Field.av), ss x4.2.1, ii a2.Kind, ii x4.2.2.2]) (ai rfl ?_))
      exact rfl
    ·refine sn <| sj <| ai ⟨lb rfl, lb rfl⟩ ?_
     refine xi none (ai rfl ?_)
     refine nt (AV.agg [ss a1.Start.Method, ss a1.Start.Target, ii a1.Start.Code, ss a1.Start.Reason, ii a1.Start.Minor, AV.list 2 (a1.Fields.map S_Field.av), ss x4.2.1]) (fun _ => rfl) <| ai ⟨rfl, rfl, rfl, rfl⟩ <| ai ⟨rfl, rfl, rfl⟩ <| nt (AV.list 7 (([(S_Message.mk a1.Start a1.Fields x4.2.1)] : List S_Message).map S_Message.av)) (fun _ => rfl) <| be h fun x5 hx5 h => ?_
     have qx5 := (app_some hx5).1
     have hx5e := (app_some hx5).2
     refine ai ⟨rfl, rfl, rfl⟩ <| ai rfl <| ai (app_cond S_Message.av qx5) <| nt (AV.list 7 (x5.map S_Message.av)) (fun _ => (app_list 7 S_Message.av _ _).trans (congrArg (fun y => AV.list 7 (List.map S_Message.av y)) hx5e.symm)) ?_
     refine ai ⟨rfl, rfl, rfl, lb rfl⟩ (xi [AV.list 7 (x5.map S_Message.av), ss a0.Left, bb (x4.1.Stage != (4 : Int)), ss a0.Last.Start.Method, ss a0.Last.Start.Target, ii a0.Last.Start.Code, ss a0.Last.Start.Reason, ii a0.Last.Start.Minor, AV.list 2 (a0.Last.Fields.map S_Field.av), ss a0.Last.Body, ii a2.Kind, ii x4.2.2.2] (ai (fun _ => rfl) ?_))
     refine sn <| sj <| be h fun x6 hx6 h => ?_
     have qx6 := (slc_some hx6).1
     have hx6e := (slc_some hx6).2
     refine ai (fun _ => qx6) <| nt (ss x6) (fun _ => congrArg ss hx6e.symm) ?_
     refine ai ⟨rfl, rfl, rfl, lb rfl⟩ (xi [AV.list 7 (x5.map S_Message.av), ss x6, bb (x4.1.Stage != (4 : Int)), ss a0.Last.Start.Method, ss a0.Last.Start.Target, ii a0.Last.Start.Code, ss a0.Last.Start.Reason, ii a0.Last.Start.Minor, AV.list 2 (a0.Last.Fields.map S_Field.av), ss a0.Last.Body, ii a2.Kind, ii x4.2.2.2] (ai (fun _ => rfl) ?_))
     refine sn <| sj <| ai ⟨lb rfl, lb rfl⟩ ?_
     refine xi (some 7) (ai (show aggT [(0, 5)] 0 12 = some 7 from by kernel_rfl) ?_)
     refine nt (AV.agg [AV.list 7 (x5.map S_Message.av), ss x6, bb (x4.1.Stage != (4 : Int)), ss a0.Last.Start.Method, ss a0.Last.Start.Target, ii a0.Last.Start.Code, ss a0.Last.Start.Reason, ii a0.Last.Start.Minor, AV.list 2 (a0.Last.Fields.map S_Field.av), ss a0.Last.Body, ii a2.Kind, ii x4.2.2.2]) (fun _ => rfl) ?_
     refine ai ⟨rfl, rfl, rfl, lb rfl⟩ (xi [AV.list 7 (x5.map S_Message.av), ss x6, bb (x4.1.Stage != (4 : Int)), ss a0.Last.Start.Method, ss a0.Last.Start.Target, ii a0.Last.Start.Code, ss a0.Last.Start.Reason, ii a0.Last.Start.Minor, AV.list 2 (a0.Last.Fields.map S_Field.av), ss a0.Last.Body, ii a2.Kind, ii x4.2.2.2] (ai (fun _ => rfl) ?_))
     refine xi [(0, 5)] (xi 0 (ai ⟨(by kernel_rfl), rfl⟩ ?_))
     refine sv (St.of [⟨6, AV.ptr 3 0, none⟩] [.dead, .dead, .dead, .cells 39 [AV.list 7 (x5.map S_Message.av), ss x6, bb (x4.1.Stage != (4 : Int)), ss a0.Last.Start.Method, ss a0.Last.Start.Target, ii a0.Last.Start.Code, ss a0.Last.Start.Reason, ii a0.Last.Start.Minor, AV.list 2 (a0.Last.Fields.map S_Field.av), ss a0.Last.Body, ii a2.Kind, ii x4.2.2.2] [(0, 1)]] [0, 1]) (gt _ _ _ [0, 5] (⟨trivial, ⟨trivial, ⟨trivial, ⟨⟨rfl, rfl, rfl⟩, trivial⟩⟩⟩⟩) rfl rfl rfl rfl (tr3 <| trivial)) ?_
     replace h := oi h
     subst h
     refine xi [⟨6, AV.ptr 3 0, none⟩] (xi [.dead, .dead, .dead, .cells 39 [AV.list 7 (x5.map S_Message.av), ss x6, bb (x4.1.Stage != (4 : Int)), ss a0.Last.Start.Method, ss a0.Last.Start.Target, ii a0.Last.Start.Code, ss a0.Last.Start.Reason, ii a0.Last.Start.Minor, AV.list 2 (a0.Last.Fields.map S_Field.av), ss a0.Last.Body, ii a2.Kind, ii x4.2.2.2] [(0, 1)]] (ai rfl (ai (gt _ _ _ [0, 1] ?_ ?_ ?_ rfl rfl ?_) (ai ?_ (by kernel_rfl)))))
     ·exact ⟨trivial, ⟨trivial, ⟨trivial, ⟨⟨rfl, rfl, rfl⟩, trivial⟩⟩⟩⟩
     ·exact rfl
     ·exact rfl
     ·exact tr3 <| trivial
     ·refine ai ⟨lb rfl, lb rfl⟩ (xi (AV.agg [AV.list 7 (x5.map S_Message.av), ss x6, bb (x4.1.Stage != (4 : Int)), ss a0.Last.Start.Method, ss a0.Last.Start.Target, ii a0.Last.Start.Code, ss a0.Last.Start.Reason, ii a0.Last.Start.Minor, AV.list 2 (a0.Last.Fields.map S_Field.av), ss a0.Last.Body, ii a2.Kind, ii x4.2.2.2]) (ai rfl ?_))
      exact rfl
  ·refine sj ?_
   refine sv (St.of [⟨3, AV.ptr 0 0, none⟩, ⟨4, AV.ptr 1 0, none⟩, ⟨6, AV.ptr 3 0, none⟩, ⟨7, ii 0, none⟩, ⟨55, bb (a2.Kind == (3 : Int)), none⟩] [.cells 39 [AV.list 7 (a0.Out.map S_Message.av), ss a0.Left, bb a0.In, ss a0.Last.Start.Method, ss a0.Last.Start.Target, ii a0.Last.Start.Code, ss a0.Last.Start.Reason, ii a0.Last.Start.Minor, AV.list 2 (a0.Last.Fields.map S_Field.av), ss a0.Last.Body, ii a2.Kind, ii a0.Bad] [(0, 1)], .cells 26 (S_Message.cells a1) [], .dead, .cells 39 [AV.list 7 (([] : List S_Message).map S_Message.av), ss [], bb false, ss [], ss [], ii 0, ss [], ii 0, AV.list 2 (([] : List S_Field).map S_Field.av), ss [], ii 0, ii 0] [(0, 2), (8, 3)]] [0, 1, 1, 1]) (gt _ _ _ [0, 0, 1, 2] (⟨⟨rfl, rfl, rfl⟩, ⟨⟨rfl, rfl, rfl⟩, ⟨trivial, ⟨⟨rfl, rfl, rfl⟩, trivial⟩⟩⟩⟩) rfl rfl rfl rfl (tr3 <| tr3 <| tr3 <| tr3 <| tr3 <| trivial)) ?_
   refine bo h (fun ht h => ?_) fun ht h => ?_
   ·refine sj ?_
    refine ai ⟨rfl, rfl, rfl, lb rfl⟩ (xi [ss a1.Start.Method, ss a1.Start.Target, ii a1.Start.Code, ss a1.Start.Reason, ii a1.Start.Minor, AV.list 2 (a1.Fields.map S_Field.av), ss a0.Left] (ai (fun _ => rfl) ?_))
    refine sn <| sj ?_
    refine ai ⟨rfl, rfl, rfl, lb rfl⟩ (xi [AV.list 7 (a0.Out.map S_Message.av), ss a0.Left, bb true, ss a0.Last.Start.Method, ss a0.Last.Start.Target, ii a0.Last.Start.Code, ss a0.Last.Start.Reason, ii a0.Last.Start.Minor, AV.list 2 (a0.Last.Fields.map S_Field.av), ss a0.Last.Body, ii a2.Kind, ii a0.Bad] (ai (fun _ => rfl) ?_))
    refine sn <| sj <| NormE.same <| sn ?_
    refine bo h (fun ht h => ?_) fun ht h => ?_
    ·refine ai ⟨rfl, rfl, rfl, lb rfl⟩ (xi [AV.list 7 (a0.Out.map S_Message.av), ss a0.Left, bb true, ss a0.Last.Start.Method, ss a0.Last.Start.Target, ii a0.Last.Start.Code, ss a0.Last.Start.Reason, ii a0.Last.Start.Minor, AV.list 2 (a0.Last.Fields.map S_Field.av), ss a0.Last.Body, ii a2.Kind, ii 2] (ai (fun _ => rfl) ?_))
     refine sn <| sj <| sj <| sn ?_
     refine bo h (fun ht h => ?_) fun ht h => ?_
     ·refine sj <| ai ⟨lb rfl, lb rfl⟩ ?_
      refine xi (some 3) (ai (show aggT [(0, 1)] 0 12 = some 3 from by kernel_rfl) ?_)
      refine nt (AV.agg [AV.list 7 (a0.Out.map S_Message.av), ss a0.Left, bb true, ss a0.Last.Start.Method, ss a0.Last.Start.Target, ii a0.Last.Start.Code, ss a0.Last.Start.Reason, ii a0.Last.Start.Minor, AV.list 2 (a0.Last.Fields.map S_Field.av), ss a0.Last.Body, ii a2.Kind, ii 2]) (fun _ => rfl) ?_
      refine ai ⟨rfl, rfl, rfl, lb rfl⟩ (xi [AV.list 7 (a0.Out.map S_Message.av), ss a0.Left, bb true, ss a0.Last.Start.Method, ss a0.Last.Start.Target, ii a0.Last.Start.Code, ss a0.Last.Start.Reason, ii a0.Last.Start.Minor, AV.list 2 (a0.Last.Fields.map S_Field.av), ss a0.Last.Body, ii a2.Kind, ii 2] (ai (fun _ => rfl) ?_))
      refine xi [(0, 1)] (xi 0 (ai ⟨(by kernel_rfl), rfl⟩ ?_))
      refine sv (St.of [⟨6, AV.ptr 3 0, none⟩] [.dead, .dead, .dead, .cells 39 [AV.list 7 (a0.Out.map S_Message.av), ss a0.Left, bb true, ss a0.Last.Start.Method, ss a0.Last.Start.Target, ii a0.Last.Start.Code, ss a0.Last.Start.Reason, ii a0.Last.Start.Minor, AV.list 2 (a0.Last.Fields.map S_Field.av), ss a0.Last.Body, ii a2.Kind, ii 2] [(0, 1)]] [0, 1]) (gt _ _ _ [0, 1] (⟨trivial, ⟨trivial, ⟨trivial, ⟨⟨rfl, rfl, rfl⟩, trivial⟩⟩⟩⟩) rfl rfl rfl rfl (tr3 <| trivial)) ?_
      replace h := oi h
      subst h
      refine xi [⟨6, AV.ptr 3 0, none⟩] (xi [.dead, .dead, .dead, .cells 39 [AV.list 7 (a0.Out.map S_Message.av), ss a0.Left, bb true, ss a0.Last.Start.Method, ss a0.Last.Start.Target, ii a0.Last.Start.Code, ss a0.Last.Start.Reason, ii a0.Last.Start.Minor, AV.list 2 (a0.Last.Fields.map S_Field.av), ss a0.Last.Body, ii a2.Kind, ii 2] [(0, 1)]] (ai rfl (ai (gt _ _ _ [0, 1] ?_ ?_ ?_ rfl rfl ?_) (ai ?_ (by kernel_rfl)))))
      ·exact ⟨trivial, ⟨trivial, ⟨trivial, ⟨⟨rfl, rfl, rfl⟩, trivial⟩⟩⟩⟩
      ·exact rfl
      ·exact rfl
      ·exact tr3 <| trivial
      ·refine ai ⟨lb rfl, lb rfl⟩ (xi (AV.agg [AV.list 7 (a0.Out.map S_Message.av), ss a0.Left, bb true, ss a0.Last.Start.Method, ss a0.Last.Start.Target, ii a0.Last.Start.Code, ss a0.Last.Start.Reason, ii a0.Last.Start.Minor, AV.list 2 (a0.Last.Fields.map S_Field.av), ss a0.Last.Body, ii a2.Kind, ii 2]) (ai rfl ?_))
       exact rfl
     ·refine sn <| sj <| sj ?_
      refine sv (St.of [⟨3, AV.ptr 0 0, none⟩, ⟨4, AV.ptr 1 0, none⟩, ⟨6, AV.ptr 3 0, none⟩, ⟨7, ii 0, none⟩, ⟨71, bb true, none⟩] [.cells 39 [AV.list 7 (a0.Out.map S_Message.av), ss a0.Left, bb true, ss a0.Last.Start.Method, ss a0.Last.Start.Target, ii a0.Last.Start.Code, ss a0.Last.Start.Reason, ii a0.Last.Start.Minor, AV.list 2 (a0.Last.Fields.map S_Field.av), ss a0.Last.Body, ii a2.Kind, ii 2] [(0, 1)], .cells 26 [ss a1.Start.Method, ss a1.Start.Target, ii a1.Start.Code, ss a1.Start.Reason, ii a1.Start.Minor, AV.list 2 (a1.Fields.map S_Field.av), ss a0.Left] [], .dead, .cells 39 [AV.list 7 (([] : List S_Message).map S_Message.av), ss [], bb false, ss [], ss [], ii 0, ss [], ii 0, AV.list 2 (([] : List S_Field).map S_Field.av), ss [], ii 0, ii 0] [(0, 2), (8, 3)]] [0, 1, 1, 1]) (gt _ _ _ [0, 1, 2, 3] (⟨⟨rfl, rfl, rfl⟩, ⟨⟨rfl, rfl, rfl⟩, ⟨trivial, ⟨⟨rfl, rfl, rfl⟩, trivial⟩⟩⟩⟩) rfl rfl rfl rfl (tr3 <| tr3 <| tr3 <| tr3 <| tr3 <| trivial)) ?_
      refine Br.mk (fun _ => ?_) (fun hf => absurd hf (by decide))
      refine sj <| ai ⟨lb rfl, lb rfl⟩ ?_
      refine xi none (ai rfl ?_)
      refine nt (AV.agg [ss a1.Start.Method, ss a1.Start.Target, ii a1.Start.Code, ss a1.Start.Reason, ii a1.Start.Minor, AV.list 2 (a1.Fields.map S_Field.av), ss a0.Left]) (fun _ => rfl) ?_
      refine ai ⟨rfl, rfl, rfl, lb rfl⟩ (xi [AV.list 7 (a0.Out.map S_Message.av), ss a0.Left, bb true, ss a1.Start.Method, ss a1.Start.Target, ii a1.Start.Code, ss a1.Start.Reason, ii a1.Start.Minor, AV.list 2 (a1.Fields.map S_Field.av), ss a0.Left, ii a2.Kind, ii 2] (ai (fun _ => rfl) ?_))
      refine sn <| sj ?_
      refine ai ⟨rfl, rfl, rfl, lb rfl⟩ (xi [AV.list 7 (a0.Out.map S_Message.av), ss [], bb true, ss a1.Start.Method, ss a1.Start.Target, ii a1.Start.Code, ss a1.Start.Reason, ii a1.Start.Minor, AV.list 2 (a1.Fields.map S_Field.av), ss a0.Left, ii a2.Kind, ii 2] (ai (fun _ => rfl) ?_))
      refine sn <| sj <| ai ⟨lb rfl, lb rfl⟩ ?_
      refine xi (some 3) (ai (show aggT [(0, 1)] 0 12 = some 3 from by kernel_rfl) ?_)
      refine nt (AV.agg [AV.list 7 (a0.Out.map S_Message.av), ss [], bb true, ss a1.Start.Method, ss a1.Start.Target, ii a1.Start.Code, ss a1.Start.Reason, ii a1.Start.Minor, AV.list 2 (a1.Fields.map S_Field.av), ss a0.Left, ii a2.Kind, ii 2]) (fun _ => rfl) ?_
      refine ai ⟨rfl, rfl, rfl, lb rfl⟩ (xi [AV.list 7 (a0.Out.map S_Message.av), ss [], bb true, ss a1.Start.Method, ss a1.Start.Target, ii a1.Start.Code, ss a1.Start.Reason, ii a1.Start.Minor, AV.list 2 (a1.Fields.map S_Field.av), ss a0.Left, ii a2.Kind, ii 2] (ai (fun _ => rfl) ?_))
      refine xi [(0, 1)] (xi 0 (ai ⟨(by kernel_rfl), rfl⟩ ?_))
      refine sn ?_
      replace h := oi h
      subst h
      refine xi [⟨6, AV.ptr 3 0, none⟩] (xi [.dead, .dead, .dead, .cells 39 [AV.list 7 (a0.Out.map S_Message.av), ss [], bb true, ss a1.Start.Method, ss a1.Start.Target, ii a1.Start.Code, ss a1.Start.Reason, ii a1.Start.Minor, AV.list 2 (a1.Fields.map S_Field.av), ss a0.Left, ii a2.Kind, ii 2] [(0, 1)]] (ai rfl (ai (gt _ _ _ [0, 1] ?_ ?_ ?_ rfl rfl ?_) (ai ?_ (by kernel_rfl)))))
      ·exact ⟨trivial, ⟨trivial, ⟨trivial, ⟨⟨rfl, rfl, rfl⟩, trivial⟩⟩⟩⟩
      ·exact rfl
      ·exact rfl
      ·exact tr3 <| trivial
      ·refine ai ⟨lb rfl, lb rfl⟩ (xi (AV.agg [AV.list 7 (a0.Out.map S_Message.av), ss [], bb true, ss a1.Start.Method, ss a1.Start.Target, ii a1.Start.Code, ss a1.Start.Reason, ii a1.Start.Minor, AV.list 2 (a1.Fields.map S_Field.av), ss a0.Left, ii a2.Kind, ii 2]) (ai rfl ?_))
       exact rfl
    ·refine sn <| sj <| sj <| sn ?_
     refine bo h (fun ht h => ?_) fun ht h => ?_
     ·refine sj <| ai ⟨lb rfl, lb rfl⟩ ?_
      refine xi (some 3) (ai (show aggT [(0, 1)] 0 12 = some 3 from by kernel_rfl) ?_)
      refine nt (AV.agg [AV.list 7 (a0.Out.map S_Message.av), ss a0.Left, bb true, ss a0.Last.Start.Method, ss a0.Last.Start.Target, ii a0.Last.Start.Code, ss a0.Last.Start.Reason, ii a0.Last.Start.Minor, AV.list 2 (a0.Last.Fields.map S_Field.av), ss a0.Last.Body, ii a2.Kind, ii a0.Bad]) (fun _ => rfl) ?_
      refine ai ⟨rfl, rfl, rfl, lb rfl⟩ (xi [AV.list 7 (a0.Out.map S_Message.av), ss a0.Left, bb true, ss a0.Last.Start.Method, ss a0.Last.Start.Target, ii a0.Last.Start.Code, ss a0.Last.Start.Reason, ii a0.Last.Start.Minor, AV.list 2 (a0.Last.Fields.map S_Field.av), ss a0.Last.Body, ii a2.Kind, ii a0.Bad] (ai (fun _ => rfl) ?_))
      refine xi [(0, 1)] (xi 0 (ai ⟨(by kernel_rfl), rfl⟩ ?_))
      refine sn ?_
      replace h := oi h
      subst h
      refine xi [⟨6, AV.ptr 3 0, none⟩] (xi [.dead, .dead, .dead, .cells 39 [AV.list 7 (a0.Out.map S_Message.av), ss a0.Left, bb true, ss a0.Last.Start.Method, ss a0.Last.Start.Target, ii a0.Last.Start.Code, ss a0.Last.Start.Reason, ii a0.Last.Start.Minor, AV.list 2 (a0.Last.Fields.map S_Field.av), ss a0.Last.Body, ii a2.Kind, ii a0.Bad] [(0, 1)]] (ai rfl (ai (gt _ _ _ [0, 1] ?_ ?_ ?_ rfl rfl ?_) (ai ?_ (by kernel_rfl)))))
      ·exact ⟨trivial, ⟨trivial, ⟨trivial, ⟨⟨rfl, rfl, rfl⟩, trivial⟩⟩⟩⟩
      ·exact rfl
      ·exact rfl
      ·exact tr3 <| trivial
      ·refine ai ⟨lb rfl, lb rfl⟩ (xi (AV.agg [AV.list 7 (a0.Out.map S_Message.av), ss a0.Left, bb true, ss a0.Last.Start.Method, ss a0.Last.Start.Target, ii a0.Last.Start.Code, ss a0.Last.Start.Reason, ii a0.Last.Start.Minor, AV.list 2 (a0.Last.Fields.map S_Field.av), ss a0.Last.Body, ii a2.Kind, ii a0.Bad]) (ai rfl ?_))
       exact rfl
     ·refine sn <| sj <| sj <| sn ?_
      refine Br.mk (fun _ => ?_) (fun hf => absurd hf (by decide))
      refine sj <| ai ⟨lb rfl, lb rfl⟩ ?_
      refine xi none (ai rfl ?_)
      refine nt (AV.agg [ss a1.Start.Method, ss a1.Start.Target, ii a1.Start.Code, ss a1.Start.Reason, ii a1.Start.Minor, AV.list 2 (a1.Fields.map S_Field.av), ss a0.Left]) (fun _ => rfl) ?_
      refine ai ⟨rfl, rfl, rfl, lb rfl⟩ (xi [AV.list 7 (a0.Out.map S_Message.av), ss a0.Left, bb true, ss a1.Start.Method, ss a1.Start.Target, ii a1.Start.Code, ss a1.Start.Reason, ii a1.Start.Minor, AV.list 2 (a1.Fields.map S_Field.av), ss a0.Left, ii a2.Kind, ii a0.Bad] (ai (fun _ => rfl) ?_))
      refine sv (St.of [⟨3, AV.ptr 0 0, none⟩, ⟨6, AV.ptr 3 0, none⟩] [.cells 39 [AV.list 7 (a0.Out.map S_Message.av), ss a0.Left, bb true, ss a1.Start.Method, ss a1.Start.Target, ii a1.Start.Code, ss a1.Start.Reason, ii a1.Start.Minor, AV.list 2 (a1.Fields.map S_Field.av), ss a0.Left, ii a2.Kind, ii a0.Bad] [(0, 1)], .dead, .dead, .cells 39 [AV.list 7 (([] : List S_Message).map S_Message.av), ss [], bb false, ss [], ss [], ii 0, ss [], ii 0, AV.list 2 (([] : List S_Field).map S_Field.av), ss [], ii 0, ii 0] [(0, 2), (8, 3)]] [0, 1, 1, 1]) (gt _ _ _ [0, 1, 2, 3] (⟨⟨rfl, rfl, rfl⟩, ⟨trivial, ⟨trivial, ⟨⟨rfl, rfl, rfl⟩, trivial⟩⟩⟩⟩) rfl rfl rfl rfl (tr3 <| tr3 <| trivial)) ?_
      refine sj ?_
      refine ai ⟨rfl, rfl, rfl, lb rfl⟩ (xi [AV.list 7 (a0.Out.map S_Message.av), ss [], bb true, ss a1.Start.Method, ss a1.Start.Target, ii a1.Start.Code, ss a1.Start.Reason, ii a1.Start.Minor, AV.list 2 (a1.Fields.map S_Field.av), ss a0.Left, ii a2.Kind, ii a0.Bad] (ai (fun _ => rfl) ?_))
      refine sn <| sj <| ai ⟨lb rfl, lb rfl⟩ ?_
      refine xi (some 3) (ai (show aggT [(0, 1)] 0 12 = some 3 from by kernel_rfl) ?_)
      refine nt (AV.agg [AV.list 7 (a0.Out.map S_Message.av), ss [], bb true, ss a1.Start.Method, ss a1.Start.Target, ii a1.Start.Code, ss a1.Start.Reason, ii a1.Start.Minor, AV.list 2 (a1.Fields.map S_Field.av), ss a0.Left, ii a2.Kind, ii a0.Bad]) (fun _ => rfl) ?_
      refine ai ⟨rfl, rfl, rfl, lb rfl⟩ (xi [AV.list 7 (a0.Out.map S_Message.av), ss [], bb true, ss a1.Start.Method, ss a1.Start.Target, ii a1.Start.Code, ss a1.Start.Reason, ii a1.Start.Minor, AV.list 2 (a1.Fields.map S_Field.av), ss a0.Left, ii a2.Kind, ii a0.Bad] (ai (fun _ => rfl) ?_))
      refine xi [(0, 1)] (xi 0 (ai ⟨(by kernel_rfl), rfl⟩ ?_))
      refine sn ?_
      replace h := oi h
      subst h
      refine xi [⟨6, AV.ptr 3 0, none⟩] (xi [.dead, .dead, .dead, .cells 39 [AV.list 7 (a0.Out.map S_Message.av), ss [], bb true, ss a1.Start.Method, ss a1.Start.Target, ii a1.Start.Code, ss a1.Start.Reason, ii a1.Start.Minor, AV.list 2 (a1.Fields.map S_Field.av), ss a0.Left, ii a2.Kind, ii a0.Bad] [(0, 1)]] (ai rfl (ai (gt _ _ _ [0, 1] ?_ ?_ ?_ rfl rfl ?_) (ai ?_ (by kernel_rfl)))))
      ·exact ⟨trivial, ⟨trivial, ⟨trivial, ⟨⟨rfl, rfl, rfl⟩, trivial⟩⟩⟩⟩
      ·exact rfl
      ·exact rfl
      ·exact tr3 <| trivial
      ·refine ai ⟨lb rfl, lb rfl⟩ (xi (AV.agg [AV.list 7 (a0.Out.map S_Message.av), ss [], bb true, ss a1.Start.Method, ss a1.Start.Target, ii a1.Start.Code, ss a1.Start.Reason, ii a1.Start.Minor, AV.list 2 (a1.Fields.map S_Field.av), ss a0.Left, ii a2.Kind, ii a0.Bad]) (ai rfl ?_))
       exact rfl
   ·refine sn <| sj <| sj <| sn ?_
    refine bo h (fun ht h => ?_) fun ht h => ?_
    ·refine sj <| ai ⟨lb rfl, lb rfl⟩ ?_
     refine xi (some 3) (ai (show aggT [(0, 1)] 0 12 = some 3 from by kernel_rfl) ?_)
     refine nt (AV.agg [AV.list 7 (a0.Out.map S_Message.av), ss a0.Left, bb a0.In, ss a0.Last.Start.Method, ss a0.Last.Start.Target, ii a0.Last.Start.Code, ss a0.Last.Start.Reason, ii a0.Last.Start.Minor, AV.list 2 (a0.Last.Fields.map S_Field.av), ss a0.Last.Body, ii a2.Kind, ii a0.Bad]) (fun _ => rfl) ?_
     refine ai ⟨rfl, rfl, rfl, lb rfl⟩ (xi [AV.list 7 (a0.Out.map S_Message.av), ss a0.Left, bb a0.In, ss a0.Last.Start.Method, ss a0.Last.Start.Target, ii a0.Last.Start.Code, ss a0.Last.Start.Reason, ii a0.Last.Start.Minor, AV.list 2 (a0.Last.Fields.map S_Field.av), ss a0.Last.Body, ii a2.Kind, ii a0.Bad] (ai (fun _ => rfl) ?_))
     refine xi [(0, 1)] (xi 0 (ai ⟨(by kernel_rfl), rfl⟩ ?_))
     refine sn ?_
     replace h := oi h
     subst h
     refine xi [⟨6, AV.ptr 3 0, none⟩] (xi [.dead, .dead, .dead, .cells 39 [AV.list 7 (a0.Out.map S_Message.av), ss a0.Left, bb a0.In, ss a0.Last.Start.Method, ss a0.Last.Start.Target, ii a0.Last.Start.Code, ss a0.Last.Start.Reason, ii a0.Last.Start.Minor, AV.list 2 (a0.Last.Fields.map S_Field.av), ss a0.Last.Body, ii a2.Kind, ii a0.Bad] [(0, 1)]] (ai rfl (ai (gt _ _ _ [0, 1] ?_ ?_ ?_ rfl rfl ?_) (ai ?_ (by kernel_rfl)))))
     ·exact ⟨trivial, ⟨trivial, ⟨trivial, ⟨⟨rfl, rfl, rfl⟩, trivial⟩⟩⟩⟩
     ·exact rfl
     ·exact rfl
     ·exact tr3 <| trivial
     ·refine ai ⟨lb rfl, lb rfl⟩ (xi (AV.agg [AV.list 7 (a0.Out.map S_Message.av), ss a0.Left, bb a0.In, ss a0.Last.Start.Method, ss a0.Last.Start.Target, ii a0.Last.Start.Code, ss a0.Last.Start.Reason, ii a0.Last.Start.Minor, AV.list 2 (a0.Last.Fields.map S_Field.av), ss a0.Last.Body, ii a2.Kind, ii a0.Bad]) (ai rfl ?_))
      exact rfl
    ·refine sn <| sj <| sj <| sn ?_
     refine bo h (fun ht h => ?_) fun ht h => ?_
     ·refine sj <| ai ⟨lb rfl, lb rfl⟩ ?_
      refine xi none (ai rfl ?_)
      refine nt (S_Message.av a1) (fun _ => rfl) ?_
      refine ai ⟨rfl, rfl, rfl, lb rfl⟩ (xi [AV.list 7 (a0.Out.map S_Message.av), ss a0.Left, bb a0.In, ss a1.Start.Method, ss a1.Start.Target, ii a1.Start.Code, ss a1.Start.Reason, ii a1.Start.Minor, AV.list 2 (a1.Fields.map S_Field.av), ss a1.Body, ii a2.Kind, ii a0.Bad] (ai (fun _ => rfl) ?_))
      refine sn <| sj ?_
      refine ai ⟨rfl, rfl, rfl, lb rfl⟩ (xi [AV.list 7 (a0.Out.map S_Message.av), ss [], bb a0.In, ss a1.Start.Method, ss a1.Start.Target, ii a1.Start.Code, ss a1.Start.Reason, ii a1.Start.Minor, AV.list 2 (a1.Fields.map S_Field.av), ss a1.Body, ii a2.Kind, ii a0.Bad] (ai (fun _ => rfl) ?_))
      refine sn <| sj <| ai ⟨lb rfl, lb rfl⟩ ?_
      refine xi (some 3) (ai (show aggT [(0, 1)] 0 12 = some 3 from by kernel_rfl) ?_)
      refine nt (AV.agg [AV.list 7 (a0.Out.map S_Message.av), ss [], bb a0.In, ss a1.Start.Method, ss a1.Start.Target, ii a1.Start.Code, ss a1.Start.Reason, ii a1.Start.Minor, AV.list 2 (a1.Fields.map S_Field.av), ss a1.Body, ii a2.Kind, ii a0.Bad]) (fun _ => rfl) ?_
      refine ai ⟨rfl, rfl, rfl, lb rfl⟩ (xi [AV.list 7 (a0.Out.map S_Message.av), ss [], bb a0.In, ss a1.Start.Method, ss a1.Start.Target, ii a1.Start.Code, ss a1.Start.Reason, ii a1.Start.Minor, AV.list 2 (a1.Fields.map S_Field.av), ss a1.Body, ii a2.Kind, ii a0.Bad] (ai (fun _ => rfl) ?_))
      refine xi [(0, 1)] (xi 0 (ai ⟨(by kernel_rfl), rfl⟩ ?_))
      refine sn ?_
      replace h := oi h
      subst h
      refine xi [⟨6, AV.ptr 3 0, none⟩] (xi [.dead, .dead, .dead, .cells 39 [AV.list 7 (a0.Out.map S_Message.av), ss [], bb a0.In, ss a1.Start.Method, ss a1.Start.Target, ii a1.Start.Code, ss a1.Start.Reason, ii a1.Start.Minor, AV.list 2 (a1.Fields.map S_Field.av), ss a1.Body, ii a2.Kind, ii a0.Bad] [(0, 1)]] (ai rfl (ai (gt _ _ _ [0, 1] ?_ ?_ ?_ rfl rfl ?_) (ai ?_ (by kernel_rfl)))))
      ·exact ⟨trivial, ⟨trivial, ⟨trivial, ⟨⟨rfl, rfl, rfl⟩, trivial⟩⟩⟩⟩
      ·exact rfl
      ·exact rfl
      ·exact tr3 <| trivial
      ·refine ai ⟨lb rfl, lb rfl⟩ (xi (AV.agg [AV.list 7 (a0.Out.map S_Message.av), ss [], bb a0.In, ss a1.Start.Method, ss a1.Start.Target, ii a1.Start.Code, ss a1.Start.Reason, ii a1.Start.Minor, AV.list 2 (a1.Fields.map S_Field.av), ss a1.Body, ii a2.Kind, ii a0.Bad]) (ai rfl ?_))
       exact rfl
     ·refine sn <| sj <| ai ⟨lb rfl, lb rfl⟩ ?_
      refine xi none (ai rfl ?_)
      refine nt (S_Message.av a1) (fun _ => rfl) <| ai ⟨rfl, rfl, rfl, rfl⟩ <| ai ⟨rfl, rfl, rfl⟩ <| nt (AV.list 7 (([a1] : List S_Message).map S_Message.av)) (fun _ => rfl) <| be h fun x7 hx7 h => ?_
      have qx7 := (app_some hx7).1
      have hx7e := (app_some hx7).2
      refine ai ⟨rfl, rfl, rfl⟩ <| ai rfl <| ai (app_cond S_Message.av qx7) <| nt (AV.list 7 (x7.map S_Message.av)) (fun _ => (app_list 7 S_Message.av _ _).trans (congrArg (fun y => AV.list 7 (List.map S_Message.av y)) hx7e.symm)) ?_
      refine ai ⟨rfl, rfl, rfl, lb rfl⟩ (xi [AV.list 7 (x7.map S_Message.av), ss a0.Left, bb a0.In, ss a0.Last.Start.Method, ss a0.Last.Start.Target, ii a0.Last.Start.Code, ss a0.Last.Start.Reason, ii a0.Last.Start.Minor, AV.list 2 (a0.Last.Fields.map S_Field.av), ss a0.Last.Body, ii a2.Kind, ii a0.Bad] (ai (fun _ => rfl) ?_))
      refine sn <| sj <| be h fun x8 hx8 h => ?_
      have qx8 := (slc_some hx8).1
      have hx8e := (slc_some hx8).2
      refine ai (fun _ => qx8) <| nt (ss x8) (fun _ => congrArg ss hx8e.symm) ?_
      refine ai ⟨rfl, rfl, rfl, lb rfl⟩ (xi [AV.list 7 (x7.map S_Message.av), ss x8, bb a0.In, ss a0.Last.Start.Method, ss a0.Last.Start.Target, ii a0.Last.Start.Code, ss a0.Last.Start.Reason, ii a0.Last.Start.Minor, AV.list 2 (a0.Last.Fields.map S_Field.av), ss a0.Last.Body, ii a2.Kind, ii a0.Bad] (ai (fun _ => rfl) ?_))
      refine sv (St.of [⟨3, AV.ptr 0 0, none⟩, ⟨6, AV.ptr 3 0, none⟩] [.cells 39 [AV.list 7 (x7.map S_Message.av), ss x8, bb a0.In, ss a0.Last.Start.Method, ss a0.Last.Start.Target, ii a0.Last.Start.Code, ss a0.Last.Start.Reason, ii a0.Last.Start.Minor, AV.list 2 (a0.Last.Fields.map S_Field.av), ss a0.Last.Body, ii a2.Kind, ii a0.Bad] [(0, 1)], .dead, .dead, .cells 39 [AV.list 7 (([] : List S_Message).map S_Message.av), ss [], bb false, ss [], ss [], ii 0, ss [], ii 0, AV.list 2 (([] : List S_Field).map S_Field.av), ss [], ii 0, ii 0] [(0, 2), (8, 3)]] [0, 1, 1, 1]) (gt _ _ _ [0, 5, 2, 3] (⟨⟨rfl, rfl, rfl⟩, ⟨trivial, ⟨trivial, ⟨⟨rfl, rfl, rfl⟩, trivial⟩⟩⟩⟩) rfl rfl rfl rfl (tr3 <| tr3 <| trivial)) ?_
      refine sj <| ai ⟨lb rfl, lb rfl⟩ ?_
      refine xi (some 3) (ai (show aggT [(0, 1)] 0 12 = some 3 from by kernel_rfl) ?_)
      refine nt (AV.agg [AV.list 7 (x7.map S_Message.av), ss x8, bb a0.In, ss a0.Last.Start.Method, ss a0.Last.Start.Target, ii a0.Last.Start.Code, ss a0.Last.Start.Reason, ii a0.Last.Start.Minor, AV.list 2 (a0.Last.Fields.map S_Field.av), ss a0.Last.Body, ii a2.Kind, ii a0.Bad]) (fun _ => rfl) ?_
      refine ai ⟨rfl, rfl, rfl, lb rfl⟩ (xi [AV.list 7 (x7.map S_Message.av), ss x8, bb a0.In, ss a0.Last.Start.Method, ss a0.Last.Start.Target, ii a0.Last.Start.Code, ss a0.Last.Start.Reason, ii a0.Last.Start.Minor, AV.list 2 (a0.Last.Fields.map S_Field.av), ss a0.Last.Body, ii a2.Kind, ii a0.Bad] (ai (fun _ => rfl) ?_))
      refine xi [(0, 1)] (xi 0 (ai ⟨(by kernel_rfl), rfl⟩ ?_))
      refine sn ?_
      replace h := oi h
      subst h
      refine xi [⟨6, AV.ptr 3 0, none⟩] (xi [.dead, .dead, .dead, .cells 39 [AV.list 7 (x7.map S_Message.av), ss x8, bb a0.In, ss a0.Last.Start.Method, ss a0.Last.Start.Target, ii a0.Last.Start.Code, ss a0.Last.Start.Reason, ii a0.Last.Start.Minor, AV.list 2 (a0.Last.Fields.map S_Field.av), ss a0.Last.Body, ii a2.Kind, ii a0.Bad] [(0, 1)]] (ai rfl (ai (gt _ _ _ [0, 1] ?_ ?_ ?_ rfl rfl ?_) (ai ?_ (by kernel_rfl)))))
      ·exact ⟨trivial, ⟨trivial, ⟨trivial, ⟨⟨rfl, rfl, rfl⟩, trivial⟩⟩⟩⟩
      ·exact rfl
      ·exact rfl
      ·exact tr3 <| trivial
      ·refine ai ⟨lb rfl, lb rfl⟩ (xi (AV.agg [AV.list 7 (x7.map S_Message.av), ss x8, bb a0.In, ss a0.Last.Start.Method, ss a0.Last.Start.Target, ii a0.Last.Start.Code, ss a0.Last.Start.Reason, ii a0.Last.Start.Minor, AV.list 2 (a0.Last.Fields.map S_Field.av), ss a0.Last.Body, ii a2.Kind, ii a0.Bad]) (ai rfl ?_))
       exact rfl
instance intarsiaref10_All_ok (E : Pm.Env) [LaidM E] (a0 : Bool) (a1 : Bytes) (a2 : Bytes) : Ok E (intarsiaref10_All a0 a1 a2) (fun r => FnR E Tryz.prog 6 [bb a0, ss a1, ss a2] (S_intarsiaref10_T.av r) false) := ⟨fun r h => by
 refine FnR.of_ev (T := T) (rows := []) tOk mixed Tryz.func6 rfl (by kernel_rfl) (by kernel_rfl) rfl fun hwf => ?_
 unfold intarsiaref10_All at h
 refine sj <| ai rfl <| sn <| sj <| ai ⟨rfl, rfl, lb rfl⟩ ?_
 refine xi (some 74958198140788019201) (ai (okM.mk (show (74958198140788019201 : Nat) = freeM T _ _ _ from by kernel_rfl)) ?_)
 refine ai rfl ?_
 refine ai ⟨rfl, rfl, rfl, lb rfl⟩ (xi [AV.list 7 (([] : List S_Message).map S_Message.av), ss a2, bb false, ss [], ss [], ii 0, ss [], ii 0, AV.list 2 (([] : List S_Field).map S_Field.av), ss [], ii 0, ii 0] (ai (fun _ => rfl) ?_))
 refine xi [(0, 4), (8, 5)] (xi 2 (ai ⟨(by kernel_rfl), rfl⟩ ?_))
 refine sn <| sj ?_
 refine LoopE.img (fun x : S_intarsiaref10_T => St.of [⟨0, bb a0, none⟩, ⟨1, ss a1, none⟩, ⟨6, AV.ptr 0 0, none⟩, ⟨7, AV.ptr 1 0, none⟩] [.cells 39 [AV.list 7 (([] : List S_Message).map S_Message.av), ss [], bb false, ss [], ss [], ii 0, ss [], ii 0, AV.list 2 (([] : List S_Field).map S_Field.av), ss [], ii 0, ii 0] [(0, 0), (8, 1)], .cells 39 [AV.list 7 (x.Out.map S_Message.av), ss x.Left, bb x.In, ss x.Last.Start.Method, ss x.Last.Start.Target, ii x.Last.Start.Code, ss x.Last.Start.Reason, ii x.Last.Start.Minor, AV.list 2 (x.Last.Fields.map S_Field.av), ss x.Last.Body, ii x.Kind, ii x.Bad] [(0, 2)]] [1, 1, 1]) (intarsiaref10_All_b1 a0 a1) (S_intarsiaref10_T.mk ([] : List S_Message) a2 false (S_Message.mk (S_Start.mk ([] : Bytes) ([] : Bytes) (0 : Int) ([] : Bytes) (0 : Int)) ([] : List S_Field) ([] : Bytes)) (0 : Int) (0 : Int)) h ?_ ?_
 ·exact gt _ _ _ [0, 1, 4] (⟨⟨rfl, rfl, rfl⟩, ⟨⟨rfl, rfl, rfl⟩, trivial⟩⟩) rfl rfl rfl rfl (tr3 <| tr3 <| tr3 <| tr3 <| trivial)
 intro n1 x y1 h hl1 hr1
 revert h; revert x; intro s1 h
 unfold intarsiaref10_All_b1 at h
 refine sj <| sj <| ai id <| ai id <| ai (fun hg => (and_r hg)) <| sn ?_
 refine bo h (fun ht h => ?_) fun ht h => ?_
 ·refine sn <| sj <| sj <| sn ?_
  refine bo h (fun ht h => ?_) fun ht h => ?_
  ·refine be h fun x2 hx2 h => cd _ false rfl ((intarsiaref10_skip_ok E s1.Left).1 x2 hx2) ?_
   refine ai ⟨rfl, rfl, rfl, lb rfl⟩ (xi [AV.list 7 (s1.Out.map S_Message.av), ss x2, bb s1.In, ss s1.Last.Start.Method, ss s1.Last.Start.Target, ii s1.Last.Start.Code, ss s1.Last.Start.Reason, ii s1.Last.Start.Minor, AV.list 2 (s1.Last.Fields.map S_Field.av), ss s1.Last.Body, ii s1.Kind, ii s1.Bad] (ai (fun _ => rfl) ?_))
   refine sn <| sj <| be h fun x3 hx3 h => cd _ false rfl ((intarsiaref07_End_ok E x2).1 x3 hx3) ?_
   refine sv (St.of [⟨0, bb a0, none⟩, ⟨1, ss a1, none⟩, ⟨6, AV.ptr 0 0, none⟩, ⟨7, AV.ptr 1 0, none⟩, ⟨8, ii x3.1, none⟩, ⟨9, ii x3.2, none⟩] [.cells 39 [AV.list 7 (([] : List S_Message).map S_Message.av), ss [], bb false, ss [], ss [], ii 0, ss [], ii 0, AV.list 2 (([] : List S_Field).map S_Field.av), ss [], ii 0, ii 0] [(0, 0), (8, 1)], .cells 39 [AV.list 7 (s1.Out.map S_Message.av), ss x2, bb s1.In, ss s1.Last.Start.Method, ss s1.Last.Start.Target, ii s1.Last.Start.Code, ss s1.Last.Start.Reason, ii s1.Last.Start.Minor, AV.list 2 (s1.Last.Fields.map S_Field.av), ss s1.Last.Body, ii s1.Kind, ii s1.Bad] [(0, 2)]] [1, 1, 1]) (gt _ _ _ [0, 1, 2] (⟨⟨rfl, rfl, rfl⟩, ⟨⟨rfl, rfl, rfl⟩, trivial⟩⟩) rfl rfl rfl rfl (tr3 <| tr3 <| tr3 <| tr3 <| tr3 <| tr3 <| trivial)) ?_
   refine sj <| sj <| sn ?_
   refine bo h (fun ht h => ?_) fun ht h => ?_
   ·refine sj <| ai ⟨lb rfl, lb rfl⟩ ?_
    refine xi (some 4) (ai (show aggT [(0, 2)] 0 12 = some 4 from by kernel_rfl) ?_)
    refine nt (AV.agg [AV.list 7 (s1.Out.map S_Message.av), ss x2, bb s1.In, ss s1.Last.Start.Method, ss s1.Last.Start.Target, ii s1.Last.Start.Code, ss s1.Last.Start.Reason, ii s1.Last.Start.Minor, AV.list 2 (s1.Last.Fields.map S_Field.av), ss s1.Last.Body, ii s1.Kind, ii s1.Bad]) (fun _ => rfl) ?_
    refine ai ⟨rfl, rfl, rfl, lb rfl⟩ (xi [AV.list 7 (s1.Out.map S_Message.av), ss x2, bb s1.In, ss s1.Last.Start.Method, ss s1.Last.Start.Target, ii s1.Last.Start.Code, ss s1.Last.Start.Reason, ii s1.Last.Start.Minor, AV.list 2 (s1.Last.Fields.map S_Field.av), ss s1.Last.Body, ii s1.Kind, ii s1.Bad] (ai (fun _ => rfl) ?_))
    refine xi [(0, 2)] (xi 0 (ai ⟨(by kernel_rfl), rfl⟩ ?_))
    exact W
   ·refine sn <| sj <| sj <| sn ?_
    refine bo h (fun ht h => ?_) fun ht h => ?_
    ·refine sj ?_
     refine ai ⟨rfl, rfl, rfl, lb rfl⟩ (xi [AV.list 7 (s1.Out.map S_Message.av), ss x2, bb s1.In, ss s1.Last.Start.Method, ss s1.Last.Start.Target, ii s1.Last.Start.Code, ss s1.Last.Start.Reason, ii s1.Last.Start.Minor, AV.list 2 (s1.Last.Fields.map S_Field.av), ss s1.Last.Body, ii s1.Kind, ii x3.2] (ai (fun _ => rfl) ?_))
     refine sn <| sj <| ai ⟨lb rfl, lb rfl⟩ ?_
     refine xi (some 4) (ai (show aggT [(0, 2)] 0 12 = some 4 from by kernel_rfl) ?_)
     refine nt (AV.agg [AV.list 7 (s1.Out.map S_Message.av), ss x2, bb s1.In, ss s1.Last.Start.Method, ss s1.Last.Start.Target, ii s1.Last.Start.Code, ss s1.Last.Start.Reason, ii s1.Last.Start.Minor, AV.list 2 (s1.Last.Fields.map S_Field.av), ss s1.Last.Body, ii s1.Kind, ii x3.2]) (fun _ => rfl) ?_
     refine ai ⟨rfl, rfl, rfl, lb rfl⟩ (xi [AV.list 7 (s1.Out.map S_Message.av), ss x2, bb s1.In, ss s1.Last.Start.Method, ss s1.Last.Start.Target, ii s1.Last.Start.Code, ss s1.Last.Start.Reason, ii s1.Last.Start.Minor, AV.list 2 (s1.Last.Fields.map S_Field.av), ss s1.Last.Body, ii s1.Kind, ii x3.2] (ai (fun _ => rfl) ?_))
     refine xi [(0, 2)] (xi 0 (ai ⟨(by kernel_rfl), rfl⟩ ?_))
     exact W
    ·refine sn <| sj <| be h fun x4 hx4 h => ?_
     have qx4 := (slc_some hx4).1
     have hx4e := (slc_some hx4).2
     refine ai (fun _ => qx4) <| nt (ss x4) (fun _ => congrArg ss hx4e.symm) <| be h fun x5 hx5 h => cd _ false rfl ((intarsiaref10_head_ok E a0 a1 x4).1 x5 hx5) <| ai rfl <| ai rfl ?_
     refine ai ⟨rfl, rfl, rfl, lb rfl⟩ (xi (S_Message.cells x5.1) (ai (fun _ => rfl) ?_))
     refine ai ⟨rfl, rfl, rfl, lb rfl⟩ (xi (S_Body.cells x5.2.1) (ai (fun _ => rfl) ?_))
     refine sv (St.of [⟨0, bb a0, none⟩, ⟨1, ss a1, none⟩, ⟨6, AV.ptr 0 0, none⟩, ⟨7, AV.ptr 1 0, none⟩, ⟨8, ii x3.1, none⟩, ⟨10, AV.ptr 2 0, none⟩, ⟨11, AV.ptr 3 0, none⟩, ⟨12, ii x5.2.2, none⟩] [.cells 39 [AV.list 7 (([] : List S_Message).map S_Message.av), ss [], bb false, ss [], ss [], ii 0, ss [], ii 0, AV.list 2 (([] : List S_Field).map S_Field.av), ss [], ii 0, ii 0] [(0, 0), (8, 1)], .cells 39 [AV.list 7 (s1.Out.map S_Message.av), ss x2, bb s1.In, ss s1.Last.Start.Method, ss s1.Last.Start.Target, ii s1.Last.Start.Code, ss s1.Last.Start.Reason, ii s1.Last.Start.Minor, AV.list 2 (s1.Last.Fields.map S_Field.av), ss s1.Last.Body, ii s1.Kind, ii s1.Bad] [(0, 2)], .cells 26 (S_Message.cells x5.1) [], .cells 28 (S_Body.cells x5.2.1) []] [1, 1, 1]) (gt _ _ _ [0, 1, 2] (⟨⟨rfl, rfl, rfl⟩, ⟨⟨rfl, rfl, rfl⟩, ⟨⟨rfl, rfl, rfl⟩, ⟨⟨rfl, rfl, rfl⟩, trivial⟩⟩⟩⟩) rfl rfl rfl rfl (tr3 <| tr3 <| tr3 <| tr3 <| tr3 <| tr3 <| tr3 <| tr3 <| trivial)) ?_
     refine sj <| be h fun x6 hx6 h => ?_
     have qx6 := (slc_some hx6).1
     have hx6e := (slc_some hx6).2
     refine ai (fun _ => qx6) <| nt (ss x6) (fun _ => congrArg ss hx6e.symm) ?_
     refine ai ⟨rfl, rfl, rfl, lb rfl⟩ (xi [AV.list 7 (s1.Out.map S_Message.av), ss x6, bb s1.In, ss s1.Last.Start.Method, ss s1.Last.Start.Target, ii s1.Last.Start.Code, ss s1.Last.Start.Reason, ii s1.Last.Start.Minor, AV.list 2 (s1.Last.Fields.map S_Field.av), ss s1.Last.Body, ii s1.Kind, ii s1.Bad] (ai (fun _ => rfl) ?_))
     refine sn <| sj ?_
     refine ai ⟨rfl, rfl, rfl, lb rfl⟩ (xi [AV.list 7 (s1.Out.map S_Message.av), ss x6, bb s1.In, ss s1.Last.Start.Method, ss s1.Last.Start.Target, ii s1.Last.Start.Code, ss s1.Last.Start.Reason, ii s1.Last.Start.Minor, AV.list 2 (s1.Last.Fields.map S_Field.av), ss s1.Last.Body, ii s1.Kind, ii x5.2.2] (ai (fun _ => rfl) ?_))
     refine sn <| sj <| ai id <| ai id <| ai id <| ai id <| ai id <| ai id <| ai (fun hg => (and_r hg)) ?_
     refine sv (St.of [⟨0, bb a0, none⟩, ⟨1, ss a1, none⟩, ⟨6, AV.ptr 0 0, none⟩, ⟨7, AV.ptr 1 0, none⟩, ⟨10, AV.ptr 2 0, none⟩, ⟨11, AV.ptr 3 0, none⟩, ⟨70, bb (bif (x5.2.2 == (0 : Int)) then (bif a0 then true else (decide (x5.1.Start.Code ≥ (200 : Int)))) else false), none⟩] [.cells 39 [AV.list 7 (([] : List S_Message).map S_Message.av), ss [], bb false, ss [], ss [], ii 0, ss [], ii 0, AV.list 2 (([] : List S_Field).map S_Field.av), ss [], ii 0, ii 0] [(0, 0), (8, 1)], .cells 39 [AV.list 7 (s1.Out.map S_Message.av), ss x6, bb s1.In, ss s1.Last.Start.Method, ss s1.Last.Start.Target, ii s1.Last.Start.Code, ss s1.Last.Start.Reason, ii s1.Last.Start.Minor, AV.list 2 (s1.Last.Fields.map S_Field.av), ss s1.Last.Body, ii s1.Kind, ii x5.2.2] [(0, 2)], .cells 26 (S_Message.cells x5.1) [], .cells 28 (S_Body.cells x5.2.1) []] [1, 1, 1]) (gt _ _ _ [0, 1, 2] (⟨⟨rfl, rfl, rfl⟩, ⟨⟨rfl, rfl, rfl⟩, ⟨⟨rfl, rfl, rfl⟩, ⟨⟨rfl, rfl, rfl⟩, trivial⟩⟩⟩⟩) rfl rfl rfl rfl (tr3 <| tr3 <| tr3 <| tr3 <| tr3 <| tr3 <| tr3 <| trivial)) ?_
     refine bo h (fun ht h => ?_) fun ht h => ?_
     ·refine ai ⟨lb rfl, lb rfl⟩ ?_
      refine xi (some 4) (ai (show aggT [(0, 2)] 0 12 = some 4 from by kernel_rfl) ?_)
      refine nt (AV.agg [AV.list 7 (s1.Out.map S_Message.av), ss x6, bb s1.In, ss s1.Last.Start.Method, ss s1.Last.Start.Target, ii s1.Last.Start.Code, ss s1.Last.Start.Reason, ii s1.Last.Start.Minor, AV.list 2 (s1.Last.Fields.map S_Field.av), ss s1.Last.Body, ii s1.Kind, ii x5.2.2]) (fun _ => rfl) <| ai ⟨lb rfl, lb rfl⟩ ?_
      refine xi none (ai rfl ?_)
      refine nt (S_Message.av x5.1) (fun _ => rfl) <| ai ⟨lb rfl, lb rfl⟩ ?_
      refine xi none (ai rfl ?_)
      refine nt (S_Body.av x5.2.1) (fun _ => rfl) <| be h fun x7 hx7 h => CallH.renT [] [2] [.cells 39 [AV.list 7 (([] : List S_Message).map S_Message.av), ss [], bb false, ss [], ss [], ii 0, ss [], ii 0, AV.list 2 (([] : List S_Field).map S_Field.av), ss [], ii 0, ii 0] [(0, 0), (8, 1)], .cells 39 [AV.list 7 (s1.Out.map S_Message.av), ss x6, bb s1.In, ss s1.Last.Start.Method, ss s1.Last.Start.Target, ii s1.Last.Start.Code, ss s1.Last.Start.Reason, ii s1.Last.Start.Minor, AV.list 2 (s1.Last.Fields.map S_Field.av), ss s1.Last.Body, ii s1.Kind, ii x5.2.2] [(0, 2)], .cells 26 (S_Message.cells x5.1) [], .cells 28 (S_Body.cells x5.2.1) []] [1, 1, 0, 1] (some 5) (intarsiaref10_body_ok E (S_intarsiaref10_T.mk s1.Out x6 s1.In s1.Last s1.Kind x5.2.2) x5.1 x5.2.1 x7 hx7) rfl rfl rfl rfl rfl rfl (by kernel_rfl) rfl rfl rfl rfl rfl (by kernel_rfl) ?_
      refine ai ⟨rfl, rfl, rfl, lb rfl⟩ (xi [AV.list 7 (x7.Out.map S_Message.av), ss x7.Left, bb x7.In, ss x7.Last.Start.Method, ss x7.Last.Start.Target, ii x7.Last.Start.Code, ss x7.Last.Start.Reason, ii x7.Last.Start.Minor, AV.list 2 (x7.Last.Fields.map S_Field.av), ss x7.Last.Body, ii x7.Kind, ii x7.Bad] (ai (fun _ => rfl) ?_))
      refine xi [(0, 3)] (xi 0 (ai ⟨(by kernel_rfl), rfl⟩ ?_))
      replace h := oi h
      refine xi ⟨(n1, x7), hl1 _ h.symm⟩ (ai (Nat.lt_succ_self _) ?_)
      refine gt _ _ _ [0, 1, 3] ?_ ?_ ?_ rfl rfl ?_
      ·exact ⟨⟨rfl, rfl, rfl⟩, ⟨⟨rfl, rfl, rfl⟩, trivial⟩⟩
      ·exact rfl
      ·exact rfl
      ·exact tr3 <| tr3 <| tr3 <| tr3 <| trivial
     ·replace h := oi h
      refine xi ⟨(n1, (S_intarsiaref10_T.mk s1.Out x6 s1.In s1.Last s1.Kind x5.2.2)), hl1 _ h.symm⟩ (ai (Nat.lt_succ_self _) ?_)
      refine gt _ _ _ [0, 1, 2] ?_ ?_ ?_ rfl rfl ?_
      ·exact ⟨⟨rfl, rfl, rfl⟩, ⟨⟨rfl, rfl, rfl⟩, trivial⟩⟩
      ·exact rfl
      ·exact rfl
      ·exact tr3 <| tr3 <| tr3 <| tr3 <| trivial
  ·refine sn <| sj <| be h fun x8 hx8 h => cd _ false rfl ((intarsiaref07_End_ok E s1.Left).1 x8 hx8) ?_
   refine sv (St.of [⟨0, bb a0, none⟩, ⟨1, ss a1, none⟩, ⟨6, AV.ptr 0 0, none⟩, ⟨7, AV.ptr 1 0, none⟩, ⟨8, ii x8.1, none⟩, ⟨9, ii x8.2, none⟩] [.cells 39 [AV.list 7 (([] : List S_Message).map S_Message.av), ss [], bb false, ss [], ss [], ii 0, ss [], ii 0, AV.list 2 (([] : List S_Field).map S_Field.av), ss [], ii 0, ii 0] [(0, 0), (8, 1)], .cells 39 [AV.list 7 (s1.Out.map S_Message.av), ss s1.Left, bb s1.In, ss s1.Last.Start.Method, ss s1.Last.Start.Target, ii s1.Last.Start.Code, ss s1.Last.Start.Reason, ii s1.Last.Start.Minor, AV.list 2 (s1.Last.Fields.map S_Field.av), ss s1.Last.Body, ii s1.Kind, ii s1.Bad] [(0, 2)]] [1, 1, 1]) (gt _ _ _ [0, 1, 2] (⟨⟨rfl, rfl, rfl⟩, ⟨⟨rfl, rfl, rfl⟩, trivial⟩⟩) rfl rfl rfl rfl (tr3 <| tr3 <| tr3 <| tr3 <| tr3 <| tr3 <| trivial)) ?_
   refine sj <| sj <| sn ?_
   refine bo h (fun ht h => ?_) fun ht h => ?_
   ·refine sj <| ai ⟨lb rfl, lb rfl⟩ ?_
    refine xi (some 4) (ai (show aggT [(0, 2)] 0 12 = some 4 from by kernel_rfl) ?_)
    refine nt (AV.agg [AV.list 7 (s1.Out.map S_Message.av), ss s1.Left, bb s1.In, ss s1.Last.Start.Method, ss s1.Last.Start.Target, ii s1.Last.Start.Code, ss s1.Last.Start.Reason, ii s1.Last.Start.Minor, AV.list 2 (s1.Last.Fields.map S_Field.av), ss s1.Last.Body, ii s1.Kind, ii s1.Bad]) (fun _ => rfl) ?_
    refine ai ⟨rfl, rfl, rfl, lb rfl⟩ (xi [AV.list 7 (s1.Out.map S_Message.av), ss s1.Left, bb s1.In, ss s1.Last.Start.Method, ss s1.Last.Start.Target, ii s1.Last.Start.Code, ss s1.Last.Start.Reason, ii s1.Last.Start.Minor, AV.list 2 (s1.Last.Fields.map S_Field.av), ss s1.Last.Body, ii s1.Kind, ii s1.Bad] (ai (fun _ => rfl) ?_))
    refine xi [(0, 2)] (xi 0 (ai ⟨(by kernel_rfl), rfl⟩ ?_))
    exact W
   ·refine sn <| sj <| sj <| sn ?_
    refine bo h (fun ht h => ?_) fun ht h => ?_
    ·refine sj ?_
     refine ai ⟨rfl, rfl, rfl, lb rfl⟩ (xi [AV.list 7 (s1.Out.map S_Message.av), ss s1.Left, bb s1.In, ss s1.Last.Start.Method, ss s1.Last.Start.Target, ii s1.Last.Start.Code, ss s1.Last.Start.Reason, ii s1.Last.Start.Minor, AV.list 2 (s1.Last.Fields.map S_Field.av), ss s1.Last.Body, ii s1.Kind, ii x8.2] (ai (fun _ => rfl) ?_))
     refine sn <| sj <| ai ⟨lb rfl, lb rfl⟩ ?_
     refine xi (some 4) (ai (show aggT [(0, 2)] 0 12 = some 4 from by kernel_rfl) ?_)
     refine nt (AV.agg [AV.list 7 (s1.Out.map S_Message.av), ss s1.Left, bb s1.In, ss s1.Last.Start.Method, ss s1.Last.Start.Target, ii s1.Last.Start.Code, ss s1.Last.Start.Reason, ii s1.Last.Start.Minor, AV.list 2 (s1.Last.Fields.map S_Field.av), ss s1.Last.Body, ii s1.Kind, ii x8.2]) (fun _ => rfl) ?_
     refine ai ⟨rfl, rfl, rfl, lb rfl⟩ (xi [AV.list 7 (s1.Out.map S_Message.av), ss s1.Left, bb s1.In, ss s1.Last.Start.Method, ss s1.Last.Start.Target, ii s1.Last.Start.Code, ss s1.Last.Start.Reason, ii s1.Last.Start.Minor, AV.list 2 (s1.Last.Fields.map S_Field.av), ss s1.Last.Body, ii s1.Kind, ii x8.2] (ai (fun _ => rfl) ?_))
     refine xi [(0, 2)] (xi 0 (ai ⟨(by kernel_rfl), rfl⟩ ?_))
     exact W
    ·refine sn <| sj <| be h fun x9 hx9 h => ?_
     have qx9 := (slc_some hx9).1
     have hx9e := (slc_some hx9).2
     refine ai (fun _ => qx9) <| nt (ss x9) (fun _ => congrArg ss hx9e.symm) <| be h fun x10 hx10 h => cd _ false rfl ((intarsiaref10_head_ok E a0 a1 x9).1 x10 hx10) <| ai rfl <| ai rfl ?_
     refine ai ⟨rfl, rfl, rfl, lb rfl⟩ (xi (S_Message.cells x10.1) (ai (fun _ => rfl) ?_))
     refine ai ⟨rfl, rfl, rfl, lb rfl⟩ (xi (S_Body.cells x10.2.1) (ai (fun _ => rfl) ?_))
     refine sv (St.of [⟨0, bb a0, none⟩, ⟨1, ss a1, none⟩, ⟨6, AV.ptr 0 0, none⟩, ⟨7, AV.ptr 1 0, none⟩, ⟨8, ii x8.1, none⟩, ⟨10, AV.ptr 2 0, none⟩, ⟨11, AV.ptr 3 0, none⟩, ⟨12, ii x10.2.2, none⟩] [.cells 39 [AV.list 7 (([] : List S_Message).map S_Message.av), ss [], bb false, ss [], ss [], ii 0, ss [], ii 0, AV.list 2 (([] : List S_Field).map S_Field.av), ss [], ii 0, ii 0] [(0, 0), (8, 1)], .cells 39 [AV.list 7 (s1.Out.map S_Message.av), ss s1.Left, bb s1.In, ss s1.Last.Start.Method, ss s1.Last.Start.Target, ii s1.Last.Start.Code, ss s1.Last.Start.Reason, ii s1.Last.Start.Minor, AV.list 2 (s1.Last.Fields.map S_Field.av), ss s1.Last.Body, ii s1.Kind, ii s1.Bad] [(0, 2)], .cells 26 (S_Message.cells x10.1) [], .cells 28 (S_Body.cells x10.2.1) []] [1, 1, 1]) (gt _ _ _ [0, 1, 2] (⟨⟨rfl, rfl, rfl⟩, ⟨⟨rfl, rfl, rfl⟩, ⟨⟨rfl, rfl, rfl⟩, ⟨⟨rfl, rfl, rfl⟩, trivial⟩⟩⟩⟩) rfl rfl rfl rfl (tr3 <| tr3 <| tr3 <| tr3 <| tr3 <| tr3 <| tr3 <| tr3 <| trivial)) ?_
     refine sj <| be h fun x11 hx11 h => ?_
     have qx11 := (slc_some hx11).1
     have hx11e := (slc_some hx11).2
     refine ai (fun _ => qx11) <| nt (ss x11) (fun _ => congrArg ss hx11e.symm) ?_
     refine ai ⟨rfl, rfl, rfl, lb rfl⟩ (xi [AV.list 7 (s1.Out.map S_Message.av), ss x11, bb s1.In, ss s1.Last.Start.Method, ss s1.Last.Start.Target, ii s1.Last.Start.Code, ss s1.Last.Start.Reason, ii s1.Last.Start.Minor, AV.list 2 (s1.Last.Fields.map S_Field.av), ss s1.Last.Body, ii s1.Kind, ii s1.Bad] (ai (fun _ => rfl) ?_))
     refine sn <| sj ?_
     refine ai ⟨rfl, rfl, rfl, lb rfl⟩ (xi [AV.list 7 (s1.Out.map S_Message.av), ss x11, bb s1.In, ss s1.Last.Start.Method, ss s1.Last.Start.Target, ii s1.Last.Start.Code, ss s1.Last.Start.Reason, ii s1.Last.Start.Minor, AV.list 2 (s1.Last.Fields.map S_Field.av), ss s1.Last.Body, ii s1.Kind, ii x10.2.2] (ai (fun _ => rfl) ?_))
     refine sn <| sj <| ai id <| ai id <| ai id <| ai id <| ai id <| ai id <| ai (fun hg => (and_r hg)) ?_
     refine sv (St.of [⟨0, bb a0, none⟩, ⟨1, ss a1, none⟩, ⟨6, AV.ptr 0 0, none⟩, ⟨7, AV.ptr 1 0, none⟩, ⟨10, AV.ptr 2 0, none⟩, ⟨11, AV.ptr 3 0, none⟩, ⟨70, bb (bif (x10.2.2 == (0 : Int)) then (bif a0 then true else (decide (x10.1.Start.Code ≥ (200 : Int)))) else false), none⟩] [.cells 39 [AV.list 7 (([] : List S_Message).map S_Message.av), ss [], bb false, ss [], ss [], ii 0, ss [], ii 0, AV.list 2 (([] : List S_Field).map S_Field.av), ss [], ii 0, ii 0] [(0, 0), (8, 1)], .cells 39 [AV.list 7 (s1.Out.map S_Message.av), ss x11, bb s1.In, ss s1.Last.Start.Method, ss s1.Last.Start.Target, ii s1.Last.Start.Code, ss s1.Last.Start.Reason, ii s1.Last.Start.Minor, AV.list 2 (s1.Last.Fields.map S_Field.av), ss s1.Last.Body, ii s1.Kind, ii x10.2.2] [(0, 2)], .cells 26 (S_Message.cells x10.1) [], .cells 28 (S_Body.cells x10.2.1) []] [1, 1, 1]) (gt _ _ _ [0, 1, 2] (⟨⟨rfl, rfl, rfl⟩, ⟨⟨rfl, rfl, rfl⟩, ⟨⟨rfl, rfl, rfl⟩, ⟨⟨rfl, rfl, rfl⟩, trivial⟩⟩⟩⟩) rfl rfl rfl rfl (tr3 <| tr3 <| tr3 <| tr3 <| tr3 <| tr3 <| tr3 <| trivial)) ?_
     refine bo h (fun ht h => ?_) fun ht h => ?_
     ·refine ai ⟨lb rfl, lb rfl⟩ ?_
      refine xi (some 4) (ai (show aggT [(0, 2)] 0 12 = some 4 from by kernel_rfl) ?_)
      refine nt (AV.agg [AV.list 7 (s1.Out.map S_Message.av), ss x11, bb s1.In, ss s1.Last.Start.Method, ss s1.Last.Start.Target, ii s1.Last.Start.Code, ss s1.Last.Start.Reason, ii s1.Last.Start.Minor, AV.list 2 (s1.Last.Fields.map S_Field.av), ss s1.Last.Body, ii s1.Kind, ii x10.2.2]) (fun _ => rfl) <| ai ⟨lb rfl, lb rfl⟩ ?_
      refine xi none (ai rfl ?_)
      refine nt (S_Message.av x10.1) (fun _ => rfl) <| ai ⟨lb rfl, lb rfl⟩ ?_
      refine xi none (ai rfl ?_)
      refine nt (S_Body.av x10.2.1) (fun _ => rfl) <| be h fun x12 hx12 h => CallH.renT [] [2] [.cells 39 [AV.list 7 (([] : List S_Message).map S_Message.av), ss [], bb false, ss [], ss [], ii 0, ss [], ii 0, AV.list 2 (([] : List S_Field).map S_Field.av), ss [], ii 0, ii 0] [(0, 0), (8, 1)], .cells 39 [AV.list 7 (s1.Out.map S_Message.av), ss x11, bb s1.In, ss s1.Last.Start.Method, ss s1.Last.Start.Target, ii s1.Last.Start.Code, ss s1.Last.Start.Reason, ii s1.Last.Start.Minor, AV.list 2 (s1.Last.Fields.map S_Field.av), ss s1.Last.Body, ii s1.Kind, ii x10.2.2] [(0, 2)], .cells 26 (S_Message.cells x10.1) [], .cells 28 (S_Body.cells x10.2.1) []] [1, 1, 0, 1] (some 5) (intarsiaref10_body_ok E (S_intarsiaref10_T.mk s1.Out x11 s1.In s1.Last s1.Kind x10.2.2) x10.1 x10.2.1 x12 hx12) rfl rfl rfl rfl rfl rfl (by kernel_rfl) rfl rfl rfl rfl rfl (by kernel_rfl) ?_
      refine ai ⟨rfl, rfl, rfl, lb rfl⟩ (xi [AV.list 7 (x12.Out.map S_Message.av), ss x12.Left, bb x12.In, ss x12.Last.Start.Method, ss x12.Last.Start.Target, ii x12.Last.Start.Code, ss x12.Last.Start.Reason, ii x12.Last.Start.Minor, AV.list 2 (x12.Last.Fields.map S_Field.av), ss x12.Last.Body, ii x12.Kind, ii x12.Bad] (ai (fun _ => rfl) ?_))
      refine xi [(0, 3)] (xi 0 (ai ⟨(by kernel_rfl), rfl⟩ ?_))
      replace h := oi h
      refine xi ⟨(n1, x12), hl1 _ h.symm⟩ (ai (Nat.lt_succ_self _) ?_)
      refine gt _ _ _ [0, 1, 3] ?_ ?_ ?_ rfl rfl ?_
      ·exact ⟨⟨rfl, rfl, rfl⟩, ⟨⟨rfl, rfl, rfl⟩, trivial⟩⟩
      ·exact rfl
      ·exact rfl
      ·exact tr3 <| tr3 <| tr3 <| tr3 <| trivial
     ·replace h := oi h
      refine xi ⟨(n1, (S_intarsiaref10_T.mk s1.Out x11 s1.In s1.Last s1.Kind x10.2.2)), hl1 _ h.symm⟩ (ai (Nat.lt_succ_self _) ?_)
      refine gt _ _ _ [0, 1, 2] ?_ ?_ ?_ rfl rfl ?_
      ·exact ⟨⟨rfl, rfl, rfl⟩, ⟨⟨rfl, rfl, rfl⟩, trivial⟩⟩
      ·exact rfl
      ·exact rfl
      ·exact tr3 <| tr3 <| tr3 <| tr3 <| trivial
 ·refine sn <| sj <| ai ⟨lb rfl, lb rfl⟩ ?_
  refine xi (some 4) (ai (show aggT [(0, 2)] 0 12 = some 4 from by kernel_rfl) ?_)
  refine nt (AV.agg [AV.list 7 (s1.Out.map S_Message.av), ss s1.Left, bb s1.In, ss s1.Last.Start.Method, ss s1.Last.Start.Target, ii s1.Last.Start.Code, ss s1.Last.Start.Reason, ii s1.Last.Start.Minor, AV.list 2 (s1.Last.Fields.map S_Field.av), ss s1.Last.Body, ii s1.Kind, ii s1.Bad]) (fun _ => rfl) ?_
  refine ai ⟨rfl, rfl, rfl, lb rfl⟩ (xi [AV.list 7 (s1.Out.map S_Message.av), ss s1.Left, bb s1.In, ss s1.Last.Start.Method, ss s1.Last.Start.Target, ii s1.Last.Start.Code, ss s1.Last.Start.Reason, ii s1.Last.Start.Minor, AV.list 2 (s1.Last.Fields.map S_Field.av), ss s1.Last.Body, ii s1.Kind, ii s1.Bad] (ai (fun _ => rfl) ?_))
  refine xi [(0, 2)] (xi 0 (ai ⟨(by kernel_rfl), rfl⟩ ?_))
  exact W⟩
instance intarsiaref04_Like_ok (E : Pm.Env) [LaidM E] (a0 : (List S_Field)) (a1 : (List S_Field)) : Ok E (intarsiaref04_Like a0 a1) (fun r => FnR E Tryz.prog 22 [AV.list 2 (a0.map S_Field.av), AV.list 2 (a1.map S_Field.av)] (bb r) false) := ⟨fun r h => by
 refine FnR.of_ev (T := T) (rows := []) tOk mixed Tryz.func22 rfl (by kernel_rfl) (by kernel_rfl) rfl fun hwf => ?_
 unfold intarsiaref04_Like at h
 refine sj <| sn <| sj <| sj <| nt (ii (a0.length : Int)) (fun _ => len_list S_Field.av a0) <| nt (ii (a1.length : Int)) (fun _ => len_list S_Field.av a1) <| sn ?_
 refine bo h (fun ht h => ?_) fun ht h => ?_
 ·exact W
 ·refine sn <| sj <| sj <| nt (ii (a0.length : Int)) (fun _ => len_list S_Field.av a0) <| sn ?_
  refine LoopE.img (fun x : Int => St.of [⟨0, AV.list 2 (a0.map S_Field.av), none⟩, ⟨1, AV.list 2 (a1.map S_Field.av), none⟩, ⟨12, ii (a0.length : Int), none⟩, ⟨13, ii x, none⟩] [] []) (intarsiaref04_Like_b1 a0 a1) (0 : Int) h ?_ ?_
  ·exact W
  intro n1 x y1 h hl1 hr1
  revert h; revert x; intro s1 h
  unfold intarsiaref04_Like_b1 at h
  exact W⟩
instance intarsiaref10_Like_ok (E : Pm.Env) [LaidM E] (a0 : S_Message) (a1 : S_Message) : Ok E (intarsiaref10_Like a0 a1) (fun r => FnR E Tryz.prog 12 [S_Message.av a0, S_Message.av a1] (bb r) false) := ⟨fun r h => by
 refine FnR.of_ev (T := T) (rows := []) tOk mixed Tryz.func12 rfl (by kernel_rfl) (by kernel_rfl) rfl fun hwf => ?_
 unfold intarsiaref10_Like at h
 exact W⟩
instance intarsiaref10_Same_ok (E : Pm.Env) [LaidM E] (a0 : (List S_Message)) (a1 : (List S_Message)) : Ok E (intarsiaref10_Same a0 a1) (fun r => FnR E Tryz.prog 7 [AV.list 7 (a0.map S_Message.av), AV.list 7 (a1.map S_Message.av)] (bb r) false) := ⟨fun r h => by
 refine FnR.of_ev (T := T) (rows := []) tOk mixed Tryz.func7 rfl (by kernel_rfl) (by kernel_rfl) rfl fun hwf => ?_
 unfold intarsiaref10_Same at h
 refine sj <| sn <| sj <| sj <| nt (ii (a0.length : Int)) (fun _ => len_list S_Message.av a0) <| nt (ii (a1.length : Int)) (fun _ => len_list S_Message.av a1) <| sn ?_
 refine bo h (fun ht h => ?_) fun ht h => ?_
 ·exact W
 ·refine sn <| sj <| sj <| nt (ii (a0.length : Int)) (fun _ => len_list S_Message.av a0) <| sn ?_
  refine LoopE.img (fun x : Int => St.of [⟨0, AV.list 7 (a0.map S_Message.av), none⟩, ⟨1, AV.list 7 (a1.map S_Message.av), none⟩, ⟨12, ii (a0.length : Int), none⟩, ⟨13, ii x, none⟩] [] []) (intarsiaref10_Same_b1 a0 a1) (0 : Int) h ?_ ?_
  ·exact W
  intro n1 x y1 h hl1 hr1
  revert h; revert x; intro s1 h
  unfold intarsiaref10_Same_b1 at h
  exact W⟩
theorem intarsialaw10_alive_ok (E : Pm.Env) [LaidM E] (r : Bool) (h : intarsialaw10_alive = some r) : FnR E Tryz.prog 9 [] (bb r) false := by
 refine FnR.of_ev (T := T) (rows := []) tOk mixed Tryz.func9 rfl (by kernel_rfl) (by kernel_rfl) rfl fun hwf => ?_
 unfold intarsialaw10_alive at h
 exact W
instance intarsialaw10_alive_ok_i (E : Pm.Env) [LaidM E] : Ok E intarsialaw10_alive (fun r => FnR E Tryz.prog 9 [] (bb r) false) := ⟨intarsialaw10_alive_ok E⟩
instance wire_Close_ok (E : Pm.Env) [LaidM E] (a0 : S_Reader) : Ok E (wire_Close a0) (fun r => FnR E Tryz.prog 10 [S_Reader.av a0] (AV.tup [AV.list 7 (r.1.map S_Message.av), ii r.2]) false) := ⟨fun r h => by
 refine FnR.of_ev (T := T) (rows := []) tOk mixed Tryz.func10 rfl (by kernel_rfl) (by kernel_rfl) rfl fun hwf => ?_
 unfold wire_Close at h
 exact W⟩
instance intarsiaref10_LikeReader_ok (E : Pm.Env) [LaidM E] (a0 : S_Reader) (a1 : S_Reader) : Ok E (intarsiaref10_LikeReader a0 a1) (fun r => FnR E Tryz.prog 11 [S_Reader.av a0, S_Reader.av a1] (bb r) false) := ⟨fun r h => by
 refine FnR.of_ev (T := T) (rows := []) tOk mixed Tryz.func11 rfl (by kernel_rfl) (by kernel_rfl) rfl fun hwf => ?_
 unfold intarsiaref10_LikeReader at h
 exact W⟩
theorem intarsialaw10_WireReads_ok (E : Pm.Env) [LaidM E] (a0 : Bool) (a1 : Bytes) (a2 : Bytes) (r : Bool) (h : intarsialaw10_WireReads a0 a1 a2 = some r) : FnR E Tryz.prog 3 [bb a0, ss a1, ss a2] (bb r) false := by
 refine FnR.of_ev (T := T) (rows := []) tOk mixed Tryz.func3 rfl (by kernel_rfl) (by kernel_rfl) rfl fun hwf => ?_
 unfold intarsialaw10_WireReads at h
 refine sj <| sn <| sj <| Or.inl <| NormE.same <| ai rfl <| be h fun x1 hx1 h => ?_
 have qx1 := (slc_some hx1).1
 have hx1e := (slc_some hx1).2
 refine ai (fun _ => qx1) <| nt (ss x1) (fun _ => congrArg ss hx1e.symm) <| NormE.same <| ai rfl <| be h fun x2 hx2 h => ?_
 have qx2 := (slc_some hx2).1
 have hx2e := (slc_some hx2).2
 refine ai (fun _ => qx2) <| nt (ss x2) (fun _ => congrArg ss hx2e.symm) <| ai (by kernel_rfl) <| sn <| sj <| be h fun x3 hx3 h => cd _ false rfl ((wire_New_ok E a0 x1).1 x3 hx3) <| be h fun x4 hx4 h => cd _ false rfl ((wire_Feed_ok E x3 x2).1 x4 hx4) <| ai rfl ?_
 refine ai ⟨rfl, rfl, rfl, lb rfl⟩ (xi (S_Reader.cells x4.1) (ai (fun _ => rfl) ?_))
 refine sn <| sj <| be h fun x5 hx5 h => cd _ false rfl ((intarsiaref10_All_ok E a0 x1 x2).1 x5 hx5) <| ai rfl ?_
 refine ai ⟨rfl, rfl, rfl, lb rfl⟩ (xi (S_intarsiaref10_T.cells x5) (ai (fun _ => rfl) ?_))
 refine sn <| sj <| sj <| ai id <| be h fun x6 hx6 h => ai id <| ai id <| ai rfl ?_
 refine CallF.mk _ false (fun hg => (intarsiaref10_Same_ok E x4.2.1 x5.Out).1 x6 (gcall_some hx6 hg)) (ai rfl ?_)
 refine ai id <| ai (fun hg => (and_r hg)) <| ai id <| ai id <| ai id <| ai id <| ai (fun hg => (and_r hg)) <| ai id <| ai id <| ai id <| ai rfl <| ai (fun hg => (and_r hg)) <| ai id <| ai id <| ai id <| ai (fun hg => (and_r hg)) <| ai ⟨lb rfl, lb rfl⟩ ?_
 refine xi none (ai rfl ?_)
 refine nt (S_Reader.av x4.1) (fun _ => rfl) <| be h fun x7 hx7 h => ai id <| ai rfl ?_
 refine CallF.mk _ false (fun hg => (wire_Right_ok E x4.1).1 x7 (gcall_some hx7 hg)) (ai rfl ?_)
 refine ai id <| ai (fun hg => (and_r hg)) <| be h fun x8 hx8 h => ai rfl ?_
 refine CallF.mk _ false (fun hg => intarsialaw10_alive_ok E  x8 (gcall_some hx8 hg)) (ai rfl ?_)
 refine ai id <| ai (fun hg => (and_r hg)) <| sn ?_
 refine bo h (fun ht h => ?_) fun ht h => ?_
 ·exact W
 ·refine sn <| sj <| ai ⟨lb rfl, lb rfl⟩ ?_
  refine xi none (ai rfl ?_)
  refine nt (S_Reader.av x4.1) (fun _ => rfl) <| be h fun x9 hx9 h => cd _ false rfl ((wire_Close_ok E x4.1).1 x9 hx9) <| sn <| sj <| sj <| sn ?_
  refine bo h (fun ht h => ?_) fun ht h => ?_
  ·refine sj <| ai ⟨lb rfl, lb rfl⟩ ?_
   refine xi none (ai rfl ?_)
   refine nt (S_Reader.av x4.1) (fun _ => rfl) <| ai ⟨rfl, rfl, lb rfl⟩ <| ai ⟨rfl, rfl, lb rfl⟩ <| ai ⟨rfl, rfl, lb rfl⟩ ?_
   refine xi (some 80485752395443136602965282816) (ai (okM.mk (show (80485752395443136602965282816 : Nat) = freeM T _ _ _ from by kernel_rfl)) ?_)
   exact W
  ·refine sn <| sj <| sj <| ai id <| ai id <| ai id <| ai id <| ai rfl <| ai (fun hg => (and_r hg)) <| ai id <| ai ⟨lb rfl, lb rfl⟩ ?_
   refine xi none (ai rfl ?_)
   refine nt (S_Message.av x4.1.Head) (fun _ => rfl) <| ai id <| ai ⟨lb rfl, lb rfl⟩ ?_
   refine xi none (ai rfl ?_)
   refine nt (S_Message.av x5.Last) (fun _ => rfl) <| be h fun x11 hx11 h => ai id <| ai id <| ai rfl ?_
   refine CallF.mk _ false (fun hg => (intarsiaref10_Like_ok E x4.1.Head x5.Last).1 x11 (gcall_some hx11 hg)) (ai rfl ?_)
   refine ai id <| ai (fun hg => (and_r hg)) <| sn ?_
   refine bo h (fun ht h => ?_) fun ht h => ?_
   ·exact W
   ·refine sn <| sj <| sj <| ai id <| ai id <| ai (fun hg => (and_r hg)) <| sn ?_
    refine bo h (fun ht h => ?_) fun ht h => ?_
    ·refine sj <| ai id <| ai ⟨lb rfl, lb rfl⟩ ?_
     refine xi none (ai rfl ?_)
     refine nt (S_Message.av x5.Last) (fun _ => rfl) ?_
     refine and_of h (fun ht h => ?_) fun ht h => ?_
     ·refine ai (fun _ => id ht) <| ai ⟨rfl, rfl, rfl, rfl⟩ <| ai ⟨rfl, rfl, rfl⟩ <| nt (AV.list 7 (([x5.Last] : List S_Message).map S_Message.av)) (fun _ => rfl) <| be h fun x12 hx12 h => ai id <| ai rfl ?_
      refine CallF.mk _ false (fun hg => (intarsiaref10_Same_ok E x9.1 ([x5.Last] : List S_Message)).1 x12 (gcall_some hx12 hg)) (ai rfl ?_)
      refine ai (fun hg => (and_r hg)) <| sn ?_
      cases h; exact rp (ai rfl (ai rfl rfl))
     ·exact W
    ·exact W
instance intarsialaw10_WireReads_ok_i (E : Pm.Env) [LaidM E] (a0 : Bool) (a1 : Bytes) (a2 : Bytes) : Ok E (intarsialaw10_WireReads a0 a1 a2) (fun r => FnR E Tryz.prog 3 [bb a0, ss a1, ss a2] (bb r) false) := ⟨intarsialaw10_WireReads_ok E a0 a1 a2⟩
end Go.Proofs.YtdnjgojkpfbimaaGreatDoor
