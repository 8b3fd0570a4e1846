/-
  The functions do what their images say: walks, written by a program of mine (gen.py).
-/
import Derived.Test.YtdnjgojkpfbimaaGreatDoorIw1
import Derived.Test.YtdnjgojkpfbimaaGreatDoorWk11
import Derived.Test.YtdnjgojkpfbimaaGreatDoorPm31
namespace Go.Proofs.YtdnjgojkpfbimaaGreatDoor
open Go Go.Pm
set_option linter.unusedSimpArgs false
open Go.Pm.RetE renaming plain -> rp
open Go.Pm.CallH renaming data -> cd
open Go.Pm.SeqN renaming via -> sv
open Go.Pm.Gho renaming to -> gt
open Go.Pm.Br renaming of -> bo
open Go.Pm.NormE renaming to -> nt
open Go.Pm renaming bind_elim -> be
open And renaming intro -> ai
open Exists renaming intro -> xi
open Option.some renaming inj -> oi
open _root_.Nat renaming le_of_ble_eq_true -> lb
open Go.Pm.SeqJ renaming go -> sj
open Go.Pm.SeqN renaming go -> sn
set_option maxRecDepth 100000
set_option maxHeartbeats 4000000
set_option linter.unusedVariables false
instance wire_Feed_ok (E : Pm.Env) [LaidM E] (a0 : S_Reader) (a1 : Bytes) : Ok E (wire_Feed a0 a1) (fun r => FnR E Tryz.prog 4 [S_Reader.av a0, ss a1] (AV.tup [S_Reader.av r.1, AV.list 7 (r.2.1.map S_Message.av), ii r.2.2]) false) := ⟨fun r h => by
 refine FnR.of_ev (T := T) (rows := []) tOk mixed Tryz.func4 rfl (by kernel_rfl) (by kernel_rfl) rfl fun hwf => ?_
 unfold wire_Feed at h
 refine sj <| ai rfl ?_
 refine xi [] (xi 0 (ai ⟨rfl, rfl⟩ ?_))
 refine ai rfl <| sn <| sj <| sj <| ai ⟨lb rfl, lb rfl⟩ ?_
 refine xi none (ai rfl ?_)
 refine nt (S_Reader.av a0) (fun _ => rfl) <| be h fun x1 hx1 h => cd _ false rfl ((wire_Right_ok E a0).1 x1 hx1) <| sn ?_
 refine bo h (fun ht h => ?_) fun ht h => ?_
 ·refine sj ?_
  refine xi (some 5151088153308360742589778104385) (ai (okM.mk (show (5151088153308360742589778104385 : Nat) = freeM T _ _ _ from by kernel_rfl)) ?_)
  refine ai ⟨rfl, rfl, rfl, lb rfl⟩ (xi [bb false, ss [], ss [], bb false, ss [], ss [], ii 0, ss [], ii 0, AV.list 2 (([] : List S_Field).map S_Field.av), ss [], ii 0, ii 0, ii 0, ss [], ii 0, ii 0, ii 0] (ai (fun _ => rfl) ?_))
  refine xi [(9, 2)] (xi 1 (ai ⟨(by kernel_rfl), rfl⟩ ?_))
  exact W
 ·refine sn <| sj <| sj <| sn ?_
  refine bo h (fun ht h => ?_) fun ht h => ?_
  ·exact W
  ·refine sn <| sj <| ai ⟨lb rfl, lb rfl⟩ ?_
   refine xi none (ai rfl ?_)
   refine nt (S_Reader.av a0) (fun _ => rfl) <| ai ⟨rfl, rfl, lb rfl⟩ ?_
   refine xi (some 324518553658426726783156020576256) (ai (okM.mk (show (324518553658426726783156020576256 : Nat) = freeM T _ _ _ from by kernel_rfl)) ?_)
   refine ai rfl ?_
   refine xi [(18, 2)] (xi 1 (ai ⟨(by kernel_rfl), rfl⟩ ?_))
   refine sn <| sj <| be h fun x2 hx2 h => ?_
   have hx2c := (cat_some hx2).1
   have hx2e := (cat_some hx2).2
   refine ai (fun _ => hx2c) <| nt (ss x2) (fun _ => congrArg ss hx2e.symm) ?_
   refine ai ⟨rfl, rfl, rfl, lb rfl⟩ (xi [bb a0.Asks, ss a0.Method, ss x2, bb a0.In, ss a0.Head.Start.Method, ss a0.Head.Start.Target, ii a0.Head.Start.Code, ss a0.Head.Start.Reason, ii a0.Head.Start.Minor, AV.list 2 (a0.Head.Fields.map S_Field.av), ss a0.Head.Body, ii a0.Body.Kind, ii a0.Body.Size, ii a0.Chunk.Stage, ss a0.Chunk.Line, ii a0.Chunk.Left, ii a0.Chunk.Size, ii a0.Bad, AV.list 7 (([] : List S_Message).map S_Message.av)] (ai (fun _ => rfl) ?_))
   refine sv (St.of [⟨4, AV.ptr 1 0, none⟩, ⟨7, AV.ptr 2 0, none⟩] [.dead, .cells 33 [bb false, ss [], ss [], bb false, ss [], ss [], ii 0, ss [], ii 0, AV.list 2 (([] : List S_Field).map S_Field.av), ss [], ii 0, ii 0, ii 0, ss [], ii 0, ii 0, ii 0] [(9, 0)], .cells 51 [bb a0.Asks, ss a0.Method, ss x2, bb a0.In, ss a0.Head.Start.Method, ss a0.Head.Start.Target, ii a0.Head.Start.Code, ss a0.Head.Start.Reason, ii a0.Head.Start.Minor, AV.list 2 (a0.Head.Fields.map S_Field.av), ss a0.Head.Body, ii a0.Body.Kind, ii a0.Body.Size, ii a0.Chunk.Stage, ss a0.Chunk.Line, ii a0.Chunk.Left, ii a0.Chunk.Size, ii a0.Bad, AV.list 7 (([] : List S_Message).map S_Message.av)] [(18, 1)]] [1, 1]) (gt _ _ _ [0, 2] (⟨trivial, ⟨⟨rfl, rfl, rfl⟩, ⟨⟨rfl, rfl, rfl⟩, trivial⟩⟩⟩) rfl rfl rfl rfl (tr3 <| tr3 <| trivial)) ?_
   refine LoopE.img (fun x : S_wire_reading => St.of [⟨4, AV.ptr 1 0, none⟩, ⟨7, AV.ptr 2 0, none⟩] [.dead, .cells 33 [bb false, ss [], ss [], bb false, ss [], ss [], ii 0, ss [], ii 0, AV.list 2 (([] : List S_Field).map S_Field.av), ss [], ii 0, ii 0, ii 0, ss [], ii 0, ii 0, ii 0] [(9, 0)], .cells 51 [bb x.Reader.Asks, ss x.Reader.Method, ss x.Reader.Buf, bb x.Reader.In, ss x.Reader.Head.Start.Method, ss x.Reader.Head.Start.Target, ii x.Reader.Head.Start.Code, ss x.Reader.Head.Start.Reason, ii x.Reader.Head.Start.Minor, AV.list 2 (x.Reader.Head.Fields.map S_Field.av), ss x.Reader.Head.Body, ii x.Reader.Body.Kind, ii x.Reader.Body.Size, ii x.Reader.Chunk.Stage, ss x.Reader.Chunk.Line, ii x.Reader.Chunk.Left, ii x.Reader.Chunk.Size, ii x.Reader.Bad, AV.list 7 (x.out.map S_Message.av)] [(18, 1)]] [1, 1]) wire_Feed_b1 (S_wire_reading.mk (S_Reader.mk a0.Asks a0.Method x2 a0.In a0.Head a0.Body a0.Chunk a0.Bad) ([] : List S_Message)) h ?_ ?_
   ·exact gt _ _ _ [0, 1] (⟨trivial, ⟨⟨rfl, rfl, rfl⟩, ⟨⟨rfl, rfl, rfl⟩, trivial⟩⟩⟩) rfl rfl rfl rfl (tr3 <| tr3 <| trivial)
   intro n1 x y1 h hl1 hr1
   revert h; revert x; intro s3 h
   unfold wire_Feed_b1 at h
   refine sj <| sn <| sj <| sj <| sn ?_
   refine bo h (fun ht h => ?_) fun ht h => ?_
   ·refine sn <| sj <| be h fun x4 hx4 h => CallH.ren [2] [1] [.dead, .cells 33 [bb false, ss [], ss [], bb false, ss [], ss [], ii 0, ss [], ii 0, AV.list 2 (([] : List S_Field).map S_Field.av), ss [], ii 0, ii 0, ii 0, ss [], ii 0, ii 0, ii 0] [(9, 0)], .cells 51 [bb x4.2.Reader.Asks, ss x4.2.Reader.Method, ss x4.2.Reader.Buf, bb x4.2.Reader.In, ss x4.2.Reader.Head.Start.Method, ss x4.2.Reader.Head.Start.Target, ii x4.2.Reader.Head.Start.Code, ss x4.2.Reader.Head.Start.Reason, ii x4.2.Reader.Head.Start.Minor, AV.list 2 (x4.2.Reader.Head.Fields.map S_Field.av), ss x4.2.Reader.Head.Body, ii x4.2.Reader.Body.Kind, ii x4.2.Reader.Body.Size, ii x4.2.Reader.Chunk.Stage, ss x4.2.Reader.Chunk.Line, ii x4.2.Reader.Chunk.Left, ii x4.2.Reader.Chunk.Size, ii x4.2.Reader.Bad, AV.list 7 (x4.2.out.map S_Message.av)] [(18, 2)]] [1, 0, 1] (wire_reading_more_ok E s3 x4.1 x4.2 hx4) rfl rfl rfl rfl rfl rfl rfl rfl rfl <| sn ?_
    refine bo h (fun ht h => ?_) fun ht h => ?_
    ·refine sj <| Or.inl <| ai ⟨lb rfl, lb rfl⟩ ?_
     refine xi (some 0) (ai (show aggT [(18, 2)] 0 18 = some 0 from by kernel_rfl) ?_)
     exact W
    ·replace h := oi h
     refine xi ⟨(n1, x4.2), hl1 _ h.symm⟩ (ai (Nat.lt_succ_self _) ?_)
     refine gt _ _ _ [0, 2] ?_ ?_ ?_ rfl rfl ?_
     ·exact ⟨trivial, ⟨⟨rfl, rfl, rfl⟩, ⟨⟨rfl, rfl, rfl⟩, trivial⟩⟩⟩
     ·exact rfl
     ·exact rfl
     ·exact tr3 <| tr3 <| trivial
   ·refine sn <| sj <| be h fun x5 hx5 h => CallH.ren [2] [1] [.dead, .cells 33 [bb false, ss [], ss [], bb false, ss [], ss [], ii 0, ss [], ii 0, AV.list 2 (([] : List S_Field).map S_Field.av), ss [], ii 0, ii 0, ii 0, ss [], ii 0, ii 0, ii 0] [(9, 0)], .cells 51 [bb x5.2.Reader.Asks, ss x5.2.Reader.Method, ss x5.2.Reader.Buf, bb x5.2.Reader.In, ss x5.2.Reader.Head.Start.Method, ss x5.2.Reader.Head.Start.Target, ii x5.2.Reader.Head.Start.Code, ss x5.2.Reader.Head.Start.Reason, ii x5.2.Reader.Head.Start.Minor, AV.list 2 (x5.2.Reader.Head.Fields.map S_Field.av), ss x5.2.Reader.Head.Body, ii x5.2.Reader.Body.Kind, ii x5.2.Reader.Body.Size, ii x5.2.Reader.Chunk.Stage, ss x5.2.Reader.Chunk.Line, ii x5.2.Reader.Chunk.Left, ii x5.2.Reader.Chunk.Size, ii x5.2.Reader.Bad, AV.list 7 (x5.2.out.map S_Message.av)] [(18, 2)]] [1, 0, 1] (wire_reading_begin_ok E s3 x5.1 x5.2 hx5) rfl rfl rfl rfl rfl rfl rfl rfl rfl <| sn ?_
    refine bo h (fun ht h => ?_) fun ht h => ?_
    ·refine sj <| Or.inl <| ai ⟨lb rfl, lb rfl⟩ ?_
     refine xi (some 0) (ai (show aggT [(18, 2)] 0 18 = some 0 from by kernel_rfl) ?_)
     exact W
    ·replace h := oi h
     refine xi ⟨(n1, x5.2), hl1 _ h.symm⟩ (ai (Nat.lt_succ_self _) ?_)
     refine gt _ _ _ [0, 2] ?_ ?_ ?_ rfl rfl ?_
     ·exact ⟨trivial, ⟨⟨rfl, rfl, rfl⟩, ⟨⟨rfl, rfl, rfl⟩, trivial⟩⟩⟩
     ·exact rfl
     ·exact rfl
     ·exact tr3 <| tr3 <| trivial⟩
instance intarsiaref10_skip_ok (E : Pm.Env) [LaidM E] (a0 : Bytes) : Ok E (intarsiaref10_skip a0) (fun r => FnR E Tryz.prog 15 [ss a0] (ss r) false) := ⟨fun r h => by
 refine FnR.of_ev (T := T) (rows := []) tOk mixed Tryz.func15 rfl (by kernel_rfl) (by kernel_rfl) rfl fun hwf => ?_
 unfold intarsiaref10_skip at h
 refine sj <| sn ?_
 refine LoopE.img (fun x : Bytes => St.of [⟨0, ss x, none⟩] [] []) intarsiaref10_skip_b1 a0 h ?_ ?_
 ·exact W
 intro n1 x y1 h hl1 hr1
 revert h; revert x; intro s1 h
 unfold intarsiaref10_skip_b1 at h
 exact W⟩
instance intarsiaref07_Find_ok (E : Pm.Env) [LaidM E] (a0 : Bytes) (a1 : Int) : Ok E (intarsiaref07_Find a0 a1) (fun r => FnR E Tryz.prog 34 [ss a0, AV.int .u8 a1] (ii r) false) := ⟨fun r h => by
 refine FnR.of_ev (T := T) (rows := []) tOk mixed Tryz.func34 rfl (by kernel_rfl) (by kernel_rfl) rfl fun hwf => ?_
 unfold intarsiaref07_Find at h
 refine sj <| sn <| sj <| sj <| sn ?_
 refine LoopE.img (fun x : Int => St.of [⟨0, ss a0, none⟩, ⟨1, AV.int .u8 a1, none⟩, ⟨5, ii x, none⟩] [] []) (intarsiaref07_Find_b1 a0 a1) (0 : Int) h ?_ ?_
 ·exact W
 intro n1 x y1 h hl1 hr1
 revert h; revert x; intro s1 h
 unfold intarsiaref07_Find_b1 at h
 exact W⟩
instance intarsiaref07_Bare_ok (E : Pm.Env) [LaidM E] (a0 : Bytes) : Ok E (intarsiaref07_Bare a0) (fun r => FnR E Tryz.prog 35 [ss a0] (ss r) false) := ⟨fun r h => by
 refine FnR.of_ev (T := T) (rows := []) tOk mixed Tryz.func35 rfl (by kernel_rfl) (by kernel_rfl) rfl fun hwf => ?_
 unfold intarsiaref07_Bare at h
 exact W⟩
instance intarsiaref07_End_ok (E : Pm.Env) [LaidM E] (a0 : Bytes) : Ok E (intarsiaref07_End a0) (fun r => FnR E Tryz.prog 16 [ss a0] (AV.tup [ii r.1, ii r.2]) false) := ⟨fun r h => by
 refine FnR.of_ev (T := T) (rows := []) tOk mixed Tryz.func16 rfl (by kernel_rfl) (by kernel_rfl) rfl fun hwf => ?_
 unfold intarsiaref07_End at h
 refine sj <| sn <| sj <| sn ?_
 refine LoopE.img (fun x : Int => St.of [⟨0, ss a0, none⟩, ⟨4, ii x, none⟩] [] []) (intarsiaref07_End_b1 a0) (0 : Int) h ?_ ?_
 ·exact W
 intro n1 x y1 h hl1 hr1
 revert h; revert x; intro s1 h
 unfold intarsiaref07_End_b1 at h
 exact W⟩
instance intarsiaref10_line_ok (E : Pm.Env) [LaidM E] (a0 : Bytes) : Ok E (intarsiaref10_line a0) (fun r => FnR E Tryz.prog 57 [ss a0] (AV.tup [ss r.1, ss r.2]) false) := ⟨fun r h => by
 refine FnR.of_ev (T := T) (rows := []) tOk mixed Tryz.func57 rfl (by kernel_rfl) (by kernel_rfl) rfl fun hwf => ?_
 unfold intarsiaref10_line at h
 exact W⟩
instance intarsiaref06_cut_ok (E : Pm.Env) [LaidM E] (a0 : Bytes) : Ok E (intarsiaref06_cut a0) (fun r => FnR E Tryz.prog 86 [ss a0] (AV.tup [ss r.1, ss r.2.1, bb r.2.2]) false) := ⟨fun r h => by
 refine FnR.of_ev (T := T) (rows := []) tOk mixed Tryz.func86 rfl (by kernel_rfl) (by kernel_rfl) rfl fun hwf => ?_
 unfold intarsiaref06_cut at h
 refine sj <| sn <| sj <| sj <| sn ?_
 refine LoopE.img (fun x : Int => St.of [⟨0, ss a0, none⟩, ⟨5, ii x, none⟩] [] []) (intarsiaref06_cut_b1 a0) (0 : Int) h ?_ ?_
 ·exact W
 intro n1 x y1 h hl1 hr1
 revert h; revert x; intro s1 h
 unfold intarsiaref06_cut_b1 at h
 exact W⟩
instance intarsiaref03_Control_ok (E : Pm.Env) [LaidM E] (a0 : Int) : Ok E (intarsiaref03_Control a0) (fun r => FnR E Tryz.prog 121 [AV.int .u8 a0] (bb r) false) := ⟨fun r h => by
 refine FnR.of_ev (T := T) (rows := []) tOk mixed Tryz.func121 rfl (by kernel_rfl) (by kernel_rfl) rfl fun hwf => ?_
 unfold intarsiaref03_Control at h
 exact W⟩
instance intarsiaref03_blank_ok (E : Pm.Env) [LaidM E] (a0 : Int) : Ok E (intarsiaref03_blank a0) (fun r => FnR E Tryz.prog 126 [AV.int .u8 a0] (bb r) false) := ⟨fun r h => by
 refine FnR.of_ev (T := T) (rows := []) tOk mixed Tryz.func126 rfl (by kernel_rfl) (by kernel_rfl) rfl fun hwf => ?_
 unfold intarsiaref03_blank at h
 exact W⟩
instance intarsiaref03_Trim_ok (E : Pm.Env) [LaidM E] (a0 : Bytes) : Ok E (intarsiaref03_Trim a0) (fun r => FnR E Tryz.prog 90 [ss a0] (ss r) false) := ⟨fun r h => by
 refine FnR.of_ev (T := T) (rows := []) tOk mixed Tryz.func90 rfl (by kernel_rfl) (by kernel_rfl) rfl fun hwf => ?_
 unfold intarsiaref03_Trim at h
 refine sj <| sn <| be h fun j1 hj1 h => ?_
 refine SeqJ.join (St.of [⟨0, ss j1, none⟩] [] []) ?_ ?_
 ·clear h; have h := hj1; clear hj1
  refine LoopE.img (fun x : Bytes => St.of [⟨0, ss x, none⟩] [] []) intarsiaref03_Trim_b1 a0 h ?_ ?_
  ·exact W
  intro n1 x y1 h hl1 hr1
  revert h; revert x; intro s2 h
  unfold intarsiaref03_Trim_b1 at h
  exact W
 ·clear hj1
  refine be h fun j6 hj6 h => ?_
  refine SeqJ.join (St.of [⟨0, ss j6, none⟩] [] []) ?_ ?_
  ·clear h; have h := hj6; clear hj6
   refine LoopE.img (fun x : Bytes => St.of [⟨0, ss x, none⟩] [] []) intarsiaref03_Trim_b2 j1 h ?_ ?_
   ·exact W
   intro n2 x y2 h hl2 hr2
   revert h; revert x; intro s7 h
   unfold intarsiaref03_Trim_b2 at h
   exact W
  ·clear hj6
   exact W⟩
instance intarsiaref05_find_ok (E : Pm.Env) [LaidM E] (a0 : Bytes) (a1 : Int) : Ok E (intarsiaref05_find a0 a1) (fun r => FnR E Tryz.prog 144 [ss a0, AV.int .u8 a1] (ii r) false) := ⟨fun r h => by
 refine FnR.of_ev (T := T) (rows := []) tOk mixed Tryz.func144 rfl (by kernel_rfl) (by kernel_rfl) rfl fun hwf => ?_
 unfold intarsiaref05_find at h
 refine sj <| sn <| sj <| sj <| sn ?_
 refine LoopE.img (fun x : Int => St.of [⟨0, ss a0, none⟩, ⟨1, AV.int .u8 a1, none⟩, ⟨5, ii x, none⟩] [] []) (intarsiaref05_find_b1 a0 a1) (0 : Int) h ?_ ?_
 ·exact W
 intro n1 x y1 h hl1 hr1
 revert h; revert x; intro s1 h
 unfold intarsiaref05_find_b1 at h
 exact W⟩
instance intarsiaref05_Bytes_ok (E : Pm.Env) [LaidM E] (a0 : Bytes) : Ok E (intarsiaref05_Bytes a0) (fun r => FnR E Tryz.prog 122 [ss a0] (bb r) false) := ⟨fun r h => by
 refine FnR.of_ev (T := T) (rows := []) tOk mixed Tryz.func122 rfl (by kernel_rfl) (by kernel_rfl) rfl fun hwf => ?_
 unfold intarsiaref05_Bytes at h
 refine sj <| sn <| sj <| sj <| sn ?_
 refine LoopE.img (fun x : Int => St.of [⟨0, ss a0, none⟩, ⟨3, ii x, none⟩] [] []) (intarsiaref05_Bytes_b1 a0) (0 : Int) h ?_ ?_
 ·exact W
 intro n1 x y1 h hl1 hr1
 revert h; revert x; intro s1 h
 unfold intarsiaref05_Bytes_b1 at h
 exact W⟩
instance intarsiaref03_word_ok (E : Pm.Env) [LaidM E] (a0 : Int) : Ok E (intarsiaref03_word a0) (fun r => FnR E Tryz.prog 145 [AV.int .u8 a0] (bb r) false) := ⟨fun r h => by
 refine FnR.of_ev (T := T) (rows := []) tOk mixed Tryz.func145 rfl (by kernel_rfl) (by kernel_rfl) rfl fun hwf => ?_
 unfold intarsiaref03_word at h
 refine sj <| sn <| sj <| sj <| ai id <| ai (fun hg => (and_r hg)) <| ai id <| ai id <| ai id <| ai id <| ai id <| ai (fun hg => (and_r hg)) <| ai id <| ai id <| ai id <| ai id <| ai id <| ai (fun hg => (and_r hg)) <| ai id <| ai (fun hg => (and_r hg)) <| sn ?_
 refine bo h (fun ht h => ?_) fun ht h => ?_
 ·exact W
 ·refine sn <| sj <| sn <| sj <| sj <| sn ?_
  refine LoopE.img (fun x : Int => St.of [⟨0, AV.int .u8 a0, none⟩, ⟨3, ss ([33, 35, 36, 37, 38, 39, 42, 43, 45, 46, 94, 95, 124, 126] : Bytes), none⟩, ⟨4, ii x, none⟩] [] []) (intarsiaref03_word_b1 a0) (0 : Int) h ?_ ?_
  ·exact W
  intro n1 x y1 h hl1 hr1
  revert h; revert x; intro s1 h
  unfold intarsiaref03_word_b1 at h
  exact W⟩
instance intarsiaref03_Token_ok (E : Pm.Env) [LaidM E] (a0 : Bytes) : Ok E (intarsiaref03_Token a0) (fun r => FnR E Tryz.prog 123 [ss a0] (bb r) false) := ⟨fun r h => by
 refine FnR.of_ev (T := T) (rows := []) tOk mixed Tryz.func123 rfl (by kernel_rfl) (by kernel_rfl) rfl fun hwf => ?_
 unfold intarsiaref03_Token at h
 refine sj <| sn <| sj <| sj <| sn ?_
 refine LoopE.img (fun x : Int => St.of [⟨0, ss a0, none⟩, ⟨3, ii x, none⟩] [] []) (intarsiaref03_Token_b1 a0) (0 : Int) h ?_ ?_
 ·exact W
 intro n1 x y1 h hl1 hr1
 revert h; revert x; intro s1 h
 unfold intarsiaref03_Token_b1 at h
 exact W⟩
instance intarsiaref06_Right_ok (E : Pm.Env) [LaidM E] (a0 : S_Start) : Ok E (intarsiaref06_Right a0) (fun r => FnR E Tryz.prog 87 [S_Start.av a0] (bb r) false) := ⟨fun r h => by
 refine FnR.of_ev (T := T) (rows := []) tOk mixed Tryz.func87 rfl (by kernel_rfl) (by kernel_rfl) rfl fun hwf => ?_
 unfold intarsiaref06_Right at h
 refine sj <| ai rfl ?_
 refine xi [] (xi 0 (ai ⟨rfl, rfl⟩ ?_))
 refine sn <| sj <| sj <| ai id <| ai id <| ai (fun hg => (and_r hg)) <| sn ?_
 refine bo h (fun ht h => ?_) fun ht h => ?_
 ·exact W
 ·refine sn <| sj <| sj <| sn ?_
  refine bo h (fun ht h => ?_) fun ht h => ?_
  ·refine sj <| sj <| sn ?_
   refine LoopE.img (fun x : Int => St.of [⟨1, AV.ptr 0 0, none⟩, ⟨3, ii x, none⟩] [.cells 23 (S_Start.cells a0) []] []) (intarsiaref06_Right_b1 a0) (0 : Int) h ?_ ?_
   ·exact W
   intro n1 x y1 h hl1 hr1
   revert h; revert x; intro s1 h
   unfold intarsiaref06_Right_b1 at h
   exact W
  ·exact W⟩
instance intarsiaref02_Digits_ok (E : Pm.Env) [LaidM E] (a0 : Int) (a1 : Int) : Ok E (intarsiaref02_Digits a0 a1) (fun r => FnR E Tryz.prog 124 [AV.int .u64 a0, AV.int .u64 a1] (ss r) false) := ⟨fun r h => by
 refine FnR.of_ev (T := T) (rows := []) tOk mixed Tryz.func124 rfl (by kernel_rfl) (by kernel_rfl) rfl fun hwf => ?_
 unfold intarsiaref02_Digits at h
 refine sj <| sn <| sj <| sn <| be h fun j1 hj1 h => ?_
 refine SeqJ.join (St.of [⟨5, ss j1, none⟩] [] []) ?_ ?_
 ·clear h; have h := hj1; clear hj1
  refine LoopE.img (fun x : (Int × Bytes) => St.of [⟨0, AV.int .u64 x.1, none⟩, ⟨1, AV.int .u64 a1, none⟩, ⟨5, ss x.2, none⟩] [] []) (intarsiaref02_Digits_b1 a1) (a0, ([] : Bytes)) h ?_ ?_
  ·exact W
  intro n1 x y1 h hl1 hr1
  obtain ⟨s2, s3⟩ := x
  unfold intarsiaref02_Digits_b1 at h
  dsimp only at h
  exact W
 ·clear hj1
  exact W⟩
instance intarsiaref06_Print_ok (E : Pm.Env) [LaidM E] (a0 : S_Start) : Ok E (intarsiaref06_Print a0) (fun r => FnR E Tryz.prog 88 [S_Start.av a0] (ss r) false) := ⟨fun r h => by
 refine FnR.of_ev (T := T) (rows := []) tOk mixed Tryz.func88 rfl (by kernel_rfl) (by kernel_rfl) rfl fun hwf => ?_
 unfold intarsiaref06_Print at h
 exact W⟩
instance intarsiaref06_Parse_ok (E : Pm.Env) [LaidM E] (a0 : Bytes) : Ok E (intarsiaref06_Parse a0) (fun r => FnR E Tryz.prog 58 [ss a0] (AV.tup [S_Start.av r.1, ii r.2]) false) := ⟨fun r h => by
 refine FnR.of_ev (T := T) (rows := []) tOk mixed Tryz.func58 rfl (by kernel_rfl) (by kernel_rfl) rfl fun hwf => ?_
 unfold intarsiaref06_Parse at h
 exact W⟩
instance intarsiaref02_value_ok (E : Pm.Env) [LaidM E] (a0 : Int) : Ok E (intarsiaref02_value a0) (fun r => FnR E Tryz.prog 125 [AV.int .u8 a0] (AV.int .u64 r) false) := ⟨fun r h => by
 refine FnR.of_ev (T := T) (rows := []) tOk mixed Tryz.func125 rfl (by kernel_rfl) (by kernel_rfl) rfl fun hwf => ?_
 unfold intarsiaref02_value at h
 exact W⟩
instance intarsiaref02_Read_ok (E : Pm.Env) [LaidM E] (a0 : Bytes) (a1 : Int) : Ok E (intarsiaref02_Read a0 a1) (fun r => FnR E Tryz.prog 89 [ss a0, AV.int .u64 a1] (AV.tup [AV.int .u64 r.1, ii r.2]) false) := ⟨fun r h => by
 refine FnR.of_ev (T := T) (rows := []) tOk mixed Tryz.func89 rfl (by kernel_rfl) (by kernel_rfl) rfl fun hwf => ?_
 unfold intarsiaref02_Read at h
 refine sj <| sn <| sj <| sj <| sn ?_
 refine bo h (fun ht h => ?_) fun ht h => ?_
 ·exact W
 ·refine sn <| sj <| sj <| sn ?_
  refine LoopE.img (fun x : Int => St.of [⟨0, ss a0, none⟩, ⟨1, AV.int .u64 a1, none⟩, ⟨6, ii x, none⟩] [] []) (intarsiaref02_Read_b1 a0 a1) (0 : Int) h ?_ ?_
  ·exact W
  intro n1 x y1 h hl1 hr1
  revert h; revert x; intro s1 h
  unfold intarsiaref02_Read_b1 at h
  refine sj <| sj <| NormE.same <| sn ?_
  refine bo h (fun ht h => ?_) fun ht h => ?_
  ·exact W
  ·refine sn <| sj <| sn <| sj <| sj <| sn ?_
   refine LoopE.img (fun x : (Int × Int) => St.of [⟨0, ss a0, none⟩, ⟨1, AV.int .u64 a1, none⟩, ⟨7, AV.int .u64 x.1, none⟩, ⟨8, ii x.2, none⟩] [] []) (intarsiaref02_Read_b2 a0 a1) ((0 : Int), (0 : Int)) h ?_ ?_
   ·exact W
   intro n2 x y2 h hl2 hr2
   obtain ⟨s4, s5⟩ := x
   unfold intarsiaref02_Read_b2 at h
   dsimp only at h
   exact W⟩
instance intarsiaref06_Status_ok (E : Pm.Env) [LaidM E] (a0 : Bytes) : Ok E (intarsiaref06_Status a0) (fun r => FnR E Tryz.prog 59 [ss a0] (AV.tup [S_Start.av r.1, ii r.2]) false) := ⟨fun r h => by
 refine FnR.of_ev (T := T) (rows := []) tOk mixed Tryz.func59 rfl (by kernel_rfl) (by kernel_rfl) rfl fun hwf => ?_
 unfold intarsiaref06_Status at h
 exact W⟩
instance intarsiaref04_May_ok (E : Pm.Env) [LaidM E] (a0 : S_Field) : Ok E (intarsiaref04_May a0) (fun r => FnR E Tryz.prog 91 [S_Field.av a0] (bb r) false) := ⟨fun r h => by
 refine FnR.of_ev (T := T) (rows := []) tOk mixed Tryz.func91 rfl (by kernel_rfl) (by kernel_rfl) rfl fun hwf => ?_
 unfold intarsiaref04_May at h
 refine sj <| ai rfl ?_
 refine xi [] (xi 0 (ai ⟨rfl, rfl⟩ ?_))
 refine sn <| sj <| sj <| sn ?_
 refine LoopE.img (fun x : Int => St.of [⟨1, AV.ptr 0 0, none⟩, ⟨3, ii x, none⟩] [.cells 78 (S_Field.cells a0) []] []) (intarsiaref04_May_b1 a0) (0 : Int) h ?_ ?_
 ·exact W
 intro n1 x y1 h hl1 hr1
 revert h; revert x; intro s1 h
 unfold intarsiaref04_May_b1 at h
 exact W⟩
instance intarsiaref07_Parse_ok (E : Pm.Env) [LaidM E] (a0 : Bytes) : Ok E (intarsiaref07_Parse a0) (fun r => FnR E Tryz.prog 60 [ss a0] (AV.tup [AV.list 2 (r.1.map S_Field.av), ii r.2]) false) := ⟨fun r h => by
 refine FnR.of_ev (T := T) (rows := []) tOk mixed Tryz.func60 rfl (by kernel_rfl) (by kernel_rfl) rfl fun hwf => ?_
 unfold intarsiaref07_Parse at h
 refine sj <| sn <| sj <| sj <| NormE.same <| sn ?_
 refine bo h (fun ht h => ?_) fun ht h => ?_
 ·exact W
 ·refine sn <| sj <| sj <| ai id <| NormE.same <| ai id <| be h fun x1 hx1 h => ai id <| ai id ?_
  refine xi x1 (ai (fun hg => gidx_some hx1 hg) ?_)
  refine ai id <| ai (fun hg => (and_r hg)) <| sn ?_
  refine bo h (fun ht h => ?_) fun ht h => ?_
  ·exact W
  ·refine sn <| sj <| ai ⟨rfl, rfl, rfl⟩ <| nt (AV.list 2 (([] : List S_Field).map S_Field.av)) (fun _ => rfl) <| sn <| sj ?_
   refine LoopE.img (fun x : (Bytes × (List S_Field)) => St.of [⟨0, ss x.1, none⟩, ⟨4, AV.list 2 (x.2.map S_Field.av), some 0⟩] [] [1]) intarsiaref07_Parse_b1 (a0, ([] : List S_Field)) h ?_ ?_
   ·exact W
   intro n1 x y1 h hl1 hr1
   obtain ⟨s2, s3⟩ := x
   unfold intarsiaref07_Parse_b1 at h
   dsimp only at h
   exact W⟩
instance intarsiaref04_Right_ok (E : Pm.Env) [LaidM E] (a0 : (List S_Field)) : Ok E (intarsiaref04_Right a0) (fun r => FnR E Tryz.prog 92 [AV.list 2 (a0.map S_Field.av)] (bb r) false) := ⟨fun r h => by
 refine FnR.of_ev (T := T) (rows := []) tOk mixed Tryz.func92 rfl (by kernel_rfl) (by kernel_rfl) rfl fun hwf => ?_
 unfold intarsiaref04_Right at h
 refine sj <| sn <| sj <| sj <| nt (ii (a0.length : Int)) (fun _ => len_list S_Field.av a0) <| sn ?_
 refine LoopE.img (fun x : Int => St.of [⟨0, AV.list 2 (a0.map S_Field.av), none⟩, ⟨5, AV.list 2 (a0.map S_Field.av), none⟩, ⟨6, ii (a0.length : Int), none⟩, ⟨7, ii x, none⟩] [] []) (intarsiaref04_Right_b1 a0) (0 : Int) h ?_ ?_
 ·exact W
 intro n1 x y1 h hl1 hr1
 revert h; revert x; intro s1 h
 unfold intarsiaref04_Right_b1 at h
 exact W⟩
instance intarsiaref03_Lower_ok (E : Pm.Env) [LaidM E] (a0 : Bytes) : Ok E (intarsiaref03_Lower a0) (fun r => FnR E Tryz.prog 128 [ss a0] (ss r) false) := ⟨fun r h => by
 refine FnR.of_ev (T := T) (rows := []) tOk mixed Tryz.func128 rfl (by kernel_rfl) (by kernel_rfl) rfl fun hwf => ?_
 unfold intarsiaref03_Lower at h
 refine sj <| sn <| sj <| sn <| be h fun j1 hj1 h => ?_
 refine SeqJ.join (St.of [⟨3, ss j1, none⟩] [] []) ?_ ?_
 ·clear h; have h := hj1; clear hj1
  refine sj <| sn ?_
  refine LoopE.img (fun x : (Bytes × Int) => St.of [⟨0, ss a0, none⟩, ⟨3, ss x.1, none⟩, ⟨4, ii x.2, none⟩] [] []) (intarsiaref03_Lower_b1 a0) (([] : Bytes), (0 : Int)) h ?_ ?_
  ·exact W
  intro n1 x y1 h hl1 hr1
  obtain ⟨s2, s3⟩ := x
  unfold intarsiaref03_Lower_b1 at h
  dsimp only at h
  exact W
 ·clear hj1
  exact W⟩
instance intarsiaref04_same_ok (E : Pm.Env) [LaidM E] (a0 : Bytes) (a1 : Bytes) : Ok E (intarsiaref04_same a0 a1) (fun r => FnR E Tryz.prog 146 [ss a0, ss a1] (bb r) false) := ⟨fun r h => by
 refine FnR.of_ev (T := T) (rows := []) tOk mixed Tryz.func146 rfl (by kernel_rfl) (by kernel_rfl) rfl fun hwf => ?_
 unfold intarsiaref04_same at h
 exact W⟩
instance intarsiaref04_All_ok (E : Pm.Env) [LaidM E] (a0 : (List S_Field)) (a1 : Bytes) : Ok E (intarsiaref04_All a0 a1) (fun r => FnR E Tryz.prog 127 [AV.list 2 (a0.map S_Field.av), ss a1] (AV.list 1 (r.map AV.str)) true) := ⟨fun r h => by
 refine FnR.of_ev (T := T) (rows := []) tOk mixed Tryz.func127 rfl (by kernel_rfl) (by kernel_rfl) rfl fun hwf => ?_
 unfold intarsiaref04_All at h
 refine sj <| sn <| sj <| ai ⟨rfl, rfl, rfl⟩ <| nt (AV.list 1 (([] : List Bytes).map AV.str)) (fun _ => rfl) <| sn <| be h fun j1 hj1 h => ?_
 refine SeqJ.join (St.of [⟨5, AV.list 1 (j1.map AV.str), some 0⟩] [] [1]) ?_ ?_
 ·clear h; have h := hj1; clear hj1
  refine sj <| nt (ii (a0.length : Int)) (fun _ => len_list S_Field.av a0) <| sn ?_
  refine LoopE.img (fun x : ((List Bytes) × Int) => St.of [⟨1, ss a1, none⟩, ⟨5, AV.list 1 (x.1.map AV.str), some 0⟩, ⟨9, AV.list 2 (a0.map S_Field.av), none⟩, ⟨10, ii (a0.length : Int), none⟩, ⟨11, ii x.2, none⟩] [] [1]) (intarsiaref04_All_b1 a0 a1) (([] : List Bytes), (0 : Int)) h ?_ ?_
  ·exact W
  intro n1 x y1 h hl1 hr1
  obtain ⟨s2, s3⟩ := x
  unfold intarsiaref04_All_b1 at h
  dsimp only at h
  exact W
 ·clear hj1
  exact W⟩
instance intarsiaref04_Joined_ok (E : Pm.Env) [LaidM E] (a0 : (List Bytes)) : Ok E (intarsiaref04_Joined a0) (fun r => FnR E Tryz.prog 129 [AV.list 1 (a0.map AV.str)] (ss r) false) := ⟨fun r h => by
 refine FnR.of_ev (T := T) (rows := []) tOk mixed Tryz.func129 rfl (by kernel_rfl) (by kernel_rfl) rfl fun hwf => ?_
 unfold intarsiaref04_Joined at h
 refine sj <| sn <| sj <| sn <| be h fun j1 hj1 h => ?_
 refine SeqJ.join (St.of [⟨3, ss j1, none⟩] [] []) ?_ ?_
 ·clear h; have h := hj1; clear hj1
  refine sj <| nt (ii (a0.length : Int)) (fun _ => len_list ss a0) <| sn ?_
  refine LoopE.img (fun x : (Bytes × Int) => St.of [⟨3, ss x.1, none⟩, ⟨6, AV.list 1 (a0.map AV.str), none⟩, ⟨7, ii (a0.length : Int), none⟩, ⟨8, ii x.2, none⟩] [] []) (intarsiaref04_Joined_b1 a0) (([] : Bytes), (0 : Int)) h ?_ ?_
  ·exact W
  intro n1 x y1 h hl1 hr1
  obtain ⟨s2, s3⟩ := x
  unfold intarsiaref04_Joined_b1 at h
  dsimp only at h
  exact W
 ·clear hj1
  exact W⟩
instance intarsiaref09_Say_ok (E : Pm.Env) [LaidM E] (a0 : Int) (a1 : (List S_Field)) : Ok E (intarsiaref09_Say a0 a1) (fun r => FnR E Tryz.prog 93 [ii a0, AV.list 2 (a1.map S_Field.av)] (AV.tup [S_Body.av r.1, ii r.2]) false) := ⟨fun r h => by
 refine FnR.of_ev (T := T) (rows := []) tOk mixed Tryz.func93 rfl (by kernel_rfl) (by kernel_rfl) rfl fun hwf => ?_
 unfold intarsiaref09_Say at h
 refine sj <| ai rfl <| sn <| sj <| be h fun x1 hx1 h => cd _ true rfl ((intarsiaref04_All_ok E a1 ([116, 114, 97, 110, 115, 102, 101, 114, 45, 101, 110, 99, 111, 100, 105, 110, 103] : Bytes)).1 x1 hx1) <| sn <| sj <| be h fun x2 hx2 h => cd _ true rfl ((intarsiaref04_All_ok E a1 ([99, 111, 110, 116, 101, 110, 116, 45, 108, 101, 110, 103, 116, 104] : Bytes)).1 x2 hx2) <| sn <| sj <| sj <| nt (ii (x1.length : Int)) (fun _ => len_list ss x1) <| sn ?_
 refine bo h (fun ht h => ?_) fun ht h => ?_
 ·exact W
 ·refine sn <| sj <| sj <| nt (ii (x2.length : Int)) (fun _ => len_list ss x2) <| sn ?_
  refine bo h (fun ht h => ?_) fun ht h => ?_
  ·exact W
  ·refine sn <| sj <| sn <| sj <| sj <| nt (ii (x2.length : Int)) (fun _ => len_list ss x2) <| sn ?_
   refine LoopE.img (fun x : (Int × Int) => St.of [⟨4, AV.ptr 0 0, none⟩, ⟨8, AV.int .u64 x.1, none⟩, ⟨39, AV.list 1 (x2.map AV.str), some 0⟩, ⟨40, ii (x2.length : Int), none⟩, ⟨41, ii x.2, none⟩] [.cells 28 [ii 0, ii 0] []] [1]) (intarsiaref09_Say_b1 x2) ((0 : Int), (0 : Int)) h ?_ ?_
   ·exact W
   intro n1 x y1 h hl1 hr1
   obtain ⟨s5, s6⟩ := x
   unfold intarsiaref09_Say_b1 at h
   dsimp only at h
   exact W⟩
instance intarsiaref09_Request_ok (E : Pm.Env) [LaidM E] (a0 : S_Start) (a1 : (List S_Field)) : Ok E (intarsiaref09_Request a0 a1) (fun r => FnR E Tryz.prog 61 [S_Start.av a0, AV.list 2 (a1.map S_Field.av)] (AV.tup [S_Body.av r.1, ii r.2]) false) := ⟨fun r h => by
 refine FnR.of_ev (T := T) (rows := []) tOk mixed Tryz.func61 rfl (by kernel_rfl) (by kernel_rfl) rfl fun hwf => ?_
 unfold intarsiaref09_Request at h
 exact W⟩
instance intarsiaref09_Answer_ok (E : Pm.Env) [LaidM E] (a0 : S_Start) (a1 : (List S_Field)) (a2 : Bytes) : Ok E (intarsiaref09_Answer a0 a1 a2) (fun r => FnR E Tryz.prog 62 [S_Start.av a0, AV.list 2 (a1.map S_Field.av), ss a2] (AV.tup [S_Body.av r.1, ii r.2]) false) := ⟨fun r h => by
 refine FnR.of_ev (T := T) (rows := []) tOk mixed Tryz.func62 rfl (by kernel_rfl) (by kernel_rfl) rfl fun hwf => ?_
 unfold intarsiaref09_Answer at h
 exact W⟩
instance intarsiaref10_begin_ok (E : Pm.Env) [LaidM E] (a0 : Bool) (a1 : Bytes) (a2 : Bytes) : Ok E (intarsiaref10_begin a0 a1 a2) (fun r => FnR E Tryz.prog 36 [bb a0, ss a1, ss a2] (AV.tup [S_Message.av r.1, S_Body.av r.2.1, ii r.2.2]) false) := ⟨fun r h => by
 refine FnR.of_ev (T := T) (rows := []) tOk mixed Tryz.func36 rfl (by kernel_rfl) (by kernel_rfl) rfl fun hwf => ?_
 unfold intarsiaref10_begin at h
 refine sj <| ai rfl <| ai rfl <| sn <| sj <| be h fun x1 hx1 h => cd _ false rfl ((intarsiaref10_line_ok E a2).1 x1 hx1) <| sn <| sj ?_
 refine xi (some 69810262081) (ai (okM.mk (show (69810262081 : Nat) = freeM T _ _ _ from by kernel_rfl)) ?_)
 refine ai rfl ?_
 refine ai ⟨rfl, rfl, rfl, lb rfl⟩ (xi [ss [], ss [], ii 0, ss [], ii 0, AV.list 2 (([] : List S_Field).map S_Field.av), ss []] (ai (fun _ => rfl) ?_))
 refine xi [(5, 2)] (xi 1 (ai ⟨(by kernel_rfl), rfl⟩ ?_))
 refine sn <| sj <| be h fun x2 hx2 h => cd _ false rfl ((intarsiaref06_Parse_ok E x1.1).1 x2 hx2) <| ai rfl ?_
 refine ai ⟨rfl, rfl, rfl, lb rfl⟩ (xi (S_Start.cells x2.1) (ai (fun _ => rfl) ?_))
 refine sv (St.of [⟨0, bb a0, none⟩, ⟨1, ss a1, none⟩, ⟨6, AV.ptr 0 0, none⟩, ⟨7, AV.ptr 1 0, none⟩, ⟨9, ss x1.1, none⟩, ⟨10, ss x1.2, none⟩, ⟨11, AV.ptr 2 0, none⟩, ⟨12, AV.ptr 3 0, none⟩, ⟨13, ii x2.2, none⟩] [.cells 26 [ss [], ss [], ii 0, ss [], ii 0, AV.list 2 (([] : List S_Field).map S_Field.av), ss []] [(5, 0)], .cells 28 [ii 0, ii 0] [], .cells 26 [ss [], ss [], ii 0, ss [], ii 0, AV.list 2 (([] : List S_Field).map S_Field.av), ss []] [(5, 1)], .cells 23 (S_Start.cells x2.1) []] [1, 1]) (gt _ _ _ [0, 2] (⟨⟨rfl, rfl, rfl⟩, ⟨⟨rfl, rfl, rfl⟩, ⟨⟨rfl, rfl, rfl⟩, ⟨⟨rfl, rfl, rfl⟩, trivial⟩⟩⟩⟩) rfl rfl rfl rfl (tr3 <| tr3 <| tr3 <| tr3 <| tr3 <| tr3 <| tr3 <| tr3 <| tr3 <| trivial)) ?_
 refine sj <| sj <| sn ?_
 refine bo h (fun ht h => ?_) fun ht h => ?_
 ·refine sj <| be h fun x3 hx3 h => cd _ false rfl ((intarsiaref06_Status_ok E x1.1).1 x3 hx3) <| ai rfl ?_
  refine ai ⟨rfl, rfl, rfl, lb rfl⟩ (xi (S_Start.cells x3.1) (ai (fun _ => rfl) ?_))
  refine sn <| sj <| ai ⟨lb rfl, lb rfl⟩ ?_
  refine xi none (ai rfl ?_)
  refine nt (S_Start.av x3.1) (fun _ => rfl) ?_
  refine ai ⟨rfl, rfl, rfl, lb rfl⟩ (xi (S_Start.cells x3.1) (ai (fun _ => rfl) ?_))
  refine sn <| sn <| sj <| ai ⟨lb rfl, lb rfl⟩ ?_
  refine xi none (ai rfl ?_)
  refine nt (S_Start.av x3.1) (fun _ => rfl) ?_
  refine ai ⟨rfl, rfl, rfl, lb rfl⟩ (xi [ss x3.1.Method, ss x3.1.Target, ii x3.1.Code, ss x3.1.Reason, ii x3.1.Minor, AV.list 2 (([] : List S_Field).map S_Field.av), ss []] (ai (fun _ => rfl) ?_))
  refine sv (St.of [⟨0, bb a0, none⟩, ⟨1, ss a1, none⟩, ⟨6, AV.ptr 0 0, none⟩, ⟨7, AV.ptr 1 0, none⟩, ⟨10, ss x1.2, none⟩, ⟨11, AV.ptr 2 0, none⟩, ⟨13, ii x3.2, none⟩] [.cells 26 [ss [], ss [], ii 0, ss [], ii 0, AV.list 2 (([] : List S_Field).map S_Field.av), ss []] [(5, 0)], .cells 28 [ii 0, ii 0] [], .cells 26 [ss x3.1.Method, ss x3.1.Target, ii x3.1.Code, ss x3.1.Reason, ii x3.1.Minor, AV.list 2 (([] : List S_Field).map S_Field.av), ss []] [(5, 1)]] [1, 1]) (gt _ _ _ [0, 1] (⟨⟨rfl, rfl, rfl⟩, ⟨⟨rfl, rfl, rfl⟩, ⟨⟨rfl, rfl, rfl⟩, trivial⟩⟩⟩) rfl rfl rfl rfl (tr3 <| tr3 <| tr3 <| tr3 <| tr3 <| tr3 <| tr3 <| trivial)) ?_
  refine sj <| sj <| sn ?_
  refine bo h (fun ht h => ?_) fun ht h => ?_
  ·refine sj <| ai ⟨lb rfl, lb rfl⟩ ?_
   refine xi (some 3221225472) (ai (show aggT [(5, 1)] 0 7 = some 3221225472 from by kernel_rfl) ?_)
   refine nt (AV.agg [ss x3.1.Method, ss x3.1.Target, ii x3.1.Code, ss x3.1.Reason, ii x3.1.Minor, AV.list 2 (([] : List S_Field).map S_Field.av), ss []]) (fun _ => rfl) ?_
   refine xi none (ai trivial ?_)
   refine ai ⟨rfl, rfl, rfl, lb rfl⟩ (xi [ss x3.1.Method, ss x3.1.Target, ii x3.1.Code, ss x3.1.Reason, ii x3.1.Minor, AV.list 2 (([] : List S_Field).map S_Field.av), ss []] (ai (fun _ => rfl) ?_))
   refine xi [(5, 1)] (xi 0 (ai ⟨(by kernel_rfl), rfl⟩ ?_))
   exact W
  ·refine sn <| sj <| be h fun x4 hx4 h => cd _ false rfl ((intarsiaref07_Parse_ok E x1.2).1 x4 hx4) <| sn <| sj ?_
   refine ai ⟨rfl, rfl, rfl, lb rfl⟩ (xi [ss x3.1.Method, ss x3.1.Target, ii x3.1.Code, ss x3.1.Reason, ii x3.1.Minor, AV.list 2 (x4.1.map S_Field.av), ss []] (ai (fun _ => rfl) ?_))
   refine sn <| sj <| sj <| sn ?_
   refine bo h (fun ht h => ?_) fun ht h => ?_
   ·refine sj <| ai ⟨lb rfl, lb rfl⟩ ?_
    refine xi none (ai rfl ?_)
    refine nt (AV.agg [ss x3.1.Method, ss x3.1.Target, ii x3.1.Code, ss x3.1.Reason, ii x3.1.Minor, AV.list 2 (x4.1.map S_Field.av), ss []]) (fun _ => rfl) ?_
    refine xi none (ai trivial ?_)
    refine ai ⟨rfl, rfl, rfl, lb rfl⟩ (xi [ss x3.1.Method, ss x3.1.Target, ii x3.1.Code, ss x3.1.Reason, ii x3.1.Minor, AV.list 2 (x4.1.map S_Field.av), ss []] (ai (fun _ => rfl) ?_))
    refine ai ⟨rfl, rfl, rfl, lb rfl⟩ (xi [ii 0, ii 0] (ai (fun _ => rfl) ?_))
    refine sv (St.of [⟨6, AV.ptr 0 0, none⟩, ⟨7, AV.ptr 1 0, none⟩, ⟨8, ii x4.2, none⟩] [.cells 26 [ss x3.1.Method, ss x3.1.Target, ii x3.1.Code, ss x3.1.Reason, ii x3.1.Minor, AV.list 2 (x4.1.map S_Field.av), ss []] [], .cells 28 [ii 0, ii 0] []] []) ?_ ?_
    ·exact W
    exact W
   ·refine sn <| sj <| sj <| sn ?_
    refine bo h (fun ht h => ?_) fun ht h => ?_
    ·refine sj <| ai ⟨lb rfl, lb rfl⟩ ?_
     refine xi none (ai rfl ?_)
     refine nt (AV.agg [ss x3.1.Method, ss x3.1.Target, ii x3.1.Code, ss x3.1.Reason, ii x3.1.Minor]) (fun _ => rfl) <| be h fun x5 hx5 h => cd _ false rfl ((intarsiaref09_Request_ok E (S_Start.mk x3.1.Method x3.1.Target x3.1.Code x3.1.Reason x3.1.Minor) x4.1).1 x5 hx5) <| ai rfl ?_
     refine ai ⟨rfl, rfl, rfl, lb rfl⟩ (xi (S_Body.cells x5.1) (ai (fun _ => rfl) ?_))
     refine sv (St.of [⟨6, AV.ptr 0 0, none⟩, ⟨7, AV.ptr 1 0, none⟩, ⟨11, AV.ptr 2 0, none⟩, ⟨18, AV.ptr 3 0, none⟩, ⟨19, ii x5.2, none⟩] [.cells 26 [ss [], ss [], ii 0, ss [], ii 0, AV.list 2 (([] : List S_Field).map S_Field.av), ss []] [(5, 0)], .cells 28 [ii 0, ii 0] [], .cells 26 [ss x3.1.Method, ss x3.1.Target, ii x3.1.Code, ss x3.1.Reason, ii x3.1.Minor, AV.list 2 (x4.1.map S_Field.av), ss []] [], .cells 28 (S_Body.cells x5.1) []] [1]) (gt _ _ _ [0] W rfl rfl rfl rfl (tr3 <| tr3 <| tr3 <| tr3 <| tr3 <| trivial)) ?_
     refine sj <| Or.inl <| ai ⟨lb rfl, lb rfl⟩ ?_
     refine xi none (ai rfl ?_)
     refine nt (AV.agg [ss x3.1.Method, ss x3.1.Target, ii x3.1.Code, ss x3.1.Reason, ii x3.1.Minor, AV.list 2 (x4.1.map S_Field.av), ss []]) (fun _ => rfl) <| ai ⟨lb rfl, lb rfl⟩ ?_
     refine xi none (ai rfl ?_)
     refine nt (S_Body.av x5.1) (fun _ => rfl) ?_
     refine ai ⟨rfl, rfl, rfl, lb rfl⟩ (xi [ss x3.1.Method, ss x3.1.Target, ii x3.1.Code, ss x3.1.Reason, ii x3.1.Minor, AV.list 2 (x4.1.map S_Field.av), ss []] (ai (fun _ => rfl) ?_))
     refine ai ⟨rfl, rfl, rfl, lb rfl⟩ (xi (S_Body.cells x5.1) (ai (fun _ => rfl) ?_))
     refine ai (by kernel_rfl) <| sn ?_
     replace h := oi h
     refine rp ?_
     refine ai ⟨lb rfl, lb rfl⟩ (xi (AV.agg [ss x3.1.Method, ss x3.1.Target, ii x3.1.Code, ss x3.1.Reason, ii x3.1.Minor, AV.list 2 (x4.1.map S_Field.av), ss []]) (ai rfl ?_))
     refine ai ⟨lb rfl, lb rfl⟩ (xi (S_Body.av x5.1) (ai rfl ?_))
     subst h; exact ai rfl (ai rfl rfl)
    ·refine sn <| sj <| ai ⟨lb rfl, lb rfl⟩ ?_
     refine xi none (ai rfl ?_)
     refine nt (AV.agg [ss x3.1.Method, ss x3.1.Target, ii x3.1.Code, ss x3.1.Reason, ii x3.1.Minor]) (fun _ => rfl) <| be h fun x6 hx6 h => cd _ false rfl ((intarsiaref09_Answer_ok E (S_Start.mk x3.1.Method x3.1.Target x3.1.Code x3.1.Reason x3.1.Minor) x4.1 a1).1 x6 hx6) <| ai rfl ?_
     refine ai ⟨rfl, rfl, rfl, lb rfl⟩ (xi (S_Body.cells x6.1) (ai (fun _ => rfl) ?_))
     refine sv (St.of [⟨6, AV.ptr 0 0, none⟩, ⟨7, AV.ptr 1 0, none⟩, ⟨11, AV.ptr 2 0, none⟩, ⟨20, AV.ptr 3 0, none⟩, ⟨21, ii x6.2, none⟩] [.cells 26 [ss [], ss [], ii 0, ss [], ii 0, AV.list 2 (([] : List S_Field).map S_Field.av), ss []] [(5, 0)], .cells 28 [ii 0, ii 0] [], .cells 26 [ss x3.1.Method, ss x3.1.Target, ii x3.1.Code, ss x3.1.Reason, ii x3.1.Minor, AV.list 2 (x4.1.map S_Field.av), ss []] [], .cells 28 (S_Body.cells x6.1) []] [1]) (gt _ _ _ [0] W rfl rfl rfl rfl (tr3 <| tr3 <| tr3 <| tr3 <| tr3 <| trivial)) ?_
     exact W
 ·refine sn <| sj <| ai ⟨lb rfl, lb rfl⟩ ?_
  refine xi none (ai rfl ?_)
  refine nt (S_Start.av x2.1) (fun _ => rfl) ?_
  refine ai ⟨rfl, rfl, rfl, lb rfl⟩ (xi [ss x2.1.Method, ss x2.1.Target, ii x2.1.Code, ss x2.1.Reason, ii x2.1.Minor, AV.list 2 (([] : List S_Field).map S_Field.av), ss []] (ai (fun _ => rfl) ?_))
  refine sn <| sj <| sj <| sn ?_
  refine bo h (fun ht h => ?_) fun ht h => ?_
  ·refine sj <| ai ⟨lb rfl, lb rfl⟩ ?_
   refine xi (some 3221225472) (ai (show aggT [(5, 1)] 0 7 = some 3221225472 from by kernel_rfl) ?_)
   refine nt (AV.agg [ss x2.1.Method, ss x2.1.Target, ii x2.1.Code, ss x2.1.Reason, ii x2.1.Minor, AV.list 2 (([] : List S_Field).map S_Field.av), ss []]) (fun _ => rfl) ?_
   refine xi none (ai trivial ?_)
   refine ai ⟨rfl, rfl, rfl, lb rfl⟩ (xi [ss x2.1.Method, ss x2.1.Target, ii x2.1.Code, ss x2.1.Reason, ii x2.1.Minor, AV.list 2 (([] : List S_Field).map S_Field.av), ss []] (ai (fun _ => rfl) ?_))
   refine xi [(5, 1)] (xi 0 (ai ⟨(by kernel_rfl), rfl⟩ ?_))
   exact W
  ·refine sn <| sj <| be h fun x7 hx7 h => cd _ false rfl ((intarsiaref07_Parse_ok E x1.2).1 x7 hx7) <| sn <| sj ?_
   refine ai ⟨rfl, rfl, rfl, lb rfl⟩ (xi [ss x2.1.Method, ss x2.1.Target, ii x2.1.Code, ss x2.1.Reason, ii x2.1.Minor, AV.list 2 (x7.1.map S_Field.av), ss []] (ai (fun _ => rfl) ?_))
   refine sv (St.of [⟨0, bb a0, none⟩, ⟨1, ss a1, none⟩, ⟨6, AV.ptr 0 0, none⟩, ⟨7, AV.ptr 1 0, none⟩, ⟨11, AV.ptr 2 0, none⟩, ⟨16, AV.list 2 (x7.1.map S_Field.av), none⟩, ⟨17, ii x7.2, none⟩] [.cells 26 [ss [], ss [], ii 0, ss [], ii 0, AV.list 2 (([] : List S_Field).map S_Field.av), ss []] [(5, 0)], .cells 28 [ii 0, ii 0] [], .cells 26 [ss x2.1.Method, ss x2.1.Target, ii x2.1.Code, ss x2.1.Reason, ii x2.1.Minor, AV.list 2 (x7.1.map S_Field.av), ss []] []] [1]) (gt _ _ _ [0] W rfl rfl rfl rfl (tr3 <| tr3 <| tr3 <| tr3 <| tr3 <| tr3 <| tr3 <| trivial)) ?_
   refine sj <| sj <| sn ?_
   refine bo h (fun ht h => ?_) fun ht h => ?_
   ·exact W
   ·refine sn <| sj <| sj <| sn ?_
    refine bo h (fun ht h => ?_) fun ht h => ?_
    ·refine sj <| ai ⟨lb rfl, lb rfl⟩ ?_
     refine xi none (ai rfl ?_)
     refine nt (S_Start.av x2.1) (fun _ => rfl) <| be h fun x8 hx8 h => cd _ false rfl ((intarsiaref09_Request_ok E x2.1 x7.1).1 x8 hx8) <| ai rfl ?_
     refine ai ⟨rfl, rfl, rfl, lb rfl⟩ (xi (S_Body.cells x8.1) (ai (fun _ => rfl) ?_))
     refine sn <| sj <| Or.inl <| ai ⟨lb rfl, lb rfl⟩ ?_
     refine xi none (ai rfl ?_)
     refine nt (AV.agg [ss x2.1.Method, ss x2.1.Target, ii x2.1.Code, ss x2.1.Reason, ii x2.1.Minor, AV.list 2 (x7.1.map S_Field.av), ss []]) (fun _ => rfl) <| ai ⟨lb rfl, lb rfl⟩ ?_
     refine xi none (ai rfl ?_)
     refine nt (S_Body.av x8.1) (fun _ => rfl) ?_
     refine ai ⟨rfl, rfl, rfl, lb rfl⟩ (xi [ss x2.1.Method, ss x2.1.Target, ii x2.1.Code, ss x2.1.Reason, ii x2.1.Minor, AV.list 2 (x7.1.map S_Field.av), ss []] (ai (fun _ => rfl) ?_))
     refine ai ⟨rfl, rfl, rfl, lb rfl⟩ (xi (S_Body.cells x8.1) (ai (fun _ => rfl) ?_))
     refine ai (by kernel_rfl) ?_
     refine sv (St.of [⟨6, AV.ptr 0 0, none⟩, ⟨7, AV.ptr 1 0, none⟩, ⟨8, ii x8.2, none⟩] [.cells 26 [ss x2.1.Method, ss x2.1.Target, ii x2.1.Code, ss x2.1.Reason, ii x2.1.Minor, AV.list 2 (x7.1.map S_Field.av), ss []] [], .cells 28 (S_Body.cells x8.1) []] []) ?_ ?_
     ·exact W
     exact W
    ·refine sn <| sj <| ai ⟨lb rfl, lb rfl⟩ ?_
     refine xi none (ai rfl ?_)
     refine nt (S_Start.av x2.1) (fun _ => rfl) <| be h fun x9 hx9 h => cd _ false rfl ((intarsiaref09_Answer_ok E x2.1 x7.1 a1).1 x9 hx9) <| ai rfl ?_
     refine ai ⟨rfl, rfl, rfl, lb rfl⟩ (xi (S_Body.cells x9.1) (ai (fun _ => rfl) ?_))
     refine sn <| sj <| Or.inl <| ai ⟨lb rfl, lb rfl⟩ ?_
     refine xi none (ai rfl ?_)
     refine nt (AV.agg [ss x2.1.Method, ss x2.1.Target, ii x2.1.Code, ss x2.1.Reason, ii x2.1.Minor, AV.list 2 (x7.1.map S_Field.av), ss []]) (fun _ => rfl) <| ai ⟨lb rfl, lb rfl⟩ ?_
     refine xi none (ai rfl ?_)
     refine nt (S_Body.av x9.1) (fun _ => rfl) ?_
     refine ai ⟨rfl, rfl, rfl, lb rfl⟩ (xi [ss x2.1.Method, ss x2.1.Target, ii x2.1.Code, ss x2.1.Reason, ii x2.1.Minor, AV.list 2 (x7.1.map S_Field.av), ss []] (ai (fun _ => rfl) ?_))
     refine ai ⟨rfl, rfl, rfl, lb rfl⟩ (xi (S_Body.cells x9.1) (ai (fun _ => rfl) ?_))
     refine ai (by kernel_rfl) ?_
     refine sv (St.of [⟨6, AV.ptr 0 0, none⟩, ⟨7, AV.ptr 1 0, none⟩, ⟨8, ii x9.2, none⟩] [.cells 26 [ss x2.1.Method, ss x2.1.Target, ii x2.1.Code, ss x2.1.Reason, ii x2.1.Minor, AV.list 2 (x7.1.map S_Field.av), ss []] [], .cells 28 (S_Body.cells x9.1) []] []) ?_ ?_
     ·exact W
     exact W⟩
instance intarsiaref10_head_ok (E : Pm.Env) [LaidM E] (a0 : Bool) (a1 : Bytes) (a2 : Bytes) : Ok E (intarsiaref10_head a0 a1 a2) (fun r => FnR E Tryz.prog 17 [bb a0, ss a1, ss a2] (AV.tup [S_Message.av r.1, S_Body.av r.2.1, ii r.2.2]) false) := ⟨fun r h => by
 refine FnR.of_ev (T := T) (rows := []) tOk mixed Tryz.func17 rfl (by kernel_rfl) (by kernel_rfl) rfl fun hwf => ?_
 unfold intarsiaref10_head at h
 refine sj <| ai rfl <| ai rfl <| sn <| sj <| NormE.same <| sn <| sj <| sj <| ai id <| be h fun x1 hx1 h => ai id <| ai id ?_
 refine xi x1 (ai (fun hg => gidx_some hx1 hg) ?_)
 refine ai id <| ai (fun hg => (and_r hg)) <| sn ?_
 refine bo h (fun ht h => ?_) fun ht h => ?_
 ·refine sn <| sj <| sj <| sn ?_
  refine bo h (fun ht h => ?_) fun ht h => ?_
  ·refine sj ?_
   refine xi (some 69810262081) (ai (okM.mk (show (69810262081 : Nat) = freeM T _ _ _ from by kernel_rfl)) ?_)
   refine xi none (ai trivial ?_)
   refine ai ⟨rfl, rfl, rfl, lb rfl⟩ (xi [ss [], ss [], ii 0, ss [], ii 0, AV.list 2 (([] : List S_Field).map S_Field.av), ss []] (ai (fun _ => rfl) ?_))
   refine xi [(5, 1)] (xi 1 (ai ⟨(by kernel_rfl), rfl⟩ ?_))
   exact W
  ·exact W
 ·refine sn <| sj <| sj <| sn ?_
  refine bo h (fun ht h => ?_) fun ht h => ?_
  ·refine sj ?_
   refine xi (some 69810262081) (ai (okM.mk (show (69810262081 : Nat) = freeM T _ _ _ from by kernel_rfl)) ?_)
   refine xi none (ai trivial ?_)
   refine ai ⟨rfl, rfl, rfl, lb rfl⟩ (xi [ss [], ss [], ii 0, ss [], ii 0, AV.list 2 (([] : List S_Field).map S_Field.av), ss []] (ai (fun _ => rfl) ?_))
   refine xi [(5, 1)] (xi 1 (ai ⟨(by kernel_rfl), rfl⟩ ?_))
   exact W
  ·exact W⟩
instance intarsiaref08_Right_ok (E : Pm.Env) [LaidM E] (a0 : S_Chunked) : Ok E (intarsiaref08_Right a0) (fun r => FnR E Tryz.prog 63 [S_Chunked.av a0] (bb r) false) := ⟨fun r h => by
 refine FnR.of_ev (T := T) (rows := []) tOk mixed Tryz.func63 rfl (by kernel_rfl) (by kernel_rfl) rfl fun hwf => ?_
 unfold intarsiaref08_Right at h
 refine sj <| ai rfl ?_
 refine xi [] (xi 0 (ai ⟨rfl, rfl⟩ ?_))
 refine sn <| sj <| sj <| sn ?_
 refine LoopE.img (fun x : Int => St.of [⟨1, AV.ptr 0 0, none⟩, ⟨3, ii x, none⟩] [.cells 30 (S_Chunked.cells a0) []] []) (intarsiaref08_Right_b1 a0) (0 : Int) h ?_ ?_
 ·exact W
 intro n1 x y1 h hl1 hr1
 revert h; revert x; intro s1 h
 unfold intarsiaref08_Right_b1 at h
 exact W⟩
instance intarsiaref08_line_ok (E : Pm.Env) [LaidM E] (a0 : S_Chunked) : Ok E (intarsiaref08_line a0) (fun r => FnR E Tryz.prog 94 [S_Chunked.av a0] (AV.tup [S_Chunked.av r.1, ii r.2]) false) := ⟨fun r h => by
 refine FnR.of_ev (T := T) (rows := []) tOk mixed Tryz.func94 rfl (by kernel_rfl) (by kernel_rfl) rfl fun hwf => ?_
 unfold intarsiaref08_line at h
 refine sj <| ai rfl ?_
 refine xi [] (xi 0 (ai ⟨rfl, rfl⟩ ?_))
 refine ai rfl <| sn <| sj <| sn <| sj <| sj <| NormE.same <| ai id <| NormE.same <| ai id <| be h fun x1 hx1 h => ai id <| ai id ?_
 refine xi x1 (ai (fun hg => gidx_some hx1 hg) ?_)
 refine ai id <| ai (fun hg => (and_r hg)) <| sn ?_
 refine bo h (fun ht h => ?_) fun ht h => ?_
 ·refine NormE.same <| be h fun x2 hx2 h => ?_
  have qx2 := (slc_some hx2).1
  have hx2e := (slc_some hx2).2
  refine ai (fun _ => qx2) <| nt (ss x2) (fun _ => congrArg ss hx2e.symm) <| sn <| sj ?_
  refine ai ⟨rfl, rfl, rfl, lb rfl⟩ (xi [ii a0.Stage, ss [], ii a0.Left, ii a0.Size] (ai (fun _ => rfl) ?_))
  refine sn <| sj <| sj <| ai id <| ai (fun hg => (and_r hg)) <| sn ?_
  refine bo h (fun ht h => ?_) fun ht h => ?_
  ·exact W
  ·refine sn <| sj <| sj <| sn ?_
   refine bo h (fun ht h => ?_) fun ht h => ?_
   ·exact W
   ·refine sn <| sj <| sj <| sn ?_
    refine bo h (fun ht h => ?_) fun ht h => ?_
    ·exact W
    ·refine sn <| be h fun j3 hj3 h => ?_
     refine SeqJ.join (St.of [⟨1, AV.ptr 0 0, none⟩, ⟨2, AV.ptr 1 0, none⟩, ⟨4, ss j3, none⟩] [.cells 30 [ii a0.Stage, ss [], ii a0.Left, ii a0.Size] [], .cells 30 [ii 0, ss [], ii 0, ii 0] []] []) ?_ ?_
     ·clear h; have h := hj3; clear hj3
      refine sj <| sn ?_
      refine LoopE.img (fun x : (Bytes × Int) => St.of [⟨1, AV.ptr 0 0, none⟩, ⟨2, AV.ptr 1 0, none⟩, ⟨4, ss x.1, none⟩, ⟨5, ii x.2, none⟩] [.cells 30 [ii a0.Stage, ss [], ii a0.Left, ii a0.Size] [], .cells 30 [ii 0, ss [], ii 0, ii 0] []] []) intarsiaref08_line_b1 (x2, (0 : Int)) h ?_ ?_
      ·exact W
      intro n1 x y1 h hl1 hr1
      obtain ⟨s4, s5⟩ := x
      unfold intarsiaref08_line_b1 at h
      dsimp only at h
      exact W
     ·clear hj3
      exact W
 ·refine sn <| sj ?_
  refine ai ⟨rfl, rfl, rfl, lb rfl⟩ (xi [ii a0.Stage, ss [], ii a0.Left, ii a0.Size] (ai (fun _ => rfl) ?_))
  refine sn <| sj <| sj <| ai id <| ai (fun hg => (and_r hg)) <| sn ?_
  refine bo h (fun ht h => ?_) fun ht h => ?_
  ·exact W
  ·refine sn <| sj <| sj <| sn ?_
   refine bo h (fun ht h => ?_) fun ht h => ?_
   ·exact W
   ·refine sn <| sj <| sj <| sn ?_
    refine bo h (fun ht h => ?_) fun ht h => ?_
    ·exact W
    ·refine sn <| be h fun j10 hj10 h => ?_
     refine SeqJ.join (St.of [⟨1, AV.ptr 0 0, none⟩, ⟨2, AV.ptr 1 0, none⟩, ⟨4, ss j10, none⟩] [.cells 30 [ii a0.Stage, ss [], ii a0.Left, ii a0.Size] [], .cells 30 [ii 0, ss [], ii 0, ii 0] []] []) ?_ ?_
     ·clear h; have h := hj10; clear hj10
      refine sj <| sn ?_
      refine LoopE.img (fun x : (Bytes × Int) => St.of [⟨1, AV.ptr 0 0, none⟩, ⟨2, AV.ptr 1 0, none⟩, ⟨4, ss x.1, none⟩, ⟨5, ii x.2, none⟩] [.cells 30 [ii a0.Stage, ss [], ii a0.Left, ii a0.Size] [], .cells 30 [ii 0, ss [], ii 0, ii 0] []] []) intarsiaref08_line_b2 (a0.Line, (0 : Int)) h ?_ ?_
      ·exact W
      intro n2 x y2 h hl2 hr2
      obtain ⟨s11, s12⟩ := x
      unfold intarsiaref08_line_b2 at h
      dsimp only at h
      exact W
     ·clear hj10
      exact W⟩
instance intarsiaref08_Step_ok (E : Pm.Env) [LaidM E] (a0 : S_Chunked) (a1 : Int) : Ok E (intarsiaref08_Step a0 a1) (fun r => FnR E Tryz.prog 64 [S_Chunked.av a0, AV.int .u8 a1] (AV.tup [S_Chunked.av r.1, ss r.2.1, ii r.2.2]) false) := ⟨fun r h => by
 refine FnR.of_ev (T := T) (rows := []) tOk mixed Tryz.func64 rfl (by kernel_rfl) (by kernel_rfl) rfl fun hwf => ?_
 unfold intarsiaref08_Step at h
 exact W⟩
instance intarsiaref08_Feed_ok (E : Pm.Env) [LaidM E] (a0 : S_Chunked) (a1 : Bytes) : Ok E (intarsiaref08_Feed a0 a1) (fun r => FnR E Tryz.prog 37 [S_Chunked.av a0, ss a1] (AV.tup [S_Chunked.av r.1, ss r.2.1, ii r.2.2.1, ii r.2.2.2]) false) := ⟨fun r h => by
 refine FnR.of_ev (T := T) (rows := []) tOk mixed Tryz.func37 rfl (by kernel_rfl) (by kernel_rfl) rfl fun hwf => ?_
 unfold intarsiaref08_Feed at h
 refine sj <| ai rfl ?_
 refine xi [] (xi 0 (ai ⟨rfl, rfl⟩ ?_))
 refine ai rfl <| sn <| sj <| sj <| ai ⟨lb rfl, lb rfl⟩ ?_
 refine xi none (ai rfl ?_)
 refine nt (S_Chunked.av a0) (fun _ => rfl) <| be h fun x1 hx1 h => cd _ false rfl ((intarsiaref08_Right_ok E a0).1 x1 hx1) <| sn ?_
 refine bo h (fun ht h => ?_) fun ht h => ?_
 ·exact W
 ·refine sn <| sj <| sn <| sj <| sn <| sj ?_
  refine LoopE.img (fun x : (Bytes × Int × S_Chunked) => St.of [⟨1, ss a1, none⟩, ⟨2, AV.ptr 0 0, none⟩, ⟨4, AV.ptr 1 0, none⟩, ⟨8, ss x.1, none⟩, ⟨9, ii x.2.1, none⟩] [.cells 30 (S_Chunked.cells x.2.2) [], .cells 30 [ii 0, ss [], ii 0, ii 0] []] []) (intarsiaref08_Feed_b1 a1) (([] : Bytes), (0 : Int), a0) h ?_ ?_
  ·exact W
  intro n1 x y1 h hl1 hr1
  obtain ⟨s2, s3, s4⟩ := x
  unfold intarsiaref08_Feed_b1 at h
  dsimp only at h
  exact W⟩
end Go.Proofs.YtdnjgojkpfbimaaGreatDoor
