/-
  The functions do what their images say: walks, written by a program of mine (gen.py).
-/
import Derived.Test.YtpionnihpibglaaGreatDoorIw1
import Derived.Test.YtpionnihpibglaaGreatDoorWk11
namespace Go.Proofs.YtpionnihpibglaaGreatDoor
open Go Go.Pm
set_option linter.unusedSimpArgs false
open And renaming intro → ai
open Exists renaming intro → xi
open Option.some renaming inj → oi
open _root_.Nat renaming le_of_ble_eq_true → lb
open Go.Pm.SeqJ renaming go → sj
open Go.Pm.SeqN renaming go → sn
set_option maxRecDepth 100000
set_option maxHeartbeats 4000000
set_option linter.unusedVariables false
theorem chunk_state_line_ok (E : Pm.Env) [LaidB E] (o0 : S_chunk_state) (a1 : Bytes) (r : Int) (o0' : S_chunk_state) (h : chunk_state_line o0 a1 = some (r, o0')) : FnW E Tryz.prog 107 [AV.ptr 0 0, ss a1] [.cells 130 (S_chunk_state.cells o0) []] [] (ii r) none [.cells 130 (S_chunk_state.cells o0') []] [] := by
 refine FnW.of_evB (T := T) (rows := []) tOk mixed Tryz.func107 rfl (by kernel_rfl) (by kernel_rfl) rfl rfl fun hwf => ?_
 unfold chunk_state_line at h
 refine sj <| sn <| sj <| sn <| sj <| sj <| sn <| sj <| sn ?_
 refine Br.of h (fun ht h => ?_) fun ht h => ?_
 ·refine sn <| sj <| bind_elim h fun x1 hx1 h => CallH.data _ false rfl (strings_IndexByte_ok E a1 (10 : Int) x1 hx1) ?_
  refine SeqN.via (St.of [⟨0, AV.ptr 0 0, none⟩, ⟨1, ss a1, none⟩, ⟨5, AV.fn 127 [AV.ptr 0 0] [], none⟩, ⟨6, ii x1, none⟩] [.cells 130 (S_chunk_state.cells o0) []] []) ?_ ?_
  ·refine Gho.to _ _ _ [] ?_ ?_ ?_ rfl rfl ?_
   ·exact ⟨⟨rfl, rfl, rfl⟩, trivial⟩
   ·exact rfl
   ·exact rfl
   ·exact tr3 <| tr3 <| tr3 <| tr3 <| trivial
  refine sj <| sn <| sj <| sj <| sn ?_
  refine Br.of h (fun ht h => ?_) fun ht h => ?_
  ·refine bind_elim h fun x2 hx2 h => ?_
   have qx2 := (slc_some hx2).1
   have hx2e := (slc_some hx2).2
   refine ai (fun _ => qx2) <| NormE.to (ss x2) (fun _ => congrArg ss hx2e.symm) <| sn <| sj <| sj <| NormE.same <| NormE.same ?_
   refine SeqN.via (St.of [⟨0, AV.ptr 0 0, none⟩, ⟨1, ss a1, none⟩, ⟨5, AV.fn 127 [AV.ptr 0 0] [], none⟩, ⟨6, ii x1, none⟩, ⟨7, ss x2, none⟩, ⟨41, bb (decide ((IntKind.i64.wrap ((o0.Chunked.Line.length : Int) + (x2.length : Int))) > (200 : Int))), none⟩] [.cells 130 (S_chunk_state.cells o0) []] []) ?_ ?_
   ·refine Gho.to _ _ _ [] ?_ ?_ ?_ rfl rfl ?_
    ·exact ⟨⟨rfl, rfl, rfl⟩, trivial⟩
    ·exact rfl
    ·exact rfl
    ·exact tr3 <| tr3 <| tr3 <| tr3 <| tr3 <| tr3 <| trivial
   refine Br.of h (fun ht h => ?_) fun ht h => ?_
   ·refine sj ?_
    refine ai ⟨rfl, rfl, rfl, lb rfl⟩ (xi [ii o0.Chunked.Stage, ss o0.Chunked.Line, ii o0.Chunked.Left, ii o0.Chunked.Size, ii 33] (ai (fun _ => rfl) ?_))
    refine sn <| sj <| sn ?_
    replace h := oi h
    have h0 := (Prod.mk.inj h).1
    have h1 := (Prod.mk.inj h).2
    subst h0
    subst h1
    refine xi [⟨4, ii 0, none⟩] (ai (Gho.to _ _ _ [] ?_ ?_ ?_ rfl rfl ?_) (ai ?_ rfl))
    ·exact ⟨⟨rfl, rfl, rfl⟩, trivial⟩
    ·exact rfl
    ·exact rfl
    ·exact tr3 <| trivial
    ·exact rfl
   ·refine sn <| sj <| sj <| bind_elim h fun x3 hx3 h => ?_
    have hx3c := (cat_some hx3).1
    have hx3e := (cat_some hx3).2
    refine ai (fun _ => hx3c) <| NormE.to (ss x3) (fun _ => congrArg ss hx3e.symm) ?_
    refine ai ⟨rfl, rfl, rfl, lb rfl⟩ (xi [ii o0.Chunked.Stage, ss x3, ii o0.Chunked.Left, ii o0.Chunked.Size, ii o0.bad] (ai (fun _ => rfl) ?_))
    refine sn <| sj <| sn ?_
    refine Br.of h (fun ht h => ?_) fun ht h => ?_
    ·refine sj <| NormE.same ?_
     refine SeqN.via (St.of [⟨4, ii (a1.length : Int), none⟩] [.cells 130 [ii o0.Chunked.Stage, ss x3, ii o0.Chunked.Left, ii o0.Chunked.Size, ii o0.bad] []] []) ?_ ?_
     ·refine Gho.to _ _ _ [] ?_ ?_ ?_ rfl rfl ?_
      ·exact ⟨⟨rfl, rfl, rfl⟩, trivial⟩
      ·exact rfl
      ·exact rfl
      ·exact tr3 <| trivial
     replace h := oi h
     have h0 := (Prod.mk.inj h).1
     have h1 := (Prod.mk.inj h).2
     subst h0
     subst h1
     refine xi [⟨4, ii (a1.length : Int), none⟩] (ai (Gho.to _ _ _ [] ?_ ?_ ?_ rfl rfl ?_) (ai ?_ rfl))
     ·exact ⟨⟨rfl, rfl, rfl⟩, trivial⟩
     ·exact rfl
     ·exact rfl
     ·exact tr3 <| trivial
     ·exact rfl
    ·refine sn <| sj <| bind_elim h fun x4 hx4 h => CallH.data _ false rfl (strings_TrimSuffix_ok E x3 ([13] : Bytes) x4 hx4) ?_
     refine SeqN.via (St.of [⟨0, AV.ptr 0 0, none⟩, ⟨5, AV.fn 127 [AV.ptr 0 0] [], none⟩, ⟨6, ii x1, none⟩, ⟨8, ss x4, none⟩] [.cells 130 [ii o0.Chunked.Stage, ss x3, ii o0.Chunked.Left, ii o0.Chunked.Size, ii o0.bad] []] []) ?_ ?_
     ·refine Gho.to _ _ _ [] ?_ ?_ ?_ rfl rfl ?_
      ·exact ⟨⟨rfl, rfl, rfl⟩, trivial⟩
      ·exact rfl
      ·exact rfl
      ·exact tr3 <| tr3 <| tr3 <| tr3 <| trivial
     refine sj ?_
     refine ai ⟨rfl, rfl, rfl, lb rfl⟩ (xi [ii o0.Chunked.Stage, ss [], ii o0.Chunked.Left, ii o0.Chunked.Size, ii o0.bad] (ai (fun _ => rfl) ?_))
     refine sn <| sj <| bind_elim h fun x5 hx5 h => CallH.ren [0] [] [.cells 130 (S_chunk_state.cells x5.2) []] [] (chunk_state_end_ok E (S_chunk_state.mk (S_Chunked.mk o0.Chunked.Stage ([] : Bytes) o0.Chunked.Left o0.Chunked.Size) o0.bad) x4 x5.1 x5.2 hx5) rfl rfl rfl rfl rfl rfl rfl rfl rfl <| sn <| sj <| sn ?_
     replace h := oi h
     have h0 := (Prod.mk.inj h).1
     have h1 := (Prod.mk.inj h).2
     subst h0
     subst h1
     refine xi [⟨4, ii (IntKind.i64.wrap (x1 + (1 : Int))), none⟩] (ai (Gho.to _ _ _ [] ?_ ?_ ?_ rfl rfl ?_) (ai ?_ rfl))
     ·exact ⟨⟨rfl, rfl, rfl⟩, trivial⟩
     ·exact rfl
     ·exact rfl
     ·exact tr3 <| trivial
     ·exact rfl
  ·refine sn <| sj <| sj <| NormE.same <| NormE.same <| sn ?_
   refine Br.of h (fun ht h => ?_) fun ht h => ?_
   ·refine sj ?_
    refine ai ⟨rfl, rfl, rfl, lb rfl⟩ (xi [ii o0.Chunked.Stage, ss o0.Chunked.Line, ii o0.Chunked.Left, ii o0.Chunked.Size, ii 33] (ai (fun _ => rfl) ?_))
    refine SeqN.via (St.of [] [.cells 130 [ii o0.Chunked.Stage, ss o0.Chunked.Line, ii o0.Chunked.Left, ii o0.Chunked.Size, ii 33] []] []) ?_ ?_
    ·refine Gho.to _ _ _ [] ?_ ?_ ?_ rfl rfl ?_
     ·exact ⟨⟨rfl, rfl, rfl⟩, trivial⟩
     ·exact rfl
     ·exact rfl
     ·exact trivial
    refine sj <| sn ?_
    replace h := oi h
    have h0 := (Prod.mk.inj h).1
    have h1 := (Prod.mk.inj h).2
    subst h0
    subst h1
    refine xi [⟨4, ii 0, none⟩] (ai (Gho.to _ _ _ [] ?_ ?_ ?_ rfl rfl ?_) (ai ?_ rfl))
    ·exact ⟨⟨rfl, rfl, rfl⟩, trivial⟩
    ·exact rfl
    ·exact rfl
    ·exact tr3 <| trivial
    ·exact rfl
   ·refine sn <| sj <| sj <| bind_elim h fun x6 hx6 h => ?_
    have hx6c := (cat_some hx6).1
    have hx6e := (cat_some hx6).2
    refine ai (fun _ => hx6c) <| NormE.to (ss x6) (fun _ => congrArg ss hx6e.symm) ?_
    refine ai ⟨rfl, rfl, rfl, lb rfl⟩ (xi [ii o0.Chunked.Stage, ss x6, ii o0.Chunked.Left, ii o0.Chunked.Size, ii o0.bad] (ai (fun _ => rfl) ?_))
    refine SeqN.via (St.of [⟨0, AV.ptr 0 0, none⟩, ⟨1, ss a1, none⟩, ⟨5, AV.fn 127 [AV.ptr 0 0] [], none⟩, ⟨6, ii x1, none⟩] [.cells 130 [ii o0.Chunked.Stage, ss x6, ii o0.Chunked.Left, ii o0.Chunked.Size, ii o0.bad] []] []) ?_ ?_
    ·refine Gho.to _ _ _ [] ?_ ?_ ?_ rfl rfl ?_
     ·exact ⟨⟨rfl, rfl, rfl⟩, trivial⟩
     ·exact rfl
     ·exact rfl
     ·exact tr3 <| tr3 <| tr3 <| tr3 <| trivial
    refine sj <| sn ?_
    refine Br.of h (fun ht h => ?_) fun ht h => ?_
    ·refine sj <| NormE.same <| sn ?_
     replace h := oi h
     have h0 := (Prod.mk.inj h).1
     have h1 := (Prod.mk.inj h).2
     subst h0
     subst h1
     refine xi [⟨4, ii (a1.length : Int), none⟩] (ai (Gho.to _ _ _ [] ?_ ?_ ?_ rfl rfl ?_) (ai ?_ rfl))
     ·exact ⟨⟨rfl, rfl, rfl⟩, trivial⟩
     ·exact rfl
     ·exact rfl
     ·exact tr3 <| trivial
     ·exact rfl
    ·refine sn <| sj <| bind_elim h fun x7 hx7 h => CallH.data _ false rfl (strings_TrimSuffix_ok E x6 ([13] : Bytes) x7 hx7) <| sn <| sj ?_
     refine ai ⟨rfl, rfl, rfl, lb rfl⟩ (xi [ii o0.Chunked.Stage, ss [], ii o0.Chunked.Left, ii o0.Chunked.Size, ii o0.bad] (ai (fun _ => rfl) ?_))
     refine sn <| sj <| bind_elim h fun x8 hx8 h => CallH.ren [0] [] [.cells 130 (S_chunk_state.cells x8.2) []] [] (chunk_state_end_ok E (S_chunk_state.mk (S_Chunked.mk o0.Chunked.Stage ([] : Bytes) o0.Chunked.Left o0.Chunked.Size) o0.bad) x7 x8.1 x8.2 hx8) rfl rfl rfl rfl rfl rfl rfl rfl rfl ?_
     refine SeqN.via (St.of [⟨6, ii x1, none⟩] [.cells 130 (S_chunk_state.cells x8.2) []] []) ?_ ?_
     ·refine Gho.to _ _ _ [] ?_ ?_ ?_ rfl rfl ?_
      ·exact ⟨⟨rfl, rfl, rfl⟩, trivial⟩
      ·exact rfl
      ·exact rfl
      ·exact tr3 <| trivial
     refine sj <| sn ?_
     replace h := oi h
     have h0 := (Prod.mk.inj h).1
     have h1 := (Prod.mk.inj h).2
     subst h0
     subst h1
     refine xi [⟨4, ii (IntKind.i64.wrap (x1 + (1 : Int))), none⟩] (ai (Gho.to _ _ _ [] ?_ ?_ ?_ rfl rfl ?_) (ai ?_ rfl))
     ·exact ⟨⟨rfl, rfl, rfl⟩, trivial⟩
     ·exact rfl
     ·exact rfl
     ·exact tr3 <| trivial
     ·exact rfl
 ·refine sj <| sn ?_
  refine Br.of h (fun ht h => ?_) fun ht h => ?_
  ·refine SeqN.via (St.of [⟨0, AV.ptr 0 0, none⟩, ⟨1, ss a1, none⟩, ⟨5, AV.fn 128 [AV.ptr 0 0] [], none⟩] [.cells 130 (S_chunk_state.cells o0) []] []) ?_ ?_
   ·refine Gho.to _ _ _ [] ?_ ?_ ?_ rfl rfl ?_
    ·exact ⟨⟨rfl, rfl, rfl⟩, trivial⟩
    ·exact rfl
    ·exact rfl
    ·exact tr3 <| tr3 <| tr3 <| trivial
   refine sj <| bind_elim h fun x9 hx9 h => CallH.data _ false rfl (strings_IndexByte_ok E a1 (10 : Int) x9 hx9) <| sn <| sj <| sn <| sj <| sj <| sn ?_
   refine Br.of h (fun ht h => ?_) fun ht h => ?_
   ·refine bind_elim h fun x10 hx10 h => ?_
    have qx10 := (slc_some hx10).1
    have hx10e := (slc_some hx10).2
    refine ai (fun _ => qx10) <| NormE.to (ss x10) (fun _ => congrArg ss hx10e.symm) <| sn <| sj <| sj <| NormE.same <| NormE.same ?_
    refine SeqN.via (St.of [⟨0, AV.ptr 0 0, none⟩, ⟨1, ss a1, none⟩, ⟨5, AV.fn 128 [AV.ptr 0 0] [], none⟩, ⟨6, ii x9, none⟩, ⟨7, ss x10, none⟩, ⟨41, bb (decide ((IntKind.i64.wrap ((o0.Chunked.Line.length : Int) + (x10.length : Int))) > (200 : Int))), none⟩] [.cells 130 (S_chunk_state.cells o0) []] []) ?_ ?_
    ·refine Gho.to _ _ _ [] ?_ ?_ ?_ rfl rfl ?_
     ·exact ⟨⟨rfl, rfl, rfl⟩, trivial⟩
     ·exact rfl
     ·exact rfl
     ·exact tr3 <| tr3 <| tr3 <| tr3 <| tr3 <| tr3 <| trivial
    refine Br.of h (fun ht h => ?_) fun ht h => ?_
    ·refine sj ?_
     refine ai ⟨rfl, rfl, rfl, lb rfl⟩ (xi [ii o0.Chunked.Stage, ss o0.Chunked.Line, ii o0.Chunked.Left, ii o0.Chunked.Size, ii 33] (ai (fun _ => rfl) ?_))
     refine sn <| sj <| sn ?_
     replace h := oi h
     have h0 := (Prod.mk.inj h).1
     have h1 := (Prod.mk.inj h).2
     subst h0
     subst h1
     refine xi [⟨4, ii 0, none⟩] (ai (Gho.to _ _ _ [] ?_ ?_ ?_ rfl rfl ?_) (ai ?_ rfl))
     ·exact ⟨⟨rfl, rfl, rfl⟩, trivial⟩
     ·exact rfl
     ·exact rfl
     ·exact tr3 <| trivial
     ·exact rfl
    ·refine sn <| sj <| sj <| bind_elim h fun x11 hx11 h => ?_
     have hx11c := (cat_some hx11).1
     have hx11e := (cat_some hx11).2
     refine ai (fun _ => hx11c) <| NormE.to (ss x11) (fun _ => congrArg ss hx11e.symm) ?_
     refine ai ⟨rfl, rfl, rfl, lb rfl⟩ (xi [ii o0.Chunked.Stage, ss x11, ii o0.Chunked.Left, ii o0.Chunked.Size, ii o0.bad] (ai (fun _ => rfl) ?_))
     refine sn <| sj <| sn ?_
     refine Br.of h (fun ht h => ?_) fun ht h => ?_
     ·refine sj <| NormE.same ?_
      refine SeqN.via (St.of [⟨4, ii (a1.length : Int), none⟩] [.cells 130 [ii o0.Chunked.Stage, ss x11, ii o0.Chunked.Left, ii o0.Chunked.Size, ii o0.bad] []] []) ?_ ?_
      ·refine Gho.to _ _ _ [] ?_ ?_ ?_ rfl rfl ?_
       ·exact ⟨⟨rfl, rfl, rfl⟩, trivial⟩
       ·exact rfl
       ·exact rfl
       ·exact tr3 <| trivial
      replace h := oi h
      have h0 := (Prod.mk.inj h).1
      have h1 := (Prod.mk.inj h).2
      subst h0
      subst h1
      refine xi [⟨4, ii (a1.length : Int), none⟩] (ai (Gho.to _ _ _ [] ?_ ?_ ?_ rfl rfl ?_) (ai ?_ rfl))
      ·exact ⟨⟨rfl, rfl, rfl⟩, trivial⟩
      ·exact rfl
      ·exact rfl
      ·exact tr3 <| trivial
      ·exact rfl
     ·refine sn <| sj <| bind_elim h fun x12 hx12 h => CallH.data _ false rfl (strings_TrimSuffix_ok E x11 ([13] : Bytes) x12 hx12) ?_
      refine SeqN.via (St.of [⟨0, AV.ptr 0 0, none⟩, ⟨5, AV.fn 128 [AV.ptr 0 0] [], none⟩, ⟨6, ii x9, none⟩, ⟨8, ss x12, none⟩] [.cells 130 [ii o0.Chunked.Stage, ss x11, ii o0.Chunked.Left, ii o0.Chunked.Size, ii o0.bad] []] []) ?_ ?_
      ·refine Gho.to _ _ _ [] ?_ ?_ ?_ rfl rfl ?_
       ·exact ⟨⟨rfl, rfl, rfl⟩, trivial⟩
       ·exact rfl
       ·exact rfl
       ·exact tr3 <| tr3 <| tr3 <| tr3 <| trivial
      refine sj ?_
      refine ai ⟨rfl, rfl, rfl, lb rfl⟩ (xi [ii o0.Chunked.Stage, ss [], ii o0.Chunked.Left, ii o0.Chunked.Size, ii o0.bad] (ai (fun _ => rfl) ?_))
      refine sn <| sj <| bind_elim h fun x13 hx13 h => CallH.ren [0] [] [.cells 130 (S_chunk_state.cells x13.2) []] [] (chunk_state_tail_ok E (S_chunk_state.mk (S_Chunked.mk o0.Chunked.Stage ([] : Bytes) o0.Chunked.Left o0.Chunked.Size) o0.bad) x12 x13.1 x13.2 hx13) rfl rfl rfl rfl rfl rfl rfl rfl rfl <| sn <| sj <| sn ?_
      replace h := oi h
      have h0 := (Prod.mk.inj h).1
      have h1 := (Prod.mk.inj h).2
      subst h0
      subst h1
      refine xi [⟨4, ii (IntKind.i64.wrap (x9 + (1 : Int))), none⟩] (ai (Gho.to _ _ _ [] ?_ ?_ ?_ rfl rfl ?_) (ai ?_ rfl))
      ·exact ⟨⟨rfl, rfl, rfl⟩, trivial⟩
      ·exact rfl
      ·exact rfl
      ·exact tr3 <| trivial
      ·exact rfl
   ·refine sn <| sj <| sj <| NormE.same <| NormE.same ?_
    refine SeqN.via (St.of [⟨0, AV.ptr 0 0, none⟩, ⟨1, ss a1, none⟩, ⟨5, AV.fn 128 [AV.ptr 0 0] [], none⟩, ⟨6, ii x9, none⟩, ⟨7, ss a1, none⟩, ⟨41, bb (decide ((IntKind.i64.wrap ((o0.Chunked.Line.length : Int) + (a1.length : Int))) > (200 : Int))), none⟩] [.cells 130 (S_chunk_state.cells o0) []] []) ?_ ?_
    ·refine Gho.to _ _ _ [] ?_ ?_ ?_ rfl rfl ?_
     ·exact ⟨⟨rfl, rfl, rfl⟩, trivial⟩
     ·exact rfl
     ·exact rfl
     ·exact tr3 <| tr3 <| tr3 <| tr3 <| tr3 <| tr3 <| trivial
    refine Br.of h (fun ht h => ?_) fun ht h => ?_
    ·refine sj ?_
     refine ai ⟨rfl, rfl, rfl, lb rfl⟩ (xi [ii o0.Chunked.Stage, ss o0.Chunked.Line, ii o0.Chunked.Left, ii o0.Chunked.Size, ii 33] (ai (fun _ => rfl) ?_))
     refine sn <| sj <| sn ?_
     replace h := oi h
     have h0 := (Prod.mk.inj h).1
     have h1 := (Prod.mk.inj h).2
     subst h0
     subst h1
     refine xi [⟨4, ii 0, none⟩] (ai (Gho.to _ _ _ [] ?_ ?_ ?_ rfl rfl ?_) (ai ?_ rfl))
     ·exact ⟨⟨rfl, rfl, rfl⟩, trivial⟩
     ·exact rfl
     ·exact rfl
     ·exact tr3 <| trivial
     ·exact rfl
    ·refine sn <| sj <| sj <| bind_elim h fun x14 hx14 h => ?_
     have hx14c := (cat_some hx14).1
     have hx14e := (cat_some hx14).2
     refine ai (fun _ => hx14c) <| NormE.to (ss x14) (fun _ => congrArg ss hx14e.symm) ?_
     refine ai ⟨rfl, rfl, rfl, lb rfl⟩ (xi [ii o0.Chunked.Stage, ss x14, ii o0.Chunked.Left, ii o0.Chunked.Size, ii o0.bad] (ai (fun _ => rfl) ?_))
     refine sn <| sj <| sn ?_
     refine Br.of h (fun ht h => ?_) fun ht h => ?_
     ·refine sj <| NormE.same ?_
      refine SeqN.via (St.of [⟨4, ii (a1.length : Int), none⟩] [.cells 130 [ii o0.Chunked.Stage, ss x14, ii o0.Chunked.Left, ii o0.Chunked.Size, ii o0.bad] []] []) ?_ ?_
      ·refine Gho.to _ _ _ [] ?_ ?_ ?_ rfl rfl ?_
       ·exact ⟨⟨rfl, rfl, rfl⟩, trivial⟩
       ·exact rfl
       ·exact rfl
       ·exact tr3 <| trivial
      replace h := oi h
      have h0 := (Prod.mk.inj h).1
      have h1 := (Prod.mk.inj h).2
      subst h0
      subst h1
      refine xi [⟨4, ii (a1.length : Int), none⟩] (ai (Gho.to _ _ _ [] ?_ ?_ ?_ rfl rfl ?_) (ai ?_ rfl))
      ·exact ⟨⟨rfl, rfl, rfl⟩, trivial⟩
      ·exact rfl
      ·exact rfl
      ·exact tr3 <| trivial
      ·exact rfl
     ·refine sn <| sj <| bind_elim h fun x15 hx15 h => CallH.data _ false rfl (strings_TrimSuffix_ok E x14 ([13] : Bytes) x15 hx15) ?_
      refine SeqN.via (St.of [⟨0, AV.ptr 0 0, none⟩, ⟨5, AV.fn 128 [AV.ptr 0 0] [], none⟩, ⟨6, ii x9, none⟩, ⟨8, ss x15, none⟩] [.cells 130 [ii o0.Chunked.Stage, ss x14, ii o0.Chunked.Left, ii o0.Chunked.Size, ii o0.bad] []] []) ?_ ?_
      ·refine Gho.to _ _ _ [] ?_ ?_ ?_ rfl rfl ?_
       ·exact ⟨⟨rfl, rfl, rfl⟩, trivial⟩
       ·exact rfl
       ·exact rfl
       ·exact tr3 <| tr3 <| tr3 <| tr3 <| trivial
      refine sj ?_
      refine ai ⟨rfl, rfl, rfl, lb rfl⟩ (xi [ii o0.Chunked.Stage, ss [], ii o0.Chunked.Left, ii o0.Chunked.Size, ii o0.bad] (ai (fun _ => rfl) ?_))
      refine sn <| sj <| bind_elim h fun x16 hx16 h => CallH.ren [0] [] [.cells 130 (S_chunk_state.cells x16.2) []] [] (chunk_state_tail_ok E (S_chunk_state.mk (S_Chunked.mk o0.Chunked.Stage ([] : Bytes) o0.Chunked.Left o0.Chunked.Size) o0.bad) x15 x16.1 x16.2 hx16) rfl rfl rfl rfl rfl rfl rfl rfl rfl <| sn <| sj <| sn ?_
      replace h := oi h
      have h0 := (Prod.mk.inj h).1
      have h1 := (Prod.mk.inj h).2
      subst h0
      subst h1
      refine xi [⟨4, ii (IntKind.i64.wrap (x9 + (1 : Int))), none⟩] (ai (Gho.to _ _ _ [] ?_ ?_ ?_ rfl rfl ?_) (ai ?_ rfl))
      ·exact ⟨⟨rfl, rfl, rfl⟩, trivial⟩
      ·exact rfl
      ·exact rfl
      ·exact tr3 <| trivial
      ·exact rfl
  ·refine sn <| sj <| bind_elim h fun x17 hx17 h => CallH.data _ false rfl (strings_IndexByte_ok E a1 (10 : Int) x17 hx17) ?_
   refine SeqN.via (St.of [⟨0, AV.ptr 0 0, none⟩, ⟨1, ss a1, none⟩, ⟨5, AV.fn 126 [AV.ptr 0 0] [], none⟩, ⟨6, ii x17, none⟩] [.cells 130 (S_chunk_state.cells o0) []] []) ?_ ?_
   ·refine Gho.to _ _ _ [] ?_ ?_ ?_ rfl rfl ?_
    ·exact ⟨⟨rfl, rfl, rfl⟩, trivial⟩
    ·exact rfl
    ·exact rfl
    ·exact tr3 <| tr3 <| tr3 <| tr3 <| trivial
   refine sj <| sn <| sj <| sj <| sn ?_
   refine Br.of h (fun ht h => ?_) fun ht h => ?_
   ·refine bind_elim h fun x18 hx18 h => ?_
    have qx18 := (slc_some hx18).1
    have hx18e := (slc_some hx18).2
    refine ai (fun _ => qx18) <| NormE.to (ss x18) (fun _ => congrArg ss hx18e.symm) <| sn <| sj <| sj <| NormE.same <| NormE.same ?_
    refine SeqN.via (St.of [⟨0, AV.ptr 0 0, none⟩, ⟨1, ss a1, none⟩, ⟨5, AV.fn 126 [AV.ptr 0 0] [], none⟩, ⟨6, ii x17, none⟩, ⟨7, ss x18, none⟩, ⟨41, bb (decide ((IntKind.i64.wrap ((o0.Chunked.Line.length : Int) + (x18.length : Int))) > (200 : Int))), none⟩] [.cells 130 (S_chunk_state.cells o0) []] []) ?_ ?_
    ·refine Gho.to _ _ _ [] ?_ ?_ ?_ rfl rfl ?_
     ·exact ⟨⟨rfl, rfl, rfl⟩, trivial⟩
     ·exact rfl
     ·exact rfl
     ·exact tr3 <| tr3 <| tr3 <| tr3 <| tr3 <| tr3 <| trivial
    refine Br.of h (fun ht h => ?_) fun ht h => ?_
    ·refine sj ?_
     refine ai ⟨rfl, rfl, rfl, lb rfl⟩ (xi [ii o0.Chunked.Stage, ss o0.Chunked.Line, ii o0.Chunked.Left, ii o0.Chunked.Size, ii 33] (ai (fun _ => rfl) ?_))
     refine sn <| sj <| sn ?_
     replace h := oi h
     have h0 := (Prod.mk.inj h).1
     have h1 := (Prod.mk.inj h).2
     subst h0
     subst h1
     refine xi [⟨4, ii 0, none⟩] (ai (Gho.to _ _ _ [] ?_ ?_ ?_ rfl rfl ?_) (ai ?_ rfl))
     ·exact ⟨⟨rfl, rfl, rfl⟩, trivial⟩
     ·exact rfl
     ·exact rfl
     ·exact tr3 <| trivial
     ·exact rfl
    ·refine sn <| sj <| sj <| bind_elim h fun x19 hx19 h => ?_
     have hx19c := (cat_some hx19).1
     have hx19e := (cat_some hx19).2
     refine ai (fun _ => hx19c) <| NormE.to (ss x19) (fun _ => congrArg ss hx19e.symm) ?_
     refine ai ⟨rfl, rfl, rfl, lb rfl⟩ (xi [ii o0.Chunked.Stage, ss x19, ii o0.Chunked.Left, ii o0.Chunked.Size, ii o0.bad] (ai (fun _ => rfl) ?_))
     refine sn <| sj <| sn ?_
     refine Br.of h (fun ht h => ?_) fun ht h => ?_
     ·refine sj <| NormE.same ?_
      refine SeqN.via (St.of [⟨4, ii (a1.length : Int), none⟩] [.cells 130 [ii o0.Chunked.Stage, ss x19, ii o0.Chunked.Left, ii o0.Chunked.Size, ii o0.bad] []] []) ?_ ?_
      ·refine Gho.to _ _ _ [] ?_ ?_ ?_ rfl rfl ?_
       ·exact ⟨⟨rfl, rfl, rfl⟩, trivial⟩
       ·exact rfl
       ·exact rfl
       ·exact tr3 <| trivial
      replace h := oi h
      have h0 := (Prod.mk.inj h).1
      have h1 := (Prod.mk.inj h).2
      subst h0
      subst h1
      refine xi [⟨4, ii (a1.length : Int), none⟩] (ai (Gho.to _ _ _ [] ?_ ?_ ?_ rfl rfl ?_) (ai ?_ rfl))
      ·exact ⟨⟨rfl, rfl, rfl⟩, trivial⟩
      ·exact rfl
      ·exact rfl
      ·exact tr3 <| trivial
      ·exact rfl
     ·refine sn <| sj <| bind_elim h fun x20 hx20 h => CallH.data _ false rfl (strings_TrimSuffix_ok E x19 ([13] : Bytes) x20 hx20) ?_
      refine SeqN.via (St.of [⟨0, AV.ptr 0 0, none⟩, ⟨5, AV.fn 126 [AV.ptr 0 0] [], none⟩, ⟨6, ii x17, none⟩, ⟨8, ss x20, none⟩] [.cells 130 [ii o0.Chunked.Stage, ss x19, ii o0.Chunked.Left, ii o0.Chunked.Size, ii o0.bad] []] []) ?_ ?_
      ·refine Gho.to _ _ _ [] ?_ ?_ ?_ rfl rfl ?_
       ·exact ⟨⟨rfl, rfl, rfl⟩, trivial⟩
       ·exact rfl
       ·exact rfl
       ·exact tr3 <| tr3 <| tr3 <| tr3 <| trivial
      refine sj ?_
      refine ai ⟨rfl, rfl, rfl, lb rfl⟩ (xi [ii o0.Chunked.Stage, ss [], ii o0.Chunked.Left, ii o0.Chunked.Size, ii o0.bad] (ai (fun _ => rfl) ?_))
      refine sn <| sj <| bind_elim h fun x21 hx21 h => CallH.ren [0] [] [.cells 130 (S_chunk_state.cells x21.2) []] [] (chunk_state_size_ok E (S_chunk_state.mk (S_Chunked.mk o0.Chunked.Stage ([] : Bytes) o0.Chunked.Left o0.Chunked.Size) o0.bad) x20 x21.1 x21.2 hx21) rfl rfl rfl rfl rfl rfl rfl rfl rfl <| sn <| sj <| sn ?_
      replace h := oi h
      have h0 := (Prod.mk.inj h).1
      have h1 := (Prod.mk.inj h).2
      subst h0
      subst h1
      refine xi [⟨4, ii (IntKind.i64.wrap (x17 + (1 : Int))), none⟩] (ai (Gho.to _ _ _ [] ?_ ?_ ?_ rfl rfl ?_) (ai ?_ rfl))
      ·exact ⟨⟨rfl, rfl, rfl⟩, trivial⟩
      ·exact rfl
      ·exact rfl
      ·exact tr3 <| trivial
      ·exact rfl
   ·refine sn <| sj <| sj <| NormE.same <| NormE.same <| sn ?_
    refine Br.of h (fun ht h => ?_) fun ht h => ?_
    ·refine sj ?_
     refine ai ⟨rfl, rfl, rfl, lb rfl⟩ (xi [ii o0.Chunked.Stage, ss o0.Chunked.Line, ii o0.Chunked.Left, ii o0.Chunked.Size, ii 33] (ai (fun _ => rfl) ?_))
     refine SeqN.via (St.of [] [.cells 130 [ii o0.Chunked.Stage, ss o0.Chunked.Line, ii o0.Chunked.Left, ii o0.Chunked.Size, ii 33] []] []) ?_ ?_
     ·refine Gho.to _ _ _ [] ?_ ?_ ?_ rfl rfl ?_
      ·exact ⟨⟨rfl, rfl, rfl⟩, trivial⟩
      ·exact rfl
      ·exact rfl
      ·exact trivial
     refine sj <| sn ?_
     replace h := oi h
     have h0 := (Prod.mk.inj h).1
     have h1 := (Prod.mk.inj h).2
     subst h0
     subst h1
     refine xi [⟨4, ii 0, none⟩] (ai (Gho.to _ _ _ [] ?_ ?_ ?_ rfl rfl ?_) (ai ?_ rfl))
     ·exact ⟨⟨rfl, rfl, rfl⟩, trivial⟩
     ·exact rfl
     ·exact rfl
     ·exact tr3 <| trivial
     ·exact rfl
    ·refine sn <| sj <| sj <| bind_elim h fun x22 hx22 h => ?_
     have hx22c := (cat_some hx22).1
     have hx22e := (cat_some hx22).2
     refine ai (fun _ => hx22c) <| NormE.to (ss x22) (fun _ => congrArg ss hx22e.symm) ?_
     refine ai ⟨rfl, rfl, rfl, lb rfl⟩ (xi [ii o0.Chunked.Stage, ss x22, ii o0.Chunked.Left, ii o0.Chunked.Size, ii o0.bad] (ai (fun _ => rfl) ?_))
     refine SeqN.via (St.of [⟨0, AV.ptr 0 0, none⟩, ⟨1, ss a1, none⟩, ⟨5, AV.fn 126 [AV.ptr 0 0] [], none⟩, ⟨6, ii x17, none⟩] [.cells 130 [ii o0.Chunked.Stage, ss x22, ii o0.Chunked.Left, ii o0.Chunked.Size, ii o0.bad] []] []) ?_ ?_
     ·refine Gho.to _ _ _ [] ?_ ?_ ?_ rfl rfl ?_
      ·exact ⟨⟨rfl, rfl, rfl⟩, trivial⟩
      ·exact rfl
      ·exact rfl
      ·exact tr3 <| tr3 <| tr3 <| tr3 <| trivial
     refine sj <| sn ?_
     refine Br.of h (fun ht h => ?_) fun ht h => ?_
     ·refine sj <| NormE.same <| sn ?_
      replace h := oi h
      have h0 := (Prod.mk.inj h).1
      have h1 := (Prod.mk.inj h).2
      subst h0
      subst h1
      refine xi [⟨4, ii (a1.length : Int), none⟩] (ai (Gho.to _ _ _ [] ?_ ?_ ?_ rfl rfl ?_) (ai ?_ rfl))
      ·exact ⟨⟨rfl, rfl, rfl⟩, trivial⟩
      ·exact rfl
      ·exact rfl
      ·exact tr3 <| trivial
      ·exact rfl
     ·refine sn <| sj <| bind_elim h fun x23 hx23 h => CallH.data _ false rfl (strings_TrimSuffix_ok E x22 ([13] : Bytes) x23 hx23) <| sn <| sj ?_
      refine ai ⟨rfl, rfl, rfl, lb rfl⟩ (xi [ii o0.Chunked.Stage, ss [], ii o0.Chunked.Left, ii o0.Chunked.Size, ii o0.bad] (ai (fun _ => rfl) ?_))
      refine sn <| sj <| bind_elim h fun x24 hx24 h => CallH.ren [0] [] [.cells 130 (S_chunk_state.cells x24.2) []] [] (chunk_state_size_ok E (S_chunk_state.mk (S_Chunked.mk o0.Chunked.Stage ([] : Bytes) o0.Chunked.Left o0.Chunked.Size) o0.bad) x23 x24.1 x24.2 hx24) rfl rfl rfl rfl rfl rfl rfl rfl rfl ?_
      refine SeqN.via (St.of [⟨6, ii x17, none⟩] [.cells 130 (S_chunk_state.cells x24.2) []] []) ?_ ?_
      ·refine Gho.to _ _ _ [] ?_ ?_ ?_ rfl rfl ?_
       ·exact ⟨⟨rfl, rfl, rfl⟩, trivial⟩
       ·exact rfl
       ·exact rfl
       ·exact tr3 <| trivial
      refine sj <| sn ?_
      replace h := oi h
      have h0 := (Prod.mk.inj h).1
      have h1 := (Prod.mk.inj h).2
      subst h0
      subst h1
      refine xi [⟨4, ii (IntKind.i64.wrap (x17 + (1 : Int))), none⟩] (ai (Gho.to _ _ _ [] ?_ ?_ ?_ rfl rfl ?_) (ai ?_ rfl))
      ·exact ⟨⟨rfl, rfl, rfl⟩, trivial⟩
      ·exact rfl
      ·exact rfl
      ·exact tr3 <| trivial
      ·exact rfl
theorem chunk_Feed_ok (E : Pm.Env) [LaidB E] (a0 : S_Chunked) (a1 : Bytes) (r : (S_Chunked × Bytes × Int × Int)) (h : chunk_Feed a0 a1 = some r) : FnR E Tryz.prog 73 [S_Chunked.av a0, ss a1] (AV.tup [S_Chunked.av r.1, ss r.2.1, ii r.2.2.1, ii r.2.2.2]) false := by
 refine FnR.of_ev (T := T) (rows := [9]) tOk mixed Tryz.func73 rfl (by kernel_rfl) (by kernel_rfl) rfl fun hwf => ?_
 unfold chunk_Feed at h
 refine sj <| ai rfl <| ai rfl <| sn <| sj <| sj <| ai ⟨lb rfl, lb rfl⟩ <| NormE.to (S_Chunked.av a0) (fun _ => rfl) <| bind_elim h fun x1 hx1 h => CallH.data _ false rfl (chunk_Right_ok E a0 x1 hx1) <| sn ?_
 refine Br.of h (fun ht h => ?_) fun ht h => ?_
 ·refine sj ?_
  refine xi none (ai trivial ?_)
  refine ai ⟨rfl, rfl, rfl, lb rfl⟩ (xi [ii 0, ss [], ii 0, ii 0] (ai (fun _ => rfl) ?_))
  refine sn ?_
  replace h := oi h
  refine RetE.plain ?_
  refine ai ⟨lb rfl, lb rfl⟩ (xi (AV.agg [ii 0, ss [], ii 0, ii 0]) (ai rfl ?_))
  subst h; exact ai rfl (ai rfl rfl)
 ·refine sn <| sj <| ai ⟨lb rfl, lb rfl⟩ <| NormE.to (S_Chunked.av a0) (fun _ => rfl) <| ai ⟨rfl, rfl, lb rfl⟩ ?_
  refine xi none (ai trivial ?_)
  refine ai rfl <| sn <| sj ?_
  refine xi 5 (ai rfl ?_)
  refine sn <| sj <| sn <| sj ?_
  refine LoopE.img (fun x : (Int × S_chunk_state × Bytes) => St.of [⟨1, ss a1, none⟩, ⟨4, AV.ptr 1 0, none⟩, ⟨8, AV.ptr 2 0, none⟩, ⟨9, AV.ptr 3 0, none⟩, ⟨10, ii x.1, none⟩] [.dead, .cells 37 [ii 0, ss [], ii 0, ii 0] [], .cells 130 (S_chunk_state.cells x.2.1) [], .mp (.bld 80 5 x.2.2)] []) (chunk_Feed_b1 a1) ((0 : Int), (S_chunk_state.mk a0 (0 : Int)), ([] : Bytes)) h ?_ ?_
  ·refine Gho.to _ _ _ [] ?_ ?_ ?_ rfl rfl ?_
   ·exact ⟨trivial, ⟨⟨rfl, rfl, rfl⟩, ⟨⟨rfl, rfl, rfl⟩, ⟨rfl, trivial⟩⟩⟩⟩
   ·exact rfl
   ·exact rfl
   ·exact tr3 <| tr3 <| tr3 <| tr3 <| tr3 <| trivial
  intro n1 x y1 h hl1 hr1
  obtain ⟨s2, s3, s4⟩ := x
  unfold chunk_Feed_b1 at h
  dsimp only at h
  refine sj <| sj <| NormE.same <| ai id <| ai id <| ai id <| ai id <| ai id <| ai (fun hg => (and_r hg)) <| sn ?_
  refine Br.of h (fun ht h => ?_) fun ht h => ?_
  ·refine sn <| sj <| sj ?_
   refine SeqN.via (St.of [⟨1, ss a1, none⟩, ⟨4, AV.ptr 1 0, none⟩, ⟨8, AV.ptr 2 0, none⟩, ⟨9, AV.ptr 3 0, none⟩, ⟨10, ii s2, none⟩, ⟨36, bb (s3.Chunked.Stage != (1 : Int)), none⟩] [.dead, .cells 37 [ii 0, ss [], ii 0, ii 0] [], .cells 130 (S_chunk_state.cells s3) [], .mp (.bld 80 5 s4)] []) ?_ ?_
   ·refine Gho.to _ _ _ [] ?_ ?_ ?_ rfl rfl ?_
    ·exact ⟨trivial, ⟨⟨rfl, rfl, rfl⟩, ⟨⟨rfl, rfl, rfl⟩, ⟨rfl, trivial⟩⟩⟩⟩
    ·exact rfl
    ·exact rfl
    ·exact tr3 <| tr3 <| tr3 <| tr3 <| tr3 <| tr3 <| trivial
   refine Br.of h (fun ht h => ?_) fun ht h => ?_
   ·refine sj <| bind_elim h fun x5 hx5 h => ?_
    have qx5 := (slc_some hx5).1
    have hx5e := (slc_some hx5).2
    refine ai (fun _ => qx5) <| NormE.to (ss x5) (fun _ => congrArg ss hx5e.symm) <| bind_elim h fun x6 hx6 h => CallH.ren [2] [] [.dead, .cells 37 [ii 0, ss [], ii 0, ii 0] [], .cells 130 (S_chunk_state.cells x6.2) [], .mp (.bld 80 5 s4)] [] (chunk_state_line_ok E s3 x5 x6.1 x6.2 hx6) rfl rfl rfl rfl rfl rfl rfl rfl rfl <| sn <| sj <| sj <| sn ?_
    refine Br.of h (fun ht h => ?_) fun ht h => ?_
    ·refine sj ?_
     refine xi none (ai trivial ?_)
     refine ai ⟨rfl, rfl, rfl, lb rfl⟩ (xi [ii 0, ss [], ii 0, ii 0] (ai (fun _ => rfl) ?_))
     refine ai (by kernel_rfl) ?_
     refine SeqN.via (St.of [⟨4, AV.ptr 1 0, none⟩, ⟨5, ss [], none⟩, ⟨6, ii 0, none⟩, ⟨7, ii x6.2.bad, none⟩] [.dead, .cells 37 [ii 0, ss [], ii 0, ii 0] []] []) ?_ ?_
     ·refine Gho.to _ _ _ [] ?_ ?_ ?_ rfl rfl ?_
      ·exact ⟨trivial, ⟨⟨rfl, rfl, rfl⟩, trivial⟩⟩
      ·exact rfl
      ·exact rfl
      ·exact tr3 <| tr3 <| tr3 <| tr3 <| trivial
     replace h := oi h
     replace h := hr1 _ h.symm
     refine RetE.plain ?_
     refine ai ⟨lb rfl, lb rfl⟩ (xi (AV.agg [ii 0, ss [], ii 0, ii 0]) (ai rfl ?_))
     subst h; exact ai rfl (ai rfl rfl)
    ·refine sn ?_
     replace h := oi h
     refine xi ⟨(n1, ((IntKind.i64.wrap (s2 + x6.1)), x6.2, s4)), hl1 _ h.symm⟩ (ai (Nat.lt_succ_self _) ?_)
     refine Gho.to _ _ _ [] ?_ ?_ ?_ rfl rfl ?_
     ·exact ⟨trivial, ⟨⟨rfl, rfl, rfl⟩, ⟨⟨rfl, rfl, rfl⟩, ⟨rfl, trivial⟩⟩⟩⟩
     ·exact rfl
     ·exact rfl
     ·exact tr3 <| tr3 <| tr3 <| tr3 <| tr3 <| trivial
   ·refine sn <| sj <| NormE.same <| ai rfl <| sn <| sj <| bind_elim h fun x7 hx7 h => ?_
    have qx7 := (slc_some hx7).1
    have hx7e := (slc_some hx7).2
    refine ai (fun _ => qx7) <| NormE.to (ss x7) (fun _ => congrArg ss hx7e.symm) <| bind_elim h fun x8 hx8 h => ?_
    have qx8 := (bcat_some hx8).1
    have hx8e := (bcat_some hx8).2
    refine CallH.bldW L166 XB 3 s4 x7 rfl 80 5 rfl rfl [.dead, .cells 37 [ii 0, ss [], ii 0, ii 0] [], .cells 130 (S_chunk_state.cells s3) [], .mp (.bld 80 5 (s4 ++ x7))] [] rfl qx8 rfl rfl ?_
    refine SeqN.via (St.of [⟨1, ss a1, none⟩, ⟨4, AV.ptr 1 0, none⟩, ⟨8, AV.ptr 2 0, none⟩, ⟨9, AV.ptr 3 0, none⟩, ⟨10, ii s2, none⟩, ⟨11, ii (imin s3.Chunked.Left (IntKind.i64.wrap ((a1.length : Int) - s2))), none⟩] [.dead, .cells 37 [ii 0, ss [], ii 0, ii 0] [], .cells 130 (S_chunk_state.cells s3) [], .mp (.bld 80 5 (s4 ++ x7))] []) ?_ ?_
    ·refine Gho.to _ _ _ [] ?_ ?_ ?_ rfl rfl ?_
     ·exact ⟨trivial, ⟨⟨rfl, rfl, rfl⟩, ⟨⟨rfl, rfl, rfl⟩, ⟨rfl, trivial⟩⟩⟩⟩
     ·exact rfl
     ·exact rfl
     ·exact tr3 <| tr3 <| tr3 <| tr3 <| tr3 <| tr3 <| trivial
    refine sj <| sn <| sj ?_
    refine ai ⟨rfl, rfl, rfl, lb rfl⟩ (xi [ii s3.Chunked.Stage, ss s3.Chunked.Line, ii s3.Chunked.Left, ii (IntKind.i64.wrap (s3.Chunked.Size + (imin s3.Chunked.Left (IntKind.i64.wrap ((a1.length : Int) - s2))))), ii s3.bad] (ai (fun _ => rfl) ?_))
    refine sn <| sj ?_
    refine ai ⟨rfl, rfl, rfl, lb rfl⟩ (xi [ii s3.Chunked.Stage, ss s3.Chunked.Line, ii (IntKind.i64.wrap (s3.Chunked.Left - (imin s3.Chunked.Left (IntKind.i64.wrap ((a1.length : Int) - s2))))), ii (IntKind.i64.wrap (s3.Chunked.Size + (imin s3.Chunked.Left (IntKind.i64.wrap ((a1.length : Int) - s2))))), ii s3.bad] (ai (fun _ => rfl) ?_))
    refine SeqN.via (St.of [⟨1, ss a1, none⟩, ⟨4, AV.ptr 1 0, none⟩, ⟨8, AV.ptr 2 0, none⟩, ⟨9, AV.ptr 3 0, none⟩, ⟨10, ii (IntKind.i64.wrap (s2 + (imin s3.Chunked.Left (IntKind.i64.wrap ((a1.length : Int) - s2))))), none⟩] [.dead, .cells 37 [ii 0, ss [], ii 0, ii 0] [], .cells 130 [ii s3.Chunked.Stage, ss s3.Chunked.Line, ii (IntKind.i64.wrap (s3.Chunked.Left - (imin s3.Chunked.Left (IntKind.i64.wrap ((a1.length : Int) - s2))))), ii (IntKind.i64.wrap (s3.Chunked.Size + (imin s3.Chunked.Left (IntKind.i64.wrap ((a1.length : Int) - s2))))), ii s3.bad] [], .mp (.bld 80 5 (s4 ++ x7))] []) ?_ ?_
    ·refine Gho.to _ _ _ [] ?_ ?_ ?_ rfl rfl ?_
     ·exact ⟨trivial, ⟨⟨rfl, rfl, rfl⟩, ⟨⟨rfl, rfl, rfl⟩, ⟨rfl, trivial⟩⟩⟩⟩
     ·exact rfl
     ·exact rfl
     ·exact tr3 <| tr3 <| tr3 <| tr3 <| tr3 <| trivial
    refine sj <| sn ?_
    refine Br.of h (fun ht h => ?_) fun ht h => ?_
    ·refine ai ⟨rfl, rfl, rfl, lb rfl⟩ (xi [ii 2, ss s3.Chunked.Line, ii (IntKind.i64.wrap (s3.Chunked.Left - (imin s3.Chunked.Left (IntKind.i64.wrap ((a1.length : Int) - s2))))), ii (IntKind.i64.wrap (s3.Chunked.Size + (imin s3.Chunked.Left (IntKind.i64.wrap ((a1.length : Int) - s2))))), ii s3.bad] (ai (fun _ => rfl) ?_))
     replace h := oi h
     refine xi ⟨(n1, ((IntKind.i64.wrap (s2 + (imin s3.Chunked.Left (IntKind.i64.wrap ((a1.length : Int) - s2))))), (S_chunk_state.mk (S_Chunked.mk (2 : Int) s3.Chunked.Line (IntKind.i64.wrap (s3.Chunked.Left - (imin s3.Chunked.Left (IntKind.i64.wrap ((a1.length : Int) - s2))))) (IntKind.i64.wrap (s3.Chunked.Size + (imin s3.Chunked.Left (IntKind.i64.wrap ((a1.length : Int) - s2)))))) s3.bad), (s4 ++ x7))), hl1 _ h.symm⟩ (ai (Nat.lt_succ_self _) ?_)
     refine Gho.to _ _ _ [] ?_ ?_ ?_ rfl rfl ?_
     ·exact ⟨trivial, ⟨⟨rfl, rfl, rfl⟩, ⟨⟨rfl, rfl, rfl⟩, ⟨rfl, trivial⟩⟩⟩⟩
     ·exact rfl
     ·exact rfl
     ·exact tr3 <| tr3 <| tr3 <| tr3 <| tr3 <| trivial
    ·replace h := oi h
     refine xi ⟨(n1, ((IntKind.i64.wrap (s2 + (imin s3.Chunked.Left (IntKind.i64.wrap ((a1.length : Int) - s2))))), (S_chunk_state.mk (S_Chunked.mk s3.Chunked.Stage s3.Chunked.Line (IntKind.i64.wrap (s3.Chunked.Left - (imin s3.Chunked.Left (IntKind.i64.wrap ((a1.length : Int) - s2))))) (IntKind.i64.wrap (s3.Chunked.Size + (imin s3.Chunked.Left (IntKind.i64.wrap ((a1.length : Int) - s2)))))) s3.bad), (s4 ++ x7))), hl1 _ h.symm⟩ (ai (Nat.lt_succ_self _) ?_)
     refine Gho.to _ _ _ [] ?_ ?_ ?_ rfl rfl ?_
     ·exact ⟨trivial, ⟨⟨rfl, rfl, rfl⟩, ⟨⟨rfl, rfl, rfl⟩, ⟨rfl, trivial⟩⟩⟩⟩
     ·exact rfl
     ·exact rfl
     ·exact tr3 <| tr3 <| tr3 <| tr3 <| tr3 <| trivial
  ·refine sn <| sj <| ai ⟨lb rfl, lb rfl⟩ <| NormE.to (S_Chunked.av s3.Chunked) (fun _ => rfl) <| bind_elim h fun x9 hx9 h => ?_
   have qx9 := (bcat_some hx9).1
   have hx9e := (bcat_some hx9).2
   refine CallH.bldS L169 XB 3 s4 rfl 80 5 rfl rfl [.dead, .cells 37 [ii 0, ss [], ii 0, ii 0] [], .cells 130 (S_chunk_state.cells s3) [], .dead] [] rfl qx9 rfl rfl ?_
   refine ai ⟨rfl, rfl, rfl, lb rfl⟩ (xi (S_Chunked.cells s3.Chunked) (ai (fun _ => rfl) ?_))
   refine ai (by kernel_rfl) ?_
   refine SeqN.via (St.of [⟨4, AV.ptr 1 0, none⟩, ⟨5, ss s4, none⟩, ⟨6, ii s2, none⟩, ⟨7, ii 0, none⟩] [.dead, .cells 37 (S_Chunked.cells s3.Chunked) []] []) ?_ ?_
   ·refine Gho.to _ _ _ [] ?_ ?_ ?_ rfl rfl ?_
    ·exact ⟨trivial, ⟨⟨rfl, rfl, rfl⟩, trivial⟩⟩
    ·exact rfl
    ·exact rfl
    ·exact tr3 <| tr3 <| tr3 <| tr3 <| trivial
   replace h := oi h
   replace h := hr1 _ h.symm
   refine RetE.plain ?_
   refine ai ⟨lb rfl, lb rfl⟩ (xi (S_Chunked.av s3.Chunked) (ai rfl ?_))
   subst h; exact ai rfl (ai rfl rfl)
theorem wire_reading_fail_ok (E : Pm.Env) [LaidB E] (o0 : S_wire_reading) (a1 : Int) (r : Bool) (o0' : S_wire_reading) (h : wire_reading_fail o0 a1 = some (r, o0')) : FnW E Tryz.prog 66 [AV.ptr 0 0, ii a1] [.cells 69 (S_wire_reading.cells o0) [(18, 0)]] [1] (bb r) none [.cells 69 (S_wire_reading.cells o0') [(18, 1)]] [0, 1] := by
 refine FnW.of_evB (T := T) (rows := []) tOk mixed Tryz.func66 rfl (by kernel_rfl) (by kernel_rfl) rfl rfl fun hwf => ?_
 unfold wire_reading_fail at h
 refine sj <| sn <| sj <| ai ⟨rfl, rfl, lb rfl⟩ <| ai ⟨rfl, rfl, lb rfl⟩ <| ai ⟨rfl, rfl, lb rfl⟩ ?_
 refine xi (some 131068) (ai (okM.mk (show (131068 : Nat) = freeM T _ _ _ from by kernel_rfl)) ?_)
 refine ai ⟨rfl, rfl, rfl, lb rfl⟩ (xi [bb o0.Reader.Asks, ss o0.Reader.Method, ss [], bb false, ss [], ss [], ii 0, ss [], ii 0, AV.list 2 (([] : List S_Field).map S_Field.av), ss [], ii 0, ii 0, ii 0, ss [], ii 0, ii 0, ii a1, AV.list 7 (o0.out.map S_Message.av)] (ai (fun _ => rfl) ?_))
 refine ai (by kernel_rfl) ?_
 refine SeqN.via (St.of [] [.cells 69 [bb o0.Reader.Asks, ss o0.Reader.Method, ss [], bb false, ss [], ss [], ii 0, ss [], ii 0, AV.list 2 (([] : List S_Field).map S_Field.av), ss [], ii 0, ii 0, ii 0, ss [], ii 0, ii 0, ii a1, AV.list 7 (o0.out.map S_Message.av)] [(9, 1), (18, 2)]] [0, 1, 1]) ?_ ?_
 ·refine Gho.to _ _ _ [0, 1, 0] ?_ ?_ ?_ rfl rfl ?_
  ·exact ⟨⟨rfl, rfl, rfl⟩, trivial⟩
  ·exact rfl
  ·exact rfl
  ·exact trivial
 refine sj <| sn ?_
 replace h := oi h
 have h0 := (Prod.mk.inj h).1
 have h1 := (Prod.mk.inj h).2
 subst h0
 subst h1
 refine xi [⟨4, bb false, none⟩] (ai (Gho.to _ _ _ [0, 2] ?_ ?_ ?_ rfl rfl ?_) (ai ?_ rfl))
 ·exact ⟨⟨rfl, rfl, rfl⟩, trivial⟩
 ·exact rfl
 ·exact rfl
 ·exact tr3 <| trivial
 ·exact rfl
theorem wire_reading_more_ok (E : Pm.Env) [LaidB E] (o0 : S_wire_reading) (r : Bool) (o0' : S_wire_reading) (h : wire_reading_more o0 = some (r, o0')) : FnW E Tryz.prog 34 [AV.ptr 0 0] [.cells 69 (S_wire_reading.cells o0) [(18, 0)]] [1] (bb r) none [.cells 69 (S_wire_reading.cells o0') [(18, 1)]] [0, 1] := by
 refine FnW.of_evB (T := T) (rows := [87, 145]) tOk mixed Tryz.func34 rfl (by kernel_rfl) (by kernel_rfl) rfl rfl fun hwf => ?_
 unfold wire_reading_more at h
 refine sj <| sn <| sj <| NormE.same <| sn <| sj <| sj <| sn <| sj ?_
 refine SeqN.via (St.of [⟨0, AV.ptr 0 0, none⟩, ⟨3, ii (o0.Reader.Buf.length : Int), none⟩, ⟨19, ii o0.Reader.Body.Kind, none⟩, ⟨20, bb (o0.Reader.Body.Kind == (0 : Int)), none⟩] [.cells 69 [bb o0.Reader.Asks, ss o0.Reader.Method, ss o0.Reader.Buf, bb o0.Reader.In, ss o0.Reader.Head.Start.Method, ss o0.Reader.Head.Start.Target, ii o0.Reader.Head.Start.Code, ss o0.Reader.Head.Start.Reason, ii o0.Reader.Head.Start.Minor, AV.list 2 (o0.Reader.Head.Fields.map S_Field.av), ss o0.Reader.Head.Body, ii o0.Reader.Body.Kind, ii o0.Reader.Body.Size, ii o0.Reader.Chunk.Stage, ss o0.Reader.Chunk.Line, ii o0.Reader.Chunk.Left, ii o0.Reader.Chunk.Size, ii o0.Reader.Bad, AV.list 7 (o0.out.map S_Message.av)] [(18, 1)]] [0, 1]) ?_ ?_
 ·refine Gho.to _ _ _ [0, 0] ?_ ?_ ?_ rfl rfl ?_
  ·exact ⟨⟨rfl, rfl, rfl⟩, trivial⟩
  ·exact rfl
  ·exact rfl
  ·exact tr3 <| tr3 <| tr3 <| tr3 <| trivial
 refine Br.of h (fun ht h => ?_) fun ht h => ?_
 ·refine sj <| bind_elim h fun x1 hx1 h => CallH.ren [0] [1] [.cells 69 [bb x1.2.Reader.Asks, ss x1.2.Reader.Method, ss x1.2.Reader.Buf, bb x1.2.Reader.In, ss x1.2.Reader.Head.Start.Method, ss x1.2.Reader.Head.Start.Target, ii x1.2.Reader.Head.Start.Code, ss x1.2.Reader.Head.Start.Reason, ii x1.2.Reader.Head.Start.Minor, AV.list 2 (x1.2.Reader.Head.Fields.map S_Field.av), ss x1.2.Reader.Head.Body, ii x1.2.Reader.Body.Kind, ii x1.2.Reader.Body.Size, ii x1.2.Reader.Chunk.Stage, ss x1.2.Reader.Chunk.Line, ii x1.2.Reader.Chunk.Left, ii x1.2.Reader.Chunk.Size, ii x1.2.Reader.Bad, AV.list 7 (x1.2.out.map S_Message.av)] [(18, 2)]] [0, 0, 1] (wire_reading_whole_ok E o0 x1.1 x1.2 hx1) rfl rfl rfl rfl rfl rfl rfl rfl rfl <| sn ?_
  replace h := oi h
  have h0 := (Prod.mk.inj h).1
  have h1 := (Prod.mk.inj h).2
  subst h0
  subst h1
  refine xi [⟨2, bb x1.1, none⟩] (ai (Gho.to _ _ _ [0, 2] ?_ ?_ ?_ rfl rfl ?_) (ai ?_ rfl))
  ·exact ⟨⟨rfl, rfl, rfl⟩, trivial⟩
  ·exact rfl
  ·exact rfl
  ·exact tr3 <| trivial
  ·exact rfl
 ·refine sj <| sn ?_
  refine Br.of h (fun ht h => ?_) fun ht h => ?_
  ·refine sj <| NormE.same <| ai rfl <| ai (by kernel_rfl) ?_
   refine SeqN.via (St.of [⟨0, AV.ptr 0 0, none⟩, ⟨3, ii (imin (o0.Reader.Buf.length : Int) (IntKind.i64.wrap (o0.Reader.Body.Size - (o0.Reader.Head.Body.length : Int)))), none⟩] [.cells 69 [bb o0.Reader.Asks, ss o0.Reader.Method, ss o0.Reader.Buf, bb o0.Reader.In, ss o0.Reader.Head.Start.Method, ss o0.Reader.Head.Start.Target, ii o0.Reader.Head.Start.Code, ss o0.Reader.Head.Start.Reason, ii o0.Reader.Head.Start.Minor, AV.list 2 (o0.Reader.Head.Fields.map S_Field.av), ss o0.Reader.Head.Body, ii o0.Reader.Body.Kind, ii o0.Reader.Body.Size, ii o0.Reader.Chunk.Stage, ss o0.Reader.Chunk.Line, ii o0.Reader.Chunk.Left, ii o0.Reader.Chunk.Size, ii o0.Reader.Bad, AV.list 7 (o0.out.map S_Message.av)] [(18, 1)]] [0, 1]) ?_ ?_
   ·refine Gho.to _ _ _ [0, 1] ?_ ?_ ?_ rfl rfl ?_
    ·exact ⟨⟨rfl, rfl, rfl⟩, trivial⟩
    ·exact rfl
    ·exact rfl
    ·exact tr3 <| tr3 <| trivial
   refine sj <| bind_elim h fun x2 hx2 h => ?_
   have qx2 := (slc_some hx2).1
   have hx2e := (slc_some hx2).2
   refine ai (fun _ => qx2) <| NormE.to (ss x2) (fun _ => congrArg ss hx2e.symm) <| bind_elim h fun x3 hx3 h => ?_
   have hx3c := (cat_some hx3).1
   have hx3e := (cat_some hx3).2
   refine ai (fun _ => hx3c) <| NormE.to (ss x3) (fun _ => congrArg ss hx3e.symm) ?_
   refine ai ⟨rfl, rfl, rfl, lb rfl⟩ (xi [bb o0.Reader.Asks, ss o0.Reader.Method, ss o0.Reader.Buf, bb o0.Reader.In, ss o0.Reader.Head.Start.Method, ss o0.Reader.Head.Start.Target, ii o0.Reader.Head.Start.Code, ss o0.Reader.Head.Start.Reason, ii o0.Reader.Head.Start.Minor, AV.list 2 (o0.Reader.Head.Fields.map S_Field.av), ss x3, ii o0.Reader.Body.Kind, ii o0.Reader.Body.Size, ii o0.Reader.Chunk.Stage, ss o0.Reader.Chunk.Line, ii o0.Reader.Chunk.Left, ii o0.Reader.Chunk.Size, ii o0.Reader.Bad, AV.list 7 (o0.out.map S_Message.av)] (ai (fun _ => rfl) ?_))
   refine ai (by kernel_rfl) ?_
   refine SeqN.via (St.of [⟨0, AV.ptr 0 0, none⟩, ⟨3, ii (imin (o0.Reader.Buf.length : Int) (IntKind.i64.wrap (o0.Reader.Body.Size - (o0.Reader.Head.Body.length : Int)))), none⟩] [.cells 69 [bb o0.Reader.Asks, ss o0.Reader.Method, ss o0.Reader.Buf, bb o0.Reader.In, ss o0.Reader.Head.Start.Method, ss o0.Reader.Head.Start.Target, ii o0.Reader.Head.Start.Code, ss o0.Reader.Head.Start.Reason, ii o0.Reader.Head.Start.Minor, AV.list 2 (o0.Reader.Head.Fields.map S_Field.av), ss x3, ii o0.Reader.Body.Kind, ii o0.Reader.Body.Size, ii o0.Reader.Chunk.Stage, ss o0.Reader.Chunk.Line, ii o0.Reader.Chunk.Left, ii o0.Reader.Chunk.Size, ii o0.Reader.Bad, AV.list 7 (o0.out.map S_Message.av)] [(18, 1)]] [0, 1]) ?_ ?_
   ·refine Gho.to _ _ _ [0, 1] ?_ ?_ ?_ rfl rfl ?_
    ·exact ⟨⟨rfl, rfl, rfl⟩, trivial⟩
    ·exact rfl
    ·exact rfl
    ·exact tr3 <| tr3 <| trivial
   refine sj <| bind_elim h fun x4 hx4 h => ?_
   have qx4 := (slc_some hx4).1
   have hx4e := (slc_some hx4).2
   refine ai (fun _ => qx4) <| NormE.to (ss x4) (fun _ => congrArg ss hx4e.symm) ?_
   refine ai ⟨rfl, rfl, rfl, lb rfl⟩ (xi [bb o0.Reader.Asks, ss o0.Reader.Method, ss x4, bb o0.Reader.In, ss o0.Reader.Head.Start.Method, ss o0.Reader.Head.Start.Target, ii o0.Reader.Head.Start.Code, ss o0.Reader.Head.Start.Reason, ii o0.Reader.Head.Start.Minor, AV.list 2 (o0.Reader.Head.Fields.map S_Field.av), ss x3, ii o0.Reader.Body.Kind, ii o0.Reader.Body.Size, ii o0.Reader.Chunk.Stage, ss o0.Reader.Chunk.Line, ii o0.Reader.Chunk.Left, ii o0.Reader.Chunk.Size, ii o0.Reader.Bad, AV.list 7 (o0.out.map S_Message.av)] (ai (fun _ => rfl) ?_))
   refine sn <| sj <| NormE.same ?_
   refine and_of h (fun ht h => ?_) fun ht h => ?_
   ·refine bind_elim h fun x5 hx5 h => ai (fun _ => id ht) <| CallH.ren [0] [1] [.cells 69 [bb x5.2.Reader.Asks, ss x5.2.Reader.Method, ss x5.2.Reader.Buf, bb x5.2.Reader.In, ss x5.2.Reader.Head.Start.Method, ss x5.2.Reader.Head.Start.Target, ii x5.2.Reader.Head.Start.Code, ss x5.2.Reader.Head.Start.Reason, ii x5.2.Reader.Head.Start.Minor, AV.list 2 (x5.2.Reader.Head.Fields.map S_Field.av), ss x5.2.Reader.Head.Body, ii x5.2.Reader.Body.Kind, ii x5.2.Reader.Body.Size, ii x5.2.Reader.Chunk.Stage, ss x5.2.Reader.Chunk.Line, ii x5.2.Reader.Chunk.Left, ii x5.2.Reader.Chunk.Size, ii x5.2.Reader.Bad, AV.list 7 (x5.2.out.map S_Message.av)] [(18, 2)]] [0, 0, 1] (wire_reading_whole_ok E (S_wire_reading.mk (S_Reader.mk o0.Reader.Asks o0.Reader.Method x4 o0.Reader.In (S_Message.mk o0.Reader.Head.Start o0.Reader.Head.Fields x3) o0.Reader.Body o0.Reader.Chunk o0.Reader.Bad) o0.out) x5.1 x5.2 hx5) rfl rfl rfl rfl rfl rfl rfl rfl rfl <| ai (by kernel_rfl) ?_
    refine SeqN.via (St.of [⟨2, bb (bif ((x3.length : Int) == o0.Reader.Body.Size) then x5.1 else false), none⟩] [.cells 69 [bb x5.2.Reader.Asks, ss x5.2.Reader.Method, ss x5.2.Reader.Buf, bb x5.2.Reader.In, ss x5.2.Reader.Head.Start.Method, ss x5.2.Reader.Head.Start.Target, ii x5.2.Reader.Head.Start.Code, ss x5.2.Reader.Head.Start.Reason, ii x5.2.Reader.Head.Start.Minor, AV.list 2 (x5.2.Reader.Head.Fields.map S_Field.av), ss x5.2.Reader.Head.Body, ii x5.2.Reader.Body.Kind, ii x5.2.Reader.Body.Size, ii x5.2.Reader.Chunk.Stage, ss x5.2.Reader.Chunk.Line, ii x5.2.Reader.Chunk.Left, ii x5.2.Reader.Chunk.Size, ii x5.2.Reader.Bad, AV.list 7 (x5.2.out.map S_Message.av)] [(18, 1)]] [0, 1]) ?_ ?_
    ·refine Gho.to _ _ _ [0, 2] ?_ ?_ ?_ rfl rfl ?_
     ·exact ⟨⟨rfl, rfl, rfl⟩, trivial⟩
     ·exact rfl
     ·exact rfl
     ·exact tr3 <| trivial
    replace h := oi h
    have h0 := (Prod.mk.inj h).1
    have h1 := (Prod.mk.inj h).2
    subst h0
    subst h1
    refine xi [⟨2, bb (bif ((x3.length : Int) == o0.Reader.Body.Size) then x5.1 else false), none⟩] (ai (Gho.to _ _ _ [0, 1] ?_ ?_ ?_ rfl rfl ?_) (ai ?_ rfl))
    ·exact ⟨⟨rfl, rfl, rfl⟩, trivial⟩
    ·exact rfl
    ·exact rfl
    ·exact tr3 <| trivial
    ·exact rfl
   ·refine ai (fun hg => ht.symm.trans hg) <| ai ht <| ai (by kernel_rfl) ?_
    refine SeqN.via (St.of [⟨2, bb false, none⟩] [.cells 69 [bb o0.Reader.Asks, ss o0.Reader.Method, ss x4, bb o0.Reader.In, ss o0.Reader.Head.Start.Method, ss o0.Reader.Head.Start.Target, ii o0.Reader.Head.Start.Code, ss o0.Reader.Head.Start.Reason, ii o0.Reader.Head.Start.Minor, AV.list 2 (o0.Reader.Head.Fields.map S_Field.av), ss x3, ii o0.Reader.Body.Kind, ii o0.Reader.Body.Size, ii o0.Reader.Chunk.Stage, ss o0.Reader.Chunk.Line, ii o0.Reader.Chunk.Left, ii o0.Reader.Chunk.Size, ii o0.Reader.Bad, AV.list 7 (o0.out.map S_Message.av)] [(18, 1)]] [0, 1]) ?_ ?_
    ·refine Gho.to _ _ _ [0, 1] ?_ ?_ ?_ rfl rfl ?_
     ·exact ⟨⟨rfl, rfl, rfl⟩, trivial⟩
     ·exact rfl
     ·exact rfl
     ·exact tr3 <| trivial
    replace h := oi h
    have h0 := (Prod.mk.inj h).1
    have h1 := (Prod.mk.inj h).2
    subst h0
    subst h1
    refine xi [⟨2, bb false, none⟩] (ai (Gho.to _ _ _ [0, 1] ?_ ?_ ?_ rfl rfl ?_) (ai ?_ rfl))
    ·exact ⟨⟨rfl, rfl, rfl⟩, trivial⟩
    ·exact rfl
    ·exact rfl
    ·exact tr3 <| trivial
    ·exact rfl
  ·refine sj <| sn ?_
   refine Br.of h (fun ht h => ?_) fun ht h => ?_
   ·refine sj <| ai ⟨lb rfl, lb rfl⟩ <| NormE.to (AV.agg [ii o0.Reader.Chunk.Stage, ss o0.Reader.Chunk.Line, ii o0.Reader.Chunk.Left, ii o0.Reader.Chunk.Size]) (fun _ => rfl) <| bind_elim h fun x6 hx6 h => CallH.data _ false rfl (chunk_Feed_ok E o0.Reader.Chunk o0.Reader.Buf x6 hx6) <| ai rfl ?_
    refine ai ⟨rfl, rfl, rfl, lb rfl⟩ (xi (S_Chunked.cells x6.1) (ai (fun _ => rfl) ?_))
    refine ai (by kernel_rfl) ?_
    refine SeqN.via (St.of [⟨0, AV.ptr 0 0, none⟩, ⟨4, AV.ptr 1 0, none⟩, ⟨5, ss x6.2.1, none⟩, ⟨6, ii x6.2.2.1, none⟩, ⟨7, ii x6.2.2.2, none⟩] [.cells 69 [bb o0.Reader.Asks, ss o0.Reader.Method, ss o0.Reader.Buf, bb o0.Reader.In, ss o0.Reader.Head.Start.Method, ss o0.Reader.Head.Start.Target, ii o0.Reader.Head.Start.Code, ss o0.Reader.Head.Start.Reason, ii o0.Reader.Head.Start.Minor, AV.list 2 (o0.Reader.Head.Fields.map S_Field.av), ss o0.Reader.Head.Body, ii o0.Reader.Body.Kind, ii o0.Reader.Body.Size, ii o0.Reader.Chunk.Stage, ss o0.Reader.Chunk.Line, ii o0.Reader.Chunk.Left, ii o0.Reader.Chunk.Size, ii o0.Reader.Bad, AV.list 7 (o0.out.map S_Message.av)] [(18, 1)], .cells 37 (S_Chunked.cells x6.1) []] [0, 1]) ?_ ?_
    ·refine Gho.to _ _ _ [0, 1] ?_ ?_ ?_ rfl rfl ?_
     ·exact ⟨⟨rfl, rfl, rfl⟩, ⟨⟨rfl, rfl, rfl⟩, trivial⟩⟩
     ·exact rfl
     ·exact rfl
     ·exact tr3 <| tr3 <| tr3 <| tr3 <| tr3 <| trivial
    refine sj <| sj <| sn ?_
    refine Br.of h (fun ht h => ?_) fun ht h => ?_
    ·refine sj <| bind_elim h fun x7 hx7 h => CallH.ren [0] [1] [.cells 69 [bb x7.2.Reader.Asks, ss x7.2.Reader.Method, ss x7.2.Reader.Buf, bb x7.2.Reader.In, ss x7.2.Reader.Head.Start.Method, ss x7.2.Reader.Head.Start.Target, ii x7.2.Reader.Head.Start.Code, ss x7.2.Reader.Head.Start.Reason, ii x7.2.Reader.Head.Start.Minor, AV.list 2 (x7.2.Reader.Head.Fields.map S_Field.av), ss x7.2.Reader.Head.Body, ii x7.2.Reader.Body.Kind, ii x7.2.Reader.Body.Size, ii x7.2.Reader.Chunk.Stage, ss x7.2.Reader.Chunk.Line, ii x7.2.Reader.Chunk.Left, ii x7.2.Reader.Chunk.Size, ii x7.2.Reader.Bad, AV.list 7 (x7.2.out.map S_Message.av)] [(18, 2)], .cells 37 (S_Chunked.cells x6.1) []] [0, 0, 1] (wire_reading_fail_ok E o0 x6.2.2.2 x7.1 x7.2 hx7) rfl rfl rfl rfl rfl rfl rfl rfl rfl <| sn ?_
     replace h := oi h
     have h0 := (Prod.mk.inj h).1
     have h1 := (Prod.mk.inj h).2
     subst h0
     subst h1
     refine xi [⟨2, bb x7.1, none⟩] (ai (Gho.to _ _ _ [0, 2] ?_ ?_ ?_ rfl rfl ?_) (ai ?_ rfl))
     ·exact ⟨⟨rfl, rfl, rfl⟩, trivial⟩
     ·exact rfl
     ·exact rfl
     ·exact tr3 <| trivial
     ·exact rfl
    ·refine sn <| sj <| ai ⟨lb rfl, lb rfl⟩ <| NormE.to (S_Chunked.av x6.1) (fun _ => rfl) ?_
     refine ai ⟨rfl, rfl, rfl, lb rfl⟩ (xi [bb o0.Reader.Asks, ss o0.Reader.Method, ss o0.Reader.Buf, bb o0.Reader.In, ss o0.Reader.Head.Start.Method, ss o0.Reader.Head.Start.Target, ii o0.Reader.Head.Start.Code, ss o0.Reader.Head.Start.Reason, ii o0.Reader.Head.Start.Minor, AV.list 2 (o0.Reader.Head.Fields.map S_Field.av), ss o0.Reader.Head.Body, ii o0.Reader.Body.Kind, ii o0.Reader.Body.Size, ii x6.1.Stage, ss x6.1.Line, ii x6.1.Left, ii x6.1.Size, ii o0.Reader.Bad, AV.list 7 (o0.out.map S_Message.av)] (ai (fun _ => rfl) ?_))
     refine sn <| sj <| bind_elim h fun x8 hx8 h => ?_
     have hx8c := (cat_some hx8).1
     have hx8e := (cat_some hx8).2
     refine ai (fun _ => hx8c) <| NormE.to (ss x8) (fun _ => congrArg ss hx8e.symm) ?_
     refine ai ⟨rfl, rfl, rfl, lb rfl⟩ (xi [bb o0.Reader.Asks, ss o0.Reader.Method, ss o0.Reader.Buf, bb o0.Reader.In, ss o0.Reader.Head.Start.Method, ss o0.Reader.Head.Start.Target, ii o0.Reader.Head.Start.Code, ss o0.Reader.Head.Start.Reason, ii o0.Reader.Head.Start.Minor, AV.list 2 (o0.Reader.Head.Fields.map S_Field.av), ss x8, ii o0.Reader.Body.Kind, ii o0.Reader.Body.Size, ii x6.1.Stage, ss x6.1.Line, ii x6.1.Left, ii x6.1.Size, ii o0.Reader.Bad, AV.list 7 (o0.out.map S_Message.av)] (ai (fun _ => rfl) ?_))
     refine SeqN.via (St.of [⟨0, AV.ptr 0 0, none⟩, ⟨4, AV.ptr 1 0, none⟩, ⟨6, ii x6.2.2.1, none⟩] [.cells 69 [bb o0.Reader.Asks, ss o0.Reader.Method, ss o0.Reader.Buf, bb o0.Reader.In, ss o0.Reader.Head.Start.Method, ss o0.Reader.Head.Start.Target, ii o0.Reader.Head.Start.Code, ss o0.Reader.Head.Start.Reason, ii o0.Reader.Head.Start.Minor, AV.list 2 (o0.Reader.Head.Fields.map S_Field.av), ss x8, ii o0.Reader.Body.Kind, ii o0.Reader.Body.Size, ii x6.1.Stage, ss x6.1.Line, ii x6.1.Left, ii x6.1.Size, ii o0.Reader.Bad, AV.list 7 (o0.out.map S_Message.av)] [(18, 1)], .cells 37 (S_Chunked.cells x6.1) []] [0, 1]) ?_ ?_
     ·refine Gho.to _ _ _ [0, 1] ?_ ?_ ?_ rfl rfl ?_
      ·exact ⟨⟨rfl, rfl, rfl⟩, ⟨⟨rfl, rfl, rfl⟩, trivial⟩⟩
      ·exact rfl
      ·exact rfl
      ·exact tr3 <| tr3 <| tr3 <| trivial
     refine sj <| bind_elim h fun x9 hx9 h => ?_
     have qx9 := (slc_some hx9).1
     have hx9e := (slc_some hx9).2
     refine ai (fun _ => qx9) <| NormE.to (ss x9) (fun _ => congrArg ss hx9e.symm) ?_
     refine ai ⟨rfl, rfl, rfl, lb rfl⟩ (xi [bb o0.Reader.Asks, ss o0.Reader.Method, ss x9, bb o0.Reader.In, ss o0.Reader.Head.Start.Method, ss o0.Reader.Head.Start.Target, ii o0.Reader.Head.Start.Code, ss o0.Reader.Head.Start.Reason, ii o0.Reader.Head.Start.Minor, AV.list 2 (o0.Reader.Head.Fields.map S_Field.av), ss x8, ii o0.Reader.Body.Kind, ii o0.Reader.Body.Size, ii x6.1.Stage, ss x6.1.Line, ii x6.1.Left, ii x6.1.Size, ii o0.Reader.Bad, AV.list 7 (o0.out.map S_Message.av)] (ai (fun _ => rfl) ?_))
     refine sn <| sj ?_
     refine and_of h (fun ht h => ?_) fun ht h => ?_
     ·refine bind_elim h fun x10 hx10 h => ai (fun _ => id ht) <| CallH.ren [0] [1] [.cells 69 [bb x10.2.Reader.Asks, ss x10.2.Reader.Method, ss x10.2.Reader.Buf, bb x10.2.Reader.In, ss x10.2.Reader.Head.Start.Method, ss x10.2.Reader.Head.Start.Target, ii x10.2.Reader.Head.Start.Code, ss x10.2.Reader.Head.Start.Reason, ii x10.2.Reader.Head.Start.Minor, AV.list 2 (x10.2.Reader.Head.Fields.map S_Field.av), ss x10.2.Reader.Head.Body, ii x10.2.Reader.Body.Kind, ii x10.2.Reader.Body.Size, ii x10.2.Reader.Chunk.Stage, ss x10.2.Reader.Chunk.Line, ii x10.2.Reader.Chunk.Left, ii x10.2.Reader.Chunk.Size, ii x10.2.Reader.Bad, AV.list 7 (x10.2.out.map S_Message.av)] [(18, 2)], .cells 37 (S_Chunked.cells x6.1) []] [0, 0, 1] (wire_reading_whole_ok E (S_wire_reading.mk (S_Reader.mk o0.Reader.Asks o0.Reader.Method x9 o0.Reader.In (S_Message.mk o0.Reader.Head.Start o0.Reader.Head.Fields x8) o0.Reader.Body x6.1 o0.Reader.Bad) o0.out) x10.1 x10.2 hx10) rfl rfl rfl rfl rfl rfl rfl rfl rfl ?_
      refine SeqN.via (St.of [⟨2, bb (bif (x6.1.Stage == (4 : Int)) then x10.1 else false), none⟩] [.cells 69 [bb x10.2.Reader.Asks, ss x10.2.Reader.Method, ss x10.2.Reader.Buf, bb x10.2.Reader.In, ss x10.2.Reader.Head.Start.Method, ss x10.2.Reader.Head.Start.Target, ii x10.2.Reader.Head.Start.Code, ss x10.2.Reader.Head.Start.Reason, ii x10.2.Reader.Head.Start.Minor, AV.list 2 (x10.2.Reader.Head.Fields.map S_Field.av), ss x10.2.Reader.Head.Body, ii x10.2.Reader.Body.Kind, ii x10.2.Reader.Body.Size, ii x10.2.Reader.Chunk.Stage, ss x10.2.Reader.Chunk.Line, ii x10.2.Reader.Chunk.Left, ii x10.2.Reader.Chunk.Size, ii x10.2.Reader.Bad, AV.list 7 (x10.2.out.map S_Message.av)] [(18, 1)]] [0, 1]) ?_ ?_
      ·refine Gho.to _ _ _ [0, 2] ?_ ?_ ?_ rfl rfl ?_
       ·exact ⟨⟨rfl, rfl, rfl⟩, trivial⟩
       ·exact rfl
       ·exact rfl
       ·exact tr3 <| trivial
      replace h := oi h
      have h0 := (Prod.mk.inj h).1
      have h1 := (Prod.mk.inj h).2
      subst h0
      subst h1
      refine xi [⟨2, bb (bif (x6.1.Stage == (4 : Int)) then x10.1 else false), none⟩] (ai (Gho.to _ _ _ [0, 1] ?_ ?_ ?_ rfl rfl ?_) (ai ?_ rfl))
      ·exact ⟨⟨rfl, rfl, rfl⟩, trivial⟩
      ·exact rfl
      ·exact rfl
      ·exact tr3 <| trivial
      ·exact rfl
     ·refine ai (fun hg => ht.symm.trans hg) <| ai ht ?_
      refine SeqN.via (St.of [⟨2, bb false, none⟩] [.cells 69 [bb o0.Reader.Asks, ss o0.Reader.Method, ss x9, bb o0.Reader.In, ss o0.Reader.Head.Start.Method, ss o0.Reader.Head.Start.Target, ii o0.Reader.Head.Start.Code, ss o0.Reader.Head.Start.Reason, ii o0.Reader.Head.Start.Minor, AV.list 2 (o0.Reader.Head.Fields.map S_Field.av), ss x8, ii o0.Reader.Body.Kind, ii o0.Reader.Body.Size, ii x6.1.Stage, ss x6.1.Line, ii x6.1.Left, ii x6.1.Size, ii o0.Reader.Bad, AV.list 7 (o0.out.map S_Message.av)] [(18, 1)]] [0, 1]) ?_ ?_
      ·refine Gho.to _ _ _ [0, 1] ?_ ?_ ?_ rfl rfl ?_
       ·exact ⟨⟨rfl, rfl, rfl⟩, trivial⟩
       ·exact rfl
       ·exact rfl
       ·exact tr3 <| trivial
      replace h := oi h
      have h0 := (Prod.mk.inj h).1
      have h1 := (Prod.mk.inj h).2
      subst h0
      subst h1
      refine xi [⟨2, bb false, none⟩] (ai (Gho.to _ _ _ [0, 1] ?_ ?_ ?_ rfl rfl ?_) (ai ?_ rfl))
      ·exact ⟨⟨rfl, rfl, rfl⟩, trivial⟩
      ·exact rfl
      ·exact rfl
      ·exact tr3 <| trivial
      ·exact rfl
   ·refine sn <| sj <| sj <| bind_elim h fun x11 hx11 h => ?_
    have hx11c := (cat_some hx11).1
    have hx11e := (cat_some hx11).2
    refine ai (fun _ => hx11c) <| NormE.to (ss x11) (fun _ => congrArg ss hx11e.symm) ?_
    refine ai ⟨rfl, rfl, rfl, lb rfl⟩ (xi [bb o0.Reader.Asks, ss o0.Reader.Method, ss o0.Reader.Buf, bb o0.Reader.In, ss o0.Reader.Head.Start.Method, ss o0.Reader.Head.Start.Target, ii o0.Reader.Head.Start.Code, ss o0.Reader.Head.Start.Reason, ii o0.Reader.Head.Start.Minor, AV.list 2 (o0.Reader.Head.Fields.map S_Field.av), ss x11, ii o0.Reader.Body.Kind, ii o0.Reader.Body.Size, ii o0.Reader.Chunk.Stage, ss o0.Reader.Chunk.Line, ii o0.Reader.Chunk.Left, ii o0.Reader.Chunk.Size, ii o0.Reader.Bad, AV.list 7 (o0.out.map S_Message.av)] (ai (fun _ => rfl) ?_))
    refine ai (by kernel_rfl) ?_
    refine SeqN.via (St.of [⟨0, AV.ptr 0 0, none⟩] [.cells 69 [bb o0.Reader.Asks, ss o0.Reader.Method, ss o0.Reader.Buf, bb o0.Reader.In, ss o0.Reader.Head.Start.Method, ss o0.Reader.Head.Start.Target, ii o0.Reader.Head.Start.Code, ss o0.Reader.Head.Start.Reason, ii o0.Reader.Head.Start.Minor, AV.list 2 (o0.Reader.Head.Fields.map S_Field.av), ss x11, ii o0.Reader.Body.Kind, ii o0.Reader.Body.Size, ii o0.Reader.Chunk.Stage, ss o0.Reader.Chunk.Line, ii o0.Reader.Chunk.Left, ii o0.Reader.Chunk.Size, ii o0.Reader.Bad, AV.list 7 (o0.out.map S_Message.av)] [(18, 1)]] [0, 1]) ?_ ?_
    ·refine Gho.to _ _ _ [0, 1] ?_ ?_ ?_ rfl rfl ?_
     ·exact ⟨⟨rfl, rfl, rfl⟩, trivial⟩
     ·exact rfl
     ·exact rfl
     ·exact tr3 <| trivial
    refine sj <| NormE.same <| sn ?_
    refine Br.of h (fun ht h => ?_) fun ht h => ?_
    ·refine sj <| bind_elim h fun x12 hx12 h => CallH.ren [0] [1] [.cells 69 [bb x12.2.Reader.Asks, ss x12.2.Reader.Method, ss x12.2.Reader.Buf, bb x12.2.Reader.In, ss x12.2.Reader.Head.Start.Method, ss x12.2.Reader.Head.Start.Target, ii x12.2.Reader.Head.Start.Code, ss x12.2.Reader.Head.Start.Reason, ii x12.2.Reader.Head.Start.Minor, AV.list 2 (x12.2.Reader.Head.Fields.map S_Field.av), ss x12.2.Reader.Head.Body, ii x12.2.Reader.Body.Kind, ii x12.2.Reader.Body.Size, ii x12.2.Reader.Chunk.Stage, ss x12.2.Reader.Chunk.Line, ii x12.2.Reader.Chunk.Left, ii x12.2.Reader.Chunk.Size, ii x12.2.Reader.Bad, AV.list 7 (x12.2.out.map S_Message.av)] [(18, 2)]] [0, 0, 1] (wire_reading_fail_ok E (S_wire_reading.mk (S_Reader.mk o0.Reader.Asks o0.Reader.Method o0.Reader.Buf o0.Reader.In (S_Message.mk o0.Reader.Head.Start o0.Reader.Head.Fields x11) o0.Reader.Body o0.Reader.Chunk o0.Reader.Bad) o0.out) (2 : Int) x12.1 x12.2 hx12) rfl rfl rfl rfl rfl rfl rfl rfl rfl <| sn ?_
     replace h := oi h
     have h0 := (Prod.mk.inj h).1
     have h1 := (Prod.mk.inj h).2
     subst h0
     subst h1
     refine xi [⟨2, bb x12.1, none⟩] (ai (Gho.to _ _ _ [0, 2] ?_ ?_ ?_ rfl rfl ?_) (ai ?_ rfl))
     ·exact ⟨⟨rfl, rfl, rfl⟩, trivial⟩
     ·exact rfl
     ·exact rfl
     ·exact tr3 <| trivial
     ·exact rfl
    ·refine sn <| sj ?_
     refine ai ⟨rfl, rfl, rfl, lb rfl⟩ (xi [bb o0.Reader.Asks, ss o0.Reader.Method, ss [], bb o0.Reader.In, ss o0.Reader.Head.Start.Method, ss o0.Reader.Head.Start.Target, ii o0.Reader.Head.Start.Code, ss o0.Reader.Head.Start.Reason, ii o0.Reader.Head.Start.Minor, AV.list 2 (o0.Reader.Head.Fields.map S_Field.av), ss x11, ii o0.Reader.Body.Kind, ii o0.Reader.Body.Size, ii o0.Reader.Chunk.Stage, ss o0.Reader.Chunk.Line, ii o0.Reader.Chunk.Left, ii o0.Reader.Chunk.Size, ii o0.Reader.Bad, AV.list 7 (o0.out.map S_Message.av)] (ai (fun _ => rfl) ?_))
     refine sn <| sj <| sn ?_
     replace h := oi h
     have h0 := (Prod.mk.inj h).1
     have h1 := (Prod.mk.inj h).2
     subst h0
     subst h1
     refine xi [⟨2, bb false, none⟩] (ai (Gho.to _ _ _ [0, 1] ?_ ?_ ?_ rfl rfl ?_) (ai ?_ rfl))
     ·exact ⟨⟨rfl, rfl, rfl⟩, trivial⟩
     ·exact rfl
     ·exact rfl
     ·exact tr3 <| trivial
     ·exact rfl
theorem stringslite_TrimPrefix_ok (E : Pm.Env) [LaidB E] (a0 : Bytes) (a1 : Bytes) (r : Bytes) (h : stringslite_TrimPrefix a0 a1 = some r) : FnR E Tryz.prog 99 [ss a0, ss a1] (ss r) false := by
 refine FnR.of_ev (T := T) (rows := []) tOk mixed Tryz.func99 rfl (by kernel_rfl) (by kernel_rfl) rfl fun hwf => ?_
 unfold stringslite_TrimPrefix at h
 refine sj <| sn <| sj <| sj <| bind_elim h fun x1 hx1 h => CallH.data _ false rfl (stringslite_HasPrefix_ok E a0 a1 x1 hx1) <| sn ?_
 refine Br.of h (fun ht h => ?_) fun ht h => ?_
 ·refine sj <| NormE.same <| bind_elim h fun x2 hx2 h => ?_
  have qx2 := (slc_some hx2).1
  have hx2e := (slc_some hx2).2
  refine ai (fun _ => qx2) <| NormE.to (ss x2) (fun _ => congrArg ss hx2e.symm) <| sn ?_
  replace h := oi h
  refine RetE.plain ?_
  subst h; exact ai rfl (ai rfl rfl)
 ·refine sn <| sj <| sn ?_
  replace h := oi h
  refine RetE.plain ?_
  subst h; exact ai rfl (ai rfl rfl)
theorem strings_TrimPrefix_ok (E : Pm.Env) [LaidB E] (a0 : Bytes) (a1 : Bytes) (r : Bytes) (h : strings_TrimPrefix a0 a1 = some r) : FnR E Tryz.prog 64 [ss a0, ss a1] (ss r) false := by
 refine FnR.of_ev (T := T) (rows := []) tOk mixed Tryz.func64 rfl (by kernel_rfl) (by kernel_rfl) rfl fun hwf => ?_
 unfold strings_TrimPrefix at h
 refine sj <| sn <| sj <| bind_elim h fun x1 hx1 h => CallH.data _ false rfl (stringslite_TrimPrefix_ok E a0 a1 x1 hx1) <| sn ?_
 replace h := oi h
 refine RetE.plain ?_
 subst h; exact ai rfl (ai rfl rfl)
theorem start_minor_ok (E : Pm.Env) [LaidB E] (a0 : Bytes) (r : Int) (h : start_minor a0 = some r) : FnR E Tryz.prog 104 [ss a0] (ii r) false := by
 refine FnR.of_ev (T := T) (rows := []) tOk mixed Tryz.func104 rfl (by kernel_rfl) (by kernel_rfl) rfl fun hwf => ?_
 unfold start_minor at h
 refine sj <| sn <| sj <| sj <| sn <| sj <| sn ?_
 refine Br.of h (fun ht h => ?_) fun ht h => ?_
 ·refine sj <| sn ?_
  replace h := oi h
  refine RetE.plain ?_
  subst h; exact ai rfl (ai rfl rfl)
 ·refine sj <| sn ?_
  refine Br.of h (fun ht h => ?_) fun ht h => ?_
  ·refine sj <| sn ?_
   replace h := oi h
   refine RetE.plain ?_
   subst h; exact ai rfl (ai rfl rfl)
  ·refine sn <| sj <| sn ?_
   replace h := oi h
   refine RetE.plain ?_
   subst h; exact ai rfl (ai rfl rfl)
theorem start_Parse_ok (E : Pm.Env) [LaidB E] (a0 : Bytes) (r : (S_Start × Int)) (h : start_Parse a0 = some r) : FnR E Tryz.prog 69 [ss a0] (AV.tup [S_Start.av r.1, ii r.2]) false := by
 refine FnR.of_ev (T := T) (rows := []) tOk mixed Tryz.func69 rfl (by kernel_rfl) (by kernel_rfl) rfl fun hwf => ?_
 unfold start_Parse at h
 refine sj <| ai rfl <| sn <| sj <| bind_elim h fun x1 hx1 h => CallH.data _ false rfl (strings_Split_ok E a0 ([32] : Bytes) x1 hx1) <| sn <| sj <| sj <| NormE.to (ii (x1.length : Int)) (fun _ => len_list ss x1) <| sn ?_
 refine Br.of h (fun ht h => ?_) fun ht h => ?_
 ·refine sj ?_
  refine xi none (ai trivial ?_)
  refine ai ⟨rfl, rfl, rfl, lb rfl⟩ (xi [ss [], ss [], ii 0, ss [], ii 0] (ai (fun _ => rfl) ?_))
  refine sn ?_
  replace h := oi h
  refine RetE.plain ?_
  refine ai ⟨lb rfl, lb rfl⟩ (xi (AV.agg [ss [], ss [], ii 0, ss [], ii 0]) (ai rfl ?_))
  subst h; exact ai rfl (ai rfl rfl)
 ·refine sn <| sj <| bind_elim h fun x2 hx2 h => ?_
  refine ai rfl (xi (ss x2) (ai (fun hg => idx_map _ hx2) ?_))
  refine bind_elim h fun x3 hx3 h => ?_
  refine ai rfl (xi (ss x3) (ai (fun hg => idx_map _ hx3) ?_))
  refine bind_elim h fun x4 hx4 h => ?_
  refine ai rfl (xi (ss x4) (ai (fun hg => idx_map _ hx4) ?_))
  refine bind_elim h fun x5 hx5 h => CallH.data _ false rfl (start_minor_ok E x4 x5 hx5) <| ai ⟨rfl, rfl, lb rfl⟩ <| ai ⟨rfl, rfl, lb rfl⟩ <| ai ⟨rfl, rfl, lb rfl⟩ ?_
  refine xi none (ai trivial ?_)
  refine ai rfl ?_
  refine ai ⟨rfl, rfl, rfl, lb rfl⟩ (xi [ss x2, ss x3, ii 0, ss [], ii x5] (ai (fun _ => rfl) ?_))
  refine ai (by kernel_rfl) ?_
  refine SeqN.via (St.of [⟨2, AV.ptr 0 0, none⟩, ⟨5, AV.ptr 1 0, none⟩] [.cells 23 [ss [], ss [], ii 0, ss [], ii 0] [], .cells 23 [ss x2, ss x3, ii 0, ss [], ii x5] []] []) ?_ ?_
  ·refine Gho.to _ _ _ [] ?_ ?_ ?_ rfl rfl ?_
   ·exact ⟨⟨rfl, rfl, rfl⟩, ⟨⟨rfl, rfl, rfl⟩, trivial⟩⟩
   ·exact rfl
   ·exact rfl
   ·exact tr3 <| tr3 <| trivial
  refine sj <| sj <| ai ⟨lb rfl, lb rfl⟩ <| NormE.to (AV.agg [ss x2, ss x3, ii 0, ss [], ii x5]) (fun _ => rfl) <| bind_elim h fun x6 hx6 h => CallH.data _ false rfl (start_Right_ok E (S_Start.mk x2 x3 (0 : Int) ([] : Bytes) x5) x6 hx6) <| sn ?_
  refine Br.of h (fun ht h => ?_) fun ht h => ?_
  ·refine sj ?_
   refine xi none (ai trivial ?_)
   refine ai ⟨rfl, rfl, rfl, lb rfl⟩ (xi [ss [], ss [], ii 0, ss [], ii 0] (ai (fun _ => rfl) ?_))
   refine sn ?_
   replace h := oi h
   refine RetE.plain ?_
   refine ai ⟨lb rfl, lb rfl⟩ (xi (AV.agg [ss [], ss [], ii 0, ss [], ii 0]) (ai rfl ?_))
   subst h; exact ai rfl (ai rfl rfl)
  ·refine sn <| sj <| ai ⟨lb rfl, lb rfl⟩ <| NormE.to (AV.agg [ss x2, ss x3, ii 0, ss [], ii x5]) (fun _ => rfl) ?_
   refine ai ⟨rfl, rfl, rfl, lb rfl⟩ (xi [ss x2, ss x3, ii 0, ss [], ii x5] (ai (fun _ => rfl) ?_))
   refine sn ?_
   replace h := oi h
   refine RetE.plain ?_
   refine ai ⟨lb rfl, lb rfl⟩ (xi (AV.agg [ss x2, ss x3, ii 0, ss [], ii x5]) (ai rfl ?_))
   subst h; exact ai rfl (ai rfl rfl)
theorem start_Status_ok (E : Pm.Env) [LaidB E] (a0 : Bytes) (r : (S_Start × Int)) (h : start_Status a0 = some r) : FnR E Tryz.prog 68 [ss a0] (AV.tup [S_Start.av r.1, ii r.2]) false := by
 refine FnR.of_ev (T := T) (rows := []) tOk mixed Tryz.func68 rfl (by kernel_rfl) (by kernel_rfl) rfl fun hwf => ?_
 unfold start_Status at h
 refine sj <| ai rfl <| sn <| sj <| bind_elim h fun x1 hx1 h => CallH.data _ false rfl (strings_SplitN_ok E a0 ([32] : Bytes) (3 : Int) x1 hx1) <| sn <| sj <| sj <| NormE.to (ii (x1.length : Int)) (fun _ => len_list ss x1) <| bind_elim h fun x2 hx2 h => ai id ?_
 refine ai rfl (xi (ss x2) (ai (fun hg => gidx_map _ hx2 hg) ?_))
 refine ai id <| ai id <| NormE.same <| ai id <| ai (fun hg => (and_r hg)) <| sn ?_
 refine Br.of h (fun ht h => ?_) fun ht h => ?_
 ·refine sj ?_
  refine xi none (ai trivial ?_)
  refine ai ⟨rfl, rfl, rfl, lb rfl⟩ (xi [ss [], ss [], ii 0, ss [], ii 0] (ai (fun _ => rfl) ?_))
  refine SeqN.via (St.of [⟨2, AV.ptr 0 0, none⟩, ⟨3, ii 30, none⟩] [.cells 23 [ss [], ss [], ii 0, ss [], ii 0] []] []) ?_ ?_
  ·refine Gho.to _ _ _ [] ?_ ?_ ?_ rfl rfl ?_
   ·exact ⟨⟨rfl, rfl, rfl⟩, trivial⟩
   ·exact rfl
   ·exact rfl
   ·exact tr3 <| tr3 <| trivial
  replace h := oi h
  refine RetE.plain ?_
  refine ai ⟨lb rfl, lb rfl⟩ (xi (AV.agg [ss [], ss [], ii 0, ss [], ii 0]) (ai rfl ?_))
  subst h; exact ai rfl (ai rfl rfl)
 ·refine sn <| sj <| bind_elim h fun x3 hx3 h => ?_
  refine ai rfl (xi (ss x3) (ai (fun hg => idx_map _ hx3) ?_))
  refine bind_elim h fun x4 hx4 h => CallH.data _ false rfl (number_ReadDec_ok E x3 x4 hx4) ?_
  refine SeqN.via (St.of [⟨2, AV.ptr 0 0, none⟩, ⟨4, AV.list 1 (x1.map AV.str), none⟩, ⟨5, AV.int .u64 x4.1, none⟩, ⟨6, ii x4.2, none⟩] [.cells 23 [ss [], ss [], ii 0, ss [], ii 0] []] []) ?_ ?_
  ·refine Gho.to _ _ _ [] ?_ ?_ ?_ rfl rfl ?_
   ·exact ⟨⟨rfl, rfl, rfl⟩, trivial⟩
   ·exact rfl
   ·exact rfl
   ·exact tr3 <| tr3 <| tr3 <| tr3 <| trivial
  refine sj <| bind_elim h fun x5 hx5 h => ?_
  refine ai rfl (xi (ss x5) (ai (fun hg => idx_map _ hx5) ?_))
  refine bind_elim h fun x6 hx6 h => CallH.data _ false rfl (start_minor_ok E x5 x6 hx6) <| ai ⟨rfl, rfl, lb rfl⟩ <| ai ⟨rfl, rfl, lb rfl⟩ ?_
  refine xi none (ai trivial ?_)
  refine ai rfl ?_
  refine ai ⟨rfl, rfl, rfl, lb rfl⟩ (xi [ss [], ss [], ii (IntKind.i64.wrap x4.1), ss [], ii x6] (ai (fun _ => rfl) ?_))
  refine sn <| sj <| sj <| NormE.to (ii (x1.length : Int)) (fun _ => len_list ss x1) <| sn ?_
  refine Br.of h (fun ht h => ?_) fun ht h => ?_
  ·refine bind_elim h fun x7 hx7 h => ?_
   refine ai rfl (xi (ss x7) (ai (fun hg => idx_map _ hx7) ?_))
   refine ai ⟨rfl, rfl, rfl, lb rfl⟩ (xi [ss [], ss [], ii (IntKind.i64.wrap x4.1), ss x7, ii x6] (ai (fun _ => rfl) ?_))
   refine SeqN.via (St.of [⟨2, AV.ptr 0 0, none⟩, ⟨5, AV.int .u64 x4.1, none⟩, ⟨6, ii x4.2, none⟩, ⟨7, AV.ptr 1 0, none⟩] [.cells 23 [ss [], ss [], ii 0, ss [], ii 0] [], .cells 23 [ss [], ss [], ii (IntKind.i64.wrap x4.1), ss x7, ii x6] []] []) ?_ ?_
   ·refine Gho.to _ _ _ [] ?_ ?_ ?_ rfl rfl ?_
    ·exact ⟨⟨rfl, rfl, rfl⟩, ⟨⟨rfl, rfl, rfl⟩, trivial⟩⟩
    ·exact rfl
    ·exact rfl
    ·exact tr3 <| tr3 <| tr3 <| tr3 <| trivial
   refine sj <| sj <| ai id <| ai (fun hg => (and_r hg)) <| ai ⟨lb rfl, lb rfl⟩ <| NormE.to (AV.agg [ss [], ss [], ii (IntKind.i64.wrap x4.1), ss x7, ii x6]) (fun _ => rfl) <| bind_elim h fun x8 hx8 h => ai id <| ai rfl ?_
   refine CallF.mk _ false (fun hg => start_Right_ok E (S_Start.mk ([] : Bytes) ([] : Bytes) (IntKind.i64.wrap x4.1) x7 x6) x8 (gcall_some hx8 hg)) (ai rfl ?_)
   refine ai id <| ai (fun hg => (and_r hg)) <| sn ?_
   refine Br.of h (fun ht h => ?_) fun ht h => ?_
   ·refine sj ?_
    refine xi none (ai trivial ?_)
    refine ai ⟨rfl, rfl, rfl, lb rfl⟩ (xi [ss [], ss [], ii 0, ss [], ii 0] (ai (fun _ => rfl) ?_))
    refine sn ?_
    replace h := oi h
    refine RetE.plain ?_
    refine ai ⟨lb rfl, lb rfl⟩ (xi (AV.agg [ss [], ss [], ii 0, ss [], ii 0]) (ai rfl ?_))
    subst h; exact ai rfl (ai rfl rfl)
   ·refine sn <| sj <| ai ⟨lb rfl, lb rfl⟩ <| NormE.to (AV.agg [ss [], ss [], ii (IntKind.i64.wrap x4.1), ss x7, ii x6]) (fun _ => rfl) ?_
    refine ai ⟨rfl, rfl, rfl, lb rfl⟩ (xi [ss [], ss [], ii (IntKind.i64.wrap x4.1), ss x7, ii x6] (ai (fun _ => rfl) ?_))
    refine sn ?_
    replace h := oi h
    refine RetE.plain ?_
    refine ai ⟨lb rfl, lb rfl⟩ (xi (AV.agg [ss [], ss [], ii (IntKind.i64.wrap x4.1), ss x7, ii x6]) (ai rfl ?_))
    subst h; exact ai rfl (ai rfl rfl)
  ·refine sn <| sj <| sj <| ai id <| ai (fun hg => (and_r hg)) <| ai ⟨lb rfl, lb rfl⟩ <| NormE.to (AV.agg [ss [], ss [], ii (IntKind.i64.wrap x4.1), ss [], ii x6]) (fun _ => rfl) <| bind_elim h fun x9 hx9 h => ai id <| ai rfl ?_
   refine CallF.mk _ false (fun hg => start_Right_ok E (S_Start.mk ([] : Bytes) ([] : Bytes) (IntKind.i64.wrap x4.1) ([] : Bytes) x6) x9 (gcall_some hx9 hg)) (ai rfl ?_)
   refine ai id <| ai (fun hg => (and_r hg)) ?_
   refine SeqN.via (St.of [⟨2, AV.ptr 0 0, none⟩, ⟨7, AV.ptr 1 0, none⟩, ⟨52, bb (bif (bif (x4.2 != (0 : Int)) then true else (x4.1 == (0 : Int))) then true else (!x9)), none⟩] [.cells 23 [ss [], ss [], ii 0, ss [], ii 0] [], .cells 23 [ss [], ss [], ii (IntKind.i64.wrap x4.1), ss [], ii x6] []] []) ?_ ?_
   ·refine Gho.to _ _ _ [] ?_ ?_ ?_ rfl rfl ?_
    ·exact ⟨⟨rfl, rfl, rfl⟩, ⟨⟨rfl, rfl, rfl⟩, trivial⟩⟩
    ·exact rfl
    ·exact rfl
    ·exact tr3 <| tr3 <| tr3 <| trivial
   refine Br.of h (fun ht h => ?_) fun ht h => ?_
   ·refine sj ?_
    refine xi none (ai trivial ?_)
    refine ai ⟨rfl, rfl, rfl, lb rfl⟩ (xi [ss [], ss [], ii 0, ss [], ii 0] (ai (fun _ => rfl) ?_))
    refine sn ?_
    replace h := oi h
    refine RetE.plain ?_
    refine ai ⟨lb rfl, lb rfl⟩ (xi (AV.agg [ss [], ss [], ii 0, ss [], ii 0]) (ai rfl ?_))
    subst h; exact ai rfl (ai rfl rfl)
   ·refine sn <| sj <| ai ⟨lb rfl, lb rfl⟩ <| NormE.to (AV.agg [ss [], ss [], ii (IntKind.i64.wrap x4.1), ss [], ii x6]) (fun _ => rfl) ?_
    refine ai ⟨rfl, rfl, rfl, lb rfl⟩ (xi [ss [], ss [], ii (IntKind.i64.wrap x4.1), ss [], ii x6] (ai (fun _ => rfl) ?_))
    refine sn ?_
    replace h := oi h
    refine RetE.plain ?_
    refine ai ⟨lb rfl, lb rfl⟩ (xi (AV.agg [ss [], ss [], ii (IntKind.i64.wrap x4.1), ss [], ii x6]) (ai rfl ?_))
    subst h; exact ai rfl (ai rfl rfl)
theorem wire_reading_begin_ok (E : Pm.Env) [LaidB E] (o0 : S_wire_reading) (r : Bool) (o0' : S_wire_reading) (h : wire_reading_begin o0 = some (r, o0')) : FnW E Tryz.prog 33 [AV.ptr 0 0] [.cells 69 (S_wire_reading.cells o0) [(18, 0)]] [1] (bb r) none [.cells 69 (S_wire_reading.cells o0') [(18, 1)]] [0, 1] := by
 refine FnW.of_evB (T := T) (rows := []) tOk mixed Tryz.func33 rfl (by kernel_rfl) (by kernel_rfl) rfl rfl fun hwf => ?_
 unfold wire_reading_begin at h
 refine sj <| sn <| bind_elim h fun j1 hj1 h => ?_
 refine SeqJ.join (St.of [⟨0, AV.ptr 0 0, none⟩] [.cells 69 [bb j1.Reader.Asks, ss j1.Reader.Method, ss j1.Reader.Buf, bb j1.Reader.In, ss j1.Reader.Head.Start.Method, ss j1.Reader.Head.Start.Target, ii j1.Reader.Head.Start.Code, ss j1.Reader.Head.Start.Reason, ii j1.Reader.Head.Start.Minor, AV.list 2 (j1.Reader.Head.Fields.map S_Field.av), ss j1.Reader.Head.Body, ii j1.Reader.Body.Kind, ii j1.Reader.Body.Size, ii j1.Reader.Chunk.Stage, ss j1.Reader.Chunk.Line, ii j1.Reader.Chunk.Left, ii j1.Reader.Chunk.Size, ii j1.Reader.Bad, AV.list 7 (j1.out.map S_Message.av)] [(18, 1)]] [0, 1]) ?_ ?_
 ·clear h; have h := hj1; clear hj1
  refine LoopE.img (fun x : S_wire_reading => St.of [⟨0, AV.ptr 0 0, none⟩] [.cells 69 [bb x.Reader.Asks, ss x.Reader.Method, ss x.Reader.Buf, bb x.Reader.In, ss x.Reader.Head.Start.Method, ss x.Reader.Head.Start.Target, ii x.Reader.Head.Start.Code, ss x.Reader.Head.Start.Reason, ii x.Reader.Head.Start.Minor, AV.list 2 (x.Reader.Head.Fields.map S_Field.av), ss x.Reader.Head.Body, ii x.Reader.Body.Kind, ii x.Reader.Body.Size, ii x.Reader.Chunk.Stage, ss x.Reader.Chunk.Line, ii x.Reader.Chunk.Left, ii x.Reader.Chunk.Size, ii x.Reader.Bad, AV.list 7 (x.out.map S_Message.av)] [(18, 1)]] [0, 1]) wire_reading_begin_b1 o0 h ?_ ?_
  ·refine Gho.to _ _ _ [0, 0] ?_ ?_ ?_ rfl rfl ?_
   ·exact ⟨⟨rfl, rfl, rfl⟩, trivial⟩
   ·exact rfl
   ·exact rfl
   ·exact tr3 <| trivial
  intro n1 x y1 h hl1 hr1
  revert h; revert x; intro s2 h
  unfold wire_reading_begin_b1 at h
  refine sj <| sj <| ai id <| ai id <| ai id <| ai id <| bind_elim h fun x3 hx3 h => ai id <| ai rfl ?_
  refine CallF.mk _ false (fun hg => strings_HasPrefix_ok E s2.Reader.Buf ([10] : Bytes) x3 (gcall_some hx3 hg)) (ai rfl ?_)
  refine ai id <| ai id <| ai id <| ai id <| ai id <| bind_elim h fun x4 hx4 h => ai id <| ai rfl ?_
  refine CallF.mk _ false (fun hg => strings_HasPrefix_ok E s2.Reader.Buf ([13, 10] : Bytes) x4 (gcall_some hx4 hg)) (ai rfl ?_)
  refine ai id <| ai id <| ai (fun hg => (and_r hg)) ?_
  refine SeqN.via (St.of [⟨0, AV.ptr 0 0, none⟩, ⟨30, bb (bif s2.Reader.Asks then (bif x3 then true else x4) else false), none⟩] [.cells 69 [bb s2.Reader.Asks, ss s2.Reader.Method, ss s2.Reader.Buf, bb s2.Reader.In, ss s2.Reader.Head.Start.Method, ss s2.Reader.Head.Start.Target, ii s2.Reader.Head.Start.Code, ss s2.Reader.Head.Start.Reason, ii s2.Reader.Head.Start.Minor, AV.list 2 (s2.Reader.Head.Fields.map S_Field.av), ss s2.Reader.Head.Body, ii s2.Reader.Body.Kind, ii s2.Reader.Body.Size, ii s2.Reader.Chunk.Stage, ss s2.Reader.Chunk.Line, ii s2.Reader.Chunk.Left, ii s2.Reader.Chunk.Size, ii s2.Reader.Bad, AV.list 7 (s2.out.map S_Message.av)] [(18, 1)]] [0, 1]) ?_ ?_
  ·refine Gho.to _ _ _ [0, 1] ?_ ?_ ?_ rfl rfl ?_
   ·exact ⟨⟨rfl, rfl, rfl⟩, trivial⟩
   ·exact rfl
   ·exact rfl
   ·exact tr3 <| tr3 <| trivial
  refine Br.of h (fun ht h => ?_) fun ht h => ?_
  ·refine sn <| bind_elim h fun x5 hx5 h => CallH.data _ false rfl (strings_TrimPrefix_ok E s2.Reader.Buf ([13] : Bytes) x5 hx5) <| bind_elim h fun x6 hx6 h => CallH.data _ false rfl (strings_TrimPrefix_ok E x5 ([10] : Bytes) x6 hx6) ?_
   refine ai ⟨rfl, rfl, rfl, lb rfl⟩ (xi [bb s2.Reader.Asks, ss s2.Reader.Method, ss x6, bb s2.Reader.In, ss s2.Reader.Head.Start.Method, ss s2.Reader.Head.Start.Target, ii s2.Reader.Head.Start.Code, ss s2.Reader.Head.Start.Reason, ii s2.Reader.Head.Start.Minor, AV.list 2 (s2.Reader.Head.Fields.map S_Field.av), ss s2.Reader.Head.Body, ii s2.Reader.Body.Kind, ii s2.Reader.Body.Size, ii s2.Reader.Chunk.Stage, ss s2.Reader.Chunk.Line, ii s2.Reader.Chunk.Left, ii s2.Reader.Chunk.Size, ii s2.Reader.Bad, AV.list 7 (s2.out.map S_Message.av)] (ai (fun _ => rfl) ?_))
   replace h := oi h
   refine xi ⟨(n1, (S_wire_reading.mk (S_Reader.mk s2.Reader.Asks s2.Reader.Method x6 s2.Reader.In s2.Reader.Head s2.Reader.Body s2.Reader.Chunk s2.Reader.Bad) s2.out)), hl1 _ h.symm⟩ (ai (Nat.lt_succ_self _) ?_)
   refine Gho.to _ _ _ [0, 1] ?_ ?_ ?_ rfl rfl ?_
   ·exact ⟨⟨rfl, rfl, rfl⟩, trivial⟩
   ·exact rfl
   ·exact rfl
   ·exact tr3 <| trivial
  ·replace h := oi h
   replace h := hr1 _ h.symm
   subst h
   refine Gho.to _ _ _ [0, 1] ?_ ?_ ?_ rfl rfl ?_
   ·exact ⟨⟨rfl, rfl, rfl⟩, trivial⟩
   ·exact rfl
   ·exact rfl
   ·exact tr3 <| trivial
 ·clear hj1
  refine sj <| bind_elim h fun x7 hx7 h => CallH.data _ false rfl (head_End_ok E j1.Reader.Buf x7 hx7) <| sn <| sj <| sj <| sn ?_
  refine Br.of h (fun ht h => ?_) fun ht h => ?_
  ·refine sj <| sn ?_
   replace h := oi h
   have h0 := (Prod.mk.inj h).1
   have h1 := (Prod.mk.inj h).2
   subst h0
   subst h1
   refine xi [⟨2, bb false, none⟩] (ai (Gho.to _ _ _ [0, 1] ?_ ?_ ?_ rfl rfl ?_) (ai ?_ rfl))
   ·exact ⟨⟨rfl, rfl, rfl⟩, trivial⟩
   ·exact rfl
   ·exact rfl
   ·exact tr3 <| trivial
   ·exact rfl
  ·refine sj ?_
   refine SeqN.via (St.of [⟨0, AV.ptr 0 0, none⟩, ⟨3, ii x7.1, none⟩, ⟨4, ii x7.2, none⟩, ⟨54, bb (x7.2 != (0 : Int)), none⟩] [.cells 69 [bb j1.Reader.Asks, ss j1.Reader.Method, ss j1.Reader.Buf, bb j1.Reader.In, ss j1.Reader.Head.Start.Method, ss j1.Reader.Head.Start.Target, ii j1.Reader.Head.Start.Code, ss j1.Reader.Head.Start.Reason, ii j1.Reader.Head.Start.Minor, AV.list 2 (j1.Reader.Head.Fields.map S_Field.av), ss j1.Reader.Head.Body, ii j1.Reader.Body.Kind, ii j1.Reader.Body.Size, ii j1.Reader.Chunk.Stage, ss j1.Reader.Chunk.Line, ii j1.Reader.Chunk.Left, ii j1.Reader.Chunk.Size, ii j1.Reader.Bad, AV.list 7 (j1.out.map S_Message.av)] [(18, 1)]] [0, 1]) ?_ ?_
   ·refine Gho.to _ _ _ [0, 1] ?_ ?_ ?_ rfl rfl ?_
    ·exact ⟨⟨rfl, rfl, rfl⟩, trivial⟩
    ·exact rfl
    ·exact rfl
    ·exact tr3 <| tr3 <| tr3 <| tr3 <| trivial
   refine Br.of h (fun ht h => ?_) fun ht h => ?_
   ·refine sj <| bind_elim h fun x8 hx8 h => CallH.ren [0] [1] [.cells 69 [bb x8.2.Reader.Asks, ss x8.2.Reader.Method, ss x8.2.Reader.Buf, bb x8.2.Reader.In, ss x8.2.Reader.Head.Start.Method, ss x8.2.Reader.Head.Start.Target, ii x8.2.Reader.Head.Start.Code, ss x8.2.Reader.Head.Start.Reason, ii x8.2.Reader.Head.Start.Minor, AV.list 2 (x8.2.Reader.Head.Fields.map S_Field.av), ss x8.2.Reader.Head.Body, ii x8.2.Reader.Body.Kind, ii x8.2.Reader.Body.Size, ii x8.2.Reader.Chunk.Stage, ss x8.2.Reader.Chunk.Line, ii x8.2.Reader.Chunk.Left, ii x8.2.Reader.Chunk.Size, ii x8.2.Reader.Bad, AV.list 7 (x8.2.out.map S_Message.av)] [(18, 2)]] [0, 0, 1] (wire_reading_fail_ok E j1 x7.2 x8.1 x8.2 hx8) rfl rfl rfl rfl rfl rfl rfl rfl rfl <| sn ?_
    replace h := oi h
    have h0 := (Prod.mk.inj h).1
    have h1 := (Prod.mk.inj h).2
    subst h0
    subst h1
    refine xi [⟨2, bb x8.1, none⟩] (ai (Gho.to _ _ _ [0, 2] ?_ ?_ ?_ rfl rfl ?_) (ai ?_ rfl))
    ·exact ⟨⟨rfl, rfl, rfl⟩, trivial⟩
    ·exact rfl
    ·exact rfl
    ·exact tr3 <| trivial
    ·exact rfl
   ·refine sn <| sj <| bind_elim h fun x9 hx9 h => ?_
    have qx9 := (slc_some hx9).1
    have hx9e := (slc_some hx9).2
    refine ai (fun _ => qx9) <| NormE.to (ss x9) (fun _ => congrArg ss hx9e.symm) <| bind_elim h fun x10 hx10 h => CallH.data _ false rfl (strings_Cut_ok E x9 ([10] : Bytes) x10 hx10) <| sn <| sj ?_
    refine SeqN.via (St.of [⟨0, AV.ptr 0 0, none⟩, ⟨3, ii x7.1, none⟩, ⟨5, ss x10.1, none⟩, ⟨6, ss x10.2.1, none⟩, ⟨8, AV.fn 68 [] [], none⟩] [.cells 69 [bb j1.Reader.Asks, ss j1.Reader.Method, ss j1.Reader.Buf, bb j1.Reader.In, ss j1.Reader.Head.Start.Method, ss j1.Reader.Head.Start.Target, ii j1.Reader.Head.Start.Code, ss j1.Reader.Head.Start.Reason, ii j1.Reader.Head.Start.Minor, AV.list 2 (j1.Reader.Head.Fields.map S_Field.av), ss j1.Reader.Head.Body, ii j1.Reader.Body.Kind, ii j1.Reader.Body.Size, ii j1.Reader.Chunk.Stage, ss j1.Reader.Chunk.Line, ii j1.Reader.Chunk.Left, ii j1.Reader.Chunk.Size, ii j1.Reader.Bad, AV.list 7 (j1.out.map S_Message.av)] [(18, 1)]] [0, 1]) ?_ ?_
    ·refine Gho.to _ _ _ [0, 1] ?_ ?_ ?_ rfl rfl ?_
     ·exact ⟨⟨rfl, rfl, rfl⟩, trivial⟩
     ·exact rfl
     ·exact rfl
     ·exact tr3 <| tr3 <| tr3 <| tr3 <| tr3 <| trivial
    refine sj <| sj <| sn ?_
    refine Br.of h (fun ht h => ?_) fun ht h => ?_
    ·refine sn <| sj <| sj <| bind_elim h fun x11 hx11 h => CallH.data _ false rfl (strings_TrimSuffix_ok E x10.1 ([13] : Bytes) x11 hx11) <| bind_elim h fun x12 hx12 h => CallH.data _ false rfl (start_Parse_ok E x11 x12 hx12) ?_
     refine ai ⟨rfl, rfl, rfl, lb rfl⟩ (xi [bb j1.Reader.Asks, ss j1.Reader.Method, ss j1.Reader.Buf, bb j1.Reader.In, ss x12.1.Method, ss x12.1.Target, ii x12.1.Code, ss x12.1.Reason, ii x12.1.Minor, AV.list 2 (j1.Reader.Head.Fields.map S_Field.av), ss j1.Reader.Head.Body, ii j1.Reader.Body.Kind, ii j1.Reader.Body.Size, ii j1.Reader.Chunk.Stage, ss j1.Reader.Chunk.Line, ii j1.Reader.Chunk.Left, ii j1.Reader.Chunk.Size, ii j1.Reader.Bad, AV.list 7 (j1.out.map S_Message.av)] (ai (fun _ => rfl) ?_))
     refine SeqN.via (St.of [⟨0, AV.ptr 0 0, none⟩, ⟨3, ii x7.1, none⟩, ⟨4, ii x12.2, none⟩, ⟨6, ss x10.2.1, none⟩] [.cells 69 [bb j1.Reader.Asks, ss j1.Reader.Method, ss j1.Reader.Buf, bb j1.Reader.In, ss x12.1.Method, ss x12.1.Target, ii x12.1.Code, ss x12.1.Reason, ii x12.1.Minor, AV.list 2 (j1.Reader.Head.Fields.map S_Field.av), ss j1.Reader.Head.Body, ii j1.Reader.Body.Kind, ii j1.Reader.Body.Size, ii j1.Reader.Chunk.Stage, ss j1.Reader.Chunk.Line, ii j1.Reader.Chunk.Left, ii j1.Reader.Chunk.Size, ii j1.Reader.Bad, AV.list 7 (j1.out.map S_Message.av)] [(18, 1)]] [0, 1]) ?_ ?_
     ·refine Gho.to _ _ _ [0, 1] ?_ ?_ ?_ rfl rfl ?_
      ·exact ⟨⟨rfl, rfl, rfl⟩, trivial⟩
      ·exact rfl
      ·exact rfl
      ·exact tr3 <| tr3 <| tr3 <| tr3 <| trivial
     refine sj <| sn ?_
     refine Br.of h (fun ht h => ?_) fun ht h => ?_
     ·refine sj <| bind_elim h fun x13 hx13 h => CallH.ren [0] [1] [.cells 69 [bb x13.2.Reader.Asks, ss x13.2.Reader.Method, ss x13.2.Reader.Buf, bb x13.2.Reader.In, ss x13.2.Reader.Head.Start.Method, ss x13.2.Reader.Head.Start.Target, ii x13.2.Reader.Head.Start.Code, ss x13.2.Reader.Head.Start.Reason, ii x13.2.Reader.Head.Start.Minor, AV.list 2 (x13.2.Reader.Head.Fields.map S_Field.av), ss x13.2.Reader.Head.Body, ii x13.2.Reader.Body.Kind, ii x13.2.Reader.Body.Size, ii x13.2.Reader.Chunk.Stage, ss x13.2.Reader.Chunk.Line, ii x13.2.Reader.Chunk.Left, ii x13.2.Reader.Chunk.Size, ii x13.2.Reader.Bad, AV.list 7 (x13.2.out.map S_Message.av)] [(18, 2)]] [0, 0, 1] (wire_reading_fail_ok E (S_wire_reading.mk (S_Reader.mk j1.Reader.Asks j1.Reader.Method j1.Reader.Buf j1.Reader.In (S_Message.mk x12.1 j1.Reader.Head.Fields j1.Reader.Head.Body) j1.Reader.Body j1.Reader.Chunk j1.Reader.Bad) j1.out) x12.2 x13.1 x13.2 hx13) rfl rfl rfl rfl rfl rfl rfl rfl rfl <| sn ?_
      replace h := oi h
      have h0 := (Prod.mk.inj h).1
      have h1 := (Prod.mk.inj h).2
      subst h0
      subst h1
      refine xi [⟨2, bb x13.1, none⟩] (ai (Gho.to _ _ _ [0, 2] ?_ ?_ ?_ rfl rfl ?_) (ai ?_ rfl))
      ·exact ⟨⟨rfl, rfl, rfl⟩, trivial⟩
      ·exact rfl
      ·exact rfl
      ·exact tr3 <| trivial
      ·exact rfl
     ·refine sn <| sj <| bind_elim h fun x14 hx14 h => CallH.data _ false rfl (strings_TrimSuffix_ok E x10.2.1 ([10] : Bytes) x14 hx14) <| bind_elim h fun x15 hx15 h => CallH.data _ false rfl (strings_TrimSuffix_ok E x14 ([13] : Bytes) x15 hx15) <| sn <| sj <| sj <| bind_elim h fun x16 hx16 h => CallH.data _ false rfl (head_Parse_ok E x15 x16 hx16) ?_
      refine ai ⟨rfl, rfl, rfl, lb rfl⟩ (xi [bb j1.Reader.Asks, ss j1.Reader.Method, ss j1.Reader.Buf, bb j1.Reader.In, ss x12.1.Method, ss x12.1.Target, ii x12.1.Code, ss x12.1.Reason, ii x12.1.Minor, AV.list 2 (x16.1.map S_Field.av), ss j1.Reader.Head.Body, ii j1.Reader.Body.Kind, ii j1.Reader.Body.Size, ii j1.Reader.Chunk.Stage, ss j1.Reader.Chunk.Line, ii j1.Reader.Chunk.Left, ii j1.Reader.Chunk.Size, ii j1.Reader.Bad, AV.list 7 (j1.out.map S_Message.av)] (ai (fun _ => rfl) ?_))
      refine SeqN.via (St.of [⟨0, AV.ptr 0 0, none⟩, ⟨3, ii x7.1, none⟩, ⟨4, ii x16.2, none⟩] [.cells 69 [bb j1.Reader.Asks, ss j1.Reader.Method, ss j1.Reader.Buf, bb j1.Reader.In, ss x12.1.Method, ss x12.1.Target, ii x12.1.Code, ss x12.1.Reason, ii x12.1.Minor, AV.list 2 (x16.1.map S_Field.av), ss j1.Reader.Head.Body, ii j1.Reader.Body.Kind, ii j1.Reader.Body.Size, ii j1.Reader.Chunk.Stage, ss j1.Reader.Chunk.Line, ii j1.Reader.Chunk.Left, ii j1.Reader.Chunk.Size, ii j1.Reader.Bad, AV.list 7 (j1.out.map S_Message.av)] [(18, 1)]] [0, 1]) ?_ ?_
      ·refine Gho.to _ _ _ [0, 1] ?_ ?_ ?_ rfl rfl ?_
       ·exact ⟨⟨rfl, rfl, rfl⟩, trivial⟩
       ·exact rfl
       ·exact rfl
       ·exact tr3 <| tr3 <| tr3 <| trivial
      refine sj <| sn ?_
      refine Br.of h (fun ht h => ?_) fun ht h => ?_
      ·refine sj <| bind_elim h fun x17 hx17 h => CallH.ren [0] [1] [.cells 69 [bb x17.2.Reader.Asks, ss x17.2.Reader.Method, ss x17.2.Reader.Buf, bb x17.2.Reader.In, ss x17.2.Reader.Head.Start.Method, ss x17.2.Reader.Head.Start.Target, ii x17.2.Reader.Head.Start.Code, ss x17.2.Reader.Head.Start.Reason, ii x17.2.Reader.Head.Start.Minor, AV.list 2 (x17.2.Reader.Head.Fields.map S_Field.av), ss x17.2.Reader.Head.Body, ii x17.2.Reader.Body.Kind, ii x17.2.Reader.Body.Size, ii x17.2.Reader.Chunk.Stage, ss x17.2.Reader.Chunk.Line, ii x17.2.Reader.Chunk.Left, ii x17.2.Reader.Chunk.Size, ii x17.2.Reader.Bad, AV.list 7 (x17.2.out.map S_Message.av)] [(18, 2)]] [0, 0, 1] (wire_reading_fail_ok E (S_wire_reading.mk (S_Reader.mk j1.Reader.Asks j1.Reader.Method j1.Reader.Buf j1.Reader.In (S_Message.mk x12.1 x16.1 j1.Reader.Head.Body) j1.Reader.Body j1.Reader.Chunk j1.Reader.Bad) j1.out) x16.2 x17.1 x17.2 hx17) rfl rfl rfl rfl rfl rfl rfl rfl rfl <| sn ?_
       replace h := oi h
       have h0 := (Prod.mk.inj h).1
       have h1 := (Prod.mk.inj h).2
       subst h0
       subst h1
       refine xi [⟨2, bb x17.1, none⟩] (ai (Gho.to _ _ _ [0, 2] ?_ ?_ ?_ rfl rfl ?_) (ai ?_ rfl))
       ·exact ⟨⟨rfl, rfl, rfl⟩, trivial⟩
       ·exact rfl
       ·exact rfl
       ·exact tr3 <| trivial
       ·exact rfl
      ·refine sn <| sj <| sj <| ai ⟨lb rfl, lb rfl⟩ <| NormE.to (AV.agg [bb j1.Reader.Asks, ss j1.Reader.Method, ss j1.Reader.Buf, bb j1.Reader.In, ss x12.1.Method, ss x12.1.Target, ii x12.1.Code, ss x12.1.Reason, ii x12.1.Minor, AV.list 2 (x16.1.map S_Field.av), ss j1.Reader.Head.Body, ii j1.Reader.Body.Kind, ii j1.Reader.Body.Size, ii j1.Reader.Chunk.Stage, ss j1.Reader.Chunk.Line, ii j1.Reader.Chunk.Left, ii j1.Reader.Chunk.Size, ii j1.Reader.Bad]) (fun _ => rfl) <| bind_elim h fun x18 hx18 h => CallH.data _ false rfl (wire_body_ok E (S_Reader.mk j1.Reader.Asks j1.Reader.Method j1.Reader.Buf j1.Reader.In (S_Message.mk x12.1 x16.1 j1.Reader.Head.Body) j1.Reader.Body j1.Reader.Chunk j1.Reader.Bad) x18 hx18) ?_
       refine ai ⟨rfl, rfl, rfl, lb rfl⟩ (xi [bb j1.Reader.Asks, ss j1.Reader.Method, ss j1.Reader.Buf, bb j1.Reader.In, ss x12.1.Method, ss x12.1.Target, ii x12.1.Code, ss x12.1.Reason, ii x12.1.Minor, AV.list 2 (x16.1.map S_Field.av), ss j1.Reader.Head.Body, ii x18.1.Kind, ii x18.1.Size, ii j1.Reader.Chunk.Stage, ss j1.Reader.Chunk.Line, ii j1.Reader.Chunk.Left, ii j1.Reader.Chunk.Size, ii j1.Reader.Bad, AV.list 7 (j1.out.map S_Message.av)] (ai (fun _ => rfl) ?_))
       refine SeqN.via (St.of [⟨0, AV.ptr 0 0, none⟩, ⟨3, ii x7.1, none⟩, ⟨4, ii x18.2, none⟩] [.cells 69 [bb j1.Reader.Asks, ss j1.Reader.Method, ss j1.Reader.Buf, bb j1.Reader.In, ss x12.1.Method, ss x12.1.Target, ii x12.1.Code, ss x12.1.Reason, ii x12.1.Minor, AV.list 2 (x16.1.map S_Field.av), ss j1.Reader.Head.Body, ii x18.1.Kind, ii x18.1.Size, ii j1.Reader.Chunk.Stage, ss j1.Reader.Chunk.Line, ii j1.Reader.Chunk.Left, ii j1.Reader.Chunk.Size, ii j1.Reader.Bad, AV.list 7 (j1.out.map S_Message.av)] [(18, 1)]] [0, 1]) ?_ ?_
       ·refine Gho.to _ _ _ [0, 1] ?_ ?_ ?_ rfl rfl ?_
        ·exact ⟨⟨rfl, rfl, rfl⟩, trivial⟩
        ·exact rfl
        ·exact rfl
        ·exact tr3 <| tr3 <| tr3 <| trivial
       refine sj <| sn ?_
       refine Br.of h (fun ht h => ?_) fun ht h => ?_
       ·refine sj <| bind_elim h fun x19 hx19 h => CallH.ren [0] [1] [.cells 69 [bb x19.2.Reader.Asks, ss x19.2.Reader.Method, ss x19.2.Reader.Buf, bb x19.2.Reader.In, ss x19.2.Reader.Head.Start.Method, ss x19.2.Reader.Head.Start.Target, ii x19.2.Reader.Head.Start.Code, ss x19.2.Reader.Head.Start.Reason, ii x19.2.Reader.Head.Start.Minor, AV.list 2 (x19.2.Reader.Head.Fields.map S_Field.av), ss x19.2.Reader.Head.Body, ii x19.2.Reader.Body.Kind, ii x19.2.Reader.Body.Size, ii x19.2.Reader.Chunk.Stage, ss x19.2.Reader.Chunk.Line, ii x19.2.Reader.Chunk.Left, ii x19.2.Reader.Chunk.Size, ii x19.2.Reader.Bad, AV.list 7 (x19.2.out.map S_Message.av)] [(18, 2)]] [0, 0, 1] (wire_reading_fail_ok E (S_wire_reading.mk (S_Reader.mk j1.Reader.Asks j1.Reader.Method j1.Reader.Buf j1.Reader.In (S_Message.mk x12.1 x16.1 j1.Reader.Head.Body) x18.1 j1.Reader.Chunk j1.Reader.Bad) j1.out) x18.2 x19.1 x19.2 hx19) rfl rfl rfl rfl rfl rfl rfl rfl rfl <| sn ?_
        replace h := oi h
        have h0 := (Prod.mk.inj h).1
        have h1 := (Prod.mk.inj h).2
        subst h0
        subst h1
        refine xi [⟨2, bb x19.1, none⟩] (ai (Gho.to _ _ _ [0, 2] ?_ ?_ ?_ rfl rfl ?_) (ai ?_ rfl))
        ·exact ⟨⟨rfl, rfl, rfl⟩, trivial⟩
        ·exact rfl
        ·exact rfl
        ·exact tr3 <| trivial
        ·exact rfl
       ·refine sn <| sj <| bind_elim h fun x20 hx20 h => ?_
        have qx20 := (slc_some hx20).1
        have hx20e := (slc_some hx20).2
        refine ai (fun _ => qx20) <| NormE.to (ss x20) (fun _ => congrArg ss hx20e.symm) ?_
        refine ai ⟨rfl, rfl, rfl, lb rfl⟩ (xi [bb j1.Reader.Asks, ss j1.Reader.Method, ss x20, bb j1.Reader.In, ss x12.1.Method, ss x12.1.Target, ii x12.1.Code, ss x12.1.Reason, ii x12.1.Minor, AV.list 2 (x16.1.map S_Field.av), ss j1.Reader.Head.Body, ii x18.1.Kind, ii x18.1.Size, ii j1.Reader.Chunk.Stage, ss j1.Reader.Chunk.Line, ii j1.Reader.Chunk.Left, ii j1.Reader.Chunk.Size, ii j1.Reader.Bad, AV.list 7 (j1.out.map S_Message.av)] (ai (fun _ => rfl) ?_))
        refine sn <| sj <| sj ?_
        refine SeqN.via (St.of [⟨0, AV.ptr 0 0, none⟩, ⟨9, ii x12.1.Code, none⟩] [.cells 69 [bb j1.Reader.Asks, ss j1.Reader.Method, ss x20, bb j1.Reader.In, ss x12.1.Method, ss x12.1.Target, ii x12.1.Code, ss x12.1.Reason, ii x12.1.Minor, AV.list 2 (x16.1.map S_Field.av), ss j1.Reader.Head.Body, ii x18.1.Kind, ii x18.1.Size, ii j1.Reader.Chunk.Stage, ss j1.Reader.Chunk.Line, ii j1.Reader.Chunk.Left, ii j1.Reader.Chunk.Size, ii j1.Reader.Bad, AV.list 7 (j1.out.map S_Message.av)] [(18, 1)]] [0, 1]) ?_ ?_
        ·refine Gho.to _ _ _ [0, 1] ?_ ?_ ?_ rfl rfl ?_
         ·exact ⟨⟨rfl, rfl, rfl⟩, trivial⟩
         ·exact rfl
         ·exact rfl
         ·exact tr3 <| tr3 <| trivial
        refine sj <| ai id <| ai (fun hg => (and_r hg)) <| sn ?_
        refine Br.of h (fun ht h => ?_) fun ht h => ?_
        ·refine sj ?_
         refine xi (some 127) (ai (okM.mk (show (127 : Nat) = freeM T _ _ _ from by kernel_rfl)) ?_)
         refine xi none (ai trivial ?_)
         refine ai ⟨rfl, rfl, rfl, lb rfl⟩ (xi [bb j1.Reader.Asks, ss j1.Reader.Method, ss x20, bb j1.Reader.In, ss [], ss [], ii 0, ss [], ii 0, AV.list 2 (([] : List S_Field).map S_Field.av), ss [], ii x18.1.Kind, ii x18.1.Size, ii j1.Reader.Chunk.Stage, ss j1.Reader.Chunk.Line, ii j1.Reader.Chunk.Left, ii j1.Reader.Chunk.Size, ii j1.Reader.Bad, AV.list 7 (j1.out.map S_Message.av)] (ai (fun _ => rfl) ?_))
         refine ai ⟨rfl, rfl, rfl, lb rfl⟩ (xi [bb j1.Reader.Asks, ss j1.Reader.Method, ss x20, bb j1.Reader.In, ss [], ss [], ii 0, ss [], ii 0, AV.list 2 (([] : List S_Field).map S_Field.av), ss [], ii 0, ii 0, ii j1.Reader.Chunk.Stage, ss j1.Reader.Chunk.Line, ii j1.Reader.Chunk.Left, ii j1.Reader.Chunk.Size, ii j1.Reader.Bad, AV.list 7 (j1.out.map S_Message.av)] (ai (fun _ => rfl) ?_))
         refine SeqN.via (St.of [] [.cells 69 [bb j1.Reader.Asks, ss j1.Reader.Method, ss x20, bb j1.Reader.In, ss [], ss [], ii 0, ss [], ii 0, AV.list 2 (([] : List S_Field).map S_Field.av), ss [], ii 0, ii 0, ii j1.Reader.Chunk.Stage, ss j1.Reader.Chunk.Line, ii j1.Reader.Chunk.Left, ii j1.Reader.Chunk.Size, ii j1.Reader.Bad, AV.list 7 (j1.out.map S_Message.av)] [(9, 1), (18, 2)]] [0, 1, 1]) ?_ ?_
         ·refine Gho.to _ _ _ [0, 2, 1] ?_ ?_ ?_ rfl rfl ?_
          ·exact ⟨⟨rfl, rfl, rfl⟩, trivial⟩
          ·exact rfl
          ·exact rfl
          ·exact trivial
         refine sj <| sn ?_
         replace h := oi h
         have h0 := (Prod.mk.inj h).1
         have h1 := (Prod.mk.inj h).2
         subst h0
         subst h1
         refine xi [⟨2, bb true, none⟩] (ai (Gho.to _ _ _ [0, 2] ?_ ?_ ?_ rfl rfl ?_) (ai ?_ rfl))
         ·exact ⟨⟨rfl, rfl, rfl⟩, trivial⟩
         ·exact rfl
         ·exact rfl
         ·exact tr3 <| trivial
         ·exact rfl
        ·refine sn <| sj ?_
         refine ai ⟨rfl, rfl, rfl, lb rfl⟩ (xi [bb j1.Reader.Asks, ss j1.Reader.Method, ss x20, bb true, ss x12.1.Method, ss x12.1.Target, ii x12.1.Code, ss x12.1.Reason, ii x12.1.Minor, AV.list 2 (x16.1.map S_Field.av), ss j1.Reader.Head.Body, ii x18.1.Kind, ii x18.1.Size, ii j1.Reader.Chunk.Stage, ss j1.Reader.Chunk.Line, ii j1.Reader.Chunk.Left, ii j1.Reader.Chunk.Size, ii j1.Reader.Bad, AV.list 7 (j1.out.map S_Message.av)] (ai (fun _ => rfl) ?_))
         refine sn <| sj <| sn ?_
         replace h := oi h
         have h0 := (Prod.mk.inj h).1
         have h1 := (Prod.mk.inj h).2
         subst h0
         subst h1
         refine xi [⟨2, bb true, none⟩] (ai (Gho.to _ _ _ [0, 1] ?_ ?_ ?_ rfl rfl ?_) (ai ?_ rfl))
         ·exact ⟨⟨rfl, rfl, rfl⟩, trivial⟩
         ·exact rfl
         ·exact rfl
         ·exact tr3 <| trivial
         ·exact rfl
    ·refine sn <| sj <| sj <| bind_elim h fun x21 hx21 h => CallH.data _ false rfl (strings_TrimSuffix_ok E x10.1 ([13] : Bytes) x21 hx21) <| bind_elim h fun x22 hx22 h => CallH.data _ false rfl (start_Status_ok E x21 x22 hx22) ?_
     refine ai ⟨rfl, rfl, rfl, lb rfl⟩ (xi [bb j1.Reader.Asks, ss j1.Reader.Method, ss j1.Reader.Buf, bb j1.Reader.In, ss x22.1.Method, ss x22.1.Target, ii x22.1.Code, ss x22.1.Reason, ii x22.1.Minor, AV.list 2 (j1.Reader.Head.Fields.map S_Field.av), ss j1.Reader.Head.Body, ii j1.Reader.Body.Kind, ii j1.Reader.Body.Size, ii j1.Reader.Chunk.Stage, ss j1.Reader.Chunk.Line, ii j1.Reader.Chunk.Left, ii j1.Reader.Chunk.Size, ii j1.Reader.Bad, AV.list 7 (j1.out.map S_Message.av)] (ai (fun _ => rfl) ?_))
     refine SeqN.via (St.of [⟨0, AV.ptr 0 0, none⟩, ⟨3, ii x7.1, none⟩, ⟨4, ii x22.2, none⟩, ⟨6, ss x10.2.1, none⟩] [.cells 69 [bb j1.Reader.Asks, ss j1.Reader.Method, ss j1.Reader.Buf, bb j1.Reader.In, ss x22.1.Method, ss x22.1.Target, ii x22.1.Code, ss x22.1.Reason, ii x22.1.Minor, AV.list 2 (j1.Reader.Head.Fields.map S_Field.av), ss j1.Reader.Head.Body, ii j1.Reader.Body.Kind, ii j1.Reader.Body.Size, ii j1.Reader.Chunk.Stage, ss j1.Reader.Chunk.Line, ii j1.Reader.Chunk.Left, ii j1.Reader.Chunk.Size, ii j1.Reader.Bad, AV.list 7 (j1.out.map S_Message.av)] [(18, 1)]] [0, 1]) ?_ ?_
     ·refine Gho.to _ _ _ [0, 1] ?_ ?_ ?_ rfl rfl ?_
      ·exact ⟨⟨rfl, rfl, rfl⟩, trivial⟩
      ·exact rfl
      ·exact rfl
      ·exact tr3 <| tr3 <| tr3 <| tr3 <| trivial
     refine sj <| sn ?_
     refine Br.of h (fun ht h => ?_) fun ht h => ?_
     ·refine sj <| bind_elim h fun x23 hx23 h => CallH.ren [0] [1] [.cells 69 [bb x23.2.Reader.Asks, ss x23.2.Reader.Method, ss x23.2.Reader.Buf, bb x23.2.Reader.In, ss x23.2.Reader.Head.Start.Method, ss x23.2.Reader.Head.Start.Target, ii x23.2.Reader.Head.Start.Code, ss x23.2.Reader.Head.Start.Reason, ii x23.2.Reader.Head.Start.Minor, AV.list 2 (x23.2.Reader.Head.Fields.map S_Field.av), ss x23.2.Reader.Head.Body, ii x23.2.Reader.Body.Kind, ii x23.2.Reader.Body.Size, ii x23.2.Reader.Chunk.Stage, ss x23.2.Reader.Chunk.Line, ii x23.2.Reader.Chunk.Left, ii x23.2.Reader.Chunk.Size, ii x23.2.Reader.Bad, AV.list 7 (x23.2.out.map S_Message.av)] [(18, 2)]] [0, 0, 1] (wire_reading_fail_ok E (S_wire_reading.mk (S_Reader.mk j1.Reader.Asks j1.Reader.Method j1.Reader.Buf j1.Reader.In (S_Message.mk x22.1 j1.Reader.Head.Fields j1.Reader.Head.Body) j1.Reader.Body j1.Reader.Chunk j1.Reader.Bad) j1.out) x22.2 x23.1 x23.2 hx23) rfl rfl rfl rfl rfl rfl rfl rfl rfl <| sn ?_
      replace h := oi h
      have h0 := (Prod.mk.inj h).1
      have h1 := (Prod.mk.inj h).2
      subst h0
      subst h1
      refine xi [⟨2, bb x23.1, none⟩] (ai (Gho.to _ _ _ [0, 2] ?_ ?_ ?_ rfl rfl ?_) (ai ?_ rfl))
      ·exact ⟨⟨rfl, rfl, rfl⟩, trivial⟩
      ·exact rfl
      ·exact rfl
      ·exact tr3 <| trivial
      ·exact rfl
     ·refine sn <| sj <| bind_elim h fun x24 hx24 h => CallH.data _ false rfl (strings_TrimSuffix_ok E x10.2.1 ([10] : Bytes) x24 hx24) <| bind_elim h fun x25 hx25 h => CallH.data _ false rfl (strings_TrimSuffix_ok E x24 ([13] : Bytes) x25 hx25) <| sn <| sj <| sj <| bind_elim h fun x26 hx26 h => CallH.data _ false rfl (head_Parse_ok E x25 x26 hx26) ?_
      refine ai ⟨rfl, rfl, rfl, lb rfl⟩ (xi [bb j1.Reader.Asks, ss j1.Reader.Method, ss j1.Reader.Buf, bb j1.Reader.In, ss x22.1.Method, ss x22.1.Target, ii x22.1.Code, ss x22.1.Reason, ii x22.1.Minor, AV.list 2 (x26.1.map S_Field.av), ss j1.Reader.Head.Body, ii j1.Reader.Body.Kind, ii j1.Reader.Body.Size, ii j1.Reader.Chunk.Stage, ss j1.Reader.Chunk.Line, ii j1.Reader.Chunk.Left, ii j1.Reader.Chunk.Size, ii j1.Reader.Bad, AV.list 7 (j1.out.map S_Message.av)] (ai (fun _ => rfl) ?_))
      refine SeqN.via (St.of [⟨0, AV.ptr 0 0, none⟩, ⟨3, ii x7.1, none⟩, ⟨4, ii x26.2, none⟩] [.cells 69 [bb j1.Reader.Asks, ss j1.Reader.Method, ss j1.Reader.Buf, bb j1.Reader.In, ss x22.1.Method, ss x22.1.Target, ii x22.1.Code, ss x22.1.Reason, ii x22.1.Minor, AV.list 2 (x26.1.map S_Field.av), ss j1.Reader.Head.Body, ii j1.Reader.Body.Kind, ii j1.Reader.Body.Size, ii j1.Reader.Chunk.Stage, ss j1.Reader.Chunk.Line, ii j1.Reader.Chunk.Left, ii j1.Reader.Chunk.Size, ii j1.Reader.Bad, AV.list 7 (j1.out.map S_Message.av)] [(18, 1)]] [0, 1]) ?_ ?_
      ·refine Gho.to _ _ _ [0, 1] ?_ ?_ ?_ rfl rfl ?_
       ·exact ⟨⟨rfl, rfl, rfl⟩, trivial⟩
       ·exact rfl
       ·exact rfl
       ·exact tr3 <| tr3 <| tr3 <| trivial
      refine sj <| sn ?_
      refine Br.of h (fun ht h => ?_) fun ht h => ?_
      ·refine sj <| bind_elim h fun x27 hx27 h => CallH.ren [0] [1] [.cells 69 [bb x27.2.Reader.Asks, ss x27.2.Reader.Method, ss x27.2.Reader.Buf, bb x27.2.Reader.In, ss x27.2.Reader.Head.Start.Method, ss x27.2.Reader.Head.Start.Target, ii x27.2.Reader.Head.Start.Code, ss x27.2.Reader.Head.Start.Reason, ii x27.2.Reader.Head.Start.Minor, AV.list 2 (x27.2.Reader.Head.Fields.map S_Field.av), ss x27.2.Reader.Head.Body, ii x27.2.Reader.Body.Kind, ii x27.2.Reader.Body.Size, ii x27.2.Reader.Chunk.Stage, ss x27.2.Reader.Chunk.Line, ii x27.2.Reader.Chunk.Left, ii x27.2.Reader.Chunk.Size, ii x27.2.Reader.Bad, AV.list 7 (x27.2.out.map S_Message.av)] [(18, 2)]] [0, 0, 1] (wire_reading_fail_ok E (S_wire_reading.mk (S_Reader.mk j1.Reader.Asks j1.Reader.Method j1.Reader.Buf j1.Reader.In (S_Message.mk x22.1 x26.1 j1.Reader.Head.Body) j1.Reader.Body j1.Reader.Chunk j1.Reader.Bad) j1.out) x26.2 x27.1 x27.2 hx27) rfl rfl rfl rfl rfl rfl rfl rfl rfl <| sn ?_
       replace h := oi h
       have h0 := (Prod.mk.inj h).1
       have h1 := (Prod.mk.inj h).2
       subst h0
       subst h1
       refine xi [⟨2, bb x27.1, none⟩] (ai (Gho.to _ _ _ [0, 2] ?_ ?_ ?_ rfl rfl ?_) (ai ?_ rfl))
       ·exact ⟨⟨rfl, rfl, rfl⟩, trivial⟩
       ·exact rfl
       ·exact rfl
       ·exact tr3 <| trivial
       ·exact rfl
      ·refine sn <| sj <| sj <| ai ⟨lb rfl, lb rfl⟩ <| NormE.to (AV.agg [bb j1.Reader.Asks, ss j1.Reader.Method, ss j1.Reader.Buf, bb j1.Reader.In, ss x22.1.Method, ss x22.1.Target, ii x22.1.Code, ss x22.1.Reason, ii x22.1.Minor, AV.list 2 (x26.1.map S_Field.av), ss j1.Reader.Head.Body, ii j1.Reader.Body.Kind, ii j1.Reader.Body.Size, ii j1.Reader.Chunk.Stage, ss j1.Reader.Chunk.Line, ii j1.Reader.Chunk.Left, ii j1.Reader.Chunk.Size, ii j1.Reader.Bad]) (fun _ => rfl) <| bind_elim h fun x28 hx28 h => CallH.data _ false rfl (wire_body_ok E (S_Reader.mk j1.Reader.Asks j1.Reader.Method j1.Reader.Buf j1.Reader.In (S_Message.mk x22.1 x26.1 j1.Reader.Head.Body) j1.Reader.Body j1.Reader.Chunk j1.Reader.Bad) x28 hx28) ?_
       refine ai ⟨rfl, rfl, rfl, lb rfl⟩ (xi [bb j1.Reader.Asks, ss j1.Reader.Method, ss j1.Reader.Buf, bb j1.Reader.In, ss x22.1.Method, ss x22.1.Target, ii x22.1.Code, ss x22.1.Reason, ii x22.1.Minor, AV.list 2 (x26.1.map S_Field.av), ss j1.Reader.Head.Body, ii x28.1.Kind, ii x28.1.Size, ii j1.Reader.Chunk.Stage, ss j1.Reader.Chunk.Line, ii j1.Reader.Chunk.Left, ii j1.Reader.Chunk.Size, ii j1.Reader.Bad, AV.list 7 (j1.out.map S_Message.av)] (ai (fun _ => rfl) ?_))
       refine SeqN.via (St.of [⟨0, AV.ptr 0 0, none⟩, ⟨3, ii x7.1, none⟩, ⟨4, ii x28.2, none⟩] [.cells 69 [bb j1.Reader.Asks, ss j1.Reader.Method, ss j1.Reader.Buf, bb j1.Reader.In, ss x22.1.Method, ss x22.1.Target, ii x22.1.Code, ss x22.1.Reason, ii x22.1.Minor, AV.list 2 (x26.1.map S_Field.av), ss j1.Reader.Head.Body, ii x28.1.Kind, ii x28.1.Size, ii j1.Reader.Chunk.Stage, ss j1.Reader.Chunk.Line, ii j1.Reader.Chunk.Left, ii j1.Reader.Chunk.Size, ii j1.Reader.Bad, AV.list 7 (j1.out.map S_Message.av)] [(18, 1)]] [0, 1]) ?_ ?_
       ·refine Gho.to _ _ _ [0, 1] ?_ ?_ ?_ rfl rfl ?_
        ·exact ⟨⟨rfl, rfl, rfl⟩, trivial⟩
        ·exact rfl
        ·exact rfl
        ·exact tr3 <| tr3 <| tr3 <| trivial
       refine sj <| sn ?_
       refine Br.of h (fun ht h => ?_) fun ht h => ?_
       ·refine sj <| bind_elim h fun x29 hx29 h => CallH.ren [0] [1] [.cells 69 [bb x29.2.Reader.Asks, ss x29.2.Reader.Method, ss x29.2.Reader.Buf, bb x29.2.Reader.In, ss x29.2.Reader.Head.Start.Method, ss x29.2.Reader.Head.Start.Target, ii x29.2.Reader.Head.Start.Code, ss x29.2.Reader.Head.Start.Reason, ii x29.2.Reader.Head.Start.Minor, AV.list 2 (x29.2.Reader.Head.Fields.map S_Field.av), ss x29.2.Reader.Head.Body, ii x29.2.Reader.Body.Kind, ii x29.2.Reader.Body.Size, ii x29.2.Reader.Chunk.Stage, ss x29.2.Reader.Chunk.Line, ii x29.2.Reader.Chunk.Left, ii x29.2.Reader.Chunk.Size, ii x29.2.Reader.Bad, AV.list 7 (x29.2.out.map S_Message.av)] [(18, 2)]] [0, 0, 1] (wire_reading_fail_ok E (S_wire_reading.mk (S_Reader.mk j1.Reader.Asks j1.Reader.Method j1.Reader.Buf j1.Reader.In (S_Message.mk x22.1 x26.1 j1.Reader.Head.Body) x28.1 j1.Reader.Chunk j1.Reader.Bad) j1.out) x28.2 x29.1 x29.2 hx29) rfl rfl rfl rfl rfl rfl rfl rfl rfl <| sn ?_
        replace h := oi h
        have h0 := (Prod.mk.inj h).1
        have h1 := (Prod.mk.inj h).2
        subst h0
        subst h1
        refine xi [⟨2, bb x29.1, none⟩] (ai (Gho.to _ _ _ [0, 2] ?_ ?_ ?_ rfl rfl ?_) (ai ?_ rfl))
        ·exact ⟨⟨rfl, rfl, rfl⟩, trivial⟩
        ·exact rfl
        ·exact rfl
        ·exact tr3 <| trivial
        ·exact rfl
       ·refine sn <| sj <| bind_elim h fun x30 hx30 h => ?_
        have qx30 := (slc_some hx30).1
        have hx30e := (slc_some hx30).2
        refine ai (fun _ => qx30) <| NormE.to (ss x30) (fun _ => congrArg ss hx30e.symm) ?_
        refine ai ⟨rfl, rfl, rfl, lb rfl⟩ (xi [bb j1.Reader.Asks, ss j1.Reader.Method, ss x30, bb j1.Reader.In, ss x22.1.Method, ss x22.1.Target, ii x22.1.Code, ss x22.1.Reason, ii x22.1.Minor, AV.list 2 (x26.1.map S_Field.av), ss j1.Reader.Head.Body, ii x28.1.Kind, ii x28.1.Size, ii j1.Reader.Chunk.Stage, ss j1.Reader.Chunk.Line, ii j1.Reader.Chunk.Left, ii j1.Reader.Chunk.Size, ii j1.Reader.Bad, AV.list 7 (j1.out.map S_Message.av)] (ai (fun _ => rfl) ?_))
        refine sn <| sj <| sj ?_
        refine SeqN.via (St.of [⟨0, AV.ptr 0 0, none⟩, ⟨9, ii x22.1.Code, none⟩] [.cells 69 [bb j1.Reader.Asks, ss j1.Reader.Method, ss x30, bb j1.Reader.In, ss x22.1.Method, ss x22.1.Target, ii x22.1.Code, ss x22.1.Reason, ii x22.1.Minor, AV.list 2 (x26.1.map S_Field.av), ss j1.Reader.Head.Body, ii x28.1.Kind, ii x28.1.Size, ii j1.Reader.Chunk.Stage, ss j1.Reader.Chunk.Line, ii j1.Reader.Chunk.Left, ii j1.Reader.Chunk.Size, ii j1.Reader.Bad, AV.list 7 (j1.out.map S_Message.av)] [(18, 1)]] [0, 1]) ?_ ?_
        ·refine Gho.to _ _ _ [0, 1] ?_ ?_ ?_ rfl rfl ?_
         ·exact ⟨⟨rfl, rfl, rfl⟩, trivial⟩
         ·exact rfl
         ·exact rfl
         ·exact tr3 <| tr3 <| trivial
        refine sj <| ai id <| ai (fun hg => (and_r hg)) <| sn ?_
        refine Br.of h (fun ht h => ?_) fun ht h => ?_
        ·refine sj ?_
         refine xi (some 127) (ai (okM.mk (show (127 : Nat) = freeM T _ _ _ from by kernel_rfl)) ?_)
         refine xi none (ai trivial ?_)
         refine ai ⟨rfl, rfl, rfl, lb rfl⟩ (xi [bb j1.Reader.Asks, ss j1.Reader.Method, ss x30, bb j1.Reader.In, ss [], ss [], ii 0, ss [], ii 0, AV.list 2 (([] : List S_Field).map S_Field.av), ss [], ii x28.1.Kind, ii x28.1.Size, ii j1.Reader.Chunk.Stage, ss j1.Reader.Chunk.Line, ii j1.Reader.Chunk.Left, ii j1.Reader.Chunk.Size, ii j1.Reader.Bad, AV.list 7 (j1.out.map S_Message.av)] (ai (fun _ => rfl) ?_))
         refine ai ⟨rfl, rfl, rfl, lb rfl⟩ (xi [bb j1.Reader.Asks, ss j1.Reader.Method, ss x30, bb j1.Reader.In, ss [], ss [], ii 0, ss [], ii 0, AV.list 2 (([] : List S_Field).map S_Field.av), ss [], ii 0, ii 0, ii j1.Reader.Chunk.Stage, ss j1.Reader.Chunk.Line, ii j1.Reader.Chunk.Left, ii j1.Reader.Chunk.Size, ii j1.Reader.Bad, AV.list 7 (j1.out.map S_Message.av)] (ai (fun _ => rfl) ?_))
         refine SeqN.via (St.of [] [.cells 69 [bb j1.Reader.Asks, ss j1.Reader.Method, ss x30, bb j1.Reader.In, ss [], ss [], ii 0, ss [], ii 0, AV.list 2 (([] : List S_Field).map S_Field.av), ss [], ii 0, ii 0, ii j1.Reader.Chunk.Stage, ss j1.Reader.Chunk.Line, ii j1.Reader.Chunk.Left, ii j1.Reader.Chunk.Size, ii j1.Reader.Bad, AV.list 7 (j1.out.map S_Message.av)] [(9, 1), (18, 2)]] [0, 1, 1]) ?_ ?_
         ·refine Gho.to _ _ _ [0, 2, 1] ?_ ?_ ?_ rfl rfl ?_
          ·exact ⟨⟨rfl, rfl, rfl⟩, trivial⟩
          ·exact rfl
          ·exact rfl
          ·exact trivial
         refine sj <| sn ?_
         replace h := oi h
         have h0 := (Prod.mk.inj h).1
         have h1 := (Prod.mk.inj h).2
         subst h0
         subst h1
         refine xi [⟨2, bb true, none⟩] (ai (Gho.to _ _ _ [0, 2] ?_ ?_ ?_ rfl rfl ?_) (ai ?_ rfl))
         ·exact ⟨⟨rfl, rfl, rfl⟩, trivial⟩
         ·exact rfl
         ·exact rfl
         ·exact tr3 <| trivial
         ·exact rfl
        ·refine sn <| sj ?_
         refine ai ⟨rfl, rfl, rfl, lb rfl⟩ (xi [bb j1.Reader.Asks, ss j1.Reader.Method, ss x30, bb true, ss x22.1.Method, ss x22.1.Target, ii x22.1.Code, ss x22.1.Reason, ii x22.1.Minor, AV.list 2 (x26.1.map S_Field.av), ss j1.Reader.Head.Body, ii x28.1.Kind, ii x28.1.Size, ii j1.Reader.Chunk.Stage, ss j1.Reader.Chunk.Line, ii j1.Reader.Chunk.Left, ii j1.Reader.Chunk.Size, ii j1.Reader.Bad, AV.list 7 (j1.out.map S_Message.av)] (ai (fun _ => rfl) ?_))
         refine sn <| sj <| sn ?_
         replace h := oi h
         have h0 := (Prod.mk.inj h).1
         have h1 := (Prod.mk.inj h).2
         subst h0
         subst h1
         refine xi [⟨2, bb true, none⟩] (ai (Gho.to _ _ _ [0, 1] ?_ ?_ ?_ rfl rfl ?_) (ai ?_ rfl))
         ·exact ⟨⟨rfl, rfl, rfl⟩, trivial⟩
         ·exact rfl
         ·exact rfl
         ·exact tr3 <| trivial
         ·exact rfl
theorem wire_Feed_ok (E : Pm.Env) [LaidB E] (a0 : S_Reader) (a1 : Bytes) (r : (S_Reader × (List S_Message) × Int)) (h : wire_Feed a0 a1 = some r) : FnR E Tryz.prog 12 [S_Reader.av a0, ss a1] (AV.tup [S_Reader.av r.1, AV.list 7 (r.2.1.map S_Message.av), ii r.2.2]) false := by
 refine FnR.of_ev (T := T) (rows := []) tOk mixed Tryz.func12 rfl (by kernel_rfl) (by kernel_rfl) rfl fun hwf => ?_
 unfold wire_Feed at h
 refine sj <| ai rfl <| ai rfl <| sn <| sj <| sj <| ai ⟨lb rfl, lb rfl⟩ <| NormE.to (S_Reader.av a0) (fun _ => rfl) <| bind_elim h fun x1 hx1 h => CallH.data _ false rfl (wire_Right_ok E a0 x1 hx1) <| sn ?_
 refine Br.of h (fun ht h => ?_) fun ht h => ?_
 ·refine sj ?_
  refine xi (some 262143) (ai (okM.mk (show (262143 : Nat) = freeM T _ _ _ from by kernel_rfl)) ?_)
  refine ai ⟨rfl, rfl, rfl, lb rfl⟩ (xi [bb false, ss [], ss [], bb false, ss [], ss [], ii 0, ss [], ii 0, AV.list 2 (([] : List S_Field).map S_Field.av), ss [], ii 0, ii 0, ii 0, ss [], ii 0, ii 0, ii 0] (ai (fun _ => rfl) ?_))
  refine sn ?_
  replace h := oi h
  refine RetE.plain ?_
  refine ai ⟨lb rfl, lb rfl⟩ (xi (AV.agg [bb false, ss [], ss [], bb false, ss [], ss [], ii 0, ss [], ii 0, AV.list 2 (([] : List S_Field).map S_Field.av), ss [], ii 0, ii 0, ii 0, ss [], ii 0, ii 0, ii 0]) (ai rfl ?_))
  subst h; exact ai rfl (ai rfl rfl)
 ·refine sn <| sj <| sj <| sn ?_
  refine Br.of h (fun ht h => ?_) fun ht h => ?_
  ·refine sj <| ai ⟨lb rfl, lb rfl⟩ <| NormE.to (S_Reader.av a0) (fun _ => rfl) ?_
   refine ai ⟨rfl, rfl, rfl, lb rfl⟩ (xi (S_Reader.cells a0) (ai (fun _ => rfl) ?_))
   refine sn ?_
   replace h := oi h
   refine RetE.plain ?_
   refine ai ⟨lb rfl, lb rfl⟩ (xi (S_Reader.av a0) (ai rfl ?_))
   subst h; exact ai rfl (ai rfl rfl)
  ·refine sn <| sj <| ai ⟨lb rfl, lb rfl⟩ <| NormE.to (S_Reader.av a0) (fun _ => rfl) <| ai ⟨rfl, rfl, lb rfl⟩ ?_
   refine xi (some 262144) (ai (okM.mk (show (262144 : Nat) = freeM T _ _ _ from by kernel_rfl)) ?_)
   refine ai rfl <| sn <| sj <| bind_elim h fun x2 hx2 h => ?_
   have hx2c := (cat_some hx2).1
   have hx2e := (cat_some hx2).2
   refine ai (fun _ => hx2c) <| NormE.to (ss x2) (fun _ => congrArg ss hx2e.symm) ?_
   refine ai ⟨rfl, rfl, rfl, lb rfl⟩ (xi [bb a0.Asks, ss a0.Method, ss x2, bb a0.In, ss a0.Head.Start.Method, ss a0.Head.Start.Target, ii a0.Head.Start.Code, ss a0.Head.Start.Reason, ii a0.Head.Start.Minor, AV.list 2 (a0.Head.Fields.map S_Field.av), ss a0.Head.Body, ii a0.Body.Kind, ii a0.Body.Size, ii a0.Chunk.Stage, ss a0.Chunk.Line, ii a0.Chunk.Left, ii a0.Chunk.Size, ii a0.Bad, AV.list 7 (([] : List S_Message).map S_Message.av)] (ai (fun _ => rfl) ?_))
   refine SeqN.via (St.of [⟨4, AV.ptr 1 0, none⟩, ⟨7, AV.ptr 2 0, none⟩] [.dead, .cells 39 [bb false, ss [], ss [], bb false, ss [], ss [], ii 0, ss [], ii 0, AV.list 2 (([] : List S_Field).map S_Field.av), ss [], ii 0, ii 0, ii 0, ss [], ii 0, ii 0, ii 0] [(9, 0)], .cells 69 [bb a0.Asks, ss a0.Method, ss x2, bb a0.In, ss a0.Head.Start.Method, ss a0.Head.Start.Target, ii a0.Head.Start.Code, ss a0.Head.Start.Reason, ii a0.Head.Start.Minor, AV.list 2 (a0.Head.Fields.map S_Field.av), ss a0.Head.Body, ii a0.Body.Kind, ii a0.Body.Size, ii a0.Chunk.Stage, ss a0.Chunk.Line, ii a0.Chunk.Left, ii a0.Chunk.Size, ii a0.Bad, AV.list 7 (([] : List S_Message).map S_Message.av)] [(18, 1)]] [1, 1]) ?_ ?_
   ·refine Gho.to _ _ _ [0, 2] ?_ ?_ ?_ rfl rfl ?_
    ·exact ⟨trivial, ⟨⟨rfl, rfl, rfl⟩, ⟨⟨rfl, rfl, rfl⟩, trivial⟩⟩⟩
    ·exact rfl
    ·exact rfl
    ·exact tr3 <| tr3 <| trivial
   refine LoopE.img (fun x : S_wire_reading => St.of [⟨4, AV.ptr 1 0, none⟩, ⟨7, AV.ptr 2 0, none⟩] [.dead, .cells 39 [bb false, ss [], ss [], bb false, ss [], ss [], ii 0, ss [], ii 0, AV.list 2 (([] : List S_Field).map S_Field.av), ss [], ii 0, ii 0, ii 0, ss [], ii 0, ii 0, ii 0] [(9, 0)], .cells 69 [bb x.Reader.Asks, ss x.Reader.Method, ss x.Reader.Buf, bb x.Reader.In, ss x.Reader.Head.Start.Method, ss x.Reader.Head.Start.Target, ii x.Reader.Head.Start.Code, ss x.Reader.Head.Start.Reason, ii x.Reader.Head.Start.Minor, AV.list 2 (x.Reader.Head.Fields.map S_Field.av), ss x.Reader.Head.Body, ii x.Reader.Body.Kind, ii x.Reader.Body.Size, ii x.Reader.Chunk.Stage, ss x.Reader.Chunk.Line, ii x.Reader.Chunk.Left, ii x.Reader.Chunk.Size, ii x.Reader.Bad, AV.list 7 (x.out.map S_Message.av)] [(18, 1)]] [1, 1]) wire_Feed_b1 (S_wire_reading.mk (S_Reader.mk a0.Asks a0.Method x2 a0.In a0.Head a0.Body a0.Chunk a0.Bad) ([] : List S_Message)) h ?_ ?_
   ·refine Gho.to _ _ _ [0, 1] ?_ ?_ ?_ rfl rfl ?_
    ·exact ⟨trivial, ⟨⟨rfl, rfl, rfl⟩, ⟨⟨rfl, rfl, rfl⟩, trivial⟩⟩⟩
    ·exact rfl
    ·exact rfl
    ·exact tr3 <| tr3 <| trivial
   intro n1 x y1 h hl1 hr1
   revert h; revert x; intro s3 h
   unfold wire_Feed_b1 at h
   refine sj <| sn <| sj <| sj <| sn ?_
   refine Br.of h (fun ht h => ?_) fun ht h => ?_
   ·refine sn <| sj <| bind_elim h fun x4 hx4 h => CallH.ren [2] [1] [.dead, .cells 39 [bb false, ss [], ss [], bb false, ss [], ss [], ii 0, ss [], ii 0, AV.list 2 (([] : List S_Field).map S_Field.av), ss [], ii 0, ii 0, ii 0, ss [], ii 0, ii 0, ii 0] [(9, 0)], .cells 69 [bb x4.2.Reader.Asks, ss x4.2.Reader.Method, ss x4.2.Reader.Buf, bb x4.2.Reader.In, ss x4.2.Reader.Head.Start.Method, ss x4.2.Reader.Head.Start.Target, ii x4.2.Reader.Head.Start.Code, ss x4.2.Reader.Head.Start.Reason, ii x4.2.Reader.Head.Start.Minor, AV.list 2 (x4.2.Reader.Head.Fields.map S_Field.av), ss x4.2.Reader.Head.Body, ii x4.2.Reader.Body.Kind, ii x4.2.Reader.Body.Size, ii x4.2.Reader.Chunk.Stage, ss x4.2.Reader.Chunk.Line, ii x4.2.Reader.Chunk.Left, ii x4.2.Reader.Chunk.Size, ii x4.2.Reader.Bad, AV.list 7 (x4.2.out.map S_Message.av)] [(18, 2)]] [1, 0, 1] (wire_reading_more_ok E s3 x4.1 x4.2 hx4) rfl rfl rfl rfl rfl rfl rfl rfl rfl <| sn ?_
    refine Br.of h (fun ht h => ?_) fun ht h => ?_
    ·refine sj <| ai ⟨lb rfl, lb rfl⟩ <| NormE.to (AV.agg [bb x4.2.Reader.Asks, ss x4.2.Reader.Method, ss x4.2.Reader.Buf, bb x4.2.Reader.In, ss x4.2.Reader.Head.Start.Method, ss x4.2.Reader.Head.Start.Target, ii x4.2.Reader.Head.Start.Code, ss x4.2.Reader.Head.Start.Reason, ii x4.2.Reader.Head.Start.Minor, AV.list 2 (x4.2.Reader.Head.Fields.map S_Field.av), ss x4.2.Reader.Head.Body, ii x4.2.Reader.Body.Kind, ii x4.2.Reader.Body.Size, ii x4.2.Reader.Chunk.Stage, ss x4.2.Reader.Chunk.Line, ii x4.2.Reader.Chunk.Left, ii x4.2.Reader.Chunk.Size, ii x4.2.Reader.Bad]) (fun _ => rfl) ?_
     refine ai ⟨rfl, rfl, rfl, lb rfl⟩ (xi [bb x4.2.Reader.Asks, ss x4.2.Reader.Method, ss x4.2.Reader.Buf, bb x4.2.Reader.In, ss x4.2.Reader.Head.Start.Method, ss x4.2.Reader.Head.Start.Target, ii x4.2.Reader.Head.Start.Code, ss x4.2.Reader.Head.Start.Reason, ii x4.2.Reader.Head.Start.Minor, AV.list 2 (x4.2.Reader.Head.Fields.map S_Field.av), ss x4.2.Reader.Head.Body, ii x4.2.Reader.Body.Kind, ii x4.2.Reader.Body.Size, ii x4.2.Reader.Chunk.Stage, ss x4.2.Reader.Chunk.Line, ii x4.2.Reader.Chunk.Left, ii x4.2.Reader.Chunk.Size, ii x4.2.Reader.Bad] (ai (fun _ => rfl) ?_))
     refine ai (by kernel_rfl) ?_
     refine SeqN.via (St.of [⟨4, AV.ptr 1 0, none⟩, ⟨5, AV.list 7 (x4.2.out.map S_Message.av), some 0⟩, ⟨6, ii 0, none⟩] [.dead, .cells 39 [bb x4.2.Reader.Asks, ss x4.2.Reader.Method, ss x4.2.Reader.Buf, bb x4.2.Reader.In, ss x4.2.Reader.Head.Start.Method, ss x4.2.Reader.Head.Start.Target, ii x4.2.Reader.Head.Start.Code, ss x4.2.Reader.Head.Start.Reason, ii x4.2.Reader.Head.Start.Minor, AV.list 2 (x4.2.Reader.Head.Fields.map S_Field.av), ss x4.2.Reader.Head.Body, ii x4.2.Reader.Body.Kind, ii x4.2.Reader.Body.Size, ii x4.2.Reader.Chunk.Stage, ss x4.2.Reader.Chunk.Line, ii x4.2.Reader.Chunk.Left, ii x4.2.Reader.Chunk.Size, ii x4.2.Reader.Bad] []] [1]) ?_ ?_
     ·refine Gho.to _ _ _ [2] ?_ ?_ ?_ rfl rfl ?_
      ·exact ⟨trivial, ⟨⟨rfl, rfl, rfl⟩, trivial⟩⟩
      ·exact rfl
      ·exact rfl
      ·exact ⟨rfl, rfl, trivial, rfl, rfl, ⟨rfl, rfl, rfl⟩, rfl, rfl, trivial, trivial⟩
     replace h := oi h
     replace h := hr1 _ h.symm
     refine RetE.plain ?_
     refine ai ⟨lb rfl, lb rfl⟩ (xi (AV.agg [bb x4.2.Reader.Asks, ss x4.2.Reader.Method, ss x4.2.Reader.Buf, bb x4.2.Reader.In, ss x4.2.Reader.Head.Start.Method, ss x4.2.Reader.Head.Start.Target, ii x4.2.Reader.Head.Start.Code, ss x4.2.Reader.Head.Start.Reason, ii x4.2.Reader.Head.Start.Minor, AV.list 2 (x4.2.Reader.Head.Fields.map S_Field.av), ss x4.2.Reader.Head.Body, ii x4.2.Reader.Body.Kind, ii x4.2.Reader.Body.Size, ii x4.2.Reader.Chunk.Stage, ss x4.2.Reader.Chunk.Line, ii x4.2.Reader.Chunk.Left, ii x4.2.Reader.Chunk.Size, ii x4.2.Reader.Bad]) (ai rfl ?_))
     subst h; exact ai rfl (ai rfl rfl)
    ·replace h := oi h
     refine xi ⟨(n1, x4.2), hl1 _ h.symm⟩ (ai (Nat.lt_succ_self _) ?_)
     refine Gho.to _ _ _ [0, 2] ?_ ?_ ?_ rfl rfl ?_
     ·exact ⟨trivial, ⟨⟨rfl, rfl, rfl⟩, ⟨⟨rfl, rfl, rfl⟩, trivial⟩⟩⟩
     ·exact rfl
     ·exact rfl
     ·exact tr3 <| tr3 <| trivial
   ·refine sn <| sj <| bind_elim h fun x5 hx5 h => CallH.ren [2] [1] [.dead, .cells 39 [bb false, ss [], ss [], bb false, ss [], ss [], ii 0, ss [], ii 0, AV.list 2 (([] : List S_Field).map S_Field.av), ss [], ii 0, ii 0, ii 0, ss [], ii 0, ii 0, ii 0] [(9, 0)], .cells 69 [bb x5.2.Reader.Asks, ss x5.2.Reader.Method, ss x5.2.Reader.Buf, bb x5.2.Reader.In, ss x5.2.Reader.Head.Start.Method, ss x5.2.Reader.Head.Start.Target, ii x5.2.Reader.Head.Start.Code, ss x5.2.Reader.Head.Start.Reason, ii x5.2.Reader.Head.Start.Minor, AV.list 2 (x5.2.Reader.Head.Fields.map S_Field.av), ss x5.2.Reader.Head.Body, ii x5.2.Reader.Body.Kind, ii x5.2.Reader.Body.Size, ii x5.2.Reader.Chunk.Stage, ss x5.2.Reader.Chunk.Line, ii x5.2.Reader.Chunk.Left, ii x5.2.Reader.Chunk.Size, ii x5.2.Reader.Bad, AV.list 7 (x5.2.out.map S_Message.av)] [(18, 2)]] [1, 0, 1] (wire_reading_begin_ok E s3 x5.1 x5.2 hx5) rfl rfl rfl rfl rfl rfl rfl rfl rfl <| sn ?_
    refine Br.of h (fun ht h => ?_) fun ht h => ?_
    ·refine sj <| ai ⟨lb rfl, lb rfl⟩ <| NormE.to (AV.agg [bb x5.2.Reader.Asks, ss x5.2.Reader.Method, ss x5.2.Reader.Buf, bb x5.2.Reader.In, ss x5.2.Reader.Head.Start.Method, ss x5.2.Reader.Head.Start.Target, ii x5.2.Reader.Head.Start.Code, ss x5.2.Reader.Head.Start.Reason, ii x5.2.Reader.Head.Start.Minor, AV.list 2 (x5.2.Reader.Head.Fields.map S_Field.av), ss x5.2.Reader.Head.Body, ii x5.2.Reader.Body.Kind, ii x5.2.Reader.Body.Size, ii x5.2.Reader.Chunk.Stage, ss x5.2.Reader.Chunk.Line, ii x5.2.Reader.Chunk.Left, ii x5.2.Reader.Chunk.Size, ii x5.2.Reader.Bad]) (fun _ => rfl) ?_
     refine ai ⟨rfl, rfl, rfl, lb rfl⟩ (xi [bb x5.2.Reader.Asks, ss x5.2.Reader.Method, ss x5.2.Reader.Buf, bb x5.2.Reader.In, ss x5.2.Reader.Head.Start.Method, ss x5.2.Reader.Head.Start.Target, ii x5.2.Reader.Head.Start.Code, ss x5.2.Reader.Head.Start.Reason, ii x5.2.Reader.Head.Start.Minor, AV.list 2 (x5.2.Reader.Head.Fields.map S_Field.av), ss x5.2.Reader.Head.Body, ii x5.2.Reader.Body.Kind, ii x5.2.Reader.Body.Size, ii x5.2.Reader.Chunk.Stage, ss x5.2.Reader.Chunk.Line, ii x5.2.Reader.Chunk.Left, ii x5.2.Reader.Chunk.Size, ii x5.2.Reader.Bad] (ai (fun _ => rfl) ?_))
     refine ai (by kernel_rfl) ?_
     refine SeqN.via (St.of [⟨4, AV.ptr 1 0, none⟩, ⟨5, AV.list 7 (x5.2.out.map S_Message.av), some 0⟩, ⟨6, ii 0, none⟩] [.dead, .cells 39 [bb x5.2.Reader.Asks, ss x5.2.Reader.Method, ss x5.2.Reader.Buf, bb x5.2.Reader.In, ss x5.2.Reader.Head.Start.Method, ss x5.2.Reader.Head.Start.Target, ii x5.2.Reader.Head.Start.Code, ss x5.2.Reader.Head.Start.Reason, ii x5.2.Reader.Head.Start.Minor, AV.list 2 (x5.2.Reader.Head.Fields.map S_Field.av), ss x5.2.Reader.Head.Body, ii x5.2.Reader.Body.Kind, ii x5.2.Reader.Body.Size, ii x5.2.Reader.Chunk.Stage, ss x5.2.Reader.Chunk.Line, ii x5.2.Reader.Chunk.Left, ii x5.2.Reader.Chunk.Size, ii x5.2.Reader.Bad] []] [1]) ?_ ?_
     ·refine Gho.to _ _ _ [2] ?_ ?_ ?_ rfl rfl ?_
      ·exact ⟨trivial, ⟨⟨rfl, rfl, rfl⟩, trivial⟩⟩
      ·exact rfl
      ·exact rfl
      ·exact ⟨rfl, rfl, trivial, rfl, rfl, ⟨rfl, rfl, rfl⟩, rfl, rfl, trivial, trivial⟩
     replace h := oi h
     replace h := hr1 _ h.symm
     refine RetE.plain ?_
     refine ai ⟨lb rfl, lb rfl⟩ (xi (AV.agg [bb x5.2.Reader.Asks, ss x5.2.Reader.Method, ss x5.2.Reader.Buf, bb x5.2.Reader.In, ss x5.2.Reader.Head.Start.Method, ss x5.2.Reader.Head.Start.Target, ii x5.2.Reader.Head.Start.Code, ss x5.2.Reader.Head.Start.Reason, ii x5.2.Reader.Head.Start.Minor, AV.list 2 (x5.2.Reader.Head.Fields.map S_Field.av), ss x5.2.Reader.Head.Body, ii x5.2.Reader.Body.Kind, ii x5.2.Reader.Body.Size, ii x5.2.Reader.Chunk.Stage, ss x5.2.Reader.Chunk.Line, ii x5.2.Reader.Chunk.Left, ii x5.2.Reader.Chunk.Size, ii x5.2.Reader.Bad]) (ai rfl ?_))
     subst h; exact ai rfl (ai rfl rfl)
    ·replace h := oi h
     refine xi ⟨(n1, x5.2), hl1 _ h.symm⟩ (ai (Nat.lt_succ_self _) ?_)
     refine Gho.to _ _ _ [0, 2] ?_ ?_ ?_ rfl rfl ?_
     ·exact ⟨trivial, ⟨⟨rfl, rfl, rfl⟩, ⟨⟨rfl, rfl, rfl⟩, trivial⟩⟩⟩
     ·exact rfl
     ·exact rfl
     ·exact tr3 <| tr3 <| trivial
theorem intarsialaw10_alive_ok (E : Pm.Env) [LaidB E] (r : Bool) (h : intarsialaw10_alive = some r) : FnR E Tryz.prog 10 [] (bb r) false := by
 refine FnR.of_ev (T := T) (rows := []) tOk mixed Tryz.func10 rfl (by kernel_rfl) (by kernel_rfl) rfl fun hwf => ?_
 unfold intarsialaw10_alive at h
 refine sj <| sn <| sj <| bind_elim h fun x1 hx1 h => CallH.data _ false rfl (wire_New_ok E true ([] : Bytes) x1 hx1) <| bind_elim h fun x2 hx2 h => CallH.data _ false rfl (wire_Feed_ok E x1 ([71, 69, 84, 32, 47, 32, 72, 84, 84, 80, 47, 49, 46, 49, 13, 10, 13, 10] : Bytes) x2 hx2) <| ai rfl ?_
 refine ai ⟨rfl, rfl, rfl, lb rfl⟩ (xi (S_Reader.cells x2.1) (ai (fun _ => rfl) ?_))
 refine sn <| sj <| ai id <| NormE.to (ii (x2.2.1.length : Int)) (fun _ => len_list S_Message.av x2.2.1) <| ai id <| ai (fun hg => (and_r hg)) <| bind_elim h fun x3 hx3 h => ai id ?_
 refine ai rfl (xi (S_Message.av x3) (ai (fun hg => gidx_map _ hx3 hg) ?_))
 refine ai id <| ai id <| ai (lb rfl) <| NormE.to (S_Start.av x3.Start) (fun _ => rfl) <| ai ⟨rfl, rfl, lb rfl⟩ <| ai ⟨rfl, rfl, lb rfl⟩ <| ai ⟨rfl, rfl, lb rfl⟩ ?_
 refine xi none (ai trivial ?_)
 refine ai id <| ai id <| ai rfl <| ai (fun hg => (and_r hg)) ?_
 refine SeqN.via (St.of [⟨0, bb (bif (bif (x2.2.2 == (0 : Int)) then ((x2.2.1.length : Int) == (1 : Int)) else false) then ((x3.Start.Method == ([71, 69, 84] : Bytes)) && ((x3.Start.Target == ([47] : Bytes)) && ((x3.Start.Code == (0 : Int)) && ((x3.Start.Reason == ([] : Bytes)) && ((x3.Start.Minor == (1 : Int)) && true))))) else false), none⟩] [] []) ?_ ?_
 ·refine Gho.to _ _ _ [] ?_ ?_ ?_ rfl rfl ?_
  ·exact trivial
  ·exact rfl
  ·exact rfl
  ·exact tr3 <| trivial
 replace h := oi h
 refine RetE.plain ?_
 subst h; exact ai rfl (ai rfl rfl)
theorem intarsialaw10_WireBack_1_ok (E : Pm.Env) [LaidB E] (a0 : (List S_Field)) (r : (List S_Field)) (h : intarsialaw10_WireBack_1 a0 = some r) : FnR E Tryz.prog 14 [AV.list 2 (a0.map S_Field.av)] (AV.list 2 (r.map S_Field.av)) true := by
 refine FnR.of_ev (T := T) (rows := []) tOk mixed Tryz.func14 rfl (by kernel_rfl) (by kernel_rfl) rfl fun hwf => ?_
 unfold intarsialaw10_WireBack_1 at h
 refine sj <| sn <| sj <| bind_elim h fun x1 hx1 h => CallH.data _ true rfl (intarsiaref04_Remove_ok E a0 ([99, 111, 110, 116, 101, 110, 116, 45, 108, 101, 110, 103, 116, 104] : Bytes) x1 hx1) <| bind_elim h fun x2 hx2 h => CallH.data _ true rfl (intarsiaref04_Remove_ok E x1 ([116, 114, 97, 110, 115, 102, 101, 114, 45, 101, 110, 99, 111, 100, 105, 110, 103] : Bytes) x2 hx2) <| sn ?_
 replace h := oi h
 exact RetE.own 2 2 rfl rfl rfl rfl (ai (congrArg (fun r : (List S_Field) => AV.list 2 (r.map S_Field.av)) h) rfl)
theorem intarsiaref04_Like_ok (E : Pm.Env) [LaidB E] (a0 : (List S_Field)) (a1 : (List S_Field)) (r : Bool) (h : intarsiaref04_Like a0 a1 = some r) : FnR E Tryz.prog 16 [AV.list 2 (a0.map S_Field.av), AV.list 2 (a1.map S_Field.av)] (bb r) false := by
 refine FnR.of_ev (T := T) (rows := []) tOk mixed Tryz.func16 rfl (by kernel_rfl) (by kernel_rfl) rfl fun hwf => ?_
 unfold intarsiaref04_Like at h
 refine sj <| sn <| sj <| sj <| NormE.to (ii (a0.length : Int)) (fun _ => len_list S_Field.av a0) <| NormE.to (ii (a1.length : Int)) (fun _ => len_list S_Field.av a1) <| sn ?_
 refine Br.of h (fun ht h => ?_) fun ht h => ?_
 ·refine sj <| sn ?_
  replace h := oi h
  refine RetE.plain ?_
  subst h; exact ai rfl (ai rfl rfl)
 ·refine sn <| sj <| sj <| NormE.to (ii (a0.length : Int)) (fun _ => len_list S_Field.av a0) <| sn ?_
  refine LoopE.img (fun x : Int => St.of [⟨0, AV.list 2 (a0.map S_Field.av), none⟩, ⟨1, AV.list 2 (a1.map S_Field.av), none⟩, ⟨12, ii (a0.length : Int), none⟩, ⟨13, ii x, none⟩] [] []) (intarsiaref04_Like_b1 a0 a1) (0 : Int) h ?_ ?_
  ·refine Gho.to _ _ _ [] ?_ ?_ ?_ rfl rfl ?_
   ·exact trivial
   ·exact rfl
   ·exact rfl
   ·exact tr3 <| tr3 <| tr3 <| tr3 <| trivial
  intro n1 x y1 h hl1 hr1
  revert h; revert x; intro s1 h
  unfold intarsiaref04_Like_b1 at h
  refine sj <| sn <| sj ?_
  refine Br.of h (fun ht h => ?_) fun ht h => ?_
  ·refine sn <| sj <| sj <| sn <| sj <| bind_elim h fun x2 hx2 h => ?_
   refine ai rfl (xi (S_Field.av x2) (ai (fun hg => idx_map _ hx2) ?_))
   refine ai (lb rfl) <| NormE.to (S_Field.av x2) (fun _ => rfl) <| bind_elim h fun x3 hx3 h => ?_
   refine ai rfl (xi (S_Field.av x3) (ai (fun hg => idx_map _ hx3) ?_))
   refine ai (lb rfl) <| NormE.to (S_Field.av x3) (fun _ => rfl) <| ai rfl <| ai (by kernel_rfl) <| sn ?_
   refine Br.of h (fun ht h => ?_) fun ht h => ?_
   ·refine sj <| sn ?_
    replace h := oi h
    replace h := hr1 _ h.symm
    refine RetE.plain ?_
    subst h; exact ai rfl (ai rfl rfl)
   ·refine sn ?_
    replace h := oi h
    refine xi ⟨(n1, (IntKind.i64.wrap (s1 + (1 : Int)))), hl1 _ h.symm⟩ (ai (Nat.lt_succ_self _) ?_)
    refine Gho.to _ _ _ [] ?_ ?_ ?_ rfl rfl ?_
    ·exact trivial
    ·exact rfl
    ·exact rfl
    ·exact tr3 <| tr3 <| tr3 <| tr3 <| trivial
  ·refine sn <| sj <| sn ?_
   replace h := oi h
   replace h := hr1 _ h.symm
   refine RetE.plain ?_
   subst h; exact ai rfl (ai rfl rfl)
theorem intarsialaw10_WireBack_ok (E : Pm.Env) [LaidB E] (a0 : S_Message) (a1 : Bool) (a2 : Bytes) (r : Bool) (h : intarsialaw10_WireBack a0 a1 a2 = some r) : FnR E Tryz.prog 4 [S_Message.av a0, bb a1, ss a2] (bb r) false := by
 refine FnR.of_ev (T := T) (rows := []) tOk mixed Tryz.func4 rfl (by kernel_rfl) (by kernel_rfl) rfl fun hwf => ?_
 unfold intarsialaw10_WireBack at h
 refine sj <| ai rfl <| sn <| sj <| ai ⟨lb rfl, lb rfl⟩ <| NormE.to (S_Message.av a0) (fun _ => rfl) <| bind_elim h fun x1 hx1 h => CallH.data _ false rfl (intarsialaw10_few_ok E a0 x1 hx1) <| NormE.same <| ai rfl <| bind_elim h fun x2 hx2 h => ?_
 have qx2 := (slc_some hx2).1
 have hx2e := (slc_some hx2).2
 refine ai (fun _ => qx2) <| NormE.to (ss x2) (fun _ => congrArg ss hx2e.symm) ?_
 refine ai ⟨rfl, rfl, rfl, lb rfl⟩ (xi (S_Message.cells x1) (ai (fun _ => rfl) ?_))
 refine ai (by kernel_rfl) <| sn <| sj <| ai ⟨lb rfl, lb rfl⟩ <| NormE.to (S_Message.av x1) (fun _ => rfl) <| bind_elim h fun x3 hx3 h => CallH.data _ false rfl (wire_Write_ok E x1 a1 x3 hx3) ?_
 refine SeqN.via (St.of [⟨1, bb a1, none⟩, ⟨2, ss x2, none⟩, ⟨3, AV.ptr 0 0, none⟩, ⟨7, ss x3.1, none⟩, ⟨8, ii x3.2, none⟩] [.cells 26 (S_Message.cells x1) []] []) ?_ ?_
 ·refine Gho.to _ _ _ [] ?_ ?_ ?_ rfl rfl ?_
  ·exact ⟨⟨rfl, rfl, rfl⟩, trivial⟩
  ·exact rfl
  ·exact rfl
  ·exact tr3 <| tr3 <| tr3 <| tr3 <| tr3 <| trivial
 refine sj <| sn <| sj <| sj <| ai id <| ai id <| ai id <| ai id <| ai id <| ai id <| ai (fun hg => (and_r hg)) <| ai id <| ai id <| ai id <| ai id <| ai id <| ai (fun hg => (and_r hg)) <| ai id <| ai (fun hg => (and_r hg)) <| ai id <| ai (fun hg => (and_r hg)) ?_
 refine SeqN.via (St.of [⟨2, ss x2, none⟩, ⟨3, AV.ptr 0 0, none⟩, ⟨7, ss x3.1, none⟩, ⟨8, ii x3.2, none⟩, ⟨9, ii x1.Start.Code, none⟩, ⟨56, bb (bif (bif (bif (bif (x3.2 != (0 : Int)) then true else (bif a1 then (x1.Start.Minor == (0 : Int)) else false)) then true else (bif (x1.Start.Code != (0 : Int)) then (decide (x1.Start.Code < (200 : Int))) else false)) then true else (x1.Start.Code == (204 : Int))) then true else (x1.Start.Code == (304 : Int))), none⟩] [.cells 26 (S_Message.cells x1) []] []) ?_ ?_
 ·refine Gho.to _ _ _ [] ?_ ?_ ?_ rfl rfl ?_
  ·exact ⟨⟨rfl, rfl, rfl⟩, trivial⟩
  ·exact rfl
  ·exact rfl
  ·exact tr3 <| tr3 <| tr3 <| tr3 <| tr3 <| tr3 <| trivial
 refine Br.of h (fun ht h => ?_) fun ht h => ?_
 ·refine sj <| bind_elim h fun x4 hx4 h => CallH.data _ false rfl (intarsialaw10_alive_ok E  x4 hx4) <| ai id <| ai id <| ai id <| ai id <| ai id <| ai (fun hg => (and_r hg)) <| sn ?_
  replace h := oi h
  refine RetE.plain ?_
  subst h; exact ai rfl (ai rfl rfl)
 ·refine sn <| sj <| sj <| bind_elim h fun x5 hx5 h => CallH.data _ false rfl (strings_Index_ok E x3.1 ([13, 10, 13, 10] : Bytes) x5 hx5) <| sn ?_
  refine Br.of h (fun ht h => ?_) fun ht h => ?_
  ·refine sj <| bind_elim h fun x6 hx6 h => CallH.data _ false rfl (intarsialaw10_alive_ok E  x6 hx6) <| sn ?_
   replace h := oi h
   refine RetE.plain ?_
   subst h; exact ai rfl (ai rfl rfl)
  ·refine sn <| sj <| bind_elim h fun x7 hx7 h => CallH.data _ false rfl (wire_New_ok E (x1.Start.Code == (0 : Int)) ([71, 69, 84] : Bytes) x7 hx7) <| bind_elim h fun x8 hx8 h => ?_
   have hx8c := (cat_some hx8).1
   have hx8e := (cat_some hx8).2
   refine ai (fun _ => hx8c) <| NormE.to (ss x8) (fun _ => congrArg ss hx8e.symm) <| bind_elim h fun x9 hx9 h => CallH.data _ false rfl (wire_Feed_ok E x7 x8 x9 hx9) <| ai rfl ?_
   refine ai ⟨rfl, rfl, rfl, lb rfl⟩ (xi (S_Reader.cells x9.1) (ai (fun _ => rfl) ?_))
   refine SeqN.via (St.of [⟨3, AV.ptr 0 0, none⟩, ⟨11, AV.list 7 (x9.2.1.map S_Message.av), none⟩, ⟨12, ii x9.2.2, none⟩] [.cells 26 (S_Message.cells x1) []] []) ?_ ?_
   ·refine Gho.to _ _ _ [] ?_ ?_ ?_ rfl rfl ?_
    ·exact ⟨⟨rfl, rfl, rfl⟩, trivial⟩
    ·exact rfl
    ·exact rfl
    ·exact tr3 <| tr3 <| tr3 <| trivial
   refine sj <| sj <| ai id <| NormE.to (ii (x9.2.1.length : Int)) (fun _ => len_list S_Message.av x9.2.1) <| ai id <| ai (fun hg => (and_r hg)) <| bind_elim h fun x10 hx10 h => ai rfl ?_
   refine CallF.mk _ false (fun hg => intarsialaw10_alive_ok E  x10 (gcall_some hx10 hg)) (ai rfl ?_)
   refine ai id <| ai (fun hg => (and_r hg)) <| sn ?_
   refine Br.of h (fun ht h => ?_) fun ht h => ?_
   ·refine sj <| sn ?_
    replace h := oi h
    refine RetE.plain ?_
    subst h; exact ai rfl (ai rfl rfl)
   ·refine sn <| sj <| sn <| sj <| bind_elim h fun x11 hx11 h => ?_
    refine ai rfl (xi (S_Message.av x11) (ai (fun hg => idx_map _ hx11) ?_))
    refine ai (lb rfl) <| NormE.to (S_Start.av x11.Start) (fun _ => rfl) <| ai ⟨lb rfl, lb rfl⟩ <| NormE.to (S_Start.av x1.Start) (fun _ => rfl) <| ai rfl <| bind_elim h fun x12 hx12 h => ai id ?_
    refine ai rfl (xi (S_Message.av x12) (ai (fun hg => gidx_map _ hx12 hg) ?_))
    refine ai id <| ai id <| ai id <| ai id <| ai id <| ai (fun hg => (and_r hg)) <| bind_elim h fun x13 hx13 h => ai id ?_
    refine ai rfl (xi (S_Message.av x13) (ai (fun hg => gidx_map _ hx13 hg) ?_))
    refine ai id <| ai id <| bind_elim h fun x14 hx14 h => ai id <| ai id <| ai rfl ?_
    refine CallF.mk _ false (fun hg => FnR.drop (intarsialaw10_WireBack_1_ok E x13.Fields x14 (gcall_some hx14 hg))) (ai rfl ?_)
    refine ai id <| bind_elim h fun x15 hx15 h => ai id <| ai id <| ai rfl ?_
    refine CallF.mk _ false (fun hg => FnR.drop (intarsialaw10_WireBack_1_ok E x1.Fields x15 (gcall_some hx15 hg))) (ai rfl ?_)
    refine bind_elim h fun x16 hx16 h => ai id <| ai id <| ai rfl ?_
    refine CallF.mk _ false (fun hg => intarsiaref04_Like_ok E x14 x15 x16 (gcall_some hx16 hg)) (ai rfl ?_)
    refine ai (fun hg => (and_r hg)) <| ai (by kernel_rfl) ?_
    refine SeqN.via (St.of [⟨6, bb (bif (bif ((x11.Start.Method == x1.Start.Method) && ((x11.Start.Target == x1.Start.Target) && ((x11.Start.Code == x1.Start.Code) && ((x11.Start.Reason == x1.Start.Reason) && ((x11.Start.Minor == x1.Start.Minor) && true))))) then (x12.Body == x1.Body) else false) then x16 else false), none⟩] [] []) ?_ ?_
    ·refine Gho.to _ _ _ [] ?_ ?_ ?_ rfl rfl ?_
     ·exact trivial
     ·exact rfl
     ·exact rfl
     ·exact tr3 <| trivial
    replace h := oi h
    refine RetE.plain ?_
    subst h; exact ai rfl (ai rfl rfl)
end Go.Proofs.YtpionnihpibglaaGreatDoor
