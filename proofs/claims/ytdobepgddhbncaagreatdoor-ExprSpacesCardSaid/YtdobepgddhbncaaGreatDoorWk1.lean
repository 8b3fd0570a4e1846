/-
  The functions do what their images say: walks, written by a program of mine (gen.py).
-/
import Derived.Test.YtdobepgddhbncaaGreatDoorIv1
import Derived.Test.YtdobepgddhbncaaGreatDoorGh6
import Derived.Test.YtdobepgddhbncaaGreatDoorPm31
namespace Go.Proofs.YtdobepgddhbncaaGreatDoor
open Go Go.Pm
set_option linter.unusedSimpArgs false
open And renaming intro → ai
open Exists renaming intro → xi
open Option.some renaming inj → oi
open _root_.Nat renaming le_of_ble_eq_true → lb
open Go.Pm.SeqJ renaming go → sj
open Go.Pm.SeqN renaming go → sn
set_option maxRecDepth 100000
set_option maxHeartbeats 1000000
set_option linter.unusedVariables false
instance strings_Index_ok_i (E : Pm.Env) [LaidM E] (a0 a1 : Bytes) : Ok E (strings_Index a0 a1) (fun r => FnR E Tryz.prog 123 [ss a0, ss a1] (ii r) false) := ⟨strings_Index_ok E a0 a1⟩
instance strings_Compare_ok_i (E : Pm.Env) [LaidM E] (a0 a1 : Bytes) : Ok E (strings_Compare a0 a1) (fun r => FnR E Tryz.prog 83 [ss a0, ss a1] (ii r) false) := ⟨strings_Compare_ok E a0 a1⟩
instance stringslite_Index_ok_i (E : Pm.Env) [LaidM E] (a0 a1 : Bytes) : Ok E (stringslite_Index a0 a1) (fun r => FnR E Tryz.prog 143 [ss a0, ss a1] (ii r) false) := ⟨stringslite_Index_ok E a0 a1⟩
instance bytealg_IndexByteString_ok_i (E : Pm.Env) (a0 : Bytes) (a1 : Int) : Ok E (bytealg_IndexByteString a0 a1) (fun r => FnR E Tryz.prog 60 [ss a0, AV.int .u8 a1] (ii r) false) := ⟨bytealg_IndexByteString_ok E a0 a1⟩
instance strings_Join_ok_i (E : Pm.Env) (a0 : List Bytes) (a1 : Bytes) : Ok E (strings_Join a0 a1) (fun r => FnR E Tryz.prog 22 [AV.list 1 (a0.map AV.str), ss a1] (ss r) false) := ⟨strings_Join_ok E a0 a1⟩
instance strconv_FormatUint_ok_i (E : Pm.Env) [LaidE E] (a0 a1 : Int) : Ok E (strconv_FormatUint a0 a1) (fun r => FnR E Tryz.prog 95 [AV.int .u64 a0, ii a1] (ss r) false) := ⟨strconv_FormatUint_ok E a0 a1⟩
instance strings_Split_ok_i (E : Pm.Env) [LaidM E] (a0 a1 : Bytes) : Ok E (strings_Split a0 a1) (fun r => FnR E Tryz.prog 186 [ss a0, ss a1] (AV.list 1 (r.map AV.str)) false) := ⟨strings_Split_ok E a0 a1⟩
instance : Enc S_Env S_Env.av := ⟨trivial⟩
instance : Enc S_Expr S_Expr.avR := ⟨trivial⟩
instance : Enc S_Pair S_Pair.av := ⟨trivial⟩
instance : Enc S_expr_parser S_expr_parser.av := ⟨trivial⟩
instance : Enc S_Anon164 S_Anon164.av := ⟨trivial⟩
instance : Enc S_Anon166 S_Anon166.av := ⟨trivial⟩
theorem intarsialaw18_few_1_ok (E : Pm.Env) [LaidE E] (a0 : Bytes) (r : Bytes) (h : intarsialaw18_few_1 a0 = some r) : FnR E Tryz.prog 28 [ss a0] (ss r) false := by
 refine FnR.of_ev (T := T) (rows := []) tOk mixed Tryz.func28 rfl (by kernel_rfl) (by kernel_rfl) rfl fun hwf => ?_
 unfold intarsialaw18_few_1 at h
 exact W
instance intarsialaw18_few_1_ok_i (E : Pm.Env) [LaidE E] (a0 : Bytes) : Ok E (intarsialaw18_few_1 a0) (fun r => FnR E Tryz.prog 28 [ss a0] (ss r) false) := ⟨intarsialaw18_few_1_ok E a0⟩
theorem intarsialaw18_few_ok (E : Pm.Env) [LaidE E] (a0 : S_Env) (r : S_Env) (h : intarsialaw18_few a0 = some r) : FnR E Tryz.prog 10 [S_Env.av a0] (S_Env.av r) false := by
 refine FnR.of_ev (T := T) (rows := []) tOk mixed Tryz.func10 rfl (by kernel_rfl) (by kernel_rfl) rfl fun hwf => ?_
 unfold intarsialaw18_few at h
 exact W
instance intarsialaw18_few_ok_i (E : Pm.Env) [LaidE E] (a0 : S_Env) : Ok E (intarsialaw18_few a0) (fun r => FnR E Tryz.prog 10 [S_Env.av a0] (S_Env.av r) false) := ⟨intarsialaw18_few_ok E a0⟩
theorem intarsiaref18_blank_ok (E : Pm.Env) [LaidE E] (a0 : Int) (r : Bool) (h : intarsiaref18_blank a0 = some r) : FnR E Tryz.prog 37 [AV.int .u8 a0] (bb r) false := by
 refine FnR.of_ev (T := T) (rows := []) tOk mixed Tryz.func37 rfl (by kernel_rfl) (by kernel_rfl) rfl fun hwf => ?_
 unfold intarsiaref18_blank at h
 exact W
instance intarsiaref18_blank_ok_i (E : Pm.Env) [LaidE E] (a0 : Int) : Ok E (intarsiaref18_blank a0) (fun r => FnR E Tryz.prog 37 [AV.int .u8 a0] (bb r) false) := ⟨intarsiaref18_blank_ok E a0⟩
theorem intarsiaref17_at_ok (E : Pm.Env) [LaidE E] (a0 : Bytes) (a1 : Int) (r : Int) (h : intarsiaref17_at a0 a1 = some r) : FnR E Tryz.prog 77 [ss a0, ii a1] (AV.int .u8 r) false := by
 refine FnR.of_ev (T := T) (rows := []) tOk mixed Tryz.func77 rfl (by kernel_rfl) (by kernel_rfl) rfl fun hwf => ?_
 unfold intarsiaref17_at at h
 exact W
instance intarsiaref17_at_ok_i (E : Pm.Env) [LaidE E] (a0 : Bytes) (a1 : Int) : Ok E (intarsiaref17_at a0 a1) (fun r => FnR E Tryz.prog 77 [ss a0, ii a1] (AV.int .u8 r) false) := ⟨intarsiaref17_at_ok E a0 a1⟩
theorem intarsiaref17_to_ok (E : Pm.Env) [LaidE E] (a0 : Bytes) (a1 : Int) (a2 : Bytes) (r : Int) (h : intarsiaref17_to a0 a1 a2 = some r) : FnR E Tryz.prog 78 [ss a0, ii a1, ss a2] (ii r) false := by
 refine FnR.of_ev (T := T) (rows := []) tOk mixed Tryz.func78 rfl (by kernel_rfl) (by kernel_rfl) rfl fun hwf => ?_
 unfold intarsiaref17_to at h
 refine sj <| sn <| sj ?_
 refine LoopE.img (fun x : Int => St.of [⟨0, ss a0, none⟩, ⟨1, ii x, none⟩, ⟨2, ss a2, none⟩] [] []) (intarsiaref17_to_b1 a0 a2) a1 h ?_ ?_
 ·exact W
 intro n1 x y1 h hl1 hr1
 revert h; revert x; intro s1 h
 unfold intarsiaref17_to_b1 at h
 refine sj <| sj <| NormE.same <| sn ?_
 refine Br.of h (fun ht h => ?_) fun ht h => ?_
 ·refine sn <| sj <| sj <| sn ?_
  refine LoopE.img (fun x : Int => St.of [⟨0, ss a0, none⟩, ⟨1, ii s1, none⟩, ⟨2, ss a2, none⟩, ⟨7, ii x, none⟩] [] []) (intarsiaref17_to_b2 a0 a2 s1) (0 : Int) h ?_ ?_
  ·exact W
  intro n2 x y2 h hl2 hr2
  revert h; revert x; intro s2 h
  unfold intarsiaref17_to_b2 at h
  exact W
 ·exact W
instance intarsiaref17_to_ok_i (E : Pm.Env) [LaidE E] (a0 : Bytes) (a1 : Int) (a2 : Bytes) : Ok E (intarsiaref17_to a0 a1 a2) (fun r => FnR E Tryz.prog 78 [ss a0, ii a1, ss a2] (ii r) false) := ⟨intarsiaref17_to_ok E a0 a1 a2⟩
theorem intarsiaref11_at_ok (E : Pm.Env) [LaidE E] (a0 : Bytes) (a1 : Bytes) (r : Int) (h : intarsiaref11_at a0 a1 = some r) : FnR E Tryz.prog 144 [ss a0, ss a1] (ii r) false := by
 refine FnR.of_ev (T := T) (rows := []) tOk mixed Tryz.func144 rfl (by kernel_rfl) (by kernel_rfl) rfl fun hwf => ?_
 unfold intarsiaref11_at at h
 refine sj <| sn <| sj <| sj <| sn ?_
 refine LoopE.img (fun x : Int => St.of [⟨0, ss a0, none⟩, ⟨1, ss a1, none⟩, ⟨5, ii x, none⟩] [] []) (intarsiaref11_at_b1 a0 a1) (0 : Int) h ?_ ?_
 ·exact W
 intro n1 x y1 h hl1 hr1
 revert h; revert x; intro s1 h
 unfold intarsiaref11_at_b1 at h
 exact W
instance intarsiaref11_at_ok_i (E : Pm.Env) [LaidE E] (a0 : Bytes) (a1 : Bytes) : Ok E (intarsiaref11_at a0 a1) (fun r => FnR E Tryz.prog 144 [ss a0, ss a1] (ii r) false) := ⟨intarsiaref11_at_ok E a0 a1⟩
theorem intarsiaref11_digits_ok (E : Pm.Env) [LaidE E] (a0 : Bytes) (a1 : Bytes) (r : Bytes) (h : intarsiaref11_digits a0 a1 = some r) : FnR E Tryz.prog 145 [ss a0, ss a1] (ss r) false := by
 refine FnR.of_ev (T := T) (rows := []) tOk mixed Tryz.func145 rfl (by kernel_rfl) (by kernel_rfl) rfl fun hwf => ?_
 unfold intarsiaref11_digits at h
 refine sj <| sn <| sj <| bind_elim h fun x1 hx1 h => CallH.data _ false rfl (intarsiaref11_at_ok E a0 a1 x1 hx1) <| sn <| sj <| sj <| sn ?_
 refine Br.of h (fun ht h => ?_) fun ht h => ?_
 ·exact W
 ·refine sn <| sj <| NormE.same <| sn <| sj <| sn <| bind_elim h fun j2 hj2 h => ?_
  refine SeqJ.join (St.of [⟨0, ss a0, none⟩, ⟨6, ii (IntKind.i64.wrap (x1 + (a1.length : Int))), none⟩, ⟨7, ii j2, none⟩] [] []) ?_ ?_
  ·clear h; have h := hj2; clear hj2
   refine LoopE.img (fun x : Int => St.of [⟨0, ss a0, none⟩, ⟨6, ii (IntKind.i64.wrap (x1 + (a1.length : Int))), none⟩, ⟨7, ii x, none⟩] [] []) (intarsiaref11_digits_b1 a0) (IntKind.i64.wrap (x1 + (a1.length : Int))) h ?_ ?_
   ·exact W
   intro n1 x y1 h hl1 hr1
   revert h; revert x; intro s3 h
   unfold intarsiaref11_digits_b1 at h
   exact W
  ·clear hj2
   exact W
instance intarsiaref11_digits_ok_i (E : Pm.Env) [LaidE E] (a0 : Bytes) (a1 : Bytes) : Ok E (intarsiaref11_digits a0 a1) (fun r => FnR E Tryz.prog 145 [ss a0, ss a1] (ss r) false) := ⟨intarsiaref11_digits_ok E a0 a1⟩
theorem intarsiaref11_Agent_ok (E : Pm.Env) [LaidE E] (a0 : Bytes) (r : (Bytes × Bytes × Bytes)) (h : intarsiaref11_Agent a0 = some r) : FnR E Tryz.prog 124 [ss a0] (AV.tup [ss r.1, ss r.2.1, ss r.2.2]) false := by
 refine FnR.of_ev (T := T) (rows := []) tOk mixed Tryz.func124 rfl (by kernel_rfl) (by kernel_rfl) rfl fun hwf => ?_
 unfold intarsiaref11_Agent at h
 exact W
instance intarsiaref11_Agent_ok_i (E : Pm.Env) [LaidE E] (a0 : Bytes) : Ok E (intarsiaref11_Agent a0) (fun r => FnR E Tryz.prog 124 [ss a0] (AV.tup [ss r.1, ss r.2.1, ss r.2.2]) false) := ⟨intarsiaref11_Agent_ok E a0⟩
theorem intarsiaref17_agent_ok (E : Pm.Env) [LaidE E] (a0 : Bytes) (a1 : Bytes) (r : Bytes) (h : intarsiaref17_agent a0 a1 = some r) : FnR E Tryz.prog 100 [ss a0, ss a1] (ss r) false := by
 refine FnR.of_ev (T := T) (rows := []) tOk mixed Tryz.func100 rfl (by kernel_rfl) (by kernel_rfl) rfl fun hwf => ?_
 unfold intarsiaref17_agent at h
 exact W
instance intarsiaref17_agent_ok_i (E : Pm.Env) [LaidE E] (a0 : Bytes) (a1 : Bytes) : Ok E (intarsiaref17_agent a0 a1) (fun r => FnR E Tryz.prog 100 [ss a0, ss a1] (ss r) false) := ⟨intarsiaref17_agent_ok E a0 a1⟩
theorem intarsiaref11_cut_ok (E : Pm.Env) [LaidE E] (a0 : Bytes) (a1 : Int) (r : (Bytes × Bytes × Bool)) (h : intarsiaref11_cut a0 a1 = some r) : FnR E Tryz.prog 126 [ss a0, AV.int .u8 a1] (AV.tup [ss r.1, ss r.2.1, bb r.2.2]) false := by
 refine FnR.of_ev (T := T) (rows := []) tOk mixed Tryz.func126 rfl (by kernel_rfl) (by kernel_rfl) rfl fun hwf => ?_
 unfold intarsiaref11_cut at h
 refine sj <| sn <| sj <| sj <| sn ?_
 refine LoopE.img (fun x : Int => St.of [⟨0, ss a0, none⟩, ⟨1, AV.int .u8 a1, none⟩, ⟨7, ii x, none⟩] [] []) (intarsiaref11_cut_b1 a0 a1) (0 : Int) h ?_ ?_
 ·exact W
 intro n1 x y1 h hl1 hr1
 revert h; revert x; intro s1 h
 unfold intarsiaref11_cut_b1 at h
 exact W
instance intarsiaref11_cut_ok_i (E : Pm.Env) [LaidE E] (a0 : Bytes) (a1 : Int) : Ok E (intarsiaref11_cut a0 a1) (fun r => FnR E Tryz.prog 126 [ss a0, AV.int .u8 a1] (AV.tup [ss r.1, ss r.2.1, bb r.2.2]) false) := ⟨intarsiaref11_cut_ok E a0 a1⟩
theorem intarsiaref11_split_ok (E : Pm.Env) [LaidE E] (a0 : Bytes) (a1 : Int) (r : (List Bytes)) (h : intarsiaref11_split a0 a1 = some r) : FnR E Tryz.prog 125 [ss a0, AV.int .u8 a1] (AV.list 1 (r.map AV.str)) true := by
 refine FnR.of_ev (T := T) (rows := []) tOk mixed Tryz.func125 rfl (by kernel_rfl) (by kernel_rfl) rfl fun hwf => ?_
 unfold intarsiaref11_split at h
 refine sj <| sn <| sj <| ai ⟨rfl, rfl, rfl⟩ <| NormE.to (AV.list 1 (([] : List Bytes).map AV.str)) (fun _ => rfl) <| sn ?_
 refine LoopE.img (fun x : (Bytes × (List Bytes)) => St.of [⟨0, ss x.1, none⟩, ⟨1, AV.int .u8 a1, none⟩, ⟨5, AV.list 1 (x.2.map AV.str), some 0⟩] [] [1]) (intarsiaref11_split_b1 a1) (a0, ([] : List Bytes)) h ?_ ?_
 ·exact W
 intro n1 x y1 h hl1 hr1
 obtain ⟨s1, s2⟩ := x
 unfold intarsiaref11_split_b1 at h
 dsimp only at h
 exact W
instance intarsiaref11_split_ok_i (E : Pm.Env) [LaidE E] (a0 : Bytes) (a1 : Int) : Ok E (intarsiaref11_split a0 a1) (fun r => FnR E Tryz.prog 125 [ss a0, AV.int .u8 a1] (AV.list 1 (r.map AV.str)) true) := ⟨intarsiaref11_split_ok E a0 a1⟩
theorem intarsiaref03_blank_ok (E : Pm.Env) [LaidE E] (a0 : Int) (r : Bool) (h : intarsiaref03_blank a0 = some r) : FnR E Tryz.prog 146 [AV.int .u8 a0] (bb r) false := by
 refine FnR.of_ev (T := T) (rows := []) tOk mixed Tryz.func146 rfl (by kernel_rfl) (by kernel_rfl) rfl fun hwf => ?_
 unfold intarsiaref03_blank at h
 exact W
instance intarsiaref03_blank_ok_i (E : Pm.Env) [LaidE E] (a0 : Int) : Ok E (intarsiaref03_blank a0) (fun r => FnR E Tryz.prog 146 [AV.int .u8 a0] (bb r) false) := ⟨intarsiaref03_blank_ok E a0⟩
theorem intarsiaref03_Trim_ok (E : Pm.Env) [LaidE E] (a0 : Bytes) (r : Bytes) (h : intarsiaref03_Trim a0 = some r) : FnR E Tryz.prog 127 [ss a0] (ss r) false := by
 refine FnR.of_ev (T := T) (rows := []) tOk mixed Tryz.func127 rfl (by kernel_rfl) (by kernel_rfl) rfl fun hwf => ?_
 unfold intarsiaref03_Trim at h
 refine sj <| sn <| bind_elim h fun j1 hj1 h => ?_
 refine SeqJ.join (St.of [⟨0, ss j1, none⟩] [] []) ?_ ?_
 ·clear h; have h := hj1; clear hj1
  refine LoopE.img (fun x : Bytes => St.of [⟨0, ss x, none⟩] [] []) intarsiaref03_Trim_b1 a0 h ?_ ?_
  ·exact W
  intro n1 x y1 h hl1 hr1
  revert h; revert x; intro s2 h
  unfold intarsiaref03_Trim_b1 at h
  exact W
 ·clear hj1
  refine bind_elim h fun j6 hj6 h => ?_
  refine SeqJ.join (St.of [⟨0, ss j6, none⟩] [] []) ?_ ?_
  ·clear h; have h := hj6; clear hj6
   refine LoopE.img (fun x : Bytes => St.of [⟨0, ss x, none⟩] [] []) intarsiaref03_Trim_b2 j1 h ?_ ?_
   ·exact W
   intro n2 x y2 h hl2 hr2
   revert h; revert x; intro s7 h
   unfold intarsiaref03_Trim_b2 at h
   exact W
  ·clear hj6
   exact W
instance intarsiaref03_Trim_ok_i (E : Pm.Env) [LaidE E] (a0 : Bytes) : Ok E (intarsiaref03_Trim a0) (fun r => FnR E Tryz.prog 127 [ss a0] (ss r) false) := ⟨intarsiaref03_Trim_ok E a0⟩
theorem intarsiaref03_end_ok (E : Pm.Env) [LaidE E] (a0 : Bytes) (a1 : Int) (r : Int) (h : intarsiaref03_end a0 a1 = some r) : FnR E Tryz.prog 147 [ss a0, ii a1] (ii r) false := by
 refine FnR.of_ev (T := T) (rows := []) tOk mixed Tryz.func147 rfl (by kernel_rfl) (by kernel_rfl) rfl fun hwf => ?_
 unfold intarsiaref03_end at h
 refine sj <| sn <| sj <| sn <| bind_elim h fun j1 hj1 h => ?_
 refine SeqJ.join (St.of [⟨0, ss a0, none⟩, ⟨5, ii j1, none⟩] [] []) ?_ ?_
 ·clear h; have h := hj1; clear hj1
  refine LoopE.img (fun x : Int => St.of [⟨0, ss a0, none⟩, ⟨5, ii x, none⟩] [] []) (intarsiaref03_end_b1 a0) (IntKind.i64.wrap (a1 + (1 : Int))) h ?_ ?_
  ·exact W
  intro n1 x y1 h hl1 hr1
  revert h; revert x; intro s2 h
  unfold intarsiaref03_end_b1 at h
  exact W
 ·clear hj1
  exact W
instance intarsiaref03_end_ok_i (E : Pm.Env) [LaidE E] (a0 : Bytes) (a1 : Int) : Ok E (intarsiaref03_end a0 a1) (fun r => FnR E Tryz.prog 147 [ss a0, ii a1] (ii r) false) := ⟨intarsiaref03_end_ok E a0 a1⟩
theorem intarsiaref03_Control_ok (E : Pm.Env) [LaidE E] (a0 : Int) (r : Bool) (h : intarsiaref03_Control a0 = some r) : FnR E Tryz.prog 148 [AV.int .u8 a0] (bb r) false := by
 refine FnR.of_ev (T := T) (rows := []) tOk mixed Tryz.func148 rfl (by kernel_rfl) (by kernel_rfl) rfl fun hwf => ?_
 unfold intarsiaref03_Control at h
 exact W
instance intarsiaref03_Control_ok_i (E : Pm.Env) [LaidE E] (a0 : Int) : Ok E (intarsiaref03_Control a0) (fun r => FnR E Tryz.prog 148 [AV.int .u8 a0] (bb r) false) := ⟨intarsiaref03_Control_ok E a0⟩
theorem intarsiaref03_Unquote_ok (E : Pm.Env) [LaidE E] (a0 : Bytes) (r : (Bytes × Int)) (h : intarsiaref03_Unquote a0 = some r) : FnR E Tryz.prog 128 [ss a0] (AV.tup [ss r.1, ii r.2]) false := by
 refine FnR.of_ev (T := T) (rows := []) tOk mixed Tryz.func128 rfl (by kernel_rfl) (by kernel_rfl) rfl fun hwf => ?_
 unfold intarsiaref03_Unquote at h
 refine sj <| sn <| sj <| sj <| bind_elim h fun x1 hx1 h => ai id ?_
 refine xi x1 (ai (fun hg => gidx_some hx1 hg) ?_)
 refine ai id <| ai (fun hg => (and_r hg)) <| bind_elim h fun x2 hx2 h => ai id <| ai rfl ?_
 refine CallF.mk _ false (fun hg => intarsiaref03_end_ok E a0 (0 : Int) x2 (gcall_some hx2 hg)) (ai rfl ?_)
 refine ai id <| NormE.same <| ai id <| ai id <| ai (fun hg => (and_r hg)) <| sn ?_
 refine Br.of h (fun ht h => ?_) fun ht h => ?_
 ·exact W
 ·refine sn <| sj <| sn <| sj <| sn <| sj ?_
  refine LoopE.img (fun x : (Bytes × Int) => St.of [⟨0, ss a0, none⟩, ⟨4, ss x.1, none⟩, ⟨5, ii x.2, none⟩] [] []) (intarsiaref03_Unquote_b1 a0) (([] : Bytes), (1 : Int)) h ?_ ?_
  ·exact W
  intro n1 x y1 h hl1 hr1
  obtain ⟨s3, s4⟩ := x
  unfold intarsiaref03_Unquote_b1 at h
  dsimp only at h
  exact W
instance intarsiaref03_Unquote_ok_i (E : Pm.Env) [LaidE E] (a0 : Bytes) : Ok E (intarsiaref03_Unquote a0) (fun r => FnR E Tryz.prog 128 [ss a0] (AV.tup [ss r.1, ii r.2]) false) := ⟨intarsiaref03_Unquote_ok E a0⟩
theorem intarsiaref11_Cookies_ok (E : Pm.Env) [LaidE E] (a0 : Bytes) (r : (List S_Pair)) (h : intarsiaref11_Cookies a0 = some r) : FnR E Tryz.prog 102 [ss a0] (AV.list 2 (r.map S_Pair.av)) true := by
 refine FnR.of_ev (T := T) (rows := []) tOk mixed Tryz.func102 rfl (by kernel_rfl) (by kernel_rfl) rfl fun hwf => ?_
 unfold intarsiaref11_Cookies at h
 refine sj <| sn <| sj <| ai ⟨rfl, rfl, rfl⟩ <| NormE.to (AV.list 2 (([] : List S_Pair).map S_Pair.av)) (fun _ => rfl) <| sn <| bind_elim h fun j1 hj1 h => ?_
 refine SeqJ.join (St.of [⟨3, AV.list 2 (j1.map S_Pair.av), some 0⟩] [] [1]) ?_ ?_
 ·clear h; have h := hj1; clear hj1
  refine sj <| bind_elim h fun x2 hx2 h => CallH.data _ true rfl (intarsiaref11_split_ok E a0 (59 : Int) x2 hx2) <| NormE.to (ii (x2.length : Int)) (fun _ => len_list ss x2) <| sn ?_
  refine LoopE.img (fun x : ((List S_Pair) × Int) => St.of [⟨3, AV.list 2 (x.1.map S_Pair.av), some 0⟩, ⟨15, AV.list 1 (x2.map AV.str), some 1⟩, ⟨16, ii (x2.length : Int), none⟩, ⟨17, ii x.2, none⟩] [] [1, 1]) (intarsiaref11_Cookies_b1 x2) (([] : List S_Pair), (0 : Int)) h ?_ ?_
  ·refine Gho.to _ _ _ [1, 2] ?_ ?_ ?_ rfl rfl ?_
   ·exact trivial
   ·exact rfl
   ·exact rfl
   ·exact ⟨rfl, rfl, ⟨rfl, rfl, rfl⟩, rfl, rfl, ⟨rfl, rfl, rfl⟩, rfl, rfl, trivial, rfl, rfl, trivial, trivial⟩
  intro n1 x y1 h hl1 hr1
  obtain ⟨s3, s4⟩ := x
  unfold intarsiaref11_Cookies_b1 at h
  dsimp only at h
  refine sj <| sn <| sj ?_
  refine Br.of h (fun ht h => ?_) fun ht h => ?_
  ·refine sn <| sj <| sj <| bind_elim h fun x5 hx5 h => ?_
   refine ai rfl (xi (ss x5) (ai (fun hg => idx_map _ hx5) ?_))
   refine sn <| sj <| bind_elim h fun x6 hx6 h => CallH.data _ false rfl (intarsiaref11_cut_ok E x5 (61 : Int) x6 hx6) <| sn <| sj <| bind_elim h fun x7 hx7 h => CallH.data _ false rfl (intarsiaref03_Trim_ok E x6.1 x7 hx7) <| sn <| sj <| bind_elim h fun x8 hx8 h => CallH.data _ false rfl (intarsiaref03_Trim_ok E x6.2.1 x8 hx8) <| sn <| sj <| bind_elim h fun x9 hx9 h => CallH.data _ false rfl (intarsiaref03_Unquote_ok E x8 x9 hx9) <| sn <| sj <| sj <| sn ?_
   refine Br.of h (fun ht h => ?_) fun ht h => ?_
   ·refine sn <| sj <| ai id <| ai (fun hg => (and_r hg)) <| sn ?_
    refine Br.of h (fun ht h => ?_) fun ht h => ?_
    ·refine ai ⟨rfl, rfl, lb rfl⟩ <| ai ⟨rfl, rfl, lb rfl⟩ ?_
     refine xi none (ai trivial ?_)
     refine ai ⟨rfl, rfl, rfl, rfl⟩ <| ai ⟨rfl, rfl, rfl⟩ <| NormE.to (AV.list 2 (([(S_Pair.mk x7 x9.1)] : List S_Pair).map S_Pair.av)) (fun _ => rfl) <| bind_elim h fun x10 hx10 h => ?_
     have qx10 := (app_some hx10).1
     have hx10e := (app_some hx10).2
     refine ai ⟨rfl, rfl, rfl⟩ <| ai rfl <| ai (app_cond S_Pair.av qx10) <| NormE.to (AV.list 2 (x10.map S_Pair.av)) (fun _ => (app_list 2 S_Pair.av _ _).trans (congrArg (fun y => AV.list 2 (List.map S_Pair.av y)) hx10e.symm)) <| sn ?_
     replace h := oi h
     refine xi ⟨(n1, (x10, (IntKind.i64.wrap (s4 + (1 : Int))))), hl1 _ h.symm⟩ (ai (Nat.lt_succ_self _) ?_)
     refine Gho.to _ _ _ [3, 1] ?_ ?_ ?_ rfl rfl ?_
     ·exact trivial
     ·exact rfl
     ·exact rfl
     ·exact ⟨rfl, rfl, ⟨rfl, rfl, rfl⟩, rfl, rfl, ⟨rfl, rfl, rfl⟩, rfl, rfl, trivial, rfl, rfl, trivial, trivial⟩
    ·refine sn ?_
     replace h := oi h
     refine xi ⟨(n1, (s3, (IntKind.i64.wrap (s4 + (1 : Int))))), hl1 _ h.symm⟩ (ai (Nat.lt_succ_self _) ?_)
     refine Gho.to _ _ _ [0, 1] ?_ ?_ ?_ rfl rfl ?_
     ·exact trivial
     ·exact rfl
     ·exact rfl
     ·exact ⟨rfl, rfl, ⟨rfl, rfl, rfl⟩, rfl, rfl, ⟨rfl, rfl, rfl⟩, rfl, rfl, trivial, rfl, rfl, trivial, trivial⟩
   ·refine sn <| sj <| ai id <| ai (fun hg => (and_r hg)) <| sn ?_
    refine Br.of h (fun ht h => ?_) fun ht h => ?_
    ·refine ai ⟨rfl, rfl, lb rfl⟩ <| ai ⟨rfl, rfl, lb rfl⟩ ?_
     refine xi none (ai trivial ?_)
     refine ai ⟨rfl, rfl, rfl, rfl⟩ <| ai ⟨rfl, rfl, rfl⟩ <| NormE.to (AV.list 2 (([(S_Pair.mk x7 x8)] : List S_Pair).map S_Pair.av)) (fun _ => rfl) <| bind_elim h fun x11 hx11 h => ?_
     have qx11 := (app_some hx11).1
     have hx11e := (app_some hx11).2
     refine ai ⟨rfl, rfl, rfl⟩ <| ai rfl <| ai (app_cond S_Pair.av qx11) <| NormE.to (AV.list 2 (x11.map S_Pair.av)) (fun _ => (app_list 2 S_Pair.av _ _).trans (congrArg (fun y => AV.list 2 (List.map S_Pair.av y)) hx11e.symm)) <| sn ?_
     replace h := oi h
     refine xi ⟨(n1, (x11, (IntKind.i64.wrap (s4 + (1 : Int))))), hl1 _ h.symm⟩ (ai (Nat.lt_succ_self _) ?_)
     refine Gho.to _ _ _ [3, 1] ?_ ?_ ?_ rfl rfl ?_
     ·exact trivial
     ·exact rfl
     ·exact rfl
     ·exact ⟨rfl, rfl, ⟨rfl, rfl, rfl⟩, rfl, rfl, ⟨rfl, rfl, rfl⟩, rfl, rfl, trivial, rfl, rfl, trivial, trivial⟩
    ·refine sn ?_
     replace h := oi h
     refine xi ⟨(n1, (s3, (IntKind.i64.wrap (s4 + (1 : Int))))), hl1 _ h.symm⟩ (ai (Nat.lt_succ_self _) ?_)
     refine Gho.to _ _ _ [0, 1] ?_ ?_ ?_ rfl rfl ?_
     ·exact trivial
     ·exact rfl
     ·exact rfl
     ·exact ⟨rfl, rfl, ⟨rfl, rfl, rfl⟩, rfl, rfl, ⟨rfl, rfl, rfl⟩, rfl, rfl, trivial, rfl, rfl, trivial, trivial⟩
  ·exact W
 ·clear hj1
  exact W
instance intarsiaref11_Cookies_ok_i (E : Pm.Env) [LaidE E] (a0 : Bytes) : Ok E (intarsiaref11_Cookies a0) (fun r => FnR E Tryz.prog 102 [ss a0] (AV.list 2 (r.map S_Pair.av)) true) := ⟨intarsiaref11_Cookies_ok E a0⟩
theorem intarsiaref11_Find_ok (E : Pm.Env) [LaidE E] (a0 : (List S_Pair)) (a1 : Bytes) (r : (Bytes × Bool)) (h : intarsiaref11_Find a0 a1 = some r) : FnR E Tryz.prog 101 [AV.list 2 (a0.map S_Pair.av), ss a1] (AV.tup [ss r.1, bb r.2]) false := by
 refine FnR.of_ev (T := T) (rows := []) tOk mixed Tryz.func101 rfl (by kernel_rfl) (by kernel_rfl) rfl fun hwf => ?_
 unfold intarsiaref11_Find at h
 refine sj <| sn <| sj <| sj <| NormE.to (ii (a0.length : Int)) (fun _ => len_list S_Pair.av a0) <| sn ?_
 refine LoopE.img (fun x : Int => St.of [⟨1, ss a1, none⟩, ⟨8, AV.list 2 (a0.map S_Pair.av), none⟩, ⟨9, ii (a0.length : Int), none⟩, ⟨10, ii x, none⟩] [] []) (intarsiaref11_Find_b1 a0 a1) (0 : Int) h ?_ ?_
 ·exact W
 intro n1 x y1 h hl1 hr1
 revert h; revert x; intro s1 h
 unfold intarsiaref11_Find_b1 at h
 exact W
instance intarsiaref11_Find_ok_i (E : Pm.Env) [LaidE E] (a0 : (List S_Pair)) (a1 : Bytes) : Ok E (intarsiaref11_Find a0 a1) (fun r => FnR E Tryz.prog 101 [AV.list 2 (a0.map S_Pair.av), ss a1] (AV.tup [ss r.1, bb r.2]) false) := ⟨intarsiaref11_Find_ok E a0 a1⟩
theorem intarsiaref11_value_ok (E : Pm.Env) [LaidE E] (a0 : Int) (r : Int) (h : intarsiaref11_value a0 = some r) : FnR E Tryz.prog 149 [AV.int .u8 a0] (ii r) false := by
 refine FnR.of_ev (T := T) (rows := []) tOk mixed Tryz.func149 rfl (by kernel_rfl) (by kernel_rfl) rfl fun hwf => ?_
 unfold intarsiaref11_value at h
 exact W
instance intarsiaref11_value_ok_i (E : Pm.Env) [LaidE E] (a0 : Int) : Ok E (intarsiaref11_value a0) (fun r => FnR E Tryz.prog 149 [AV.int .u8 a0] (ii r) false) := ⟨intarsiaref11_value_ok E a0⟩
theorem intarsiaref11_plain_ok (E : Pm.Env) [LaidE E] (a0 : Bytes) (r : Bytes) (h : intarsiaref11_plain a0 = some r) : FnR E Tryz.prog 129 [ss a0] (ss r) false := by
 refine FnR.of_ev (T := T) (rows := []) tOk mixed Tryz.func129 rfl (by kernel_rfl) (by kernel_rfl) rfl fun hwf => ?_
 unfold intarsiaref11_plain at h
 refine sj <| sn <| sj <| sn <| bind_elim h fun j1 hj1 h => ?_
 refine SeqJ.join (St.of [⟨3, ss j1, none⟩] [] []) ?_ ?_
 ·clear h; have h := hj1; clear hj1
  refine LoopE.img (fun x : (Bytes × Bytes) => St.of [⟨0, ss x.1, none⟩, ⟨3, ss x.2, none⟩] [] []) intarsiaref11_plain_b1 (a0, ([] : Bytes)) h ?_ ?_
  ·exact W
  intro n1 x y1 h hl1 hr1
  obtain ⟨s2, s3⟩ := x
  unfold intarsiaref11_plain_b1 at h
  dsimp only at h
  exact W
 ·clear hj1
  exact W
instance intarsiaref11_plain_ok_i (E : Pm.Env) [LaidE E] (a0 : Bytes) : Ok E (intarsiaref11_plain a0) (fun r => FnR E Tryz.prog 129 [ss a0] (ss r) false) := ⟨intarsiaref11_plain_ok E a0⟩
theorem intarsiaref11_Query_ok (E : Pm.Env) [LaidE E] (a0 : Bytes) (r : (List S_Pair)) (h : intarsiaref11_Query a0 = some r) : FnR E Tryz.prog 103 [ss a0] (AV.list 2 (r.map S_Pair.av)) true := by
 refine FnR.of_ev (T := T) (rows := []) tOk mixed Tryz.func103 rfl (by kernel_rfl) (by kernel_rfl) rfl fun hwf => ?_
 unfold intarsiaref11_Query at h
 refine sj <| sn <| sj <| ai ⟨rfl, rfl, rfl⟩ <| NormE.to (AV.list 2 (([] : List S_Pair).map S_Pair.av)) (fun _ => rfl) <| sn <| bind_elim h fun j1 hj1 h => ?_
 refine SeqJ.join (St.of [⟨3, AV.list 2 (j1.map S_Pair.av), some 0⟩] [] [1]) ?_ ?_
 ·clear h; have h := hj1; clear hj1
  refine sj <| bind_elim h fun x2 hx2 h => CallH.data _ true rfl (intarsiaref11_split_ok E a0 (38 : Int) x2 hx2) <| NormE.to (ii (x2.length : Int)) (fun _ => len_list ss x2) <| sn ?_
  refine LoopE.img (fun x : ((List S_Pair) × Int) => St.of [⟨3, AV.list 2 (x.1.map S_Pair.av), some 0⟩, ⟨11, AV.list 1 (x2.map AV.str), some 1⟩, ⟨12, ii (x2.length : Int), none⟩, ⟨13, ii x.2, none⟩] [] [1, 1]) (intarsiaref11_Query_b1 x2) (([] : List S_Pair), (0 : Int)) h ?_ ?_
  ·refine Gho.to _ _ _ [1, 2] ?_ ?_ ?_ rfl rfl ?_
   ·exact trivial
   ·exact rfl
   ·exact rfl
   ·exact ⟨rfl, rfl, ⟨rfl, rfl, rfl⟩, rfl, rfl, ⟨rfl, rfl, rfl⟩, rfl, rfl, trivial, rfl, rfl, trivial, trivial⟩
  intro n1 x y1 h hl1 hr1
  obtain ⟨s3, s4⟩ := x
  unfold intarsiaref11_Query_b1 at h
  dsimp only at h
  refine sj <| sn <| sj ?_
  refine Br.of h (fun ht h => ?_) fun ht h => ?_
  ·refine sn <| sj <| sj <| bind_elim h fun x5 hx5 h => ?_
   refine ai rfl (xi (ss x5) (ai (fun hg => idx_map _ hx5) ?_))
   refine sn <| sj <| sn ?_
   refine Br.of h (fun ht h => ?_) fun ht h => ?_
   ·refine sj <| bind_elim h fun x6 hx6 h => CallH.data _ false rfl (intarsiaref11_cut_ok E x5 (61 : Int) x6 hx6) <| sn <| bind_elim h fun x7 hx7 h => CallH.data _ false rfl (intarsiaref11_plain_ok E x6.1 x7 hx7) <| bind_elim h fun x8 hx8 h => CallH.data _ false rfl (intarsiaref11_plain_ok E x6.2.1 x8 hx8) <| ai ⟨rfl, rfl, lb rfl⟩ <| ai ⟨rfl, rfl, lb rfl⟩ ?_
    refine xi none (ai trivial ?_)
    refine ai ⟨rfl, rfl, rfl, rfl⟩ <| ai ⟨rfl, rfl, rfl⟩ <| NormE.to (AV.list 2 (([(S_Pair.mk x7 x8)] : List S_Pair).map S_Pair.av)) (fun _ => rfl) <| bind_elim h fun x9 hx9 h => ?_
    have qx9 := (app_some hx9).1
    have hx9e := (app_some hx9).2
    refine ai ⟨rfl, rfl, rfl⟩ <| ai rfl <| ai (app_cond S_Pair.av qx9) <| NormE.to (AV.list 2 (x9.map S_Pair.av)) (fun _ => (app_list 2 S_Pair.av _ _).trans (congrArg (fun y => AV.list 2 (List.map S_Pair.av y)) hx9e.symm)) <| sn ?_
    replace h := oi h
    refine xi ⟨(n1, (x9, (IntKind.i64.wrap (s4 + (1 : Int))))), hl1 _ h.symm⟩ (ai (Nat.lt_succ_self _) ?_)
    refine Gho.to _ _ _ [3, 1] ?_ ?_ ?_ rfl rfl ?_
    ·exact trivial
    ·exact rfl
    ·exact rfl
    ·exact ⟨rfl, rfl, ⟨rfl, rfl, rfl⟩, rfl, rfl, ⟨rfl, rfl, rfl⟩, rfl, rfl, trivial, rfl, rfl, trivial, trivial⟩
   ·refine sn ?_
    replace h := oi h
    refine xi ⟨(n1, (s3, (IntKind.i64.wrap (s4 + (1 : Int))))), hl1 _ h.symm⟩ (ai (Nat.lt_succ_self _) ?_)
    refine Gho.to _ _ _ [0, 1] ?_ ?_ ?_ rfl rfl ?_
    ·exact trivial
    ·exact rfl
    ·exact rfl
    ·exact ⟨rfl, rfl, ⟨rfl, rfl, rfl⟩, rfl, rfl, ⟨rfl, rfl, rfl⟩, rfl, rfl, trivial, rfl, rfl, trivial, trivial⟩
  ·exact W
 ·clear hj1
  exact W
instance intarsiaref11_Query_ok_i (E : Pm.Env) [LaidE E] (a0 : Bytes) : Ok E (intarsiaref11_Query a0) (fun r => FnR E Tryz.prog 103 [ss a0] (AV.list 2 (r.map S_Pair.av)) true) := ⟨intarsiaref11_Query_ok E a0⟩
theorem intarsiaref03_Lower_ok (E : Pm.Env) [LaidE E] (a0 : Bytes) (r : Bytes) (h : intarsiaref03_Lower a0 = some r) : FnR E Tryz.prog 105 [ss a0] (ss r) false := by
 refine FnR.of_ev (T := T) (rows := []) tOk mixed Tryz.func105 rfl (by kernel_rfl) (by kernel_rfl) rfl fun hwf => ?_
 unfold intarsiaref03_Lower at h
 refine sj <| sn <| sj <| sn <| bind_elim h fun j1 hj1 h => ?_
 refine SeqJ.join (St.of [⟨3, ss j1, none⟩] [] []) ?_ ?_
 ·clear h; have h := hj1; clear hj1
  refine sj <| sn ?_
  refine LoopE.img (fun x : (Bytes × Int) => St.of [⟨0, ss a0, none⟩, ⟨3, ss x.1, none⟩, ⟨4, ii x.2, none⟩] [] []) (intarsiaref03_Lower_b1 a0) (([] : Bytes), (0 : Int)) h ?_ ?_
  ·exact W
  intro n1 x y1 h hl1 hr1
  obtain ⟨s2, s3⟩ := x
  unfold intarsiaref03_Lower_b1 at h
  dsimp only at h
  exact W
 ·clear hj1
  exact W
instance intarsiaref03_Lower_ok_i (E : Pm.Env) [LaidE E] (a0 : Bytes) : Ok E (intarsiaref03_Lower a0) (fun r => FnR E Tryz.prog 105 [ss a0] (ss r) false) := ⟨intarsiaref03_Lower_ok E a0⟩
theorem intarsiaref11_Languages_ok (E : Pm.Env) [LaidE E] (a0 : Bytes) (r : (List Bytes)) (h : intarsiaref11_Languages a0 = some r) : FnR E Tryz.prog 104 [ss a0] (AV.list 1 (r.map AV.str)) true := by
 refine FnR.of_ev (T := T) (rows := []) tOk mixed Tryz.func104 rfl (by kernel_rfl) (by kernel_rfl) rfl fun hwf => ?_
 unfold intarsiaref11_Languages at h
 refine sj <| sn <| sj <| ai ⟨rfl, rfl, rfl⟩ <| NormE.to (AV.list 1 (([] : List Bytes).map AV.str)) (fun _ => rfl) <| sn <| bind_elim h fun j1 hj1 h => ?_
 refine SeqJ.join (St.of [⟨3, AV.list 1 (j1.map AV.str), some 0⟩] [] [1]) ?_ ?_
 ·clear h; have h := hj1; clear hj1
  refine sj <| bind_elim h fun x2 hx2 h => CallH.data _ true rfl (intarsiaref11_split_ok E a0 (44 : Int) x2 hx2) <| NormE.to (ii (x2.length : Int)) (fun _ => len_list ss x2) <| sn ?_
  refine LoopE.img (fun x : ((List Bytes) × Int) => St.of [⟨3, AV.list 1 (x.1.map AV.str), some 0⟩, ⟨15, AV.list 1 (x2.map AV.str), some 1⟩, ⟨16, ii (x2.length : Int), none⟩, ⟨17, ii x.2, none⟩] [] [1, 1]) (intarsiaref11_Languages_b1 x2) (([] : List Bytes), (0 : Int)) h ?_ ?_
  ·refine Gho.to _ _ _ [1, 2] ?_ ?_ ?_ rfl rfl ?_
   ·exact trivial
   ·exact rfl
   ·exact rfl
   ·exact ⟨rfl, rfl, ⟨rfl, rfl, rfl⟩, rfl, rfl, ⟨rfl, rfl, rfl⟩, rfl, rfl, trivial, rfl, rfl, trivial, trivial⟩
  intro n1 x y1 h hl1 hr1
  obtain ⟨s3, s4⟩ := x
  unfold intarsiaref11_Languages_b1 at h
  dsimp only at h
  refine sj <| sn <| sj ?_
  refine Br.of h (fun ht h => ?_) fun ht h => ?_
  ·refine sn <| bind_elim h fun j5 hj5 h => ?_
   refine SeqJ.join (St.of [⟨3, AV.list 1 (j5.map AV.str), some 0⟩, ⟨15, AV.list 1 (x2.map AV.str), some 1⟩, ⟨16, ii (x2.length : Int), none⟩, ⟨17, ii s4, none⟩] [] [1, 1]) ?_ ?_
   ·clear h; have h := hj5; clear hj5
    refine sj <| bind_elim h fun x6 hx6 h => ?_
    refine ai rfl (xi (ss x6) (ai (fun hg => idx_map _ hx6) ?_))
    refine sn <| sj <| bind_elim h fun x7 hx7 h => CallH.data _ false rfl (intarsiaref11_cut_ok E x6 (59 : Int) x7 hx7) <| sn <| sj <| bind_elim h fun x8 hx8 h => CallH.data _ false rfl (intarsiaref03_Trim_ok E x7.1 x8 hx8) <| bind_elim h fun x9 hx9 h => CallH.data _ false rfl (intarsiaref03_Lower_ok E x8 x9 hx9) <| sn <| sj <| sn <| bind_elim h fun j10 hj10 h => ?_
    refine SeqJ.join (St.of [⟨3, AV.list 1 (s3.map AV.str), some 0⟩, ⟨9, ss x9, none⟩, ⟨10, bb j10, none⟩, ⟨15, AV.list 1 (x2.map AV.str), some 1⟩, ⟨16, ii (x2.length : Int), none⟩, ⟨17, ii s4, none⟩] [] [1, 1]) ?_ ?_
    ·clear h; have h := hj10; clear hj10
     refine sj <| NormE.to (ii (s3.length : Int)) (fun _ => len_list ss s3) <| sn ?_
     refine LoopE.img (fun x : (Bool × Int) => St.of [⟨3, AV.list 1 (s3.map AV.str), some 0⟩, ⟨9, ss x9, none⟩, ⟨10, bb x.1, none⟩, ⟨15, AV.list 1 (x2.map AV.str), some 1⟩, ⟨16, ii (x2.length : Int), none⟩, ⟨17, ii s4, none⟩, ⟨32, AV.list 1 (s3.map AV.str), none⟩, ⟨33, ii (s3.length : Int), none⟩, ⟨34, ii x.2, none⟩] [] [1, 1]) (intarsiaref11_Languages_b2 s3 x9) ((x9 == ([] : Bytes)), (0 : Int)) h ?_ ?_
     ·refine Gho.to _ _ _ [0, 1] ?_ ?_ ?_ rfl rfl ?_
      ·exact trivial
      ·exact rfl
      ·exact rfl
      ·exact ⟨rfl, rfl, ⟨rfl, rfl, rfl⟩, rfl, rfl, trivial, rfl, rfl, trivial, rfl, rfl, ⟨rfl, rfl, rfl⟩, rfl, rfl, trivial, rfl, rfl, trivial, rfl, rfl, trivial, rfl, rfl, trivial, rfl, rfl, trivial, trivial⟩
     intro n2 x y2 h hl2 hr2
     obtain ⟨s11, s12⟩ := x
     unfold intarsiaref11_Languages_b2 at h
     dsimp only at h
     refine sj <| sn <| sj ?_
     refine Br.of h (fun ht h => ?_) fun ht h => ?_
     ·refine sn <| sj <| sj <| bind_elim h fun x13 hx13 h => ?_
      refine ai rfl (xi (ss x13) (ai (fun hg => idx_map _ hx13) ?_))
      refine sn <| ai id <| ai id <| ai (fun hg => (and_r hg)) <| sn ?_
      replace h := oi h
      refine xi ⟨(n2, ((bif s11 then true else (x13 == x9)), (IntKind.i64.wrap (s12 + (1 : Int))))), hl2 _ h.symm⟩ (ai (Nat.lt_succ_self _) ?_)
      refine Gho.to _ _ _ [0, 1] ?_ ?_ ?_ rfl rfl ?_
      ·exact trivial
      ·exact rfl
      ·exact rfl
      ·exact ⟨rfl, rfl, ⟨rfl, rfl, rfl⟩, rfl, rfl, trivial, rfl, rfl, trivial, rfl, rfl, ⟨rfl, rfl, rfl⟩, rfl, rfl, trivial, rfl, rfl, trivial, rfl, rfl, trivial, rfl, rfl, trivial, rfl, rfl, trivial, trivial⟩
     ·replace h := oi h
      replace h := hr2 _ h.symm
      subst h
      refine Gho.to _ _ _ [0, 1] ?_ ?_ ?_ rfl rfl ?_
      ·exact trivial
      ·exact rfl
      ·exact rfl
      ·exact ⟨rfl, rfl, ⟨rfl, rfl, rfl⟩, rfl, rfl, trivial, rfl, rfl, trivial, rfl, rfl, ⟨rfl, rfl, rfl⟩, rfl, rfl, trivial, rfl, rfl, trivial, trivial⟩
    ·clear hj10
     refine sj <| sn ?_
     refine Br.of h (fun ht h => ?_) fun ht h => ?_
     ·refine ai ⟨rfl, rfl, rfl, rfl⟩ <| ai ⟨rfl, rfl, rfl⟩ <| NormE.to (AV.list 1 (([x9] : List Bytes).map AV.str)) (fun _ => rfl) <| bind_elim h fun x14 hx14 h => ?_
      have qx14 := (app_some hx14).1
      have hx14e := (app_some hx14).2
      refine ai ⟨rfl, rfl, rfl⟩ <| ai rfl <| ai (app_cond ss qx14) <| NormE.to (AV.list 1 (x14.map AV.str)) (fun _ => (app_list 1 ss _ _).trans (congrArg (fun y => AV.list 1 (List.map ss y)) hx14e.symm)) ?_
      replace h := oi h
      subst h
      refine Gho.to _ _ _ [3, 1] ?_ ?_ ?_ rfl rfl ?_
      ·exact trivial
      ·exact rfl
      ·exact rfl
      ·exact ⟨rfl, rfl, ⟨rfl, rfl, rfl⟩, rfl, rfl, ⟨rfl, rfl, rfl⟩, rfl, rfl, trivial, rfl, rfl, trivial, trivial⟩
     ·replace h := oi h
      subst h
      refine Gho.to _ _ _ [0, 1] ?_ ?_ ?_ rfl rfl ?_
      ·exact trivial
      ·exact rfl
      ·exact rfl
      ·exact ⟨rfl, rfl, ⟨rfl, rfl, rfl⟩, rfl, rfl, ⟨rfl, rfl, rfl⟩, rfl, rfl, trivial, rfl, rfl, trivial, trivial⟩
   ·clear hj5
    replace h := oi h
    refine xi ⟨(n1, (j5, (IntKind.i64.wrap (s4 + (1 : Int))))), hl1 _ h.symm⟩ (ai (Nat.lt_succ_self _) ?_)
    refine Gho.to _ _ _ [0, 1] ?_ ?_ ?_ rfl rfl ?_
    ·exact trivial
    ·exact rfl
    ·exact rfl
    ·exact ⟨rfl, rfl, ⟨rfl, rfl, rfl⟩, rfl, rfl, ⟨rfl, rfl, rfl⟩, rfl, rfl, trivial, rfl, rfl, trivial, trivial⟩
  ·exact W
 ·clear hj1
  exact W
instance intarsiaref11_Languages_ok_i (E : Pm.Env) [LaidE E] (a0 : Bytes) : Ok E (intarsiaref11_Languages a0) (fun r => FnR E Tryz.prog 104 [ss a0] (AV.list 1 (r.map AV.str)) true) := ⟨intarsiaref11_Languages_ok E a0⟩
theorem intarsiaref17_Value_ok (E : Pm.Env) [LaidE E] (a0 : S_Env) (a1 : Bytes) (a2 : Bytes) (r : (Bytes × Bool)) (h : intarsiaref17_Value a0 a1 a2 = some r) : FnR E Tryz.prog 79 [S_Env.av a0, ss a1, ss a2] (AV.tup [ss r.1, bb r.2]) false := by
 refine FnR.of_ev (T := T) (rows := []) tOk mixed Tryz.func79 rfl (by kernel_rfl) (by kernel_rfl) rfl fun hwf => ?_
 unfold intarsiaref17_Value at h
 refine sj <| ai rfl <| sn <| sj <| sn <| sj <| sj <| sn <| sj <| sn ?_
 refine Br.of h (fun ht h => ?_) fun ht h => ?_
 ·refine sn <| sj <| sj <| sn ?_
  refine Br.of h (fun ht h => ?_) fun ht h => ?_
  ·exact W
  ·refine sn <| sj <| sj <| sn <| sj <| sn ?_
   refine Br.of h (fun ht h => ?_) fun ht h => ?_
   ·exact W
   ·refine sj <| sn ?_
    refine Br.of h (fun ht h => ?_) fun ht h => ?_
    ·exact W
    ·refine sj <| sn ?_
     refine Br.of h (fun ht h => ?_) fun ht h => ?_
     ·exact W
     ·refine sj <| sn ?_
      refine Br.of h (fun ht h => ?_) fun ht h => ?_
      ·refine sj <| sj <| bind_elim h fun x6 hx6 h => CallH.data _ true rfl (intarsiaref11_Languages_ok E a0.Language x6 hx6) <| NormE.to (ii (x6.length : Int)) (fun _ => len_list ss x6) <| sn ?_
       refine LoopE.img (fun x : Int => St.of [⟨2, ss a2, none⟩, ⟨74, AV.list 1 (x6.map AV.str), some 0⟩, ⟨75, ii (x6.length : Int), none⟩, ⟨76, ii x, none⟩] [] [1]) (intarsiaref17_Value_b1 a2 x6) (0 : Int) h ?_ ?_
       ·exact W
       intro n1 x y1 h hl1 hr1
       revert h; revert x; intro s7 h
       unfold intarsiaref17_Value_b1 at h
       exact W
      ·exact W
 ·refine sj <| sn ?_
  refine Br.of h (fun ht h => ?_) fun ht h => ?_
  ·refine sn <| sj <| sj <| sn ?_
   refine Br.of h (fun ht h => ?_) fun ht h => ?_
   ·exact W
   ·refine sn <| sj <| sj <| sn <| sj <| sn ?_
    refine Br.of h (fun ht h => ?_) fun ht h => ?_
    ·exact W
    ·refine sj <| sn ?_
     refine Br.of h (fun ht h => ?_) fun ht h => ?_
     ·exact W
     ·refine sj <| sn ?_
      refine Br.of h (fun ht h => ?_) fun ht h => ?_
      ·exact W
      ·refine sj <| sn ?_
       refine Br.of h (fun ht h => ?_) fun ht h => ?_
       ·refine sj <| sj <| bind_elim h fun x15 hx15 h => CallH.data _ true rfl (intarsiaref11_Languages_ok E a0.Language x15 hx15) <| NormE.to (ii (x15.length : Int)) (fun _ => len_list ss x15) <| sn ?_
        refine LoopE.img (fun x : Int => St.of [⟨2, ss a2, none⟩, ⟨74, AV.list 1 (x15.map AV.str), some 0⟩, ⟨75, ii (x15.length : Int), none⟩, ⟨76, ii x, none⟩] [] [1]) (intarsiaref17_Value_b2 a2 x15) (0 : Int) h ?_ ?_
        ·exact W
        intro n2 x y2 h hl2 hr2
        revert h; revert x; intro s16 h
        unfold intarsiaref17_Value_b2 at h
        exact W
       ·exact W
  ·refine sj <| sn ?_
   refine Br.of h (fun ht h => ?_) fun ht h => ?_
   ·refine sn <| sj <| sj <| sn ?_
    refine Br.of h (fun ht h => ?_) fun ht h => ?_
    ·exact W
    ·refine sn <| sj <| sj <| sn <| sj <| sn ?_
     refine Br.of h (fun ht h => ?_) fun ht h => ?_
     ·exact W
     ·refine sj <| sn ?_
      refine Br.of h (fun ht h => ?_) fun ht h => ?_
      ·exact W
      ·refine sj <| sn ?_
       refine Br.of h (fun ht h => ?_) fun ht h => ?_
       ·exact W
       ·refine sj <| sn ?_
        refine Br.of h (fun ht h => ?_) fun ht h => ?_
        ·refine sj <| sj <| bind_elim h fun x24 hx24 h => CallH.data _ true rfl (intarsiaref11_Languages_ok E a0.Language x24 hx24) <| NormE.to (ii (x24.length : Int)) (fun _ => len_list ss x24) <| sn ?_
         refine LoopE.img (fun x : Int => St.of [⟨2, ss a2, none⟩, ⟨74, AV.list 1 (x24.map AV.str), some 0⟩, ⟨75, ii (x24.length : Int), none⟩, ⟨76, ii x, none⟩] [] [1]) (intarsiaref17_Value_b3 a2 x24) (0 : Int) h ?_ ?_
         ·exact W
         intro n3 x y3 h hl3 hr3
         revert h; revert x; intro s25 h
         unfold intarsiaref17_Value_b3 at h
         exact W
        ·exact W
   ·refine sj <| sn ?_
    refine Br.of h (fun ht h => ?_) fun ht h => ?_
    ·refine sn <| sj <| sj <| sn ?_
     refine Br.of h (fun ht h => ?_) fun ht h => ?_
     ·exact W
     ·refine sn <| sj <| sj <| sn <| sj <| sn ?_
      refine Br.of h (fun ht h => ?_) fun ht h => ?_
      ·exact W
      ·refine sj <| sn ?_
       refine Br.of h (fun ht h => ?_) fun ht h => ?_
       ·exact W
       ·refine sj <| sn ?_
        refine Br.of h (fun ht h => ?_) fun ht h => ?_
        ·exact W
        ·refine sj <| sn ?_
         refine Br.of h (fun ht h => ?_) fun ht h => ?_
         ·refine sj <| sj <| bind_elim h fun x33 hx33 h => CallH.data _ true rfl (intarsiaref11_Languages_ok E a0.Language x33 hx33) <| NormE.to (ii (x33.length : Int)) (fun _ => len_list ss x33) <| sn ?_
          refine LoopE.img (fun x : Int => St.of [⟨2, ss a2, none⟩, ⟨74, AV.list 1 (x33.map AV.str), some 0⟩, ⟨75, ii (x33.length : Int), none⟩, ⟨76, ii x, none⟩] [] [1]) (intarsiaref17_Value_b4 a2 x33) (0 : Int) h ?_ ?_
          ·exact W
          intro n4 x y4 h hl4 hr4
          revert h; revert x; intro s34 h
          unfold intarsiaref17_Value_b4 at h
          exact W
         ·exact W
    ·refine sj <| sn ?_
     refine Br.of h (fun ht h => ?_) fun ht h => ?_
     ·refine sn <| sj <| sj <| sn ?_
      refine Br.of h (fun ht h => ?_) fun ht h => ?_
      ·exact W
      ·refine sn <| sj <| sj <| sn <| sj <| sn ?_
       refine Br.of h (fun ht h => ?_) fun ht h => ?_
       ·exact W
       ·refine sj <| sn ?_
        refine Br.of h (fun ht h => ?_) fun ht h => ?_
        ·exact W
        ·refine sj <| sn ?_
         refine Br.of h (fun ht h => ?_) fun ht h => ?_
         ·exact W
         ·refine sj <| sn ?_
          refine Br.of h (fun ht h => ?_) fun ht h => ?_
          ·refine sj <| sj <| bind_elim h fun x42 hx42 h => CallH.data _ true rfl (intarsiaref11_Languages_ok E a0.Language x42 hx42) <| NormE.to (ii (x42.length : Int)) (fun _ => len_list ss x42) <| sn ?_
           refine LoopE.img (fun x : Int => St.of [⟨2, ss a2, none⟩, ⟨74, AV.list 1 (x42.map AV.str), some 0⟩, ⟨75, ii (x42.length : Int), none⟩, ⟨76, ii x, none⟩] [] [1]) (intarsiaref17_Value_b5 a2 x42) (0 : Int) h ?_ ?_
           ·exact W
           intro n5 x y5 h hl5 hr5
           revert h; revert x; intro s43 h
           unfold intarsiaref17_Value_b5 at h
           exact W
          ·exact W
     ·refine sj <| sn ?_
      refine Br.of h (fun ht h => ?_) fun ht h => ?_
      ·refine sn <| sj <| sj <| sn ?_
       refine Br.of h (fun ht h => ?_) fun ht h => ?_
       ·exact W
       ·refine sn <| sj <| sj <| sn <| sj <| sn ?_
        refine Br.of h (fun ht h => ?_) fun ht h => ?_
        ·exact W
        ·refine sj <| sn ?_
         refine Br.of h (fun ht h => ?_) fun ht h => ?_
         ·exact W
         ·refine sj <| sn ?_
          refine Br.of h (fun ht h => ?_) fun ht h => ?_
          ·exact W
          ·refine sj <| sn ?_
           refine Br.of h (fun ht h => ?_) fun ht h => ?_
           ·refine sj <| sj <| bind_elim h fun x51 hx51 h => CallH.data _ true rfl (intarsiaref11_Languages_ok E a0.Language x51 hx51) <| NormE.to (ii (x51.length : Int)) (fun _ => len_list ss x51) <| sn ?_
            refine LoopE.img (fun x : Int => St.of [⟨2, ss a2, none⟩, ⟨74, AV.list 1 (x51.map AV.str), some 0⟩, ⟨75, ii (x51.length : Int), none⟩, ⟨76, ii x, none⟩] [] [1]) (intarsiaref17_Value_b6 a2 x51) (0 : Int) h ?_ ?_
            ·exact W
            intro n6 x y6 h hl6 hr6
            revert h; revert x; intro s52 h
            unfold intarsiaref17_Value_b6 at h
            exact W
           ·exact W
      ·refine sn <| sj <| sj <| sn ?_
       refine Br.of h (fun ht h => ?_) fun ht h => ?_
       ·exact W
       ·refine sn <| sj <| sj <| sn <| sj <| sn ?_
        refine Br.of h (fun ht h => ?_) fun ht h => ?_
        ·exact W
        ·refine sj <| sn ?_
         refine Br.of h (fun ht h => ?_) fun ht h => ?_
         ·exact W
         ·refine sj <| sn ?_
          refine Br.of h (fun ht h => ?_) fun ht h => ?_
          ·exact W
          ·refine sj <| sn ?_
           refine Br.of h (fun ht h => ?_) fun ht h => ?_
           ·refine sj <| sj <| bind_elim h fun x60 hx60 h => CallH.data _ true rfl (intarsiaref11_Languages_ok E a0.Language x60 hx60) <| NormE.to (ii (x60.length : Int)) (fun _ => len_list ss x60) <| sn ?_
            refine LoopE.img (fun x : Int => St.of [⟨2, ss a2, none⟩, ⟨74, AV.list 1 (x60.map AV.str), some 0⟩, ⟨75, ii (x60.length : Int), none⟩, ⟨76, ii x, none⟩] [] [1]) (intarsiaref17_Value_b7 a2 x60) (0 : Int) h ?_ ?_
            ·exact W
            intro n7 x y7 h hl7 hr7
            revert h; revert x; intro s61 h
            unfold intarsiaref17_Value_b7 at h
            exact W
           ·exact W
instance intarsiaref17_Value_ok_i (E : Pm.Env) [LaidE E] (a0 : S_Env) (a1 : Bytes) (a2 : Bytes) : Ok E (intarsiaref17_Value a0 a1 a2) (fun r => FnR E Tryz.prog 79 [S_Env.av a0, ss a1, ss a2] (AV.tup [ss r.1, bb r.2]) false) := ⟨intarsiaref17_Value_ok E a0 a1 a2⟩
theorem intarsiaref17_Ref_ok (E : Pm.Env) [LaidE E] (a0 : S_Env) (a1 : Bytes) (r : (Bytes × Int)) (h : intarsiaref17_Ref a0 a1 = some r) : FnR E Tryz.prog 51 [S_Env.av a0, ss a1] (AV.tup [ss r.1, ii r.2]) false := by
 refine FnR.of_ev (T := T) (rows := []) tOk mixed Tryz.func51 rfl (by kernel_rfl) (by kernel_rfl) rfl fun hwf => ?_
 unfold intarsiaref17_Ref at h
 refine sj <| ai rfl <| sn <| sj <| sn <| bind_elim h fun j1 hj1 h => ?_
 refine SeqJ.join (St.of [⟨1, ss a1, none⟩, ⟨2, AV.ptr 0 0, none⟩, ⟨6, ii j1, none⟩] [.cells 23 (S_Env.cells a0) []] []) ?_ ?_
 ·clear h; have h := hj1; clear hj1
  refine LoopE.img (fun x : Int => St.of [⟨1, ss a1, none⟩, ⟨2, AV.ptr 0 0, none⟩, ⟨6, ii x, none⟩] [.cells 23 (S_Env.cells a0) []] []) (intarsiaref17_Ref_b1 a1) (2 : Int) h ?_ ?_
  ·exact W
  intro n1 x y1 h hl1 hr1
  revert h; revert x; intro s2 h
  unfold intarsiaref17_Ref_b1 at h
  exact W
 ·clear hj1
  exact W
instance intarsiaref17_Ref_ok_i (E : Pm.Env) [LaidE E] (a0 : S_Env) (a1 : Bytes) : Ok E (intarsiaref17_Ref a0 a1) (fun r => FnR E Tryz.prog 51 [S_Env.av a0, ss a1] (AV.tup [ss r.1, ii r.2]) false) := ⟨intarsiaref17_Ref_ok E a0 a1⟩
theorem intarsiaref18_digit_ok (E : Pm.Env) [LaidE E] (a0 : Int) (r : Bool) (h : intarsiaref18_digit a0 = some r) : FnR E Tryz.prog 61 [AV.int .u8 a0] (bb r) false := by
 refine FnR.of_ev (T := T) (rows := []) tOk mixed Tryz.func61 rfl (by kernel_rfl) (by kernel_rfl) rfl fun hwf => ?_
 unfold intarsiaref18_digit at h
 exact W
instance intarsiaref18_digit_ok_i (E : Pm.Env) [LaidE E] (a0 : Int) : Ok E (intarsiaref18_digit a0) (fun r => FnR E Tryz.prog 61 [AV.int .u8 a0] (bb r) false) := ⟨intarsiaref18_digit_ok E a0⟩
theorem intarsiaref18_word_ok (E : Pm.Env) [LaidE E] (a0 : Bytes) (r : Int) (h : intarsiaref18_word a0 = some r) : FnR E Tryz.prog 38 [ss a0] (ii r) false := by
 refine FnR.of_ev (T := T) (rows := []) tOk mixed Tryz.func38 rfl (by kernel_rfl) (by kernel_rfl) rfl fun hwf => ?_
 unfold intarsiaref18_word at h
 refine sj <| sn <| sj <| bind_elim h fun x1 hx1 h => ?_
 refine xi x1 (ai (fun hg => idx_some hx1) ?_)
 refine sn <| sj <| sj <| sn ?_
 refine Br.of h (fun ht h => ?_) fun ht h => ?_
 ·refine sj <| sj <| sn ?_
  refine LoopE.img (fun x : Int => St.of [⟨0, ss a0, none⟩, ⟨4, ii x, none⟩] [] []) (intarsiaref18_word_b1 a0) (1 : Int) h ?_ ?_
  ·exact W
  intro n1 x y1 h hl1 hr1
  revert h; revert x; intro s2 h
  unfold intarsiaref18_word_b1 at h
  exact W
 ·refine sn <| sj ?_
  refine xi none (ai trivial ?_)
  refine bind_elim h fun x4 hx4 h => CallH.data _ false rfl (intarsiaref17_Ref_ok E (S_Env.mk ([] : Bytes) ([] : Bytes) ([] : Bytes) ([] : Bytes) ([] : Bytes) ([] : Bytes)) a0 x4 hx4) <| sn <| sj <| sj <| sn ?_
  refine Br.of h (fun ht h => ?_) fun ht h => ?_
  ·exact W
  ·refine sn <| sj <| sj <| bind_elim h fun x5 hx5 h => CallH.data _ false rfl (intarsiaref18_digit_ok E (x1.toNat : Int) x5 hx5) <| ai id <| ai (fun hg => (and_r hg)) <| sn ?_
   refine Br.of h (fun ht h => ?_) fun ht h => ?_
   ·refine sj <| sn <| bind_elim h fun j6 hj6 h => ?_
    refine SeqJ.join (St.of [⟨7, ii j6, none⟩] [] []) ?_ ?_
    ·clear h; have h := hj6; clear hj6
     refine LoopE.img (fun x : Int => St.of [⟨0, ss a0, none⟩, ⟨7, ii x, none⟩] [] []) (intarsiaref18_word_b2 a0) (1 : Int) h ?_ ?_
     ·exact W
     intro n2 x y2 h hl2 hr2
     revert h; revert x; intro s7 h
     unfold intarsiaref18_word_b2 at h
     exact W
    ·clear hj6
     exact W
   ·exact W
instance intarsiaref18_word_ok_i (E : Pm.Env) [LaidE E] (a0 : Bytes) : Ok E (intarsiaref18_word a0) (fun r => FnR E Tryz.prog 38 [ss a0] (ii r) false) := ⟨intarsiaref18_word_ok E a0⟩
theorem intarsiaref18_Words_ok (E : Pm.Env) [LaidE E] (a0 : Bytes) (r : ((List Bytes) × Bool)) (h : intarsiaref18_Words a0 = some r) : FnR E Tryz.prog 21 [ss a0] (AV.tup [AV.list 1 (r.1.map AV.str), bb r.2]) false := by
 refine FnR.of_ev (T := T) (rows := []) tOk mixed Tryz.func21 rfl (by kernel_rfl) (by kernel_rfl) rfl fun hwf => ?_
 unfold intarsiaref18_Words at h
 refine sj <| sn <| sj <| ai ⟨rfl, rfl, rfl⟩ <| NormE.to (AV.list 1 (([] : List Bytes).map AV.str)) (fun _ => rfl) <| sn <| sj ?_
 refine LoopE.img (fun x : (Bytes × (List Bytes)) => St.of [⟨0, ss x.1, none⟩, ⟨4, AV.list 1 (x.2.map AV.str), some 0⟩] [] [1]) intarsiaref18_Words_b1 (a0, ([] : List Bytes)) h ?_ ?_
 ·exact W
 intro n1 x y1 h hl1 hr1
 obtain ⟨s1, s2⟩ := x
 unfold intarsiaref18_Words_b1 at h
 dsimp only at h
 exact W
instance intarsiaref18_Words_ok_i (E : Pm.Env) [LaidE E] (a0 : Bytes) : Ok E (intarsiaref18_Words a0) (fun r => FnR E Tryz.prog 21 [ss a0] (AV.tup [AV.list 1 (r.1.map AV.str), bb r.2]) false) := ⟨intarsiaref18_Words_ok E a0⟩
end Go.Proofs.YtdobepgddhbncaaGreatDoor
