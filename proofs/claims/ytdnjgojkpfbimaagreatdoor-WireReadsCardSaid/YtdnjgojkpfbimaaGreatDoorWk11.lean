/-
  The functions do what their images say: walks, written by a program of mine (gen.py).
-/
import Derived.Test.YtdnjgojkpfbimaaGreatDoorIw1
import Derived.Test.YtdnjgojkpfbimaaGreatDoorGh1
import Derived.Test.YtdnjgojkpfbimaaGreatDoorPm31
namespace Go.Proofs.YtdnjgojkpfbimaaGreatDoor
open Go Go.Pm
set_option linter.unusedSimpArgs false
open Go.Pm.RetE renaming plain -> rp
open Go.Pm.CallH renaming data -> cd
open Go.Pm.SeqN renaming via -> sv
open Go.Pm.Gho renaming to -> gt
open Go.Pm.Br renaming of -> bo
open Go.Pm.NormE renaming to -> nt
open Go.Pm renaming bind_elim -> be
open And renaming intro -> ai
open Exists renaming intro -> xi
open Option.some renaming inj -> oi
open _root_.Nat renaming le_of_ble_eq_true -> lb
open Go.Pm.SeqJ renaming go -> sj
open Go.Pm.SeqN renaming go -> sn
set_option maxRecDepth 100000
set_option maxHeartbeats 4000000
set_option linter.unusedVariables false
instance head_End_ok_i (E : Pm.Env) [LaidM E] (a0 : Bytes) : Ok E (head_End a0) (fun r => FnR E Tryz.prog 25 [ss a0] (AV.tup [ii r.1, ii r.2]) false) := ⟨head_End_ok E a0⟩
instance head_Parse_ok_i (E : Pm.Env) [LaidM E] (a0 : Bytes) : Ok E (head_Parse a0) (fun r => FnR E Tryz.prog 31 [ss a0] (AV.tup [AV.list 2 (r.1.map S_Field.av), ii r.2]) false) := ⟨head_Parse_ok E a0⟩
instance : Enc S_Start S_Start.av := ⟨trivial⟩
instance : Enc S_Message S_Message.av := ⟨trivial⟩
instance : Enc S_Body S_Body.av := ⟨trivial⟩
instance : Enc S_Chunked S_Chunked.av := ⟨trivial⟩
instance : Enc S_Reader S_Reader.av := ⟨trivial⟩
instance : Enc S_wire_reading S_wire_reading.av := ⟨trivial⟩
instance : Enc S_chunk_state S_chunk_state.av := ⟨trivial⟩
instance : Enc S_intarsiaref10_T S_intarsiaref10_T.av := ⟨trivial⟩
instance wire_New_ok (E : Pm.Env) [LaidM E] (a0 : Bool) (a1 : Bytes) : Ok E (wire_New a0 a1) (fun r => FnR E Tryz.prog 5 [bb a0, ss a1] (S_Reader.av r) false) := ⟨fun r h => by
 refine FnR.of_ev (T := T) (rows := []) tOk mixed Tryz.func5 rfl (by kernel_rfl) (by kernel_rfl) rfl fun hwf => ?_
 unfold wire_New at h
 refine sj <| ai rfl <| sn <| sj <| ai ⟨rfl, rfl, lb rfl⟩ <| ai ⟨rfl, rfl, lb rfl⟩ ?_
 refine xi (some 5151088153308360742589778104320) (ai (okM.mk (show (5151088153308360742589778104320 : Nat) = freeM T _ _ _ from by kernel_rfl)) ?_)
 refine ai ⟨rfl, rfl, rfl, lb rfl⟩ (xi [bb a0, ss a1, ss [], bb false, ss [], ss [], ii 0, ss [], ii 0, AV.list 2 (([] : List S_Field).map S_Field.av), ss [], ii 0, ii 0, ii 0, ss [], ii 0, ii 0, ii 0] (ai (fun _ => rfl) ?_))
 refine xi [(9, 1)] (xi 1 (ai ⟨(by kernel_rfl), rfl⟩ ?_))
 exact W⟩
instance wire_empty_ok (E : Pm.Env) [LaidM E] (a0 : S_Message) : Ok E (wire_empty a0) (fun r => FnR E Tryz.prog 38 [S_Message.av a0] (bb r) false) := ⟨fun r h => by
 refine FnR.of_ev (T := T) (rows := []) tOk mixed Tryz.func38 rfl (by kernel_rfl) (by kernel_rfl) rfl fun hwf => ?_
 unfold wire_empty at h
 exact W⟩
instance wire_bare_ok (E : Pm.Env) [LaidM E] (a0 : S_Reader) : Ok E (wire_bare a0) (fun r => FnR E Tryz.prog 19 [S_Reader.av a0] (bb r) false) := ⟨fun r h => by
 refine FnR.of_ev (T := T) (rows := []) tOk mixed Tryz.func19 rfl (by kernel_rfl) (by kernel_rfl) rfl fun hwf => ?_
 unfold wire_bare at h
 exact W⟩
instance stringslite_HasPrefix_ok (E : Pm.Env) [LaidM E] (a0 : Bytes) (a1 : Bytes) : Ok E (stringslite_HasPrefix a0 a1) (fun r => FnR E Tryz.prog 42 [ss a0, ss a1] (bb r) false) := ⟨fun r h => by
 refine FnR.of_ev (T := T) (rows := []) tOk mixed Tryz.func42 rfl (by kernel_rfl) (by kernel_rfl) rfl fun hwf => ?_
 unfold stringslite_HasPrefix at h
 exact W⟩
instance strings_HasPrefix_ok (E : Pm.Env) [LaidM E] (a0 : Bytes) (a1 : Bytes) : Ok E (strings_HasPrefix a0 a1) (fun r => FnR E Tryz.prog 23 [ss a0, ss a1] (bb r) false) := ⟨fun r h => by
 refine FnR.of_ev (T := T) (rows := []) tOk mixed Tryz.func23 rfl (by kernel_rfl) (by kernel_rfl) rfl fun hwf => ?_
 unfold strings_HasPrefix at h
 exact W⟩
instance start_target_1_ok (E : Pm.Env) [LaidM E] (a0 : Int) : Ok E (start_target_1 a0) (fun r => FnR E Tryz.prog 109 [AV.int .u8 a0] (bb r) false) := ⟨fun r h => by
 refine FnR.of_ev (T := T) (rows := []) tOk mixed Tryz.func109 rfl (by kernel_rfl) (by kernel_rfl) rfl fun hwf => ?_
 unfold start_target_1 at h
 exact W⟩
instance start_target_ok (E : Pm.Env) [LaidM E] (a0 : Bytes) : Ok E (start_target a0) (fun r => FnR E Tryz.prog 75 [ss a0] (bb r) false) := ⟨fun r h => by
 refine FnR.of_ev (T := T) (rows := []) tOk mixed Tryz.func75 rfl (by kernel_rfl) (by kernel_rfl) rfl fun hwf => ?_
 unfold start_target at h
 refine sj <| sn <| sj <| sn <| sj <| sj <| sn ?_
 refine bo h (fun ht h => ?_) fun ht h => ?_
 ·exact W
 ·refine sn <| sj <| be h fun x1 hx1 h => cd _ false rfl ((strings_HasPrefix_ok E a0 ([47] : Bytes)).1 x1 hx1) <| be h fun x2 hx2 h => ai id <| ai rfl ?_
  refine CallF.mk _ false (fun hg => (strings_HasPrefix_ok E a0 ([104, 116, 116, 112, 58, 47, 47] : Bytes)).1 x2 (gcall_some hx2 hg)) (ai rfl ?_)
  refine ai (fun hg => (and_r hg)) <| ai id <| NormE.same <| ai id <| ai (fun hg => (and_r hg)) <| ai id <| ai ⟨rfl, rfl⟩ <| be h fun x3 hx3 h => ai id <| ai id <| ai rfl ?_
  refine CallF.mk _ false (fun hg => slices_ContainsFunc__byte_byte_ok E a0 109 [] (fun x0 => start_target_1 x0) (fun x0 r h => (start_target_1_ok E x0).1 r h) rfl x3 (gcall_some hx3 hg)) (ai rfl ?_)
  refine ai id <| ai (fun hg => (and_r hg)) <| sn ?_
  cases h; exact rp (ai rfl (ai rfl rfl))⟩
instance start_Right_1_ok (E : Pm.Env) [LaidM E] (a0 : Int) : Ok E (start_Right_1 a0) (fun r => FnR E Tryz.prog 76 [AV.int .u8 a0] (bb r) false) := ⟨fun r h => by
 refine FnR.of_ev (T := T) (rows := []) tOk mixed Tryz.func76 rfl (by kernel_rfl) (by kernel_rfl) rfl fun hwf => ?_
 unfold start_Right_1 at h
 exact W⟩
instance start_Right_ok (E : Pm.Env) [LaidM E] (a0 : S_Start) : Ok E (start_Right a0) (fun r => FnR E Tryz.prog 49 [S_Start.av a0] (bb r) false) := ⟨fun r h => by
 refine FnR.of_ev (T := T) (rows := []) tOk mixed Tryz.func49 rfl (by kernel_rfl) (by kernel_rfl) rfl fun hwf => ?_
 unfold start_Right at h
 refine sj <| ai rfl ?_
 refine xi [] (xi 0 (ai ⟨rfl, rfl⟩ ?_))
 refine sn <| sj <| sj <| ai id <| ai id <| ai (fun hg => (and_r hg)) <| sn ?_
 refine bo h (fun ht h => ?_) fun ht h => ?_
 ·exact W
 ·refine sn <| sj <| sj <| sn ?_
  refine bo h (fun ht h => ?_) fun ht h => ?_
  ·exact W
  ·refine sn <| sj <| sn <| sj <| Or.inl <| ai id <| ai id <| ai (fun hg => (and_r hg)) <| ai id <| ai id <| ai (fun hg => (and_r hg)) <| ai id <| ai id <| ai (fun hg => (and_r hg)) <| ai id <| ai id <| NormE.same <| ai id <| ai (fun hg => (and_r hg)) <| ai id <| be h fun x3 hx3 h => ai id <| ai rfl ?_
   refine CallF.mk _ false (fun hg => (text_Trim_ok E a0.Reason).1 x3 (gcall_some hx3 hg)) (ai rfl ?_)
   refine ai id <| ai id <| ai id <| ai (fun hg => (and_r hg)) <| ai id <| ai id <| ai ⟨rfl, rfl⟩ <| be h fun x4 hx4 h => ai id <| ai id <| ai rfl ?_
   refine CallF.mk _ false (fun hg => slices_ContainsFunc__byte_byte_ok E a0.Reason 76 [] (fun x0 => start_Right_1 x0) (fun x0 r h => (start_Right_1_ok E x0).1 r h) rfl x4 (gcall_some hx4 hg)) (ai rfl ?_)
   refine ai id <| ai (fun hg => (and_r hg)) <| ai (by kernel_rfl) <| sn ?_
   cases h; exact rp (ai rfl (ai rfl rfl))⟩
instance table_named_ok (E : Pm.Env) [LaidM E] (a0 : Bytes) : Ok E (table_named a0) (fun r => FnR E Tryz.prog 132 [ss a0] (AV.fn 147 [] [AV.iptr [ss r]]) false) := ⟨fun r h => by
 refine FnR.of_ev (T := T) (rows := []) tOk mixed Tryz.func132 rfl (by kernel_rfl) (by kernel_rfl) rfl fun hwf => ?_
 unfold table_named at h
 refine sj <| ai rfl ?_
 refine xi [] (xi 0 (ai ⟨rfl, rfl⟩ ?_))
 refine sv (St.of [⟨1, AV.iptr [ss a0], none⟩] [] []) ?_ ?_
 ·refine Gho.trans (Gho.fz [0] [(1, AV.iptr [ss a0])] ⟨Frz.ptrD rfl rfl (lb rfl), trivial⟩) ?_
  exact W
 exact W⟩
theorem table_keep_api_Field_ok (E : Pm.Env) [LaidM E] (a0 : (List S_Field)) (a1 : FuncId) (a1c : List AV) (a1i : S_Field -> Option Bool) (a1h : ∀ (x0 : S_Field) (r : Bool), a1i x0 = some r -> FnR E Tryz.prog a1 ([S_Field.av x0] ++ a1c) (bb r) false) (a1p : a1c.all AV.puB = true) (r : (List S_Field)) (h : table_keep_api_Field a0 a1i = some r) : FnR E Tryz.prog 131 [AV.list 2 (a0.map S_Field.av), AV.fn a1 [] a1c] (AV.list 2 (r.map S_Field.av)) true := by
 refine FnR.of_ev (T := T) (rows := []) tOk mixed Tryz.func131 rfl (by kernel_rfl) (by kernel_rfl) rfl fun hwf => ?_
 unfold table_keep_api_Field at h
 refine sj <| sn <| sj <| sn <| be h fun j1 hj1 h => ?_
 refine SeqJ.join (St.of [⟨5, AV.list 2 (j1.map S_Field.av), some 0⟩] [] [1]) ?_ ?_
 ·clear h; have h := hj1; clear hj1
  refine sj <| nt (ii (a0.length : Int)) (fun _ => len_list S_Field.av a0) <| sn ?_
  refine LoopE.img (fun x : ((List S_Field) × Int) => St.of [⟨1, AV.fn a1 [] a1c, none⟩, ⟨5, AV.list 2 (x.1.map S_Field.av), some 0⟩, ⟨8, AV.list 2 (a0.map S_Field.av), none⟩, ⟨9, ii (a0.length : Int), none⟩, ⟨10, ii x.2, none⟩] [] [1]) (table_keep_api_Field_b1 a0 a1i) (([] : List S_Field), (0 : Int)) h ?_ ?_
  ·exact gt _ _ _ [1] trivial rfl rfl rfl rfl (⟨rfl, (noB_fn a1p _), trivial, rfl, rfl, ⟨rfl, rfl, rfl⟩, rfl, rfl, trivial, rfl, rfl, trivial, rfl, rfl, trivial, trivial⟩)
  intro n1 x y1 h hl1 hr1
  obtain ⟨s2, s3⟩ := x
  unfold table_keep_api_Field_b1 at h
  dsimp only at h
  refine sj <| sn <| sj ?_
  refine bo h (fun ht h => ?_) fun ht h => ?_
  ·refine sn <| sj <| sj <| be h fun x4 hx4 h => ?_
   refine ai rfl (xi (S_Field.av x4) (ai (fun hg => idx_map _ hx4) ?_))
   refine ai (lb rfl) <| nt (S_Field.av x4) (fun _ => rfl) <| ai rfl ?_
   refine ai ⟨rfl, rfl, rfl, lb rfl⟩ (xi (S_Field.cells x4) (ai (fun _ => rfl) ?_))
   refine sn <| sj <| ai ⟨lb rfl, lb rfl⟩ ?_
   refine xi none (ai rfl ?_)
   refine nt (S_Field.av x4) (fun _ => rfl) <| be h fun x5 hx5 h => cd _ false (puD_app rfl (puD_of a1p)) (a1h x4 x5 hx5) <| sn ?_
   refine bo h (fun ht h => ?_) fun ht h => ?_
   ·refine ai ⟨lb rfl, lb rfl⟩ ?_
    refine xi none (ai rfl ?_)
    refine nt (S_Field.av x4) (fun _ => rfl) <| ai ⟨rfl, rfl, rfl, rfl⟩ <| ai ⟨rfl, rfl, rfl⟩ <| nt (AV.list 2 (([x4] : List S_Field).map S_Field.av)) (fun _ => rfl) <| be h fun x6 hx6 h => ?_
    have qx6 := (app_some hx6).1
    have hx6e := (app_some hx6).2
    refine ai ⟨rfl, rfl, rfl⟩ <| ai rfl <| ai (app_cond S_Field.av qx6) <| nt (AV.list 2 (x6.map S_Field.av)) (fun _ => (app_list 2 S_Field.av _ _).trans (congrArg (fun y => AV.list 2 (List.map S_Field.av y)) hx6e.symm)) <| sn ?_
    replace h := oi h
    refine xi ⟨(n1, (x6, (IntKind.i64.wrap (s3 + (1 : Int))))), hl1 _ h.symm⟩ (ai (Nat.lt_succ_self _) ?_)
    refine gt _ _ _ [2] ?_ ?_ ?_ rfl rfl ?_
    ·exact trivial
    ·exact rfl
    ·exact rfl
    ·exact ⟨rfl, (noB_fn a1p _), trivial, rfl, rfl, ⟨rfl, rfl, rfl⟩, rfl, rfl, trivial, rfl, rfl, trivial, rfl, rfl, trivial, trivial⟩
   ·refine sn ?_
    replace h := oi h
    refine xi ⟨(n1, (s2, (IntKind.i64.wrap (s3 + (1 : Int))))), hl1 _ h.symm⟩ (ai (Nat.lt_succ_self _) ?_)
    refine gt _ _ _ [0] ?_ ?_ ?_ rfl rfl ?_
    ·exact W
    ·exact rfl
    ·exact rfl
    ·exact ⟨rfl, (noB_fn a1p _), trivial, rfl, rfl, ⟨rfl, rfl, rfl⟩, rfl, rfl, trivial, rfl, rfl, trivial, rfl, rfl, trivial, trivial⟩
  ·exact W
 ·clear hj1
  exact W
instance text_Lower_ok (E : Pm.Env) [LaidM E] (a0 : Bytes) : Ok E (text_Lower a0) (fun r => FnR E Tryz.prog 134 [ss a0] (ss r) false) := ⟨fun r h => by
 refine FnR.of_ev (T := T) (rows := [7]) tOk mixed Tryz.func134 rfl (by kernel_rfl) (by kernel_rfl) rfl fun hwf => ?_
 unfold text_Lower at h
 refine sj <| sn <| sj <| ai ⟨rfl, rfl⟩ <| sn <| be h fun j1 hj1 h => ?_
 refine SeqJ.join (St.of [⟨3, AV.row 0 0 a0.length, none⟩] [.cells 5 (j1.map byteAV) []] []) ?_ ?_
 ·clear h; have h := hj1; clear hj1
  refine sj <| NormE.same <| sn ?_
  refine LoopE.img (fun x : (Int × (List UInt8)) => St.of [⟨3, AV.row 0 0 a0.length, none⟩, ⟨8, AV.row 0 0 a0.length, none⟩, ⟨9, ii ((a0.length : Nat) : Int), none⟩, ⟨10, ii x.1, none⟩] [.cells 5 (x.2.map byteAV) []] []) (text_Lower_b1 a0) ((0 : Int), a0) h ?_ ?_
  ·exact W
  intro n1 x y1 h hl1 hr1
  obtain ⟨s2, s3⟩ := x
  unfold text_Lower_b1 at h
  dsimp only at h
  exact W
 ·clear hj1
  refine sj <| chk_elim h fun q8 h => ?_
  refine ai rfl (xi (j1.take a0.length) (ai (row_text q8) ?_))
  exact W⟩
instance text_Same_ok (E : Pm.Env) [LaidM E] (a0 : Bytes) (a1 : Bytes) : Ok E (text_Same a0 a1) (fun r => FnR E Tryz.prog 99 [ss a0, ss a1] (bb r) false) := ⟨fun r h => by
 refine FnR.of_ev (T := T) (rows := []) tOk mixed Tryz.func99 rfl (by kernel_rfl) (by kernel_rfl) rfl fun hwf => ?_
 unfold text_Same at h
 exact W⟩
instance table_named_1_ok (E : Pm.Env) [LaidM E] (a0 : S_Field) (c0 : Bytes) : Ok E (table_named_1 a0 c0) (fun r => FnR E Tryz.prog 147 [S_Field.av a0, AV.iptr [ss c0]] (bb r) false) := ⟨fun r h => by
 refine FnR.of_ev (T := T) (rows := []) tOk mixed Tryz.func147 rfl (by kernel_rfl) (by kernel_rfl) rfl fun hwf => ?_
 unfold table_named_1 at h
 exact W⟩
instance table_All_ok (E : Pm.Env) [LaidM E] (a0 : (List S_Field)) (a1 : Bytes) : Ok E (table_All a0 a1) (fun r => FnR E Tryz.prog 97 [AV.list 2 (a0.map S_Field.av), ss a1] (AV.list 1 (r.map AV.str)) true) := ⟨fun r h => by
 refine FnR.of_ev (T := T) (rows := []) tOk mixed Tryz.func97 rfl (by kernel_rfl) (by kernel_rfl) rfl fun hwf => ?_
 unfold table_All at h
 refine sj <| sn <| sj <| sn <| be h fun j1 hj1 h => ?_
 refine SeqJ.join (St.of [⟨5, AV.list 1 (j1.map AV.str), some 0⟩] [] [1]) ?_ ?_
 ·clear h; have h := hj1; clear hj1
  refine sj <| be h fun x2 hx2 h => cd _ false rfl ((table_named_ok E a1).1 x2 hx2) <| be h fun x3 hx3 h => cd _ true rfl (table_keep_api_Field_ok E a0 147 [AV.iptr [ss x2]] (fun x0 => table_named_1 x0 x2) (fun x0 r h => (table_named_1_ok E x0 x2).1 r h) rfl x3 hx3) <| nt (ii (x3.length : Int)) (fun _ => len_list S_Field.av x3) <| sn ?_
  refine LoopE.img (fun x : ((List Bytes) × Int) => St.of [⟨5, AV.list 1 (x.1.map AV.str), some 0⟩, ⟨11, AV.list 2 (x3.map S_Field.av), some 1⟩, ⟨12, ii (x3.length : Int), none⟩, ⟨13, ii x.2, none⟩] [] [1, 1]) (table_All_b1 x3) (([] : List Bytes), (0 : Int)) h ?_ ?_
  ·exact gt _ _ _ [1, 2] trivial rfl rfl rfl rfl (⟨rfl, rfl, ⟨rfl, rfl, rfl⟩, rfl, rfl, ⟨rfl, rfl, rfl⟩, rfl, rfl, trivial, rfl, rfl, trivial, trivial⟩)
  intro n1 x y1 h hl1 hr1
  obtain ⟨s4, s5⟩ := x
  unfold table_All_b1 at h
  dsimp only at h
  refine sj <| sn <| sj ?_
  refine bo h (fun ht h => ?_) fun ht h => ?_
  ·refine sn <| sj <| sj <| be h fun x6 hx6 h => ?_
   refine ai rfl (xi (S_Field.av x6) (ai (fun hg => idx_map _ hx6) ?_))
   refine ai (lb rfl) <| nt (S_Field.av x6) (fun _ => rfl) <| ai rfl ?_
   refine ai ⟨rfl, rfl, rfl, lb rfl⟩ (xi (S_Field.cells x6) (ai (fun _ => rfl) ?_))
   refine sn <| ai ⟨rfl, rfl, rfl, rfl⟩ <| ai ⟨rfl, rfl, rfl⟩ <| nt (AV.list 1 (([x6.Value] : List Bytes).map AV.str)) (fun _ => rfl) <| be h fun x7 hx7 h => ?_
   have qx7 := (app_some hx7).1
   have hx7e := (app_some hx7).2
   refine ai ⟨rfl, rfl, rfl⟩ <| ai rfl <| ai (app_cond ss qx7) <| nt (AV.list 1 (x7.map AV.str)) (fun _ => (app_list 1 ss _ _).trans (congrArg (fun y => AV.list 1 (List.map ss y)) hx7e.symm)) <| sn ?_
   replace h := oi h
   refine xi ⟨(n1, (x7, (IntKind.i64.wrap (s5 + (1 : Int))))), hl1 _ h.symm⟩ (ai (Nat.lt_succ_self _) ?_)
   refine gt _ _ _ [3, 1] ?_ ?_ ?_ rfl rfl ?_
   ·exact trivial
   ·exact rfl
   ·exact rfl
   ·exact ⟨rfl, rfl, ⟨rfl, rfl, rfl⟩, rfl, rfl, ⟨rfl, rfl, rfl⟩, rfl, rfl, trivial, rfl, rfl, trivial, trivial⟩
  ·exact W
 ·clear hj1
  exact W⟩
instance table_Joined_ok (E : Pm.Env) [LaidM E] (a0 : (List S_Field)) (a1 : Bytes) : Ok E (table_Joined a0 a1) (fun r => FnR E Tryz.prog 98 [AV.list 2 (a0.map S_Field.av), ss a1] (AV.tup [ss r.1, bb r.2]) false) := ⟨fun r h => by
 refine FnR.of_ev (T := T) (rows := []) tOk mixed Tryz.func98 rfl (by kernel_rfl) (by kernel_rfl) rfl fun hwf => ?_
 unfold table_Joined at h
 exact W⟩
theorem number_read_uint64_ok (E : Pm.Env) [LaidM E] (a0 : Bytes) (a1 : Int) (a2 : FuncId) (a2c : List AV) (a2i : Int -> Option Int) (a2h : ∀ (x0 : Int) (r : Int), a2i x0 = some r -> FnR E Tryz.prog a2 ([AV.int .u8 x0] ++ a2c) (AV.int .u64 r) false) (a2p : a2c.all AV.puB = true) (r : (Int × Int)) (h : number_read_uint64 a0 a1 a2i = some r) : FnR E Tryz.prog 72 [ss a0, AV.int .u64 a1, AV.fn a2 [] a2c] (AV.tup [AV.int .u64 r.1, ii r.2]) false := by
 refine FnR.of_ev (T := T) (rows := []) tOk mixed Tryz.func72 rfl (by kernel_rfl) (by kernel_rfl) rfl fun hwf => ?_
 unfold number_read_uint64 at h
 refine sj <| sn <| sj <| sj <| sn ?_
 refine bo h (fun ht h => ?_) fun ht h => ?_
 ·exact W
 ·refine sn <| sj <| sn <| sj <| sj <| NormE.same <| sn ?_
  refine LoopE.img (fun x : (Int × Bool × Int) => St.of [⟨0, ss a0, none⟩, ⟨1, AV.int .u64 a1, none⟩, ⟨2, AV.fn a2 [] a2c, none⟩, ⟨8, AV.int .u64 x.1, none⟩, ⟨9, bb x.2.1, none⟩, ⟨16, ii (a0.length : Int), none⟩, ⟨17, ii x.2.2, none⟩] [] []) (number_read_uint64_b1 a0 a1 a2i) ((IntKind.u64.wrap (0 : Int)), false, (0 : Int)) h ?_ ?_
  ·exact gt _ _ _ [] trivial rfl rfl rfl rfl (⟨rfl, rfl, trivial, rfl, rfl, trivial, rfl, (noB_fn a2p _), trivial, rfl, rfl, trivial, rfl, rfl, trivial, rfl, rfl, trivial, rfl, rfl, trivial, trivial⟩)
  intro n1 x y1 h hl1 hr1
  obtain ⟨s1, s2, s3⟩ := x
  unfold number_read_uint64_b1 at h
  dsimp only at h
  refine sj <| sn <| sj ?_
  refine bo h (fun ht h => ?_) fun ht h => ?_
  ·refine sn <| sj <| sj <| sn <| sj <| be h fun x4 hx4 h => ?_
   refine xi x4 (ai (fun hg => idx_some hx4) ?_)
   refine be h fun x5 hx5 h => cd _ false (puD_app rfl (puD_of a2p)) (a2h (x4.toNat : Int) x5 hx5) <| sn <| sj <| sj <| sn ?_
   refine bo h (fun ht h => ?_) fun ht h => ?_
   ·exact W
   ·refine sn <| sj <| sn <| sj <| sn ?_
    refine bo h (fun ht h => ?_) fun ht h => ?_
    ·refine sn ?_
     replace h := oi h
     refine xi ⟨(n1, ((0 : Int), true, (IntKind.i64.wrap (s3 + (1 : Int))))), hl1 _ h.symm⟩ (ai (Nat.lt_succ_self _) ?_)
     refine gt _ _ _ [] ?_ ?_ ?_ rfl rfl ?_
     ·exact trivial
     ·exact rfl
     ·exact rfl
     ·exact ⟨rfl, rfl, trivial, rfl, rfl, trivial, rfl, (noB_fn a2p _), trivial, rfl, rfl, trivial, rfl, rfl, trivial, rfl, rfl, trivial, rfl, rfl, trivial, trivial⟩
    ·refine sn ?_
     replace h := oi h
     refine xi ⟨(n1, ((IntKind.u64.wrap ((IntKind.u64.wrap (s1 * a1)) + x5)), s2, (IntKind.i64.wrap (s3 + (1 : Int))))), hl1 _ h.symm⟩ (ai (Nat.lt_succ_self _) ?_)
     refine gt _ _ _ [] ?_ ?_ ?_ rfl rfl ?_
     ·exact W
     ·exact rfl
     ·exact rfl
     ·exact ⟨rfl, rfl, trivial, rfl, rfl, trivial, rfl, (noB_fn a2p _), trivial, rfl, rfl, trivial, rfl, rfl, trivial, rfl, rfl, trivial, rfl, rfl, trivial, trivial⟩
  ·exact W
instance number_ReadDec_1_ok (E : Pm.Env) [LaidM E] (a0 : Int) : Ok E (number_ReadDec_1 a0) (fun r => FnR E Tryz.prog 73 [AV.int .u8 a0] (AV.int .u64 r) false) := ⟨fun r h => by
 refine FnR.of_ev (T := T) (rows := []) tOk mixed Tryz.func73 rfl (by kernel_rfl) (by kernel_rfl) rfl fun hwf => ?_
 unfold number_ReadDec_1 at h
 exact W⟩
instance number_ReadDec_ok (E : Pm.Env) [LaidM E] (a0 : Bytes) : Ok E (number_ReadDec a0) (fun r => FnR E Tryz.prog 47 [ss a0] (AV.tup [AV.int .u64 r.1, ii r.2]) false) := ⟨fun r h => by
 refine FnR.of_ev (T := T) (rows := []) tOk mixed Tryz.func47 rfl (by kernel_rfl) (by kernel_rfl) rfl fun hwf => ?_
 unfold number_ReadDec at h
 refine sj <| sn <| sj <| be h fun x1 hx1 h => cd _ false rfl (number_read_uint64_ok E a0 (10 : Int) 73 [] (fun x0 => number_ReadDec_1 x0) (fun x0 r h => (number_ReadDec_1_ok E x0).1 r h) rfl x1 hx1) <| sn ?_
 cases h; exact rp (ai rfl (ai rfl rfl))⟩
instance frame_say_ok (E : Pm.Env) [LaidM E] (a0 : Int) (a1 : (List S_Field)) (a2 : S_Body) : Ok E (frame_say a0 a1 a2) (fun r => FnR E Tryz.prog 66 [ii a0, AV.list 2 (a1.map S_Field.av), S_Body.av a2] (AV.tup [S_Body.av r.1, ii r.2]) false) := ⟨fun r h => by
 refine FnR.of_ev (T := T) (rows := []) tOk mixed Tryz.func66 rfl (by kernel_rfl) (by kernel_rfl) rfl fun hwf => ?_
 unfold frame_say at h
 refine sj <| ai rfl ?_
 refine xi [] (xi 0 (ai ⟨rfl, rfl⟩ ?_))
 refine ai rfl <| sn <| sj <| be h fun x1 hx1 h => cd _ true rfl ((table_All_ok E a1 ([67, 111, 110, 116, 101, 110, 116, 45, 76, 101, 110, 103, 116, 104] : Bytes)).1 x1 hx1) <| sn <| sj <| sj <| be h fun x2 hx2 h => cd _ false rfl ((table_Joined_ok E a1 ([84, 114, 97, 110, 115, 102, 101, 114, 45, 69, 110, 99, 111, 100, 105, 110, 103] : Bytes)).1 x2 hx2) <| sn <| sj <| sn ?_
 refine bo h (fun ht h => ?_) fun ht h => ?_
 ·exact W
 ·refine sn <| sj <| ai ⟨lb rfl, lb rfl⟩ ?_
  refine xi none (ai rfl ?_)
  refine nt (S_Body.av a2) (fun _ => rfl) <| ai rfl ?_
  refine ai ⟨rfl, rfl, rfl, lb rfl⟩ (xi (S_Body.cells a2) (ai (fun _ => rfl) ?_))
  refine sn <| sj <| sj <| nt (ii (x1.length : Int)) (fun _ => len_list ss x1) <| sn ?_
  refine LoopE.img (fun x : (Bool × Int × S_Body) => St.of [⟨6, AV.ptr 1 0, none⟩, ⟨11, AV.ptr 2 0, none⟩, ⟨12, bb x.1, none⟩, ⟨41, AV.list 1 (x1.map AV.str), some 0⟩, ⟨42, ii (x1.length : Int), none⟩, ⟨43, ii x.2.1, none⟩] [.dead, .cells 28 [ii 0, ii 0] [], .cells 28 (S_Body.cells x.2.2) []] [1]) (frame_say_b1 x1) (false, (0 : Int), a2) h ?_ ?_
  ·exact W
  intro n1 x y1 h hl1 hr1
  obtain ⟨s4, s5, s6⟩ := x
  unfold frame_say_b1 at h
  dsimp only at h
  exact W⟩
instance frame_Request_ok (E : Pm.Env) [LaidM E] (a0 : S_Start) (a1 : (List S_Field)) : Ok E (frame_Request a0 a1) (fun r => FnR E Tryz.prog 39 [S_Start.av a0, AV.list 2 (a1.map S_Field.av)] (AV.tup [S_Body.av r.1, ii r.2]) false) := ⟨fun r h => by
 refine FnR.of_ev (T := T) (rows := []) tOk mixed Tryz.func39 rfl (by kernel_rfl) (by kernel_rfl) rfl fun hwf => ?_
 unfold frame_Request at h
 exact W⟩
instance frame_Answer_ok (E : Pm.Env) [LaidM E] (a0 : S_Start) (a1 : (List S_Field)) (a2 : Bytes) : Ok E (frame_Answer a0 a1 a2) (fun r => FnR E Tryz.prog 40 [S_Start.av a0, AV.list 2 (a1.map S_Field.av), ss a2] (AV.tup [S_Body.av r.1, ii r.2]) false) := ⟨fun r h => by
 refine FnR.of_ev (T := T) (rows := []) tOk mixed Tryz.func40 rfl (by kernel_rfl) (by kernel_rfl) rfl fun hwf => ?_
 unfold frame_Answer at h
 exact W⟩
instance wire_body_ok (E : Pm.Env) [LaidM E] (a0 : S_Reader) : Ok E (wire_body a0) (fun r => FnR E Tryz.prog 20 [S_Reader.av a0] (AV.tup [S_Body.av r.1, ii r.2]) false) := ⟨fun r h => by
 refine FnR.of_ev (T := T) (rows := []) tOk mixed Tryz.func20 rfl (by kernel_rfl) (by kernel_rfl) rfl fun hwf => ?_
 unfold wire_body at h
 exact W⟩
instance strings_Index_ok (E : Pm.Env) [LaidM E] (a0 : Bytes) (a1 : Bytes) : Ok E (strings_Index a0 a1) (fun r => FnR E Tryz.prog 67 [ss a0, ss a1] (ii r) false) := ⟨fun r h => by
 refine FnR.of_ev (T := T) (rows := []) tOk mixed Tryz.func67 rfl (by kernel_rfl) (by kernel_rfl) rfl fun hwf => ?_
 unfold strings_Index at h
 exact W⟩
instance strings_Contains_ok (E : Pm.Env) [LaidM E] (a0 : Bytes) (a1 : Bytes) : Ok E (strings_Contains a0 a1) (fun r => FnR E Tryz.prog 41 [ss a0, ss a1] (bb r) false) := ⟨fun r h => by
 refine FnR.of_ev (T := T) (rows := []) tOk mixed Tryz.func41 rfl (by kernel_rfl) (by kernel_rfl) rfl fun hwf => ?_
 unfold strings_Contains at h
 exact W⟩
instance chunk_Right_ok (E : Pm.Env) [LaidM E] (a0 : S_Chunked) : Ok E (chunk_Right a0) (fun r => FnR E Tryz.prog 21 [S_Chunked.av a0] (bb r) false) := ⟨fun r h => by
 refine FnR.of_ev (T := T) (rows := []) tOk mixed Tryz.func21 rfl (by kernel_rfl) (by kernel_rfl) rfl fun hwf => ?_
 unfold chunk_Right at h
 exact W⟩
instance wire_Right_ok (E : Pm.Env) [LaidM E] (a0 : S_Reader) : Ok E (wire_Right a0) (fun r => FnR E Tryz.prog 8 [S_Reader.av a0] (bb r) false) := ⟨fun r h => by
 refine FnR.of_ev (T := T) (rows := []) tOk mixed Tryz.func8 rfl (by kernel_rfl) (by kernel_rfl) rfl fun hwf => ?_
 unfold wire_Right at h
 exact W⟩
theorem wire_reading_whole_ok (E : Pm.Env) [LaidM E] (o0 : S_wire_reading) (r : Bool) (o0' : S_wire_reading) (h : wire_reading_whole o0 = some (r, o0')) : FnW E Tryz.prog 32 [AV.ptr 0 0] [.cells 51 (S_wire_reading.cells o0) [(18, 0)]] [1] (bb r) none [.cells 51 (S_wire_reading.cells o0') [(18, 1)]] [0, 1] := by
 refine FnW.of_evB (T := T) (rows := []) tOk mixed Tryz.func32 rfl (by kernel_rfl) (by kernel_rfl) rfl rfl fun hwf => ?_
 unfold wire_reading_whole at h
 refine sj <| sn <| sj <| Or.inl <| ai ⟨lb rfl, lb rfl⟩ ?_
 refine xi (some 0) (ai (show aggT [(18, 0)] 4 7 = some 0 from by kernel_rfl) ?_)
 refine nt (AV.agg [ss o0.Reader.Head.Start.Method, ss o0.Reader.Head.Start.Target, ii o0.Reader.Head.Start.Code, ss o0.Reader.Head.Start.Reason, ii o0.Reader.Head.Start.Minor, AV.list 2 (o0.Reader.Head.Fields.map S_Field.av), ss o0.Reader.Head.Body]) (fun _ => rfl) <| ai ⟨rfl, rfl, rfl, rfl⟩ <| ai ⟨rfl, rfl, rfl⟩ <| nt (AV.list 7 (([o0.Reader.Head] : List S_Message).map S_Message.av)) (fun _ => rfl) <| be h fun x1 hx1 h => ?_
 have qx1 := (app_some hx1).1
 have hx1e := (app_some hx1).2
 refine ai ⟨rfl, rfl, rfl⟩ <| ai rfl <| ai (app_cond S_Message.av qx1) <| nt (AV.list 7 (x1.map S_Message.av)) (fun _ => (app_list 7 S_Message.av _ _).trans (congrArg (fun y => AV.list 7 (List.map S_Message.av y)) hx1e.symm)) ?_
 refine ai ⟨rfl, rfl, rfl, lb rfl⟩ (xi [bb o0.Reader.Asks, ss o0.Reader.Method, ss o0.Reader.Buf, bb o0.Reader.In, ss o0.Reader.Head.Start.Method, ss o0.Reader.Head.Start.Target, ii o0.Reader.Head.Start.Code, ss o0.Reader.Head.Start.Reason, ii o0.Reader.Head.Start.Minor, AV.list 2 (o0.Reader.Head.Fields.map S_Field.av), ss o0.Reader.Head.Body, ii o0.Reader.Body.Kind, ii o0.Reader.Body.Size, ii o0.Reader.Chunk.Stage, ss o0.Reader.Chunk.Line, ii o0.Reader.Chunk.Left, ii o0.Reader.Chunk.Size, ii o0.Reader.Bad, AV.list 7 (x1.map S_Message.av)] (ai (fun _ => rfl) ?_))
 refine ai (by kernel_rfl) <| sn <| sj ?_
 refine xi (some 69810262081) (ai (okM.mk (show (69810262081 : Nat) = freeM T _ _ _ from by kernel_rfl)) ?_)
 refine xi none (ai trivial ?_)
 refine xi none (ai trivial ?_)
 refine ai ⟨rfl, rfl, rfl, lb rfl⟩ (xi [bb o0.Reader.Asks, ss o0.Reader.Method, ss o0.Reader.Buf, bb o0.Reader.In, ss [], ss [], ii 0, ss [], ii 0, AV.list 2 (([] : List S_Field).map S_Field.av), ss [], ii o0.Reader.Body.Kind, ii o0.Reader.Body.Size, ii o0.Reader.Chunk.Stage, ss o0.Reader.Chunk.Line, ii o0.Reader.Chunk.Left, ii o0.Reader.Chunk.Size, ii o0.Reader.Bad, AV.list 7 (x1.map S_Message.av)] (ai (fun _ => rfl) ?_))
 refine xi [(9, 3), (18, 2)] (xi 1 (ai ⟨(by kernel_rfl), rfl⟩ ?_))
 refine ai ⟨rfl, rfl, rfl, lb rfl⟩ (xi [bb o0.Reader.Asks, ss o0.Reader.Method, ss o0.Reader.Buf, bb o0.Reader.In, ss [], ss [], ii 0, ss [], ii 0, AV.list 2 (([] : List S_Field).map S_Field.av), ss [], ii 0, ii 0, ii o0.Reader.Chunk.Stage, ss o0.Reader.Chunk.Line, ii o0.Reader.Chunk.Left, ii o0.Reader.Chunk.Size, ii o0.Reader.Bad, AV.list 7 (x1.map S_Message.av)] (ai (fun _ => rfl) ?_))
 refine ai ⟨rfl, rfl, rfl, lb rfl⟩ (xi [bb o0.Reader.Asks, ss o0.Reader.Method, ss o0.Reader.Buf, bb o0.Reader.In, ss [], ss [], ii 0, ss [], ii 0, AV.list 2 (([] : List S_Field).map S_Field.av), ss [], ii 0, ii 0, ii 0, ss [], ii 0, ii 0, ii o0.Reader.Bad, AV.list 7 (x1.map S_Message.av)] (ai (fun _ => rfl) ?_))
 refine ai ⟨rfl, rfl, rfl, lb rfl⟩ (xi [bb o0.Reader.Asks, ss o0.Reader.Method, ss o0.Reader.Buf, bb false, ss [], ss [], ii 0, ss [], ii 0, AV.list 2 (([] : List S_Field).map S_Field.av), ss [], ii 0, ii 0, ii 0, ss [], ii 0, ii 0, ii o0.Reader.Bad, AV.list 7 (x1.map S_Message.av)] (ai (fun _ => rfl) ?_))
 refine sn <| sj <| sn ?_
 replace h := oi h
 have h0 := (Prod.mk.inj h).1
 have h1 := (Prod.mk.inj h).2
 subst h0
 subst h1
 refine xi [⟨2, bb true, none⟩] (xi [.cells 51 [bb o0.Reader.Asks, ss o0.Reader.Method, ss o0.Reader.Buf, bb false, ss [], ss [], ii 0, ss [], ii 0, AV.list 2 (([] : List S_Field).map S_Field.av), ss [], ii 0, ii 0, ii 0, ss [], ii 0, ii 0, ii o0.Reader.Bad, AV.list 7 (x1.map S_Message.av)] [(18, 1)]] (ai rfl (ai (gt _ _ _ [0, 2] ?_ ?_ ?_ rfl rfl ?_) (ai ?_ rfl))))
 ·exact ⟨⟨rfl, rfl, rfl⟩, trivial⟩
 ·exact rfl
 ·exact rfl
 ·exact tr3 <| trivial
 ·exact rfl
theorem chunk_state_end_ok (E : Pm.Env) [LaidM E] (o0 : S_chunk_state) (a1 : Bytes) (r : Unit) (o0' : S_chunk_state) (h : chunk_state_end o0 a1 = some (r, o0')) : FnW E Tryz.prog 83 [AV.ptr 0 0, ss a1] [.cells 93 (S_chunk_state.cells o0) []] [] (AV.tup []) none [.cells 93 (S_chunk_state.cells o0') []] [] := by
 refine FnW.of_evB (T := T) (rows := []) tOk mixed Tryz.func83 rfl (by kernel_rfl) (by kernel_rfl) rfl rfl fun hwf => ?_
 unfold chunk_state_end at h
 refine sj ?_
 refine ai ⟨rfl, rfl, rfl, lb rfl⟩ (xi [ii 0, ss o0.Chunked.Line, ii o0.Chunked.Left, ii o0.Chunked.Size, ii o0.bad] (ai (fun _ => rfl) ?_))
 refine sn <| sj <| sn ?_
 refine bo h (fun ht h => ?_) fun ht h => ?_
 ·refine ai ⟨rfl, rfl, rfl, lb rfl⟩ (xi [ii 0, ss o0.Chunked.Line, ii o0.Chunked.Left, ii o0.Chunked.Size, ii 33] (ai (fun _ => rfl) ?_))
  replace h := oi h
  have h0 := (Prod.mk.inj h).1
  have h1 := (Prod.mk.inj h).2
  subst h0
  subst h1
  refine xi [] (xi [.cells 93 [ii 0, ss o0.Chunked.Line, ii o0.Chunked.Left, ii o0.Chunked.Size, ii 33] []] (ai rfl (ai (gt _ _ _ [] ?_ ?_ ?_ rfl rfl ?_) (ai ?_ rfl))))
  ·exact ⟨⟨rfl, rfl, rfl⟩, trivial⟩
  ·exact rfl
  ·exact rfl
  ·exact W
  ·exact rfl
 ·replace h := oi h
  have h0 := (Prod.mk.inj h).1
  have h1 := (Prod.mk.inj h).2
  subst h0
  subst h1
  refine xi [] (xi [.cells 93 [ii 0, ss o0.Chunked.Line, ii o0.Chunked.Left, ii o0.Chunked.Size, ii o0.bad] []] (ai rfl (ai (gt _ _ _ [] ?_ ?_ ?_ rfl rfl ?_) (ai ?_ rfl))))
  ·exact W
  ·exact rfl
  ·exact rfl
  ·exact W
  ·exact rfl
theorem chunk_state_tail_ok (E : Pm.Env) [LaidM E] (o0 : S_chunk_state) (a1 : Bytes) (r : Unit) (o0' : S_chunk_state) (h : chunk_state_tail o0 a1 = some (r, o0')) : FnW E Tryz.prog 84 [AV.ptr 0 0, ss a1] [.cells 93 (S_chunk_state.cells o0) []] [] (AV.tup []) none [.cells 93 (S_chunk_state.cells o0') []] [] := by
 refine FnW.of_evB (T := T) (rows := []) tOk mixed Tryz.func84 rfl (by kernel_rfl) (by kernel_rfl) rfl rfl fun hwf => ?_
 unfold chunk_state_tail at h
 refine sj <| sn ?_
 refine bo h (fun ht h => ?_) fun ht h => ?_
 ·refine ai ⟨rfl, rfl, rfl, lb rfl⟩ (xi [ii 4, ss o0.Chunked.Line, ii o0.Chunked.Left, ii o0.Chunked.Size, ii o0.bad] (ai (fun _ => rfl) ?_))
  replace h := oi h
  have h0 := (Prod.mk.inj h).1
  have h1 := (Prod.mk.inj h).2
  subst h0
  subst h1
  refine xi [] (xi [.cells 93 [ii 4, ss o0.Chunked.Line, ii o0.Chunked.Left, ii o0.Chunked.Size, ii o0.bad] []] (ai rfl (ai (gt _ _ _ [] ?_ ?_ ?_ rfl rfl ?_) (ai ?_ rfl))))
  ·exact ⟨⟨rfl, rfl, rfl⟩, trivial⟩
  ·exact rfl
  ·exact rfl
  ·exact W
  ·exact rfl
 ·replace h := oi h
  have h0 := (Prod.mk.inj h).1
  have h1 := (Prod.mk.inj h).2
  subst h0
  subst h1
  refine xi [] (xi [.cells 93 (S_chunk_state.cells o0) []] (ai rfl (ai (gt _ _ _ [] ?_ ?_ ?_ rfl rfl ?_) (ai ?_ rfl))))
  ·exact W
  ·exact rfl
  ·exact rfl
  ·exact W
  ·exact rfl
instance number_ReadHex_1_ok (E : Pm.Env) [LaidM E] (a0 : Int) : Ok E (number_ReadHex_1 a0) (fun r => FnR E Tryz.prog 143 [AV.int .u8 a0] (AV.int .u64 r) false) := ⟨fun r h => by
 refine FnR.of_ev (T := T) (rows := []) tOk mixed Tryz.func143 rfl (by kernel_rfl) (by kernel_rfl) rfl fun hwf => ?_
 unfold number_ReadHex_1 at h
 exact W⟩
instance number_ReadHex_ok (E : Pm.Env) [LaidM E] (a0 : Bytes) : Ok E (number_ReadHex a0) (fun r => FnR E Tryz.prog 119 [ss a0] (AV.tup [AV.int .u64 r.1, ii r.2]) false) := ⟨fun r h => by
 refine FnR.of_ev (T := T) (rows := []) tOk mixed Tryz.func119 rfl (by kernel_rfl) (by kernel_rfl) rfl fun hwf => ?_
 unfold number_ReadHex at h
 refine sj <| sn <| sj <| be h fun x1 hx1 h => cd _ false rfl (number_read_uint64_ok E a0 (16 : Int) 143 [] (fun x0 => number_ReadHex_1 x0) (fun x0 r h => (number_ReadHex_1_ok E x0).1 r h) rfl x1 hx1) <| sn ?_
 cases h; exact rp (ai rfl (ai rfl rfl))⟩
theorem chunk_state_size_ok (E : Pm.Env) [LaidM E] (o0 : S_chunk_state) (a1 : Bytes) (r : Unit) (o0' : S_chunk_state) (h : chunk_state_size o0 a1 = some (r, o0')) : FnW E Tryz.prog 82 [AV.ptr 0 0, ss a1] [.cells 93 (S_chunk_state.cells o0) []] [] (AV.tup []) none [.cells 93 (S_chunk_state.cells o0') []] [] := by
 refine FnW.of_evB (T := T) (rows := []) tOk mixed Tryz.func82 rfl (by kernel_rfl) (by kernel_rfl) rfl rfl fun hwf => ?_
 unfold chunk_state_size at h
 refine sj <| be h fun x1 hx1 h => cd _ false rfl ((strings_Cut_ok E a1 ([59] : Bytes)).1 x1 hx1) <| sn <| sj <| be h fun x2 hx2 h => cd _ false rfl ((text_Trim_ok E x1.1).1 x2 hx2) <| be h fun x3 hx3 h => cd _ false rfl ((number_ReadHex_ok E x2).1 x3 hx3) <| sn <| sj <| sn ?_
 refine bo h (fun ht h => ?_) fun ht h => ?_
 ·refine ai ⟨rfl, rfl, rfl, lb rfl⟩ (xi [ii o0.Chunked.Stage, ss o0.Chunked.Line, ii o0.Chunked.Left, ii o0.Chunked.Size, ii 33] (ai (fun _ => rfl) ?_))
  replace h := oi h
  have h0 := (Prod.mk.inj h).1
  have h1 := (Prod.mk.inj h).2
  subst h0
  subst h1
  refine xi [] (xi [.cells 93 [ii o0.Chunked.Stage, ss o0.Chunked.Line, ii o0.Chunked.Left, ii o0.Chunked.Size, ii 33] []] (ai rfl (ai (gt _ _ _ [] ?_ ?_ ?_ rfl rfl ?_) (ai ?_ rfl))))
  ·exact ⟨⟨rfl, rfl, rfl⟩, trivial⟩
  ·exact rfl
  ·exact rfl
  ·exact W
  ·exact rfl
 ·refine sj <| ai id <| ai id <| ai id <| ai id <| ai id <| ai id <| ai id <| ai id <| ai (fun hg => (and_r hg)) <| sn ?_
  refine bo h (fun ht h => ?_) fun ht h => ?_
  ·refine ai ⟨rfl, rfl, rfl, lb rfl⟩ (xi [ii o0.Chunked.Stage, ss o0.Chunked.Line, ii o0.Chunked.Left, ii o0.Chunked.Size, ii 2] (ai (fun _ => rfl) ?_))
   replace h := oi h
   have h0 := (Prod.mk.inj h).1
   have h1 := (Prod.mk.inj h).2
   subst h0
   subst h1
   refine xi [] (xi [.cells 93 [ii o0.Chunked.Stage, ss o0.Chunked.Line, ii o0.Chunked.Left, ii o0.Chunked.Size, ii 2] []] (ai rfl (ai (gt _ _ _ [] ?_ ?_ ?_ rfl rfl ?_) (ai ?_ rfl))))
   ·exact ⟨⟨rfl, rfl, rfl⟩, trivial⟩
   ·exact rfl
   ·exact rfl
   ·exact W
   ·exact rfl
  ·refine sj <| sn ?_
   refine bo h (fun ht h => ?_) fun ht h => ?_
   ·refine ai ⟨rfl, rfl, rfl, lb rfl⟩ (xi [ii 3, ss o0.Chunked.Line, ii o0.Chunked.Left, ii o0.Chunked.Size, ii o0.bad] (ai (fun _ => rfl) ?_))
    replace h := oi h
    have h0 := (Prod.mk.inj h).1
    have h1 := (Prod.mk.inj h).2
    subst h0
    subst h1
    refine xi [] (xi [.cells 93 [ii 3, ss o0.Chunked.Line, ii o0.Chunked.Left, ii o0.Chunked.Size, ii o0.bad] []] (ai rfl (ai (gt _ _ _ [] ?_ ?_ ?_ rfl rfl ?_) (ai ?_ rfl))))
    ·exact ⟨⟨rfl, rfl, rfl⟩, trivial⟩
    ·exact rfl
    ·exact rfl
    ·exact W
    ·exact rfl
   ·refine ai ⟨rfl, rfl, rfl, lb rfl⟩ (xi [ii 1, ss o0.Chunked.Line, ii o0.Chunked.Left, ii o0.Chunked.Size, ii o0.bad] (ai (fun _ => rfl) ?_))
    refine ai ⟨rfl, rfl, rfl, lb rfl⟩ (xi [ii 1, ss o0.Chunked.Line, ii (IntKind.i64.wrap x3.1), ii o0.Chunked.Size, ii o0.bad] (ai (fun _ => rfl) ?_))
    replace h := oi h
    have h0 := (Prod.mk.inj h).1
    have h1 := (Prod.mk.inj h).2
    subst h0
    subst h1
    refine xi [] (xi [.cells 93 [ii 1, ss o0.Chunked.Line, ii (IntKind.i64.wrap x3.1), ii o0.Chunked.Size, ii o0.bad] []] (ai rfl (ai (gt _ _ _ [] ?_ ?_ ?_ rfl rfl ?_) (ai ?_ rfl))))
    ·exact W
    ·exact rfl
    ·exact rfl
    ·exact W
    ·exact rfl
theorem chunk_state_line_ok (E : Pm.Env) [LaidM E] (o0 : S_chunk_state) (a1 : Bytes) (r : Int) (o0' : S_chunk_state) (h : chunk_state_line o0 a1 = some (r, o0')) : FnW E Tryz.prog 54 [AV.ptr 0 0, ss a1] [.cells 93 (S_chunk_state.cells o0) []] [] (ii r) none [.cells 93 (S_chunk_state.cells o0') []] [] := by
 refine FnW.of_evB (T := T) (rows := []) tOk mixed Tryz.func54 rfl (by kernel_rfl) (by kernel_rfl) rfl rfl fun hwf => ?_
 unfold chunk_state_line at h
 refine sj <| sn <| sj <| sn <| sj <| sj <| sn <| sj <| sn ?_
 refine bo h (fun ht h => ?_) fun ht h => ?_
 ·refine sn <| sj <| be h fun x1 hx1 h => cd _ false rfl ((strings_IndexByte_ok E a1 (10 : Int)).1 x1 hx1) <| sn <| sj <| sn <| sj <| sj <| sn ?_
  refine bo h (fun ht h => ?_) fun ht h => ?_
  ·refine be h fun x2 hx2 h => ?_
   have qx2 := (slc_some hx2).1
   have hx2e := (slc_some hx2).2
   refine ai (fun _ => qx2) <| nt (ss x2) (fun _ => congrArg ss hx2e.symm) <| sn <| sj <| sj <| NormE.same <| NormE.same <| sn ?_
   refine bo h (fun ht h => ?_) fun ht h => ?_
   ·refine sj ?_
    refine ai ⟨rfl, rfl, rfl, lb rfl⟩ (xi [ii o0.Chunked.Stage, ss o0.Chunked.Line, ii o0.Chunked.Left, ii o0.Chunked.Size, ii 33] (ai (fun _ => rfl) ?_))
    refine sn <| sj <| sn ?_
    replace h := oi h
    have h0 := (Prod.mk.inj h).1
    have h1 := (Prod.mk.inj h).2
    subst h0
    subst h1
    refine xi [⟨4, ii 0, none⟩] (xi [.cells 93 [ii o0.Chunked.Stage, ss o0.Chunked.Line, ii o0.Chunked.Left, ii o0.Chunked.Size, ii 33] []] (ai rfl (ai (gt _ _ _ [] ?_ ?_ ?_ rfl rfl ?_) (ai ?_ rfl))))
    ·exact ⟨⟨rfl, rfl, rfl⟩, trivial⟩
    ·exact rfl
    ·exact rfl
    ·exact tr3 <| trivial
    ·exact rfl
   ·refine sn <| sj <| sj <| be h fun x3 hx3 h => ?_
    have hx3c := (cat_some hx3).1
    have hx3e := (cat_some hx3).2
    refine ai (fun _ => hx3c) <| nt (ss x3) (fun _ => congrArg ss hx3e.symm) ?_
    refine ai ⟨rfl, rfl, rfl, lb rfl⟩ (xi [ii o0.Chunked.Stage, ss x3, ii o0.Chunked.Left, ii o0.Chunked.Size, ii o0.bad] (ai (fun _ => rfl) ?_))
    refine sn <| sj <| sn ?_
    refine bo h (fun ht h => ?_) fun ht h => ?_
    ·refine sj <| NormE.same <| sn ?_
     replace h := oi h
     have h0 := (Prod.mk.inj h).1
     have h1 := (Prod.mk.inj h).2
     subst h0
     subst h1
     refine xi [⟨4, ii (a1.length : Int), none⟩] (xi [.cells 93 [ii o0.Chunked.Stage, ss x3, ii o0.Chunked.Left, ii o0.Chunked.Size, ii o0.bad] []] (ai rfl (ai (gt _ _ _ [] ?_ ?_ ?_ rfl rfl ?_) (ai ?_ rfl))))
     ·exact ⟨⟨rfl, rfl, rfl⟩, trivial⟩
     ·exact rfl
     ·exact rfl
     ·exact tr3 <| trivial
     ·exact rfl
    ·refine sn <| sj <| be h fun x4 hx4 h => cd _ false rfl ((strings_TrimSuffix_ok E x3 ([13] : Bytes)).1 x4 hx4) <| sn <| sj ?_
     refine ai ⟨rfl, rfl, rfl, lb rfl⟩ (xi [ii o0.Chunked.Stage, ss [], ii o0.Chunked.Left, ii o0.Chunked.Size, ii o0.bad] (ai (fun _ => rfl) ?_))
     refine sn <| sj <| be h fun x5 hx5 h => CallH.ren [0] [] [.cells 93 (S_chunk_state.cells x5.2) []] [] (chunk_state_end_ok E (S_chunk_state.mk (S_Chunked.mk o0.Chunked.Stage ([] : Bytes) o0.Chunked.Left o0.Chunked.Size) o0.bad) x4 x5.1 x5.2 hx5) rfl rfl rfl rfl rfl rfl rfl rfl rfl <| sn <| sj <| sn ?_
     replace h := oi h
     have h0 := (Prod.mk.inj h).1
     have h1 := (Prod.mk.inj h).2
     subst h0
     subst h1
     refine xi [⟨4, ii (IntKind.i64.wrap (x1 + (1 : Int))), none⟩] (xi [.cells 93 (S_chunk_state.cells x5.2) []] (ai rfl (ai (gt _ _ _ [] ?_ ?_ ?_ rfl rfl ?_) (ai ?_ rfl))))
     ·exact ⟨⟨rfl, rfl, rfl⟩, trivial⟩
     ·exact rfl
     ·exact rfl
     ·exact tr3 <| trivial
     ·exact rfl
  ·refine sn <| sj <| sj <| NormE.same <| NormE.same <| sn ?_
   refine bo h (fun ht h => ?_) fun ht h => ?_
   ·refine sj ?_
    refine ai ⟨rfl, rfl, rfl, lb rfl⟩ (xi [ii o0.Chunked.Stage, ss o0.Chunked.Line, ii o0.Chunked.Left, ii o0.Chunked.Size, ii 33] (ai (fun _ => rfl) ?_))
    refine sn <| sj <| sn ?_
    replace h := oi h
    have h0 := (Prod.mk.inj h).1
    have h1 := (Prod.mk.inj h).2
    subst h0
    subst h1
    refine xi [⟨4, ii 0, none⟩] (xi [.cells 93 [ii o0.Chunked.Stage, ss o0.Chunked.Line, ii o0.Chunked.Left, ii o0.Chunked.Size, ii 33] []] (ai rfl (ai (gt _ _ _ [] ?_ ?_ ?_ rfl rfl ?_) (ai ?_ rfl))))
    ·exact ⟨⟨rfl, rfl, rfl⟩, trivial⟩
    ·exact rfl
    ·exact rfl
    ·exact tr3 <| trivial
    ·exact rfl
   ·refine sn <| sj <| sj <| be h fun x6 hx6 h => ?_
    have hx6c := (cat_some hx6).1
    have hx6e := (cat_some hx6).2
    refine ai (fun _ => hx6c) <| nt (ss x6) (fun _ => congrArg ss hx6e.symm) ?_
    refine ai ⟨rfl, rfl, rfl, lb rfl⟩ (xi [ii o0.Chunked.Stage, ss x6, ii o0.Chunked.Left, ii o0.Chunked.Size, ii o0.bad] (ai (fun _ => rfl) ?_))
    refine sn <| sj <| sn ?_
    refine bo h (fun ht h => ?_) fun ht h => ?_
    ·refine sj <| NormE.same <| sn ?_
     replace h := oi h
     have h0 := (Prod.mk.inj h).1
     have h1 := (Prod.mk.inj h).2
     subst h0
     subst h1
     refine xi [⟨4, ii (a1.length : Int), none⟩] (xi [.cells 93 [ii o0.Chunked.Stage, ss x6, ii o0.Chunked.Left, ii o0.Chunked.Size, ii o0.bad] []] (ai rfl (ai (gt _ _ _ [] ?_ ?_ ?_ rfl rfl ?_) (ai ?_ rfl))))
     ·exact ⟨⟨rfl, rfl, rfl⟩, trivial⟩
     ·exact rfl
     ·exact rfl
     ·exact tr3 <| trivial
     ·exact rfl
    ·refine sn <| sj <| be h fun x7 hx7 h => cd _ false rfl ((strings_TrimSuffix_ok E x6 ([13] : Bytes)).1 x7 hx7) <| sn <| sj ?_
     refine ai ⟨rfl, rfl, rfl, lb rfl⟩ (xi [ii o0.Chunked.Stage, ss [], ii o0.Chunked.Left, ii o0.Chunked.Size, ii o0.bad] (ai (fun _ => rfl) ?_))
     refine sn <| sj <| be h fun x8 hx8 h => CallH.ren [0] [] [.cells 93 (S_chunk_state.cells x8.2) []] [] (chunk_state_end_ok E (S_chunk_state.mk (S_Chunked.mk o0.Chunked.Stage ([] : Bytes) o0.Chunked.Left o0.Chunked.Size) o0.bad) x7 x8.1 x8.2 hx8) rfl rfl rfl rfl rfl rfl rfl rfl rfl <| sn <| sj <| sn ?_
     replace h := oi h
     have h0 := (Prod.mk.inj h).1
     have h1 := (Prod.mk.inj h).2
     subst h0
     subst h1
     refine xi [⟨4, ii (IntKind.i64.wrap (x1 + (1 : Int))), none⟩] (xi [.cells 93 (S_chunk_state.cells x8.2) []] (ai rfl (ai (gt _ _ _ [] ?_ ?_ ?_ rfl rfl ?_) (ai ?_ rfl))))
     ·exact ⟨⟨rfl, rfl, rfl⟩, trivial⟩
     ·exact rfl
     ·exact rfl
     ·exact tr3 <| trivial
     ·exact rfl
 ·refine sj <| sn ?_
  refine bo h (fun ht h => ?_) fun ht h => ?_
  ·refine sn <| sj <| be h fun x9 hx9 h => cd _ false rfl ((strings_IndexByte_ok E a1 (10 : Int)).1 x9 hx9) <| sn <| sj <| sn <| sj <| sj <| sn ?_
   refine bo h (fun ht h => ?_) fun ht h => ?_
   ·refine be h fun x10 hx10 h => ?_
    have qx10 := (slc_some hx10).1
    have hx10e := (slc_some hx10).2
    refine ai (fun _ => qx10) <| nt (ss x10) (fun _ => congrArg ss hx10e.symm) <| sn <| sj <| sj <| NormE.same <| NormE.same <| sn ?_
    refine bo h (fun ht h => ?_) fun ht h => ?_
    ·refine sj ?_
     refine ai ⟨rfl, rfl, rfl, lb rfl⟩ (xi [ii o0.Chunked.Stage, ss o0.Chunked.Line, ii o0.Chunked.Left, ii o0.Chunked.Size, ii 33] (ai (fun _ => rfl) ?_))
     refine sn <| sj <| sn ?_
     replace h := oi h
     have h0 := (Prod.mk.inj h).1
     have h1 := (Prod.mk.inj h).2
     subst h0
     subst h1
     refine xi [⟨4, ii 0, none⟩] (xi [.cells 93 [ii o0.Chunked.Stage, ss o0.Chunked.Line, ii o0.Chunked.Left, ii o0.Chunked.Size, ii 33] []] (ai rfl (ai (gt _ _ _ [] ?_ ?_ ?_ rfl rfl ?_) (ai ?_ rfl))))
     ·exact ⟨⟨rfl, rfl, rfl⟩, trivial⟩
     ·exact rfl
     ·exact rfl
     ·exact tr3 <| trivial
     ·exact rfl
    ·refine sn <| sj <| sj <| be h fun x11 hx11 h => ?_
     have hx11c := (cat_some hx11).1
     have hx11e := (cat_some hx11).2
     refine ai (fun _ => hx11c) <| nt (ss x11) (fun _ => congrArg ss hx11e.symm) ?_
     refine ai ⟨rfl, rfl, rfl, lb rfl⟩ (xi [ii o0.Chunked.Stage, ss x11, ii o0.Chunked.Left, ii o0.Chunked.Size, ii o0.bad] (ai (fun _ => rfl) ?_))
     refine sn <| sj <| sn ?_
     refine bo h (fun ht h => ?_) fun ht h => ?_
     ·refine sj <| NormE.same <| sn ?_
      replace h := oi h
      have h0 := (Prod.mk.inj h).1
      have h1 := (Prod.mk.inj h).2
      subst h0
      subst h1
      refine xi [⟨4, ii (a1.length : Int), none⟩] (xi [.cells 93 [ii o0.Chunked.Stage, ss x11, ii o0.Chunked.Left, ii o0.Chunked.Size, ii o0.bad] []] (ai rfl (ai (gt _ _ _ [] ?_ ?_ ?_ rfl rfl ?_) (ai ?_ rfl))))
      ·exact ⟨⟨rfl, rfl, rfl⟩, trivial⟩
      ·exact rfl
      ·exact rfl
      ·exact tr3 <| trivial
      ·exact rfl
     ·refine sn <| sj <| be h fun x12 hx12 h => cd _ false rfl ((strings_TrimSuffix_ok E x11 ([13] : Bytes)).1 x12 hx12) <| sn <| sj ?_
      refine ai ⟨rfl, rfl, rfl, lb rfl⟩ (xi [ii o0.Chunked.Stage, ss [], ii o0.Chunked.Left, ii o0.Chunked.Size, ii o0.bad] (ai (fun _ => rfl) ?_))
      refine sn <| sj <| be h fun x13 hx13 h => CallH.ren [0] [] [.cells 93 (S_chunk_state.cells x13.2) []] [] (chunk_state_tail_ok E (S_chunk_state.mk (S_Chunked.mk o0.Chunked.Stage ([] : Bytes) o0.Chunked.Left o0.Chunked.Size) o0.bad) x12 x13.1 x13.2 hx13) rfl rfl rfl rfl rfl rfl rfl rfl rfl <| sn <| sj <| sn ?_
      replace h := oi h
      have h0 := (Prod.mk.inj h).1
      have h1 := (Prod.mk.inj h).2
      subst h0
      subst h1
      refine xi [⟨4, ii (IntKind.i64.wrap (x9 + (1 : Int))), none⟩] (xi [.cells 93 (S_chunk_state.cells x13.2) []] (ai rfl (ai (gt _ _ _ [] ?_ ?_ ?_ rfl rfl ?_) (ai ?_ rfl))))
      ·exact ⟨⟨rfl, rfl, rfl⟩, trivial⟩
      ·exact rfl
      ·exact rfl
      ·exact tr3 <| trivial
      ·exact rfl
   ·refine sn <| sj <| sj <| NormE.same <| NormE.same <| sn ?_
    refine bo h (fun ht h => ?_) fun ht h => ?_
    ·refine sj ?_
     refine ai ⟨rfl, rfl, rfl, lb rfl⟩ (xi [ii o0.Chunked.Stage, ss o0.Chunked.Line, ii o0.Chunked.Left, ii o0.Chunked.Size, ii 33] (ai (fun _ => rfl) ?_))
     refine sn <| sj <| sn ?_
     replace h := oi h
     have h0 := (Prod.mk.inj h).1
     have h1 := (Prod.mk.inj h).2
     subst h0
     subst h1
     refine xi [⟨4, ii 0, none⟩] (xi [.cells 93 [ii o0.Chunked.Stage, ss o0.Chunked.Line, ii o0.Chunked.Left, ii o0.Chunked.Size, ii 33] []] (ai rfl (ai (gt _ _ _ [] ?_ ?_ ?_ rfl rfl ?_) (ai ?_ rfl))))
     ·exact ⟨⟨rfl, rfl, rfl⟩, trivial⟩
     ·exact rfl
     ·exact rfl
     ·exact tr3 <| trivial
     ·exact rfl
    ·refine sn <| sj <| sj <| be h fun x14 hx14 h => ?_
     have hx14c := (cat_some hx14).1
     have hx14e := (cat_some hx14).2
     refine ai (fun _ => hx14c) <| nt (ss x14) (fun _ => congrArg ss hx14e.symm) ?_
     refine ai ⟨rfl, rfl, rfl, lb rfl⟩ (xi [ii o0.Chunked.Stage, ss x14, ii o0.Chunked.Left, ii o0.Chunked.Size, ii o0.bad] (ai (fun _ => rfl) ?_))
     refine sn <| sj <| sn ?_
     refine bo h (fun ht h => ?_) fun ht h => ?_
     ·refine sj <| NormE.same <| sn ?_
      replace h := oi h
      have h0 := (Prod.mk.inj h).1
      have h1 := (Prod.mk.inj h).2
      subst h0
      subst h1
      refine xi [⟨4, ii (a1.length : Int), none⟩] (xi [.cells 93 [ii o0.Chunked.Stage, ss x14, ii o0.Chunked.Left, ii o0.Chunked.Size, ii o0.bad] []] (ai rfl (ai (gt _ _ _ [] ?_ ?_ ?_ rfl rfl ?_) (ai ?_ rfl))))
      ·exact ⟨⟨rfl, rfl, rfl⟩, trivial⟩
      ·exact rfl
      ·exact rfl
      ·exact tr3 <| trivial
      ·exact rfl
     ·refine sn <| sj <| be h fun x15 hx15 h => cd _ false rfl ((strings_TrimSuffix_ok E x14 ([13] : Bytes)).1 x15 hx15) <| sn <| sj ?_
      refine ai ⟨rfl, rfl, rfl, lb rfl⟩ (xi [ii o0.Chunked.Stage, ss [], ii o0.Chunked.Left, ii o0.Chunked.Size, ii o0.bad] (ai (fun _ => rfl) ?_))
      refine sn <| sj <| be h fun x16 hx16 h => CallH.ren [0] [] [.cells 93 (S_chunk_state.cells x16.2) []] [] (chunk_state_tail_ok E (S_chunk_state.mk (S_Chunked.mk o0.Chunked.Stage ([] : Bytes) o0.Chunked.Left o0.Chunked.Size) o0.bad) x15 x16.1 x16.2 hx16) rfl rfl rfl rfl rfl rfl rfl rfl rfl <| sn <| sj <| sn ?_
      replace h := oi h
      have h0 := (Prod.mk.inj h).1
      have h1 := (Prod.mk.inj h).2
      subst h0
      subst h1
      refine xi [⟨4, ii (IntKind.i64.wrap (x9 + (1 : Int))), none⟩] (xi [.cells 93 (S_chunk_state.cells x16.2) []] (ai rfl (ai (gt _ _ _ [] ?_ ?_ ?_ rfl rfl ?_) (ai ?_ rfl))))
      ·exact ⟨⟨rfl, rfl, rfl⟩, trivial⟩
      ·exact rfl
      ·exact rfl
      ·exact tr3 <| trivial
      ·exact rfl
  ·refine sn <| sj <| be h fun x17 hx17 h => cd _ false rfl ((strings_IndexByte_ok E a1 (10 : Int)).1 x17 hx17) <| sn <| sj <| sn <| sj <| sj <| sn ?_
   refine bo h (fun ht h => ?_) fun ht h => ?_
   ·refine be h fun x18 hx18 h => ?_
    have qx18 := (slc_some hx18).1
    have hx18e := (slc_some hx18).2
    refine ai (fun _ => qx18) <| nt (ss x18) (fun _ => congrArg ss hx18e.symm) <| sn <| sj <| sj <| NormE.same <| NormE.same <| sn ?_
    refine bo h (fun ht h => ?_) fun ht h => ?_
    ·refine sj ?_
     refine ai ⟨rfl, rfl, rfl, lb rfl⟩ (xi [ii o0.Chunked.Stage, ss o0.Chunked.Line, ii o0.Chunked.Left, ii o0.Chunked.Size, ii 33] (ai (fun _ => rfl) ?_))
     refine sn <| sj <| sn ?_
     replace h := oi h
     have h0 := (Prod.mk.inj h).1
     have h1 := (Prod.mk.inj h).2
     subst h0
     subst h1
     refine xi [⟨4, ii 0, none⟩] (xi [.cells 93 [ii o0.Chunked.Stage, ss o0.Chunked.Line, ii o0.Chunked.Left, ii o0.Chunked.Size, ii 33] []] (ai rfl (ai (gt _ _ _ [] ?_ ?_ ?_ rfl rfl ?_) (ai ?_ rfl))))
     ·exact ⟨⟨rfl, rfl, rfl⟩, trivial⟩
     ·exact rfl
     ·exact rfl
     ·exact tr3 <| trivial
     ·exact rfl
    ·refine sn <| sj <| sj <| be h fun x19 hx19 h => ?_
     have hx19c := (cat_some hx19).1
     have hx19e := (cat_some hx19).2
     refine ai (fun _ => hx19c) <| nt (ss x19) (fun _ => congrArg ss hx19e.symm) ?_
     refine ai ⟨rfl, rfl, rfl, lb rfl⟩ (xi [ii o0.Chunked.Stage, ss x19, ii o0.Chunked.Left, ii o0.Chunked.Size, ii o0.bad] (ai (fun _ => rfl) ?_))
     refine sn <| sj <| sn ?_
     refine bo h (fun ht h => ?_) fun ht h => ?_
     ·refine sj <| NormE.same <| sn ?_
      replace h := oi h
      have h0 := (Prod.mk.inj h).1
      have h1 := (Prod.mk.inj h).2
      subst h0
      subst h1
      refine xi [⟨4, ii (a1.length : Int), none⟩] (xi [.cells 93 [ii o0.Chunked.Stage, ss x19, ii o0.Chunked.Left, ii o0.Chunked.Size, ii o0.bad] []] (ai rfl (ai (gt _ _ _ [] ?_ ?_ ?_ rfl rfl ?_) (ai ?_ rfl))))
      ·exact ⟨⟨rfl, rfl, rfl⟩, trivial⟩
      ·exact rfl
      ·exact rfl
      ·exact tr3 <| trivial
      ·exact rfl
     ·refine sn <| sj <| be h fun x20 hx20 h => cd _ false rfl ((strings_TrimSuffix_ok E x19 ([13] : Bytes)).1 x20 hx20) <| sn <| sj ?_
      refine ai ⟨rfl, rfl, rfl, lb rfl⟩ (xi [ii o0.Chunked.Stage, ss [], ii o0.Chunked.Left, ii o0.Chunked.Size, ii o0.bad] (ai (fun _ => rfl) ?_))
      refine sn <| sj <| be h fun x21 hx21 h => CallH.ren [0] [] [.cells 93 (S_chunk_state.cells x21.2) []] [] (chunk_state_size_ok E (S_chunk_state.mk (S_Chunked.mk o0.Chunked.Stage ([] : Bytes) o0.Chunked.Left o0.Chunked.Size) o0.bad) x20 x21.1 x21.2 hx21) rfl rfl rfl rfl rfl rfl rfl rfl rfl <| sn <| sj <| sn ?_
      replace h := oi h
      have h0 := (Prod.mk.inj h).1
      have h1 := (Prod.mk.inj h).2
      subst h0
      subst h1
      refine xi [⟨4, ii (IntKind.i64.wrap (x17 + (1 : Int))), none⟩] (xi [.cells 93 (S_chunk_state.cells x21.2) []] (ai rfl (ai (gt _ _ _ [] ?_ ?_ ?_ rfl rfl ?_) (ai ?_ rfl))))
      ·exact ⟨⟨rfl, rfl, rfl⟩, trivial⟩
      ·exact rfl
      ·exact rfl
      ·exact tr3 <| trivial
      ·exact rfl
   ·refine sn <| sj <| sj <| NormE.same <| NormE.same <| sn ?_
    refine bo h (fun ht h => ?_) fun ht h => ?_
    ·refine sj ?_
     refine ai ⟨rfl, rfl, rfl, lb rfl⟩ (xi [ii o0.Chunked.Stage, ss o0.Chunked.Line, ii o0.Chunked.Left, ii o0.Chunked.Size, ii 33] (ai (fun _ => rfl) ?_))
     refine sn <| sj <| sn ?_
     replace h := oi h
     have h0 := (Prod.mk.inj h).1
     have h1 := (Prod.mk.inj h).2
     subst h0
     subst h1
     refine xi [⟨4, ii 0, none⟩] (xi [.cells 93 [ii o0.Chunked.Stage, ss o0.Chunked.Line, ii o0.Chunked.Left, ii o0.Chunked.Size, ii 33] []] (ai rfl (ai (gt _ _ _ [] ?_ ?_ ?_ rfl rfl ?_) (ai ?_ rfl))))
     ·exact ⟨⟨rfl, rfl, rfl⟩, trivial⟩
     ·exact rfl
     ·exact rfl
     ·exact tr3 <| trivial
     ·exact rfl
    ·refine sn <| sj <| sj <| be h fun x22 hx22 h => ?_
     have hx22c := (cat_some hx22).1
     have hx22e := (cat_some hx22).2
     refine ai (fun _ => hx22c) <| nt (ss x22) (fun _ => congrArg ss hx22e.symm) ?_
     refine ai ⟨rfl, rfl, rfl, lb rfl⟩ (xi [ii o0.Chunked.Stage, ss x22, ii o0.Chunked.Left, ii o0.Chunked.Size, ii o0.bad] (ai (fun _ => rfl) ?_))
     refine sn <| sj <| sn ?_
     refine bo h (fun ht h => ?_) fun ht h => ?_
     ·refine sj <| NormE.same <| sn ?_
      replace h := oi h
      have h0 := (Prod.mk.inj h).1
      have h1 := (Prod.mk.inj h).2
      subst h0
      subst h1
      refine xi [⟨4, ii (a1.length : Int), none⟩] (xi [.cells 93 [ii o0.Chunked.Stage, ss x22, ii o0.Chunked.Left, ii o0.Chunked.Size, ii o0.bad] []] (ai rfl (ai (gt _ _ _ [] ?_ ?_ ?_ rfl rfl ?_) (ai ?_ rfl))))
      ·exact ⟨⟨rfl, rfl, rfl⟩, trivial⟩
      ·exact rfl
      ·exact rfl
      ·exact tr3 <| trivial
      ·exact rfl
     ·refine sn <| sj <| be h fun x23 hx23 h => cd _ false rfl ((strings_TrimSuffix_ok E x22 ([13] : Bytes)).1 x23 hx23) <| sn <| sj ?_
      refine ai ⟨rfl, rfl, rfl, lb rfl⟩ (xi [ii o0.Chunked.Stage, ss [], ii o0.Chunked.Left, ii o0.Chunked.Size, ii o0.bad] (ai (fun _ => rfl) ?_))
      refine sn <| sj <| be h fun x24 hx24 h => CallH.ren [0] [] [.cells 93 (S_chunk_state.cells x24.2) []] [] (chunk_state_size_ok E (S_chunk_state.mk (S_Chunked.mk o0.Chunked.Stage ([] : Bytes) o0.Chunked.Left o0.Chunked.Size) o0.bad) x23 x24.1 x24.2 hx24) rfl rfl rfl rfl rfl rfl rfl rfl rfl <| sn <| sj <| sn ?_
      replace h := oi h
      have h0 := (Prod.mk.inj h).1
      have h1 := (Prod.mk.inj h).2
      subst h0
      subst h1
      refine xi [⟨4, ii (IntKind.i64.wrap (x17 + (1 : Int))), none⟩] (xi [.cells 93 (S_chunk_state.cells x24.2) []] (ai rfl (ai (gt _ _ _ [] ?_ ?_ ?_ rfl rfl ?_) (ai ?_ rfl))))
      ·exact ⟨⟨rfl, rfl, rfl⟩, trivial⟩
      ·exact rfl
      ·exact rfl
      ·exact tr3 <| trivial
      ·exact rfl
instance chunk_Feed_ok (E : Pm.Env) [LaidM E] (a0 : S_Chunked) (a1 : Bytes) : Ok E (chunk_Feed a0 a1) (fun r => FnR E Tryz.prog 33 [S_Chunked.av a0, ss a1] (AV.tup [S_Chunked.av r.1, ss r.2.1, ii r.2.2.1, ii r.2.2.2]) false) := ⟨fun r h => by
 refine FnR.of_ev (T := T) (rows := [9]) tOk mixed Tryz.func33 rfl (by kernel_rfl) (by kernel_rfl) rfl fun hwf => ?_
 unfold chunk_Feed at h
 refine sj <| ai rfl ?_
 refine xi [] (xi 0 (ai ⟨rfl, rfl⟩ ?_))
 refine ai rfl <| sn <| sj <| sj <| ai ⟨lb rfl, lb rfl⟩ ?_
 refine xi none (ai rfl ?_)
 refine nt (S_Chunked.av a0) (fun _ => rfl) <| be h fun x1 hx1 h => cd _ false rfl ((chunk_Right_ok E a0).1 x1 hx1) <| sn ?_
 refine bo h (fun ht h => ?_) fun ht h => ?_
 ·exact W
 ·refine sn <| sj <| ai ⟨lb rfl, lb rfl⟩ ?_
  refine xi none (ai rfl ?_)
  refine nt (S_Chunked.av a0) (fun _ => rfl) <| ai ⟨rfl, rfl, lb rfl⟩ ?_
  refine xi none (ai trivial ?_)
  refine ai rfl ?_
  refine xi [] (xi 0 (ai ⟨rfl, rfl⟩ ?_))
  refine sn <| sj ?_
  refine xi 5 (ai rfl ?_)
  refine sn <| sj <| sn <| sj ?_
  refine LoopE.img (fun x : (Int × S_chunk_state × Bytes) => St.of [⟨1, ss a1, none⟩, ⟨4, AV.ptr 1 0, none⟩, ⟨8, AV.ptr 2 0, none⟩, ⟨9, AV.ptr 3 0, none⟩, ⟨10, ii x.1, none⟩] [.dead, .cells 30 [ii 0, ss [], ii 0, ii 0] [], .cells 93 (S_chunk_state.cells x.2.1) [], .mp (.bld 97 5 x.2.2)] []) (chunk_Feed_b1 a1) ((0 : Int), (S_chunk_state.mk a0 (0 : Int)), ([] : Bytes)) h ?_ ?_
  ·exact W
  intro n1 x y1 h hl1 hr1
  obtain ⟨s2, s3, s4⟩ := x
  unfold chunk_Feed_b1 at h
  dsimp only at h
  refine sj <| sj <| NormE.same <| ai id <| ai id <| ai id <| ai id <| ai id <| ai (fun hg => (and_r hg)) <| sn ?_
  refine bo h (fun ht h => ?_) fun ht h => ?_
  ·refine sn <| sj <| sj <| sn ?_
   refine bo h (fun ht h => ?_) fun ht h => ?_
   ·refine sj <| be h fun x5 hx5 h => ?_
    have qx5 := (slc_some hx5).1
    have hx5e := (slc_some hx5).2
    refine ai (fun _ => qx5) <| nt (ss x5) (fun _ => congrArg ss hx5e.symm) <| be h fun x6 hx6 h => CallH.ren [2] [] [.dead, .cells 30 [ii 0, ss [], ii 0, ii 0] [], .cells 93 (S_chunk_state.cells x6.2) [], .mp (.bld 97 5 s4)] [] (chunk_state_line_ok E s3 x5 x6.1 x6.2 hx6) rfl rfl rfl rfl rfl rfl rfl rfl rfl <| sn <| sj <| sj <| sn ?_
    exact W
   ·refine sn <| sj <| NormE.same <| ai rfl <| sn <| sj <| be h fun x7 hx7 h => ?_
    have qx7 := (slc_some hx7).1
    have hx7e := (slc_some hx7).2
    refine ai (fun _ => qx7) <| nt (ss x7) (fun _ => congrArg ss hx7e.symm) <| be h fun x8 hx8 h => ?_
    have qx8 := (bcat_some hx8).1
    have hx8e := (bcat_some hx8).2
    refine CallH.bldW L166 XB 3 s4 x7 rfl 97 5 rfl rfl [.dead, .cells 30 [ii 0, ss [], ii 0, ii 0] [], .cells 93 (S_chunk_state.cells s3) [], .mp (.bld 97 5 (s4 ++ x7))] [] rfl qx8 rfl rfl <| sn <| sj <| sn <| sj ?_
    refine ai ⟨rfl, rfl, rfl, lb rfl⟩ (xi [ii s3.Chunked.Stage, ss s3.Chunked.Line, ii s3.Chunked.Left, ii (IntKind.i64.wrap (s3.Chunked.Size + (imin s3.Chunked.Left (IntKind.i64.wrap ((a1.length : Int) - s2))))), ii s3.bad] (ai (fun _ => rfl) ?_))
    refine sn <| sj ?_
    refine ai ⟨rfl, rfl, rfl, lb rfl⟩ (xi [ii s3.Chunked.Stage, ss s3.Chunked.Line, ii (IntKind.i64.wrap (s3.Chunked.Left - (imin s3.Chunked.Left (IntKind.i64.wrap ((a1.length : Int) - s2))))), ii (IntKind.i64.wrap (s3.Chunked.Size + (imin s3.Chunked.Left (IntKind.i64.wrap ((a1.length : Int) - s2))))), ii s3.bad] (ai (fun _ => rfl) ?_))
    refine sn <| sj <| sn ?_
    refine bo h (fun ht h => ?_) fun ht h => ?_
    ·exact W
    ·exact W
  ·refine sn <| sj <| Or.inl <| ai ⟨lb rfl, lb rfl⟩ ?_
   refine xi none (ai rfl ?_)
   refine nt (S_Chunked.av s3.Chunked) (fun _ => rfl) <| be h fun x9 hx9 h => ?_
   have qx9 := (bcat_some hx9).1
   have hx9e := (bcat_some hx9).2
   refine CallH.bldS L169 XB 3 s4 rfl 97 5 rfl rfl [.dead, .cells 30 [ii 0, ss [], ii 0, ii 0] [], .cells 93 (S_chunk_state.cells s3) [], .dead] [] rfl qx9 rfl rfl ?_
   exact W⟩
theorem wire_reading_fail_ok (E : Pm.Env) [LaidM E] (o0 : S_wire_reading) (a1 : Int) (r : Bool) (o0' : S_wire_reading) (h : wire_reading_fail o0 a1 = some (r, o0')) : FnW E Tryz.prog 26 [AV.ptr 0 0, ii a1] [.cells 51 (S_wire_reading.cells o0) [(18, 0)]] [1] (bb r) none [.cells 51 (S_wire_reading.cells o0') [(18, 1)]] [0, 1] := by
 refine FnW.of_evB (T := T) (rows := []) tOk mixed Tryz.func26 rfl (by kernel_rfl) (by kernel_rfl) rfl rfl fun hwf => ?_
 unfold wire_reading_fail at h
 refine sj <| sn <| sj <| Or.inl <| ai ⟨rfl, rfl, lb rfl⟩ <| ai ⟨rfl, rfl, lb rfl⟩ <| ai ⟨rfl, rfl, lb rfl⟩ ?_
 refine xi (some 80485752395443136602965282816) (ai (okM.mk (show (80485752395443136602965282816 : Nat) = freeM T _ _ _ from by kernel_rfl)) ?_)
 refine ai ⟨rfl, rfl, rfl, lb rfl⟩ (xi [bb o0.Reader.Asks, ss o0.Reader.Method, ss [], bb false, ss [], ss [], ii 0, ss [], ii 0, AV.list 2 (([] : List S_Field).map S_Field.av), ss [], ii 0, ii 0, ii 0, ss [], ii 0, ii 0, ii a1, AV.list 7 (o0.out.map S_Message.av)] (ai (fun _ => rfl) ?_))
 refine xi [(9, 1), (18, 0)] (xi 1 (ai ⟨(by kernel_rfl), rfl⟩ ?_))
 refine ai (by kernel_rfl) <| sn <| sj <| sn ?_
 replace h := oi h
 have h0 := (Prod.mk.inj h).1
 have h1 := (Prod.mk.inj h).2
 subst h0
 subst h1
 refine xi [⟨4, bb false, none⟩] (xi [.cells 51 [bb o0.Reader.Asks, ss o0.Reader.Method, ss [], bb false, ss [], ss [], ii 0, ss [], ii 0, AV.list 2 (([] : List S_Field).map S_Field.av), ss [], ii 0, ii 0, ii 0, ss [], ii 0, ii 0, ii a1, AV.list 7 (o0.out.map S_Message.av)] [(18, 1)]] (ai rfl (ai (gt _ _ _ [0, 0] ?_ ?_ ?_ rfl rfl ?_) (ai ?_ rfl))))
 ·exact ⟨⟨rfl, rfl, rfl⟩, trivial⟩
 ·exact rfl
 ·exact rfl
 ·exact tr3 <| trivial
 ·exact rfl
theorem wire_reading_more_ok (E : Pm.Env) [LaidM E] (o0 : S_wire_reading) (r : Bool) (o0' : S_wire_reading) (h : wire_reading_more o0 = some (r, o0')) : FnW E Tryz.prog 14 [AV.ptr 0 0] [.cells 51 (S_wire_reading.cells o0) [(18, 0)]] [1] (bb r) none [.cells 51 (S_wire_reading.cells o0') [(18, 1)]] [0, 1] := by
 refine FnW.of_evB (T := T) (rows := [87, 145]) tOk mixed Tryz.func14 rfl (by kernel_rfl) (by kernel_rfl) rfl rfl fun hwf => ?_
 unfold wire_reading_more at h
 refine sj <| sn <| sj <| NormE.same <| sn <| sj <| sj <| sn <| sj <| sn ?_
 refine bo h (fun ht h => ?_) fun ht h => ?_
 ·refine sj <| be h fun x1 hx1 h => CallH.ren [0] [0] [.cells 51 [bb x1.2.Reader.Asks, ss x1.2.Reader.Method, ss x1.2.Reader.Buf, bb x1.2.Reader.In, ss x1.2.Reader.Head.Start.Method, ss x1.2.Reader.Head.Start.Target, ii x1.2.Reader.Head.Start.Code, ss x1.2.Reader.Head.Start.Reason, ii x1.2.Reader.Head.Start.Minor, AV.list 2 (x1.2.Reader.Head.Fields.map S_Field.av), ss x1.2.Reader.Head.Body, ii x1.2.Reader.Body.Kind, ii x1.2.Reader.Body.Size, ii x1.2.Reader.Chunk.Stage, ss x1.2.Reader.Chunk.Line, ii x1.2.Reader.Chunk.Left, ii x1.2.Reader.Chunk.Size, ii x1.2.Reader.Bad, AV.list 7 (x1.2.out.map S_Message.av)] [(18, 1)]] [0, 1] (wire_reading_whole_ok E o0 x1.1 x1.2 hx1) rfl rfl rfl rfl rfl rfl rfl rfl rfl <| sn ?_
  replace h := oi h
  have h0 := (Prod.mk.inj h).1
  have h1 := (Prod.mk.inj h).2
  subst h0
  subst h1
  refine xi [⟨2, bb x1.1, none⟩] (xi [.cells 51 [bb x1.2.Reader.Asks, ss x1.2.Reader.Method, ss x1.2.Reader.Buf, bb x1.2.Reader.In, ss x1.2.Reader.Head.Start.Method, ss x1.2.Reader.Head.Start.Target, ii x1.2.Reader.Head.Start.Code, ss x1.2.Reader.Head.Start.Reason, ii x1.2.Reader.Head.Start.Minor, AV.list 2 (x1.2.Reader.Head.Fields.map S_Field.av), ss x1.2.Reader.Head.Body, ii x1.2.Reader.Body.Kind, ii x1.2.Reader.Body.Size, ii x1.2.Reader.Chunk.Stage, ss x1.2.Reader.Chunk.Line, ii x1.2.Reader.Chunk.Left, ii x1.2.Reader.Chunk.Size, ii x1.2.Reader.Bad, AV.list 7 (x1.2.out.map S_Message.av)] [(18, 1)]] (ai rfl (ai (gt _ _ _ [0, 1] ?_ ?_ ?_ rfl rfl ?_) (ai ?_ rfl))))
  ·exact ⟨⟨rfl, rfl, rfl⟩, trivial⟩
  ·exact rfl
  ·exact rfl
  ·exact tr3 <| trivial
  ·exact rfl
 ·refine sj <| sn ?_
  refine bo h (fun ht h => ?_) fun ht h => ?_
  ·refine sj <| Or.inl <| NormE.same <| ai rfl <| ai (by kernel_rfl) <| sn <| sj <| Or.inl <| be h fun x2 hx2 h => ?_
   have qx2 := (slc_some hx2).1
   have hx2e := (slc_some hx2).2
   refine ai (fun _ => qx2) <| nt (ss x2) (fun _ => congrArg ss hx2e.symm) <| be h fun x3 hx3 h => ?_
   have hx3c := (cat_some hx3).1
   have hx3e := (cat_some hx3).2
   refine ai (fun _ => hx3c) <| nt (ss x3) (fun _ => congrArg ss hx3e.symm) ?_
   refine ai ⟨rfl, rfl, rfl, lb rfl⟩ (xi [bb o0.Reader.Asks, ss o0.Reader.Method, ss o0.Reader.Buf, bb o0.Reader.In, ss o0.Reader.Head.Start.Method, ss o0.Reader.Head.Start.Target, ii o0.Reader.Head.Start.Code, ss o0.Reader.Head.Start.Reason, ii o0.Reader.Head.Start.Minor, AV.list 2 (o0.Reader.Head.Fields.map S_Field.av), ss x3, ii o0.Reader.Body.Kind, ii o0.Reader.Body.Size, ii o0.Reader.Chunk.Stage, ss o0.Reader.Chunk.Line, ii o0.Reader.Chunk.Left, ii o0.Reader.Chunk.Size, ii o0.Reader.Bad, AV.list 7 (o0.out.map S_Message.av)] (ai (fun _ => rfl) ?_))
   refine ai (by kernel_rfl) <| sn <| sj <| be h fun x4 hx4 h => ?_
   have qx4 := (slc_some hx4).1
   have hx4e := (slc_some hx4).2
   refine ai (fun _ => qx4) <| nt (ss x4) (fun _ => congrArg ss hx4e.symm) ?_
   refine ai ⟨rfl, rfl, rfl, lb rfl⟩ (xi [bb o0.Reader.Asks, ss o0.Reader.Method, ss x4, bb o0.Reader.In, ss o0.Reader.Head.Start.Method, ss o0.Reader.Head.Start.Target, ii o0.Reader.Head.Start.Code, ss o0.Reader.Head.Start.Reason, ii o0.Reader.Head.Start.Minor, AV.list 2 (o0.Reader.Head.Fields.map S_Field.av), ss x3, ii o0.Reader.Body.Kind, ii o0.Reader.Body.Size, ii o0.Reader.Chunk.Stage, ss o0.Reader.Chunk.Line, ii o0.Reader.Chunk.Left, ii o0.Reader.Chunk.Size, ii o0.Reader.Bad, AV.list 7 (o0.out.map S_Message.av)] (ai (fun _ => rfl) ?_))
   refine sn <| sj <| Or.inl <| NormE.same ?_
   refine and_of h (fun ht h => ?_) fun ht h => ?_
   ·refine be h fun x5 hx5 h => ai (fun _ => id ht) <| CallH.ren [0] [0] [.cells 51 [bb x5.2.Reader.Asks, ss x5.2.Reader.Method, ss x5.2.Reader.Buf, bb x5.2.Reader.In, ss x5.2.Reader.Head.Start.Method, ss x5.2.Reader.Head.Start.Target, ii x5.2.Reader.Head.Start.Code, ss x5.2.Reader.Head.Start.Reason, ii x5.2.Reader.Head.Start.Minor, AV.list 2 (x5.2.Reader.Head.Fields.map S_Field.av), ss x5.2.Reader.Head.Body, ii x5.2.Reader.Body.Kind, ii x5.2.Reader.Body.Size, ii x5.2.Reader.Chunk.Stage, ss x5.2.Reader.Chunk.Line, ii x5.2.Reader.Chunk.Left, ii x5.2.Reader.Chunk.Size, ii x5.2.Reader.Bad, AV.list 7 (x5.2.out.map S_Message.av)] [(18, 1)]] [0, 1] (wire_reading_whole_ok E (S_wire_reading.mk (S_Reader.mk o0.Reader.Asks o0.Reader.Method x4 o0.Reader.In (S_Message.mk o0.Reader.Head.Start o0.Reader.Head.Fields x3) o0.Reader.Body o0.Reader.Chunk o0.Reader.Bad) o0.out) x5.1 x5.2 hx5) rfl rfl rfl rfl rfl rfl rfl rfl rfl <| ai (by kernel_rfl) <| sn ?_
    replace h := oi h
    have h0 := (Prod.mk.inj h).1
    have h1 := (Prod.mk.inj h).2
    subst h0
    subst h1
    refine xi [⟨2, bb (bif ((x3.length : Int) == o0.Reader.Body.Size) then x5.1 else false), none⟩] (xi [.cells 51 [bb x5.2.Reader.Asks, ss x5.2.Reader.Method, ss x5.2.Reader.Buf, bb x5.2.Reader.In, ss x5.2.Reader.Head.Start.Method, ss x5.2.Reader.Head.Start.Target, ii x5.2.Reader.Head.Start.Code, ss x5.2.Reader.Head.Start.Reason, ii x5.2.Reader.Head.Start.Minor, AV.list 2 (x5.2.Reader.Head.Fields.map S_Field.av), ss x5.2.Reader.Head.Body, ii x5.2.Reader.Body.Kind, ii x5.2.Reader.Body.Size, ii x5.2.Reader.Chunk.Stage, ss x5.2.Reader.Chunk.Line, ii x5.2.Reader.Chunk.Left, ii x5.2.Reader.Chunk.Size, ii x5.2.Reader.Bad, AV.list 7 (x5.2.out.map S_Message.av)] [(18, 1)]] (ai rfl (ai (gt _ _ _ [0, 1] ?_ ?_ ?_ rfl rfl ?_) (ai ?_ rfl))))
    ·exact ⟨⟨rfl, rfl, rfl⟩, trivial⟩
    ·exact rfl
    ·exact rfl
    ·exact tr3 <| trivial
    ·exact rfl
   ·refine xi AV.any <| ai (fun hg => ht.symm.trans hg) <| ai ht <| ai (by kernel_rfl) <| sn ?_
    replace h := oi h
    have h0 := (Prod.mk.inj h).1
    have h1 := (Prod.mk.inj h).2
    subst h0
    subst h1
    refine xi [⟨2, bb false, none⟩] (xi [.cells 51 [bb o0.Reader.Asks, ss o0.Reader.Method, ss x4, bb o0.Reader.In, ss o0.Reader.Head.Start.Method, ss o0.Reader.Head.Start.Target, ii o0.Reader.Head.Start.Code, ss o0.Reader.Head.Start.Reason, ii o0.Reader.Head.Start.Minor, AV.list 2 (o0.Reader.Head.Fields.map S_Field.av), ss x3, ii o0.Reader.Body.Kind, ii o0.Reader.Body.Size, ii o0.Reader.Chunk.Stage, ss o0.Reader.Chunk.Line, ii o0.Reader.Chunk.Left, ii o0.Reader.Chunk.Size, ii o0.Reader.Bad, AV.list 7 (o0.out.map S_Message.av)] [(18, 1)]] (ai rfl (ai (gt _ _ _ [0, 0] ?_ ?_ ?_ rfl rfl ?_) (ai ?_ rfl))))
    ·exact ⟨⟨rfl, rfl, rfl⟩, trivial⟩
    ·exact rfl
    ·exact rfl
    ·exact tr3 <| trivial
    ·exact rfl
  ·refine sj <| sn ?_
   refine bo h (fun ht h => ?_) fun ht h => ?_
   ·refine sj <| Or.inl <| ai ⟨lb rfl, lb rfl⟩ ?_
    refine xi (some 0) (ai (show aggT [(18, 0)] 13 4 = some 0 from by kernel_rfl) ?_)
    refine nt (AV.agg [ii o0.Reader.Chunk.Stage, ss o0.Reader.Chunk.Line, ii o0.Reader.Chunk.Left, ii o0.Reader.Chunk.Size]) (fun _ => rfl) <| be h fun x6 hx6 h => cd _ false rfl ((chunk_Feed_ok E o0.Reader.Chunk o0.Reader.Buf).1 x6 hx6) <| ai rfl ?_
    refine ai ⟨rfl, rfl, rfl, lb rfl⟩ (xi (S_Chunked.cells x6.1) (ai (fun _ => rfl) ?_))
    refine ai (by kernel_rfl) <| sn <| sj <| sj <| sn ?_
    refine bo h (fun ht h => ?_) fun ht h => ?_
    ·refine sj <| be h fun x7 hx7 h => CallH.ren [0] [0] [.cells 51 [bb x7.2.Reader.Asks, ss x7.2.Reader.Method, ss x7.2.Reader.Buf, bb x7.2.Reader.In, ss x7.2.Reader.Head.Start.Method, ss x7.2.Reader.Head.Start.Target, ii x7.2.Reader.Head.Start.Code, ss x7.2.Reader.Head.Start.Reason, ii x7.2.Reader.Head.Start.Minor, AV.list 2 (x7.2.Reader.Head.Fields.map S_Field.av), ss x7.2.Reader.Head.Body, ii x7.2.Reader.Body.Kind, ii x7.2.Reader.Body.Size, ii x7.2.Reader.Chunk.Stage, ss x7.2.Reader.Chunk.Line, ii x7.2.Reader.Chunk.Left, ii x7.2.Reader.Chunk.Size, ii x7.2.Reader.Bad, AV.list 7 (x7.2.out.map S_Message.av)] [(18, 1)], .cells 30 (S_Chunked.cells x6.1) []] [0, 1] (wire_reading_fail_ok E o0 x6.2.2.2 x7.1 x7.2 hx7) rfl rfl rfl rfl rfl rfl rfl rfl rfl <| sn ?_
     replace h := oi h
     have h0 := (Prod.mk.inj h).1
     have h1 := (Prod.mk.inj h).2
     subst h0
     subst h1
     refine xi [⟨2, bb x7.1, none⟩] (xi [.cells 51 [bb x7.2.Reader.Asks, ss x7.2.Reader.Method, ss x7.2.Reader.Buf, bb x7.2.Reader.In, ss x7.2.Reader.Head.Start.Method, ss x7.2.Reader.Head.Start.Target, ii x7.2.Reader.Head.Start.Code, ss x7.2.Reader.Head.Start.Reason, ii x7.2.Reader.Head.Start.Minor, AV.list 2 (x7.2.Reader.Head.Fields.map S_Field.av), ss x7.2.Reader.Head.Body, ii x7.2.Reader.Body.Kind, ii x7.2.Reader.Body.Size, ii x7.2.Reader.Chunk.Stage, ss x7.2.Reader.Chunk.Line, ii x7.2.Reader.Chunk.Left, ii x7.2.Reader.Chunk.Size, ii x7.2.Reader.Bad, AV.list 7 (x7.2.out.map S_Message.av)] [(18, 1)]] (ai rfl (ai (gt _ _ _ [0, 1] ?_ ?_ ?_ rfl rfl ?_) (ai ?_ rfl))))
     ·exact ⟨⟨rfl, rfl, rfl⟩, trivial⟩
     ·exact rfl
     ·exact rfl
     ·exact tr3 <| trivial
     ·exact rfl
    ·refine sn <| sj <| ai ⟨lb rfl, lb rfl⟩ ?_
     refine xi none (ai rfl ?_)
     refine nt (S_Chunked.av x6.1) (fun _ => rfl) ?_
     refine ai ⟨rfl, rfl, rfl, lb rfl⟩ (xi [bb o0.Reader.Asks, ss o0.Reader.Method, ss o0.Reader.Buf, bb o0.Reader.In, ss o0.Reader.Head.Start.Method, ss o0.Reader.Head.Start.Target, ii o0.Reader.Head.Start.Code, ss o0.Reader.Head.Start.Reason, ii o0.Reader.Head.Start.Minor, AV.list 2 (o0.Reader.Head.Fields.map S_Field.av), ss o0.Reader.Head.Body, ii o0.Reader.Body.Kind, ii o0.Reader.Body.Size, ii x6.1.Stage, ss x6.1.Line, ii x6.1.Left, ii x6.1.Size, ii o0.Reader.Bad, AV.list 7 (o0.out.map S_Message.av)] (ai (fun _ => rfl) ?_))
     refine sn <| sj <| be h fun x8 hx8 h => ?_
     have hx8c := (cat_some hx8).1
     have hx8e := (cat_some hx8).2
     refine ai (fun _ => hx8c) <| nt (ss x8) (fun _ => congrArg ss hx8e.symm) ?_
     refine ai ⟨rfl, rfl, rfl, lb rfl⟩ (xi [bb o0.Reader.Asks, ss o0.Reader.Method, ss o0.Reader.Buf, bb o0.Reader.In, ss o0.Reader.Head.Start.Method, ss o0.Reader.Head.Start.Target, ii o0.Reader.Head.Start.Code, ss o0.Reader.Head.Start.Reason, ii o0.Reader.Head.Start.Minor, AV.list 2 (o0.Reader.Head.Fields.map S_Field.av), ss x8, ii o0.Reader.Body.Kind, ii o0.Reader.Body.Size, ii x6.1.Stage, ss x6.1.Line, ii x6.1.Left, ii x6.1.Size, ii o0.Reader.Bad, AV.list 7 (o0.out.map S_Message.av)] (ai (fun _ => rfl) ?_))
     refine sn <| sj <| be h fun x9 hx9 h => ?_
     have qx9 := (slc_some hx9).1
     have hx9e := (slc_some hx9).2
     refine ai (fun _ => qx9) <| nt (ss x9) (fun _ => congrArg ss hx9e.symm) ?_
     refine ai ⟨rfl, rfl, rfl, lb rfl⟩ (xi [bb o0.Reader.Asks, ss o0.Reader.Method, ss x9, bb o0.Reader.In, ss o0.Reader.Head.Start.Method, ss o0.Reader.Head.Start.Target, ii o0.Reader.Head.Start.Code, ss o0.Reader.Head.Start.Reason, ii o0.Reader.Head.Start.Minor, AV.list 2 (o0.Reader.Head.Fields.map S_Field.av), ss x8, ii o0.Reader.Body.Kind, ii o0.Reader.Body.Size, ii x6.1.Stage, ss x6.1.Line, ii x6.1.Left, ii x6.1.Size, ii o0.Reader.Bad, AV.list 7 (o0.out.map S_Message.av)] (ai (fun _ => rfl) ?_))
     refine sn <| sj ?_
     refine and_of h (fun ht h => ?_) fun ht h => ?_
     ·refine be h fun x10 hx10 h => ai (fun _ => id ht) <| CallH.ren [0] [0] [.cells 51 [bb x10.2.Reader.Asks, ss x10.2.Reader.Method, ss x10.2.Reader.Buf, bb x10.2.Reader.In, ss x10.2.Reader.Head.Start.Method, ss x10.2.Reader.Head.Start.Target, ii x10.2.Reader.Head.Start.Code, ss x10.2.Reader.Head.Start.Reason, ii x10.2.Reader.Head.Start.Minor, AV.list 2 (x10.2.Reader.Head.Fields.map S_Field.av), ss x10.2.Reader.Head.Body, ii x10.2.Reader.Body.Kind, ii x10.2.Reader.Body.Size, ii x10.2.Reader.Chunk.Stage, ss x10.2.Reader.Chunk.Line, ii x10.2.Reader.Chunk.Left, ii x10.2.Reader.Chunk.Size, ii x10.2.Reader.Bad, AV.list 7 (x10.2.out.map S_Message.av)] [(18, 1)], .cells 30 (S_Chunked.cells x6.1) []] [0, 1] (wire_reading_whole_ok E (S_wire_reading.mk (S_Reader.mk o0.Reader.Asks o0.Reader.Method x9 o0.Reader.In (S_Message.mk o0.Reader.Head.Start o0.Reader.Head.Fields x8) o0.Reader.Body x6.1 o0.Reader.Bad) o0.out) x10.1 x10.2 hx10) rfl rfl rfl rfl rfl rfl rfl rfl rfl <| sn ?_
      replace h := oi h
      have h0 := (Prod.mk.inj h).1
      have h1 := (Prod.mk.inj h).2
      subst h0
      subst h1
      refine xi [⟨2, bb (bif (x6.1.Stage == (4 : Int)) then x10.1 else false), none⟩] (xi [.cells 51 [bb x10.2.Reader.Asks, ss x10.2.Reader.Method, ss x10.2.Reader.Buf, bb x10.2.Reader.In, ss x10.2.Reader.Head.Start.Method, ss x10.2.Reader.Head.Start.Target, ii x10.2.Reader.Head.Start.Code, ss x10.2.Reader.Head.Start.Reason, ii x10.2.Reader.Head.Start.Minor, AV.list 2 (x10.2.Reader.Head.Fields.map S_Field.av), ss x10.2.Reader.Head.Body, ii x10.2.Reader.Body.Kind, ii x10.2.Reader.Body.Size, ii x10.2.Reader.Chunk.Stage, ss x10.2.Reader.Chunk.Line, ii x10.2.Reader.Chunk.Left, ii x10.2.Reader.Chunk.Size, ii x10.2.Reader.Bad, AV.list 7 (x10.2.out.map S_Message.av)] [(18, 1)]] (ai rfl (ai (gt _ _ _ [0, 1] ?_ ?_ ?_ rfl rfl ?_) (ai ?_ rfl))))
      ·exact ⟨⟨rfl, rfl, rfl⟩, trivial⟩
      ·exact rfl
      ·exact rfl
      ·exact tr3 <| trivial
      ·exact rfl
     ·refine xi AV.any <| ai (fun hg => ht.symm.trans hg) <| ai ht <| sn ?_
      replace h := oi h
      have h0 := (Prod.mk.inj h).1
      have h1 := (Prod.mk.inj h).2
      subst h0
      subst h1
      refine xi [⟨2, bb false, none⟩] (xi [.cells 51 [bb o0.Reader.Asks, ss o0.Reader.Method, ss x9, bb o0.Reader.In, ss o0.Reader.Head.Start.Method, ss o0.Reader.Head.Start.Target, ii o0.Reader.Head.Start.Code, ss o0.Reader.Head.Start.Reason, ii o0.Reader.Head.Start.Minor, AV.list 2 (o0.Reader.Head.Fields.map S_Field.av), ss x8, ii o0.Reader.Body.Kind, ii o0.Reader.Body.Size, ii x6.1.Stage, ss x6.1.Line, ii x6.1.Left, ii x6.1.Size, ii o0.Reader.Bad, AV.list 7 (o0.out.map S_Message.av)] [(18, 1)]] (ai rfl (ai (gt _ _ _ [0, 0] ?_ ?_ ?_ rfl rfl ?_) (ai ?_ rfl))))
      ·exact ⟨⟨rfl, rfl, rfl⟩, trivial⟩
      ·exact rfl
      ·exact rfl
      ·exact tr3 <| trivial
      ·exact rfl
   ·refine sn <| sj <| sj <| Or.inl <| be h fun x11 hx11 h => ?_
    have hx11c := (cat_some hx11).1
    have hx11e := (cat_some hx11).2
    refine ai (fun _ => hx11c) <| nt (ss x11) (fun _ => congrArg ss hx11e.symm) ?_
    refine ai ⟨rfl, rfl, rfl, lb rfl⟩ (xi [bb o0.Reader.Asks, ss o0.Reader.Method, ss o0.Reader.Buf, bb o0.Reader.In, ss o0.Reader.Head.Start.Method, ss o0.Reader.Head.Start.Target, ii o0.Reader.Head.Start.Code, ss o0.Reader.Head.Start.Reason, ii o0.Reader.Head.Start.Minor, AV.list 2 (o0.Reader.Head.Fields.map S_Field.av), ss x11, ii o0.Reader.Body.Kind, ii o0.Reader.Body.Size, ii o0.Reader.Chunk.Stage, ss o0.Reader.Chunk.Line, ii o0.Reader.Chunk.Left, ii o0.Reader.Chunk.Size, ii o0.Reader.Bad, AV.list 7 (o0.out.map S_Message.av)] (ai (fun _ => rfl) ?_))
    refine ai (by kernel_rfl) <| sn <| sj <| NormE.same <| sn ?_
    refine bo h (fun ht h => ?_) fun ht h => ?_
    ·refine sj <| be h fun x12 hx12 h => CallH.ren [0] [0] [.cells 51 [bb x12.2.Reader.Asks, ss x12.2.Reader.Method, ss x12.2.Reader.Buf, bb x12.2.Reader.In, ss x12.2.Reader.Head.Start.Method, ss x12.2.Reader.Head.Start.Target, ii x12.2.Reader.Head.Start.Code, ss x12.2.Reader.Head.Start.Reason, ii x12.2.Reader.Head.Start.Minor, AV.list 2 (x12.2.Reader.Head.Fields.map S_Field.av), ss x12.2.Reader.Head.Body, ii x12.2.Reader.Body.Kind, ii x12.2.Reader.Body.Size, ii x12.2.Reader.Chunk.Stage, ss x12.2.Reader.Chunk.Line, ii x12.2.Reader.Chunk.Left, ii x12.2.Reader.Chunk.Size, ii x12.2.Reader.Bad, AV.list 7 (x12.2.out.map S_Message.av)] [(18, 1)]] [0, 1] (wire_reading_fail_ok E (S_wire_reading.mk (S_Reader.mk o0.Reader.Asks o0.Reader.Method o0.Reader.Buf o0.Reader.In (S_Message.mk o0.Reader.Head.Start o0.Reader.Head.Fields x11) o0.Reader.Body o0.Reader.Chunk o0.Reader.Bad) o0.out) (2 : Int) x12.1 x12.2 hx12) rfl rfl rfl rfl rfl rfl rfl rfl rfl <| sn ?_
     replace h := oi h
     have h0 := (Prod.mk.inj h).1
     have h1 := (Prod.mk.inj h).2
     subst h0
     subst h1
     refine xi [⟨2, bb x12.1, none⟩] (xi [.cells 51 [bb x12.2.Reader.Asks, ss x12.2.Reader.Method, ss x12.2.Reader.Buf, bb x12.2.Reader.In, ss x12.2.Reader.Head.Start.Method, ss x12.2.Reader.Head.Start.Target, ii x12.2.Reader.Head.Start.Code, ss x12.2.Reader.Head.Start.Reason, ii x12.2.Reader.Head.Start.Minor, AV.list 2 (x12.2.Reader.Head.Fields.map S_Field.av), ss x12.2.Reader.Head.Body, ii x12.2.Reader.Body.Kind, ii x12.2.Reader.Body.Size, ii x12.2.Reader.Chunk.Stage, ss x12.2.Reader.Chunk.Line, ii x12.2.Reader.Chunk.Left, ii x12.2.Reader.Chunk.Size, ii x12.2.Reader.Bad, AV.list 7 (x12.2.out.map S_Message.av)] [(18, 1)]] (ai rfl (ai (gt _ _ _ [0, 1] ?_ ?_ ?_ rfl rfl ?_) (ai ?_ rfl))))
     ·exact ⟨⟨rfl, rfl, rfl⟩, trivial⟩
     ·exact rfl
     ·exact rfl
     ·exact tr3 <| trivial
     ·exact rfl
    ·refine sn <| sj ?_
     refine ai ⟨rfl, rfl, rfl, lb rfl⟩ (xi [bb o0.Reader.Asks, ss o0.Reader.Method, ss [], bb o0.Reader.In, ss o0.Reader.Head.Start.Method, ss o0.Reader.Head.Start.Target, ii o0.Reader.Head.Start.Code, ss o0.Reader.Head.Start.Reason, ii o0.Reader.Head.Start.Minor, AV.list 2 (o0.Reader.Head.Fields.map S_Field.av), ss x11, ii o0.Reader.Body.Kind, ii o0.Reader.Body.Size, ii o0.Reader.Chunk.Stage, ss o0.Reader.Chunk.Line, ii o0.Reader.Chunk.Left, ii o0.Reader.Chunk.Size, ii o0.Reader.Bad, AV.list 7 (o0.out.map S_Message.av)] (ai (fun _ => rfl) ?_))
     refine sn <| sj <| sn ?_
     replace h := oi h
     have h0 := (Prod.mk.inj h).1
     have h1 := (Prod.mk.inj h).2
     subst h0
     subst h1
     refine xi [⟨2, bb false, none⟩] (xi [.cells 51 [bb o0.Reader.Asks, ss o0.Reader.Method, ss [], bb o0.Reader.In, ss o0.Reader.Head.Start.Method, ss o0.Reader.Head.Start.Target, ii o0.Reader.Head.Start.Code, ss o0.Reader.Head.Start.Reason, ii o0.Reader.Head.Start.Minor, AV.list 2 (o0.Reader.Head.Fields.map S_Field.av), ss x11, ii o0.Reader.Body.Kind, ii o0.Reader.Body.Size, ii o0.Reader.Chunk.Stage, ss o0.Reader.Chunk.Line, ii o0.Reader.Chunk.Left, ii o0.Reader.Chunk.Size, ii o0.Reader.Bad, AV.list 7 (o0.out.map S_Message.av)] [(18, 1)]] (ai rfl (ai (gt _ _ _ [0, 0] ?_ ?_ ?_ rfl rfl ?_) (ai ?_ rfl))))
     ·exact ⟨⟨rfl, rfl, rfl⟩, trivial⟩
     ·exact rfl
     ·exact rfl
     ·exact tr3 <| trivial
     ·exact rfl
instance stringslite_TrimPrefix_ok (E : Pm.Env) [LaidM E] (a0 : Bytes) (a1 : Bytes) : Ok E (stringslite_TrimPrefix a0 a1) (fun r => FnR E Tryz.prog 43 [ss a0, ss a1] (ss r) false) := ⟨fun r h => by
 refine FnR.of_ev (T := T) (rows := []) tOk mixed Tryz.func43 rfl (by kernel_rfl) (by kernel_rfl) rfl fun hwf => ?_
 unfold stringslite_TrimPrefix at h
 exact W⟩
instance strings_TrimPrefix_ok (E : Pm.Env) [LaidM E] (a0 : Bytes) (a1 : Bytes) : Ok E (strings_TrimPrefix a0 a1) (fun r => FnR E Tryz.prog 24 [ss a0, ss a1] (ss r) false) := ⟨fun r h => by
 refine FnR.of_ev (T := T) (rows := []) tOk mixed Tryz.func24 rfl (by kernel_rfl) (by kernel_rfl) rfl fun hwf => ?_
 unfold strings_TrimPrefix at h
 exact W⟩
instance start_minor_ok (E : Pm.Env) [LaidM E] (a0 : Bytes) : Ok E (start_minor a0) (fun r => FnR E Tryz.prog 48 [ss a0] (ii r) false) := ⟨fun r h => by
 refine FnR.of_ev (T := T) (rows := []) tOk mixed Tryz.func48 rfl (by kernel_rfl) (by kernel_rfl) rfl fun hwf => ?_
 unfold start_minor at h
 exact W⟩
instance start_Parse_ok (E : Pm.Env) [LaidM E] (a0 : Bytes) : Ok E (start_Parse a0) (fun r => FnR E Tryz.prog 29 [ss a0] (AV.tup [S_Start.av r.1, ii r.2]) false) := ⟨fun r h => by
 refine FnR.of_ev (T := T) (rows := []) tOk mixed Tryz.func29 rfl (by kernel_rfl) (by kernel_rfl) rfl fun hwf => ?_
 unfold start_Parse at h
 exact W⟩
instance start_Status_ok (E : Pm.Env) [LaidM E] (a0 : Bytes) : Ok E (start_Status a0) (fun r => FnR E Tryz.prog 28 [ss a0] (AV.tup [S_Start.av r.1, ii r.2]) false) := ⟨fun r h => by
 refine FnR.of_ev (T := T) (rows := []) tOk mixed Tryz.func28 rfl (by kernel_rfl) (by kernel_rfl) rfl fun hwf => ?_
 unfold start_Status at h
 exact W⟩
theorem wire_reading_begin_ok (E : Pm.Env) [LaidM E] (o0 : S_wire_reading) (r : Bool) (o0' : S_wire_reading) (h : wire_reading_begin o0 = some (r, o0')) : FnW E Tryz.prog 13 [AV.ptr 0 0] [.cells 51 (S_wire_reading.cells o0) [(18, 0)]] [1] (bb r) none [.cells 51 (S_wire_reading.cells o0') [(18, 1)]] [0, 1] := by
 refine FnW.of_evB (T := T) (rows := []) tOk mixed Tryz.func13 rfl (by kernel_rfl) (by kernel_rfl) rfl rfl fun hwf => ?_
 unfold wire_reading_begin at h
 refine sj <| sn <| be h fun j1 hj1 h => ?_
 refine SeqJ.join (St.of [⟨0, AV.ptr 0 0, none⟩] [.cells 51 [bb j1.Reader.Asks, ss j1.Reader.Method, ss j1.Reader.Buf, bb j1.Reader.In, ss j1.Reader.Head.Start.Method, ss j1.Reader.Head.Start.Target, ii j1.Reader.Head.Start.Code, ss j1.Reader.Head.Start.Reason, ii j1.Reader.Head.Start.Minor, AV.list 2 (j1.Reader.Head.Fields.map S_Field.av), ss j1.Reader.Head.Body, ii j1.Reader.Body.Kind, ii j1.Reader.Body.Size, ii j1.Reader.Chunk.Stage, ss j1.Reader.Chunk.Line, ii j1.Reader.Chunk.Left, ii j1.Reader.Chunk.Size, ii j1.Reader.Bad, AV.list 7 (j1.out.map S_Message.av)] [(18, 1)]] [0, 1]) ?_ ?_
 ·clear h; have h := hj1; clear hj1
  refine LoopE.img (fun x : S_wire_reading => St.of [⟨0, AV.ptr 0 0, none⟩] [.cells 51 [bb x.Reader.Asks, ss x.Reader.Method, ss x.Reader.Buf, bb x.Reader.In, ss x.Reader.Head.Start.Method, ss x.Reader.Head.Start.Target, ii x.Reader.Head.Start.Code, ss x.Reader.Head.Start.Reason, ii x.Reader.Head.Start.Minor, AV.list 2 (x.Reader.Head.Fields.map S_Field.av), ss x.Reader.Head.Body, ii x.Reader.Body.Kind, ii x.Reader.Body.Size, ii x.Reader.Chunk.Stage, ss x.Reader.Chunk.Line, ii x.Reader.Chunk.Left, ii x.Reader.Chunk.Size, ii x.Reader.Bad, AV.list 7 (x.out.map S_Message.av)] [(18, 1)]] [0, 1]) wire_reading_begin_b1 o0 h ?_ ?_
  ·exact gt _ _ _ [0, 0] (⟨⟨rfl, rfl, rfl⟩, trivial⟩) rfl rfl rfl rfl (tr3 <| trivial)
  intro n1 x y1 h hl1 hr1
  revert h; revert x; intro s2 h
  unfold wire_reading_begin_b1 at h
  refine sj <| sj <| ai id <| ai id <| ai id <| ai id <| be h fun x3 hx3 h => ai id <| ai rfl ?_
  refine CallF.mk _ false (fun hg => (strings_HasPrefix_ok E s2.Reader.Buf ([10] : Bytes)).1 x3 (gcall_some hx3 hg)) (ai rfl ?_)
  refine ai id <| ai id <| ai id <| ai id <| ai id <| be h fun x4 hx4 h => ai id <| ai rfl ?_
  refine CallF.mk _ false (fun hg => (strings_HasPrefix_ok E s2.Reader.Buf ([13, 10] : Bytes)).1 x4 (gcall_some hx4 hg)) (ai rfl ?_)
  refine ai id <| ai id <| ai (fun hg => (and_r hg)) <| sn ?_
  refine bo h (fun ht h => ?_) fun ht h => ?_
  ·refine sn <| be h fun x5 hx5 h => cd _ false rfl ((strings_TrimPrefix_ok E s2.Reader.Buf ([13] : Bytes)).1 x5 hx5) <| be h fun x6 hx6 h => cd _ false rfl ((strings_TrimPrefix_ok E x5 ([10] : Bytes)).1 x6 hx6) ?_
   refine ai ⟨rfl, rfl, rfl, lb rfl⟩ (xi [bb s2.Reader.Asks, ss s2.Reader.Method, ss x6, bb s2.Reader.In, ss s2.Reader.Head.Start.Method, ss s2.Reader.Head.Start.Target, ii s2.Reader.Head.Start.Code, ss s2.Reader.Head.Start.Reason, ii s2.Reader.Head.Start.Minor, AV.list 2 (s2.Reader.Head.Fields.map S_Field.av), ss s2.Reader.Head.Body, ii s2.Reader.Body.Kind, ii s2.Reader.Body.Size, ii s2.Reader.Chunk.Stage, ss s2.Reader.Chunk.Line, ii s2.Reader.Chunk.Left, ii s2.Reader.Chunk.Size, ii s2.Reader.Bad, AV.list 7 (s2.out.map S_Message.av)] (ai (fun _ => rfl) ?_))
   replace h := oi h
   refine xi ⟨(n1, (S_wire_reading.mk (S_Reader.mk s2.Reader.Asks s2.Reader.Method x6 s2.Reader.In s2.Reader.Head s2.Reader.Body s2.Reader.Chunk s2.Reader.Bad) s2.out)), hl1 _ h.symm⟩ (ai (Nat.lt_succ_self _) ?_)
   refine gt _ _ _ [0, 1] ?_ ?_ ?_ rfl rfl ?_
   ·exact ⟨⟨rfl, rfl, rfl⟩, trivial⟩
   ·exact rfl
   ·exact rfl
   ·exact tr3 <| trivial
  ·replace h := oi h
   replace h := hr1 _ h.symm
   subst h
   refine gt _ _ _ [0, 1] ?_ ?_ ?_ rfl rfl ?_
   ·exact ⟨⟨rfl, rfl, rfl⟩, trivial⟩
   ·exact rfl
   ·exact rfl
   ·exact tr3 <| trivial
 ·clear hj1
  refine sj <| be h fun x7 hx7 h => cd _ false rfl (head_End_ok E j1.Reader.Buf x7 hx7) <| sn <| sj <| sj <| sn ?_
  refine bo h (fun ht h => ?_) fun ht h => ?_
  ·refine sj <| sn ?_
   replace h := oi h
   have h0 := (Prod.mk.inj h).1
   have h1 := (Prod.mk.inj h).2
   subst h0
   subst h1
   refine xi [⟨2, bb false, none⟩] (xi [.cells 51 [bb j1.Reader.Asks, ss j1.Reader.Method, ss j1.Reader.Buf, bb j1.Reader.In, ss j1.Reader.Head.Start.Method, ss j1.Reader.Head.Start.Target, ii j1.Reader.Head.Start.Code, ss j1.Reader.Head.Start.Reason, ii j1.Reader.Head.Start.Minor, AV.list 2 (j1.Reader.Head.Fields.map S_Field.av), ss j1.Reader.Head.Body, ii j1.Reader.Body.Kind, ii j1.Reader.Body.Size, ii j1.Reader.Chunk.Stage, ss j1.Reader.Chunk.Line, ii j1.Reader.Chunk.Left, ii j1.Reader.Chunk.Size, ii j1.Reader.Bad, AV.list 7 (j1.out.map S_Message.av)] [(18, 1)]] (ai rfl (ai (gt _ _ _ [0, 1] ?_ ?_ ?_ rfl rfl ?_) (ai ?_ rfl))))
   ·exact ⟨⟨rfl, rfl, rfl⟩, trivial⟩
   ·exact rfl
   ·exact rfl
   ·exact tr3 <| trivial
   ·exact rfl
  ·refine sj <| sn ?_
   refine bo h (fun ht h => ?_) fun ht h => ?_
   ·refine sj <| be h fun x8 hx8 h => CallH.ren [0] [1] [.cells 51 [bb x8.2.Reader.Asks, ss x8.2.Reader.Method, ss x8.2.Reader.Buf, bb x8.2.Reader.In, ss x8.2.Reader.Head.Start.Method, ss x8.2.Reader.Head.Start.Target, ii x8.2.Reader.Head.Start.Code, ss x8.2.Reader.Head.Start.Reason, ii x8.2.Reader.Head.Start.Minor, AV.list 2 (x8.2.Reader.Head.Fields.map S_Field.av), ss x8.2.Reader.Head.Body, ii x8.2.Reader.Body.Kind, ii x8.2.Reader.Body.Size, ii x8.2.Reader.Chunk.Stage, ss x8.2.Reader.Chunk.Line, ii x8.2.Reader.Chunk.Left, ii x8.2.Reader.Chunk.Size, ii x8.2.Reader.Bad, AV.list 7 (x8.2.out.map S_Message.av)] [(18, 2)]] [0, 0, 1] (wire_reading_fail_ok E j1 x7.2 x8.1 x8.2 hx8) rfl rfl rfl rfl rfl rfl rfl rfl rfl <| sn ?_
    replace h := oi h
    have h0 := (Prod.mk.inj h).1
    have h1 := (Prod.mk.inj h).2
    subst h0
    subst h1
    refine xi [⟨2, bb x8.1, none⟩] (xi [.cells 51 [bb x8.2.Reader.Asks, ss x8.2.Reader.Method, ss x8.2.Reader.Buf, bb x8.2.Reader.In, ss x8.2.Reader.Head.Start.Method, ss x8.2.Reader.Head.Start.Target, ii x8.2.Reader.Head.Start.Code, ss x8.2.Reader.Head.Start.Reason, ii x8.2.Reader.Head.Start.Minor, AV.list 2 (x8.2.Reader.Head.Fields.map S_Field.av), ss x8.2.Reader.Head.Body, ii x8.2.Reader.Body.Kind, ii x8.2.Reader.Body.Size, ii x8.2.Reader.Chunk.Stage, ss x8.2.Reader.Chunk.Line, ii x8.2.Reader.Chunk.Left, ii x8.2.Reader.Chunk.Size, ii x8.2.Reader.Bad, AV.list 7 (x8.2.out.map S_Message.av)] [(18, 1)]] (ai rfl (ai (gt _ _ _ [0, 2] ?_ ?_ ?_ rfl rfl ?_) (ai ?_ rfl))))
    ·exact ⟨⟨rfl, rfl, rfl⟩, trivial⟩
    ·exact rfl
    ·exact rfl
    ·exact tr3 <| trivial
    ·exact rfl
   ·refine sn <| sj <| be h fun x9 hx9 h => ?_
    have qx9 := (slc_some hx9).1
    have hx9e := (slc_some hx9).2
    refine ai (fun _ => qx9) <| nt (ss x9) (fun _ => congrArg ss hx9e.symm) <| be h fun x10 hx10 h => cd _ false rfl ((strings_Cut_ok E x9 ([10] : Bytes)).1 x10 hx10) <| sn <| sj <| sn <| sj <| sj <| sn ?_
    refine bo h (fun ht h => ?_) fun ht h => ?_
    ·refine sn <| sj <| sj <| be h fun x11 hx11 h => cd _ false rfl ((strings_TrimSuffix_ok E x10.1 ([13] : Bytes)).1 x11 hx11) <| be h fun x12 hx12 h => cd _ false rfl ((start_Parse_ok E x11).1 x12 hx12) ?_
     refine ai ⟨rfl, rfl, rfl, lb rfl⟩ (xi [bb j1.Reader.Asks, ss j1.Reader.Method, ss j1.Reader.Buf, bb j1.Reader.In, ss x12.1.Method, ss x12.1.Target, ii x12.1.Code, ss x12.1.Reason, ii x12.1.Minor, AV.list 2 (j1.Reader.Head.Fields.map S_Field.av), ss j1.Reader.Head.Body, ii j1.Reader.Body.Kind, ii j1.Reader.Body.Size, ii j1.Reader.Chunk.Stage, ss j1.Reader.Chunk.Line, ii j1.Reader.Chunk.Left, ii j1.Reader.Chunk.Size, ii j1.Reader.Bad, AV.list 7 (j1.out.map S_Message.av)] (ai (fun _ => rfl) ?_))
     refine sn <| sj <| sn ?_
     refine bo h (fun ht h => ?_) fun ht h => ?_
     ·refine sj <| be h fun x13 hx13 h => CallH.ren [0] [1] [.cells 51 [bb x13.2.Reader.Asks, ss x13.2.Reader.Method, ss x13.2.Reader.Buf, bb x13.2.Reader.In, ss x13.2.Reader.Head.Start.Method, ss x13.2.Reader.Head.Start.Target, ii x13.2.Reader.Head.Start.Code, ss x13.2.Reader.Head.Start.Reason, ii x13.2.Reader.Head.Start.Minor, AV.list 2 (x13.2.Reader.Head.Fields.map S_Field.av), ss x13.2.Reader.Head.Body, ii x13.2.Reader.Body.Kind, ii x13.2.Reader.Body.Size, ii x13.2.Reader.Chunk.Stage, ss x13.2.Reader.Chunk.Line, ii x13.2.Reader.Chunk.Left, ii x13.2.Reader.Chunk.Size, ii x13.2.Reader.Bad, AV.list 7 (x13.2.out.map S_Message.av)] [(18, 2)]] [0, 0, 1] (wire_reading_fail_ok E (S_wire_reading.mk (S_Reader.mk j1.Reader.Asks j1.Reader.Method j1.Reader.Buf j1.Reader.In (S_Message.mk x12.1 j1.Reader.Head.Fields j1.Reader.Head.Body) j1.Reader.Body j1.Reader.Chunk j1.Reader.Bad) j1.out) x12.2 x13.1 x13.2 hx13) rfl rfl rfl rfl rfl rfl rfl rfl rfl <| sn ?_
      replace h := oi h
      have h0 := (Prod.mk.inj h).1
      have h1 := (Prod.mk.inj h).2
      subst h0
      subst h1
      refine xi [⟨2, bb x13.1, none⟩] (xi [.cells 51 [bb x13.2.Reader.Asks, ss x13.2.Reader.Method, ss x13.2.Reader.Buf, bb x13.2.Reader.In, ss x13.2.Reader.Head.Start.Method, ss x13.2.Reader.Head.Start.Target, ii x13.2.Reader.Head.Start.Code, ss x13.2.Reader.Head.Start.Reason, ii x13.2.Reader.Head.Start.Minor, AV.list 2 (x13.2.Reader.Head.Fields.map S_Field.av), ss x13.2.Reader.Head.Body, ii x13.2.Reader.Body.Kind, ii x13.2.Reader.Body.Size, ii x13.2.Reader.Chunk.Stage, ss x13.2.Reader.Chunk.Line, ii x13.2.Reader.Chunk.Left, ii x13.2.Reader.Chunk.Size, ii x13.2.Reader.Bad, AV.list 7 (x13.2.out.map S_Message.av)] [(18, 1)]] (ai rfl (ai (gt _ _ _ [0, 2] ?_ ?_ ?_ rfl rfl ?_) (ai ?_ rfl))))
      ·exact ⟨⟨rfl, rfl, rfl⟩, trivial⟩
      ·exact rfl
      ·exact rfl
      ·exact tr3 <| trivial
      ·exact rfl
     ·refine sn <| sj <| be h fun x14 hx14 h => cd _ false rfl ((strings_TrimSuffix_ok E x10.2.1 ([10] : Bytes)).1 x14 hx14) <| be h fun x15 hx15 h => cd _ false rfl ((strings_TrimSuffix_ok E x14 ([13] : Bytes)).1 x15 hx15) <| sn <| sj <| sj <| be h fun x16 hx16 h => cd _ false rfl (head_Parse_ok E x15 x16 hx16) ?_
      refine ai ⟨rfl, rfl, rfl, lb rfl⟩ (xi [bb j1.Reader.Asks, ss j1.Reader.Method, ss j1.Reader.Buf, bb j1.Reader.In, ss x12.1.Method, ss x12.1.Target, ii x12.1.Code, ss x12.1.Reason, ii x12.1.Minor, AV.list 2 (x16.1.map S_Field.av), ss j1.Reader.Head.Body, ii j1.Reader.Body.Kind, ii j1.Reader.Body.Size, ii j1.Reader.Chunk.Stage, ss j1.Reader.Chunk.Line, ii j1.Reader.Chunk.Left, ii j1.Reader.Chunk.Size, ii j1.Reader.Bad, AV.list 7 (j1.out.map S_Message.av)] (ai (fun _ => rfl) ?_))
      refine sn <| sj <| sn ?_
      refine bo h (fun ht h => ?_) fun ht h => ?_
      ·refine sj <| be h fun x17 hx17 h => CallH.ren [0] [1] [.cells 51 [bb x17.2.Reader.Asks, ss x17.2.Reader.Method, ss x17.2.Reader.Buf, bb x17.2.Reader.In, ss x17.2.Reader.Head.Start.Method, ss x17.2.Reader.Head.Start.Target, ii x17.2.Reader.Head.Start.Code, ss x17.2.Reader.Head.Start.Reason, ii x17.2.Reader.Head.Start.Minor, AV.list 2 (x17.2.Reader.Head.Fields.map S_Field.av), ss x17.2.Reader.Head.Body, ii x17.2.Reader.Body.Kind, ii x17.2.Reader.Body.Size, ii x17.2.Reader.Chunk.Stage, ss x17.2.Reader.Chunk.Line, ii x17.2.Reader.Chunk.Left, ii x17.2.Reader.Chunk.Size, ii x17.2.Reader.Bad, AV.list 7 (x17.2.out.map S_Message.av)] [(18, 2)]] [0, 0, 1] (wire_reading_fail_ok E (S_wire_reading.mk (S_Reader.mk j1.Reader.Asks j1.Reader.Method j1.Reader.Buf j1.Reader.In (S_Message.mk x12.1 x16.1 j1.Reader.Head.Body) j1.Reader.Body j1.Reader.Chunk j1.Reader.Bad) j1.out) x16.2 x17.1 x17.2 hx17) rfl rfl rfl rfl rfl rfl rfl rfl rfl <| sn ?_
       replace h := oi h
       have h0 := (Prod.mk.inj h).1
       have h1 := (Prod.mk.inj h).2
       subst h0
       subst h1
       refine xi [⟨2, bb x17.1, none⟩] (xi [.cells 51 [bb x17.2.Reader.Asks, ss x17.2.Reader.Method, ss x17.2.Reader.Buf, bb x17.2.Reader.In, ss x17.2.Reader.Head.Start.Method, ss x17.2.Reader.Head.Start.Target, ii x17.2.Reader.Head.Start.Code, ss x17.2.Reader.Head.Start.Reason, ii x17.2.Reader.Head.Start.Minor, AV.list 2 (x17.2.Reader.Head.Fields.map S_Field.av), ss x17.2.Reader.Head.Body, ii x17.2.Reader.Body.Kind, ii x17.2.Reader.Body.Size, ii x17.2.Reader.Chunk.Stage, ss x17.2.Reader.Chunk.Line, ii x17.2.Reader.Chunk.Left, ii x17.2.Reader.Chunk.Size, ii x17.2.Reader.Bad, AV.list 7 (x17.2.out.map S_Message.av)] [(18, 1)]] (ai rfl (ai (gt _ _ _ [0, 2] ?_ ?_ ?_ rfl rfl ?_) (ai ?_ rfl))))
       ·exact ⟨⟨rfl, rfl, rfl⟩, trivial⟩
       ·exact rfl
       ·exact rfl
       ·exact tr3 <| trivial
       ·exact rfl
      ·refine sn <| sj <| sj <| ai ⟨lb rfl, lb rfl⟩ ?_
       refine xi (some 0) (ai (show aggT [(18, 1)] 0 18 = some 0 from by kernel_rfl) ?_)
       refine nt (AV.agg [bb j1.Reader.Asks, ss j1.Reader.Method, ss j1.Reader.Buf, bb j1.Reader.In, ss x12.1.Method, ss x12.1.Target, ii x12.1.Code, ss x12.1.Reason, ii x12.1.Minor, AV.list 2 (x16.1.map S_Field.av), ss j1.Reader.Head.Body, ii j1.Reader.Body.Kind, ii j1.Reader.Body.Size, ii j1.Reader.Chunk.Stage, ss j1.Reader.Chunk.Line, ii j1.Reader.Chunk.Left, ii j1.Reader.Chunk.Size, ii j1.Reader.Bad]) (fun _ => rfl) <| be h fun x18 hx18 h => cd _ false rfl ((wire_body_ok E (S_Reader.mk j1.Reader.Asks j1.Reader.Method j1.Reader.Buf j1.Reader.In (S_Message.mk x12.1 x16.1 j1.Reader.Head.Body) j1.Reader.Body j1.Reader.Chunk j1.Reader.Bad)).1 x18 hx18) ?_
       refine ai ⟨rfl, rfl, rfl, lb rfl⟩ (xi [bb j1.Reader.Asks, ss j1.Reader.Method, ss j1.Reader.Buf, bb j1.Reader.In, ss x12.1.Method, ss x12.1.Target, ii x12.1.Code, ss x12.1.Reason, ii x12.1.Minor, AV.list 2 (x16.1.map S_Field.av), ss j1.Reader.Head.Body, ii x18.1.Kind, ii x18.1.Size, ii j1.Reader.Chunk.Stage, ss j1.Reader.Chunk.Line, ii j1.Reader.Chunk.Left, ii j1.Reader.Chunk.Size, ii j1.Reader.Bad, AV.list 7 (j1.out.map S_Message.av)] (ai (fun _ => rfl) ?_))
       refine sn <| sj <| sn ?_
       refine bo h (fun ht h => ?_) fun ht h => ?_
       ·refine sj <| be h fun x19 hx19 h => CallH.ren [0] [1] [.cells 51 [bb x19.2.Reader.Asks, ss x19.2.Reader.Method, ss x19.2.Reader.Buf, bb x19.2.Reader.In, ss x19.2.Reader.Head.Start.Method, ss x19.2.Reader.Head.Start.Target, ii x19.2.Reader.Head.Start.Code, ss x19.2.Reader.Head.Start.Reason, ii x19.2.Reader.Head.Start.Minor, AV.list 2 (x19.2.Reader.Head.Fields.map S_Field.av), ss x19.2.Reader.Head.Body, ii x19.2.Reader.Body.Kind, ii x19.2.Reader.Body.Size, ii x19.2.Reader.Chunk.Stage, ss x19.2.Reader.Chunk.Line, ii x19.2.Reader.Chunk.Left, ii x19.2.Reader.Chunk.Size, ii x19.2.Reader.Bad, AV.list 7 (x19.2.out.map S_Message.av)] [(18, 2)]] [0, 0, 1] (wire_reading_fail_ok E (S_wire_reading.mk (S_Reader.mk j1.Reader.Asks j1.Reader.Method j1.Reader.Buf j1.Reader.In (S_Message.mk x12.1 x16.1 j1.Reader.Head.Body) x18.1 j1.Reader.Chunk j1.Reader.Bad) j1.out) x18.2 x19.1 x19.2 hx19) rfl rfl rfl rfl rfl rfl rfl rfl rfl <| sn ?_
        replace h := oi h
        have h0 := (Prod.mk.inj h).1
        have h1 := (Prod.mk.inj h).2
        subst h0
        subst h1
        refine xi [⟨2, bb x19.1, none⟩] (xi [.cells 51 [bb x19.2.Reader.Asks, ss x19.2.Reader.Method, ss x19.2.Reader.Buf, bb x19.2.Reader.In, ss x19.2.Reader.Head.Start.Method, ss x19.2.Reader.Head.Start.Target, ii x19.2.Reader.Head.Start.Code, ss x19.2.Reader.Head.Start.Reason, ii x19.2.Reader.Head.Start.Minor, AV.list 2 (x19.2.Reader.Head.Fields.map S_Field.av), ss x19.2.Reader.Head.Body, ii x19.2.Reader.Body.Kind, ii x19.2.Reader.Body.Size, ii x19.2.Reader.Chunk.Stage, ss x19.2.Reader.Chunk.Line, ii x19.2.Reader.Chunk.Left, ii x19.2.Reader.Chunk.Size, ii x19.2.Reader.Bad, AV.list 7 (x19.2.out.map S_Message.av)] [(18, 1)]] (ai rfl (ai (gt _ _ _ [0, 2] ?_ ?_ ?_ rfl rfl ?_) (ai ?_ rfl))))
        ·exact ⟨⟨rfl, rfl, rfl⟩, trivial⟩
        ·exact rfl
        ·exact rfl
        ·exact tr3 <| trivial
        ·exact rfl
       ·refine sn <| sj <| be h fun x20 hx20 h => ?_
        have qx20 := (slc_some hx20).1
        have hx20e := (slc_some hx20).2
        refine ai (fun _ => qx20) <| nt (ss x20) (fun _ => congrArg ss hx20e.symm) ?_
        refine ai ⟨rfl, rfl, rfl, lb rfl⟩ (xi [bb j1.Reader.Asks, ss j1.Reader.Method, ss x20, bb j1.Reader.In, ss x12.1.Method, ss x12.1.Target, ii x12.1.Code, ss x12.1.Reason, ii x12.1.Minor, AV.list 2 (x16.1.map S_Field.av), ss j1.Reader.Head.Body, ii x18.1.Kind, ii x18.1.Size, ii j1.Reader.Chunk.Stage, ss j1.Reader.Chunk.Line, ii j1.Reader.Chunk.Left, ii j1.Reader.Chunk.Size, ii j1.Reader.Bad, AV.list 7 (j1.out.map S_Message.av)] (ai (fun _ => rfl) ?_))
        refine sn <| sj <| sj <| sn <| sj <| ai id <| ai (fun hg => (and_r hg)) <| sn ?_
        refine bo h (fun ht h => ?_) fun ht h => ?_
        ·refine sj ?_
         refine xi (some 69810262081) (ai (okM.mk (show (69810262081 : Nat) = freeM T _ _ _ from by kernel_rfl)) ?_)
         refine xi none (ai trivial ?_)
         refine ai ⟨rfl, rfl, rfl, lb rfl⟩ (xi [bb j1.Reader.Asks, ss j1.Reader.Method, ss x20, bb j1.Reader.In, ss [], ss [], ii 0, ss [], ii 0, AV.list 2 (([] : List S_Field).map S_Field.av), ss [], ii x18.1.Kind, ii x18.1.Size, ii j1.Reader.Chunk.Stage, ss j1.Reader.Chunk.Line, ii j1.Reader.Chunk.Left, ii j1.Reader.Chunk.Size, ii j1.Reader.Bad, AV.list 7 (j1.out.map S_Message.av)] (ai (fun _ => rfl) ?_))
         refine xi [(9, 2), (18, 1)] (xi 1 (ai ⟨(by kernel_rfl), rfl⟩ ?_))
         refine ai ⟨rfl, rfl, rfl, lb rfl⟩ (xi [bb j1.Reader.Asks, ss j1.Reader.Method, ss x20, bb j1.Reader.In, ss [], ss [], ii 0, ss [], ii 0, AV.list 2 (([] : List S_Field).map S_Field.av), ss [], ii 0, ii 0, ii j1.Reader.Chunk.Stage, ss j1.Reader.Chunk.Line, ii j1.Reader.Chunk.Left, ii j1.Reader.Chunk.Size, ii j1.Reader.Bad, AV.list 7 (j1.out.map S_Message.av)] (ai (fun _ => rfl) ?_))
         refine sn <| sj <| sn ?_
         replace h := oi h
         have h0 := (Prod.mk.inj h).1
         have h1 := (Prod.mk.inj h).2
         subst h0
         subst h1
         refine xi [⟨2, bb true, none⟩] (xi [.cells 51 [bb j1.Reader.Asks, ss j1.Reader.Method, ss x20, bb j1.Reader.In, ss [], ss [], ii 0, ss [], ii 0, AV.list 2 (([] : List S_Field).map S_Field.av), ss [], ii 0, ii 0, ii j1.Reader.Chunk.Stage, ss j1.Reader.Chunk.Line, ii j1.Reader.Chunk.Left, ii j1.Reader.Chunk.Size, ii j1.Reader.Bad, AV.list 7 (j1.out.map S_Message.av)] [(18, 1)]] (ai rfl (ai (gt _ _ _ [0, 1] ?_ ?_ ?_ rfl rfl ?_) (ai ?_ rfl))))
         ·exact ⟨⟨rfl, rfl, rfl⟩, trivial⟩
         ·exact rfl
         ·exact rfl
         ·exact tr3 <| trivial
         ·exact rfl
        ·refine sn <| sj ?_
         refine ai ⟨rfl, rfl, rfl, lb rfl⟩ (xi [bb j1.Reader.Asks, ss j1.Reader.Method, ss x20, bb true, ss x12.1.Method, ss x12.1.Target, ii x12.1.Code, ss x12.1.Reason, ii x12.1.Minor, AV.list 2 (x16.1.map S_Field.av), ss j1.Reader.Head.Body, ii x18.1.Kind, ii x18.1.Size, ii j1.Reader.Chunk.Stage, ss j1.Reader.Chunk.Line, ii j1.Reader.Chunk.Left, ii j1.Reader.Chunk.Size, ii j1.Reader.Bad, AV.list 7 (j1.out.map S_Message.av)] (ai (fun _ => rfl) ?_))
         refine sn <| sj <| sn ?_
         replace h := oi h
         have h0 := (Prod.mk.inj h).1
         have h1 := (Prod.mk.inj h).2
         subst h0
         subst h1
         refine xi [⟨2, bb true, none⟩] (xi [.cells 51 [bb j1.Reader.Asks, ss j1.Reader.Method, ss x20, bb true, ss x12.1.Method, ss x12.1.Target, ii x12.1.Code, ss x12.1.Reason, ii x12.1.Minor, AV.list 2 (x16.1.map S_Field.av), ss j1.Reader.Head.Body, ii x18.1.Kind, ii x18.1.Size, ii j1.Reader.Chunk.Stage, ss j1.Reader.Chunk.Line, ii j1.Reader.Chunk.Left, ii j1.Reader.Chunk.Size, ii j1.Reader.Bad, AV.list 7 (j1.out.map S_Message.av)] [(18, 1)]] (ai rfl (ai (gt _ _ _ [0, 1] ?_ ?_ ?_ rfl rfl ?_) (ai ?_ rfl))))
         ·exact ⟨⟨rfl, rfl, rfl⟩, trivial⟩
         ·exact rfl
         ·exact rfl
         ·exact tr3 <| trivial
         ·exact rfl
    ·refine sn <| sj <| sj <| be h fun x21 hx21 h => cd _ false rfl ((strings_TrimSuffix_ok E x10.1 ([13] : Bytes)).1 x21 hx21) <| be h fun x22 hx22 h => cd _ false rfl ((start_Status_ok E x21).1 x22 hx22) ?_
     refine ai ⟨rfl, rfl, rfl, lb rfl⟩ (xi [bb j1.Reader.Asks, ss j1.Reader.Method, ss j1.Reader.Buf, bb j1.Reader.In, ss x22.1.Method, ss x22.1.Target, ii x22.1.Code, ss x22.1.Reason, ii x22.1.Minor, AV.list 2 (j1.Reader.Head.Fields.map S_Field.av), ss j1.Reader.Head.Body, ii j1.Reader.Body.Kind, ii j1.Reader.Body.Size, ii j1.Reader.Chunk.Stage, ss j1.Reader.Chunk.Line, ii j1.Reader.Chunk.Left, ii j1.Reader.Chunk.Size, ii j1.Reader.Bad, AV.list 7 (j1.out.map S_Message.av)] (ai (fun _ => rfl) ?_))
     refine sn <| sj <| sn ?_
     refine bo h (fun ht h => ?_) fun ht h => ?_
     ·refine sj <| be h fun x23 hx23 h => CallH.ren [0] [1] [.cells 51 [bb x23.2.Reader.Asks, ss x23.2.Reader.Method, ss x23.2.Reader.Buf, bb x23.2.Reader.In, ss x23.2.Reader.Head.Start.Method, ss x23.2.Reader.Head.Start.Target, ii x23.2.Reader.Head.Start.Code, ss x23.2.Reader.Head.Start.Reason, ii x23.2.Reader.Head.Start.Minor, AV.list 2 (x23.2.Reader.Head.Fields.map S_Field.av), ss x23.2.Reader.Head.Body, ii x23.2.Reader.Body.Kind, ii x23.2.Reader.Body.Size, ii x23.2.Reader.Chunk.Stage, ss x23.2.Reader.Chunk.Line, ii x23.2.Reader.Chunk.Left, ii x23.2.Reader.Chunk.Size, ii x23.2.Reader.Bad, AV.list 7 (x23.2.out.map S_Message.av)] [(18, 2)]] [0, 0, 1] (wire_reading_fail_ok E (S_wire_reading.mk (S_Reader.mk j1.Reader.Asks j1.Reader.Method j1.Reader.Buf j1.Reader.In (S_Message.mk x22.1 j1.Reader.Head.Fields j1.Reader.Head.Body) j1.Reader.Body j1.Reader.Chunk j1.Reader.Bad) j1.out) x22.2 x23.1 x23.2 hx23) rfl rfl rfl rfl rfl rfl rfl rfl rfl <| sn ?_
      replace h := oi h
      have h0 := (Prod.mk.inj h).1
      have h1 := (Prod.mk.inj h).2
      subst h0
      subst h1
      refine xi [⟨2, bb x23.1, none⟩] (xi [.cells 51 [bb x23.2.Reader.Asks, ss x23.2.Reader.Method, ss x23.2.Reader.Buf, bb x23.2.Reader.In, ss x23.2.Reader.Head.Start.Method, ss x23.2.Reader.Head.Start.Target, ii x23.2.Reader.Head.Start.Code, ss x23.2.Reader.Head.Start.Reason, ii x23.2.Reader.Head.Start.Minor, AV.list 2 (x23.2.Reader.Head.Fields.map S_Field.av), ss x23.2.Reader.Head.Body, ii x23.2.Reader.Body.Kind, ii x23.2.Reader.Body.Size, ii x23.2.Reader.Chunk.Stage, ss x23.2.Reader.Chunk.Line, ii x23.2.Reader.Chunk.Left, ii x23.2.Reader.Chunk.Size, ii x23.2.Reader.Bad, AV.list 7 (x23.2.out.map S_Message.av)] [(18, 1)]] (ai rfl (ai (gt _ _ _ [0, 2] ?_ ?_ ?_ rfl rfl ?_) (ai ?_ rfl))))
      ·exact ⟨⟨rfl, rfl, rfl⟩, trivial⟩
      ·exact rfl
      ·exact rfl
      ·exact tr3 <| trivial
      ·exact rfl
     ·refine sn <| sj <| be h fun x24 hx24 h => cd _ false rfl ((strings_TrimSuffix_ok E x10.2.1 ([10] : Bytes)).1 x24 hx24) <| be h fun x25 hx25 h => cd _ false rfl ((strings_TrimSuffix_ok E x24 ([13] : Bytes)).1 x25 hx25) <| sn <| sj <| sj <| be h fun x26 hx26 h => cd _ false rfl (head_Parse_ok E x25 x26 hx26) ?_
      refine ai ⟨rfl, rfl, rfl, lb rfl⟩ (xi [bb j1.Reader.Asks, ss j1.Reader.Method, ss j1.Reader.Buf, bb j1.Reader.In, ss x22.1.Method, ss x22.1.Target, ii x22.1.Code, ss x22.1.Reason, ii x22.1.Minor, AV.list 2 (x26.1.map S_Field.av), ss j1.Reader.Head.Body, ii j1.Reader.Body.Kind, ii j1.Reader.Body.Size, ii j1.Reader.Chunk.Stage, ss j1.Reader.Chunk.Line, ii j1.Reader.Chunk.Left, ii j1.Reader.Chunk.Size, ii j1.Reader.Bad, AV.list 7 (j1.out.map S_Message.av)] (ai (fun _ => rfl) ?_))
      refine sn <| sj <| sn ?_
      refine bo h (fun ht h => ?_) fun ht h => ?_
      ·refine sj <| be h fun x27 hx27 h => CallH.ren [0] [1] [.cells 51 [bb x27.2.Reader.Asks, ss x27.2.Reader.Method, ss x27.2.Reader.Buf, bb x27.2.Reader.In, ss x27.2.Reader.Head.Start.Method, ss x27.2.Reader.Head.Start.Target, ii x27.2.Reader.Head.Start.Code, ss x27.2.Reader.Head.Start.Reason, ii x27.2.Reader.Head.Start.Minor, AV.list 2 (x27.2.Reader.Head.Fields.map S_Field.av), ss x27.2.Reader.Head.Body, ii x27.2.Reader.Body.Kind, ii x27.2.Reader.Body.Size, ii x27.2.Reader.Chunk.Stage, ss x27.2.Reader.Chunk.Line, ii x27.2.Reader.Chunk.Left, ii x27.2.Reader.Chunk.Size, ii x27.2.Reader.Bad, AV.list 7 (x27.2.out.map S_Message.av)] [(18, 2)]] [0, 0, 1] (wire_reading_fail_ok E (S_wire_reading.mk (S_Reader.mk j1.Reader.Asks j1.Reader.Method j1.Reader.Buf j1.Reader.In (S_Message.mk x22.1 x26.1 j1.Reader.Head.Body) j1.Reader.Body j1.Reader.Chunk j1.Reader.Bad) j1.out) x26.2 x27.1 x27.2 hx27) rfl rfl rfl rfl rfl rfl rfl rfl rfl <| sn ?_
       replace h := oi h
       have h0 := (Prod.mk.inj h).1
       have h1 := (Prod.mk.inj h).2
       subst h0
       subst h1
       refine xi [⟨2, bb x27.1, none⟩] (xi [.cells 51 [bb x27.2.Reader.Asks, ss x27.2.Reader.Method, ss x27.2.Reader.Buf, bb x27.2.Reader.In, ss x27.2.Reader.Head.Start.Method, ss x27.2.Reader.Head.Start.Target, ii x27.2.Reader.Head.Start.Code, ss x27.2.Reader.Head.Start.Reason, ii x27.2.Reader.Head.Start.Minor, AV.list 2 (x27.2.Reader.Head.Fields.map S_Field.av), ss x27.2.Reader.Head.Body, ii x27.2.Reader.Body.Kind, ii x27.2.Reader.Body.Size, ii x27.2.Reader.Chunk.Stage, ss x27.2.Reader.Chunk.Line, ii x27.2.Reader.Chunk.Left, ii x27.2.Reader.Chunk.Size, ii x27.2.Reader.Bad, AV.list 7 (x27.2.out.map S_Message.av)] [(18, 1)]] (ai rfl (ai (gt _ _ _ [0, 2] ?_ ?_ ?_ rfl rfl ?_) (ai ?_ rfl))))
       ·exact ⟨⟨rfl, rfl, rfl⟩, trivial⟩
       ·exact rfl
       ·exact rfl
       ·exact tr3 <| trivial
       ·exact rfl
      ·refine sn <| sj <| sj <| ai ⟨lb rfl, lb rfl⟩ ?_
       refine xi (some 0) (ai (show aggT [(18, 1)] 0 18 = some 0 from by kernel_rfl) ?_)
       refine nt (AV.agg [bb j1.Reader.Asks, ss j1.Reader.Method, ss j1.Reader.Buf, bb j1.Reader.In, ss x22.1.Method, ss x22.1.Target, ii x22.1.Code, ss x22.1.Reason, ii x22.1.Minor, AV.list 2 (x26.1.map S_Field.av), ss j1.Reader.Head.Body, ii j1.Reader.Body.Kind, ii j1.Reader.Body.Size, ii j1.Reader.Chunk.Stage, ss j1.Reader.Chunk.Line, ii j1.Reader.Chunk.Left, ii j1.Reader.Chunk.Size, ii j1.Reader.Bad]) (fun _ => rfl) <| be h fun x28 hx28 h => cd _ false rfl ((wire_body_ok E (S_Reader.mk j1.Reader.Asks j1.Reader.Method j1.Reader.Buf j1.Reader.In (S_Message.mk x22.1 x26.1 j1.Reader.Head.Body) j1.Reader.Body j1.Reader.Chunk j1.Reader.Bad)).1 x28 hx28) ?_
       refine ai ⟨rfl, rfl, rfl, lb rfl⟩ (xi [bb j1.Reader.Asks, ss j1.Reader.Method, ss j1.Reader.Buf, bb j1.Reader.In, ss x22.1.Method, ss x22.1.Target, ii x22.1.Code, ss x22.1.Reason, ii x22.1.Minor, AV.list 2 (x26.1.map S_Field.av), ss j1.Reader.Head.Body, ii x28.1.Kind, ii x28.1.Size, ii j1.Reader.Chunk.Stage, ss j1.Reader.Chunk.Line, ii j1.Reader.Chunk.Left, ii j1.Reader.Chunk.Size, ii j1.Reader.Bad, AV.list 7 (j1.out.map S_Message.av)] (ai (fun _ => rfl) ?_))
       refine sn <| sj <| sn ?_
       refine bo h (fun ht h => ?_) fun ht h => ?_
       ·refine sj <| be h fun x29 hx29 h => CallH.ren [0] [1] [.cells 51 [bb x29.2.Reader.Asks, ss x29.2.Reader.Method, ss x29.2.Reader.Buf, bb x29.2.Reader.In, ss x29.2.Reader.Head.Start.Method, ss x29.2.Reader.Head.Start.Target, ii x29.2.Reader.Head.Start.Code, ss x29.2.Reader.Head.Start.Reason, ii x29.2.Reader.Head.Start.Minor, AV.list 2 (x29.2.Reader.Head.Fields.map S_Field.av), ss x29.2.Reader.Head.Body, ii x29.2.Reader.Body.Kind, ii x29.2.Reader.Body.Size, ii x29.2.Reader.Chunk.Stage, ss x29.2.Reader.Chunk.Line, ii x29.2.Reader.Chunk.Left, ii x29.2.Reader.Chunk.Size, ii x29.2.Reader.Bad, AV.list 7 (x29.2.out.map S_Message.av)] [(18, 2)]] [0, 0, 1] (wire_reading_fail_ok E (S_wire_reading.mk (S_Reader.mk j1.Reader.Asks j1.Reader.Method j1.Reader.Buf j1.Reader.In (S_Message.mk x22.1 x26.1 j1.Reader.Head.Body) x28.1 j1.Reader.Chunk j1.Reader.Bad) j1.out) x28.2 x29.1 x29.2 hx29) rfl rfl rfl rfl rfl rfl rfl rfl rfl <| sn ?_
        replace h := oi h
        have h0 := (Prod.mk.inj h).1
        have h1 := (Prod.mk.inj h).2
        subst h0
        subst h1
        refine xi [⟨2, bb x29.1, none⟩] (xi [.cells 51 [bb x29.2.Reader.Asks, ss x29.2.Reader.Method, ss x29.2.Reader.Buf, bb x29.2.Reader.In, ss x29.2.Reader.Head.Start.Method, ss x29.2.Reader.Head.Start.Target, ii x29.2.Reader.Head.Start.Code, ss x29.2.Reader.Head.Start.Reason, ii x29.2.Reader.Head.Start.Minor, AV.list 2 (x29.2.Reader.Head.Fields.map S_Field.av), ss x29.2.Reader.Head.Body, ii x29.2.Reader.Body.Kind, ii x29.2.Reader.Body.Size, ii x29.2.Reader.Chunk.Stage, ss x29.2.Reader.Chunk.Line, ii x29.2.Reader.Chunk.Left, ii x29.2.Reader.Chunk.Size, ii x29.2.Reader.Bad, AV.list 7 (x29.2.out.map S_Message.av)] [(18, 1)]] (ai rfl (ai (gt _ _ _ [0, 2] ?_ ?_ ?_ rfl rfl ?_) (ai ?_ rfl))))
        ·exact ⟨⟨rfl, rfl, rfl⟩, trivial⟩
        ·exact rfl
        ·exact rfl
        ·exact tr3 <| trivial
        ·exact rfl
       ·refine sn <| sj <| be h fun x30 hx30 h => ?_
        have qx30 := (slc_some hx30).1
        have hx30e := (slc_some hx30).2
        refine ai (fun _ => qx30) <| nt (ss x30) (fun _ => congrArg ss hx30e.symm) ?_
        refine ai ⟨rfl, rfl, rfl, lb rfl⟩ (xi [bb j1.Reader.Asks, ss j1.Reader.Method, ss x30, bb j1.Reader.In, ss x22.1.Method, ss x22.1.Target, ii x22.1.Code, ss x22.1.Reason, ii x22.1.Minor, AV.list 2 (x26.1.map S_Field.av), ss j1.Reader.Head.Body, ii x28.1.Kind, ii x28.1.Size, ii j1.Reader.Chunk.Stage, ss j1.Reader.Chunk.Line, ii j1.Reader.Chunk.Left, ii j1.Reader.Chunk.Size, ii j1.Reader.Bad, AV.list 7 (j1.out.map S_Message.av)] (ai (fun _ => rfl) ?_))
        refine sn <| sj <| sj <| sn <| sj <| ai id <| ai (fun hg => (and_r hg)) <| sn ?_
        refine bo h (fun ht h => ?_) fun ht h => ?_
        ·refine sj ?_
         refine xi (some 69810262081) (ai (okM.mk (show (69810262081 : Nat) = freeM T _ _ _ from by kernel_rfl)) ?_)
         refine xi none (ai trivial ?_)
         refine ai ⟨rfl, rfl, rfl, lb rfl⟩ (xi [bb j1.Reader.Asks, ss j1.Reader.Method, ss x30, bb j1.Reader.In, ss [], ss [], ii 0, ss [], ii 0, AV.list 2 (([] : List S_Field).map S_Field.av), ss [], ii x28.1.Kind, ii x28.1.Size, ii j1.Reader.Chunk.Stage, ss j1.Reader.Chunk.Line, ii j1.Reader.Chunk.Left, ii j1.Reader.Chunk.Size, ii j1.Reader.Bad, AV.list 7 (j1.out.map S_Message.av)] (ai (fun _ => rfl) ?_))
         refine xi [(9, 2), (18, 1)] (xi 1 (ai ⟨(by kernel_rfl), rfl⟩ ?_))
         refine ai ⟨rfl, rfl, rfl, lb rfl⟩ (xi [bb j1.Reader.Asks, ss j1.Reader.Method, ss x30, bb j1.Reader.In, ss [], ss [], ii 0, ss [], ii 0, AV.list 2 (([] : List S_Field).map S_Field.av), ss [], ii 0, ii 0, ii j1.Reader.Chunk.Stage, ss j1.Reader.Chunk.Line, ii j1.Reader.Chunk.Left, ii j1.Reader.Chunk.Size, ii j1.Reader.Bad, AV.list 7 (j1.out.map S_Message.av)] (ai (fun _ => rfl) ?_))
         refine sn <| sj <| sn ?_
         replace h := oi h
         have h0 := (Prod.mk.inj h).1
         have h1 := (Prod.mk.inj h).2
         subst h0
         subst h1
         refine xi [⟨2, bb true, none⟩] (xi [.cells 51 [bb j1.Reader.Asks, ss j1.Reader.Method, ss x30, bb j1.Reader.In, ss [], ss [], ii 0, ss [], ii 0, AV.list 2 (([] : List S_Field).map S_Field.av), ss [], ii 0, ii 0, ii j1.Reader.Chunk.Stage, ss j1.Reader.Chunk.Line, ii j1.Reader.Chunk.Left, ii j1.Reader.Chunk.Size, ii j1.Reader.Bad, AV.list 7 (j1.out.map S_Message.av)] [(18, 1)]] (ai rfl (ai (gt _ _ _ [0, 1] ?_ ?_ ?_ rfl rfl ?_) (ai ?_ rfl))))
         ·exact ⟨⟨rfl, rfl, rfl⟩, trivial⟩
         ·exact rfl
         ·exact rfl
         ·exact tr3 <| trivial
         ·exact rfl
        ·refine sn <| sj ?_
         refine ai ⟨rfl, rfl, rfl, lb rfl⟩ (xi [bb j1.Reader.Asks, ss j1.Reader.Method, ss x30, bb true, ss x22.1.Method, ss x22.1.Target, ii x22.1.Code, ss x22.1.Reason, ii x22.1.Minor, AV.list 2 (x26.1.map S_Field.av), ss j1.Reader.Head.Body, ii x28.1.Kind, ii x28.1.Size, ii j1.Reader.Chunk.Stage, ss j1.Reader.Chunk.Line, ii j1.Reader.Chunk.Left, ii j1.Reader.Chunk.Size, ii j1.Reader.Bad, AV.list 7 (j1.out.map S_Message.av)] (ai (fun _ => rfl) ?_))
         refine sn <| sj <| sn ?_
         replace h := oi h
         have h0 := (Prod.mk.inj h).1
         have h1 := (Prod.mk.inj h).2
         subst h0
         subst h1
         refine xi [⟨2, bb true, none⟩] (xi [.cells 51 [bb j1.Reader.Asks, ss j1.Reader.Method, ss x30, bb true, ss x22.1.Method, ss x22.1.Target, ii x22.1.Code, ss x22.1.Reason, ii x22.1.Minor, AV.list 2 (x26.1.map S_Field.av), ss j1.Reader.Head.Body, ii x28.1.Kind, ii x28.1.Size, ii j1.Reader.Chunk.Stage, ss j1.Reader.Chunk.Line, ii j1.Reader.Chunk.Left, ii j1.Reader.Chunk.Size, ii j1.Reader.Bad, AV.list 7 (j1.out.map S_Message.av)] [(18, 1)]] (ai rfl (ai (gt _ _ _ [0, 1] ?_ ?_ ?_ rfl rfl ?_) (ai ?_ rfl))))
         ·exact ⟨⟨rfl, rfl, rfl⟩, trivial⟩
         ·exact rfl
         ·exact rfl
         ·exact tr3 <| trivial
         ·exact rfl
end Go.Proofs.YtdnjgojkpfbimaaGreatDoor
