/-
  The functions do what their images say: walks, written by a program of mine (gen.py).
-/
import Derived.Test.YtommkfooolabhaaGreatDoorIw1
import Derived.Test.YtommkfooolabhaaGreatDoorGh1
import Derived.Test.YtommkfooolabhaaGreatDoorPm31
namespace Go.Proofs.YtommkfooolabhaaGreatDoor
open Go Go.Pm
set_option linter.unusedSimpArgs false
open And renaming intro -> ai
open Exists renaming intro -> xi
open Option.some renaming inj -> oi
open _root_.Nat renaming le_of_ble_eq_true -> lb
open Go.Pm.SeqJ renaming go -> sj
open Go.Pm.SeqN renaming go -> sn
set_option maxRecDepth 100000
set_option maxHeartbeats 4000000
set_option linter.unusedVariables false
instance head_End_ok_i (E : Pm.Env) [LaidM E] (a0 : Bytes) : Ok E (head_End a0) (fun r => FnR E Tryz.prog 101 [ss a0] (AV.tup [ii r.1, ii r.2]) false) := ⟨head_End_ok E a0⟩
instance head_Parse_ok_i (E : Pm.Env) [LaidM E] (a0 : Bytes) : Ok E (head_Parse a0) (fun r => FnR E Tryz.prog 107 [ss a0] (AV.tup [AV.list 2 (r.1.map S_Field.av), ii r.2]) false) := ⟨head_Parse_ok E a0⟩
instance : Enc S_Fetch S_Fetch.av := ⟨trivial⟩
instance : Enc S_Start S_Start.av := ⟨trivial⟩
instance : Enc S_Message S_Message.av := ⟨trivial⟩
instance : Enc S_Body S_Body.av := ⟨trivial⟩
instance : Enc S_Chunked S_Chunked.av := ⟨trivial⟩
instance : Enc S_Reader S_Reader.av := ⟨trivial⟩
instance : Enc S_Conn S_Conn.av := ⟨trivial⟩
instance : Enc S_Up S_Up.av := ⟨trivial⟩
instance : Enc S_Act S_Act.av := ⟨trivial⟩
instance : Enc S_wire_reading S_wire_reading.av := ⟨trivial⟩
instance : Enc S_chunk_state S_chunk_state.av := ⟨trivial⟩
theorem intarsialaw22_few_ok (E : Pm.Env) [LaidM E] (a0 : S_Fetch) (r : S_Fetch) (h : intarsialaw22_few a0 = some r) : FnR E Tryz.prog 9 [S_Fetch.av a0] (S_Fetch.av r) false := by
 refine FnR.of_ev (T := T) (rows := []) tOk mixed Tryz.func9 rfl (by kernel_rfl) (by kernel_rfl) rfl fun hwf => ?_
 unfold intarsialaw22_few at h
 exact W
instance intarsialaw22_few_ok_i (E : Pm.Env) [LaidM E] (a0 : S_Fetch) : Ok E (intarsialaw22_few a0) (fun r => FnR E Tryz.prog 9 [S_Fetch.av a0] (S_Fetch.av r) false) := ⟨intarsialaw22_few_ok E a0⟩
instance upstream_to_ok (E : Pm.Env) [LaidM E] (a0 : Bytes) : Ok E (upstream_to a0) (fun r => FnR E Tryz.prog 74 [ss a0] (AV.fn 122 [] [AV.iptr [ss r]]) false) := ⟨fun r h => by
 refine FnR.of_ev (T := T) (rows := []) tOk mixed Tryz.func74 rfl (by kernel_rfl) (by kernel_rfl) rfl fun hwf => ?_
 unfold upstream_to at h
 refine sj <| ai rfl ?_
 refine xi [] (xi 0 (ai ⟨rfl, rfl⟩ ?_))
 refine sn <| sj <| sn ?_
 replace h := oi h
 refine RetE.frz ?_
 exact xi _ (ai (Frz.fn1 (Frz.ptrD rfl rfl (lb rfl))) (ai (congrArg (fun r : Bytes => AV.fn 122 [] [AV.iptr [ss r]]) h) rfl))⟩
theorem upstream_count_ok (E : Pm.Env) [LaidM E] (a0 : (List S_Conn)) (a1 : FuncId) (a1c : List AV) (a1i : S_Conn -> Option Bool) (a1h : ∀ (x0 : S_Conn) (r : Bool), a1i x0 = some r -> FnR E Tryz.prog a1 ([S_Conn.av x0] ++ a1c) (bb r) false) (a1p : a1c.all AV.puB = true) (r : Int) (h : upstream_count a0 a1i = some r) : FnR E Tryz.prog 77 [AV.list 29 (a0.map S_Conn.av), AV.fn a1 [] a1c] (ii r) false := by
 refine FnR.of_ev (T := T) (rows := []) tOk mixed Tryz.func77 rfl (by kernel_rfl) (by kernel_rfl) rfl fun hwf => ?_
 unfold upstream_count at h
 refine sj <| sn <| sj <| sn <| bind_elim h fun j1 hj1 h => ?_
 refine SeqJ.join (St.of [⟨5, ii j1, none⟩] [] []) ?_ ?_
 ·clear h; have h := hj1; clear hj1
  refine sj <| NormE.to (ii (a0.length : Int)) (fun _ => len_list S_Conn.av a0) <| sn ?_
  refine LoopE.img (fun x : (Int × Int) => St.of [⟨1, AV.fn a1 [] a1c, none⟩, ⟨5, ii x.1, none⟩, ⟨8, AV.list 29 (a0.map S_Conn.av), none⟩, ⟨9, ii (a0.length : Int), none⟩, ⟨10, ii x.2, none⟩] [] []) (upstream_count_b1 a0 a1i) ((0 : Int), (0 : Int)) h ?_ ?_
  ·refine Gho.to _ _ _ [] ?_ ?_ ?_ rfl rfl ?_
   ·exact trivial
   ·exact rfl
   ·exact rfl
   ·exact ⟨rfl, (noB_fn a1p _), trivial, rfl, rfl, trivial, rfl, rfl, trivial, rfl, rfl, trivial, rfl, rfl, trivial, trivial⟩
  intro n1 x y1 h hl1 hr1
  obtain ⟨s2, s3⟩ := x
  unfold upstream_count_b1 at h
  dsimp only at h
  refine sj <| sn <| sj ?_
  refine Br.of h (fun ht h => ?_) fun ht h => ?_
  ·refine sn <| sj <| sj <| bind_elim h fun x4 hx4 h => ?_
   refine ai rfl (xi (S_Conn.av x4) (ai (fun hg => idx_map _ hx4) ?_))
   refine ai (lb rfl) <| NormE.to (S_Conn.av x4) (fun _ => rfl) <| ai rfl ?_
   refine ai ⟨rfl, rfl, rfl, lb rfl⟩ (xi (S_Conn.cells x4) (ai (fun _ => rfl) ?_))
   refine sn <| sj <| ai ⟨lb rfl, lb rfl⟩ ?_
   refine xi none (ai rfl ?_)
   refine NormE.to (S_Conn.av x4) (fun _ => rfl) <| bind_elim h fun x5 hx5 h => CallH.data _ false (puD_app rfl (puD_of a1p)) (a1h x4 x5 hx5) <| sn ?_
   refine Br.of h (fun ht h => ?_) fun ht h => ?_
   ·refine sn ?_
    replace h := oi h
    refine xi ⟨(n1, ((IntKind.i64.wrap (s2 + (1 : Int))), (IntKind.i64.wrap (s3 + (1 : Int))))), hl1 _ h.symm⟩ (ai (Nat.lt_succ_self _) ?_)
    refine Gho.to _ _ _ [] ?_ ?_ ?_ rfl rfl ?_
    ·exact trivial
    ·exact rfl
    ·exact rfl
    ·exact ⟨rfl, (noB_fn a1p _), trivial, rfl, rfl, trivial, rfl, rfl, trivial, rfl, rfl, trivial, rfl, rfl, trivial, trivial⟩
   ·refine sn ?_
    replace h := oi h
    refine xi ⟨(n1, (s2, (IntKind.i64.wrap (s3 + (1 : Int))))), hl1 _ h.symm⟩ (ai (Nat.lt_succ_self _) ?_)
    refine Gho.to _ _ _ [] ?_ ?_ ?_ rfl rfl ?_
    ·exact W
    ·exact rfl
    ·exact rfl
    ·exact ⟨rfl, (noB_fn a1p _), trivial, rfl, rfl, trivial, rfl, rfl, trivial, rfl, rfl, trivial, rfl, rfl, trivial, trivial⟩
  ·exact W
 ·clear hj1
  exact W
instance upstream_idle_ok (E : Pm.Env) [LaidM E] (a0 : S_Conn) : Ok E (upstream_idle a0) (fun r => FnR E Tryz.prog 37 [S_Conn.av a0] (bb r) false) := ⟨fun r h => by
 refine FnR.of_ev (T := T) (rows := []) tOk mixed Tryz.func37 rfl (by kernel_rfl) (by kernel_rfl) rfl fun hwf => ?_
 unfold upstream_idle at h
 exact W⟩
theorem upstream_free_1_ok (E : Pm.Env) [LaidM E] (a0 : S_Conn) (c0 : FuncId) (c0c : List AV) (c0i : S_Conn -> Option Bool) (c0h : ∀ (x0 : S_Conn) (r : Bool), c0i x0 = some r -> FnR E Tryz.prog c0 ([S_Conn.av x0] ++ c0c) (bb r) false) (c0p : c0c.all AV.puB = true) (r : Bool) (h : upstream_free_1 a0 c0i = some r) : FnR E Tryz.prog 97 [S_Conn.av a0, AV.iptr [AV.fn c0 [] c0c]] (bb r) false := by
 refine FnR.of_ev (T := T) (rows := []) tOk mixed Tryz.func97 rfl (by kernel_rfl) (by kernel_rfl) rfl fun hwf => ?_
 unfold upstream_free_1 at h
 refine sj <| ai rfl ?_
 refine xi [] (xi 0 (ai ⟨rfl, rfl⟩ ?_))
 refine sn <| sj <| ai ⟨lb rfl, lb rfl⟩ ?_
 refine xi none (ai rfl ?_)
 refine NormE.to (S_Conn.av a0) (fun _ => rfl) <| bind_elim h fun x1 hx1 h => CallH.data _ false (puD_app rfl (puD_of c0p)) (c0h a0 x1 hx1) <| ai ⟨lb rfl, lb rfl⟩ ?_
 refine xi none (ai rfl ?_)
 refine NormE.to (S_Conn.av a0) (fun _ => rfl) <| bind_elim h fun x2 hx2 h => ai id <| ai rfl ?_
 refine CallF.mk _ false (fun hg => (upstream_idle_ok E a0).1 x2 (gcall_some hx2 hg)) (ai rfl ?_)
 refine ai (fun hg => (and_r hg)) <| sn ?_
 replace h := oi h
 refine RetE.plain ?_
 subst h; exact ai rfl (ai rfl rfl)
instance upstream_to_1_ok (E : Pm.Env) [LaidM E] (a0 : S_Conn) (c0 : Bytes) : Ok E (upstream_to_1 a0 c0) (fun r => FnR E Tryz.prog 122 [S_Conn.av a0, AV.iptr [ss c0]] (bb r) false) := ⟨fun r h => by
 refine FnR.of_ev (T := T) (rows := []) tOk mixed Tryz.func122 rfl (by kernel_rfl) (by kernel_rfl) rfl fun hwf => ?_
 unfold upstream_to_1 at h
 exact W⟩
instance upstream_free_ok (E : Pm.Env) [LaidM E] (a0 : (List S_Conn)) (a1 : Bytes) : Ok E (upstream_free a0 a1) (fun r => FnR E Tryz.prog 55 [AV.list 29 (a0.map S_Conn.av), ss a1] (AV.tup [ii r.1, ii r.2]) false) := ⟨fun r h => by
 refine FnR.of_ev (T := T) (rows := []) tOk mixed Tryz.func55 rfl (by kernel_rfl) (by kernel_rfl) rfl fun hwf => ?_
 unfold upstream_free at h
 refine sj <| sn <| sj <| bind_elim h fun x1 hx1 h => CallH.data _ false rfl ((upstream_to_ok E a1).1 x1 hx1) <| ai rfl ?_
 refine ai ⟨rfl, rfl, rfl, lb rfl⟩ (xi [AV.fn 122 [] [AV.iptr [ss x1]]] (ai (fun _ => rfl) ?_))
 refine sn <| sj <| Or.inl <| bind_elim h fun x2 hx2 h => CallH.lend [0] _ _ _ rfl (upstream_count_ok E a0 97 [AV.iptr [AV.fn 122 [] [AV.iptr [ss x1]]]] (fun x0 => upstream_free_1 x0 (fun x0 => upstream_to_1 x0 x1)) (fun x0 r h => upstream_free_1_ok E x0 122 [AV.iptr [ss x1]] (fun x0 => upstream_to_1 x0 x1) (fun x0 r h => (upstream_to_1_ok E x0 x1).1 r h) rfl r h) rfl x2 hx2) (Lend.of [0] ⟨Frz.pure _ (AV.puD_ok rfl), Frz.fn1 (Frz.ptrD rfl rfl (lb rfl)), trivial⟩) <| bind_elim h fun x3 hx3 h => CallH.data _ false rfl (upstream_count_ok E a0 122 [AV.iptr [ss x1]] (fun x0 => upstream_to_1 x0 x1) (fun x0 r h => (upstream_to_1_ok E x0 x1).1 r h) rfl x3 hx3) <| ai (by kernel_rfl) <| sn ?_
 exact W⟩
instance wire_empty_ok (E : Pm.Env) [LaidM E] (a0 : S_Message) : Ok E (wire_empty a0) (fun r => FnR E Tryz.prog 128 [S_Message.av a0] (bb r) false) := ⟨fun r h => by
 refine FnR.of_ev (T := T) (rows := []) tOk mixed Tryz.func128 rfl (by kernel_rfl) (by kernel_rfl) rfl fun hwf => ?_
 unfold wire_empty at h
 exact W⟩
instance wire_bare_ok (E : Pm.Env) [LaidM E] (a0 : S_Reader) : Ok E (wire_bare a0) (fun r => FnR E Tryz.prog 94 [S_Reader.av a0] (bb r) false) := ⟨fun r h => by
 refine FnR.of_ev (T := T) (rows := []) tOk mixed Tryz.func94 rfl (by kernel_rfl) (by kernel_rfl) rfl fun hwf => ?_
 unfold wire_bare at h
 exact W⟩
instance stringslite_HasPrefix_ok (E : Pm.Env) [LaidM E] (a0 : Bytes) (a1 : Bytes) : Ok E (stringslite_HasPrefix a0 a1) (fun r => FnR E Tryz.prog 132 [ss a0, ss a1] (bb r) false) := ⟨fun r h => by
 refine FnR.of_ev (T := T) (rows := []) tOk mixed Tryz.func132 rfl (by kernel_rfl) (by kernel_rfl) rfl fun hwf => ?_
 unfold stringslite_HasPrefix at h
 exact W⟩
instance strings_HasPrefix_ok (E : Pm.Env) [LaidM E] (a0 : Bytes) (a1 : Bytes) : Ok E (strings_HasPrefix a0 a1) (fun r => FnR E Tryz.prog 99 [ss a0, ss a1] (bb r) false) := ⟨fun r h => by
 refine FnR.of_ev (T := T) (rows := []) tOk mixed Tryz.func99 rfl (by kernel_rfl) (by kernel_rfl) rfl fun hwf => ?_
 unfold strings_HasPrefix at h
 exact W⟩
instance start_target_1_ok (E : Pm.Env) [LaidM E] (a0 : Int) : Ok E (start_target_1 a0) (fun r => FnR E Tryz.prog 178 [AV.int .u8 a0] (bb r) false) := ⟨fun r h => by
 refine FnR.of_ev (T := T) (rows := []) tOk mixed Tryz.func178 rfl (by kernel_rfl) (by kernel_rfl) rfl fun hwf => ?_
 unfold start_target_1 at h
 exact W⟩
instance start_target_ok (E : Pm.Env) [LaidM E] (a0 : Bytes) : Ok E (start_target a0) (fun r => FnR E Tryz.prog 144 [ss a0] (bb r) false) := ⟨fun r h => by
 refine FnR.of_ev (T := T) (rows := []) tOk mixed Tryz.func144 rfl (by kernel_rfl) (by kernel_rfl) rfl fun hwf => ?_
 unfold start_target at h
 refine sj <| sn <| sj <| sn <| sj <| sj <| sn ?_
 refine Br.of h (fun ht h => ?_) fun ht h => ?_
 ·exact W
 ·refine sn <| sj <| bind_elim h fun x1 hx1 h => CallH.data _ false rfl ((strings_HasPrefix_ok E a0 ([47] : Bytes)).1 x1 hx1) <| bind_elim h fun x2 hx2 h => ai id <| ai rfl ?_
  refine CallF.mk _ false (fun hg => (strings_HasPrefix_ok E a0 ([104, 116, 116, 112, 58, 47, 47] : Bytes)).1 x2 (gcall_some hx2 hg)) (ai rfl ?_)
  refine ai (fun hg => (and_r hg)) <| ai id <| NormE.same <| ai id <| ai (fun hg => (and_r hg)) <| ai id <| ai ⟨rfl, rfl⟩ <| bind_elim h fun x3 hx3 h => ai id <| ai id <| ai rfl ?_
  refine CallF.mk _ false (fun hg => slices_ContainsFunc__byte_byte_ok E a0 178 [] (fun x0 => start_target_1 x0) (fun x0 r h => (start_target_1_ok E x0).1 r h) rfl x3 (gcall_some hx3 hg)) (ai rfl ?_)
  refine ai id <| ai (fun hg => (and_r hg)) <| sn ?_
  replace h := oi h
  refine RetE.plain ?_
  subst h; exact ai rfl (ai rfl rfl)⟩
instance start_Right_1_ok (E : Pm.Env) [LaidM E] (a0 : Int) : Ok E (start_Right_1 a0) (fun r => FnR E Tryz.prog 145 [AV.int .u8 a0] (bb r) false) := ⟨fun r h => by
 refine FnR.of_ev (T := T) (rows := []) tOk mixed Tryz.func145 rfl (by kernel_rfl) (by kernel_rfl) rfl fun hwf => ?_
 unfold start_Right_1 at h
 exact W⟩
instance start_Right_ok (E : Pm.Env) [LaidM E] (a0 : S_Start) : Ok E (start_Right a0) (fun r => FnR E Tryz.prog 110 [S_Start.av a0] (bb r) false) := ⟨fun r h => by
 refine FnR.of_ev (T := T) (rows := []) tOk mixed Tryz.func110 rfl (by kernel_rfl) (by kernel_rfl) rfl fun hwf => ?_
 unfold start_Right at h
 refine sj <| ai rfl ?_
 refine xi [] (xi 0 (ai ⟨rfl, rfl⟩ ?_))
 refine sn <| sj <| sj <| ai id <| ai id <| ai (fun hg => (and_r hg)) <| sn ?_
 refine Br.of h (fun ht h => ?_) fun ht h => ?_
 ·exact W
 ·refine sn <| sj <| sj <| sn ?_
  refine Br.of h (fun ht h => ?_) fun ht h => ?_
  ·exact W
  ·refine sn <| sj <| sn <| sj <| Or.inl <| ai id <| ai id <| ai (fun hg => (and_r hg)) <| ai id <| ai id <| ai (fun hg => (and_r hg)) <| ai id <| ai id <| ai (fun hg => (and_r hg)) <| ai id <| ai id <| NormE.same <| ai id <| ai (fun hg => (and_r hg)) <| ai id <| bind_elim h fun x3 hx3 h => ai id <| ai rfl ?_
   refine CallF.mk _ false (fun hg => (text_Trim_ok E a0.Reason).1 x3 (gcall_some hx3 hg)) (ai rfl ?_)
   refine ai id <| ai id <| ai id <| ai (fun hg => (and_r hg)) <| ai id <| ai id <| ai ⟨rfl, rfl⟩ <| bind_elim h fun x4 hx4 h => ai id <| ai id <| ai rfl ?_
   refine CallF.mk _ false (fun hg => slices_ContainsFunc__byte_byte_ok E a0.Reason 145 [] (fun x0 => start_Right_1 x0) (fun x0 r h => (start_Right_1_ok E x0).1 r h) rfl x4 (gcall_some hx4 hg)) (ai rfl ?_)
   refine ai id <| ai (fun hg => (and_r hg)) <| ai (by kernel_rfl) <| sn ?_
   replace h := oi h
   refine RetE.plain ?_
   subst h; exact ai rfl (ai rfl rfl)⟩
instance table_named_ok (E : Pm.Env) [LaidM E] (a0 : Bytes) : Ok E (table_named a0) (fun r => FnR E Tryz.prog 151 [ss a0] (AV.fn 182 [] [AV.iptr [ss r]]) false) := ⟨fun r h => by
 refine FnR.of_ev (T := T) (rows := []) tOk mixed Tryz.func151 rfl (by kernel_rfl) (by kernel_rfl) rfl fun hwf => ?_
 unfold table_named at h
 refine sj <| ai rfl ?_
 refine xi [] (xi 0 (ai ⟨rfl, rfl⟩ ?_))
 refine SeqN.via (St.of [⟨1, AV.iptr [ss a0], none⟩] [] []) ?_ ?_
 ·refine Gho.trans (Gho.fz [0] [(1, AV.iptr [ss a0])] ⟨Frz.ptrD rfl rfl (lb rfl), trivial⟩) ?_
  exact W
 exact W⟩
theorem table_keep_api_Field_ok (E : Pm.Env) [LaidM E] (a0 : (List S_Field)) (a1 : FuncId) (a1c : List AV) (a1i : S_Field -> Option Bool) (a1h : ∀ (x0 : S_Field) (r : Bool), a1i x0 = some r -> FnR E Tryz.prog a1 ([S_Field.av x0] ++ a1c) (bb r) false) (a1p : a1c.all AV.puB = true) (r : (List S_Field)) (h : table_keep_api_Field a0 a1i = some r) : FnR E Tryz.prog 152 [AV.list 2 (a0.map S_Field.av), AV.fn a1 [] a1c] (AV.list 2 (r.map S_Field.av)) true := by
 refine FnR.of_ev (T := T) (rows := []) tOk mixed Tryz.func152 rfl (by kernel_rfl) (by kernel_rfl) rfl fun hwf => ?_
 unfold table_keep_api_Field at h
 refine sj <| sn <| sj <| sn <| bind_elim h fun j1 hj1 h => ?_
 refine SeqJ.join (St.of [⟨5, AV.list 2 (j1.map S_Field.av), some 0⟩] [] [1]) ?_ ?_
 ·clear h; have h := hj1; clear hj1
  refine sj <| NormE.to (ii (a0.length : Int)) (fun _ => len_list S_Field.av a0) <| sn ?_
  refine LoopE.img (fun x : ((List S_Field) × Int) => St.of [⟨1, AV.fn a1 [] a1c, none⟩, ⟨5, AV.list 2 (x.1.map S_Field.av), some 0⟩, ⟨8, AV.list 2 (a0.map S_Field.av), none⟩, ⟨9, ii (a0.length : Int), none⟩, ⟨10, ii x.2, none⟩] [] [1]) (table_keep_api_Field_b1 a0 a1i) (([] : List S_Field), (0 : Int)) h ?_ ?_
  ·refine Gho.to _ _ _ [1] ?_ ?_ ?_ rfl rfl ?_
   ·exact trivial
   ·exact rfl
   ·exact rfl
   ·exact ⟨rfl, (noB_fn a1p _), trivial, rfl, rfl, ⟨rfl, rfl, rfl⟩, rfl, rfl, trivial, rfl, rfl, trivial, rfl, rfl, trivial, trivial⟩
  intro n1 x y1 h hl1 hr1
  obtain ⟨s2, s3⟩ := x
  unfold table_keep_api_Field_b1 at h
  dsimp only at h
  refine sj <| sn <| sj ?_
  refine Br.of h (fun ht h => ?_) fun ht h => ?_
  ·refine sn <| sj <| sj <| bind_elim h fun x4 hx4 h => ?_
   refine ai rfl (xi (S_Field.av x4) (ai (fun hg => idx_map _ hx4) ?_))
   refine ai (lb rfl) <| NormE.to (S_Field.av x4) (fun _ => rfl) <| ai rfl ?_
   refine ai ⟨rfl, rfl, rfl, lb rfl⟩ (xi (S_Field.cells x4) (ai (fun _ => rfl) ?_))
   refine sn <| sj <| ai ⟨lb rfl, lb rfl⟩ ?_
   refine xi none (ai rfl ?_)
   refine NormE.to (S_Field.av x4) (fun _ => rfl) <| bind_elim h fun x5 hx5 h => CallH.data _ false (puD_app rfl (puD_of a1p)) (a1h x4 x5 hx5) <| sn ?_
   refine Br.of h (fun ht h => ?_) fun ht h => ?_
   ·refine ai ⟨lb rfl, lb rfl⟩ ?_
    refine xi none (ai rfl ?_)
    refine NormE.to (S_Field.av x4) (fun _ => rfl) <| ai ⟨rfl, rfl, rfl, rfl⟩ <| ai ⟨rfl, rfl, rfl⟩ <| NormE.to (AV.list 2 (([x4] : List S_Field).map S_Field.av)) (fun _ => rfl) <| bind_elim h fun x6 hx6 h => ?_
    have qx6 := (app_some hx6).1
    have hx6e := (app_some hx6).2
    refine ai ⟨rfl, rfl, rfl⟩ <| ai rfl <| ai (app_cond S_Field.av qx6) <| NormE.to (AV.list 2 (x6.map S_Field.av)) (fun _ => (app_list 2 S_Field.av _ _).trans (congrArg (fun y => AV.list 2 (List.map S_Field.av y)) hx6e.symm)) <| sn ?_
    replace h := oi h
    refine xi ⟨(n1, (x6, (IntKind.i64.wrap (s3 + (1 : Int))))), hl1 _ h.symm⟩ (ai (Nat.lt_succ_self _) ?_)
    refine Gho.to _ _ _ [2] ?_ ?_ ?_ rfl rfl ?_
    ·exact trivial
    ·exact rfl
    ·exact rfl
    ·exact ⟨rfl, (noB_fn a1p _), trivial, rfl, rfl, ⟨rfl, rfl, rfl⟩, rfl, rfl, trivial, rfl, rfl, trivial, rfl, rfl, trivial, trivial⟩
   ·refine sn ?_
    replace h := oi h
    refine xi ⟨(n1, (s2, (IntKind.i64.wrap (s3 + (1 : Int))))), hl1 _ h.symm⟩ (ai (Nat.lt_succ_self _) ?_)
    refine Gho.to _ _ _ [0] ?_ ?_ ?_ rfl rfl ?_
    ·exact W
    ·exact rfl
    ·exact rfl
    ·exact ⟨rfl, (noB_fn a1p _), trivial, rfl, rfl, ⟨rfl, rfl, rfl⟩, rfl, rfl, trivial, rfl, rfl, trivial, rfl, rfl, trivial, trivial⟩
  ·exact W
 ·clear hj1
  exact W
instance text_Lower_ok (E : Pm.Env) [LaidM E] (a0 : Bytes) : Ok E (text_Lower a0) (fun r => FnR E Tryz.prog 157 [ss a0] (ss r) false) := ⟨fun r h => by
 refine FnR.of_ev (T := T) (rows := [7]) tOk mixed Tryz.func157 rfl (by kernel_rfl) (by kernel_rfl) rfl fun hwf => ?_
 unfold text_Lower at h
 refine sj <| sn <| sj <| ai ⟨rfl, rfl⟩ <| sn <| bind_elim h fun j1 hj1 h => ?_
 refine SeqJ.join (St.of [⟨3, AV.row 0 0 a0.length 0, none⟩] [.cells 5 (j1.map byteAV) []] []) ?_ ?_
 ·clear h; have h := hj1; clear hj1
  refine sj <| NormE.same <| sn ?_
  refine LoopE.img (fun x : (Int × (List UInt8)) => St.of [⟨3, AV.row 0 0 a0.length 0, none⟩, ⟨8, AV.row 0 0 a0.length 0, none⟩, ⟨9, ii (a0.length : Int), none⟩, ⟨10, ii x.1, none⟩] [.cells 5 (x.2.map byteAV) []] []) (text_Lower_b1 a0) ((0 : Int), a0) h ?_ ?_
  ·exact W
  intro n1 x y1 h hl1 hr1
  obtain ⟨s2, s3⟩ := x
  unfold text_Lower_b1 at h
  dsimp only at h
  exact W
 ·clear hj1
  refine sj <| chk_elim h fun q8 h => ?_
  refine ai rfl (xi (j1.take a0.length) (ai (row_text q8) ?_))
  exact W⟩
instance text_Same_ok (E : Pm.Env) [LaidM E] (a0 : Bytes) (a1 : Bytes) : Ok E (text_Same a0 a1) (fun r => FnR E Tryz.prog 183 [ss a0, ss a1] (bb r) false) := ⟨fun r h => by
 refine FnR.of_ev (T := T) (rows := []) tOk mixed Tryz.func183 rfl (by kernel_rfl) (by kernel_rfl) rfl fun hwf => ?_
 unfold text_Same at h
 exact W⟩
instance table_named_1_ok (E : Pm.Env) [LaidM E] (a0 : S_Field) (c0 : Bytes) : Ok E (table_named_1 a0 c0) (fun r => FnR E Tryz.prog 182 [S_Field.av a0, AV.iptr [ss c0]] (bb r) false) := ⟨fun r h => by
 refine FnR.of_ev (T := T) (rows := []) tOk mixed Tryz.func182 rfl (by kernel_rfl) (by kernel_rfl) rfl fun hwf => ?_
 unfold table_named_1 at h
 exact W⟩
instance table_All_ok (E : Pm.Env) [LaidM E] (a0 : (List S_Field)) (a1 : Bytes) : Ok E (table_All a0 a1) (fun r => FnR E Tryz.prog 185 [AV.list 2 (a0.map S_Field.av), ss a1] (AV.list 1 (r.map AV.str)) true) := ⟨fun r h => by
 refine FnR.of_ev (T := T) (rows := []) tOk mixed Tryz.func185 rfl (by kernel_rfl) (by kernel_rfl) rfl fun hwf => ?_
 unfold table_All at h
 refine sj <| sn <| sj <| sn <| bind_elim h fun j1 hj1 h => ?_
 refine SeqJ.join (St.of [⟨5, AV.list 1 (j1.map AV.str), some 0⟩] [] [1]) ?_ ?_
 ·clear h; have h := hj1; clear hj1
  refine sj <| bind_elim h fun x2 hx2 h => CallH.data _ false rfl ((table_named_ok E a1).1 x2 hx2) <| bind_elim h fun x3 hx3 h => CallH.data _ true rfl (table_keep_api_Field_ok E a0 182 [AV.iptr [ss x2]] (fun x0 => table_named_1 x0 x2) (fun x0 r h => (table_named_1_ok E x0 x2).1 r h) rfl x3 hx3) <| NormE.to (ii (x3.length : Int)) (fun _ => len_list S_Field.av x3) <| sn ?_
  refine LoopE.img (fun x : ((List Bytes) × Int) => St.of [⟨5, AV.list 1 (x.1.map AV.str), some 0⟩, ⟨11, AV.list 2 (x3.map S_Field.av), some 1⟩, ⟨12, ii (x3.length : Int), none⟩, ⟨13, ii x.2, none⟩] [] [1, 1]) (table_All_b1 x3) (([] : List Bytes), (0 : Int)) h ?_ ?_
  ·refine Gho.to _ _ _ [1, 2] ?_ ?_ ?_ rfl rfl ?_
   ·exact trivial
   ·exact rfl
   ·exact rfl
   ·exact ⟨rfl, rfl, ⟨rfl, rfl, rfl⟩, rfl, rfl, ⟨rfl, rfl, rfl⟩, rfl, rfl, trivial, rfl, rfl, trivial, trivial⟩
  intro n1 x y1 h hl1 hr1
  obtain ⟨s4, s5⟩ := x
  unfold table_All_b1 at h
  dsimp only at h
  refine sj <| sn <| sj ?_
  refine Br.of h (fun ht h => ?_) fun ht h => ?_
  ·refine sn <| sj <| sj <| bind_elim h fun x6 hx6 h => ?_
   refine ai rfl (xi (S_Field.av x6) (ai (fun hg => idx_map _ hx6) ?_))
   refine ai (lb rfl) <| NormE.to (S_Field.av x6) (fun _ => rfl) <| ai rfl ?_
   refine ai ⟨rfl, rfl, rfl, lb rfl⟩ (xi (S_Field.cells x6) (ai (fun _ => rfl) ?_))
   refine sn <| ai ⟨rfl, rfl, rfl, rfl⟩ <| ai ⟨rfl, rfl, rfl⟩ <| NormE.to (AV.list 1 (([x6.Value] : List Bytes).map AV.str)) (fun _ => rfl) <| bind_elim h fun x7 hx7 h => ?_
   have qx7 := (app_some hx7).1
   have hx7e := (app_some hx7).2
   refine ai ⟨rfl, rfl, rfl⟩ <| ai rfl <| ai (app_cond ss qx7) <| NormE.to (AV.list 1 (x7.map AV.str)) (fun _ => (app_list 1 ss _ _).trans (congrArg (fun y => AV.list 1 (List.map ss y)) hx7e.symm)) <| sn ?_
   replace h := oi h
   refine xi ⟨(n1, (x7, (IntKind.i64.wrap (s5 + (1 : Int))))), hl1 _ h.symm⟩ (ai (Nat.lt_succ_self _) ?_)
   refine Gho.to _ _ _ [3, 1] ?_ ?_ ?_ rfl rfl ?_
   ·exact trivial
   ·exact rfl
   ·exact rfl
   ·exact ⟨rfl, rfl, ⟨rfl, rfl, rfl⟩, rfl, rfl, ⟨rfl, rfl, rfl⟩, rfl, rfl, trivial, rfl, rfl, trivial, trivial⟩
  ·exact W
 ·clear hj1
  exact W⟩
instance table_Joined_ok (E : Pm.Env) [LaidM E] (a0 : (List S_Field)) (a1 : Bytes) : Ok E (table_Joined a0 a1) (fun r => FnR E Tryz.prog 156 [AV.list 2 (a0.map S_Field.av), ss a1] (AV.tup [ss r.1, bb r.2]) false) := ⟨fun r h => by
 refine FnR.of_ev (T := T) (rows := []) tOk mixed Tryz.func156 rfl (by kernel_rfl) (by kernel_rfl) rfl fun hwf => ?_
 unfold table_Joined at h
 exact W⟩
theorem number_read_uint64_ok (E : Pm.Env) [LaidM E] (a0 : Bytes) (a1 : Int) (a2 : FuncId) (a2c : List AV) (a2i : Int -> Option Int) (a2h : ∀ (x0 : Int) (r : Int), a2i x0 = some r -> FnR E Tryz.prog a2 ([AV.int .u8 x0] ++ a2c) (AV.int .u64 r) false) (a2p : a2c.all AV.puB = true) (r : (Int × Int)) (h : number_read_uint64 a0 a1 a2i = some r) : FnR E Tryz.prog 168 [ss a0, AV.int .u64 a1, AV.fn a2 [] a2c] (AV.tup [AV.int .u64 r.1, ii r.2]) false := by
 refine FnR.of_ev (T := T) (rows := []) tOk mixed Tryz.func168 rfl (by kernel_rfl) (by kernel_rfl) rfl fun hwf => ?_
 unfold number_read_uint64 at h
 refine sj <| sn <| sj <| sj <| sn ?_
 refine Br.of h (fun ht h => ?_) fun ht h => ?_
 ·exact W
 ·refine sn <| sj <| sn <| sj <| sj <| NormE.same <| sn ?_
  refine LoopE.img (fun x : (Int × Bool × Int) => St.of [⟨0, ss a0, none⟩, ⟨1, AV.int .u64 a1, none⟩, ⟨2, AV.fn a2 [] a2c, none⟩, ⟨8, AV.int .u64 x.1, none⟩, ⟨9, bb x.2.1, none⟩, ⟨16, ii (a0.length : Int), none⟩, ⟨17, ii x.2.2, none⟩] [] []) (number_read_uint64_b1 a0 a1 a2i) ((IntKind.u64.wrap (0 : Int)), false, (0 : Int)) h ?_ ?_
  ·refine Gho.to _ _ _ [] ?_ ?_ ?_ rfl rfl ?_
   ·exact trivial
   ·exact rfl
   ·exact rfl
   ·exact ⟨rfl, rfl, trivial, rfl, rfl, trivial, rfl, (noB_fn a2p _), trivial, rfl, rfl, trivial, rfl, rfl, trivial, rfl, rfl, trivial, rfl, rfl, trivial, trivial⟩
  intro n1 x y1 h hl1 hr1
  obtain ⟨s1, s2, s3⟩ := x
  unfold number_read_uint64_b1 at h
  dsimp only at h
  refine sj <| sn <| sj ?_
  refine Br.of h (fun ht h => ?_) fun ht h => ?_
  ·refine sn <| sj <| sj <| sn <| sj <| bind_elim h fun x4 hx4 h => ?_
   refine xi x4 (ai (fun hg => idx_some hx4) ?_)
   refine bind_elim h fun x5 hx5 h => CallH.data _ false (puD_app rfl (puD_of a2p)) (a2h (x4.toNat : Int) x5 hx5) <| sn <| sj <| sj <| sn ?_
   refine Br.of h (fun ht h => ?_) fun ht h => ?_
   ·exact W
   ·refine sn <| sj <| sn <| sj <| sn ?_
    refine Br.of h (fun ht h => ?_) fun ht h => ?_
    ·refine sn ?_
     replace h := oi h
     refine xi ⟨(n1, ((0 : Int), true, (IntKind.i64.wrap (s3 + (1 : Int))))), hl1 _ h.symm⟩ (ai (Nat.lt_succ_self _) ?_)
     refine Gho.to _ _ _ [] ?_ ?_ ?_ rfl rfl ?_
     ·exact trivial
     ·exact rfl
     ·exact rfl
     ·exact ⟨rfl, rfl, trivial, rfl, rfl, trivial, rfl, (noB_fn a2p _), trivial, rfl, rfl, trivial, rfl, rfl, trivial, rfl, rfl, trivial, rfl, rfl, trivial, trivial⟩
    ·refine sn ?_
     replace h := oi h
     refine xi ⟨(n1, ((IntKind.u64.wrap ((IntKind.u64.wrap (s1 * a1)) + x5)), s2, (IntKind.i64.wrap (s3 + (1 : Int))))), hl1 _ h.symm⟩ (ai (Nat.lt_succ_self _) ?_)
     refine Gho.to _ _ _ [] ?_ ?_ ?_ rfl rfl ?_
     ·exact W
     ·exact rfl
     ·exact rfl
     ·exact ⟨rfl, rfl, trivial, rfl, rfl, trivial, rfl, (noB_fn a2p _), trivial, rfl, rfl, trivial, rfl, rfl, trivial, rfl, rfl, trivial, rfl, rfl, trivial, trivial⟩
  ·exact W
instance number_ReadDec_1_ok (E : Pm.Env) [LaidM E] (a0 : Int) : Ok E (number_ReadDec_1 a0) (fun r => FnR E Tryz.prog 169 [AV.int .u8 a0] (AV.int .u64 r) false) := ⟨fun r h => by
 refine FnR.of_ev (T := T) (rows := []) tOk mixed Tryz.func169 rfl (by kernel_rfl) (by kernel_rfl) rfl fun hwf => ?_
 unfold number_ReadDec_1 at h
 exact W⟩
instance number_ReadDec_ok (E : Pm.Env) [LaidM E] (a0 : Bytes) : Ok E (number_ReadDec a0) (fun r => FnR E Tryz.prog 137 [ss a0] (AV.tup [AV.int .u64 r.1, ii r.2]) false) := ⟨fun r h => by
 refine FnR.of_ev (T := T) (rows := []) tOk mixed Tryz.func137 rfl (by kernel_rfl) (by kernel_rfl) rfl fun hwf => ?_
 unfold number_ReadDec at h
 refine sj <| sn <| sj <| bind_elim h fun x1 hx1 h => CallH.data _ false rfl (number_read_uint64_ok E a0 (10 : Int) 169 [] (fun x0 => number_ReadDec_1 x0) (fun x0 r h => (number_ReadDec_1_ok E x0).1 r h) rfl x1 hx1) <| sn ?_
 replace h := oi h
 refine RetE.plain ?_
 subst h; exact ai rfl (ai rfl rfl)⟩
instance frame_say_ok (E : Pm.Env) [LaidM E] (a0 : Int) (a1 : (List S_Field)) (a2 : S_Body) : Ok E (frame_say a0 a1 a2) (fun r => FnR E Tryz.prog 162 [ii a0, AV.list 2 (a1.map S_Field.av), S_Body.av a2] (AV.tup [S_Body.av r.1, ii r.2]) false) := ⟨fun r h => by
 refine FnR.of_ev (T := T) (rows := []) tOk mixed Tryz.func162 rfl (by kernel_rfl) (by kernel_rfl) rfl fun hwf => ?_
 unfold frame_say at h
 refine sj <| ai rfl ?_
 refine xi [] (xi 0 (ai ⟨rfl, rfl⟩ ?_))
 refine ai rfl <| sn <| sj <| bind_elim h fun x1 hx1 h => CallH.data _ true rfl ((table_All_ok E a1 ([67, 111, 110, 116, 101, 110, 116, 45, 76, 101, 110, 103, 116, 104] : Bytes)).1 x1 hx1) <| sn <| sj <| sj <| bind_elim h fun x2 hx2 h => CallH.data _ false rfl ((table_Joined_ok E a1 ([84, 114, 97, 110, 115, 102, 101, 114, 45, 69, 110, 99, 111, 100, 105, 110, 103] : Bytes)).1 x2 hx2) <| sn <| sj <| sn ?_
 refine Br.of h (fun ht h => ?_) fun ht h => ?_
 ·exact W
 ·refine sn <| sj <| ai ⟨lb rfl, lb rfl⟩ ?_
  refine xi none (ai rfl ?_)
  refine NormE.to (S_Body.av a2) (fun _ => rfl) <| ai rfl ?_
  refine ai ⟨rfl, rfl, rfl, lb rfl⟩ (xi (S_Body.cells a2) (ai (fun _ => rfl) ?_))
  refine sn <| sj <| sj <| NormE.to (ii (x1.length : Int)) (fun _ => len_list ss x1) <| sn ?_
  refine LoopE.img (fun x : (Bool × Int × S_Body) => St.of [⟨6, AV.ptr 1 0, none⟩, ⟨11, AV.ptr 2 0, none⟩, ⟨12, bb x.1, none⟩, ⟨41, AV.list 1 (x1.map AV.str), some 0⟩, ⟨42, ii (x1.length : Int), none⟩, ⟨43, ii x.2.1, none⟩] [.dead, .cells 42 [ii 0, ii 0] [], .cells 42 (S_Body.cells x.2.2) []] [1]) (frame_say_b1 x1) (false, (0 : Int), a2) h ?_ ?_
  ·exact W
  intro n1 x y1 h hl1 hr1
  obtain ⟨s4, s5, s6⟩ := x
  unfold frame_say_b1 at h
  dsimp only at h
  exact W⟩
instance frame_Request_ok (E : Pm.Env) [LaidM E] (a0 : S_Start) (a1 : (List S_Field)) : Ok E (frame_Request a0 a1) (fun r => FnR E Tryz.prog 129 [S_Start.av a0, AV.list 2 (a1.map S_Field.av)] (AV.tup [S_Body.av r.1, ii r.2]) false) := ⟨fun r h => by
 refine FnR.of_ev (T := T) (rows := []) tOk mixed Tryz.func129 rfl (by kernel_rfl) (by kernel_rfl) rfl fun hwf => ?_
 unfold frame_Request at h
 exact W⟩
instance frame_Answer_ok (E : Pm.Env) [LaidM E] (a0 : S_Start) (a1 : (List S_Field)) (a2 : Bytes) : Ok E (frame_Answer a0 a1 a2) (fun r => FnR E Tryz.prog 130 [S_Start.av a0, AV.list 2 (a1.map S_Field.av), ss a2] (AV.tup [S_Body.av r.1, ii r.2]) false) := ⟨fun r h => by
 refine FnR.of_ev (T := T) (rows := []) tOk mixed Tryz.func130 rfl (by kernel_rfl) (by kernel_rfl) rfl fun hwf => ?_
 unfold frame_Answer at h
 exact W⟩
instance wire_body_ok (E : Pm.Env) [LaidM E] (a0 : S_Reader) : Ok E (wire_body a0) (fun r => FnR E Tryz.prog 95 [S_Reader.av a0] (AV.tup [S_Body.av r.1, ii r.2]) false) := ⟨fun r h => by
 refine FnR.of_ev (T := T) (rows := []) tOk mixed Tryz.func95 rfl (by kernel_rfl) (by kernel_rfl) rfl fun hwf => ?_
 unfold wire_body at h
 exact W⟩
instance strings_Index_ok (E : Pm.Env) [LaidM E] (a0 : Bytes) (a1 : Bytes) : Ok E (strings_Index a0 a1) (fun r => FnR E Tryz.prog 163 [ss a0, ss a1] (ii r) false) := ⟨fun r h => by
 refine FnR.of_ev (T := T) (rows := []) tOk mixed Tryz.func163 rfl (by kernel_rfl) (by kernel_rfl) rfl fun hwf => ?_
 unfold strings_Index at h
 exact W⟩
instance strings_Contains_ok (E : Pm.Env) [LaidM E] (a0 : Bytes) (a1 : Bytes) : Ok E (strings_Contains a0 a1) (fun r => FnR E Tryz.prog 131 [ss a0, ss a1] (bb r) false) := ⟨fun r h => by
 refine FnR.of_ev (T := T) (rows := []) tOk mixed Tryz.func131 rfl (by kernel_rfl) (by kernel_rfl) rfl fun hwf => ?_
 unfold strings_Contains at h
 exact W⟩
instance chunk_Right_ok (E : Pm.Env) [LaidM E] (a0 : S_Chunked) : Ok E (chunk_Right a0) (fun r => FnR E Tryz.prog 96 [S_Chunked.av a0] (bb r) false) := ⟨fun r h => by
 refine FnR.of_ev (T := T) (rows := []) tOk mixed Tryz.func96 rfl (by kernel_rfl) (by kernel_rfl) rfl fun hwf => ?_
 unfold chunk_Right at h
 exact W⟩
instance wire_Right_ok (E : Pm.Env) [LaidM E] (a0 : S_Reader) : Ok E (wire_Right a0) (fun r => FnR E Tryz.prog 54 [S_Reader.av a0] (bb r) false) := ⟨fun r h => by
 refine FnR.of_ev (T := T) (rows := []) tOk mixed Tryz.func54 rfl (by kernel_rfl) (by kernel_rfl) rfl fun hwf => ?_
 unfold wire_Right at h
 exact W⟩
instance upstream_fresh_ok (E : Pm.Env) [LaidM E] (a0 : S_Reader) : Ok E (upstream_fresh a0) (fun r => FnR E Tryz.prog 41 [S_Reader.av a0] (bb r) false) := ⟨fun r h => by
 refine FnR.of_ev (T := T) (rows := []) tOk mixed Tryz.func41 rfl (by kernel_rfl) (by kernel_rfl) rfl fun hwf => ?_
 unfold upstream_fresh at h
 exact W⟩
instance upstream_conn_ok (E : Pm.Env) [LaidM E] (a0 : S_Conn) : Ok E (upstream_conn a0) (fun r => FnR E Tryz.prog 56 [S_Conn.av a0] (bb r) false) := ⟨fun r h => by
 refine FnR.of_ev (T := T) (rows := []) tOk mixed Tryz.func56 rfl (by kernel_rfl) (by kernel_rfl) rfl fun hwf => ?_
 unfold upstream_conn at h
 exact W⟩
instance upstream_fetches_ok (E : Pm.Env) [LaidM E] (a0 : S_Up) : Ok E (upstream_fetches a0) (fun r => FnR E Tryz.prog 32 [S_Up.av a0] (AV.list 7 (r.map S_Fetch.av)) true) := ⟨fun r h => by
 refine FnR.of_ev (T := T) (rows := []) tOk mixed Tryz.func32 rfl (by kernel_rfl) (by kernel_rfl) rfl fun hwf => ?_
 unfold upstream_fetches at h
 refine sj <| ai rfl ?_
 refine xi [] (xi 0 (ai ⟨rfl, rfl⟩ ?_))
 refine sn <| sj <| bind_elim h fun x1 hx1 h => CallH.data _ true rfl (slices_Clone_Fetch_ok E a0.Wait x1 hx1) <| sn <| bind_elim h fun j2 hj2 h => ?_
 refine SeqJ.join (St.of [⟨3, AV.list 7 (j2.map S_Fetch.av), some 0⟩] [] [1]) ?_ ?_
 ·clear h; have h := hj2; clear hj2
  refine sj <| NormE.to (ii (a0.Conns.length : Int)) (fun _ => len_list S_Conn.av a0.Conns) <| sn ?_
  refine LoopE.img (fun x : ((List S_Fetch) × Int) => St.of [⟨3, AV.list 7 (x.1.map S_Fetch.av), some 0⟩, ⟨10, AV.list 29 (a0.Conns.map S_Conn.av), none⟩, ⟨11, ii (a0.Conns.length : Int), none⟩, ⟨12, ii x.2, none⟩] [] [1]) (upstream_fetches_b1 a0) (x1, (0 : Int)) h ?_ ?_
  ·exact W
  intro n1 x y1 h hl1 hr1
  obtain ⟨s3, s4⟩ := x
  unfold upstream_fetches_b1 at h
  dsimp only at h
  exact W
 ·clear hj2
  exact W⟩
instance upstream_fetch_ok (E : Pm.Env) [LaidM E] (a0 : S_Fetch) : Ok E (upstream_fetch a0) (fun r => FnR E Tryz.prog 30 [S_Fetch.av a0] (bb r) false) := ⟨fun r h => by
 refine FnR.of_ev (T := T) (rows := []) tOk mixed Tryz.func30 rfl (by kernel_rfl) (by kernel_rfl) rfl fun hwf => ?_
 unfold upstream_fetch at h
 exact W⟩
instance upstream_Right_ok (E : Pm.Env) [LaidM E] (a0 : S_Up) : Ok E (upstream_Right a0) (fun r => FnR E Tryz.prog 20 [S_Up.av a0] (bb r) false) := ⟨fun r h => by
 refine FnR.of_ev (T := T) (rows := []) tOk mixed Tryz.func20 rfl (by kernel_rfl) (by kernel_rfl) rfl fun hwf => ?_
 unfold upstream_Right at h
 refine sj <| ai rfl ?_
 refine xi [] (xi 0 (ai ⟨rfl, rfl⟩ ?_))
 refine sn <| sj <| sj <| ai id <| ai id <| ai (fun hg => (and_r hg)) <| ai id <| ai id <| ai (fun hg => (and_r hg)) <| ai id <| ai id <| ai (fun hg => (and_r hg)) <| ai id <| ai id <| NormE.to (ii (a0.Wait.length : Int)) (fun _ => len_list S_Fetch.av a0.Wait) <| ai id <| ai (fun hg => (and_r hg)) <| sn ?_
 refine Br.of h (fun ht h => ?_) fun ht h => ?_
 ·exact W
 ·refine sn <| sj <| sn <| sj <| sj <| NormE.to (ii (a0.Conns.length : Int)) (fun _ => len_list S_Conn.av a0.Conns) <| sn ?_
  refine LoopE.img (fun x : (Int × Int) => St.of [⟨1, AV.ptr 0 0, none⟩, ⟨3, ii x.1, none⟩, ⟨41, AV.list 29 (a0.Conns.map S_Conn.av), none⟩, ⟨42, ii (a0.Conns.length : Int), none⟩, ⟨43, ii x.2, none⟩] [.cells 28 (S_Up.cells a0) []] []) (upstream_Right_b1 a0) ((0 : Int), (0 : Int)) h ?_ ?_
  ·exact W
  intro n1 x y1 h hl1 hr1
  obtain ⟨s1, s2⟩ := x
  unfold upstream_Right_b1 at h
  dsimp only at h
  refine sj <| sn <| sj ?_
  refine Br.of h (fun ht h => ?_) fun ht h => ?_
  ·exact W
  ·refine sn <| sj <| sn <| sj <| ai ⟨lb rfl, lb rfl⟩ ?_
   refine xi none (ai rfl ?_)
   refine NormE.to (S_Up.av a0) (fun _ => rfl) <| bind_elim h fun x6 hx6 h => CallH.data _ true rfl ((upstream_fetches_ok E a0).1 x6 hx6) <| sn <| sj <| sj <| NormE.to (ii (x6.length : Int)) (fun _ => len_list S_Fetch.av x6) <| sn ?_
   refine LoopE.img (fun x : (Int × (List (Int × Bool))) => St.of [⟨1, AV.ptr 0 0, none⟩, ⟨8, AV.mapv 1, none⟩, ⟨9, AV.list 7 (x6.map S_Fetch.av), some 0⟩, ⟨85, AV.list 7 (x6.map S_Fetch.av), none⟩, ⟨86, ii (x6.length : Int), none⟩, ⟨87, ii x.1, none⟩] [.cells 28 (S_Up.cells a0) [], .mp (.map (menc (AV.int .i64) bb x.2))] [1]) (upstream_Right_b2 a0 x6) ((0 : Int), ([] : List (Int × Bool))) h ?_ ?_
   ·exact W
   intro n2 x y2 h hl2 hr2
   obtain ⟨s7, s8⟩ := x
   unfold upstream_Right_b2 at h
   dsimp only at h
   refine sj <| sn <| sj ?_
   refine Br.of h (fun ht h => ?_) fun ht h => ?_
   ·refine sn <| sj <| sj <| bind_elim h fun x9 hx9 h => ?_
    refine ai rfl (xi (S_Fetch.av x9) (ai (fun hg => idx_map _ hx9) ?_))
    refine ai (lb rfl) <| NormE.to (S_Fetch.av x9) (fun _ => rfl) <| ai rfl ?_
    refine ai ⟨rfl, rfl, rfl, lb rfl⟩ (xi (S_Fetch.cells x9) (ai (fun _ => rfl) ?_))
    refine sn <| sj <| sj <| ai ⟨lb rfl, lb rfl⟩ ?_
    refine xi none (ai rfl ?_)
    refine NormE.to (S_Fetch.av x9) (fun _ => rfl) <| bind_elim h fun x10 hx10 h => CallH.data _ false rfl ((upstream_fetch_ok E x9).1 x10 hx10) <| ai id <| ai id <| ai id <| ai id <| ai (fun hg => (and_r hg)) <| ai id <| ai id <| ai id <| ai id <| ai id <| ai (fun hg => (and_r hg)) <| sn ?_
    refine Br.of h (fun ht h => ?_) fun ht h => ?_
    ·exact W
    ·refine sn ?_
     refine ai ⟨rfl, rfl, rfl⟩ (xi (menc (AV.int .i64) bb (mins s8 x9.Id true)) (ai (ins_typed [] (AV.int .i64) bb (keyB_int .i64) x9.Id true s8) ?_))
     exact W
   ·refine sn <| sj <| sj <| NormE.to (ii (a0.Wait.length : Int)) (fun _ => len_list S_Fetch.av a0.Wait) <| sn ?_
    refine LoopE.img (fun x : Int => St.of [⟨1, AV.ptr 0 0, none⟩, ⟨8, AV.mapv 1, none⟩, ⟨9, AV.list 7 (x6.map S_Fetch.av), some 0⟩, ⟨114, AV.list 7 (a0.Wait.map S_Fetch.av), none⟩, ⟨115, ii (a0.Wait.length : Int), none⟩, ⟨116, ii x, none⟩] [.cells 28 (S_Up.cells a0) [], .mp (.map (menc (AV.int .i64) bb s8))] [1]) (upstream_Right_b3 a0 x6 s8) (0 : Int) h ?_ ?_
    ·exact W
    intro n3 x y3 h hl3 hr3
    revert h; revert x; intro s11 h
    unfold upstream_Right_b3 at h
    refine sj <| sn <| sj ?_
    refine Br.of h (fun ht h => ?_) fun ht h => ?_
    ·exact W
    ·refine sn <| sj <| chk_elim h fun q14 h => ?_
     refine xi s8.length (ai ⟨menc_len _ _ _, q14⟩ ?_)
     exact W⟩
theorem slices_IndexFunc__api_Fetch_api_Fetch_ok (E : Pm.Env) [LaidM E] (a0 : (List S_Fetch)) (a1 : FuncId) (a1c : List AV) (a1i : S_Fetch -> Option Bool) (a1h : ∀ (x0 : S_Fetch) (r : Bool), a1i x0 = some r -> FnR E Tryz.prog a1 ([S_Fetch.av x0] ++ a1c) (bb r) false) (a1p : a1c.all AV.puB = true) (r : Int) (h : slices_IndexFunc__api_Fetch_api_Fetch a0 a1i = some r) : FnR E Tryz.prog 71 [AV.list 7 (a0.map S_Fetch.av), AV.fn a1 [] a1c] (ii r) false := by
 refine FnR.of_ev (T := T) (rows := []) tOk mixed Tryz.func71 rfl (by kernel_rfl) (by kernel_rfl) rfl fun hwf => ?_
 unfold slices_IndexFunc__api_Fetch_api_Fetch at h
 refine sj <| sn <| sj <| sj <| NormE.to (ii (a0.length : Int)) (fun _ => len_list S_Fetch.av a0) <| sn ?_
 refine LoopE.img (fun x : Int => St.of [⟨0, AV.list 7 (a0.map S_Fetch.av), none⟩, ⟨1, AV.fn a1 [] a1c, none⟩, ⟨7, ii (a0.length : Int), none⟩, ⟨8, ii x, none⟩] [] []) (slices_IndexFunc__api_Fetch_api_Fetch_b1 a0 a1i) (0 : Int) h ?_ ?_
 ·refine Gho.to _ _ _ [] ?_ ?_ ?_ rfl rfl ?_
  ·exact trivial
  ·exact rfl
  ·exact rfl
  ·exact ⟨rfl, rfl, trivial, rfl, (noB_fn a1p _), trivial, rfl, rfl, trivial, rfl, rfl, trivial, trivial⟩
 intro n1 x y1 h hl1 hr1
 revert h; revert x; intro s1 h
 unfold slices_IndexFunc__api_Fetch_api_Fetch_b1 at h
 refine sj <| sn <| sj ?_
 refine Br.of h (fun ht h => ?_) fun ht h => ?_
 ·refine sn <| sj <| sj <| sn <| sj <| bind_elim h fun x2 hx2 h => ?_
  refine ai rfl (xi (S_Fetch.av x2) (ai (fun hg => idx_map _ hx2) ?_))
  refine ai (lb rfl) <| NormE.to (S_Fetch.av x2) (fun _ => rfl) <| bind_elim h fun x3 hx3 h => CallH.data _ false (puD_app rfl (puD_of a1p)) (a1h x2 x3 hx3) <| sn ?_
  refine Br.of h (fun ht h => ?_) fun ht h => ?_
  ·exact W
  ·refine sn ?_
   replace h := oi h
   refine xi ⟨(n1, (IntKind.i64.wrap (s1 + (1 : Int)))), hl1 _ h.symm⟩ (ai (Nat.lt_succ_self _) ?_)
   refine Gho.to _ _ _ [] ?_ ?_ ?_ rfl rfl ?_
   ·exact W
   ·exact rfl
   ·exact rfl
   ·exact ⟨rfl, rfl, trivial, rfl, (noB_fn a1p _), trivial, rfl, rfl, trivial, rfl, rfl, trivial, trivial⟩
 ·exact W
theorem slices_ContainsFunc__api_Fetch_api_Fetch_ok (E : Pm.Env) [LaidM E] (a0 : (List S_Fetch)) (a1 : FuncId) (a1c : List AV) (a1i : S_Fetch -> Option Bool) (a1h : ∀ (x0 : S_Fetch) (r : Bool), a1i x0 = some r -> FnR E Tryz.prog a1 ([S_Fetch.av x0] ++ a1c) (bb r) false) (a1p : a1c.all AV.puB = true) (r : Bool) (h : slices_ContainsFunc__api_Fetch_api_Fetch a0 a1i = some r) : FnR E Tryz.prog 31 [AV.list 7 (a0.map S_Fetch.av), AV.fn a1 [] a1c] (bb r) false := by
 refine FnR.of_ev (T := T) (rows := []) tOk mixed Tryz.func31 rfl (by kernel_rfl) (by kernel_rfl) rfl fun hwf => ?_
 unfold slices_ContainsFunc__api_Fetch_api_Fetch at h
 refine sj <| sn <| sj <| bind_elim h fun x1 hx1 h => CallH.data _ false (and_tt' rfl (and_tt' (puD_fn a1p) rfl)) (slices_IndexFunc__api_Fetch_api_Fetch_ok E a0 a1 a1c a1i a1h a1p x1 hx1) <| sn ?_
 exact W
instance upstream_Ask_1_ok (E : Pm.Env) [LaidM E] (a0 : S_Fetch) (c0 : S_Fetch) : Ok E (upstream_Ask_1 a0 c0) (fun r => FnR E Tryz.prog 29 [S_Fetch.av a0, AV.iptr (S_Fetch.cells c0)] (bb r) false) := ⟨fun r h => by
 refine FnR.of_ev (T := T) (rows := []) tOk mixed Tryz.func29 rfl (by kernel_rfl) (by kernel_rfl) rfl fun hwf => ?_
 unfold upstream_Ask_1 at h
 exact W⟩
theorem slices_IndexFunc__api_Conn_api_Conn_ok (E : Pm.Env) [LaidM E] (a0 : (List S_Conn)) (a1 : FuncId) (a1c : List AV) (a1i : S_Conn -> Option Bool) (a1h : ∀ (x0 : S_Conn) (r : Bool), a1i x0 = some r -> FnR E Tryz.prog a1 ([S_Conn.av x0] ++ a1c) (bb r) false) (a1p : a1c.all AV.puB = true) (r : Int) (h : slices_IndexFunc__api_Conn_api_Conn a0 a1i = some r) : FnR E Tryz.prog 59 [AV.list 29 (a0.map S_Conn.av), AV.fn a1 [] a1c] (ii r) false := by
 refine FnR.of_ev (T := T) (rows := []) tOk mixed Tryz.func59 rfl (by kernel_rfl) (by kernel_rfl) rfl fun hwf => ?_
 unfold slices_IndexFunc__api_Conn_api_Conn at h
 refine sj <| sn <| sj <| sj <| NormE.to (ii (a0.length : Int)) (fun _ => len_list S_Conn.av a0) <| sn ?_
 refine LoopE.img (fun x : Int => St.of [⟨0, AV.list 29 (a0.map S_Conn.av), none⟩, ⟨1, AV.fn a1 [] a1c, none⟩, ⟨7, ii (a0.length : Int), none⟩, ⟨8, ii x, none⟩] [] []) (slices_IndexFunc__api_Conn_api_Conn_b1 a0 a1i) (0 : Int) h ?_ ?_
 ·refine Gho.to _ _ _ [] ?_ ?_ ?_ rfl rfl ?_
  ·exact trivial
  ·exact rfl
  ·exact rfl
  ·exact ⟨rfl, rfl, trivial, rfl, (noB_fn a1p _), trivial, rfl, rfl, trivial, rfl, rfl, trivial, trivial⟩
 intro n1 x y1 h hl1 hr1
 revert h; revert x; intro s1 h
 unfold slices_IndexFunc__api_Conn_api_Conn_b1 at h
 refine sj <| sn <| sj ?_
 refine Br.of h (fun ht h => ?_) fun ht h => ?_
 ·refine sn <| sj <| sj <| sn <| sj <| bind_elim h fun x2 hx2 h => ?_
  refine ai rfl (xi (S_Conn.av x2) (ai (fun hg => idx_map _ hx2) ?_))
  refine ai (lb rfl) <| NormE.to (S_Conn.av x2) (fun _ => rfl) <| bind_elim h fun x3 hx3 h => CallH.data _ false (puD_app rfl (puD_of a1p)) (a1h x2 x3 hx3) <| sn ?_
  refine Br.of h (fun ht h => ?_) fun ht h => ?_
  ·exact W
  ·refine sn ?_
   replace h := oi h
   refine xi ⟨(n1, (IntKind.i64.wrap (s1 + (1 : Int)))), hl1 _ h.symm⟩ (ai (Nat.lt_succ_self _) ?_)
   refine Gho.to _ _ _ [] ?_ ?_ ?_ rfl rfl ?_
   ·exact W
   ·exact rfl
   ·exact rfl
   ·exact ⟨rfl, rfl, trivial, rfl, (noB_fn a1p _), trivial, rfl, rfl, trivial, rfl, rfl, trivial, trivial⟩
 ·exact W
theorem upstream_work_place_1_ok (E : Pm.Env) [LaidM E] (a0 : S_Conn) (c0 : FuncId) (c0c : List AV) (c0i : S_Conn -> Option Bool) (c0h : ∀ (x0 : S_Conn) (r : Bool), c0i x0 = some r -> FnR E Tryz.prog c0 ([S_Conn.av x0] ++ c0c) (bb r) false) (c0p : c0c.all AV.puB = true) (r : Bool) (h : upstream_work_place_1 a0 c0i = some r) : FnR E Tryz.prog 75 [S_Conn.av a0, AV.iptr [AV.fn c0 [] c0c]] (bb r) false := by
 refine FnR.of_ev (T := T) (rows := []) tOk mixed Tryz.func75 rfl (by kernel_rfl) (by kernel_rfl) rfl fun hwf => ?_
 unfold upstream_work_place_1 at h
 refine sj <| ai rfl ?_
 refine xi [] (xi 0 (ai ⟨rfl, rfl⟩ ?_))
 refine sn <| sj <| ai ⟨lb rfl, lb rfl⟩ ?_
 refine xi none (ai rfl ?_)
 refine NormE.to (S_Conn.av a0) (fun _ => rfl) <| bind_elim h fun x1 hx1 h => CallH.data _ false (puD_app rfl (puD_of c0p)) (c0h a0 x1 hx1) <| ai ⟨lb rfl, lb rfl⟩ ?_
 refine xi none (ai rfl ?_)
 refine NormE.to (S_Conn.av a0) (fun _ => rfl) <| bind_elim h fun x2 hx2 h => ai id <| ai rfl ?_
 refine CallF.mk _ false (fun hg => (upstream_idle_ok E a0).1 x2 (gcall_some hx2 hg)) (ai rfl ?_)
 refine ai (fun hg => (and_r hg)) <| sn ?_
 replace h := oi h
 refine RetE.plain ?_
 subst h; exact ai rfl (ai rfl rfl)
instance wire_New_ok (E : Pm.Env) [LaidM E] (a0 : Bool) (a1 : Bytes) : Ok E (wire_New a0 a1) (fun r => FnR E Tryz.prog 123 [bb a0, ss a1] (S_Reader.av r) false) := ⟨fun r h => by
 refine FnR.of_ev (T := T) (rows := []) tOk mixed Tryz.func123 rfl (by kernel_rfl) (by kernel_rfl) rfl fun hwf => ?_
 unfold wire_New at h
 refine sj <| ai rfl <| sn <| sj <| ai ⟨rfl, rfl, lb rfl⟩ <| ai ⟨rfl, rfl, lb rfl⟩ ?_
 refine xi (some 5151088153308360742589778104320) (ai (okM.mk (show (5151088153308360742589778104320 : Nat) = freeM T _ _ _ from by kernel_rfl)) ?_)
 refine ai ⟨rfl, rfl, rfl, lb rfl⟩ (xi [bb a0, ss a1, ss [], bb false, ss [], ss [], ii 0, ss [], ii 0, AV.list 2 (([] : List S_Field).map S_Field.av), ss [], ii 0, ii 0, ii 0, ss [], ii 0, ii 0, ii 0] (ai (fun _ => rfl) ?_))
 refine xi [(9, 1)] (xi 1 (ai ⟨(by kernel_rfl), rfl⟩ ?_))
 exact W⟩
instance upstream_Ask_ok (E : Pm.Env) [LaidM E] (a0 : S_Up) (a1 : S_Fetch) : Ok E (upstream_Ask a0 a1) (fun r => FnR E Tryz.prog 10 [S_Up.av a0, S_Fetch.av a1] (AV.tup [S_Up.av r.1, AV.list 13 (r.2.1.map S_Act.av), ii r.2.2]) false) := ⟨fun r h => by
 refine FnR.of_ev (T := T) (rows := [27, 31, 45, 52, 65]) tOk mixed Tryz.func10 rfl (by kernel_rfl) (by kernel_rfl) rfl fun hwf => ?_
 unfold upstream_Ask at h
 refine sj <| ai rfl ?_
 refine xi [] (xi 0 (ai ⟨rfl, rfl⟩ ?_))
 refine ai rfl ?_
 refine xi [] (xi 0 (ai ⟨rfl, rfl⟩ ?_))
 refine ai rfl <| sn <| sj <| sn <| sj <| sj <| ai ⟨lb rfl, lb rfl⟩ ?_
 refine xi none (ai rfl ?_)
 refine NormE.to (S_Up.av a0) (fun _ => rfl) <| bind_elim h fun x1 hx1 h => CallH.data _ false rfl ((upstream_Right_ok E a0).1 x1 hx1) <| ai ⟨lb rfl, lb rfl⟩ ?_
 refine xi none (ai rfl ?_)
 refine NormE.to (S_Fetch.av a1) (fun _ => rfl) <| bind_elim h fun x2 hx2 h => ai id <| ai rfl ?_
 refine CallF.mk _ false (fun hg => (upstream_fetch_ok E a1).1 x2 (gcall_some hx2 hg)) (ai rfl ?_)
 refine ai id <| ai (fun hg => (and_r hg)) <| ai id <| ai id <| ai (fun hg => (and_r hg)) <| ai ⟨lb rfl, lb rfl⟩ ?_
 refine xi none (ai rfl ?_)
 refine NormE.to (S_Up.av a0) (fun _ => rfl) <| bind_elim h fun x3 hx3 h => ai id <| ai rfl ?_
 refine CallF.mk _ false (fun hg => FnR.drop ((upstream_fetches_ok E a0).1 x3 (gcall_some hx3 hg))) (ai rfl ?_)
 refine and_of h (fun ht h => ?_) fun ht h => ?_
 ·refine bind_elim h fun x4 hx4 h => ai (fun _ => id ht) <| ai (fun _ => id ht) <| CallH.lend [1] _ _ _ rfl (slices_ContainsFunc__api_Fetch_api_Fetch_ok E x3 29 [AV.iptr (S_Fetch.cells a1)] (fun x0 => upstream_Ask_1 x0 a1) (fun x0 r h => (upstream_Ask_1_ok E x0 a1).1 r h) rfl x4 hx4) (Lend.of [1] ⟨Frz.pure _ (AV.puD_ok rfl), Frz.fn1 (Frz.ptrD rfl rfl (lb rfl)), trivial⟩) ?_
  refine SeqN.via (St.of [⟨2, AV.ptr 0 0, none⟩, ⟨3, AV.ptr 1 0, none⟩, ⟨4, AV.ptr 2 0, none⟩, ⟨28, bb (bif (bif (bif (!x1) then true else (!x2)) then true else (decide (a0.Next ≥ (1000000000 : Int)))) then true else x4), none⟩] [.cells 28 (S_Up.cells a0) [], .cells 23 (S_Fetch.cells a1) [], .cells 28 [ii 0, ii 0, AV.list 29 (([] : List S_Conn).map S_Conn.av), AV.list 7 (([] : List S_Fetch).map S_Fetch.av)] [(2, 0), (3, 1)]] [1, 1]) ?_ ?_
  ·refine Gho.to _ _ _ [0, 1] ?_ ?_ ?_ rfl rfl ?_
   ·exact ⟨⟨rfl, rfl, rfl⟩, ⟨⟨rfl, rfl, rfl⟩, ⟨⟨rfl, rfl, rfl⟩, trivial⟩⟩⟩
   ·exact rfl
   ·exact rfl
   ·exact tr3 <| tr3 <| tr3 <| tr3 <| trivial
  refine Br.of h (fun ht h => ?_) fun ht h => ?_
  ·refine sj ?_
   refine xi (some 266305) (ai (okM.mk (show (266305 : Nat) = freeM T _ _ _ from by kernel_rfl)) ?_)
   refine ai ⟨rfl, rfl, rfl, lb rfl⟩ (xi [ii 0, ii 0, AV.list 29 (([] : List S_Conn).map S_Conn.av), AV.list 7 (([] : List S_Fetch).map S_Fetch.av)] (ai (fun _ => rfl) ?_))
   refine xi [(2, 2), (3, 3)] (xi 2 (ai ⟨(by kernel_rfl), rfl⟩ ?_))
   exact W
  ·refine sn <| sj <| ai ⟨lb rfl, lb rfl⟩ ?_
   refine xi none (ai rfl ?_)
   refine NormE.to (S_Up.av a0) (fun _ => rfl) <| FnC.of_ev (T := T) (rows := []) tOk mixed Tryz.func33 rfl (by kernel_rfl) (by kernel_rfl) rfl rfl <| sj <| ai rfl ?_
   refine xi [] (xi 0 (ai ⟨rfl, rfl⟩ ?_))
   refine sn <| sj <| Or.inl <| bind_elim h fun x5 hx5 h => ?_
   have qx5 := chk2_some hx5
   refine CallH.rows _ _ _ _ rfl (slices_Clone_Conn_row E a0.Conns qx5) <| bind_elim h fun x6 hx6 h => ?_
   have qx6 := chk2_some hx6
   refine CallH.rows _ _ _ _ rfl (slices_Clone_Fetch_row E a0.Wait qx6) ?_
   refine ai ⟨rfl, rfl, rfl, lb rfl⟩ (xi [ii a0.Now, ii a0.Next, AV.row 4 0 a0.Conns.length 29, AV.list 7 (a0.Wait.map S_Fetch.av)] (ai (fun _ => rfl) ?_))
   refine ai ⟨rfl, rfl, rfl, lb rfl⟩ (xi [ii a0.Now, ii a0.Next, AV.row 4 0 a0.Conns.length 29, AV.row 5 0 a0.Wait.length 7] (ai (fun _ => rfl) ?_))
   refine ai (by kernel_rfl) <| sn <| sj <| ai ⟨lb rfl, lb rfl⟩ ?_
   refine xi none (ai rfl ?_)
   refine NormE.to (AV.agg [ii a0.Now, ii a0.Next, AV.row 4 0 a0.Conns.length 29, AV.row 5 0 a0.Wait.length 7]) (fun _ => rfl) <| ai ⟨rfl, rfl, lb rfl⟩ ?_
   refine xi (some 16777216) (ai (okM.mk (show (16777216 : Nat) = freeM T _ _ _ from by kernel_rfl)) ?_)
   refine ai rfl ?_
   refine xi [(4, 2)] (xi 1 (ai ⟨(by kernel_rfl), rfl⟩ ?_))
   refine SeqN.via (St.of [⟨2, AV.ptr 6 0, none⟩] [.cells 28 (S_Up.cells a0) [], .cells 23 (S_Fetch.cells a1) [], .cells 28 [ii 0, ii 0, AV.list 29 (([] : List S_Conn).map S_Conn.av), AV.list 7 (([] : List S_Fetch).map S_Fetch.av)] [(2, 0), (3, 1)], .dead, .cells 48 (a0.Conns.flatMap S_Conn.cells) [], .cells 23 (a0.Wait.flatMap S_Fetch.cells) [], .cells 91 [ii a0.Now, ii a0.Next, AV.row 4 0 a0.Conns.length 29, AV.row 5 0 a0.Wait.length 7, AV.list 13 (([] : List S_Act).map S_Act.av)] [(4, 2)]] [1, 1, 1]) ?_ ?_
   ·refine Gho.to _ _ _ [0, 1, 2] ?_ ?_ ?_ rfl rfl ?_
    ·exact ⟨⟨rfl, rfl, rfl⟩, ⟨⟨rfl, rfl, rfl⟩, ⟨⟨rfl, rfl, rfl⟩, ⟨trivial, ⟨⟨rfl, rfl, rfl⟩, ⟨⟨rfl, rfl, rfl⟩, ⟨⟨rfl, rfl, rfl⟩, trivial⟩⟩⟩⟩⟩⟩⟩
    ·exact (keepN_c rfl (keepN_c rfl (keepN_c rfl (keepN_d (keepN_c (noB_flat _ (fun _ => rfl) _) (keepN_c (noB_flat _ (fun _ => rfl) _) (keepN_c rfl rfl)))))))
    ·exact rfl
    ·exact tr3 <| trivial
   refine sn <| sj ?_
   refine ai ⟨rfl, rfl, rfl, lb rfl⟩ (xi [ii a1.Id, ss a1.Origin, ss a1.Bytes, ss a1.Method, bb a1.Again, ii (IntKind.i64.wrap (a0.Now + (10 : Int))), bb a1.Tried] (ai (fun _ => rfl) ?_))
   refine ai ⟨rfl, rfl, rfl, lb rfl⟩ (xi [ii a1.Id, ss a1.Origin, ss a1.Bytes, ss a1.Method, bb a1.Again, ii (IntKind.i64.wrap (a0.Now + (10 : Int))), bb false] (ai (fun _ => rfl) ?_))
   refine sn <| sj <| sj <| ai ⟨lb rfl, lb rfl⟩ ?_
   refine xi none (ai rfl ?_)
   refine NormE.to (AV.agg [ii a1.Id, ss a1.Origin, ss a1.Bytes, ss a1.Method, bb a1.Again, ii (IntKind.i64.wrap (a0.Now + (10 : Int))), bb false]) (fun _ => rfl) <| FnC.of_ev (T := T) (rows := [22, 41]) tOk mixed Tryz.func34 rfl (by kernel_rfl) (by kernel_rfl) rfl rfl <| sj <| ai rfl ?_
   refine xi [] (xi 0 (ai ⟨rfl, rfl⟩ ?_))
   refine sn <| sj <| bind_elim h fun x7 hx7 h => CallH.data _ false rfl ((upstream_to_ok E a1.Origin).1 x7 hx7) <| ai rfl ?_
   refine ai ⟨rfl, rfl, rfl, lb rfl⟩ (xi [AV.fn 122 [] [AV.iptr [ss x7]]] (ai (fun _ => rfl) ?_))
   refine sn <| sj <| sj <| bind_elim h fun x8 hx8 h => CallH.lend [4, 8] _ _ _ rfl (slices_IndexFunc__api_Conn_api_Conn_ok E a0.Conns 75 [AV.iptr [AV.fn 122 [] [AV.iptr [ss x7]]]] (fun x0 => upstream_work_place_1 x0 (fun x0 => upstream_to_1 x0 x7)) (fun x0 r h => upstream_work_place_1_ok E x0 122 [AV.iptr [ss x7]] (fun x0 => upstream_to_1 x0 x7) (fun x0 r h => (upstream_to_1_ok E x0 x7).1 r h) rfl r h) rfl x8 hx8) (Lend.of [4, 8] ⟨Frz.rowsW S_Conn.av 29 (lb rfl) (fun _ => rfl) (fun _ => rfl) rfl (flat_from _ _) rfl, Frz.fn1 (Frz.ptrD rfl rfl (lb rfl)), trivial⟩) <| sn <| sj ?_
   refine SeqN.via (St.of [⟨0, AV.ptr 6 0, none⟩, ⟨3, AV.ptr 7 0, none⟩, ⟨5, AV.ptr 8 0, none⟩, ⟨6, ii x8, none⟩, ⟨18, bb (decide (x8 ≥ (0 : Int))), none⟩] [.cells 28 (S_Up.cells a0) [], .cells 23 [ii a1.Id, ss a1.Origin, ss a1.Bytes, ss a1.Method, bb a1.Again, ii (IntKind.i64.wrap (a0.Now + (10 : Int))), bb false] [], .cells 28 [ii 0, ii 0, AV.list 29 (([] : List S_Conn).map S_Conn.av), AV.list 7 (([] : List S_Fetch).map S_Fetch.av)] [(2, 0), (3, 1)], .dead, .cells 48 (a0.Conns.flatMap S_Conn.cells) [], .cells 23 (a0.Wait.flatMap S_Fetch.cells) [], .cells 91 [ii a0.Now, ii a0.Next, AV.row 4 0 a0.Conns.length 29, AV.row 5 0 a0.Wait.length 7, AV.list 13 (([] : List S_Act).map S_Act.av)] [(4, 2)], .cells 23 [ii a1.Id, ss a1.Origin, ss a1.Bytes, ss a1.Method, bb a1.Again, ii (IntKind.i64.wrap (a0.Now + (10 : Int))), bb false] [], .cells 77 [AV.fn 122 [] [AV.iptr [ss x7]]] []] [1, 1, 1]) ?_ ?_
   ·refine Gho.to _ _ _ [0, 1, 2] ?_ ?_ ?_ rfl rfl ?_
    ·exact ⟨⟨rfl, rfl, rfl⟩, ⟨⟨rfl, rfl, rfl⟩, ⟨⟨rfl, rfl, rfl⟩, ⟨trivial, ⟨⟨rfl, rfl, rfl⟩, ⟨⟨rfl, rfl, rfl⟩, ⟨⟨rfl, rfl, rfl⟩, ⟨⟨rfl, rfl, rfl⟩, ⟨⟨rfl, rfl, rfl⟩, trivial⟩⟩⟩⟩⟩⟩⟩⟩⟩
    ·exact (keepN_c rfl (keepN_c rfl (keepN_c rfl (keepN_d (keepN_c (noB_flat _ (fun _ => rfl) _) (keepN_c (noB_flat _ (fun _ => rfl) _) (keepN_c rfl (keepN_c rfl (keepN_c rfl rfl)))))))))
    ·exact rfl
    ·exact tr3 <| tr3 <| tr3 <| tr3 <| tr3 <| trivial
   refine Br.of h (fun ht h => ?_) fun ht h => ?_
   ·refine sj <| ai ⟨lb rfl, lb rfl⟩ ?_
    refine xi none (ai rfl ?_)
    refine NormE.to (AV.agg [ii a1.Id, ss a1.Origin, ss a1.Bytes, ss a1.Method, bb a1.Again, ii (IntKind.i64.wrap (a0.Now + (10 : Int))), bb false]) (fun _ => rfl) <| FnC.of_ev (T := T) (rows := [35]) tOk mixed Tryz.func76 rfl (by kernel_rfl) (by kernel_rfl) rfl rfl <| sj <| ai rfl ?_
    refine xi [] (xi 0 (ai ⟨rfl, rfl⟩ ?_))
    refine sn <| sj <| chk_elim h fun q9 h => ai (fun _ => q9) <| sn <| sj <| Or.inl <| ai ⟨lb rfl, lb rfl⟩ ?_
    refine xi none (ai rfl ?_)
    refine NormE.to (AV.agg [ii a1.Id, ss a1.Origin, ss a1.Bytes, ss a1.Method, bb a1.Again, ii (IntKind.i64.wrap (a0.Now + (10 : Int))), bb false]) (fun _ => rfl) <| bind_elim h fun x10 hx10 h => CallH.data _ false rfl ((wire_New_ok E false a1.Method).1 x10 hx10) <| bind_elim h fun x11 hx11 h => ?_
    refine ai ⟨rfl, rfl, rfl, flat_lenF S_Conn.cells 29 (fun _ => rfl) hx11 (o := 2) (lb rfl)⟩ (xi ((a0.Conns.set x8.toNat (S_Conn.mk x11.Id x11.Origin (S_Fetch.mk a1.Id a1.Origin a1.Bytes a1.Method a1.Again (IntKind.i64.wrap (a0.Now + (10 : Int))) false) x11.Reader x11.Got x11.Used)).flatMap S_Conn.cells) (ai (fun _ => flat_storeF S_Conn.cells 29 (fun _ => rfl) hx11 (o := 2) (lb rfl) rfl) ?_))
    refine bind_elim h fun x12 hx12 h => ?_
    refine ai ⟨rfl, rfl, rfl, flat_lenF S_Conn.cells 29 (fun _ => rfl) hx12 (o := 9) (lb rfl)⟩ (xi (((a0.Conns.set x8.toNat (S_Conn.mk x11.Id x11.Origin (S_Fetch.mk a1.Id a1.Origin a1.Bytes a1.Method a1.Again (IntKind.i64.wrap (a0.Now + (10 : Int))) false) x11.Reader x11.Got x11.Used)).set x8.toNat (S_Conn.mk x12.Id x12.Origin x12.Fetch x10 x12.Got x12.Used)).flatMap S_Conn.cells) (ai (fun _ => flat_storeF S_Conn.cells 29 (fun _ => rfl) hx12 (o := 9) (lb rfl) rfl) ?_))
    refine bind_elim h fun x13 hx13 h => ?_
    refine ai ⟨rfl, rfl, rfl, flat_lenF S_Conn.cells 29 (fun _ => rfl) hx13 (o := 27) (lb rfl)⟩ (xi ((((a0.Conns.set x8.toNat (S_Conn.mk x11.Id x11.Origin (S_Fetch.mk a1.Id a1.Origin a1.Bytes a1.Method a1.Again (IntKind.i64.wrap (a0.Now + (10 : Int))) false) x11.Reader x11.Got x11.Used)).set x8.toNat (S_Conn.mk x12.Id x12.Origin x12.Fetch x10 x12.Got x12.Used)).set x8.toNat (S_Conn.mk x13.Id x13.Origin x13.Fetch x13.Reader false x13.Used)).flatMap S_Conn.cells) (ai (fun _ => flat_storeF S_Conn.cells 29 (fun _ => rfl) hx13 (o := 27) (lb rfl) rfl) ?_))
    refine ai (by kernel_rfl) ?_
    refine SeqN.via (St.of [⟨0, AV.ptr 6 0, none⟩, ⟨5, AV.ptr 9 0, none⟩, ⟨6, AV.ptr 4 (0 + x8.toNat * 29), none⟩] [.cells 28 (S_Up.cells a0) [], .cells 23 [ii a1.Id, ss a1.Origin, ss a1.Bytes, ss a1.Method, bb a1.Again, ii (IntKind.i64.wrap (a0.Now + (10 : Int))), bb false] [], .cells 28 [ii 0, ii 0, AV.list 29 (([] : List S_Conn).map S_Conn.av), AV.list 7 (([] : List S_Fetch).map S_Fetch.av)] [(2, 0), (3, 1)], .dead, .cells 48 ((((a0.Conns.set x8.toNat (S_Conn.mk x11.Id x11.Origin (S_Fetch.mk a1.Id a1.Origin a1.Bytes a1.Method a1.Again (IntKind.i64.wrap (a0.Now + (10 : Int))) false) x11.Reader x11.Got x11.Used)).set x8.toNat (S_Conn.mk x12.Id x12.Origin x12.Fetch x10 x12.Got x12.Used)).set x8.toNat (S_Conn.mk x13.Id x13.Origin x13.Fetch x13.Reader false x13.Used)).flatMap S_Conn.cells) [], .cells 23 (a0.Wait.flatMap S_Fetch.cells) [], .cells 91 [ii a0.Now, ii a0.Next, AV.row 4 0 a0.Conns.length 29, AV.row 5 0 a0.Wait.length 7, AV.list 13 (([] : List S_Act).map S_Act.av)] [(4, 2)], .cells 23 [ii a1.Id, ss a1.Origin, ss a1.Bytes, ss a1.Method, bb a1.Again, ii (IntKind.i64.wrap (a0.Now + (10 : Int))), bb false] [], .cells 77 [AV.fn 122 [] [AV.iptr [ss x7]]] [], .cells 23 [ii a1.Id, ss a1.Origin, ss a1.Bytes, ss a1.Method, bb a1.Again, ii (IntKind.i64.wrap (a0.Now + (10 : Int))), bb false] []] [1, 1, 1]) ?_ ?_
    ·refine Gho.to _ _ _ [0, 1, 2] ?_ ?_ ?_ rfl rfl ?_
     ·exact ⟨⟨rfl, rfl, rfl⟩, ⟨⟨rfl, rfl, rfl⟩, ⟨⟨rfl, rfl, rfl⟩, ⟨trivial, ⟨⟨rfl, rfl, rfl⟩, ⟨⟨rfl, rfl, rfl⟩, ⟨⟨rfl, rfl, rfl⟩, ⟨⟨rfl, rfl, rfl⟩, ⟨⟨rfl, rfl, rfl⟩, ⟨⟨rfl, rfl, rfl⟩, trivial⟩⟩⟩⟩⟩⟩⟩⟩⟩⟩
     ·exact (keepN_c rfl (keepN_c rfl (keepN_c rfl (keepN_d (keepN_c (noB_flat _ (fun _ => rfl) _) (keepN_c (noB_flat _ (fun _ => rfl) _) (keepN_c rfl (keepN_c rfl (keepN_c rfl (keepN_c rfl rfl))))))))))
     ·exact rfl
     ·exact tr3 <| tr3 <| tr3 <| trivial
    refine bind_elim h fun x14 hx14 h => optE.mk (α := AV) (c := ii x14.Id) (flat_getF S_Conn.cells 29 (fun _ => rfl) hx14 (o := 0) (lb rfl) rfl) <| ai ⟨rfl, rfl, lb rfl⟩ <| ai ⟨rfl, rfl, lb rfl⟩ <| ai ⟨rfl, rfl, lb rfl⟩ ?_
    refine xi (some 4797324681010432970752) (ai (okM.mk (show (4797324681010432970752 : Nat) = freeM T _ _ _ from by kernel_rfl)) ?_)
    refine ai ⟨by kernel_rfl, by kernel_rfl⟩ <| FnC.of_ev (T := T) (rows := []) tOk mixed Tryz.func78 rfl (by kernel_rfl) (by kernel_rfl) rfl rfl <| sj <| ai rfl ?_
    refine xi [(10, 3)] (xi 1 (ai ⟨(by kernel_rfl), rfl⟩ ?_))
    refine sn <| Or.inl <| ai ⟨lb rfl, lb rfl⟩ ?_
    refine xi (some 5764607523034234880) (ai (show aggT [(10, 3)] 0 13 = some 5764607523034234880 from by kernel_rfl) ?_)
    refine NormE.to (AV.agg [ii 2, ii x14.Id, ss [], ss a1.Bytes, ii 0, ss [], ss [], ii 0, ss [], ii 0, AV.list 2 (([] : List S_Field).map S_Field.av), ss [], ii 0]) (fun _ => rfl) <| ai ⟨rfl, rfl, rfl, rfl⟩ <| ai ⟨rfl, rfl, rfl⟩ <| NormE.to (AV.list 13 (([(S_Act.mk (2 : Int) x14.Id ([] : Bytes) a1.Bytes (0 : Int) (S_Message.mk (S_Start.mk ([] : Bytes) ([] : Bytes) (0 : Int) ([] : Bytes) (0 : Int)) ([] : List S_Field) ([] : Bytes)) (0 : Int))] : List S_Act).map S_Act.av)) (fun _ => rfl) <| bind_elim h fun x15 hx15 h => ?_
    have qx15 := (app_some hx15).1
    have hx15e := (app_some hx15).2
    refine ai ⟨rfl, rfl, rfl⟩ <| ai rfl <| ai (app_cond S_Act.av qx15) <| NormE.to (AV.list 13 (x15.map S_Act.av)) (fun _ => (app_list 13 S_Act.av _ _).trans (congrArg (fun y => AV.list 13 (List.map S_Act.av y)) hx15e.symm)) ?_
    refine ai ⟨rfl, rfl, rfl, lb rfl⟩ (xi [ii a0.Now, ii a0.Next, AV.row 4 0 a0.Conns.length 29, AV.row 5 0 a0.Wait.length 7, AV.list 13 (x15.map S_Act.av)] (ai (fun _ => rfl) ?_))
    refine ai (by kernel_rfl) <| sn <| sj <| sn <| sn ?_
    refine Br.mk (fun _ => ?_) (fun hf => absurd hf (by decide))
    refine sn <| sj <| Or.inl <| ai ⟨lb rfl, lb rfl⟩ ?_
    refine xi (some 0) (ai (show aggT [(4, 5)] 0 4 = some 0 from by kernel_rfl) ?_)
    refine NormE.to (AV.agg [ii a0.Now, ii a0.Next, AV.row 4 0 a0.Conns.length 29, AV.row 5 0 a0.Wait.length 7]) (fun _ => rfl) ?_
    refine ai ⟨rfl, rfl, rfl, lb rfl⟩ (xi [ii a0.Now, ii a0.Next, AV.row 4 0 a0.Conns.length 29, AV.row 5 0 a0.Wait.length 7] (ai (fun _ => rfl) ?_))
    refine ai (by kernel_rfl) ?_
    refine SeqN.via (St.of [⟨4, AV.ptr 2 0, none⟩, ⟨5, AV.list 13 (x15.map S_Act.av), some 0⟩, ⟨6, ii 0, none⟩] [.dead, .dead, .cells 28 [ii a0.Now, ii a0.Next, AV.row 4 0 a0.Conns.length 29, AV.row 5 0 a0.Wait.length 7] [], .dead, .cells 48 ((((a0.Conns.set x8.toNat (S_Conn.mk x11.Id x11.Origin (S_Fetch.mk a1.Id a1.Origin a1.Bytes a1.Method a1.Again (IntKind.i64.wrap (a0.Now + (10 : Int))) false) x11.Reader x11.Got x11.Used)).set x8.toNat (S_Conn.mk x12.Id x12.Origin x12.Fetch x10 x12.Got x12.Used)).set x8.toNat (S_Conn.mk x13.Id x13.Origin x13.Fetch x13.Reader false x13.Used)).flatMap S_Conn.cells) [], .cells 23 (a0.Wait.flatMap S_Fetch.cells) []] [1]) ?_ ?_
    ·refine Gho.to _ _ _ [5] ?_ ?_ ?_ rfl rfl ?_
     ·exact ⟨trivial, ⟨trivial, ⟨⟨rfl, rfl, rfl⟩, ⟨trivial, ⟨⟨rfl, rfl, rfl⟩, ⟨⟨rfl, rfl, rfl⟩, trivial⟩⟩⟩⟩⟩⟩
     ·exact (keepN_d (keepN_d (keepN_c rfl (keepN_d (keepN_c (noB_flat _ (fun _ => rfl) _) (keepN_c (noB_flat _ (fun _ => rfl) _) rfl))))))
     ·exact rfl
     ·exact ⟨rfl, rfl, trivial, rfl, rfl, ⟨rfl, rfl, rfl⟩, rfl, rfl, trivial, trivial⟩
    replace h := oi h
    refine RetE.frz ?_
    refine ai ⟨lb rfl, lb rfl⟩ (xi (AV.agg [ii a0.Now, ii a0.Next, AV.row 4 0 a0.Conns.length 29, AV.row 5 0 a0.Wait.length 7]) (ai rfl ?_))
    exact xi (AV.tup [AV.agg [ii a0.Now, ii a0.Next, AV.list 29 ((((a0.Conns.set x8.toNat (S_Conn.mk x11.Id x11.Origin (S_Fetch.mk a1.Id a1.Origin a1.Bytes a1.Method a1.Again (IntKind.i64.wrap (a0.Now + (10 : Int))) false) x11.Reader x11.Got x11.Used)).set x8.toNat (S_Conn.mk x12.Id x12.Origin x12.Fetch x10 x12.Got x12.Used)).set x8.toNat (S_Conn.mk x13.Id x13.Origin x13.Fetch x13.Reader false x13.Used)).map S_Conn.av), AV.list 7 (a0.Wait.map S_Fetch.av)], AV.list 13 (x15.map S_Act.av), ii 0]) (ai (Frz.tupL ⟨Frz.aggL ⟨Frz.pure _ (AV.puD_ok rfl), Frz.pure _ (AV.puD_ok rfl), Frz.rowsW S_Conn.av 29 (lb rfl) (fun _ => rfl) (fun _ => rfl) rfl (flat_from _ _) (by simp only [List.length_set]), Frz.rowsW S_Fetch.av 7 (lb rfl) (fun _ => rfl) (fun _ => rfl) rfl (flat_from _ _) rfl, trivial⟩, Frz.pure _ (AV.puD_ok rfl), Frz.pure _ (AV.puD_ok rfl), trivial⟩) (ai (congrArg (fun r : (S_Up × (List S_Act) × Int) => AV.tup [S_Up.av r.1, AV.list 13 (r.2.1.map S_Act.av), ii r.2.2]) h) rfl))
   ·refine sn <| sj <| sj <| Or.inl <| bind_elim h fun x16 hx16 h => CallH.lend [4] _ _ _ rfl (upstream_count_ok E a0.Conns 122 [AV.iptr [ss x7]] (fun x0 => upstream_to_1 x0 x7) (fun x0 r h => (upstream_to_1_ok E x0 x7).1 r h) rfl x16 hx16) (Lend.of [4] ⟨Frz.rowsW S_Conn.av 29 (lb rfl) (fun _ => rfl) (fun _ => rfl) rfl (flat_from _ _) rfl, Frz.pure _ (AV.puD_ok rfl), trivial⟩) <| ai id <| ai id <| ai id <| ai id <| ai id <| ai (fun hg => (and_r hg)) <| ai (by kernel_rfl) ?_
    refine SeqN.via (St.of [⟨0, AV.ptr 6 0, none⟩, ⟨3, AV.ptr 7 0, none⟩, ⟨38, bb (bif (decide (x16 < (4 : Int))) then (decide (a0.Next < (1000000000 : Int))) else false), none⟩] [.cells 28 (S_Up.cells a0) [], .cells 23 [ii a1.Id, ss a1.Origin, ss a1.Bytes, ss a1.Method, bb a1.Again, ii (IntKind.i64.wrap (a0.Now + (10 : Int))), bb false] [], .cells 28 [ii 0, ii 0, AV.list 29 (([] : List S_Conn).map S_Conn.av), AV.list 7 (([] : List S_Fetch).map S_Fetch.av)] [(2, 0), (3, 1)], .dead, .cells 48 (a0.Conns.flatMap S_Conn.cells) [], .cells 23 (a0.Wait.flatMap S_Fetch.cells) [], .cells 91 [ii a0.Now, ii a0.Next, AV.row 4 0 a0.Conns.length 29, AV.row 5 0 a0.Wait.length 7, AV.list 13 (([] : List S_Act).map S_Act.av)] [(4, 2)], .cells 23 [ii a1.Id, ss a1.Origin, ss a1.Bytes, ss a1.Method, bb a1.Again, ii (IntKind.i64.wrap (a0.Now + (10 : Int))), bb false] []] [1, 1, 1]) ?_ ?_
    ·refine Gho.to _ _ _ [0, 1, 2] ?_ ?_ ?_ rfl rfl ?_
     ·exact ⟨⟨rfl, rfl, rfl⟩, ⟨⟨rfl, rfl, rfl⟩, ⟨⟨rfl, rfl, rfl⟩, ⟨trivial, ⟨⟨rfl, rfl, rfl⟩, ⟨⟨rfl, rfl, rfl⟩, ⟨⟨rfl, rfl, rfl⟩, ⟨⟨rfl, rfl, rfl⟩, trivial⟩⟩⟩⟩⟩⟩⟩⟩
     ·exact (keepN_c rfl (keepN_c rfl (keepN_c rfl (keepN_d (keepN_c (noB_flat _ (fun _ => rfl) _) (keepN_c (noB_flat _ (fun _ => rfl) _) (keepN_c rfl (keepN_c rfl rfl))))))))
     ·exact rfl
     ·exact tr3 <| tr3 <| tr3 <| trivial
    refine Br.of h (fun ht h => ?_) fun ht h => ?_
    ·refine sj <| ai ⟨lb rfl, lb rfl⟩ ?_
     refine xi none (ai rfl ?_)
     refine NormE.to (AV.agg [ii a1.Id, ss a1.Origin, ss a1.Bytes, ss a1.Method, bb a1.Again, ii (IntKind.i64.wrap (a0.Now + (10 : Int))), bb false]) (fun _ => rfl) <| FnC.of_ev (T := T) (rows := [28, 41, 51]) tOk mixed Tryz.func44 rfl (by kernel_rfl) (by kernel_rfl) rfl rfl <| sj <| ai rfl ?_
     refine xi [] (xi 0 (ai ⟨rfl, rfl⟩ ?_))
     refine sn <| sj ?_
     refine ai ⟨rfl, rfl, rfl, lb rfl⟩ (xi [ii a0.Now, ii (IntKind.i64.wrap (a0.Next + (1 : Int))), AV.row 4 0 a0.Conns.length 29, AV.row 5 0 a0.Wait.length 7, AV.list 13 (([] : List S_Act).map S_Act.av)] (ai (fun _ => rfl) ?_))
     refine sn <| sj <| Or.inl <| ai ⟨rfl, rfl, lb rfl⟩ <| ai ⟨rfl, rfl, lb rfl⟩ ?_
     refine xi (some 380083219460785927172209084114660015778457123557376) (ai (okM.mk (show (380083219460785927172209084114660015778457123557376 : Nat) = freeM T _ _ _ from by kernel_rfl)) ?_)
     refine ai ⟨rfl, rfl, rfl, rfl⟩ <| ai ⟨rfl, rfl, rfl⟩ <| NormE.to (AV.list 29 (([(S_Conn.mk (IntKind.i64.wrap (a0.Next + (1 : Int))) a1.Origin (S_Fetch.mk (0 : Int) ([] : Bytes) ([] : Bytes) ([] : Bytes) false (0 : Int) false) (S_Reader.mk false ([] : Bytes) ([] : Bytes) false (S_Message.mk (S_Start.mk ([] : Bytes) ([] : Bytes) (0 : Int) ([] : Bytes) (0 : Int)) ([] : List S_Field) ([] : Bytes)) (S_Body.mk (0 : Int) (0 : Int)) (S_Chunked.mk (0 : Int) ([] : Bytes) (0 : Int) (0 : Int)) (0 : Int)) false (0 : Int))] : List S_Conn).map S_Conn.av)) (fun _ => rfl) <| bind_elim h fun x17 hx17 h => ?_
     have qx17 := (app_some hx17).1
     have hx17e := (app_some hx17).2
     refine ai ⟨rfl, rfl, rfl, grow_length S_Conn.cells 29 (fun _ => rfl) rfl, rfl⟩ <| ai rfl <| ai (grow_cond rfl qx17) ?_
     refine xi (x17.flatMap S_Conn.cells) (ai (grow_cells (f := S_Conn.av) hx17e) ?_)
     refine NormE.to (AV.row 9 0 x17.length 29) (fun _ => grow_len _ _ rfl hx17e) ?_
     refine ai ⟨rfl, rfl, rfl, lb rfl⟩ (xi [ii a0.Now, ii (IntKind.i64.wrap (a0.Next + (1 : Int))), AV.row 9 0 x17.length 29, AV.row 5 0 a0.Wait.length 7, AV.list 13 (([] : List S_Act).map S_Act.av)] (ai (fun _ => rfl) ?_))
     refine ai (by kernel_rfl) ?_
     refine SeqN.via (St.of [⟨0, AV.ptr 6 0, none⟩, ⟨3, AV.ptr 8 0, none⟩] [.cells 28 (S_Up.cells a0) [], .cells 23 [ii a1.Id, ss a1.Origin, ss a1.Bytes, ss a1.Method, bb a1.Again, ii (IntKind.i64.wrap (a0.Now + (10 : Int))), bb false] [], .cells 28 [ii 0, ii 0, AV.list 29 (([] : List S_Conn).map S_Conn.av), AV.list 7 (([] : List S_Fetch).map S_Fetch.av)] [(2, 0), (3, 1)], .dead, .dead, .cells 23 (a0.Wait.flatMap S_Fetch.cells) [], .cells 91 [ii a0.Now, ii (IntKind.i64.wrap (a0.Next + (1 : Int))), AV.row 9 0 x17.length 29, AV.row 5 0 a0.Wait.length 7, AV.list 13 (([] : List S_Act).map S_Act.av)] [(4, 2)], .cells 23 [ii a1.Id, ss a1.Origin, ss a1.Bytes, ss a1.Method, bb a1.Again, ii (IntKind.i64.wrap (a0.Now + (10 : Int))), bb false] [], .cells 23 [ii a1.Id, ss a1.Origin, ss a1.Bytes, ss a1.Method, bb a1.Again, ii (IntKind.i64.wrap (a0.Now + (10 : Int))), bb false] [], .cells 48 (x17.flatMap S_Conn.cells) []] [1, 1, 1]) ?_ ?_
     ·refine Gho.to _ _ _ [0, 1, 2] ?_ ?_ ?_ rfl rfl ?_
      ·exact ⟨⟨rfl, rfl, rfl⟩, ⟨⟨rfl, rfl, rfl⟩, ⟨⟨rfl, rfl, rfl⟩, ⟨trivial, ⟨trivial, ⟨⟨rfl, rfl, rfl⟩, ⟨⟨rfl, rfl, rfl⟩, ⟨⟨rfl, rfl, rfl⟩, ⟨⟨rfl, rfl, rfl⟩, ⟨⟨rfl, rfl, rfl⟩, trivial⟩⟩⟩⟩⟩⟩⟩⟩⟩⟩
      ·exact (keepN_c rfl (keepN_c rfl (keepN_c rfl (keepN_d (keepN_d (keepN_c (noB_flat _ (fun _ => rfl) _) (keepN_c rfl (keepN_c rfl (keepN_c rfl (keepN_c (noB_flat _ (fun _ => rfl) _) rfl))))))))))
      ·exact rfl
      ·exact tr3 <| tr3 <| trivial
     refine sj <| ai ⟨rfl, rfl, lb rfl⟩ <| ai ⟨rfl, rfl, lb rfl⟩ <| ai ⟨rfl, rfl, lb rfl⟩ ?_
     refine xi (some 4797324681010433228800) (ai (okM.mk (show (4797324681010433228800 : Nat) = freeM T _ _ _ from by kernel_rfl)) ?_)
     refine ai ⟨by kernel_rfl, by kernel_rfl⟩ <| FnC.of_ev (T := T) (rows := []) tOk mixed Tryz.func78 rfl (by kernel_rfl) (by kernel_rfl) rfl rfl <| sj <| ai rfl ?_
     refine xi [(10, 3)] (xi 1 (ai ⟨(by kernel_rfl), rfl⟩ ?_))
     refine sn <| Or.inl <| ai ⟨lb rfl, lb rfl⟩ ?_
     refine xi (some 5764607523034234880) (ai (show aggT [(10, 3)] 0 13 = some 5764607523034234880 from by kernel_rfl) ?_)
     refine NormE.to (AV.agg [ii 1, ii (IntKind.i64.wrap (a0.Next + (1 : Int))), ss a1.Origin, ss [], ii 0, ss [], ss [], ii 0, ss [], ii 0, AV.list 2 (([] : List S_Field).map S_Field.av), ss [], ii 0]) (fun _ => rfl) <| ai ⟨rfl, rfl, rfl, rfl⟩ <| ai ⟨rfl, rfl, rfl⟩ <| NormE.to (AV.list 13 (([(S_Act.mk (1 : Int) (IntKind.i64.wrap (a0.Next + (1 : Int))) a1.Origin ([] : Bytes) (0 : Int) (S_Message.mk (S_Start.mk ([] : Bytes) ([] : Bytes) (0 : Int) ([] : Bytes) (0 : Int)) ([] : List S_Field) ([] : Bytes)) (0 : Int))] : List S_Act).map S_Act.av)) (fun _ => rfl) <| bind_elim h fun x18 hx18 h => ?_
     have qx18 := (app_some hx18).1
     have hx18e := (app_some hx18).2
     refine ai ⟨rfl, rfl, rfl⟩ <| ai rfl <| ai (app_cond S_Act.av qx18) <| NormE.to (AV.list 13 (x18.map S_Act.av)) (fun _ => (app_list 13 S_Act.av _ _).trans (congrArg (fun y => AV.list 13 (List.map S_Act.av y)) hx18e.symm)) ?_
     refine ai ⟨rfl, rfl, rfl, lb rfl⟩ (xi [ii a0.Now, ii (IntKind.i64.wrap (a0.Next + (1 : Int))), AV.row 9 0 x17.length 29, AV.row 5 0 a0.Wait.length 7, AV.list 13 (x18.map S_Act.av)] (ai (fun _ => rfl) ?_))
     refine ai (by kernel_rfl) <| sn <| NormE.same <| ai ⟨lb rfl, lb rfl⟩ ?_
     refine xi none (ai rfl ?_)
     refine NormE.to (AV.agg [ii a1.Id, ss a1.Origin, ss a1.Bytes, ss a1.Method, bb a1.Again, ii (IntKind.i64.wrap (a0.Now + (10 : Int))), bb false]) (fun _ => rfl) <| ai ⟨by kernel_rfl, by kernel_rfl⟩ <| FnC.of_ev (T := T) (rows := [35]) tOk mixed Tryz.func76 rfl (by kernel_rfl) (by kernel_rfl) rfl rfl <| sj <| ai rfl ?_
     refine xi [] (xi 0 (ai ⟨rfl, rfl⟩ ?_))
     refine sn <| sj <| chk_elim h fun q19 h => ai (fun _ => q19) <| sn <| sj <| Or.inl <| ai ⟨lb rfl, lb rfl⟩ ?_
     refine xi none (ai rfl ?_)
     refine NormE.to (AV.agg [ii a1.Id, ss a1.Origin, ss a1.Bytes, ss a1.Method, bb a1.Again, ii (IntKind.i64.wrap (a0.Now + (10 : Int))), bb false]) (fun _ => rfl) <| bind_elim h fun x20 hx20 h => CallH.data _ false rfl ((wire_New_ok E false a1.Method).1 x20 hx20) <| bind_elim h fun x21 hx21 h => ?_
     refine ai ⟨rfl, rfl, rfl, flat_lenF S_Conn.cells 29 (fun _ => rfl) hx21 (o := 2) (lb rfl)⟩ (xi ((x17.set (IntKind.i64.wrap ((x17.length : Int) - (1 : Int))).toNat (S_Conn.mk x21.Id x21.Origin (S_Fetch.mk a1.Id a1.Origin a1.Bytes a1.Method a1.Again (IntKind.i64.wrap (a0.Now + (10 : Int))) false) x21.Reader x21.Got x21.Used)).flatMap S_Conn.cells) (ai (fun _ => flat_storeF S_Conn.cells 29 (fun _ => rfl) hx21 (o := 2) (lb rfl) rfl) ?_))
     refine bind_elim h fun x22 hx22 h => ?_
     refine ai ⟨rfl, rfl, rfl, flat_lenF S_Conn.cells 29 (fun _ => rfl) hx22 (o := 9) (lb rfl)⟩ (xi (((x17.set (IntKind.i64.wrap ((x17.length : Int) - (1 : Int))).toNat (S_Conn.mk x21.Id x21.Origin (S_Fetch.mk a1.Id a1.Origin a1.Bytes a1.Method a1.Again (IntKind.i64.wrap (a0.Now + (10 : Int))) false) x21.Reader x21.Got x21.Used)).set (IntKind.i64.wrap ((x17.length : Int) - (1 : Int))).toNat (S_Conn.mk x22.Id x22.Origin x22.Fetch x20 x22.Got x22.Used)).flatMap S_Conn.cells) (ai (fun _ => flat_storeF S_Conn.cells 29 (fun _ => rfl) hx22 (o := 9) (lb rfl) rfl) ?_))
     refine bind_elim h fun x23 hx23 h => ?_
     refine ai ⟨rfl, rfl, rfl, flat_lenF S_Conn.cells 29 (fun _ => rfl) hx23 (o := 27) (lb rfl)⟩ (xi ((((x17.set (IntKind.i64.wrap ((x17.length : Int) - (1 : Int))).toNat (S_Conn.mk x21.Id x21.Origin (S_Fetch.mk a1.Id a1.Origin a1.Bytes a1.Method a1.Again (IntKind.i64.wrap (a0.Now + (10 : Int))) false) x21.Reader x21.Got x21.Used)).set (IntKind.i64.wrap ((x17.length : Int) - (1 : Int))).toNat (S_Conn.mk x22.Id x22.Origin x22.Fetch x20 x22.Got x22.Used)).set (IntKind.i64.wrap ((x17.length : Int) - (1 : Int))).toNat (S_Conn.mk x23.Id x23.Origin x23.Fetch x23.Reader false x23.Used)).flatMap S_Conn.cells) (ai (fun _ => flat_storeF S_Conn.cells 29 (fun _ => rfl) hx23 (o := 27) (lb rfl) rfl) ?_))
     refine ai (by kernel_rfl) ?_
     refine SeqN.via (St.of [⟨0, AV.ptr 6 0, none⟩, ⟨5, AV.ptr 11 0, none⟩, ⟨6, AV.ptr 9 (0 + (IntKind.i64.wrap ((x17.length : Int) - (1 : Int))).toNat * 29), none⟩] [.cells 28 (S_Up.cells a0) [], .cells 23 [ii a1.Id, ss a1.Origin, ss a1.Bytes, ss a1.Method, bb a1.Again, ii (IntKind.i64.wrap (a0.Now + (10 : Int))), bb false] [], .cells 28 [ii 0, ii 0, AV.list 29 (([] : List S_Conn).map S_Conn.av), AV.list 7 (([] : List S_Fetch).map S_Fetch.av)] [(2, 0), (3, 1)], .dead, .dead, .cells 23 (a0.Wait.flatMap S_Fetch.cells) [], .cells 91 [ii a0.Now, ii (IntKind.i64.wrap (a0.Next + (1 : Int))), AV.row 9 0 x17.length 29, AV.row 5 0 a0.Wait.length 7, AV.list 13 (x18.map S_Act.av)] [(4, 5)], .cells 23 [ii a1.Id, ss a1.Origin, ss a1.Bytes, ss a1.Method, bb a1.Again, ii (IntKind.i64.wrap (a0.Now + (10 : Int))), bb false] [], .cells 23 [ii a1.Id, ss a1.Origin, ss a1.Bytes, ss a1.Method, bb a1.Again, ii (IntKind.i64.wrap (a0.Now + (10 : Int))), bb false] [], .cells 48 ((((x17.set (IntKind.i64.wrap ((x17.length : Int) - (1 : Int))).toNat (S_Conn.mk x21.Id x21.Origin (S_Fetch.mk a1.Id a1.Origin a1.Bytes a1.Method a1.Again (IntKind.i64.wrap (a0.Now + (10 : Int))) false) x21.Reader x21.Got x21.Used)).set (IntKind.i64.wrap ((x17.length : Int) - (1 : Int))).toNat (S_Conn.mk x22.Id x22.Origin x22.Fetch x20 x22.Got x22.Used)).set (IntKind.i64.wrap ((x17.length : Int) - (1 : Int))).toNat (S_Conn.mk x23.Id x23.Origin x23.Fetch x23.Reader false x23.Used)).flatMap S_Conn.cells) [], .cells 40 [ii 1, ii (IntKind.i64.wrap (a0.Next + (1 : Int))), ss a1.Origin, ss [], ii 0, ss [], ss [], ii 0, ss [], ii 0, AV.list 2 (([] : List S_Field).map S_Field.av), ss [], ii 0] [(10, 3)], .cells 23 [ii a1.Id, ss a1.Origin, ss a1.Bytes, ss a1.Method, bb a1.Again, ii (IntKind.i64.wrap (a0.Now + (10 : Int))), bb false] []] [1, 1, 0, 2, 2, 1]) ?_ ?_
     ·refine Gho.to _ _ _ [0, 1, 2, 3, 4, 5] ?_ ?_ ?_ rfl rfl ?_
      ·exact ⟨⟨rfl, rfl, rfl⟩, ⟨⟨rfl, rfl, rfl⟩, ⟨⟨rfl, rfl, rfl⟩, ⟨trivial, ⟨trivial, ⟨⟨rfl, rfl, rfl⟩, ⟨⟨rfl, rfl, rfl⟩, ⟨⟨rfl, rfl, rfl⟩, ⟨⟨rfl, rfl, rfl⟩, ⟨⟨rfl, rfl, rfl⟩, ⟨⟨rfl, rfl, rfl⟩, ⟨⟨rfl, rfl, rfl⟩, trivial⟩⟩⟩⟩⟩⟩⟩⟩⟩⟩⟩⟩
      ·exact (keepN_c rfl (keepN_c rfl (keepN_c rfl (keepN_d (keepN_d (keepN_c (noB_flat _ (fun _ => rfl) _) (keepN_c rfl (keepN_c rfl (keepN_c rfl (keepN_c (noB_flat _ (fun _ => rfl) _) (keepN_c rfl (keepN_c rfl rfl))))))))))))
      ·exact rfl
      ·exact tr3 <| tr3 <| tr3 <| trivial
     refine bind_elim h fun x24 hx24 h => optE.mk (α := AV) (c := ii x24.Id) (flat_getF S_Conn.cells 29 (fun _ => rfl) hx24 (o := 0) (lb rfl) rfl) <| ai ⟨rfl, rfl, lb rfl⟩ <| ai ⟨rfl, rfl, lb rfl⟩ <| ai ⟨rfl, rfl, lb rfl⟩ ?_
     refine xi (some 4797324681010432970752) (ai (okM.mk (show (4797324681010432970752 : Nat) = freeM T _ _ _ from by kernel_rfl)) ?_)
     refine ai ⟨by kernel_rfl, by kernel_rfl⟩ <| FnC.of_ev (T := T) (rows := []) tOk mixed Tryz.func78 rfl (by kernel_rfl) (by kernel_rfl) rfl rfl <| sj <| ai rfl ?_
     refine xi [(10, 6)] (xi 1 (ai ⟨(by kernel_rfl), rfl⟩ ?_))
     refine sn <| Or.inl <| ai ⟨lb rfl, lb rfl⟩ ?_
     refine xi (some 9223372036854775808) (ai (show aggT [(10, 6)] 0 13 = some 9223372036854775808 from by kernel_rfl) ?_)
     refine NormE.to (AV.agg [ii 2, ii x24.Id, ss [], ss a1.Bytes, ii 0, ss [], ss [], ii 0, ss [], ii 0, AV.list 2 (([] : List S_Field).map S_Field.av), ss [], ii 0]) (fun _ => rfl) <| ai ⟨rfl, rfl, rfl, rfl⟩ <| ai ⟨rfl, rfl, rfl⟩ <| NormE.to (AV.list 13 (([(S_Act.mk (2 : Int) x24.Id ([] : Bytes) a1.Bytes (0 : Int) (S_Message.mk (S_Start.mk ([] : Bytes) ([] : Bytes) (0 : Int) ([] : Bytes) (0 : Int)) ([] : List S_Field) ([] : Bytes)) (0 : Int))] : List S_Act).map S_Act.av)) (fun _ => rfl) <| bind_elim h fun x25 hx25 h => ?_
     have qx25 := (app_some hx25).1
     have hx25e := (app_some hx25).2
     refine ai ⟨rfl, rfl, rfl⟩ <| ai rfl <| ai (app_cond S_Act.av qx25) <| NormE.to (AV.list 13 (x25.map S_Act.av)) (fun _ => (app_list 13 S_Act.av _ _).trans (congrArg (fun y => AV.list 13 (List.map S_Act.av y)) hx25e.symm)) ?_
     refine ai ⟨rfl, rfl, rfl, lb rfl⟩ (xi [ii a0.Now, ii (IntKind.i64.wrap (a0.Next + (1 : Int))), AV.row 9 0 x17.length 29, AV.row 5 0 a0.Wait.length 7, AV.list 13 (x25.map S_Act.av)] (ai (fun _ => rfl) ?_))
     refine ai (by kernel_rfl) <| sn <| sj <| sn <| sn ?_
     refine Br.mk (fun _ => ?_) (fun hf => absurd hf (by decide))
     refine sn <| sj <| Or.inl <| ai ⟨lb rfl, lb rfl⟩ ?_
     refine xi (some 0) (ai (show aggT [(4, 8)] 0 4 = some 0 from by kernel_rfl) ?_)
     refine NormE.to (AV.agg [ii a0.Now, ii (IntKind.i64.wrap (a0.Next + (1 : Int))), AV.row 9 0 x17.length 29, AV.row 5 0 a0.Wait.length 7]) (fun _ => rfl) ?_
     refine ai ⟨rfl, rfl, rfl, lb rfl⟩ (xi [ii a0.Now, ii (IntKind.i64.wrap (a0.Next + (1 : Int))), AV.row 9 0 x17.length 29, AV.row 5 0 a0.Wait.length 7] (ai (fun _ => rfl) ?_))
     refine ai (by kernel_rfl) ?_
     refine SeqN.via (St.of [⟨4, AV.ptr 2 0, none⟩, ⟨5, AV.list 13 (x25.map S_Act.av), some 0⟩, ⟨6, ii 0, none⟩] [.dead, .dead, .cells 28 [ii a0.Now, ii (IntKind.i64.wrap (a0.Next + (1 : Int))), AV.row 9 0 x17.length 29, AV.row 5 0 a0.Wait.length 7] [], .dead, .dead, .cells 23 (a0.Wait.flatMap S_Fetch.cells) [], .dead, .dead, .dead, .cells 48 ((((x17.set (IntKind.i64.wrap ((x17.length : Int) - (1 : Int))).toNat (S_Conn.mk x21.Id x21.Origin (S_Fetch.mk a1.Id a1.Origin a1.Bytes a1.Method a1.Again (IntKind.i64.wrap (a0.Now + (10 : Int))) false) x21.Reader x21.Got x21.Used)).set (IntKind.i64.wrap ((x17.length : Int) - (1 : Int))).toNat (S_Conn.mk x22.Id x22.Origin x22.Fetch x20 x22.Got x22.Used)).set (IntKind.i64.wrap ((x17.length : Int) - (1 : Int))).toNat (S_Conn.mk x23.Id x23.Origin x23.Fetch x23.Reader false x23.Used)).flatMap S_Conn.cells) []] [1]) ?_ ?_
     ·refine Gho.to _ _ _ [8] ?_ ?_ ?_ rfl rfl ?_
      ·exact ⟨trivial, ⟨trivial, ⟨⟨rfl, rfl, rfl⟩, ⟨trivial, ⟨trivial, ⟨⟨rfl, rfl, rfl⟩, ⟨trivial, ⟨trivial, ⟨trivial, ⟨⟨rfl, rfl, rfl⟩, trivial⟩⟩⟩⟩⟩⟩⟩⟩⟩⟩
      ·exact (keepN_d (keepN_d (keepN_c rfl (keepN_d (keepN_d (keepN_c (noB_flat _ (fun _ => rfl) _) (keepN_d (keepN_d (keepN_d (keepN_c (noB_flat _ (fun _ => rfl) _) rfl))))))))))
      ·exact rfl
      ·exact ⟨rfl, rfl, trivial, rfl, rfl, ⟨rfl, rfl, rfl⟩, rfl, rfl, trivial, trivial⟩
     replace h := oi h
     refine RetE.frz ?_
     refine ai ⟨lb rfl, lb rfl⟩ (xi (AV.agg [ii a0.Now, ii (IntKind.i64.wrap (a0.Next + (1 : Int))), AV.row 9 0 x17.length 29, AV.row 5 0 a0.Wait.length 7]) (ai rfl ?_))
     exact xi (AV.tup [AV.agg [ii a0.Now, ii (IntKind.i64.wrap (a0.Next + (1 : Int))), AV.list 29 ((((x17.set (IntKind.i64.wrap ((x17.length : Int) - (1 : Int))).toNat (S_Conn.mk x21.Id x21.Origin (S_Fetch.mk a1.Id a1.Origin a1.Bytes a1.Method a1.Again (IntKind.i64.wrap (a0.Now + (10 : Int))) false) x21.Reader x21.Got x21.Used)).set (IntKind.i64.wrap ((x17.length : Int) - (1 : Int))).toNat (S_Conn.mk x22.Id x22.Origin x22.Fetch x20 x22.Got x22.Used)).set (IntKind.i64.wrap ((x17.length : Int) - (1 : Int))).toNat (S_Conn.mk x23.Id x23.Origin x23.Fetch x23.Reader false x23.Used)).map S_Conn.av), AV.list 7 (a0.Wait.map S_Fetch.av)], AV.list 13 (x25.map S_Act.av), ii 0]) (ai (Frz.tupL ⟨Frz.aggL ⟨Frz.pure _ (AV.puD_ok rfl), Frz.pure _ (AV.puD_ok rfl), Frz.rowsW S_Conn.av 29 (lb rfl) (fun _ => rfl) (fun _ => rfl) rfl (flat_from _ _) (by simp only [List.length_set]), Frz.rowsW S_Fetch.av 7 (lb rfl) (fun _ => rfl) (fun _ => rfl) rfl (flat_from _ _) rfl, trivial⟩, Frz.pure _ (AV.puD_ok rfl), Frz.pure _ (AV.puD_ok rfl), trivial⟩) (ai (congrArg (fun r : (S_Up × (List S_Act) × Int) => AV.tup [S_Up.av r.1, AV.list 13 (r.2.1.map S_Act.av), ii r.2.2]) h) rfl))
    ·refine sn <| sj <| sn <| sn ?_
     refine Br.mk (fun hf => absurd hf (by decide)) (fun _ => ?_)
     refine sj <| NormE.same ?_
     refine SeqN.via (St.of [⟨3, AV.ptr 1 0, none⟩, ⟨4, AV.ptr 2 0, none⟩, ⟨8, AV.ptr 6 0, none⟩, ⟨53, bb (decide ((a0.Wait.length : Int) ≥ (16 : Int))), none⟩] [.dead, .cells 23 [ii a1.Id, ss a1.Origin, ss a1.Bytes, ss a1.Method, bb a1.Again, ii (IntKind.i64.wrap (a0.Now + (10 : Int))), bb false] [], .cells 28 [ii 0, ii 0, AV.list 29 (([] : List S_Conn).map S_Conn.av), AV.list 7 (([] : List S_Fetch).map S_Fetch.av)] [(2, 0), (3, 1)], .dead, .cells 48 (a0.Conns.flatMap S_Conn.cells) [], .cells 23 (a0.Wait.flatMap S_Fetch.cells) [], .cells 91 [ii a0.Now, ii a0.Next, AV.row 4 0 a0.Conns.length 29, AV.row 5 0 a0.Wait.length 7, AV.list 13 (([] : List S_Act).map S_Act.av)] [(4, 2)]] [1, 1, 1]) ?_ ?_
     ·refine Gho.to _ _ _ [0, 1, 2] ?_ ?_ ?_ rfl rfl ?_
      ·exact ⟨trivial, ⟨⟨rfl, rfl, rfl⟩, ⟨⟨rfl, rfl, rfl⟩, ⟨trivial, ⟨⟨rfl, rfl, rfl⟩, ⟨⟨rfl, rfl, rfl⟩, ⟨⟨rfl, rfl, rfl⟩, trivial⟩⟩⟩⟩⟩⟩⟩
      ·exact (keepN_d (keepN_c rfl (keepN_c rfl (keepN_d (keepN_c (noB_flat _ (fun _ => rfl) _) (keepN_c (noB_flat _ (fun _ => rfl) _) (keepN_c rfl rfl)))))))
      ·exact rfl
      ·exact tr3 <| tr3 <| tr3 <| tr3 <| trivial
     refine Br.of h (fun ht h => ?_) fun ht h => ?_
     ·refine xi (some 69810262081) (ai (okM.mk (show (69810262081 : Nat) = freeM T _ _ _ from by kernel_rfl)) ?_)
      refine FnC.of_ev (T := T) (rows := [13]) tOk mixed Tryz.func35 rfl (by kernel_rfl) (by kernel_rfl) rfl rfl <| sj <| ai rfl ?_
      refine xi [(5, 3)] (xi 1 (ai ⟨(by kernel_rfl), rfl⟩ ?_))
      refine sn <| ai ⟨lb rfl, lb rfl⟩ ?_
      refine xi (some 5368709120) (ai (show aggT [(5, 3)] 0 7 = some 5368709120 from by kernel_rfl) ?_)
      refine NormE.to (AV.agg [ss [], ss [], ii 0, ss [], ii 0, AV.list 2 (([] : List S_Field).map S_Field.av), ss []]) (fun _ => rfl) <| ai ⟨rfl, rfl, lb rfl⟩ <| ai ⟨rfl, rfl, lb rfl⟩ <| ai ⟨rfl, rfl, lb rfl⟩ <| ai ⟨rfl, rfl, lb rfl⟩ ?_
      refine xi none (ai trivial ?_)
      refine FnC.of_ev (T := T) (rows := []) tOk mixed Tryz.func78 rfl (by kernel_rfl) (by kernel_rfl) rfl rfl <| sj <| ai rfl ?_
      refine xi [] (xi 0 (ai ⟨rfl, rfl⟩ ?_))
      refine sn <| Or.inl <| ai ⟨lb rfl, lb rfl⟩ ?_
      refine xi none (ai rfl ?_)
      refine NormE.to (AV.agg [ii 4, ii 0, ss [], ss [], ii a1.Id, ss [], ss [], ii 0, ss [], ii 0, AV.list 2 (([] : List S_Field).map S_Field.av), ss [], ii 4]) (fun _ => rfl) <| ai ⟨rfl, rfl, rfl, rfl⟩ <| ai ⟨rfl, rfl, rfl⟩ <| NormE.to (AV.list 13 (([(S_Act.mk (4 : Int) (0 : Int) ([] : Bytes) ([] : Bytes) a1.Id (S_Message.mk (S_Start.mk ([] : Bytes) ([] : Bytes) (0 : Int) ([] : Bytes) (0 : Int)) ([] : List S_Field) ([] : Bytes)) (4 : Int))] : List S_Act).map S_Act.av)) (fun _ => rfl) <| bind_elim h fun x26 hx26 h => ?_
      have qx26 := (app_some hx26).1
      have hx26e := (app_some hx26).2
      refine ai ⟨rfl, rfl, rfl⟩ <| ai rfl <| ai (app_cond S_Act.av qx26) <| NormE.to (AV.list 13 (x26.map S_Act.av)) (fun _ => (app_list 13 S_Act.av _ _).trans (congrArg (fun y => AV.list 13 (List.map S_Act.av y)) hx26e.symm)) ?_
      refine ai ⟨rfl, rfl, rfl, lb rfl⟩ (xi [ii a0.Now, ii a0.Next, AV.row 4 0 a0.Conns.length 29, AV.row 5 0 a0.Wait.length 7, AV.list 13 (x26.map S_Act.av)] (ai (fun _ => rfl) ?_))
      refine ai (by kernel_rfl) <| sn <| sj <| Or.inl <| ai ⟨lb rfl, lb rfl⟩ ?_
      refine xi (some 0) (ai (show aggT [(4, 5)] 0 4 = some 0 from by kernel_rfl) ?_)
      refine NormE.to (AV.agg [ii a0.Now, ii a0.Next, AV.row 4 0 a0.Conns.length 29, AV.row 5 0 a0.Wait.length 7]) (fun _ => rfl) ?_
      refine ai ⟨rfl, rfl, rfl, lb rfl⟩ (xi [ii a0.Now, ii a0.Next, AV.row 4 0 a0.Conns.length 29, AV.row 5 0 a0.Wait.length 7] (ai (fun _ => rfl) ?_))
      refine ai (by kernel_rfl) ?_
      refine SeqN.via (St.of [⟨4, AV.ptr 2 0, none⟩, ⟨5, AV.list 13 (x26.map S_Act.av), some 0⟩, ⟨6, ii 0, none⟩] [.dead, .dead, .cells 28 [ii a0.Now, ii a0.Next, AV.row 4 0 a0.Conns.length 29, AV.row 5 0 a0.Wait.length 7] [], .dead, .cells 48 (a0.Conns.flatMap S_Conn.cells) [], .cells 23 (a0.Wait.flatMap S_Fetch.cells) []] [1]) ?_ ?_
      ·refine Gho.to _ _ _ [5] ?_ ?_ ?_ rfl rfl ?_
       ·exact ⟨trivial, ⟨trivial, ⟨⟨rfl, rfl, rfl⟩, ⟨trivial, ⟨⟨rfl, rfl, rfl⟩, ⟨⟨rfl, rfl, rfl⟩, trivial⟩⟩⟩⟩⟩⟩
       ·exact (keepN_d (keepN_d (keepN_c rfl (keepN_d (keepN_c (noB_flat _ (fun _ => rfl) _) (keepN_c (noB_flat _ (fun _ => rfl) _) rfl))))))
       ·exact rfl
       ·exact ⟨rfl, rfl, trivial, rfl, rfl, ⟨rfl, rfl, rfl⟩, rfl, rfl, trivial, trivial⟩
      replace h := oi h
      refine RetE.frz ?_
      refine ai ⟨lb rfl, lb rfl⟩ (xi (AV.agg [ii a0.Now, ii a0.Next, AV.row 4 0 a0.Conns.length 29, AV.row 5 0 a0.Wait.length 7]) (ai rfl ?_))
      exact xi (AV.tup [AV.agg [ii a0.Now, ii a0.Next, AV.list 29 (a0.Conns.map S_Conn.av), AV.list 7 (a0.Wait.map S_Fetch.av)], AV.list 13 (x26.map S_Act.av), ii 0]) (ai (Frz.tupL ⟨Frz.aggL ⟨Frz.pure _ (AV.puD_ok rfl), Frz.pure _ (AV.puD_ok rfl), Frz.rowsW S_Conn.av 29 (lb rfl) (fun _ => rfl) (fun _ => rfl) rfl (flat_from _ _) rfl, Frz.rowsW S_Fetch.av 7 (lb rfl) (fun _ => rfl) (fun _ => rfl) rfl (flat_from _ _) rfl, trivial⟩, Frz.pure _ (AV.puD_ok rfl), Frz.pure _ (AV.puD_ok rfl), trivial⟩) (ai (congrArg (fun r : (S_Up × (List S_Act) × Int) => AV.tup [S_Up.av r.1, AV.list 13 (r.2.1.map S_Act.av), ii r.2.2]) h) rfl))
     ·refine Or.inl <| ai ⟨lb rfl, lb rfl⟩ ?_
      refine xi none (ai rfl ?_)
      refine NormE.to (AV.agg [ii a1.Id, ss a1.Origin, ss a1.Bytes, ss a1.Method, bb a1.Again, ii (IntKind.i64.wrap (a0.Now + (10 : Int))), bb false]) (fun _ => rfl) <| ai ⟨rfl, rfl, rfl, rfl⟩ <| ai ⟨rfl, rfl, rfl⟩ <| NormE.to (AV.list 7 (([(S_Fetch.mk a1.Id a1.Origin a1.Bytes a1.Method a1.Again (IntKind.i64.wrap (a0.Now + (10 : Int))) false)] : List S_Fetch).map S_Fetch.av)) (fun _ => rfl) <| bind_elim h fun x27 hx27 h => ?_
      have qx27 := (app_some hx27).1
      have hx27e := (app_some hx27).2
      refine ai ⟨rfl, rfl, rfl, grow_length S_Fetch.cells 7 (fun _ => rfl) rfl, rfl⟩ <| ai rfl <| ai (grow_cond rfl qx27) ?_
      refine xi (x27.flatMap S_Fetch.cells) (ai (grow_cells (f := S_Fetch.av) hx27e) ?_)
      refine NormE.to (AV.row 7 0 x27.length 7) (fun _ => grow_len _ _ rfl hx27e) ?_
      refine ai ⟨rfl, rfl, rfl, lb rfl⟩ (xi [ii a0.Now, ii a0.Next, AV.row 4 0 a0.Conns.length 29, AV.row 7 0 x27.length 7, AV.list 13 (([] : List S_Act).map S_Act.av)] (ai (fun _ => rfl) ?_))
      refine ai (by kernel_rfl) <| sn <| sj <| Or.inl <| ai ⟨lb rfl, lb rfl⟩ ?_
      refine xi (some 0) (ai (show aggT [(4, 2)] 0 4 = some 0 from by kernel_rfl) ?_)
      refine NormE.to (AV.agg [ii a0.Now, ii a0.Next, AV.row 4 0 a0.Conns.length 29, AV.row 7 0 x27.length 7]) (fun _ => rfl) ?_
      refine ai ⟨rfl, rfl, rfl, lb rfl⟩ (xi [ii a0.Now, ii a0.Next, AV.row 4 0 a0.Conns.length 29, AV.row 7 0 x27.length 7] (ai (fun _ => rfl) ?_))
      refine ai (by kernel_rfl) ?_
      refine SeqN.via (St.of [⟨4, AV.ptr 2 0, none⟩, ⟨5, AV.list 13 (([] : List S_Act).map S_Act.av), some 0⟩, ⟨6, ii 0, none⟩] [.dead, .dead, .cells 28 [ii a0.Now, ii a0.Next, AV.row 4 0 a0.Conns.length 29, AV.row 7 0 x27.length 7] [], .dead, .cells 48 (a0.Conns.flatMap S_Conn.cells) [], .dead, .dead, .cells 23 (x27.flatMap S_Fetch.cells) []] [1]) ?_ ?_
      ·refine Gho.to _ _ _ [2] ?_ ?_ ?_ rfl rfl ?_
       ·exact ⟨trivial, ⟨trivial, ⟨⟨rfl, rfl, rfl⟩, ⟨trivial, ⟨⟨rfl, rfl, rfl⟩, ⟨trivial, ⟨trivial, ⟨⟨rfl, rfl, rfl⟩, trivial⟩⟩⟩⟩⟩⟩⟩⟩
       ·exact (keepN_d (keepN_d (keepN_c rfl (keepN_d (keepN_c (noB_flat _ (fun _ => rfl) _) (keepN_d (keepN_d (keepN_c (noB_flat _ (fun _ => rfl) _) rfl))))))))
       ·exact rfl
       ·exact ⟨rfl, rfl, trivial, rfl, rfl, ⟨rfl, rfl, rfl⟩, rfl, rfl, trivial, trivial⟩
      replace h := oi h
      refine RetE.frz ?_
      refine ai ⟨lb rfl, lb rfl⟩ (xi (AV.agg [ii a0.Now, ii a0.Next, AV.row 4 0 a0.Conns.length 29, AV.row 7 0 x27.length 7]) (ai rfl ?_))
      exact xi (AV.tup [AV.agg [ii a0.Now, ii a0.Next, AV.list 29 (a0.Conns.map S_Conn.av), AV.list 7 (x27.map S_Fetch.av)], AV.list 13 (([] : List S_Act).map S_Act.av), ii 0]) (ai (Frz.tupL ⟨Frz.aggL ⟨Frz.pure _ (AV.puD_ok rfl), Frz.pure _ (AV.puD_ok rfl), Frz.rowsW S_Conn.av 29 (lb rfl) (fun _ => rfl) (fun _ => rfl) rfl (flat_from _ _) rfl, Frz.rowsW S_Fetch.av 7 (lb rfl) (fun _ => rfl) (fun _ => rfl) rfl (flat_from _ _) rfl, trivial⟩, Frz.pure _ (AV.puD_ok rfl), Frz.pure _ (AV.puD_ok rfl), trivial⟩) (ai (congrArg (fun r : (S_Up × (List S_Act) × Int) => AV.tup [S_Up.av r.1, AV.list 13 (r.2.1.map S_Act.av), ii r.2.2]) h) rfl))
 ·refine xi (bb false) <| ai (fun hg => ht.symm.trans hg) ?_
  refine SeqN.via (St.of [⟨2, AV.ptr 0 0, none⟩, ⟨3, AV.ptr 1 0, none⟩, ⟨4, AV.ptr 2 0, none⟩, ⟨28, bb (bif (bif (bif (!x1) then true else (!x2)) then true else (decide (a0.Next ≥ (1000000000 : Int)))) then true else false), none⟩] [.cells 28 (S_Up.cells a0) [], .cells 23 (S_Fetch.cells a1) [], .cells 28 [ii 0, ii 0, AV.list 29 (([] : List S_Conn).map S_Conn.av), AV.list 7 (([] : List S_Fetch).map S_Fetch.av)] [(2, 0), (3, 1)]] [1, 1]) ?_ ?_
  ·refine Gho.to _ _ _ [0, 1] ?_ ?_ ?_ rfl rfl ?_
   ·exact ⟨⟨rfl, rfl, rfl⟩, ⟨⟨rfl, rfl, rfl⟩, ⟨⟨rfl, rfl, rfl⟩, trivial⟩⟩⟩
   ·exact rfl
   ·exact rfl
   ·exact tr3 <| tr3 <| tr3 <| tr3 <| trivial
  refine Br.of h (fun ht h => ?_) fun ht h => ?_
  ·refine sj ?_
   refine xi (some 266305) (ai (okM.mk (show (266305 : Nat) = freeM T _ _ _ from by kernel_rfl)) ?_)
   refine ai ⟨rfl, rfl, rfl, lb rfl⟩ (xi [ii 0, ii 0, AV.list 29 (([] : List S_Conn).map S_Conn.av), AV.list 7 (([] : List S_Fetch).map S_Fetch.av)] (ai (fun _ => rfl) ?_))
   refine xi [(2, 2), (3, 3)] (xi 2 (ai ⟨(by kernel_rfl), rfl⟩ ?_))
   exact W
  ·exact W⟩
theorem slices_BinarySearchFunc__api_Conn_api_Conn_int_ok (E : Pm.Env) [LaidM E] (a0 : (List S_Conn)) (a1 : Int) (a2 : FuncId) (a2c : List AV) (a2i : S_Conn -> Int -> Option Int) (a2h : ∀ (x0 : S_Conn) (x1 : Int) (r : Int), a2i x0 x1 = some r -> FnR E Tryz.prog a2 ([S_Conn.av x0, ii x1] ++ a2c) (ii r) false) (a2p : a2c.all AV.puB = true) (r : (Int × Bool)) (h : slices_BinarySearchFunc__api_Conn_api_Conn_int a0 a1 a2i = some r) : FnR E Tryz.prog 79 [AV.list 29 (a0.map S_Conn.av), ii a1, AV.fn a2 [] a2c] (AV.tup [ii r.1, bb r.2]) false := by
 refine FnR.of_ev (T := T) (rows := []) tOk mixed Tryz.func79 rfl (by kernel_rfl) (by kernel_rfl) rfl fun hwf => ?_
 unfold slices_BinarySearchFunc__api_Conn_api_Conn_int at h
 refine sj <| sn <| sj <| NormE.to (ii (a0.length : Int)) (fun _ => len_list S_Conn.av a0) <| sn <| sj <| sn <| bind_elim h fun j1 hj1 h => ?_
 refine SeqJ.join (St.of [⟨0, AV.list 29 (a0.map S_Conn.av), none⟩, ⟨1, ii a1, none⟩, ⟨2, AV.fn a2 [] a2c, none⟩, ⟨8, ii (a0.length : Int), none⟩, ⟨9, ii j1, none⟩] [] []) ?_ ?_
 ·clear h; have h := hj1; clear hj1
  refine LoopE.img (fun x : (Int × Int) => St.of [⟨0, AV.list 29 (a0.map S_Conn.av), none⟩, ⟨1, ii a1, none⟩, ⟨2, AV.fn a2 [] a2c, none⟩, ⟨8, ii (a0.length : Int), none⟩, ⟨9, ii x.1, none⟩, ⟨10, ii x.2, none⟩] [] []) (slices_BinarySearchFunc__api_Conn_api_Conn_int_b1 a0 a1 a2i) ((0 : Int), (a0.length : Int)) h ?_ ?_
  ·refine Gho.to _ _ _ [] ?_ ?_ ?_ rfl rfl ?_
   ·exact trivial
   ·exact rfl
   ·exact rfl
   ·exact ⟨rfl, rfl, trivial, rfl, rfl, trivial, rfl, (noB_fn a2p _), trivial, rfl, rfl, trivial, rfl, rfl, trivial, rfl, rfl, trivial, trivial⟩
  intro n1 x y1 h hl1 hr1
  obtain ⟨s2, s3⟩ := x
  unfold slices_BinarySearchFunc__api_Conn_api_Conn_int_b1 at h
  dsimp only at h
  refine sj <| sj <| sn ?_
  refine Br.of h (fun ht h => ?_) fun ht h => ?_
  ·refine sn <| sj <| chk_elim h fun q4 h => ai (fun _ => q4) <| sn <| sj <| bind_elim h fun x5 hx5 h => ?_
   refine ai rfl (xi (S_Conn.av x5) (ai (fun hg => idx_map _ hx5) ?_))
   refine ai (lb rfl) <| NormE.to (S_Conn.av x5) (fun _ => rfl) <| bind_elim h fun x6 hx6 h => CallH.data _ false (puD_app rfl (puD_of a2p)) (a2h x5 a1 x6 hx6) <| sn ?_
   refine Br.of h (fun ht h => ?_) fun ht h => ?_
   ·replace h := oi h
    refine xi ⟨(n1, ((IntKind.i64.wrap ((IntKind.i64.wrap ((IntKind.u64.wrap (IntKind.i64.wrap (s2 + s3))) / 2 ^ (1 : Int).toNat)) + (1 : Int))), s3)), hl1 _ h.symm⟩ (ai (Nat.lt_succ_self _) ?_)
    refine Gho.to _ _ _ [] ?_ ?_ ?_ rfl rfl ?_
    ·exact W
    ·exact rfl
    ·exact rfl
    ·exact ⟨rfl, rfl, trivial, rfl, rfl, trivial, rfl, (noB_fn a2p _), trivial, rfl, rfl, trivial, rfl, rfl, trivial, rfl, rfl, trivial, trivial⟩
   ·replace h := oi h
    refine xi ⟨(n1, (s2, (IntKind.i64.wrap ((IntKind.u64.wrap (IntKind.i64.wrap (s2 + s3))) / 2 ^ (1 : Int).toNat)))), hl1 _ h.symm⟩ (ai (Nat.lt_succ_self _) ?_)
    refine Gho.to _ _ _ [] ?_ ?_ ?_ rfl rfl ?_
    ·exact trivial
    ·exact rfl
    ·exact rfl
    ·exact ⟨rfl, rfl, trivial, rfl, rfl, trivial, rfl, (noB_fn a2p _), trivial, rfl, rfl, trivial, rfl, rfl, trivial, rfl, rfl, trivial, trivial⟩
  ·replace h := oi h
   replace h := hr1 _ h.symm
   subst h
   refine Gho.to _ _ _ [] ?_ ?_ ?_ rfl rfl ?_
   ·exact W
   ·exact rfl
   ·exact rfl
   ·exact ⟨rfl, rfl, trivial, rfl, rfl, trivial, rfl, (noB_fn a2p _), trivial, rfl, rfl, trivial, rfl, rfl, trivial, trivial⟩
 ·clear hj1
  refine sj <| bind_elim h fun x7 hx7 h => ai id <| ai id ?_
  refine ai rfl (xi (S_Conn.av x7) (ai (fun hg => gidx_map _ hx7 hg) ?_))
  refine ai id <| ai (lb rfl) <| NormE.to (S_Conn.av x7) (fun _ => rfl) <| bind_elim h fun x8 hx8 h => ai id <| ai id <| ai id <| ai (puD_app rfl (puD_of a2p)) ?_
  refine CallF.mk _ false (fun hg => a2h x7 a1 x8 (gcall_some hx8 hg)) (ai rfl ?_)
  exact W
instance upstream_find_1_ok (E : Pm.Env) [LaidM E] (a0 : S_Conn) (a1 : Int) : Ok E (upstream_find_1 a0 a1) (fun r => FnR E Tryz.prog 80 [S_Conn.av a0, ii a1] (ii r) false) := ⟨fun r h => by
 refine FnR.of_ev (T := T) (rows := []) tOk mixed Tryz.func80 rfl (by kernel_rfl) (by kernel_rfl) rfl fun hwf => ?_
 unfold upstream_find_1 at h
 exact W⟩
instance upstream_find_ok (E : Pm.Env) [LaidM E] (a0 : S_Up) (a1 : Int) : Ok E (upstream_find a0 a1) (fun r => FnR E Tryz.prog 36 [S_Up.av a0, ii a1] (AV.tup [ii r.1, bb r.2]) false) := ⟨fun r h => by
 refine FnR.of_ev (T := T) (rows := []) tOk mixed Tryz.func36 rfl (by kernel_rfl) (by kernel_rfl) rfl fun hwf => ?_
 unfold upstream_find at h
 refine sj <| ai rfl ?_
 refine xi [] (xi 0 (ai ⟨rfl, rfl⟩ ?_))
 refine sn <| sj <| bind_elim h fun x1 hx1 h => CallH.data _ false rfl (slices_BinarySearchFunc__api_Conn_api_Conn_int_ok E a0.Conns a1 80 [] (fun x0 x1 => upstream_find_1 x0 x1) (fun x0 x1 r h => (upstream_find_1_ok E x0 x1).1 r h) rfl x1 hx1) <| sn ?_
 replace h := oi h
 refine RetE.plain ?_
 subst h; exact ai rfl (ai rfl rfl)⟩
theorem wire_reading_whole_ok (E : Pm.Env) [LaidM E] (o0 : S_wire_reading) (r : Bool) (o0' : S_wire_reading) (h : wire_reading_whole o0 = some (r, o0')) : FnW E Tryz.prog 108 [AV.ptr 0 0] [.cells 122 (S_wire_reading.cells o0) [(18, 0)]] [1] (bb r) none [.cells 122 (S_wire_reading.cells o0') [(18, 1)]] [0, 1] := by
 refine FnW.of_evB (T := T) (rows := []) tOk mixed Tryz.func108 rfl (by kernel_rfl) (by kernel_rfl) rfl rfl fun hwf => ?_
 unfold wire_reading_whole at h
 refine sj <| sn <| sj <| Or.inl <| ai ⟨lb rfl, lb rfl⟩ ?_
 refine xi (some 0) (ai (show aggT [(18, 0)] 4 7 = some 0 from by kernel_rfl) ?_)
 refine NormE.to (AV.agg [ss o0.Reader.Head.Start.Method, ss o0.Reader.Head.Start.Target, ii o0.Reader.Head.Start.Code, ss o0.Reader.Head.Start.Reason, ii o0.Reader.Head.Start.Minor, AV.list 2 (o0.Reader.Head.Fields.map S_Field.av), ss o0.Reader.Head.Body]) (fun _ => rfl) <| ai ⟨rfl, rfl, rfl, rfl⟩ <| ai ⟨rfl, rfl, rfl⟩ <| NormE.to (AV.list 7 (([o0.Reader.Head] : List S_Message).map S_Message.av)) (fun _ => rfl) <| bind_elim h fun x1 hx1 h => ?_
 have qx1 := (app_some hx1).1
 have hx1e := (app_some hx1).2
 refine ai ⟨rfl, rfl, rfl⟩ <| ai rfl <| ai (app_cond S_Message.av qx1) <| NormE.to (AV.list 7 (x1.map S_Message.av)) (fun _ => (app_list 7 S_Message.av _ _).trans (congrArg (fun y => AV.list 7 (List.map S_Message.av y)) hx1e.symm)) ?_
 refine ai ⟨rfl, rfl, rfl, lb rfl⟩ (xi [bb o0.Reader.Asks, ss o0.Reader.Method, ss o0.Reader.Buf, bb o0.Reader.In, ss o0.Reader.Head.Start.Method, ss o0.Reader.Head.Start.Target, ii o0.Reader.Head.Start.Code, ss o0.Reader.Head.Start.Reason, ii o0.Reader.Head.Start.Minor, AV.list 2 (o0.Reader.Head.Fields.map S_Field.av), ss o0.Reader.Head.Body, ii o0.Reader.Body.Kind, ii o0.Reader.Body.Size, ii o0.Reader.Chunk.Stage, ss o0.Reader.Chunk.Line, ii o0.Reader.Chunk.Left, ii o0.Reader.Chunk.Size, ii o0.Reader.Bad, AV.list 7 (x1.map S_Message.av)] (ai (fun _ => rfl) ?_))
 refine ai (by kernel_rfl) <| sn <| sj ?_
 refine xi (some 69810262081) (ai (okM.mk (show (69810262081 : Nat) = freeM T _ _ _ from by kernel_rfl)) ?_)
 refine xi none (ai trivial ?_)
 refine xi none (ai trivial ?_)
 refine ai ⟨rfl, rfl, rfl, lb rfl⟩ (xi [bb o0.Reader.Asks, ss o0.Reader.Method, ss o0.Reader.Buf, bb o0.Reader.In, ss [], ss [], ii 0, ss [], ii 0, AV.list 2 (([] : List S_Field).map S_Field.av), ss [], ii o0.Reader.Body.Kind, ii o0.Reader.Body.Size, ii o0.Reader.Chunk.Stage, ss o0.Reader.Chunk.Line, ii o0.Reader.Chunk.Left, ii o0.Reader.Chunk.Size, ii o0.Reader.Bad, AV.list 7 (x1.map S_Message.av)] (ai (fun _ => rfl) ?_))
 refine xi [(9, 3), (18, 2)] (xi 1 (ai ⟨(by kernel_rfl), rfl⟩ ?_))
 refine ai ⟨rfl, rfl, rfl, lb rfl⟩ (xi [bb o0.Reader.Asks, ss o0.Reader.Method, ss o0.Reader.Buf, bb o0.Reader.In, ss [], ss [], ii 0, ss [], ii 0, AV.list 2 (([] : List S_Field).map S_Field.av), ss [], ii 0, ii 0, ii o0.Reader.Chunk.Stage, ss o0.Reader.Chunk.Line, ii o0.Reader.Chunk.Left, ii o0.Reader.Chunk.Size, ii o0.Reader.Bad, AV.list 7 (x1.map S_Message.av)] (ai (fun _ => rfl) ?_))
 refine ai ⟨rfl, rfl, rfl, lb rfl⟩ (xi [bb o0.Reader.Asks, ss o0.Reader.Method, ss o0.Reader.Buf, bb o0.Reader.In, ss [], ss [], ii 0, ss [], ii 0, AV.list 2 (([] : List S_Field).map S_Field.av), ss [], ii 0, ii 0, ii 0, ss [], ii 0, ii 0, ii o0.Reader.Bad, AV.list 7 (x1.map S_Message.av)] (ai (fun _ => rfl) ?_))
 refine ai ⟨rfl, rfl, rfl, lb rfl⟩ (xi [bb o0.Reader.Asks, ss o0.Reader.Method, ss o0.Reader.Buf, bb false, ss [], ss [], ii 0, ss [], ii 0, AV.list 2 (([] : List S_Field).map S_Field.av), ss [], ii 0, ii 0, ii 0, ss [], ii 0, ii 0, ii o0.Reader.Bad, AV.list 7 (x1.map S_Message.av)] (ai (fun _ => rfl) ?_))
 refine sn <| sj <| sn ?_
 replace h := oi h
 have h0 := (Prod.mk.inj h).1
 have h1 := (Prod.mk.inj h).2
 subst h0
 subst h1
 refine xi [⟨2, bb true, none⟩] (xi [.cells 122 [bb o0.Reader.Asks, ss o0.Reader.Method, ss o0.Reader.Buf, bb false, ss [], ss [], ii 0, ss [], ii 0, AV.list 2 (([] : List S_Field).map S_Field.av), ss [], ii 0, ii 0, ii 0, ss [], ii 0, ii 0, ii o0.Reader.Bad, AV.list 7 (x1.map S_Message.av)] [(18, 1)]] (ai rfl (ai (Gho.to _ _ _ [0, 2] ?_ ?_ ?_ rfl rfl ?_) (ai ?_ rfl))))
 ·exact ⟨⟨rfl, rfl, rfl⟩, trivial⟩
 ·exact rfl
 ·exact rfl
 ·exact tr3 <| trivial
 ·exact rfl
theorem chunk_state_end_ok (E : Pm.Env) [LaidM E] (o0 : S_chunk_state) (a1 : Bytes) (r : Unit) (o0' : S_chunk_state) (h : chunk_state_end o0 a1 = some (r, o0')) : FnW E Tryz.prog 173 [AV.ptr 0 0, ss a1] [.cells 199 (S_chunk_state.cells o0) []] [] (AV.tup []) none [.cells 199 (S_chunk_state.cells o0') []] [] := by
 refine FnW.of_evB (T := T) (rows := []) tOk mixed Tryz.func173 rfl (by kernel_rfl) (by kernel_rfl) rfl rfl fun hwf => ?_
 unfold chunk_state_end at h
 refine sj ?_
 refine ai ⟨rfl, rfl, rfl, lb rfl⟩ (xi [ii 0, ss o0.Chunked.Line, ii o0.Chunked.Left, ii o0.Chunked.Size, ii o0.bad] (ai (fun _ => rfl) ?_))
 refine sn <| sj <| sn ?_
 refine Br.of h (fun ht h => ?_) fun ht h => ?_
 ·refine ai ⟨rfl, rfl, rfl, lb rfl⟩ (xi [ii 0, ss o0.Chunked.Line, ii o0.Chunked.Left, ii o0.Chunked.Size, ii 33] (ai (fun _ => rfl) ?_))
  replace h := oi h
  have h0 := (Prod.mk.inj h).1
  have h1 := (Prod.mk.inj h).2
  subst h0
  subst h1
  refine xi [] (xi [.cells 199 [ii 0, ss o0.Chunked.Line, ii o0.Chunked.Left, ii o0.Chunked.Size, ii 33] []] (ai rfl (ai (Gho.to _ _ _ [] ?_ ?_ ?_ rfl rfl ?_) (ai ?_ rfl))))
  ·exact ⟨⟨rfl, rfl, rfl⟩, trivial⟩
  ·exact rfl
  ·exact rfl
  ·exact W
  ·exact rfl
 ·replace h := oi h
  have h0 := (Prod.mk.inj h).1
  have h1 := (Prod.mk.inj h).2
  subst h0
  subst h1
  refine xi [] (xi [.cells 199 [ii 0, ss o0.Chunked.Line, ii o0.Chunked.Left, ii o0.Chunked.Size, ii o0.bad] []] (ai rfl (ai (Gho.to _ _ _ [] ?_ ?_ ?_ rfl rfl ?_) (ai ?_ rfl))))
  ·exact W
  ·exact rfl
  ·exact rfl
  ·exact W
  ·exact rfl
theorem chunk_state_tail_ok (E : Pm.Env) [LaidM E] (o0 : S_chunk_state) (a1 : Bytes) (r : Unit) (o0' : S_chunk_state) (h : chunk_state_tail o0 a1 = some (r, o0')) : FnW E Tryz.prog 174 [AV.ptr 0 0, ss a1] [.cells 199 (S_chunk_state.cells o0) []] [] (AV.tup []) none [.cells 199 (S_chunk_state.cells o0') []] [] := by
 refine FnW.of_evB (T := T) (rows := []) tOk mixed Tryz.func174 rfl (by kernel_rfl) (by kernel_rfl) rfl rfl fun hwf => ?_
 unfold chunk_state_tail at h
 refine sj <| sn ?_
 refine Br.of h (fun ht h => ?_) fun ht h => ?_
 ·refine ai ⟨rfl, rfl, rfl, lb rfl⟩ (xi [ii 4, ss o0.Chunked.Line, ii o0.Chunked.Left, ii o0.Chunked.Size, ii o0.bad] (ai (fun _ => rfl) ?_))
  replace h := oi h
  have h0 := (Prod.mk.inj h).1
  have h1 := (Prod.mk.inj h).2
  subst h0
  subst h1
  refine xi [] (xi [.cells 199 [ii 4, ss o0.Chunked.Line, ii o0.Chunked.Left, ii o0.Chunked.Size, ii o0.bad] []] (ai rfl (ai (Gho.to _ _ _ [] ?_ ?_ ?_ rfl rfl ?_) (ai ?_ rfl))))
  ·exact ⟨⟨rfl, rfl, rfl⟩, trivial⟩
  ·exact rfl
  ·exact rfl
  ·exact W
  ·exact rfl
 ·replace h := oi h
  have h0 := (Prod.mk.inj h).1
  have h1 := (Prod.mk.inj h).2
  subst h0
  subst h1
  refine xi [] (xi [.cells 199 (S_chunk_state.cells o0) []] (ai rfl (ai (Gho.to _ _ _ [] ?_ ?_ ?_ rfl rfl ?_) (ai ?_ rfl))))
  ·exact W
  ·exact rfl
  ·exact rfl
  ·exact W
  ·exact rfl
instance number_ReadHex_1_ok (E : Pm.Env) [LaidM E] (a0 : Int) : Ok E (number_ReadHex_1 a0) (fun r => FnR E Tryz.prog 215 [AV.int .u8 a0] (AV.int .u64 r) false) := ⟨fun r h => by
 refine FnR.of_ev (T := T) (rows := []) tOk mixed Tryz.func215 rfl (by kernel_rfl) (by kernel_rfl) rfl fun hwf => ?_
 unfold number_ReadHex_1 at h
 exact W⟩
instance number_ReadHex_ok (E : Pm.Env) [LaidM E] (a0 : Bytes) : Ok E (number_ReadHex a0) (fun r => FnR E Tryz.prog 201 [ss a0] (AV.tup [AV.int .u64 r.1, ii r.2]) false) := ⟨fun r h => by
 refine FnR.of_ev (T := T) (rows := []) tOk mixed Tryz.func201 rfl (by kernel_rfl) (by kernel_rfl) rfl fun hwf => ?_
 unfold number_ReadHex at h
 refine sj <| sn <| sj <| bind_elim h fun x1 hx1 h => CallH.data _ false rfl (number_read_uint64_ok E a0 (16 : Int) 215 [] (fun x0 => number_ReadHex_1 x0) (fun x0 r h => (number_ReadHex_1_ok E x0).1 r h) rfl x1 hx1) <| sn ?_
 replace h := oi h
 refine RetE.plain ?_
 subst h; exact ai rfl (ai rfl rfl)⟩
theorem chunk_state_size_ok (E : Pm.Env) [LaidM E] (o0 : S_chunk_state) (a1 : Bytes) (r : Unit) (o0' : S_chunk_state) (h : chunk_state_size o0 a1 = some (r, o0')) : FnW E Tryz.prog 172 [AV.ptr 0 0, ss a1] [.cells 199 (S_chunk_state.cells o0) []] [] (AV.tup []) none [.cells 199 (S_chunk_state.cells o0') []] [] := by
 refine FnW.of_evB (T := T) (rows := []) tOk mixed Tryz.func172 rfl (by kernel_rfl) (by kernel_rfl) rfl rfl fun hwf => ?_
 unfold chunk_state_size at h
 refine sj <| bind_elim h fun x1 hx1 h => CallH.data _ false rfl ((strings_Cut_ok E a1 ([59] : Bytes)).1 x1 hx1) <| sn <| sj <| bind_elim h fun x2 hx2 h => CallH.data _ false rfl ((text_Trim_ok E x1.1).1 x2 hx2) <| bind_elim h fun x3 hx3 h => CallH.data _ false rfl ((number_ReadHex_ok E x2).1 x3 hx3) <| sn <| sj <| sn ?_
 refine Br.of h (fun ht h => ?_) fun ht h => ?_
 ·refine ai ⟨rfl, rfl, rfl, lb rfl⟩ (xi [ii o0.Chunked.Stage, ss o0.Chunked.Line, ii o0.Chunked.Left, ii o0.Chunked.Size, ii 33] (ai (fun _ => rfl) ?_))
  replace h := oi h
  have h0 := (Prod.mk.inj h).1
  have h1 := (Prod.mk.inj h).2
  subst h0
  subst h1
  refine xi [] (xi [.cells 199 [ii o0.Chunked.Stage, ss o0.Chunked.Line, ii o0.Chunked.Left, ii o0.Chunked.Size, ii 33] []] (ai rfl (ai (Gho.to _ _ _ [] ?_ ?_ ?_ rfl rfl ?_) (ai ?_ rfl))))
  ·exact ⟨⟨rfl, rfl, rfl⟩, trivial⟩
  ·exact rfl
  ·exact rfl
  ·exact W
  ·exact rfl
 ·refine sj <| ai id <| ai id <| ai id <| ai id <| ai id <| ai id <| ai id <| ai id <| ai (fun hg => (and_r hg)) <| sn ?_
  refine Br.of h (fun ht h => ?_) fun ht h => ?_
  ·refine ai ⟨rfl, rfl, rfl, lb rfl⟩ (xi [ii o0.Chunked.Stage, ss o0.Chunked.Line, ii o0.Chunked.Left, ii o0.Chunked.Size, ii 2] (ai (fun _ => rfl) ?_))
   replace h := oi h
   have h0 := (Prod.mk.inj h).1
   have h1 := (Prod.mk.inj h).2
   subst h0
   subst h1
   refine xi [] (xi [.cells 199 [ii o0.Chunked.Stage, ss o0.Chunked.Line, ii o0.Chunked.Left, ii o0.Chunked.Size, ii 2] []] (ai rfl (ai (Gho.to _ _ _ [] ?_ ?_ ?_ rfl rfl ?_) (ai ?_ rfl))))
   ·exact ⟨⟨rfl, rfl, rfl⟩, trivial⟩
   ·exact rfl
   ·exact rfl
   ·exact W
   ·exact rfl
  ·refine sj <| sn ?_
   refine Br.of h (fun ht h => ?_) fun ht h => ?_
   ·refine ai ⟨rfl, rfl, rfl, lb rfl⟩ (xi [ii 3, ss o0.Chunked.Line, ii o0.Chunked.Left, ii o0.Chunked.Size, ii o0.bad] (ai (fun _ => rfl) ?_))
    replace h := oi h
    have h0 := (Prod.mk.inj h).1
    have h1 := (Prod.mk.inj h).2
    subst h0
    subst h1
    refine xi [] (xi [.cells 199 [ii 3, ss o0.Chunked.Line, ii o0.Chunked.Left, ii o0.Chunked.Size, ii o0.bad] []] (ai rfl (ai (Gho.to _ _ _ [] ?_ ?_ ?_ rfl rfl ?_) (ai ?_ rfl))))
    ·exact ⟨⟨rfl, rfl, rfl⟩, trivial⟩
    ·exact rfl
    ·exact rfl
    ·exact W
    ·exact rfl
   ·refine ai ⟨rfl, rfl, rfl, lb rfl⟩ (xi [ii 1, ss o0.Chunked.Line, ii o0.Chunked.Left, ii o0.Chunked.Size, ii o0.bad] (ai (fun _ => rfl) ?_))
    refine ai ⟨rfl, rfl, rfl, lb rfl⟩ (xi [ii 1, ss o0.Chunked.Line, ii (IntKind.i64.wrap x3.1), ii o0.Chunked.Size, ii o0.bad] (ai (fun _ => rfl) ?_))
    replace h := oi h
    have h0 := (Prod.mk.inj h).1
    have h1 := (Prod.mk.inj h).2
    subst h0
    subst h1
    refine xi [] (xi [.cells 199 [ii 1, ss o0.Chunked.Line, ii (IntKind.i64.wrap x3.1), ii o0.Chunked.Size, ii o0.bad] []] (ai rfl (ai (Gho.to _ _ _ [] ?_ ?_ ?_ rfl rfl ?_) (ai ?_ rfl))))
    ·exact W
    ·exact rfl
    ·exact rfl
    ·exact W
    ·exact rfl
theorem chunk_state_line_ok (E : Pm.Env) [LaidM E] (o0 : S_chunk_state) (a1 : Bytes) (r : Int) (o0' : S_chunk_state) (h : chunk_state_line o0 a1 = some (r, o0')) : FnW E Tryz.prog 142 [AV.ptr 0 0, ss a1] [.cells 199 (S_chunk_state.cells o0) []] [] (ii r) none [.cells 199 (S_chunk_state.cells o0') []] [] := by
 refine FnW.of_evB (T := T) (rows := []) tOk mixed Tryz.func142 rfl (by kernel_rfl) (by kernel_rfl) rfl rfl fun hwf => ?_
 unfold chunk_state_line at h
 refine sj <| sn <| sj <| sn <| sj <| sj <| sn <| sj <| sn ?_
 refine Br.of h (fun ht h => ?_) fun ht h => ?_
 ·refine sn <| sj <| bind_elim h fun x1 hx1 h => CallH.data _ false rfl ((strings_IndexByte_ok E a1 (10 : Int)).1 x1 hx1) <| sn <| sj <| sn <| sj <| sj <| sn ?_
  refine Br.of h (fun ht h => ?_) fun ht h => ?_
  ·refine bind_elim h fun x2 hx2 h => ?_
   have qx2 := (slc_some hx2).1
   have hx2e := (slc_some hx2).2
   refine ai (fun _ => qx2) <| NormE.to (ss x2) (fun _ => congrArg ss hx2e.symm) <| sn <| sj <| sj <| NormE.same <| NormE.same <| sn ?_
   refine Br.of h (fun ht h => ?_) fun ht h => ?_
   ·refine sj ?_
    refine ai ⟨rfl, rfl, rfl, lb rfl⟩ (xi [ii o0.Chunked.Stage, ss o0.Chunked.Line, ii o0.Chunked.Left, ii o0.Chunked.Size, ii 33] (ai (fun _ => rfl) ?_))
    refine sn <| sj <| sn ?_
    replace h := oi h
    have h0 := (Prod.mk.inj h).1
    have h1 := (Prod.mk.inj h).2
    subst h0
    subst h1
    refine xi [⟨4, ii 0, none⟩] (xi [.cells 199 [ii o0.Chunked.Stage, ss o0.Chunked.Line, ii o0.Chunked.Left, ii o0.Chunked.Size, ii 33] []] (ai rfl (ai (Gho.to _ _ _ [] ?_ ?_ ?_ rfl rfl ?_) (ai ?_ rfl))))
    ·exact ⟨⟨rfl, rfl, rfl⟩, trivial⟩
    ·exact rfl
    ·exact rfl
    ·exact tr3 <| trivial
    ·exact rfl
   ·refine sn <| sj <| sj <| bind_elim h fun x3 hx3 h => ?_
    have hx3c := (cat_some hx3).1
    have hx3e := (cat_some hx3).2
    refine ai (fun _ => hx3c) <| NormE.to (ss x3) (fun _ => congrArg ss hx3e.symm) ?_
    refine ai ⟨rfl, rfl, rfl, lb rfl⟩ (xi [ii o0.Chunked.Stage, ss x3, ii o0.Chunked.Left, ii o0.Chunked.Size, ii o0.bad] (ai (fun _ => rfl) ?_))
    refine sn <| sj <| sn ?_
    refine Br.of h (fun ht h => ?_) fun ht h => ?_
    ·refine sj <| NormE.same <| sn ?_
     replace h := oi h
     have h0 := (Prod.mk.inj h).1
     have h1 := (Prod.mk.inj h).2
     subst h0
     subst h1
     refine xi [⟨4, ii (a1.length : Int), none⟩] (xi [.cells 199 [ii o0.Chunked.Stage, ss x3, ii o0.Chunked.Left, ii o0.Chunked.Size, ii o0.bad] []] (ai rfl (ai (Gho.to _ _ _ [] ?_ ?_ ?_ rfl rfl ?_) (ai ?_ rfl))))
     ·exact ⟨⟨rfl, rfl, rfl⟩, trivial⟩
     ·exact rfl
     ·exact rfl
     ·exact tr3 <| trivial
     ·exact rfl
    ·refine sn <| sj <| bind_elim h fun x4 hx4 h => CallH.data _ false rfl ((strings_TrimSuffix_ok E x3 ([13] : Bytes)).1 x4 hx4) <| sn <| sj ?_
     refine ai ⟨rfl, rfl, rfl, lb rfl⟩ (xi [ii o0.Chunked.Stage, ss [], ii o0.Chunked.Left, ii o0.Chunked.Size, ii o0.bad] (ai (fun _ => rfl) ?_))
     refine sn <| sj <| bind_elim h fun x5 hx5 h => CallH.ren [0] [] [.cells 199 (S_chunk_state.cells x5.2) []] [] (chunk_state_end_ok E (S_chunk_state.mk (S_Chunked.mk o0.Chunked.Stage ([] : Bytes) o0.Chunked.Left o0.Chunked.Size) o0.bad) x4 x5.1 x5.2 hx5) rfl rfl rfl rfl rfl rfl rfl rfl rfl <| sn <| sj <| sn ?_
     replace h := oi h
     have h0 := (Prod.mk.inj h).1
     have h1 := (Prod.mk.inj h).2
     subst h0
     subst h1
     refine xi [⟨4, ii (IntKind.i64.wrap (x1 + (1 : Int))), none⟩] (xi [.cells 199 (S_chunk_state.cells x5.2) []] (ai rfl (ai (Gho.to _ _ _ [] ?_ ?_ ?_ rfl rfl ?_) (ai ?_ rfl))))
     ·exact ⟨⟨rfl, rfl, rfl⟩, trivial⟩
     ·exact rfl
     ·exact rfl
     ·exact tr3 <| trivial
     ·exact rfl
  ·refine sn <| sj <| sj <| NormE.same <| NormE.same <| sn ?_
   refine Br.of h (fun ht h => ?_) fun ht h => ?_
   ·refine sj ?_
    refine ai ⟨rfl, rfl, rfl, lb rfl⟩ (xi [ii o0.Chunked.Stage, ss o0.Chunked.Line, ii o0.Chunked.Left, ii o0.Chunked.Size, ii 33] (ai (fun _ => rfl) ?_))
    refine sn <| sj <| sn ?_
    replace h := oi h
    have h0 := (Prod.mk.inj h).1
    have h1 := (Prod.mk.inj h).2
    subst h0
    subst h1
    refine xi [⟨4, ii 0, none⟩] (xi [.cells 199 [ii o0.Chunked.Stage, ss o0.Chunked.Line, ii o0.Chunked.Left, ii o0.Chunked.Size, ii 33] []] (ai rfl (ai (Gho.to _ _ _ [] ?_ ?_ ?_ rfl rfl ?_) (ai ?_ rfl))))
    ·exact ⟨⟨rfl, rfl, rfl⟩, trivial⟩
    ·exact rfl
    ·exact rfl
    ·exact tr3 <| trivial
    ·exact rfl
   ·refine sn <| sj <| sj <| bind_elim h fun x6 hx6 h => ?_
    have hx6c := (cat_some hx6).1
    have hx6e := (cat_some hx6).2
    refine ai (fun _ => hx6c) <| NormE.to (ss x6) (fun _ => congrArg ss hx6e.symm) ?_
    refine ai ⟨rfl, rfl, rfl, lb rfl⟩ (xi [ii o0.Chunked.Stage, ss x6, ii o0.Chunked.Left, ii o0.Chunked.Size, ii o0.bad] (ai (fun _ => rfl) ?_))
    refine sn <| sj <| sn ?_
    refine Br.of h (fun ht h => ?_) fun ht h => ?_
    ·refine sj <| NormE.same <| sn ?_
     replace h := oi h
     have h0 := (Prod.mk.inj h).1
     have h1 := (Prod.mk.inj h).2
     subst h0
     subst h1
     refine xi [⟨4, ii (a1.length : Int), none⟩] (xi [.cells 199 [ii o0.Chunked.Stage, ss x6, ii o0.Chunked.Left, ii o0.Chunked.Size, ii o0.bad] []] (ai rfl (ai (Gho.to _ _ _ [] ?_ ?_ ?_ rfl rfl ?_) (ai ?_ rfl))))
     ·exact ⟨⟨rfl, rfl, rfl⟩, trivial⟩
     ·exact rfl
     ·exact rfl
     ·exact tr3 <| trivial
     ·exact rfl
    ·refine sn <| sj <| bind_elim h fun x7 hx7 h => CallH.data _ false rfl ((strings_TrimSuffix_ok E x6 ([13] : Bytes)).1 x7 hx7) <| sn <| sj ?_
     refine ai ⟨rfl, rfl, rfl, lb rfl⟩ (xi [ii o0.Chunked.Stage, ss [], ii o0.Chunked.Left, ii o0.Chunked.Size, ii o0.bad] (ai (fun _ => rfl) ?_))
     refine sn <| sj <| bind_elim h fun x8 hx8 h => CallH.ren [0] [] [.cells 199 (S_chunk_state.cells x8.2) []] [] (chunk_state_end_ok E (S_chunk_state.mk (S_Chunked.mk o0.Chunked.Stage ([] : Bytes) o0.Chunked.Left o0.Chunked.Size) o0.bad) x7 x8.1 x8.2 hx8) rfl rfl rfl rfl rfl rfl rfl rfl rfl <| sn <| sj <| sn ?_
     replace h := oi h
     have h0 := (Prod.mk.inj h).1
     have h1 := (Prod.mk.inj h).2
     subst h0
     subst h1
     refine xi [⟨4, ii (IntKind.i64.wrap (x1 + (1 : Int))), none⟩] (xi [.cells 199 (S_chunk_state.cells x8.2) []] (ai rfl (ai (Gho.to _ _ _ [] ?_ ?_ ?_ rfl rfl ?_) (ai ?_ rfl))))
     ·exact ⟨⟨rfl, rfl, rfl⟩, trivial⟩
     ·exact rfl
     ·exact rfl
     ·exact tr3 <| trivial
     ·exact rfl
 ·refine sj <| sn ?_
  refine Br.of h (fun ht h => ?_) fun ht h => ?_
  ·refine sn <| sj <| bind_elim h fun x9 hx9 h => CallH.data _ false rfl ((strings_IndexByte_ok E a1 (10 : Int)).1 x9 hx9) <| sn <| sj <| sn <| sj <| sj <| sn ?_
   refine Br.of h (fun ht h => ?_) fun ht h => ?_
   ·refine bind_elim h fun x10 hx10 h => ?_
    have qx10 := (slc_some hx10).1
    have hx10e := (slc_some hx10).2
    refine ai (fun _ => qx10) <| NormE.to (ss x10) (fun _ => congrArg ss hx10e.symm) <| sn <| sj <| sj <| NormE.same <| NormE.same <| sn ?_
    refine Br.of h (fun ht h => ?_) fun ht h => ?_
    ·refine sj ?_
     refine ai ⟨rfl, rfl, rfl, lb rfl⟩ (xi [ii o0.Chunked.Stage, ss o0.Chunked.Line, ii o0.Chunked.Left, ii o0.Chunked.Size, ii 33] (ai (fun _ => rfl) ?_))
     refine sn <| sj <| sn ?_
     replace h := oi h
     have h0 := (Prod.mk.inj h).1
     have h1 := (Prod.mk.inj h).2
     subst h0
     subst h1
     refine xi [⟨4, ii 0, none⟩] (xi [.cells 199 [ii o0.Chunked.Stage, ss o0.Chunked.Line, ii o0.Chunked.Left, ii o0.Chunked.Size, ii 33] []] (ai rfl (ai (Gho.to _ _ _ [] ?_ ?_ ?_ rfl rfl ?_) (ai ?_ rfl))))
     ·exact ⟨⟨rfl, rfl, rfl⟩, trivial⟩
     ·exact rfl
     ·exact rfl
     ·exact tr3 <| trivial
     ·exact rfl
    ·refine sn <| sj <| sj <| bind_elim h fun x11 hx11 h => ?_
     have hx11c := (cat_some hx11).1
     have hx11e := (cat_some hx11).2
     refine ai (fun _ => hx11c) <| NormE.to (ss x11) (fun _ => congrArg ss hx11e.symm) ?_
     refine ai ⟨rfl, rfl, rfl, lb rfl⟩ (xi [ii o0.Chunked.Stage, ss x11, ii o0.Chunked.Left, ii o0.Chunked.Size, ii o0.bad] (ai (fun _ => rfl) ?_))
     refine sn <| sj <| sn ?_
     refine Br.of h (fun ht h => ?_) fun ht h => ?_
     ·refine sj <| NormE.same <| sn ?_
      replace h := oi h
      have h0 := (Prod.mk.inj h).1
      have h1 := (Prod.mk.inj h).2
      subst h0
      subst h1
      refine xi [⟨4, ii (a1.length : Int), none⟩] (xi [.cells 199 [ii o0.Chunked.Stage, ss x11, ii o0.Chunked.Left, ii o0.Chunked.Size, ii o0.bad] []] (ai rfl (ai (Gho.to _ _ _ [] ?_ ?_ ?_ rfl rfl ?_) (ai ?_ rfl))))
      ·exact ⟨⟨rfl, rfl, rfl⟩, trivial⟩
      ·exact rfl
      ·exact rfl
      ·exact tr3 <| trivial
      ·exact rfl
     ·refine sn <| sj <| bind_elim h fun x12 hx12 h => CallH.data _ false rfl ((strings_TrimSuffix_ok E x11 ([13] : Bytes)).1 x12 hx12) <| sn <| sj ?_
      refine ai ⟨rfl, rfl, rfl, lb rfl⟩ (xi [ii o0.Chunked.Stage, ss [], ii o0.Chunked.Left, ii o0.Chunked.Size, ii o0.bad] (ai (fun _ => rfl) ?_))
      refine sn <| sj <| bind_elim h fun x13 hx13 h => CallH.ren [0] [] [.cells 199 (S_chunk_state.cells x13.2) []] [] (chunk_state_tail_ok E (S_chunk_state.mk (S_Chunked.mk o0.Chunked.Stage ([] : Bytes) o0.Chunked.Left o0.Chunked.Size) o0.bad) x12 x13.1 x13.2 hx13) rfl rfl rfl rfl rfl rfl rfl rfl rfl <| sn <| sj <| sn ?_
      replace h := oi h
      have h0 := (Prod.mk.inj h).1
      have h1 := (Prod.mk.inj h).2
      subst h0
      subst h1
      refine xi [⟨4, ii (IntKind.i64.wrap (x9 + (1 : Int))), none⟩] (xi [.cells 199 (S_chunk_state.cells x13.2) []] (ai rfl (ai (Gho.to _ _ _ [] ?_ ?_ ?_ rfl rfl ?_) (ai ?_ rfl))))
      ·exact ⟨⟨rfl, rfl, rfl⟩, trivial⟩
      ·exact rfl
      ·exact rfl
      ·exact tr3 <| trivial
      ·exact rfl
   ·refine sn <| sj <| sj <| NormE.same <| NormE.same <| sn ?_
    refine Br.of h (fun ht h => ?_) fun ht h => ?_
    ·refine sj ?_
     refine ai ⟨rfl, rfl, rfl, lb rfl⟩ (xi [ii o0.Chunked.Stage, ss o0.Chunked.Line, ii o0.Chunked.Left, ii o0.Chunked.Size, ii 33] (ai (fun _ => rfl) ?_))
     refine sn <| sj <| sn ?_
     replace h := oi h
     have h0 := (Prod.mk.inj h).1
     have h1 := (Prod.mk.inj h).2
     subst h0
     subst h1
     refine xi [⟨4, ii 0, none⟩] (xi [.cells 199 [ii o0.Chunked.Stage, ss o0.Chunked.Line, ii o0.Chunked.Left, ii o0.Chunked.Size, ii 33] []] (ai rfl (ai (Gho.to _ _ _ [] ?_ ?_ ?_ rfl rfl ?_) (ai ?_ rfl))))
     ·exact ⟨⟨rfl, rfl, rfl⟩, trivial⟩
     ·exact rfl
     ·exact rfl
     ·exact tr3 <| trivial
     ·exact rfl
    ·refine sn <| sj <| sj <| bind_elim h fun x14 hx14 h => ?_
     have hx14c := (cat_some hx14).1
     have hx14e := (cat_some hx14).2
     refine ai (fun _ => hx14c) <| NormE.to (ss x14) (fun _ => congrArg ss hx14e.symm) ?_
     refine ai ⟨rfl, rfl, rfl, lb rfl⟩ (xi [ii o0.Chunked.Stage, ss x14, ii o0.Chunked.Left, ii o0.Chunked.Size, ii o0.bad] (ai (fun _ => rfl) ?_))
     refine sn <| sj <| sn ?_
     refine Br.of h (fun ht h => ?_) fun ht h => ?_
     ·refine sj <| NormE.same <| sn ?_
      replace h := oi h
      have h0 := (Prod.mk.inj h).1
      have h1 := (Prod.mk.inj h).2
      subst h0
      subst h1
      refine xi [⟨4, ii (a1.length : Int), none⟩] (xi [.cells 199 [ii o0.Chunked.Stage, ss x14, ii o0.Chunked.Left, ii o0.Chunked.Size, ii o0.bad] []] (ai rfl (ai (Gho.to _ _ _ [] ?_ ?_ ?_ rfl rfl ?_) (ai ?_ rfl))))
      ·exact ⟨⟨rfl, rfl, rfl⟩, trivial⟩
      ·exact rfl
      ·exact rfl
      ·exact tr3 <| trivial
      ·exact rfl
     ·refine sn <| sj <| bind_elim h fun x15 hx15 h => CallH.data _ false rfl ((strings_TrimSuffix_ok E x14 ([13] : Bytes)).1 x15 hx15) <| sn <| sj ?_
      refine ai ⟨rfl, rfl, rfl, lb rfl⟩ (xi [ii o0.Chunked.Stage, ss [], ii o0.Chunked.Left, ii o0.Chunked.Size, ii o0.bad] (ai (fun _ => rfl) ?_))
      refine sn <| sj <| bind_elim h fun x16 hx16 h => CallH.ren [0] [] [.cells 199 (S_chunk_state.cells x16.2) []] [] (chunk_state_tail_ok E (S_chunk_state.mk (S_Chunked.mk o0.Chunked.Stage ([] : Bytes) o0.Chunked.Left o0.Chunked.Size) o0.bad) x15 x16.1 x16.2 hx16) rfl rfl rfl rfl rfl rfl rfl rfl rfl <| sn <| sj <| sn ?_
      replace h := oi h
      have h0 := (Prod.mk.inj h).1
      have h1 := (Prod.mk.inj h).2
      subst h0
      subst h1
      refine xi [⟨4, ii (IntKind.i64.wrap (x9 + (1 : Int))), none⟩] (xi [.cells 199 (S_chunk_state.cells x16.2) []] (ai rfl (ai (Gho.to _ _ _ [] ?_ ?_ ?_ rfl rfl ?_) (ai ?_ rfl))))
      ·exact ⟨⟨rfl, rfl, rfl⟩, trivial⟩
      ·exact rfl
      ·exact rfl
      ·exact tr3 <| trivial
      ·exact rfl
  ·refine sn <| sj <| bind_elim h fun x17 hx17 h => CallH.data _ false rfl ((strings_IndexByte_ok E a1 (10 : Int)).1 x17 hx17) <| sn <| sj <| sn <| sj <| sj <| sn ?_
   refine Br.of h (fun ht h => ?_) fun ht h => ?_
   ·refine bind_elim h fun x18 hx18 h => ?_
    have qx18 := (slc_some hx18).1
    have hx18e := (slc_some hx18).2
    refine ai (fun _ => qx18) <| NormE.to (ss x18) (fun _ => congrArg ss hx18e.symm) <| sn <| sj <| sj <| NormE.same <| NormE.same <| sn ?_
    refine Br.of h (fun ht h => ?_) fun ht h => ?_
    ·refine sj ?_
     refine ai ⟨rfl, rfl, rfl, lb rfl⟩ (xi [ii o0.Chunked.Stage, ss o0.Chunked.Line, ii o0.Chunked.Left, ii o0.Chunked.Size, ii 33] (ai (fun _ => rfl) ?_))
     refine sn <| sj <| sn ?_
     replace h := oi h
     have h0 := (Prod.mk.inj h).1
     have h1 := (Prod.mk.inj h).2
     subst h0
     subst h1
     refine xi [⟨4, ii 0, none⟩] (xi [.cells 199 [ii o0.Chunked.Stage, ss o0.Chunked.Line, ii o0.Chunked.Left, ii o0.Chunked.Size, ii 33] []] (ai rfl (ai (Gho.to _ _ _ [] ?_ ?_ ?_ rfl rfl ?_) (ai ?_ rfl))))
     ·exact ⟨⟨rfl, rfl, rfl⟩, trivial⟩
     ·exact rfl
     ·exact rfl
     ·exact tr3 <| trivial
     ·exact rfl
    ·refine sn <| sj <| sj <| bind_elim h fun x19 hx19 h => ?_
     have hx19c := (cat_some hx19).1
     have hx19e := (cat_some hx19).2
     refine ai (fun _ => hx19c) <| NormE.to (ss x19) (fun _ => congrArg ss hx19e.symm) ?_
     refine ai ⟨rfl, rfl, rfl, lb rfl⟩ (xi [ii o0.Chunked.Stage, ss x19, ii o0.Chunked.Left, ii o0.Chunked.Size, ii o0.bad] (ai (fun _ => rfl) ?_))
     refine sn <| sj <| sn ?_
     refine Br.of h (fun ht h => ?_) fun ht h => ?_
     ·refine sj <| NormE.same <| sn ?_
      replace h := oi h
      have h0 := (Prod.mk.inj h).1
      have h1 := (Prod.mk.inj h).2
      subst h0
      subst h1
      refine xi [⟨4, ii (a1.length : Int), none⟩] (xi [.cells 199 [ii o0.Chunked.Stage, ss x19, ii o0.Chunked.Left, ii o0.Chunked.Size, ii o0.bad] []] (ai rfl (ai (Gho.to _ _ _ [] ?_ ?_ ?_ rfl rfl ?_) (ai ?_ rfl))))
      ·exact ⟨⟨rfl, rfl, rfl⟩, trivial⟩
      ·exact rfl
      ·exact rfl
      ·exact tr3 <| trivial
      ·exact rfl
     ·refine sn <| sj <| bind_elim h fun x20 hx20 h => CallH.data _ false rfl ((strings_TrimSuffix_ok E x19 ([13] : Bytes)).1 x20 hx20) <| sn <| sj ?_
      refine ai ⟨rfl, rfl, rfl, lb rfl⟩ (xi [ii o0.Chunked.Stage, ss [], ii o0.Chunked.Left, ii o0.Chunked.Size, ii o0.bad] (ai (fun _ => rfl) ?_))
      refine sn <| sj <| bind_elim h fun x21 hx21 h => CallH.ren [0] [] [.cells 199 (S_chunk_state.cells x21.2) []] [] (chunk_state_size_ok E (S_chunk_state.mk (S_Chunked.mk o0.Chunked.Stage ([] : Bytes) o0.Chunked.Left o0.Chunked.Size) o0.bad) x20 x21.1 x21.2 hx21) rfl rfl rfl rfl rfl rfl rfl rfl rfl <| sn <| sj <| sn ?_
      replace h := oi h
      have h0 := (Prod.mk.inj h).1
      have h1 := (Prod.mk.inj h).2
      subst h0
      subst h1
      refine xi [⟨4, ii (IntKind.i64.wrap (x17 + (1 : Int))), none⟩] (xi [.cells 199 (S_chunk_state.cells x21.2) []] (ai rfl (ai (Gho.to _ _ _ [] ?_ ?_ ?_ rfl rfl ?_) (ai ?_ rfl))))
      ·exact ⟨⟨rfl, rfl, rfl⟩, trivial⟩
      ·exact rfl
      ·exact rfl
      ·exact tr3 <| trivial
      ·exact rfl
   ·refine sn <| sj <| sj <| NormE.same <| NormE.same <| sn ?_
    refine Br.of h (fun ht h => ?_) fun ht h => ?_
    ·refine sj ?_
     refine ai ⟨rfl, rfl, rfl, lb rfl⟩ (xi [ii o0.Chunked.Stage, ss o0.Chunked.Line, ii o0.Chunked.Left, ii o0.Chunked.Size, ii 33] (ai (fun _ => rfl) ?_))
     refine sn <| sj <| sn ?_
     replace h := oi h
     have h0 := (Prod.mk.inj h).1
     have h1 := (Prod.mk.inj h).2
     subst h0
     subst h1
     refine xi [⟨4, ii 0, none⟩] (xi [.cells 199 [ii o0.Chunked.Stage, ss o0.Chunked.Line, ii o0.Chunked.Left, ii o0.Chunked.Size, ii 33] []] (ai rfl (ai (Gho.to _ _ _ [] ?_ ?_ ?_ rfl rfl ?_) (ai ?_ rfl))))
     ·exact ⟨⟨rfl, rfl, rfl⟩, trivial⟩
     ·exact rfl
     ·exact rfl
     ·exact tr3 <| trivial
     ·exact rfl
    ·refine sn <| sj <| sj <| bind_elim h fun x22 hx22 h => ?_
     have hx22c := (cat_some hx22).1
     have hx22e := (cat_some hx22).2
     refine ai (fun _ => hx22c) <| NormE.to (ss x22) (fun _ => congrArg ss hx22e.symm) ?_
     refine ai ⟨rfl, rfl, rfl, lb rfl⟩ (xi [ii o0.Chunked.Stage, ss x22, ii o0.Chunked.Left, ii o0.Chunked.Size, ii o0.bad] (ai (fun _ => rfl) ?_))
     refine sn <| sj <| sn ?_
     refine Br.of h (fun ht h => ?_) fun ht h => ?_
     ·refine sj <| NormE.same <| sn ?_
      replace h := oi h
      have h0 := (Prod.mk.inj h).1
      have h1 := (Prod.mk.inj h).2
      subst h0
      subst h1
      refine xi [⟨4, ii (a1.length : Int), none⟩] (xi [.cells 199 [ii o0.Chunked.Stage, ss x22, ii o0.Chunked.Left, ii o0.Chunked.Size, ii o0.bad] []] (ai rfl (ai (Gho.to _ _ _ [] ?_ ?_ ?_ rfl rfl ?_) (ai ?_ rfl))))
      ·exact ⟨⟨rfl, rfl, rfl⟩, trivial⟩
      ·exact rfl
      ·exact rfl
      ·exact tr3 <| trivial
      ·exact rfl
     ·refine sn <| sj <| bind_elim h fun x23 hx23 h => CallH.data _ false rfl ((strings_TrimSuffix_ok E x22 ([13] : Bytes)).1 x23 hx23) <| sn <| sj ?_
      refine ai ⟨rfl, rfl, rfl, lb rfl⟩ (xi [ii o0.Chunked.Stage, ss [], ii o0.Chunked.Left, ii o0.Chunked.Size, ii o0.bad] (ai (fun _ => rfl) ?_))
      refine sn <| sj <| bind_elim h fun x24 hx24 h => CallH.ren [0] [] [.cells 199 (S_chunk_state.cells x24.2) []] [] (chunk_state_size_ok E (S_chunk_state.mk (S_Chunked.mk o0.Chunked.Stage ([] : Bytes) o0.Chunked.Left o0.Chunked.Size) o0.bad) x23 x24.1 x24.2 hx24) rfl rfl rfl rfl rfl rfl rfl rfl rfl <| sn <| sj <| sn ?_
      replace h := oi h
      have h0 := (Prod.mk.inj h).1
      have h1 := (Prod.mk.inj h).2
      subst h0
      subst h1
      refine xi [⟨4, ii (IntKind.i64.wrap (x17 + (1 : Int))), none⟩] (xi [.cells 199 (S_chunk_state.cells x24.2) []] (ai rfl (ai (Gho.to _ _ _ [] ?_ ?_ ?_ rfl rfl ?_) (ai ?_ rfl))))
      ·exact ⟨⟨rfl, rfl, rfl⟩, trivial⟩
      ·exact rfl
      ·exact rfl
      ·exact tr3 <| trivial
      ·exact rfl
end Go.Proofs.YtommkfooolabhaaGreatDoor
