/-
  The functions do what their images say: walks, written by a program of mine (gen.py).
-/
import Derived.Test.YtommkfooolabhaaGreatDoorIw1
import Derived.Test.YtommkfooolabhaaGreatDoorGh1
import Derived.Test.YtommkfooolabhaaGreatDoorBd3
import Derived.Test.YtommkfooolabhaaGreatDoorPm31
namespace Go.Proofs.YtommkfooolabhaaGreatDoor
open Go Go.Pm
set_option linter.unusedSimpArgs false
open And renaming intro → ai
open Exists renaming intro → xi
open Option.some renaming inj → oi
open _root_.Nat renaming le_of_ble_eq_true → lb
open Go.Pm.SeqJ renaming go → sj
open Go.Pm.SeqN renaming go → sn
set_option maxRecDepth 100000
set_option maxHeartbeats 1200000
set_option linter.unusedVariables false
instance head_End_ok_i (E : Pm.Env) [LaidM E] (a0 : Bytes) : Ok E (head_End a0) (fun r => FnR E Tryz.prog 101 [ss a0] (AV.tup [ii r.1, ii r.2]) false) := ⟨head_End_ok E a0⟩
instance head_Parse_ok_i (E : Pm.Env) [LaidM E] (a0 : Bytes) : Ok E (head_Parse a0) (fun r => FnR E Tryz.prog 107 [ss a0] (AV.tup [AV.list 2 (r.1.map S_Field.av), ii r.2]) false) := ⟨head_Parse_ok E a0⟩
instance : Enc S_Fetch S_Fetch.av := ⟨trivial⟩
instance : Enc S_Start S_Start.av := ⟨trivial⟩
instance : Enc S_Message S_Message.av := ⟨trivial⟩
instance : Enc S_Body S_Body.av := ⟨trivial⟩
instance : Enc S_Chunked S_Chunked.av := ⟨trivial⟩
instance : Enc S_Reader S_Reader.av := ⟨trivial⟩
instance : Enc S_Conn S_Conn.av := ⟨trivial⟩
instance : Enc S_Up S_Up.av := ⟨trivial⟩
instance : Enc S_Act S_Act.av := ⟨trivial⟩
instance : Enc S_upstream_work S_upstream_work.av := ⟨trivial⟩
instance : Enc S_wire_reading S_wire_reading.av := ⟨trivial⟩
theorem meth_112_Len : MethV Tryz.prog 112 "Len" 243 := methV (e := 111) (fun w b o args => by kernel_rfl) (fun w b o => by kernel_rfl)
theorem meth_112_Swap : MethV Tryz.prog 112 "Swap" 245 := methV (e := 111) (fun w b o args => by kernel_rfl) (fun w b o => by kernel_rfl)
theorem meth_112_Pop : MethP Tryz.prog 112 "Pop" 246 := fun w b o args => by kernel_rfl
theorem intarsialaw22_few_ok (E : Pm.Env) [LaidE E] (a0 : S_Fetch) (r : S_Fetch) (h : intarsialaw22_few a0 = some r) : FnR E Tryz.prog 9 [S_Fetch.av a0] (S_Fetch.av r) false := by
 refine FnR.of_ev (T := T) (rows := []) tOk mixed Tryz.func9 rfl (by kernel_rfl) (by kernel_rfl) rfl fun hwf => ?_
 unfold intarsialaw22_few at h
 exact W
instance intarsialaw22_few_ok_i (E : Pm.Env) [LaidE E] (a0 : S_Fetch) : Ok E (intarsialaw22_few a0) (fun r => FnR E Tryz.prog 9 [S_Fetch.av a0] (S_Fetch.av r) false) := ⟨intarsialaw22_few_ok E a0⟩
theorem upstream_to_ok (E : Pm.Env) [LaidE E] (a0 : Bytes) (r : Bytes) (h : upstream_to a0 = some r) : FnR E Tryz.prog 74 [ss a0] (AV.fn 122 [] [AV.iptr [ss r]]) false := by
 refine FnR.of_ev (T := T) (rows := []) tOk mixed Tryz.func74 rfl (by kernel_rfl) (by kernel_rfl) rfl fun hwf => ?_
 unfold upstream_to at h
 refine sj <| ai rfl ?_
 refine xi [] (xi 0 (ai ⟨rfl, rfl⟩ ?_))
 refine sn <| sj <| sn ?_
 replace h := oi h
 refine RetE.frz ?_
 exact xi _ (ai (Frz.fn1 (Frz.ptrD rfl rfl (lb rfl))) (ai (congrArg (fun r : Bytes => AV.fn 122 [] [AV.iptr [ss r]]) h) rfl))
instance upstream_to_ok_i (E : Pm.Env) [LaidE E] (a0 : Bytes) : Ok E (upstream_to a0) (fun r => FnR E Tryz.prog 74 [ss a0] (AV.fn 122 [] [AV.iptr [ss r]]) false) := ⟨upstream_to_ok E a0⟩
theorem upstream_count_ok (E : Pm.Env) [LaidE E] (a0 : (List S_Conn)) (a1 : FuncId) (a1c : List AV) (a1i : S_Conn → Option Bool) (a1h : ∀ (x0 : S_Conn) (r : Bool), a1i x0 = some r → FnR E Tryz.prog a1 ([S_Conn.av x0] ++ a1c) (bb r) false) (a1p : a1c.all AV.puB = true) (r : Int) (h : upstream_count a0 a1i = some r) : FnR E Tryz.prog 77 [AV.list 29 (a0.map S_Conn.av), AV.fn a1 [] a1c] (ii r) false := by
 refine FnR.of_ev (T := T) (rows := []) tOk mixed Tryz.func77 rfl (by kernel_rfl) (by kernel_rfl) rfl fun hwf => ?_
 unfold upstream_count at h
 refine sj <| sn <| sj <| sn <| bind_elim h fun j1 hj1 h => ?_
 refine SeqJ.join (St.of [⟨5, ii j1, none⟩] [] []) ?_ ?_
 ·clear h; have h := hj1; clear hj1
  refine sj <| NormE.to (ii (a0.length : Int)) (fun _ => len_list S_Conn.av a0) <| sn ?_
  refine LoopE.img (fun x : (Int × Int) => St.of [⟨1, AV.fn a1 [] a1c, none⟩, ⟨5, ii x.1, none⟩, ⟨8, AV.list 29 (a0.map S_Conn.av), none⟩, ⟨9, ii (a0.length : Int), none⟩, ⟨10, ii x.2, none⟩] [] []) (upstream_count_b1 a0 a1i) ((0 : Int), (0 : Int)) h ?_ ?_
  ·exact gT []
  intro n1 x y1 h hl1 hr1
  obtain ⟨s2, s3⟩ := x
  unfold upstream_count_b1 at h
  dsimp only at h
  refine sj <| sn <| sj ?_
  refine Br.of h (fun ht h => ?_) fun ht h => ?_
  ·refine sn <| sj <| sj <| bind_elim h fun x4 hx4 h => ?_
   refine ai rfl (xi (S_Conn.av x4) (ai (fun hg => idx_map _ hx4) ?_))
   refine ai (lb rfl) <| NormE.to (S_Conn.av x4) (fun _ => rfl) <| ai rfl ?_
   refine ai ⟨rfl, rfl, rfl, lb rfl⟩ (xi (S_Conn.cells x4) (ai (fun _ => rfl) ?_))
   refine sn <| sj <| ai ⟨lb rfl, lb rfl⟩ ?_
   refine xi none (ai rfl ?_)
   refine NormE.to (S_Conn.av x4) (fun _ => rfl) <| bind_elim h fun x5 hx5 h => CallH.data _ false (puD_app rfl (puD_of a1p)) (a1h x4 x5 hx5) ?_
   exact W
  ·exact W
 ·clear hj1
  exact W
theorem upstream_idle_ok (E : Pm.Env) [LaidE E] (a0 : S_Conn) (r : Bool) (h : upstream_idle a0 = some r) : FnR E Tryz.prog 37 [S_Conn.av a0] (bb r) false := by
 refine FnR.of_ev (T := T) (rows := []) tOk mixed Tryz.func37 rfl (by kernel_rfl) (by kernel_rfl) rfl fun hwf => ?_
 unfold upstream_idle at h
 exact W
instance upstream_idle_ok_i (E : Pm.Env) [LaidE E] (a0 : S_Conn) : Ok E (upstream_idle a0) (fun r => FnR E Tryz.prog 37 [S_Conn.av a0] (bb r) false) := ⟨upstream_idle_ok E a0⟩
theorem upstream_free_1_ok (E : Pm.Env) [LaidE E] (a0 : S_Conn) (c0 : FuncId) (c0c : List AV) (c0i : S_Conn → Option Bool) (c0h : ∀ (x0 : S_Conn) (r : Bool), c0i x0 = some r → FnR E Tryz.prog c0 ([S_Conn.av x0] ++ c0c) (bb r) false) (c0p : c0c.all AV.puB = true) (r : Bool) (h : upstream_free_1 a0 c0i = some r) : FnR E Tryz.prog 97 [S_Conn.av a0, AV.iptr [AV.fn c0 [] c0c]] (bb r) false := by
 refine FnR.of_ev (T := T) (rows := []) tOk mixed Tryz.func97 rfl (by kernel_rfl) (by kernel_rfl) rfl fun hwf => ?_
 unfold upstream_free_1 at h
 refine sj <| ai rfl ?_
 refine xi [] (xi 0 (ai ⟨rfl, rfl⟩ ?_))
 refine sn <| sj <| ai ⟨lb rfl, lb rfl⟩ ?_
 refine xi none (ai rfl ?_)
 refine NormE.to (S_Conn.av a0) (fun _ => rfl) <| bind_elim h fun x1 hx1 h => CallH.data _ false (puD_app rfl (puD_of c0p)) (c0h a0 x1 hx1) <| ai ⟨lb rfl, lb rfl⟩ ?_
 refine xi none (ai rfl ?_)
 refine NormE.to (S_Conn.av a0) (fun _ => rfl) <| bind_elim h fun x2 hx2 h => ai id <| ai rfl ?_
 refine CallF.mk _ false (fun hg => upstream_idle_ok E a0 x2 (gcall_some hx2 hg)) (ai rfl ?_)
 refine ai (fun hg => (and_r hg)) <| sn ?_
 replace h := oi h
 refine RetE.plain ?_
 subst h; exact ai rfl (ai rfl rfl)
theorem upstream_to_1_ok (E : Pm.Env) [LaidE E] (a0 : S_Conn) (c0 : Bytes) (r : Bool) (h : upstream_to_1 a0 c0 = some r) : FnR E Tryz.prog 122 [S_Conn.av a0, AV.iptr [ss c0]] (bb r) false := by
 refine FnR.of_ev (T := T) (rows := []) tOk mixed Tryz.func122 rfl (by kernel_rfl) (by kernel_rfl) rfl fun hwf => ?_
 unfold upstream_to_1 at h
 exact W
instance upstream_to_1_ok_i (E : Pm.Env) [LaidE E] (a0 : S_Conn) (c0 : Bytes) : Ok E (upstream_to_1 a0 c0) (fun r => FnR E Tryz.prog 122 [S_Conn.av a0, AV.iptr [ss c0]] (bb r) false) := ⟨upstream_to_1_ok E a0 c0⟩
theorem upstream_free_ok (E : Pm.Env) [LaidE E] (a0 : (List S_Conn)) (a1 : Bytes) (r : (Int × Int)) (h : upstream_free a0 a1 = some r) : FnR E Tryz.prog 55 [AV.list 29 (a0.map S_Conn.av), ss a1] (AV.tup [ii r.1, ii r.2]) false := by
 refine FnR.of_ev (T := T) (rows := []) tOk mixed Tryz.func55 rfl (by kernel_rfl) (by kernel_rfl) rfl fun hwf => ?_
 unfold upstream_free at h
 refine sj <| sn <| sj <| bind_elim h fun x1 hx1 h => CallH.data _ false rfl (upstream_to_ok E a1 x1 hx1) <| ai rfl ?_
 refine ai ⟨rfl, rfl, rfl, lb rfl⟩ (xi [AV.fn 122 [] [AV.iptr [ss x1]]] (ai (fun _ => rfl) ?_))
 refine sn <| sj <| Or.inl <| bind_elim h fun x2 hx2 h => CallH.lend [0] _ _ _ rfl (upstream_count_ok E a0 97 [AV.iptr [AV.fn 122 [] [AV.iptr [ss x1]]]] (fun x0 => upstream_free_1 x0 (fun x0 => upstream_to_1 x0 x1)) (fun x0 r h => upstream_free_1_ok E x0 122 [AV.iptr [ss x1]] (fun x0 => upstream_to_1 x0 x1) (fun x0 r h => upstream_to_1_ok E x0 x1 r h) rfl r h) rfl x2 hx2) (Lend.of [0] ⟨Frz.pure _ (AV.puD_ok rfl), Frz.fn1 (Frz.ptrD rfl rfl (lb rfl)), trivial⟩) <| bind_elim h fun x3 hx3 h => CallH.data _ false rfl (upstream_count_ok E a0 122 [AV.iptr [ss x1]] (fun x0 => upstream_to_1 x0 x1) (fun x0 r h => upstream_to_1_ok E x0 x1 r h) rfl x3 hx3) <| ai (by kernel_rfl) <| sn ?_
 replace h := oi h
 refine RetE.plain ?_
 subst h; exact ai rfl (ai rfl rfl)
instance upstream_free_ok_i (E : Pm.Env) [LaidE E] (a0 : (List S_Conn)) (a1 : Bytes) : Ok E (upstream_free a0 a1) (fun r => FnR E Tryz.prog 55 [AV.list 29 (a0.map S_Conn.av), ss a1] (AV.tup [ii r.1, ii r.2]) false) := ⟨upstream_free_ok E a0 a1⟩
theorem wire_empty_ok (E : Pm.Env) [LaidE E] (a0 : S_Message) (r : Bool) (h : wire_empty a0 = some r) : FnR E Tryz.prog 128 [S_Message.av a0] (bb r) false := by
 refine FnR.of_ev (T := T) (rows := []) tOk mixed Tryz.func128 rfl (by kernel_rfl) (by kernel_rfl) rfl fun hwf => ?_
 unfold wire_empty at h
 exact W
instance wire_empty_ok_i (E : Pm.Env) [LaidE E] (a0 : S_Message) : Ok E (wire_empty a0) (fun r => FnR E Tryz.prog 128 [S_Message.av a0] (bb r) false) := ⟨wire_empty_ok E a0⟩
theorem wire_bare_ok (E : Pm.Env) [LaidE E] (a0 : S_Reader) (r : Bool) (h : wire_bare a0 = some r) : FnR E Tryz.prog 94 [S_Reader.av a0] (bb r) false := by
 refine FnR.of_ev (T := T) (rows := []) tOk mixed Tryz.func94 rfl (by kernel_rfl) (by kernel_rfl) rfl fun hwf => ?_
 unfold wire_bare at h
 exact W
instance wire_bare_ok_i (E : Pm.Env) [LaidE E] (a0 : S_Reader) : Ok E (wire_bare a0) (fun r => FnR E Tryz.prog 94 [S_Reader.av a0] (bb r) false) := ⟨wire_bare_ok E a0⟩
theorem wire_Right_ok (E : Pm.Env) [LaidE E] (a0 : S_Reader) (r : Bool) (h : wire_Right a0 = some r) : FnR E Tryz.prog 54 [S_Reader.av a0] (bb r) false := by
 refine FnR.of_ev (T := T) (rows := []) tOk mixed Tryz.func54 rfl (by kernel_rfl) (by kernel_rfl) rfl fun hwf => ?_
 unfold wire_Right at h
 exact W
instance wire_Right_ok_i (E : Pm.Env) [LaidE E] (a0 : S_Reader) : Ok E (wire_Right a0) (fun r => FnR E Tryz.prog 54 [S_Reader.av a0] (bb r) false) := ⟨wire_Right_ok E a0⟩
theorem upstream_fresh_ok (E : Pm.Env) [LaidE E] (a0 : S_Reader) (r : Bool) (h : upstream_fresh a0 = some r) : FnR E Tryz.prog 41 [S_Reader.av a0] (bb r) false := by
 refine FnR.of_ev (T := T) (rows := []) tOk mixed Tryz.func41 rfl (by kernel_rfl) (by kernel_rfl) rfl fun hwf => ?_
 unfold upstream_fresh at h
 exact W
instance upstream_fresh_ok_i (E : Pm.Env) [LaidE E] (a0 : S_Reader) : Ok E (upstream_fresh a0) (fun r => FnR E Tryz.prog 41 [S_Reader.av a0] (bb r) false) := ⟨upstream_fresh_ok E a0⟩
theorem upstream_conn_ok (E : Pm.Env) [LaidE E] (a0 : S_Conn) (r : Bool) (h : upstream_conn a0 = some r) : FnR E Tryz.prog 56 [S_Conn.av a0] (bb r) false := by
 refine FnR.of_ev (T := T) (rows := []) tOk mixed Tryz.func56 rfl (by kernel_rfl) (by kernel_rfl) rfl fun hwf => ?_
 unfold upstream_conn at h
 exact W
instance upstream_conn_ok_i (E : Pm.Env) [LaidE E] (a0 : S_Conn) : Ok E (upstream_conn a0) (fun r => FnR E Tryz.prog 56 [S_Conn.av a0] (bb r) false) := ⟨upstream_conn_ok E a0⟩
theorem upstream_fetches_ok (E : Pm.Env) [LaidE E] (a0 : S_Up) (r : (List S_Fetch)) (h : upstream_fetches a0 = some r) : FnR E Tryz.prog 32 [S_Up.av a0] (AV.list 7 (r.map S_Fetch.av)) true := by
 refine FnR.of_ev (T := T) (rows := []) tOk mixed Tryz.func32 rfl (by kernel_rfl) (by kernel_rfl) rfl fun hwf => ?_
 unfold upstream_fetches at h
 refine sj <| ai rfl ?_
 refine xi [] (xi 0 (ai ⟨rfl, rfl⟩ ?_))
 refine sn <| sj <| bind_elim h fun x1 hx1 h => CallH.data _ true rfl (slices_Clone_Fetch_ok E a0.Wait x1 hx1) <| sn <| bind_elim h fun j2 hj2 h => ?_
 refine SeqJ.join (St.of [⟨3, AV.list 7 (j2.map S_Fetch.av), some 0⟩] [] [1]) ?_ ?_
 ·clear h; have h := hj2; clear hj2
  refine sj <| NormE.to (ii (a0.Conns.length : Int)) (fun _ => len_list S_Conn.av a0.Conns) <| sn ?_
  refine LoopE.img (fun x : ((List S_Fetch) × Int) => St.of [⟨3, AV.list 7 (x.1.map S_Fetch.av), some 0⟩, ⟨10, AV.list 29 (a0.Conns.map S_Conn.av), none⟩, ⟨11, ii (a0.Conns.length : Int), none⟩, ⟨12, ii x.2, none⟩] [] [1]) (upstream_fetches_b1 a0) (x1, (0 : Int)) h ?_ ?_
  ·exact gT [1]
  intro n1 x y1 h hl1 hr1
  obtain ⟨s3, s4⟩ := x
  unfold upstream_fetches_b1 at h
  dsimp only at h
  exact W
 ·clear hj2
  exact W
instance upstream_fetches_ok_i (E : Pm.Env) [LaidE E] (a0 : S_Up) : Ok E (upstream_fetches a0) (fun r => FnR E Tryz.prog 32 [S_Up.av a0] (AV.list 7 (r.map S_Fetch.av)) true) := ⟨upstream_fetches_ok E a0⟩
theorem upstream_fetch_ok (E : Pm.Env) [LaidE E] (a0 : S_Fetch) (r : Bool) (h : upstream_fetch a0 = some r) : FnR E Tryz.prog 30 [S_Fetch.av a0] (bb r) false := by
 refine FnR.of_ev (T := T) (rows := []) tOk mixed Tryz.func30 rfl (by kernel_rfl) (by kernel_rfl) rfl fun hwf => ?_
 unfold upstream_fetch at h
 exact W
instance upstream_fetch_ok_i (E : Pm.Env) [LaidE E] (a0 : S_Fetch) : Ok E (upstream_fetch a0) (fun r => FnR E Tryz.prog 30 [S_Fetch.av a0] (bb r) false) := ⟨upstream_fetch_ok E a0⟩
theorem upstream_Right_ok (E : Pm.Env) [LaidE E] (a0 : S_Up) (r : Bool) (h : upstream_Right a0 = some r) : FnR E Tryz.prog 20 [S_Up.av a0] (bb r) false := by
 refine FnR.of_ev (T := T) (rows := []) tOk mixed Tryz.func20 rfl (by kernel_rfl) (by kernel_rfl) rfl fun hwf => ?_
 unfold upstream_Right at h
 refine sj <| ai rfl ?_
 refine xi [] (xi 0 (ai ⟨rfl, rfl⟩ ?_))
 refine sn <| sj <| sj <| ai id <| ai id <| ai (fun hg => (and_r hg)) <| ai id <| ai id <| ai (fun hg => (and_r hg)) <| ai id <| ai id <| ai (fun hg => (and_r hg)) <| ai id <| ai id <| NormE.to (ii (a0.Wait.length : Int)) (fun _ => len_list S_Fetch.av a0.Wait) <| ai id <| ai (fun hg => (and_r hg)) <| sn ?_
 refine Br.of h (fun ht h => ?_) fun ht h => ?_
 ·exact W
 ·refine sn <| sj <| sn <| sj <| sj <| NormE.to (ii (a0.Conns.length : Int)) (fun _ => len_list S_Conn.av a0.Conns) <| sn ?_
  refine LoopE.img (fun x : (Int × Int) => St.of [⟨1, AV.ptr 0 0, none⟩, ⟨3, ii x.1, none⟩, ⟨41, AV.list 29 (a0.Conns.map S_Conn.av), none⟩, ⟨42, ii (a0.Conns.length : Int), none⟩, ⟨43, ii x.2, none⟩] [.cells 28 (S_Up.cells a0) []] []) (upstream_Right_b1 a0) ((0 : Int), (0 : Int)) h ?_ ?_
  ·exact gT []
  intro n1 x y1 h hl1 hr1
  obtain ⟨s1, s2⟩ := x
  unfold upstream_Right_b1 at h
  dsimp only at h
  refine sj <| sn <| sj ?_
  refine Br.of h (fun ht h => ?_) fun ht h => ?_
  ·exact W
  ·refine sn <| sj <| sn <| sj <| ai ⟨lb rfl, lb rfl⟩ ?_
   refine xi none (ai rfl ?_)
   refine NormE.to (S_Up.av a0) (fun _ => rfl) <| bind_elim h fun x6 hx6 h => CallH.data _ true rfl (upstream_fetches_ok E a0 x6 hx6) <| sn <| sj <| sj <| NormE.to (ii (x6.length : Int)) (fun _ => len_list S_Fetch.av x6) <| sn ?_
   refine LoopE.img (fun x : (Int × (List (Int × Bool))) => St.of [⟨1, AV.ptr 0 0, none⟩, ⟨8, AV.mapv 1, none⟩, ⟨9, AV.list 7 (x6.map S_Fetch.av), some 0⟩, ⟨85, AV.list 7 (x6.map S_Fetch.av), none⟩, ⟨86, ii (x6.length : Int), none⟩, ⟨87, ii x.1, none⟩] [.cells 28 (S_Up.cells a0) [], .mp (.map (menc (AV.int .i64) bb x.2))] [1]) (upstream_Right_b2 a0 x6) ((0 : Int), ([] : List (Int × Bool))) h ?_ ?_
   ·exact gT [0]
   intro n2 x y2 h hl2 hr2
   obtain ⟨s7, s8⟩ := x
   unfold upstream_Right_b2 at h
   dsimp only at h
   refine sj <| sn <| sj ?_
   refine Br.of h (fun ht h => ?_) fun ht h => ?_
   ·refine sn <| sj <| sj <| bind_elim h fun x9 hx9 h => ?_
    refine ai rfl (xi (S_Fetch.av x9) (ai (fun hg => idx_map _ hx9) ?_))
    refine ai (lb rfl) <| NormE.to (S_Fetch.av x9) (fun _ => rfl) <| ai rfl ?_
    refine ai ⟨rfl, rfl, rfl, lb rfl⟩ (xi (S_Fetch.cells x9) (ai (fun _ => rfl) ?_))
    refine sn <| sj <| sj <| ai ⟨lb rfl, lb rfl⟩ ?_
    refine xi none (ai rfl ?_)
    refine NormE.to (S_Fetch.av x9) (fun _ => rfl) <| bind_elim h fun x10 hx10 h => CallH.data _ false rfl (upstream_fetch_ok E x9 x10 hx10) <| ai id <| ai id <| ai id <| ai id <| ai (fun hg => (and_r hg)) <| ai id <| ai id <| ai id <| ai id <| ai id <| ai (fun hg => (and_r hg)) <| sn ?_
    refine Br.of h (fun ht h => ?_) fun ht h => ?_
    ·exact W
    ·refine sn ?_
     refine ai ⟨rfl, rfl, rfl⟩ (xi (menc (AV.int .i64) bb (mins s8 x9.Id true)) (ai (ins_typed [] (AV.int .i64) bb (keyB_int .i64) x9.Id true s8) ?_))
     exact W
   ·refine sn <| sj <| sj <| NormE.to (ii (a0.Wait.length : Int)) (fun _ => len_list S_Fetch.av a0.Wait) <| sn ?_
    refine LoopE.img (fun x : Int => St.of [⟨1, AV.ptr 0 0, none⟩, ⟨8, AV.mapv 1, none⟩, ⟨9, AV.list 7 (x6.map S_Fetch.av), some 0⟩, ⟨114, AV.list 7 (a0.Wait.map S_Fetch.av), none⟩, ⟨115, ii (a0.Wait.length : Int), none⟩, ⟨116, ii x, none⟩] [.cells 28 (S_Up.cells a0) [], .mp (.map (menc (AV.int .i64) bb s8))] [1]) (upstream_Right_b3 a0 x6 s8) (0 : Int) h ?_ ?_
    ·exact gT [0]
    intro n3 x y3 h hl3 hr3
    revert h; revert x; intro s11 h
    unfold upstream_Right_b3 at h
    refine sj <| sn <| sj ?_
    refine Br.of h (fun ht h => ?_) fun ht h => ?_
    ·exact W
    ·refine sn <| sj <| chk_elim h fun q14 h => ?_
     refine xi s8.length (ai ⟨menc_len _ _ _, q14⟩ ?_)
     exact W
instance upstream_Right_ok_i (E : Pm.Env) [LaidE E] (a0 : S_Up) : Ok E (upstream_Right a0) (fun r => FnR E Tryz.prog 20 [S_Up.av a0] (bb r) false) := ⟨upstream_Right_ok E a0⟩
theorem slices_IndexFunc__api_Fetch_api_Fetch_ok (E : Pm.Env) [LaidE E] (a0 : (List S_Fetch)) (a1 : FuncId) (a1c : List AV) (a1i : S_Fetch → Option Bool) (a1h : ∀ (x0 : S_Fetch) (r : Bool), a1i x0 = some r → FnR E Tryz.prog a1 ([S_Fetch.av x0] ++ a1c) (bb r) false) (a1p : a1c.all AV.puB = true) (r : Int) (h : slices_IndexFunc__api_Fetch_api_Fetch a0 a1i = some r) : FnR E Tryz.prog 71 [AV.list 7 (a0.map S_Fetch.av), AV.fn a1 [] a1c] (ii r) false := by
 refine FnR.of_ev (T := T) (rows := []) tOk mixed Tryz.func71 rfl (by kernel_rfl) (by kernel_rfl) rfl fun hwf => ?_
 unfold slices_IndexFunc__api_Fetch_api_Fetch at h
 refine sj <| sn <| sj <| sj <| NormE.to (ii (a0.length : Int)) (fun _ => len_list S_Fetch.av a0) <| sn ?_
 refine LoopE.img (fun x : Int => St.of [⟨0, AV.list 7 (a0.map S_Fetch.av), none⟩, ⟨1, AV.fn a1 [] a1c, none⟩, ⟨7, ii (a0.length : Int), none⟩, ⟨8, ii x, none⟩] [] []) (slices_IndexFunc__api_Fetch_api_Fetch_b1 a0 a1i) (0 : Int) h ?_ ?_
 ·exact gT []
 intro n1 x y1 h hl1 hr1
 revert h; revert x; intro s1 h
 unfold slices_IndexFunc__api_Fetch_api_Fetch_b1 at h
 refine sj <| sn <| sj ?_
 refine Br.of h (fun ht h => ?_) fun ht h => ?_
 ·refine sn <| sj <| sj <| sn <| sj <| bind_elim h fun x2 hx2 h => ?_
  refine ai rfl (xi (S_Fetch.av x2) (ai (fun hg => idx_map _ hx2) ?_))
  refine ai (lb rfl) <| NormE.to (S_Fetch.av x2) (fun _ => rfl) <| bind_elim h fun x3 hx3 h => CallH.data _ false (puD_app rfl (puD_of a1p)) (a1h x2 x3 hx3) ?_
  exact W
 ·exact W
theorem slices_ContainsFunc__api_Fetch_api_Fetch_ok (E : Pm.Env) [LaidE E] (a0 : (List S_Fetch)) (a1 : FuncId) (a1c : List AV) (a1i : S_Fetch → Option Bool) (a1h : ∀ (x0 : S_Fetch) (r : Bool), a1i x0 = some r → FnR E Tryz.prog a1 ([S_Fetch.av x0] ++ a1c) (bb r) false) (a1p : a1c.all AV.puB = true) (r : Bool) (h : slices_ContainsFunc__api_Fetch_api_Fetch a0 a1i = some r) : FnR E Tryz.prog 31 [AV.list 7 (a0.map S_Fetch.av), AV.fn a1 [] a1c] (bb r) false := by
 refine FnR.of_ev (T := T) (rows := []) tOk mixed Tryz.func31 rfl (by kernel_rfl) (by kernel_rfl) rfl fun hwf => ?_
 unfold slices_ContainsFunc__api_Fetch_api_Fetch at h
 refine sj <| sn <| sj <| bind_elim h fun x1 hx1 h => CallH.data _ false (and_tt' rfl (and_tt' (puD_fn a1p) rfl)) (slices_IndexFunc__api_Fetch_api_Fetch_ok E a0 a1 a1c a1i a1h a1p x1 hx1) ?_
 exact W
theorem upstream_Ask_1_ok (E : Pm.Env) [LaidE E] (a0 : S_Fetch) (c0 : S_Fetch) (r : Bool) (h : upstream_Ask_1 a0 c0 = some r) : FnR E Tryz.prog 29 [S_Fetch.av a0, AV.iptr (S_Fetch.cells c0)] (bb r) false := by
 refine FnR.of_ev (T := T) (rows := []) tOk mixed Tryz.func29 rfl (by kernel_rfl) (by kernel_rfl) rfl fun hwf => ?_
 unfold upstream_Ask_1 at h
 exact W
instance upstream_Ask_1_ok_i (E : Pm.Env) [LaidE E] (a0 : S_Fetch) (c0 : S_Fetch) : Ok E (upstream_Ask_1 a0 c0) (fun r => FnR E Tryz.prog 29 [S_Fetch.av a0, AV.iptr (S_Fetch.cells c0)] (bb r) false) := ⟨upstream_Ask_1_ok E a0 c0⟩
theorem slices_IndexFunc__api_Conn_api_Conn_ok (E : Pm.Env) [LaidE E] (a0 : (List S_Conn)) (a1 : FuncId) (a1c : List AV) (a1i : S_Conn → Option Bool) (a1h : ∀ (x0 : S_Conn) (r : Bool), a1i x0 = some r → FnR E Tryz.prog a1 ([S_Conn.av x0] ++ a1c) (bb r) false) (a1p : a1c.all AV.puB = true) (r : Int) (h : slices_IndexFunc__api_Conn_api_Conn a0 a1i = some r) : FnR E Tryz.prog 59 [AV.list 29 (a0.map S_Conn.av), AV.fn a1 [] a1c] (ii r) false := by
 refine FnR.of_ev (T := T) (rows := []) tOk mixed Tryz.func59 rfl (by kernel_rfl) (by kernel_rfl) rfl fun hwf => ?_
 unfold slices_IndexFunc__api_Conn_api_Conn at h
 refine sj <| sn <| sj <| sj <| NormE.to (ii (a0.length : Int)) (fun _ => len_list S_Conn.av a0) <| sn ?_
 refine LoopE.img (fun x : Int => St.of [⟨0, AV.list 29 (a0.map S_Conn.av), none⟩, ⟨1, AV.fn a1 [] a1c, none⟩, ⟨7, ii (a0.length : Int), none⟩, ⟨8, ii x, none⟩] [] []) (slices_IndexFunc__api_Conn_api_Conn_b1 a0 a1i) (0 : Int) h ?_ ?_
 ·exact gT []
 intro n1 x y1 h hl1 hr1
 revert h; revert x; intro s1 h
 unfold slices_IndexFunc__api_Conn_api_Conn_b1 at h
 refine sj <| sn <| sj ?_
 refine Br.of h (fun ht h => ?_) fun ht h => ?_
 ·refine sn <| sj <| sj <| sn <| sj <| bind_elim h fun x2 hx2 h => ?_
  refine ai rfl (xi (S_Conn.av x2) (ai (fun hg => idx_map _ hx2) ?_))
  refine ai (lb rfl) <| NormE.to (S_Conn.av x2) (fun _ => rfl) <| bind_elim h fun x3 hx3 h => CallH.data _ false (puD_app rfl (puD_of a1p)) (a1h x2 x3 hx3) ?_
  exact W
 ·exact W
theorem upstream_work_place_1_ok (E : Pm.Env) [LaidE E] (a0 : S_Conn) (c0 : FuncId) (c0c : List AV) (c0i : S_Conn → Option Bool) (c0h : ∀ (x0 : S_Conn) (r : Bool), c0i x0 = some r → FnR E Tryz.prog c0 ([S_Conn.av x0] ++ c0c) (bb r) false) (c0p : c0c.all AV.puB = true) (r : Bool) (h : upstream_work_place_1 a0 c0i = some r) : FnR E Tryz.prog 75 [S_Conn.av a0, AV.iptr [AV.fn c0 [] c0c]] (bb r) false := by
 refine FnR.of_ev (T := T) (rows := []) tOk mixed Tryz.func75 rfl (by kernel_rfl) (by kernel_rfl) rfl fun hwf => ?_
 unfold upstream_work_place_1 at h
 refine sj <| ai rfl ?_
 refine xi [] (xi 0 (ai ⟨rfl, rfl⟩ ?_))
 refine sn <| sj <| ai ⟨lb rfl, lb rfl⟩ ?_
 refine xi none (ai rfl ?_)
 refine NormE.to (S_Conn.av a0) (fun _ => rfl) <| bind_elim h fun x1 hx1 h => CallH.data _ false (puD_app rfl (puD_of c0p)) (c0h a0 x1 hx1) <| ai ⟨lb rfl, lb rfl⟩ ?_
 refine xi none (ai rfl ?_)
 refine NormE.to (S_Conn.av a0) (fun _ => rfl) <| bind_elim h fun x2 hx2 h => ai id <| ai rfl ?_
 refine CallF.mk _ false (fun hg => upstream_idle_ok E a0 x2 (gcall_some hx2 hg)) (ai rfl ?_)
 refine ai (fun hg => (and_r hg)) <| sn ?_
 replace h := oi h
 refine RetE.plain ?_
 subst h; exact ai rfl (ai rfl rfl)
theorem wire_New_ok (E : Pm.Env) [LaidE E] (a0 : Bool) (a1 : Bytes) (r : S_Reader) (h : wire_New a0 a1 = some r) : FnR E Tryz.prog 123 [bb a0, ss a1] (S_Reader.av r) false := by
 refine FnR.of_ev (T := T) (rows := []) tOk mixed Tryz.func123 rfl (by kernel_rfl) (by kernel_rfl) rfl fun hwf => ?_
 unfold wire_New at h
 refine sj <| ai rfl <| sn <| sj <| ai ⟨rfl, rfl, lb rfl⟩ <| ai ⟨rfl, rfl, lb rfl⟩ ?_
 refine xi (some 5151088153308360742589778104320) (ai (okM.mk (show (5151088153308360742589778104320 : Nat) = freeM T _ _ _ from by kernel_rfl)) ?_)
 refine ai ⟨rfl, rfl, rfl, lb rfl⟩ (xi (S_Reader.cells ((S_Reader.z.w0 a0).w1 a1)) (ai (fun _ => rfl) ?_))
 refine xi [(9, 1)] (xi 1 (ai ⟨(by kernel_rfl), rfl⟩ ?_))
 exact W
instance wire_New_ok_i (E : Pm.Env) [LaidE E] (a0 : Bool) (a1 : Bytes) : Ok E (wire_New a0 a1) (fun r => FnR E Tryz.prog 123 [bb a0, ss a1] (S_Reader.av r) false) := ⟨wire_New_ok E a0 a1⟩
theorem upstream_Ask_ok (E : Pm.Env) [LaidE E] (a0 : S_Up) (a1 : S_Fetch) (r : (S_Up × (List S_Act) × Int)) (h : upstream_Ask a0 a1 = some r) : FnR E Tryz.prog 10 [S_Up.av a0, S_Fetch.av a1] (AV.tup [S_Up.av r.1, AV.list 13 (r.2.1.map S_Act.av), ii r.2.2]) false := by
 refine FnR.of_ev (T := T) (rows := [27, 31, 45, 52, 65]) tOk mixed Tryz.func10 rfl (by kernel_rfl) (by kernel_rfl) rfl fun hwf => ?_
 unfold upstream_Ask at h
 refine sj <| ai rfl ?_
 refine xi [] (xi 0 (ai ⟨rfl, rfl⟩ ?_))
 refine ai rfl ?_
 refine xi [] (xi 0 (ai ⟨rfl, rfl⟩ ?_))
 refine ai rfl <| sn <| sj <| sn <| sj <| sj <| ai ⟨lb rfl, lb rfl⟩ ?_
 refine xi none (ai rfl ?_)
 refine NormE.to (S_Up.av a0) (fun _ => rfl) <| bind_elim h fun x1 hx1 h => CallH.data _ false rfl (upstream_Right_ok E a0 x1 hx1) <| ai ⟨lb rfl, lb rfl⟩ ?_
 refine xi none (ai rfl ?_)
 refine NormE.to (S_Fetch.av a1) (fun _ => rfl) <| bind_elim h fun x2 hx2 h => ai id <| ai rfl ?_
 refine CallF.mk _ false (fun hg => upstream_fetch_ok E a1 x2 (gcall_some hx2 hg)) (ai rfl ?_)
 refine ai id <| ai (fun hg => (and_r hg)) <| ai id <| ai id <| ai (fun hg => (and_r hg)) <| ai ⟨lb rfl, lb rfl⟩ ?_
 refine xi none (ai rfl ?_)
 refine NormE.to (S_Up.av a0) (fun _ => rfl) <| bind_elim h fun x3 hx3 h => ai id <| ai rfl ?_
 refine CallF.mk _ false (fun hg => FnR.drop (upstream_fetches_ok E a0 x3 (gcall_some hx3 hg))) (ai rfl ?_)
 refine and_of h (fun ht h => ?_) fun ht h => ?_
 ·refine bind_elim h fun x4 hx4 h => ai (fun _ => id ht) <| ai (fun _ => id ht) <| CallH.lend [1] _ _ _ rfl (slices_ContainsFunc__api_Fetch_api_Fetch_ok E x3 29 [AV.iptr (S_Fetch.cells a1)] (fun x0 => upstream_Ask_1 x0 a1) (fun x0 r h => upstream_Ask_1_ok E x0 a1 r h) rfl x4 hx4) (Lend.of [1] ⟨Frz.pure _ (AV.puD_ok rfl), Frz.fn1 (Frz.ptrD rfl rfl (lb rfl)), trivial⟩) ?_
  refine SeqN.via (St.of [⟨2, AV.ptr 0 0, none⟩, ⟨3, AV.ptr 1 0, none⟩, ⟨4, AV.ptr 2 0, none⟩, ⟨28, bb (bif (bif (bif (!x1) then true else (!x2)) then true else (decide (a0.Next ≥ (1000000000 : Int)))) then true else x4), none⟩] [.cells 28 (S_Up.cells a0) [], .cells 23 (S_Fetch.cells a1) [], .cells 28 (S_Up.cells S_Up.z) [(2, 0), (3, 1)]] [1, 1]) ?_ ?_
  ·exact gT [0, 1]
  refine Br.of h (fun ht h => ?_) fun ht h => ?_
  ·refine sj ?_
   refine xi (some 266305) (ai (okM.mk (show (266305 : Nat) = freeM T _ _ _ from by kernel_rfl)) ?_)
   refine ai ⟨rfl, rfl, rfl, lb rfl⟩ (xi (S_Up.cells S_Up.z) (ai (fun _ => rfl) ?_))
   refine xi [(2, 2), (3, 3)] (xi 2 (ai ⟨(by kernel_rfl), rfl⟩ ?_))
   exact W
  ·refine sn <| sj <| ai ⟨lb rfl, lb rfl⟩ ?_
   refine xi none (ai rfl ?_)
   refine NormE.to (S_Up.av a0) (fun _ => rfl) <| Gho.go <| FnC.of_ev (T := T) (rows := []) tOk mixed Tryz.func33 rfl (by kernel_rfl) (by kernel_rfl) rfl rfl <| sj <| ai rfl ?_
   refine xi [] (xi 0 (ai ⟨rfl, rfl⟩ ?_))
   refine sn <| sj <| Or.inl <| bind_elim h fun x5 hx5 h => ?_
   have qx5 := chk2_some hx5
   refine CallH.rows _ _ _ _ rfl (slices_Clone_Conn_row E a0.Conns qx5) <| bind_elim h fun x6 hx6 h => ?_
   have qx6 := chk2_some hx6
   refine CallH.rows _ _ _ _ rfl (slices_Clone_Fetch_row E a0.Wait qx6) ?_
   refine ai ⟨rfl, rfl, rfl, lb rfl⟩ (xi [ii a0.Now, ii a0.Next, AV.row 4 0 a0.Conns.length 29, AV.list 7 (a0.Wait.map S_Fetch.av)] (ai (fun _ => rfl) ?_))
   refine ai ⟨rfl, rfl, rfl, lb rfl⟩ (xi [ii a0.Now, ii a0.Next, AV.row 4 0 a0.Conns.length 29, AV.row 5 0 a0.Wait.length 7] (ai (fun _ => rfl) ?_))
   refine ai (by kernel_rfl) <| sn <| sj <| ai ⟨lb rfl, lb rfl⟩ ?_
   refine xi none (ai rfl ?_)
   refine NormE.to (AV.agg [ii a0.Now, ii a0.Next, AV.row 4 0 a0.Conns.length 29, AV.row 5 0 a0.Wait.length 7]) (fun _ => rfl) <| ai ⟨rfl, rfl, lb rfl⟩ ?_
   refine xi (some 16777216) (ai (okM.mk (show (16777216 : Nat) = freeM T _ _ _ from by kernel_rfl)) ?_)
   refine ai rfl ?_
   refine xi [(4, 2)] (xi 1 (ai ⟨(by kernel_rfl), rfl⟩ ?_))
   refine SeqN.via (St.of [⟨2, AV.ptr 6 0, none⟩] [.cells 28 (S_Up.cells a0) [], .cells 23 (S_Fetch.cells a1) [], .cells 28 (S_Up.cells S_Up.z) [(2, 0), (3, 1)], .dead, .cells 48 (a0.Conns.flatMap S_Conn.cells) [], .cells 23 (a0.Wait.flatMap S_Fetch.cells) [], .cells 91 [ii a0.Now, ii a0.Next, AV.row 4 0 a0.Conns.length 29, AV.row 5 0 a0.Wait.length 7, AV.list 13 (([] : List S_Act).map S_Act.av)] [(4, 2)]] [1, 1, 1]) ?_ ?_
   ·exact gT [0, 1, 2]
   refine Gho.go <| sn <| sj ?_
   refine ai ⟨rfl, rfl, rfl, lb rfl⟩ (xi (S_Fetch.cells (a1.w5 (IntKind.i64.wrap (a0.Now + (10 : Int))))) (ai (fun _ => rfl) ?_))
   refine ai ⟨rfl, rfl, rfl, lb rfl⟩ (xi (S_Fetch.cells ((a1.w5 (IntKind.i64.wrap (a0.Now + (10 : Int)))).w6 false)) (ai (fun _ => rfl) ?_))
   refine sn <| sj <| sj <| ai ⟨lb rfl, lb rfl⟩ ?_
   refine xi none (ai rfl ?_)
   refine NormE.to (S_Fetch.av ((a1.w5 (IntKind.i64.wrap (a0.Now + (10 : Int)))).w6 false)) (fun _ => rfl) <| Gho.go <| FnC.of_ev (T := T) (rows := [22, 41]) tOk mixed Tryz.func34 rfl (by kernel_rfl) (by kernel_rfl) rfl rfl <| sj <| ai rfl ?_
   refine xi [] (xi 0 (ai ⟨rfl, rfl⟩ ?_))
   refine sn <| sj <| bind_elim h fun x7 hx7 h => CallH.data _ false rfl (upstream_to_ok E a1.Origin x7 hx7) <| ai rfl ?_
   refine ai ⟨rfl, rfl, rfl, lb rfl⟩ (xi [AV.fn 122 [] [AV.iptr [ss x7]]] (ai (fun _ => rfl) ?_))
   refine sn <| sj <| sj <| bind_elim h fun x8 hx8 h => CallH.lend [4, 8] _ _ _ rfl (slices_IndexFunc__api_Conn_api_Conn_ok E a0.Conns 75 [AV.iptr [AV.fn 122 [] [AV.iptr [ss x7]]]] (fun x0 => upstream_work_place_1 x0 (fun x0 => upstream_to_1 x0 x7)) (fun x0 r h => upstream_work_place_1_ok E x0 122 [AV.iptr [ss x7]] (fun x0 => upstream_to_1 x0 x7) (fun x0 r h => upstream_to_1_ok E x0 x7 r h) rfl r h) rfl x8 hx8) (Lend.of [4, 8] ⟨Frz.rowsW S_Conn.av 29 (lb rfl) (fun _ => rfl) (fun _ => rfl) rfl (flat_from _ _) rfl, Frz.fn1 (Frz.ptrD rfl rfl (lb rfl)), trivial⟩) <| sn <| sj ?_
   refine SeqN.via (St.of [⟨0, AV.ptr 6 0, none⟩, ⟨3, AV.ptr 7 0, none⟩, ⟨5, AV.ptr 8 0, none⟩, ⟨6, ii x8, none⟩, ⟨18, bb (decide (x8 ≥ (0 : Int))), none⟩] [.cells 28 (S_Up.cells a0) [], .cells 23 (S_Fetch.cells ((a1.w5 (IntKind.i64.wrap (a0.Now + (10 : Int)))).w6 false)) [], .cells 28 (S_Up.cells S_Up.z) [(2, 0), (3, 1)], .dead, .cells 48 (a0.Conns.flatMap S_Conn.cells) [], .cells 23 (a0.Wait.flatMap S_Fetch.cells) [], .cells 91 [ii a0.Now, ii a0.Next, AV.row 4 0 a0.Conns.length 29, AV.row 5 0 a0.Wait.length 7, AV.list 13 (([] : List S_Act).map S_Act.av)] [(4, 2)], .cells 23 (S_Fetch.cells ((a1.w5 (IntKind.i64.wrap (a0.Now + (10 : Int)))).w6 false)) [], .cells 77 [AV.fn 122 [] [AV.iptr [ss x7]]] []] [1, 1, 1]) ?_ ?_
   ·exact gT [0, 1, 2]
   refine Br.of h (fun ht h => ?_) fun ht h => ?_
   ·refine sj <| ai ⟨lb rfl, lb rfl⟩ ?_
    refine xi none (ai rfl ?_)
    refine NormE.to (S_Fetch.av ((a1.w5 (IntKind.i64.wrap (a0.Now + (10 : Int)))).w6 false)) (fun _ => rfl) <| Gho.go <| FnC.of_ev (T := T) (rows := [35]) tOk mixed Tryz.func76 rfl (by kernel_rfl) (by kernel_rfl) rfl rfl <| sj <| ai rfl ?_
    refine xi [] (xi 0 (ai ⟨rfl, rfl⟩ ?_))
    refine sn <| sj <| chk_elim h fun q9 h => ai (fun _ => q9) <| sn <| sj <| Or.inl <| ai ⟨lb rfl, lb rfl⟩ ?_
    refine xi none (ai rfl ?_)
    refine NormE.to (S_Fetch.av ((a1.w5 (IntKind.i64.wrap (a0.Now + (10 : Int)))).w6 false)) (fun _ => rfl) <| bind_elim h fun x10 hx10 h => CallH.data _ false rfl (wire_New_ok E false a1.Method x10 hx10) <| bind_elim h fun x11 hx11 h => ?_
    refine ai ⟨rfl, rfl, rfl, flat_lenF S_Conn.cells 29 (fun _ => rfl) hx11 (o := 2) (lb rfl)⟩ (xi ((a0.Conns.set x8.toNat (x11.w2 ((a1.w5 (IntKind.i64.wrap (a0.Now + (10 : Int)))).w6 false))).flatMap S_Conn.cells) (ai (fun _ => flat_storeF S_Conn.cells 29 (fun _ => rfl) hx11 (o := 2) (lb rfl) rfl) ?_))
    refine bind_elim h fun x12 hx12 h => ?_
    refine ai ⟨rfl, rfl, rfl, flat_lenF S_Conn.cells 29 (fun _ => rfl) hx12 (o := 9) (lb rfl)⟩ (xi (((a0.Conns.set x8.toNat (x11.w2 ((a1.w5 (IntKind.i64.wrap (a0.Now + (10 : Int)))).w6 false))).set x8.toNat (x12.w3 x10)).flatMap S_Conn.cells) (ai (fun _ => flat_storeF S_Conn.cells 29 (fun _ => rfl) hx12 (o := 9) (lb rfl) rfl) ?_))
    refine bind_elim h fun x13 hx13 h => ?_
    refine ai ⟨rfl, rfl, rfl, flat_lenF S_Conn.cells 29 (fun _ => rfl) hx13 (o := 27) (lb rfl)⟩ (xi ((((a0.Conns.set x8.toNat (x11.w2 ((a1.w5 (IntKind.i64.wrap (a0.Now + (10 : Int)))).w6 false))).set x8.toNat (x12.w3 x10)).set x8.toNat (x13.w4 false)).flatMap S_Conn.cells) (ai (fun _ => flat_storeF S_Conn.cells 29 (fun _ => rfl) hx13 (o := 27) (lb rfl) rfl) ?_))
    refine ai (by kernel_rfl) ?_
    refine SeqN.via (St.of [⟨0, AV.ptr 6 0, none⟩, ⟨5, AV.ptr 9 0, none⟩, ⟨6, AV.ptr 4 (0 + x8.toNat * 29), none⟩] [.cells 28 (S_Up.cells a0) [], .cells 23 (S_Fetch.cells ((a1.w5 (IntKind.i64.wrap (a0.Now + (10 : Int)))).w6 false)) [], .cells 28 (S_Up.cells S_Up.z) [(2, 0), (3, 1)], .dead, .cells 48 ((((a0.Conns.set x8.toNat (x11.w2 ((a1.w5 (IntKind.i64.wrap (a0.Now + (10 : Int)))).w6 false))).set x8.toNat (x12.w3 x10)).set x8.toNat (x13.w4 false)).flatMap S_Conn.cells) [], .cells 23 (a0.Wait.flatMap S_Fetch.cells) [], .cells 91 [ii a0.Now, ii a0.Next, AV.row 4 0 a0.Conns.length 29, AV.row 5 0 a0.Wait.length 7, AV.list 13 (([] : List S_Act).map S_Act.av)] [(4, 2)], .cells 23 (S_Fetch.cells ((a1.w5 (IntKind.i64.wrap (a0.Now + (10 : Int)))).w6 false)) [], .cells 77 [AV.fn 122 [] [AV.iptr [ss x7]]] [], .cells 23 (S_Fetch.cells ((a1.w5 (IntKind.i64.wrap (a0.Now + (10 : Int)))).w6 false)) []] [1, 1, 1]) ?_ ?_
    ·exact gT [0, 1, 2]
    refine bind_elim h fun x14 hx14 h => optE.mk (α := AV) (c := ii x14.Id) (flat_getF S_Conn.cells 29 (fun _ => rfl) hx14 (o := 0) (lb rfl) rfl) <| ai ⟨rfl, rfl, lb rfl⟩ <| ai ⟨rfl, rfl, lb rfl⟩ <| ai ⟨rfl, rfl, lb rfl⟩ ?_
    refine xi (some 4797324681010432970752) (ai (okM.mk (show (4797324681010432970752 : Nat) = freeM T _ _ _ from by kernel_rfl)) ?_)
    refine ai ⟨by kernel_rfl, by kernel_rfl⟩ <| Gho.go <| FnC.of_ev (T := T) (rows := []) tOk mixed Tryz.func78 rfl (by kernel_rfl) (by kernel_rfl) rfl rfl <| sj <| ai rfl ?_
    refine xi [(10, 3)] (xi 1 (ai ⟨(by kernel_rfl), rfl⟩ ?_))
    refine sn <| Or.inl <| ai ⟨lb rfl, lb rfl⟩ ?_
    refine xi (some 5764607523034234880) (ai (show aggT [(10, 3)] 0 13 = some 5764607523034234880 from by kernel_rfl) ?_)
    refine NormE.to (S_Act.av (((S_Act.z.w0 (2 : Int)).w1 x14.Id).w3 a1.Bytes)) (fun _ => rfl) <| ai ⟨rfl, rfl, rfl, rfl⟩ <| ai ⟨rfl, rfl, rfl⟩ <| NormE.to (AV.list 13 (([(((S_Act.z.w0 (2 : Int)).w1 x14.Id).w3 a1.Bytes)] : List S_Act).map S_Act.av)) (fun _ => rfl) <| bind_elim h fun x15 hx15 h => ?_
    have qx15 := (app_some hx15).1
    have hx15e := (app_some hx15).2
    refine ai ⟨rfl, rfl, rfl⟩ <| ai rfl <| ai (app_cond S_Act.av qx15) <| NormE.to (AV.list 13 (x15.map S_Act.av)) (fun _ => (app_list 13 S_Act.av _ _).trans (congrArg (fun y => AV.list 13 (List.map S_Act.av y)) hx15e.symm)) ?_
    refine ai ⟨rfl, rfl, rfl, lb rfl⟩ (xi [ii a0.Now, ii a0.Next, AV.row 4 0 a0.Conns.length 29, AV.row 5 0 a0.Wait.length 7, AV.list 13 (x15.map S_Act.av)] (ai (fun _ => rfl) ?_))
    refine ai (by kernel_rfl) <| Gho.go <| Gho.go <| sn <| sj <| sn <| Gho.go <| sn ?_
    refine Br.mk (fun _ => ?_) (fun hf => absurd hf (by decide))
    refine sn <| sj <| Or.inl <| ai ⟨lb rfl, lb rfl⟩ ?_
    refine xi (some 0) (ai (show aggT [(4, 5)] 0 4 = some 0 from by kernel_rfl) ?_)
    refine NormE.to (AV.agg [ii a0.Now, ii a0.Next, AV.row 4 0 a0.Conns.length 29, AV.row 5 0 a0.Wait.length 7]) (fun _ => rfl) ?_
    refine ai ⟨rfl, rfl, rfl, lb rfl⟩ (xi [ii a0.Now, ii a0.Next, AV.row 4 0 a0.Conns.length 29, AV.row 5 0 a0.Wait.length 7] (ai (fun _ => rfl) ?_))
    refine ai (by kernel_rfl) ?_
    refine SeqN.via (St.of [⟨4, AV.ptr 2 0, none⟩, ⟨5, AV.list 13 (x15.map S_Act.av), some 0⟩, ⟨6, ii 0, none⟩] [.dead, .dead, .cells 28 [ii a0.Now, ii a0.Next, AV.row 4 0 a0.Conns.length 29, AV.row 5 0 a0.Wait.length 7] [], .dead, .cells 48 ((((a0.Conns.set x8.toNat (x11.w2 ((a1.w5 (IntKind.i64.wrap (a0.Now + (10 : Int)))).w6 false))).set x8.toNat (x12.w3 x10)).set x8.toNat (x13.w4 false)).flatMap S_Conn.cells) [], .cells 23 (a0.Wait.flatMap S_Fetch.cells) []] [1]) ?_ ?_
    ·exact gT [5]
    replace h := oi h
    refine RetE.frz ?_
    refine ai ⟨lb rfl, lb rfl⟩ (xi (AV.agg [ii a0.Now, ii a0.Next, AV.row 4 0 a0.Conns.length 29, AV.row 5 0 a0.Wait.length 7]) (ai rfl ?_))
    exact xi (AV.tup [S_Up.av (S_Up.mk a0.Now a0.Next (((a0.Conns.set x8.toNat (x11.w2 ((a1.w5 (IntKind.i64.wrap (a0.Now + (10 : Int)))).w6 false))).set x8.toNat (x12.w3 x10)).set x8.toNat (x13.w4 false)) a0.Wait), AV.list 13 (x15.map S_Act.av), ii 0]) (ai (Frz.tupL ⟨Frz.aggL ⟨Frz.pure _ (AV.puD_ok rfl), Frz.pure _ (AV.puD_ok rfl), Frz.rowsW S_Conn.av 29 (lb rfl) (fun _ => rfl) (fun _ => rfl) rfl (flat_from _ _) (by simp only [List.length_set]), Frz.rowsW S_Fetch.av 7 (lb rfl) (fun _ => rfl) (fun _ => rfl) rfl (flat_from _ _) rfl, trivial⟩, Frz.pure _ (AV.puD_ok rfl), Frz.pure _ (AV.puD_ok rfl), trivial⟩) (ai (congrArg (fun r : (S_Up × (List S_Act) × Int) => AV.tup [S_Up.av r.1, AV.list 13 (r.2.1.map S_Act.av), ii r.2.2]) h) rfl))
   ·refine sn <| sj <| sj <| Or.inl <| bind_elim h fun x16 hx16 h => CallH.lend [4] _ _ _ rfl (upstream_count_ok E a0.Conns 122 [AV.iptr [ss x7]] (fun x0 => upstream_to_1 x0 x7) (fun x0 r h => upstream_to_1_ok E x0 x7 r h) rfl x16 hx16) (Lend.of [4] ⟨Frz.rowsW S_Conn.av 29 (lb rfl) (fun _ => rfl) (fun _ => rfl) rfl (flat_from _ _) rfl, Frz.pure _ (AV.puD_ok rfl), trivial⟩) <| ai id <| ai id <| ai id <| ai id <| ai id <| ai (fun hg => (and_r hg)) <| ai (by kernel_rfl) ?_
    refine SeqN.via (St.of [⟨0, AV.ptr 6 0, none⟩, ⟨3, AV.ptr 7 0, none⟩, ⟨38, bb (bif (decide (x16 < (4 : Int))) then (decide (a0.Next < (1000000000 : Int))) else false), none⟩] [.cells 28 (S_Up.cells a0) [], .cells 23 (S_Fetch.cells ((a1.w5 (IntKind.i64.wrap (a0.Now + (10 : Int)))).w6 false)) [], .cells 28 (S_Up.cells S_Up.z) [(2, 0), (3, 1)], .dead, .cells 48 (a0.Conns.flatMap S_Conn.cells) [], .cells 23 (a0.Wait.flatMap S_Fetch.cells) [], .cells 91 [ii a0.Now, ii a0.Next, AV.row 4 0 a0.Conns.length 29, AV.row 5 0 a0.Wait.length 7, AV.list 13 (([] : List S_Act).map S_Act.av)] [(4, 2)], .cells 23 (S_Fetch.cells ((a1.w5 (IntKind.i64.wrap (a0.Now + (10 : Int)))).w6 false)) []] [1, 1, 1]) ?_ ?_
    ·exact gT [0, 1, 2]
    refine Br.of h (fun ht h => ?_) fun ht h => ?_
    ·refine sj <| ai ⟨lb rfl, lb rfl⟩ ?_
     refine xi none (ai rfl ?_)
     refine NormE.to (S_Fetch.av ((a1.w5 (IntKind.i64.wrap (a0.Now + (10 : Int)))).w6 false)) (fun _ => rfl) <| Gho.go <| FnC.of_ev (T := T) (rows := [28, 41, 51]) tOk mixed Tryz.func44 rfl (by kernel_rfl) (by kernel_rfl) rfl rfl <| sj <| ai rfl ?_
     refine xi [] (xi 0 (ai ⟨rfl, rfl⟩ ?_))
     refine sn <| sj ?_
     refine ai ⟨rfl, rfl, rfl, lb rfl⟩ (xi [ii a0.Now, ii (IntKind.i64.wrap (a0.Next + (1 : Int))), AV.row 4 0 a0.Conns.length 29, AV.row 5 0 a0.Wait.length 7, AV.list 13 (([] : List S_Act).map S_Act.av)] (ai (fun _ => rfl) ?_))
     refine sn <| sj <| Or.inl <| ai ⟨rfl, rfl, lb rfl⟩ <| ai ⟨rfl, rfl, lb rfl⟩ ?_
     refine xi (some 380083219460785927172209084114660015778457123557376) (ai (okM.mk (show (380083219460785927172209084114660015778457123557376 : Nat) = freeM T _ _ _ from by kernel_rfl)) ?_)
     refine ai ⟨rfl, rfl, rfl, rfl⟩ <| ai ⟨rfl, rfl, rfl⟩ <| NormE.to (AV.list 29 (([((S_Conn.z.w0 (IntKind.i64.wrap (a0.Next + (1 : Int)))).w1 a1.Origin)] : List S_Conn).map S_Conn.av)) (fun _ => rfl) <| bind_elim h fun x17 hx17 h => ?_
     have qx17 := (app_some hx17).1
     have hx17e := (app_some hx17).2
     refine ai ⟨rfl, rfl, rfl, grow_length S_Conn.cells 29 (fun _ => rfl) rfl, rfl⟩ <| ai rfl <| ai (grow_cond rfl qx17) ?_
     refine xi (x17.flatMap S_Conn.cells) (ai (grow_cells (f := S_Conn.av) hx17e) ?_)
     refine NormE.to (AV.row 9 0 x17.length 29) (fun _ => grow_len _ _ rfl hx17e) ?_
     refine ai ⟨rfl, rfl, rfl, lb rfl⟩ (xi [ii a0.Now, ii (IntKind.i64.wrap (a0.Next + (1 : Int))), AV.row 9 0 x17.length 29, AV.row 5 0 a0.Wait.length 7, AV.list 13 (([] : List S_Act).map S_Act.av)] (ai (fun _ => rfl) ?_))
     refine ai (by kernel_rfl) ?_
     refine SeqN.via (St.of [⟨0, AV.ptr 6 0, none⟩, ⟨3, AV.ptr 8 0, none⟩] [.cells 28 (S_Up.cells a0) [], .cells 23 (S_Fetch.cells ((a1.w5 (IntKind.i64.wrap (a0.Now + (10 : Int)))).w6 false)) [], .cells 28 (S_Up.cells S_Up.z) [(2, 0), (3, 1)], .dead, .dead, .cells 23 (a0.Wait.flatMap S_Fetch.cells) [], .cells 91 [ii a0.Now, ii (IntKind.i64.wrap (a0.Next + (1 : Int))), AV.row 9 0 x17.length 29, AV.row 5 0 a0.Wait.length 7, AV.list 13 (([] : List S_Act).map S_Act.av)] [(4, 2)], .cells 23 (S_Fetch.cells ((a1.w5 (IntKind.i64.wrap (a0.Now + (10 : Int)))).w6 false)) [], .cells 23 (S_Fetch.cells ((a1.w5 (IntKind.i64.wrap (a0.Now + (10 : Int)))).w6 false)) [], .cells 48 (x17.flatMap S_Conn.cells) []] [1, 1, 1]) ?_ ?_
     ·exact gT [0, 1, 2]
     refine sj <| ai ⟨rfl, rfl, lb rfl⟩ <| ai ⟨rfl, rfl, lb rfl⟩ <| ai ⟨rfl, rfl, lb rfl⟩ ?_
     refine xi (some 4797324681010433228800) (ai (okM.mk (show (4797324681010433228800 : Nat) = freeM T _ _ _ from by kernel_rfl)) ?_)
     refine ai ⟨by kernel_rfl, by kernel_rfl⟩ <| Gho.go <| FnC.of_ev (T := T) (rows := []) tOk mixed Tryz.func78 rfl (by kernel_rfl) (by kernel_rfl) rfl rfl <| sj <| ai rfl ?_
     refine xi [(10, 3)] (xi 1 (ai ⟨(by kernel_rfl), rfl⟩ ?_))
     refine sn <| Or.inl <| ai ⟨lb rfl, lb rfl⟩ ?_
     refine xi (some 5764607523034234880) (ai (show aggT [(10, 3)] 0 13 = some 5764607523034234880 from by kernel_rfl) ?_)
     refine NormE.to (S_Act.av (((S_Act.z.w0 (1 : Int)).w1 (IntKind.i64.wrap (a0.Next + (1 : Int)))).w2 a1.Origin)) (fun _ => rfl) <| ai ⟨rfl, rfl, rfl, rfl⟩ <| ai ⟨rfl, rfl, rfl⟩ <| NormE.to (AV.list 13 (([(((S_Act.z.w0 (1 : Int)).w1 (IntKind.i64.wrap (a0.Next + (1 : Int)))).w2 a1.Origin)] : List S_Act).map S_Act.av)) (fun _ => rfl) <| bind_elim h fun x18 hx18 h => ?_
     have qx18 := (app_some hx18).1
     have hx18e := (app_some hx18).2
     refine ai ⟨rfl, rfl, rfl⟩ <| ai rfl <| ai (app_cond S_Act.av qx18) <| NormE.to (AV.list 13 (x18.map S_Act.av)) (fun _ => (app_list 13 S_Act.av _ _).trans (congrArg (fun y => AV.list 13 (List.map S_Act.av y)) hx18e.symm)) ?_
     refine ai ⟨rfl, rfl, rfl, lb rfl⟩ (xi [ii a0.Now, ii (IntKind.i64.wrap (a0.Next + (1 : Int))), AV.row 9 0 x17.length 29, AV.row 5 0 a0.Wait.length 7, AV.list 13 (x18.map S_Act.av)] (ai (fun _ => rfl) ?_))
     refine ai (by kernel_rfl) <| Gho.go <| sn <| NormE.same <| ai ⟨lb rfl, lb rfl⟩ ?_
     refine xi none (ai rfl ?_)
     refine NormE.to (S_Fetch.av ((a1.w5 (IntKind.i64.wrap (a0.Now + (10 : Int)))).w6 false)) (fun _ => rfl) <| ai ⟨by kernel_rfl, by kernel_rfl⟩ <| Gho.go <| FnC.of_ev (T := T) (rows := [35]) tOk mixed Tryz.func76 rfl (by kernel_rfl) (by kernel_rfl) rfl rfl <| sj <| ai rfl ?_
     refine xi [] (xi 0 (ai ⟨rfl, rfl⟩ ?_))
     refine sn <| sj <| chk_elim h fun q19 h => ai (fun _ => q19) <| sn <| sj <| Or.inl <| ai ⟨lb rfl, lb rfl⟩ ?_
     refine xi none (ai rfl ?_)
     refine NormE.to (S_Fetch.av ((a1.w5 (IntKind.i64.wrap (a0.Now + (10 : Int)))).w6 false)) (fun _ => rfl) <| bind_elim h fun x20 hx20 h => CallH.data _ false rfl (wire_New_ok E false a1.Method x20 hx20) <| bind_elim h fun x21 hx21 h => ?_
     refine ai ⟨rfl, rfl, rfl, flat_lenF S_Conn.cells 29 (fun _ => rfl) hx21 (o := 2) (lb rfl)⟩ (xi ((x17.set (IntKind.i64.wrap ((x17.length : Int) - (1 : Int))).toNat (x21.w2 ((a1.w5 (IntKind.i64.wrap (a0.Now + (10 : Int)))).w6 false))).flatMap S_Conn.cells) (ai (fun _ => flat_storeF S_Conn.cells 29 (fun _ => rfl) hx21 (o := 2) (lb rfl) rfl) ?_))
     refine bind_elim h fun x22 hx22 h => ?_
     refine ai ⟨rfl, rfl, rfl, flat_lenF S_Conn.cells 29 (fun _ => rfl) hx22 (o := 9) (lb rfl)⟩ (xi (((x17.set (IntKind.i64.wrap ((x17.length : Int) - (1 : Int))).toNat (x21.w2 ((a1.w5 (IntKind.i64.wrap (a0.Now + (10 : Int)))).w6 false))).set (IntKind.i64.wrap ((x17.length : Int) - (1 : Int))).toNat (x22.w3 x20)).flatMap S_Conn.cells) (ai (fun _ => flat_storeF S_Conn.cells 29 (fun _ => rfl) hx22 (o := 9) (lb rfl) rfl) ?_))
     refine bind_elim h fun x23 hx23 h => ?_
     refine ai ⟨rfl, rfl, rfl, flat_lenF S_Conn.cells 29 (fun _ => rfl) hx23 (o := 27) (lb rfl)⟩ (xi ((((x17.set (IntKind.i64.wrap ((x17.length : Int) - (1 : Int))).toNat (x21.w2 ((a1.w5 (IntKind.i64.wrap (a0.Now + (10 : Int)))).w6 false))).set (IntKind.i64.wrap ((x17.length : Int) - (1 : Int))).toNat (x22.w3 x20)).set (IntKind.i64.wrap ((x17.length : Int) - (1 : Int))).toNat (x23.w4 false)).flatMap S_Conn.cells) (ai (fun _ => flat_storeF S_Conn.cells 29 (fun _ => rfl) hx23 (o := 27) (lb rfl) rfl) ?_))
     refine ai (by kernel_rfl) ?_
     refine SeqN.via (St.of [⟨0, AV.ptr 6 0, none⟩, ⟨5, AV.ptr 11 0, none⟩, ⟨6, AV.ptr 9 (0 + (IntKind.i64.wrap ((x17.length : Int) - (1 : Int))).toNat * 29), none⟩] [.cells 28 (S_Up.cells a0) [], .cells 23 (S_Fetch.cells ((a1.w5 (IntKind.i64.wrap (a0.Now + (10 : Int)))).w6 false)) [], .cells 28 (S_Up.cells S_Up.z) [(2, 0), (3, 1)], .dead, .dead, .cells 23 (a0.Wait.flatMap S_Fetch.cells) [], .cells 91 [ii a0.Now, ii (IntKind.i64.wrap (a0.Next + (1 : Int))), AV.row 9 0 x17.length 29, AV.row 5 0 a0.Wait.length 7, AV.list 13 (x18.map S_Act.av)] [(4, 5)], .cells 23 (S_Fetch.cells ((a1.w5 (IntKind.i64.wrap (a0.Now + (10 : Int)))).w6 false)) [], .cells 23 (S_Fetch.cells ((a1.w5 (IntKind.i64.wrap (a0.Now + (10 : Int)))).w6 false)) [], .cells 48 ((((x17.set (IntKind.i64.wrap ((x17.length : Int) - (1 : Int))).toNat (x21.w2 ((a1.w5 (IntKind.i64.wrap (a0.Now + (10 : Int)))).w6 false))).set (IntKind.i64.wrap ((x17.length : Int) - (1 : Int))).toNat (x22.w3 x20)).set (IntKind.i64.wrap ((x17.length : Int) - (1 : Int))).toNat (x23.w4 false)).flatMap S_Conn.cells) [], .cells 40 (S_Act.cells (((S_Act.z.w0 (1 : Int)).w1 (IntKind.i64.wrap (a0.Next + (1 : Int)))).w2 a1.Origin)) [(10, 3)], .cells 23 (S_Fetch.cells ((a1.w5 (IntKind.i64.wrap (a0.Now + (10 : Int)))).w6 false)) []] [1, 1, 0, 2, 2, 1]) ?_ ?_
     ·exact gT [0, 1, 2, 3, 4, 5]
     refine bind_elim h fun x24 hx24 h => optE.mk (α := AV) (c := ii x24.Id) (flat_getF S_Conn.cells 29 (fun _ => rfl) hx24 (o := 0) (lb rfl) rfl) <| ai ⟨rfl, rfl, lb rfl⟩ <| ai ⟨rfl, rfl, lb rfl⟩ <| ai ⟨rfl, rfl, lb rfl⟩ ?_
     refine xi (some 4797324681010432970752) (ai (okM.mk (show (4797324681010432970752 : Nat) = freeM T _ _ _ from by kernel_rfl)) ?_)
     refine ai ⟨by kernel_rfl, by kernel_rfl⟩ <| Gho.go <| FnC.of_ev (T := T) (rows := []) tOk mixed Tryz.func78 rfl (by kernel_rfl) (by kernel_rfl) rfl rfl <| sj <| ai rfl ?_
     refine xi [(10, 6)] (xi 1 (ai ⟨(by kernel_rfl), rfl⟩ ?_))
     refine sn <| Or.inl <| ai ⟨lb rfl, lb rfl⟩ ?_
     refine xi (some 9223372036854775808) (ai (show aggT [(10, 6)] 0 13 = some 9223372036854775808 from by kernel_rfl) ?_)
     refine NormE.to (S_Act.av (((S_Act.z.w0 (2 : Int)).w1 x24.Id).w3 a1.Bytes)) (fun _ => rfl) <| ai ⟨rfl, rfl, rfl, rfl⟩ <| ai ⟨rfl, rfl, rfl⟩ <| NormE.to (AV.list 13 (([(((S_Act.z.w0 (2 : Int)).w1 x24.Id).w3 a1.Bytes)] : List S_Act).map S_Act.av)) (fun _ => rfl) <| bind_elim h fun x25 hx25 h => ?_
     have qx25 := (app_some hx25).1
     have hx25e := (app_some hx25).2
     refine ai ⟨rfl, rfl, rfl⟩ <| ai rfl <| ai (app_cond S_Act.av qx25) <| NormE.to (AV.list 13 (x25.map S_Act.av)) (fun _ => (app_list 13 S_Act.av _ _).trans (congrArg (fun y => AV.list 13 (List.map S_Act.av y)) hx25e.symm)) ?_
     refine ai ⟨rfl, rfl, rfl, lb rfl⟩ (xi [ii a0.Now, ii (IntKind.i64.wrap (a0.Next + (1 : Int))), AV.row 9 0 x17.length 29, AV.row 5 0 a0.Wait.length 7, AV.list 13 (x25.map S_Act.av)] (ai (fun _ => rfl) ?_))
     refine ai (by kernel_rfl) <| Gho.go <| Gho.go <| Gho.go <| sn <| sj <| sn <| Gho.go <| sn ?_
     refine Br.mk (fun _ => ?_) (fun hf => absurd hf (by decide))
     refine sn <| sj <| Or.inl <| ai ⟨lb rfl, lb rfl⟩ ?_
     refine xi (some 0) (ai (show aggT [(4, 8)] 0 4 = some 0 from by kernel_rfl) ?_)
     refine NormE.to (AV.agg [ii a0.Now, ii (IntKind.i64.wrap (a0.Next + (1 : Int))), AV.row 9 0 x17.length 29, AV.row 5 0 a0.Wait.length 7]) (fun _ => rfl) ?_
     refine ai ⟨rfl, rfl, rfl, lb rfl⟩ (xi [ii a0.Now, ii (IntKind.i64.wrap (a0.Next + (1 : Int))), AV.row 9 0 x17.length 29, AV.row 5 0 a0.Wait.length 7] (ai (fun _ => rfl) ?_))
     refine ai (by kernel_rfl) ?_
     refine SeqN.via (St.of [⟨4, AV.ptr 2 0, none⟩, ⟨5, AV.list 13 (x25.map S_Act.av), some 0⟩, ⟨6, ii 0, none⟩] [.dead, .dead, .cells 28 [ii a0.Now, ii (IntKind.i64.wrap (a0.Next + (1 : Int))), AV.row 9 0 x17.length 29, AV.row 5 0 a0.Wait.length 7] [], .dead, .dead, .cells 23 (a0.Wait.flatMap S_Fetch.cells) [], .dead, .dead, .dead, .cells 48 ((((x17.set (IntKind.i64.wrap ((x17.length : Int) - (1 : Int))).toNat (x21.w2 ((a1.w5 (IntKind.i64.wrap (a0.Now + (10 : Int)))).w6 false))).set (IntKind.i64.wrap ((x17.length : Int) - (1 : Int))).toNat (x22.w3 x20)).set (IntKind.i64.wrap ((x17.length : Int) - (1 : Int))).toNat (x23.w4 false)).flatMap S_Conn.cells) []] [1]) ?_ ?_
     ·exact gT [8]
     replace h := oi h
     refine RetE.frz ?_
     refine ai ⟨lb rfl, lb rfl⟩ (xi (AV.agg [ii a0.Now, ii (IntKind.i64.wrap (a0.Next + (1 : Int))), AV.row 9 0 x17.length 29, AV.row 5 0 a0.Wait.length 7]) (ai rfl ?_))
     exact xi (AV.tup [S_Up.av (S_Up.mk a0.Now (IntKind.i64.wrap (a0.Next + (1 : Int))) (((x17.set (IntKind.i64.wrap ((x17.length : Int) - (1 : Int))).toNat (x21.w2 ((a1.w5 (IntKind.i64.wrap (a0.Now + (10 : Int)))).w6 false))).set (IntKind.i64.wrap ((x17.length : Int) - (1 : Int))).toNat (x22.w3 x20)).set (IntKind.i64.wrap ((x17.length : Int) - (1 : Int))).toNat (x23.w4 false)) a0.Wait), AV.list 13 (x25.map S_Act.av), ii 0]) (ai (Frz.tupL ⟨Frz.aggL ⟨Frz.pure _ (AV.puD_ok rfl), Frz.pure _ (AV.puD_ok rfl), Frz.rowsW S_Conn.av 29 (lb rfl) (fun _ => rfl) (fun _ => rfl) rfl (flat_from _ _) (by simp only [List.length_set]), Frz.rowsW S_Fetch.av 7 (lb rfl) (fun _ => rfl) (fun _ => rfl) rfl (flat_from _ _) rfl, trivial⟩, Frz.pure _ (AV.puD_ok rfl), Frz.pure _ (AV.puD_ok rfl), trivial⟩) (ai (congrArg (fun r : (S_Up × (List S_Act) × Int) => AV.tup [S_Up.av r.1, AV.list 13 (r.2.1.map S_Act.av), ii r.2.2]) h) rfl))
    ·refine sn <| sj <| sn <| Gho.go <| sn ?_
     refine Br.mk (fun hf => absurd hf (by decide)) (fun _ => ?_)
     refine sj <| NormE.same ?_
     refine SeqN.via (St.of [⟨3, AV.ptr 1 0, none⟩, ⟨4, AV.ptr 2 0, none⟩, ⟨8, AV.ptr 6 0, none⟩, ⟨53, bb (decide ((a0.Wait.length : Int) ≥ (16 : Int))), none⟩] [.dead, .cells 23 (S_Fetch.cells ((a1.w5 (IntKind.i64.wrap (a0.Now + (10 : Int)))).w6 false)) [], .cells 28 (S_Up.cells S_Up.z) [(2, 0), (3, 1)], .dead, .cells 48 (a0.Conns.flatMap S_Conn.cells) [], .cells 23 (a0.Wait.flatMap S_Fetch.cells) [], .cells 91 [ii a0.Now, ii a0.Next, AV.row 4 0 a0.Conns.length 29, AV.row 5 0 a0.Wait.length 7, AV.list 13 (([] : List S_Act).map S_Act.av)] [(4, 2)]] [1, 1, 1]) ?_ ?_
     ·exact gT [0, 1, 2]
     refine Br.of h (fun ht h => ?_) fun ht h => ?_
     ·refine xi (some 69810262081) (ai (okM.mk (show (69810262081 : Nat) = freeM T _ _ _ from by kernel_rfl)) ?_)
      refine Gho.go <| FnC.of_ev (T := T) (rows := [13]) tOk mixed Tryz.func35 rfl (by kernel_rfl) (by kernel_rfl) rfl rfl <| sj <| ai rfl ?_
      refine xi [(5, 3)] (xi 1 (ai ⟨(by kernel_rfl), rfl⟩ ?_))
      refine sn <| ai ⟨lb rfl, lb rfl⟩ ?_
      refine xi (some 5368709120) (ai (show aggT [(5, 3)] 0 7 = some 5368709120 from by kernel_rfl) ?_)
      refine NormE.to (S_Message.av S_Message.z) (fun _ => rfl) <| ai ⟨rfl, rfl, lb rfl⟩ <| ai ⟨rfl, rfl, lb rfl⟩ <| ai ⟨rfl, rfl, lb rfl⟩ <| ai ⟨rfl, rfl, lb rfl⟩ ?_
      refine xi none (ai trivial ?_)
      refine Gho.go <| FnC.of_ev (T := T) (rows := []) tOk mixed Tryz.func78 rfl (by kernel_rfl) (by kernel_rfl) rfl rfl <| sj <| ai rfl ?_
      refine xi [] (xi 0 (ai ⟨rfl, rfl⟩ ?_))
      refine sn <| Or.inl <| ai ⟨lb rfl, lb rfl⟩ ?_
      refine xi none (ai rfl ?_)
      refine NormE.to (S_Act.av (((S_Act.z.w0 (4 : Int)).w4 a1.Id).w6 (4 : Int))) (fun _ => rfl) <| ai ⟨rfl, rfl, rfl, rfl⟩ <| ai ⟨rfl, rfl, rfl⟩ <| NormE.to (AV.list 13 (([(((S_Act.z.w0 (4 : Int)).w4 a1.Id).w6 (4 : Int))] : List S_Act).map S_Act.av)) (fun _ => rfl) <| bind_elim h fun x26 hx26 h => ?_
      have qx26 := (app_some hx26).1
      have hx26e := (app_some hx26).2
      refine ai ⟨rfl, rfl, rfl⟩ <| ai rfl <| ai (app_cond S_Act.av qx26) <| NormE.to (AV.list 13 (x26.map S_Act.av)) (fun _ => (app_list 13 S_Act.av _ _).trans (congrArg (fun y => AV.list 13 (List.map S_Act.av y)) hx26e.symm)) ?_
      refine ai ⟨rfl, rfl, rfl, lb rfl⟩ (xi [ii a0.Now, ii a0.Next, AV.row 4 0 a0.Conns.length 29, AV.row 5 0 a0.Wait.length 7, AV.list 13 (x26.map S_Act.av)] (ai (fun _ => rfl) ?_))
      refine ai (by kernel_rfl) <| Gho.go <| Gho.go <| sn <| sj <| Or.inl <| ai ⟨lb rfl, lb rfl⟩ ?_
      refine xi (some 0) (ai (show aggT [(4, 5)] 0 4 = some 0 from by kernel_rfl) ?_)
      refine NormE.to (AV.agg [ii a0.Now, ii a0.Next, AV.row 4 0 a0.Conns.length 29, AV.row 5 0 a0.Wait.length 7]) (fun _ => rfl) ?_
      refine ai ⟨rfl, rfl, rfl, lb rfl⟩ (xi [ii a0.Now, ii a0.Next, AV.row 4 0 a0.Conns.length 29, AV.row 5 0 a0.Wait.length 7] (ai (fun _ => rfl) ?_))
      refine ai (by kernel_rfl) ?_
      refine SeqN.via (St.of [⟨4, AV.ptr 2 0, none⟩, ⟨5, AV.list 13 (x26.map S_Act.av), some 0⟩, ⟨6, ii 0, none⟩] [.dead, .dead, .cells 28 [ii a0.Now, ii a0.Next, AV.row 4 0 a0.Conns.length 29, AV.row 5 0 a0.Wait.length 7] [], .dead, .cells 48 (a0.Conns.flatMap S_Conn.cells) [], .cells 23 (a0.Wait.flatMap S_Fetch.cells) []] [1]) ?_ ?_
      ·exact gT [5]
      replace h := oi h
      refine RetE.frz ?_
      refine ai ⟨lb rfl, lb rfl⟩ (xi (AV.agg [ii a0.Now, ii a0.Next, AV.row 4 0 a0.Conns.length 29, AV.row 5 0 a0.Wait.length 7]) (ai rfl ?_))
      exact xi (AV.tup [S_Up.av (S_Up.mk a0.Now a0.Next a0.Conns a0.Wait), AV.list 13 (x26.map S_Act.av), ii 0]) (ai (Frz.tupL ⟨Frz.aggL ⟨Frz.pure _ (AV.puD_ok rfl), Frz.pure _ (AV.puD_ok rfl), Frz.rowsW S_Conn.av 29 (lb rfl) (fun _ => rfl) (fun _ => rfl) rfl (flat_from _ _) rfl, Frz.rowsW S_Fetch.av 7 (lb rfl) (fun _ => rfl) (fun _ => rfl) rfl (flat_from _ _) rfl, trivial⟩, Frz.pure _ (AV.puD_ok rfl), Frz.pure _ (AV.puD_ok rfl), trivial⟩) (ai (congrArg (fun r : (S_Up × (List S_Act) × Int) => AV.tup [S_Up.av r.1, AV.list 13 (r.2.1.map S_Act.av), ii r.2.2]) h) rfl))
     ·refine Or.inl <| ai ⟨lb rfl, lb rfl⟩ ?_
      refine xi none (ai rfl ?_)
      refine NormE.to (S_Fetch.av ((a1.w5 (IntKind.i64.wrap (a0.Now + (10 : Int)))).w6 false)) (fun _ => rfl) <| ai ⟨rfl, rfl, rfl, rfl⟩ <| ai ⟨rfl, rfl, rfl⟩ <| NormE.to (AV.list 7 (([((a1.w5 (IntKind.i64.wrap (a0.Now + (10 : Int)))).w6 false)] : List S_Fetch).map S_Fetch.av)) (fun _ => rfl) <| bind_elim h fun x27 hx27 h => ?_
      have qx27 := (app_some hx27).1
      have hx27e := (app_some hx27).2
      refine ai ⟨rfl, rfl, rfl, grow_length S_Fetch.cells 7 (fun _ => rfl) rfl, rfl⟩ <| ai rfl <| ai (grow_cond rfl qx27) ?_
      refine xi (x27.flatMap S_Fetch.cells) (ai (grow_cells (f := S_Fetch.av) hx27e) ?_)
      refine NormE.to (AV.row 7 0 x27.length 7) (fun _ => grow_len _ _ rfl hx27e) ?_
      refine ai ⟨rfl, rfl, rfl, lb rfl⟩ (xi [ii a0.Now, ii a0.Next, AV.row 4 0 a0.Conns.length 29, AV.row 7 0 x27.length 7, AV.list 13 (([] : List S_Act).map S_Act.av)] (ai (fun _ => rfl) ?_))
      refine ai (by kernel_rfl) <| sn <| sj <| Or.inl <| ai ⟨lb rfl, lb rfl⟩ ?_
      refine xi (some 0) (ai (show aggT [(4, 2)] 0 4 = some 0 from by kernel_rfl) ?_)
      refine NormE.to (AV.agg [ii a0.Now, ii a0.Next, AV.row 4 0 a0.Conns.length 29, AV.row 7 0 x27.length 7]) (fun _ => rfl) ?_
      refine ai ⟨rfl, rfl, rfl, lb rfl⟩ (xi [ii a0.Now, ii a0.Next, AV.row 4 0 a0.Conns.length 29, AV.row 7 0 x27.length 7] (ai (fun _ => rfl) ?_))
      refine ai (by kernel_rfl) ?_
      refine SeqN.via (St.of [⟨4, AV.ptr 2 0, none⟩, ⟨5, AV.list 13 (([] : List S_Act).map S_Act.av), some 0⟩, ⟨6, ii 0, none⟩] [.dead, .dead, .cells 28 [ii a0.Now, ii a0.Next, AV.row 4 0 a0.Conns.length 29, AV.row 7 0 x27.length 7] [], .dead, .cells 48 (a0.Conns.flatMap S_Conn.cells) [], .dead, .dead, .cells 23 (x27.flatMap S_Fetch.cells) []] [1]) ?_ ?_
      ·exact gT [2]
      replace h := oi h
      refine RetE.frz ?_
      refine ai ⟨lb rfl, lb rfl⟩ (xi (AV.agg [ii a0.Now, ii a0.Next, AV.row 4 0 a0.Conns.length 29, AV.row 7 0 x27.length 7]) (ai rfl ?_))
      exact xi (AV.tup [S_Up.av (S_Up.mk a0.Now a0.Next a0.Conns x27), AV.list 13 (([] : List S_Act).map S_Act.av), ii 0]) (ai (Frz.tupL ⟨Frz.aggL ⟨Frz.pure _ (AV.puD_ok rfl), Frz.pure _ (AV.puD_ok rfl), Frz.rowsW S_Conn.av 29 (lb rfl) (fun _ => rfl) (fun _ => rfl) rfl (flat_from _ _) rfl, Frz.rowsW S_Fetch.av 7 (lb rfl) (fun _ => rfl) (fun _ => rfl) rfl (flat_from _ _) rfl, trivial⟩, Frz.pure _ (AV.puD_ok rfl), Frz.pure _ (AV.puD_ok rfl), trivial⟩) (ai (congrArg (fun r : (S_Up × (List S_Act) × Int) => AV.tup [S_Up.av r.1, AV.list 13 (r.2.1.map S_Act.av), ii r.2.2]) h) rfl))
 ·refine xi (bb false) <| ai (fun hg => ht.symm.trans hg) ?_
  refine SeqN.via (St.of [⟨2, AV.ptr 0 0, none⟩, ⟨3, AV.ptr 1 0, none⟩, ⟨4, AV.ptr 2 0, none⟩, ⟨28, bb (bif (bif (bif (!x1) then true else (!x2)) then true else (decide (a0.Next ≥ (1000000000 : Int)))) then true else false), none⟩] [.cells 28 (S_Up.cells a0) [], .cells 23 (S_Fetch.cells a1) [], .cells 28 (S_Up.cells S_Up.z) [(2, 0), (3, 1)]] [1, 1]) ?_ ?_
  ·exact gT [0, 1]
  refine Br.of h (fun ht h => ?_) fun ht h => ?_
  ·refine sj ?_
   refine xi (some 266305) (ai (okM.mk (show (266305 : Nat) = freeM T _ _ _ from by kernel_rfl)) ?_)
   refine ai ⟨rfl, rfl, rfl, lb rfl⟩ (xi (S_Up.cells S_Up.z) (ai (fun _ => rfl) ?_))
   refine xi [(2, 2), (3, 3)] (xi 2 (ai ⟨(by kernel_rfl), rfl⟩ ?_))
   exact W
  ·exact W
instance upstream_Ask_ok_i (E : Pm.Env) [LaidE E] (a0 : S_Up) (a1 : S_Fetch) : Ok E (upstream_Ask a0 a1) (fun r => FnR E Tryz.prog 10 [S_Up.av a0, S_Fetch.av a1] (AV.tup [S_Up.av r.1, AV.list 13 (r.2.1.map S_Act.av), ii r.2.2]) false) := ⟨upstream_Ask_ok E a0 a1⟩
theorem intarsialaw22_alive_ok (E : Pm.Env) [LaidE E] (r : Bool) (h : intarsialaw22_alive = some r) : FnR E Tryz.prog 13 [] (bb r) false := by
 refine FnR.of_ev (T := T) (rows := []) tOk mixed Tryz.func13 rfl (by kernel_rfl) (by kernel_rfl) rfl fun hwf => ?_
 unfold intarsialaw22_alive at h
 refine sj <| sn <| sj ?_
 refine xi (some 266305) (ai (okM.mk (show (266305 : Nat) = freeM T _ _ _ from by kernel_rfl)) ?_)
 exact W
instance intarsialaw22_alive_ok_i (E : Pm.Env) [LaidE E] : Ok E intarsialaw22_alive (fun r => FnR E Tryz.prog 13 [] (bb r) false) := ⟨intarsialaw22_alive_ok E⟩
theorem upstream_Tick_1_ok (E : Pm.Env) [LaidE E] (a0 : S_Conn) (c0 : S_Fetch) (r : Bool) (h : upstream_Tick_1 a0 c0 = some r) : FnR E Tryz.prog 60 [S_Conn.av a0, AV.iptr (S_Fetch.cells c0)] (bb r) false := by
 refine FnR.of_ev (T := T) (rows := []) tOk mixed Tryz.func60 rfl (by kernel_rfl) (by kernel_rfl) rfl fun hwf => ?_
 unfold upstream_Tick_1 at h
 exact W
instance upstream_Tick_1_ok_i (E : Pm.Env) [LaidE E] (a0 : S_Conn) (c0 : S_Fetch) : Ok E (upstream_Tick_1 a0 c0) (fun r => FnR E Tryz.prog 60 [S_Conn.av a0, AV.iptr (S_Fetch.cells c0)] (bb r) false) := ⟨upstream_Tick_1_ok E a0 c0⟩
theorem upstream_Tick_2_ok (E : Pm.Env) [LaidE E] (a0 : S_Fetch) (c0 : S_Fetch) (r : Bool) (h : upstream_Tick_2 a0 c0 = some r) : FnR E Tryz.prog 62 [S_Fetch.av a0, AV.iptr (S_Fetch.cells c0)] (bb r) false := by
 refine FnR.of_ev (T := T) (rows := []) tOk mixed Tryz.func62 rfl (by kernel_rfl) (by kernel_rfl) rfl fun hwf => ?_
 unfold upstream_Tick_2 at h
 exact W
instance upstream_Tick_2_ok_i (E : Pm.Env) [LaidE E] (a0 : S_Fetch) (c0 : S_Fetch) : Ok E (upstream_Tick_2 a0 c0) (fun r => FnR E Tryz.prog 62 [S_Fetch.av a0, AV.iptr (S_Fetch.cells c0)] (bb r) false) := ⟨upstream_Tick_2_ok E a0 c0⟩
theorem upstream_work_goes_ok (E : Pm.Env) [LaidE E] (a0 : S_upstream_work) (r : (Int × Int × (List S_Act) × Int)) (a0' : S_upstream_work) (h : upstream_work_goes a0 = some (r, a0')) (K : AV → Option Nat → List AObj → List Nat → Prop) (hk : K (AV.tup [AV.agg [ii r.1, ii r.2.1, AV.row 4 0 a0'.Up.Conns.length 29, AV.row 5 0 a0'.Up.Wait.length 7], AV.list 13 (r.2.2.1.map S_Act.av), ii r.2.2.2]) none [.cells 91 [ii a0'.Up.Now, ii a0'.Up.Next, AV.row 4 0 a0'.Up.Conns.length 29, AV.row 5 0 a0'.Up.Wait.length 7, AV.list 13 (a0'.acts.map S_Act.av)] [(4, 1)], .dead, .dead, .cells 28 (S_Up.cells S_Up.z) [], .cells 48 (a0'.Up.Conns.flatMap S_Conn.cells) [], .cells 23 (a0'.Up.Wait.flatMap S_Fetch.cells) [], .cells 28 [ii r.1, ii r.2.1, AV.row 4 0 a0'.Up.Conns.length 29, AV.row 5 0 a0'.Up.Wait.length 7] []] [0, 1]) : FnC E Tryz.prog 39 [AV.ptr 0 0] [none] [.cells 91 [ii a0.Up.Now, ii a0.Up.Next, AV.row 1 0 a0.Up.Conns.length 29, AV.row 2 0 a0.Up.Wait.length 7, AV.list 13 (a0.acts.map S_Act.av)] [(4, 0)], .cells 48 (a0.Up.Conns.flatMap S_Conn.cells) [], .cells 23 (a0.Up.Wait.flatMap S_Fetch.cells) [], .cells 28 (S_Up.cells S_Up.z) []] [1] K := by
 refine FnC.of_ev (T := T) (rows := []) tOk mixed Tryz.func39 rfl (by kernel_rfl) (by kernel_rfl) rfl rfl ?_
 unfold upstream_work_goes at h
 refine sj <| ai rfl <| sn <| sj <| sj <| sn ?_
 refine LoopE.img (fun x : Int => St.of [⟨0, AV.ptr 0 0, none⟩, ⟨2, AV.ptr 6 0, none⟩, ⟨5, ii x, none⟩] [.cells 91 [ii a0.Up.Now, ii a0.Up.Next, AV.row 4 0 a0.Up.Conns.length 29, AV.row 5 0 a0.Up.Wait.length 7, AV.list 13 (a0.acts.map S_Act.av)] [(4, 1)], .dead, .dead, .cells 28 (S_Up.cells S_Up.z) [], .cells 48 (a0.Up.Conns.flatMap S_Conn.cells) [], .cells 23 (a0.Up.Wait.flatMap S_Fetch.cells) [], .cells 28 (S_Up.cells S_Up.z) [(2, 2), (3, 3)]] [0, 1, 1, 1]) (upstream_work_goes_b1 a0) (0 : Int) h ?_ ?_
 ·exact gI [0, 0, 1, 2] [0, 1, 2, 3, 1, 2, 4]
 intro n1 x y1 h hl1 hr1
 revert h; revert x; intro s1 h
 unfold upstream_work_goes_b1 at h
 refine sj <| sj <| NormE.same <| sn ?_
 refine Br.of h (fun ht h => ?_) fun ht h => ?_
 ·refine sn <| sj ?_
  cases h
 ·refine sn <| sj <| Or.inl <| ai ⟨lb rfl, lb rfl⟩ ?_
  refine xi (some 0) (ai (show aggT [(4, 1)] 0 4 = some 0 from by kernel_rfl) ?_)
  refine NormE.to (AV.agg [ii a0.Up.Now, ii a0.Up.Next, AV.row 4 0 a0.Up.Conns.length 29, AV.row 5 0 a0.Up.Wait.length 7]) (fun _ => rfl) ?_
  refine ai ⟨rfl, rfl, rfl, lb rfl⟩ (xi [ii a0.Up.Now, ii a0.Up.Next, AV.row 4 0 a0.Up.Conns.length 29, AV.row 5 0 a0.Up.Wait.length 7] (ai (fun _ => rfl) ?_))
  refine ai (by kernel_rfl) <| sn ?_
  replace h := oi h
  replace h := hr1 _ h.symm
  have h0 := (Prod.mk.inj h).1
  have h1 := (Prod.mk.inj h).2
  subst h0
  subst h1
  refine xi (St.of [⟨2, AV.ptr 6 0, none⟩, ⟨3, AV.list 13 (a0.acts.map S_Act.av), none⟩, ⟨4, ii 0, none⟩] [.cells 91 [ii a0.Up.Now, ii a0.Up.Next, AV.row 4 0 a0.Up.Conns.length 29, AV.row 5 0 a0.Up.Wait.length 7, AV.list 13 (a0.acts.map S_Act.av)] [(4, 1)], .dead, .dead, .cells 28 (S_Up.cells S_Up.z) [], .cells 48 (a0.Up.Conns.flatMap S_Conn.cells) [], .cells 23 (a0.Up.Wait.flatMap S_Fetch.cells) [], .cells 28 [ii a0.Up.Now, ii a0.Up.Next, AV.row 4 0 a0.Up.Conns.length 29, AV.row 5 0 a0.Up.Wait.length 7] []] [0, 1]) (ai ?_ ?_)
  ·exact gI [0, 1] [0, 1, 2, 3, 4, 5, 6]
  ·refine ai ⟨lb rfl, lb rfl⟩ (xi (AV.agg [ii a0.Up.Now, ii a0.Up.Next, AV.row 4 0 a0.Up.Conns.length 29, AV.row 5 0 a0.Up.Wait.length 7]) (ai rfl ?_))
   exact hk
theorem upstream_Tick_ok (E : Pm.Env) [LaidE E] (a0 : S_Up) (r : (S_Up × (List S_Act) × Int)) (h : upstream_Tick a0 = some r) : FnR E Tryz.prog 24 [S_Up.av a0] (AV.tup [S_Up.av r.1, AV.list 13 (r.2.1.map S_Act.av), ii r.2.2]) false := by
 refine FnR.of_ev (T := T) (rows := [20, 31, 34, 36, 39, 53, 65, 73, 78]) tOk mixed Tryz.func24 rfl (by kernel_rfl) (by kernel_rfl) rfl fun hwf => ?_
 unfold upstream_Tick at h
 refine sj <| ai rfl ?_
 refine xi [] (xi 0 (ai ⟨rfl, rfl⟩ ?_))
 refine ai rfl <| sn <| sj <| sj <| ai ⟨lb rfl, lb rfl⟩ ?_
 refine xi none (ai rfl ?_)
 refine NormE.to (S_Up.av a0) (fun _ => rfl) <| bind_elim h fun x1 hx1 h => CallH.data _ false rfl (upstream_Right_ok E a0 x1 hx1) <| ai id <| ai id <| ai (fun hg => (and_r hg)) <| sn ?_
 refine Br.of h (fun ht h => ?_) fun ht h => ?_
 ·refine sj ?_
  refine xi (some 266305) (ai (okM.mk (show (266305 : Nat) = freeM T _ _ _ from by kernel_rfl)) ?_)
  refine ai ⟨rfl, rfl, rfl, lb rfl⟩ (xi (S_Up.cells S_Up.z) (ai (fun _ => rfl) ?_))
  refine xi [(2, 3), (3, 4)] (xi 2 (ai ⟨(by kernel_rfl), rfl⟩ ?_))
  refine SeqN.via (St.of [⟨2, AV.ptr 1 0, none⟩, ⟨3, AV.list 13 (([] : List S_Act).map S_Act.av), some 0⟩, ⟨4, ii 1, none⟩] [.dead, .cells 28 (S_Up.cells S_Up.z) [(2, 1), (3, 2)]] [2, 1, 1]) ?_ ?_
  ·exact gT [5, 3, 4]
  exact W
 ·refine sn <| sj <| ai ⟨lb rfl, lb rfl⟩ ?_
  refine xi none (ai rfl ?_)
  refine NormE.to (S_Up.av a0) (fun _ => rfl) <| Gho.go <| FnC.of_ev (T := T) (rows := []) tOk mixed Tryz.func33 rfl (by kernel_rfl) (by kernel_rfl) rfl rfl <| sj <| ai rfl ?_
  refine xi [] (xi 0 (ai ⟨rfl, rfl⟩ ?_))
  refine sn <| sj <| Or.inl <| bind_elim h fun x2 hx2 h => ?_
  have qx2 := chk2_some hx2
  refine CallH.rows _ _ _ _ rfl (slices_Clone_Conn_row E a0.Conns qx2) <| bind_elim h fun x3 hx3 h => ?_
  have qx3 := chk2_some hx3
  refine CallH.rows _ _ _ _ rfl (slices_Clone_Fetch_row E a0.Wait qx3) ?_
  refine ai ⟨rfl, rfl, rfl, lb rfl⟩ (xi [ii a0.Now, ii a0.Next, AV.row 3 0 a0.Conns.length 29, AV.list 7 (a0.Wait.map S_Fetch.av)] (ai (fun _ => rfl) ?_))
  refine ai ⟨rfl, rfl, rfl, lb rfl⟩ (xi [ii a0.Now, ii a0.Next, AV.row 3 0 a0.Conns.length 29, AV.row 4 0 a0.Wait.length 7] (ai (fun _ => rfl) ?_))
  refine ai (by kernel_rfl) <| sn <| sj <| ai ⟨lb rfl, lb rfl⟩ ?_
  refine xi none (ai rfl ?_)
  refine NormE.to (AV.agg [ii a0.Now, ii a0.Next, AV.row 3 0 a0.Conns.length 29, AV.row 4 0 a0.Wait.length 7]) (fun _ => rfl) <| ai ⟨rfl, rfl, lb rfl⟩ ?_
  refine xi (some 16777216) (ai (okM.mk (show (16777216 : Nat) = freeM T _ _ _ from by kernel_rfl)) ?_)
  refine ai rfl ?_
  refine xi [(4, 3)] (xi 1 (ai ⟨(by kernel_rfl), rfl⟩ ?_))
  refine SeqN.via (St.of [⟨2, AV.ptr 5 0, none⟩] [.cells 28 (S_Up.cells a0) [], .cells 28 (S_Up.cells S_Up.z) [(2, 0), (3, 1)], .dead, .cells 48 (a0.Conns.flatMap S_Conn.cells) [], .cells 23 (a0.Wait.flatMap S_Fetch.cells) [], .cells 91 [ii a0.Now, ii a0.Next, AV.row 3 0 a0.Conns.length 29, AV.row 4 0 a0.Wait.length 7, AV.list 13 (([] : List S_Act).map S_Act.av)] [(4, 3)]] [2, 2, 2, 1]) ?_ ?_
  ·exact gT [0, 1, 2, 3]
  refine Gho.go <| sn <| sj ?_
  refine ai ⟨rfl, rfl, rfl, lb rfl⟩ (xi [ii (IntKind.i64.wrap (a0.Now + (1 : Int))), ii a0.Next, AV.row 3 0 a0.Conns.length 29, AV.row 4 0 a0.Wait.length 7, AV.list 13 (([] : List S_Act).map S_Act.av)] (ai (fun _ => rfl) ?_))
  refine SeqN.via (St.of [⟨1, AV.ptr 0 0, none⟩, ⟨2, AV.ptr 1 0, none⟩, ⟨5, AV.ptr 5 0, none⟩] [.cells 28 (S_Up.cells a0) [], .cells 28 (S_Up.cells S_Up.z) [(2, 0), (3, 1)], .dead, .cells 48 (a0.Conns.flatMap S_Conn.cells) [], .cells 23 (a0.Wait.flatMap S_Fetch.cells) [], .cells 91 [ii (IntKind.i64.wrap (a0.Now + (1 : Int))), ii a0.Next, AV.row 3 0 a0.Conns.length 29, AV.row 4 0 a0.Wait.length 7, AV.list 13 (([] : List S_Act).map S_Act.av)] [(4, 2)]] [1, 1, 1]) ?_ ?_
  ·exact gT [0, 1, 3]
  refine sj <| ai ⟨lb rfl, lb rfl⟩ ?_
  refine xi none (ai rfl ?_)
  refine NormE.to (S_Up.av a0) (fun _ => rfl) <| Gho.go <| FnC.of_ev (T := T) (rows := [23]) tOk mixed Tryz.func32 rfl (by kernel_rfl) (by kernel_rfl) rfl rfl <| sj <| ai rfl ?_
  refine xi [] (xi 0 (ai ⟨rfl, rfl⟩ ?_))
  refine sn <| sj <| bind_elim h fun x4 hx4 h => ?_
  have qx4 := chk2_some hx4
  refine CallH.rows _ _ _ _ rfl (slices_Clone_Fetch_row E a0.Wait qx4) <| sn <| bind_elim h fun j5 hj5 h => ?_
  refine SeqJ.join (St.of [⟨3, AV.row 7 0 j5.length 7, none⟩] [.cells 28 (S_Up.cells a0) [], .cells 28 (S_Up.cells S_Up.z) [(2, 0), (3, 1)], .dead, .cells 48 (a0.Conns.flatMap S_Conn.cells) [], .cells 23 (a0.Wait.flatMap S_Fetch.cells) [], .cells 91 [ii (IntKind.i64.wrap (a0.Now + (1 : Int))), ii a0.Next, AV.row 3 0 a0.Conns.length 29, AV.row 4 0 a0.Wait.length 7, AV.list 13 (([] : List S_Act).map S_Act.av)] [(4, 2)], .dead, .cells 23 (j5.flatMap S_Fetch.cells) []] [1, 1, 1]) ?_ ?_
  ·clear h; have h := hj5; clear hj5
   refine sj <| NormE.to (ii (a0.Conns.length : Int)) (fun _ => len_list S_Conn.av a0.Conns) <| sn ?_
   refine LoopE.img (fun x : (Int × (List S_Fetch)) => St.of [⟨3, AV.row 7 0 x.2.length 7, none⟩, ⟨10, AV.list 29 (a0.Conns.map S_Conn.av), none⟩, ⟨11, ii (a0.Conns.length : Int), none⟩, ⟨12, ii x.1, none⟩] [.cells 28 (S_Up.cells a0) [], .cells 28 (S_Up.cells S_Up.z) [(2, 0), (3, 1)], .dead, .cells 48 (a0.Conns.flatMap S_Conn.cells) [], .cells 23 (a0.Wait.flatMap S_Fetch.cells) [], .cells 91 [ii (IntKind.i64.wrap (a0.Now + (1 : Int))), ii a0.Next, AV.row 3 0 a0.Conns.length 29, AV.row 4 0 a0.Wait.length 7, AV.list 13 (([] : List S_Act).map S_Act.av)] [(4, 2)], .dead, .cells 23 (x.2.flatMap S_Fetch.cells) []] [1, 1, 1]) (upstream_Tick_b1 a0) ((0 : Int), a0.Wait) h ?_ ?_
   ·exact gT [0, 1, 2]
   intro n1 x y1 h hl1 hr1
   obtain ⟨s6, s7⟩ := x
   unfold upstream_Tick_b1 at h
   dsimp only at h
   refine sj <| sn <| sj ?_
   refine Br.of h (fun ht h => ?_) fun ht h => ?_
   ·refine sn <| sj <| sj <| bind_elim h fun x8 hx8 h => ?_
    refine ai rfl (xi (S_Conn.av x8) (ai (fun hg => idx_map _ hx8) ?_))
    refine ai (lb rfl) <| NormE.to (S_Conn.av x8) (fun _ => rfl) <| ai rfl ?_
    refine ai ⟨rfl, rfl, rfl, lb rfl⟩ (xi (S_Conn.cells x8) (ai (fun _ => rfl) ?_))
    refine sn <| sj <| ai ⟨lb rfl, lb rfl⟩ ?_
    refine xi none (ai rfl ?_)
    refine NormE.to (S_Conn.av x8) (fun _ => rfl) <| bind_elim h fun x9 hx9 h => CallH.data _ false rfl (upstream_idle_ok E x8 x9 hx9) <| sn ?_
    refine Br.of h (fun ht h => ?_) fun ht h => ?_
    ·refine ai ⟨lb rfl, lb rfl⟩ ?_
     refine xi none (ai rfl ?_)
     refine NormE.to (S_Fetch.av x8.Fetch) (fun _ => rfl) <| ai ⟨rfl, rfl, rfl, rfl⟩ <| ai ⟨rfl, rfl, rfl⟩ <| NormE.to (AV.list 7 (([x8.Fetch] : List S_Fetch).map S_Fetch.av)) (fun _ => rfl) <| bind_elim h fun x10 hx10 h => ?_
     have qx10 := (app_some hx10).1
     have hx10e := (app_some hx10).2
     refine ai ⟨rfl, rfl, rfl, grow_length S_Fetch.cells 7 (fun _ => rfl) rfl, rfl⟩ <| ai rfl <| ai (grow_cond rfl qx10) ?_
     refine xi (x10.flatMap S_Fetch.cells) (ai (grow_cells (f := S_Fetch.av) hx10e) ?_)
     refine NormE.to (AV.row 9 0 x10.length 7) (fun _ => grow_len _ _ rfl hx10e) <| sn ?_
     replace h := oi h
     refine xi ⟨(n1, ((IntKind.i64.wrap (s6 + (1 : Int))), x10)), hl1 _ h.symm⟩ (ai (Nat.lt_succ_self _) ?_)
     exact gI [0, 1, 2] [0, 1, 2, 3, 4, 5, 0, 9]
    ·refine sn ?_
     replace h := oi h
     refine xi ⟨(n1, ((IntKind.i64.wrap (s6 + (1 : Int))), s7)), hl1 _ h.symm⟩ (ai (Nat.lt_succ_self _) ?_)
     exact gT [0, 1, 2]
   ·replace h := oi h
    replace h := hr1 _ h.symm
    subst h
    exact gT [0, 1, 2]
  ·clear hj5
   refine sj <| sn <| Gho.go <| ai rfl ?_
   refine ai ⟨rfl, rfl, rfl, lb rfl⟩ (xi [AV.row 7 0 j5.length 7] (ai (fun _ => rfl) ?_))
   refine sn <| sj <| sn <| bind_elim h fun j11 hj11 h => ?_
   refine SeqJ.join (St.of [⟨2, AV.ptr 1 0, none⟩, ⟨5, AV.ptr 5 0, none⟩] [.dead, .cells 28 (S_Up.cells S_Up.z) [(2, 0), (3, 1)], .dead, .cells 48 (j11.1.flatMap S_Conn.cells) [], .cells 23 (a0.Wait.flatMap S_Fetch.cells) [], .cells 91 [ii j11.2.1, ii j11.2.2.1, AV.row 3 0 j11.1.length 29, AV.row 4 0 a0.Wait.length 7, AV.list 13 (j11.2.2.2.map S_Act.av)] [(4, 2)]] [1, 1, 1]) ?_ ?_
   ·clear h; have h := hj11; clear hj11
    refine sj <| Gho.go <| FnC.of_ev (T := T) (rows := [5]) tOk mixed Tryz.func57 rfl (by kernel_rfl) (by kernel_rfl) rfl rfl <| sj <| Gho.go ?_
    refine xi 243 (xi (AV.row 7 0 j5.length 7) (xi _ (ai (.val _ _ _ _ meth_112_Len rfl rfl) ?_)))
    refine FnC.of_ev (T := T) (rows := []) tOk mixed Tryz.func243 rfl (by kernel_rfl) (by kernel_rfl) rfl rfl <| sj <| sn <| sj <| NormE.same <| sn <| Gho.go <| sn <| sj <| chk_elim h fun q12 h => ai (fun _ => q12) <| sn ?_
    refine LoopE.img (fun x : Int => St.of [⟨0, AV.iface 112 (AV.ptr 8 0), none⟩, ⟨2, ii (j5.length : Int), none⟩, ⟨3, ii x, none⟩] [.cells 28 (S_Up.cells a0) [], .cells 28 (S_Up.cells S_Up.z) [(2, 0), (3, 1)], .dead, .cells 48 (a0.Conns.flatMap S_Conn.cells) [], .cells 23 (a0.Wait.flatMap S_Fetch.cells) [], .cells 91 [ii (IntKind.i64.wrap (a0.Now + (1 : Int))), ii a0.Next, AV.row 3 0 a0.Conns.length 29, AV.row 4 0 a0.Wait.length 7, AV.list 13 (([] : List S_Act).map S_Act.av)] [(4, 2)], .dead, .cells 23 (j5.flatMap S_Fetch.cells) [], .cells 111 [AV.row 7 0 j5.length 7] []] [1, 1, 1, 2]) (upstream_Tick_b2 a0 j5) (IntKind.i64.wrap ((IntKind.i64.wrap ((j5.length : Int).tdiv (2 : Int))) - (1 : Int))) h ?_ ?_
    ·exact gT [0, 1, 2, 3]
    intro n2 x y2 h hl2 hr2
    revert h; revert x; intro s13 h
    unfold upstream_Tick_b2 at h
    refine sj <| sj <| sn ?_
    refine Br.of h (fun ht h => ?_) fun ht h => ?_
    ·exact W
    ·refine Gho.go <| sn ?_
     refine LoopE.img (fun x : ((List S_Conn) × (List S_Act) × (List S_Fetch)) => St.of [⟨2, AV.ptr 1 0, none⟩, ⟨5, AV.ptr 5 0, none⟩, ⟨7, AV.iface 112 (AV.ptr 8 0), none⟩] [.dead, .cells 28 (S_Up.cells S_Up.z) [(2, 0), (3, 1)], .dead, .cells 48 (x.1.flatMap S_Conn.cells) [], .cells 23 (a0.Wait.flatMap S_Fetch.cells) [], .cells 91 [ii (IntKind.i64.wrap (a0.Now + (1 : Int))), ii a0.Next, AV.row 3 0 x.1.length 29, AV.row 4 0 a0.Wait.length 7, AV.list 13 (x.2.1.map S_Act.av)] [(4, 2)], .dead, .cells 23 (x.2.2.flatMap S_Fetch.cells) [], .cells 111 [AV.row 7 0 x.2.2.length 7] []] [1, 1, 1]) (upstream_Tick_b3 a0) (a0.Conns, ([] : List S_Act), j5) h ?_ ?_
     ·exact gT [0, 1, 2]
     intro n3 x y3 h hl3 hr3
     obtain ⟨s14, s15, s16⟩ := x
     unfold upstream_Tick_b3 at h
     dsimp only at h
     refine sj <| sj <| Gho.go ?_
     refine xi 243 (xi (AV.row 7 0 s16.length 7) (xi _ (ai (.val _ _ _ _ meth_112_Len rfl rfl) ?_)))
     refine FnC.of_ev (T := T) (rows := []) tOk mixed Tryz.func243 rfl (by kernel_rfl) (by kernel_rfl) rfl rfl <| sj <| sn <| sj <| NormE.same <| sn <| Gho.go <| sn ?_
     refine Br.of h (fun ht h => ?_) fun ht h => ?_
     ·refine sn <| sj <| Gho.go <| FnC.of_ev (T := T) (rows := [5, 9, 12, 14]) tOk mixed Tryz.func58 rfl (by kernel_rfl) (by kernel_rfl) rfl rfl <| sj <| sn <| sj <| Gho.go ?_
      refine xi 243 (xi (AV.row 7 0 s16.length 7) (xi _ (ai (.val _ _ _ _ meth_112_Len rfl rfl) ?_)))
      refine FnC.of_ev (T := T) (rows := []) tOk mixed Tryz.func243 rfl (by kernel_rfl) (by kernel_rfl) rfl rfl <| sj <| sn <| sj <| NormE.same <| sn <| Gho.go <| sn <| sj <| Gho.go ?_
      refine xi 245 (xi (AV.row 7 0 s16.length 7) (xi _ (ai (.val _ _ _ _ meth_112_Swap rfl rfl) ?_)))
      refine FnC.of_ev (T := T) (rows := []) tOk mixed Tryz.func245 rfl (by kernel_rfl) (by kernel_rfl) rfl rfl <| Or.inl <| chk_elim h fun q17 h => ai (fun _ => q17) <| bind_elim h fun x18 hx18 h => ai ⟨lb rfl, flat_fits S_Fetch.cells 7 (fun _ => rfl) hx18⟩ ?_
      refine xi none (ai rfl ?_)
      refine NormE.to (S_Fetch.av x18) (fun _ => congrArg AV.agg (flat_load S_Fetch.cells 7 (fun _ => rfl) hx18)) <| chk_elim h fun q19 h => ai (fun _ => q19) <| bind_elim h fun x20 hx20 h => ai ⟨lb rfl, flat_fits S_Fetch.cells 7 (fun _ => rfl) hx20⟩ ?_
      refine xi none (ai rfl ?_)
      refine NormE.to (S_Fetch.av x20) (fun _ => congrArg AV.agg (flat_load S_Fetch.cells 7 (fun _ => rfl) hx20)) <| chk_elim h fun q21 h => ai (fun _ => q21) <| chk_elim h fun q22 h => ?_
      refine ai ⟨rfl, rfl, rfl, flat_len_le S_Fetch.cells 7 (fun _ => rfl) q22⟩ (xi ((s16.set (0 : Int).toNat x18).flatMap S_Fetch.cells) (ai (fun _ => flat_store S_Fetch.cells 7 (fun _ => rfl) x18 q22 rfl) ?_))
      refine chk_elim h fun q23 h => ai (fun _ => q23) <| chk_elim h fun q24 h => ?_
      refine ai ⟨rfl, rfl, rfl, flat_len_le S_Fetch.cells 7 (fun _ => rfl) q24⟩ (xi (((s16.set (0 : Int).toNat x18).set (IntKind.i64.wrap ((s16.length : Int) - (1 : Int))).toNat x20).flatMap S_Fetch.cells) (ai (fun _ => flat_store S_Fetch.cells 7 (fun _ => rfl) x20 q24 rfl) ?_))
      refine ai (by kernel_rfl) <| Gho.go <| sn <| sj <| Gho.go <| FnC.of_ev (T := T) (rows := []) tOk mixed Tryz.func98 rfl (by kernel_rfl) (by kernel_rfl) rfl rfl <| sj <| sn <| sj <| sn <| bind_elim h fun j25 hj25 h => ?_
      refine SeqJ.join (St.of [⟨1, ii 0, none⟩, ⟨7, ii j25, none⟩] [.dead, .cells 28 (S_Up.cells S_Up.z) [(2, 0), (3, 1)], .dead, .cells 48 (s14.flatMap S_Conn.cells) [], .cells 23 (a0.Wait.flatMap S_Fetch.cells) [], .cells 91 [ii (IntKind.i64.wrap (a0.Now + (1 : Int))), ii a0.Next, AV.row 3 0 s14.length 29, AV.row 4 0 a0.Wait.length 7, AV.list 13 (s15.map S_Act.av)] [(4, 2)], .dead, .cells 23 (((s16.set (0 : Int).toNat x18).set (IntKind.i64.wrap ((s16.length : Int) - (1 : Int))).toNat x20).flatMap S_Fetch.cells) [], .cells 111 [AV.row 7 0 s16.length 7] []] [1, 1, 1]) ?_ ?_
      ·clear h; have h := hj25; clear hj25
       refine LoopE.img (fun x : Int => St.of [⟨0, AV.iface 112 (AV.ptr 8 0), none⟩, ⟨1, ii 0, none⟩, ⟨2, ii (IntKind.i64.wrap ((s16.length : Int) - (1 : Int))), none⟩, ⟨7, ii x, none⟩] [.dead, .cells 28 (S_Up.cells S_Up.z) [(2, 0), (3, 1)], .dead, .cells 48 (s14.flatMap S_Conn.cells) [], .cells 23 (a0.Wait.flatMap S_Fetch.cells) [], .cells 91 [ii (IntKind.i64.wrap (a0.Now + (1 : Int))), ii a0.Next, AV.row 3 0 s14.length 29, AV.row 4 0 a0.Wait.length 7, AV.list 13 (s15.map S_Act.av)] [(4, 2)], .dead, .cells 23 (((s16.set (0 : Int).toNat x18).set (IntKind.i64.wrap ((s16.length : Int) - (1 : Int))).toNat x20).flatMap S_Fetch.cells) [], .cells 111 [AV.row 7 0 s16.length 7] []] [1, 1, 1]) (upstream_Tick_b4 s16) (0 : Int) h ?_ ?_
       ·exact gT [0, 1, 2]
       intro n4 x y4 h hl4 hr4
       revert h; revert x; intro s26 h
       unfold upstream_Tick_b4 at h
       refine sj <| sn <| sj <| sj <| ai id <| ai (fun hg => (and_r hg)) <| sn ?_
       refine Br.of h (fun ht h => ?_) fun ht h => ?_
       ·replace h := oi h
        replace h := hr4 _ h.symm
        subst h
        exact gT [0, 1, 2]
       ·exact W
      ·clear hj25
       refine sj <| sn <| Gho.go <| sn <| sj <| Gho.go ?_
       refine xi 246 (xi (AV.ptr 8 0) (xi _ (ai (.ptr meth_112_Pop) ?_)))
       refine FnC.of_ev (T := T) (rows := []) tOk mixed Tryz.func246 rfl (by kernel_rfl) (by kernel_rfl) rfl rfl <| sj <| sn <| sj <| NormE.same <| sn <| sj <| chk_elim h fun q27 h => ai (fun _ => q27) <| bind_elim h fun x28 hx28 h => ai ⟨lb rfl, flat_fits S_Fetch.cells 7 (fun _ => rfl) hx28⟩ ?_
       refine xi none (ai rfl ?_)
       refine NormE.to (S_Fetch.av x28) (fun _ => congrArg AV.agg (flat_load S_Fetch.cells 7 (fun _ => rfl) hx28)) <| ai rfl ?_
       refine ai ⟨rfl, rfl, rfl, lb rfl⟩ (xi (S_Fetch.cells x28) (ai (fun _ => rfl) ?_))
       refine sn <| sj <| bind_elim h fun x29 hx29 h => ?_
       have qx29 := (slc_some hx29).1
       refine ai (fun _ => (by have q := qx29; simp only [List.length_set] at q; exact q)) <| NormE.to (AV.row 7 0 x29.length 7) (fun _ => row_slc hx29) ?_
       refine ai ⟨rfl, rfl, rfl, lb rfl⟩ (xi [AV.row 7 0 x29.length 7] (ai (fun _ => rfl) ?_))
       refine SeqN.via _ (Gho.shrink 7 ((x29.flatMap S_Fetch.cells)) rfl (slc_rest S_Fetch.cells hx29)) <| sj <| ai ⟨lb rfl, lb rfl⟩ ?_
       refine xi none (ai rfl ?_)
       refine NormE.to (S_Fetch.av x28) (fun _ => rfl) ?_
       refine SeqN.via (St.of [⟨2, AV.iface 23 (S_Fetch.av x28), none⟩] [.dead, .cells 28 (S_Up.cells S_Up.z) [(2, 0), (3, 1)], .dead, .cells 48 (s14.flatMap S_Conn.cells) [], .cells 23 (a0.Wait.flatMap S_Fetch.cells) [], .cells 91 [ii (IntKind.i64.wrap (a0.Now + (1 : Int))), ii a0.Next, AV.row 3 0 s14.length 29, AV.row 4 0 a0.Wait.length 7, AV.list 13 (s15.map S_Act.av)] [(4, 2)], .dead, .cells 23 (x29.flatMap S_Fetch.cells) [], .cells 111 [AV.row 7 0 x29.length 7] []] [1, 1, 1]) ?_ ?_
       ·exact gT [0, 1, 2]
       refine Gho.go <| sn <| Gho.go <| ai rfl <| ai rfl ?_
       refine ai ⟨rfl, rfl, rfl, lb rfl⟩ (xi (S_Fetch.cells x28) (ai (fun _ => rfl) ?_))
       refine sn <| sj <| sj <| Or.inl <| ai (by kernel_rfl) ?_
       refine SeqN.via (St.of [⟨2, AV.ptr 1 0, none⟩, ⟨5, AV.ptr 5 0, none⟩, ⟨7, AV.iface 112 (AV.ptr 8 0), none⟩, ⟨8, AV.ptr 9 0, none⟩, ⟨48, bb (decide (x28.Due > (IntKind.i64.wrap (a0.Now + (1 : Int))))), none⟩] [.dead, .cells 28 (S_Up.cells S_Up.z) [(2, 0), (3, 1)], .dead, .cells 48 (s14.flatMap S_Conn.cells) [], .cells 23 (a0.Wait.flatMap S_Fetch.cells) [], .cells 91 [ii (IntKind.i64.wrap (a0.Now + (1 : Int))), ii a0.Next, AV.row 3 0 s14.length 29, AV.row 4 0 a0.Wait.length 7, AV.list 13 (s15.map S_Act.av)] [(4, 2)], .dead, .cells 23 (x29.flatMap S_Fetch.cells) [], .cells 111 [AV.row 7 0 x29.length 7] [], .cells 23 (S_Fetch.cells x28) []] [1, 1, 1]) ?_ ?_
       ·exact gT [0, 1, 2]
       refine Br.of h (fun ht h => ?_) fun ht h => ?_
       ·replace h := oi h
        replace h := hr3 _ h.symm
        replace h := hr2 _ h.symm
        subst h
        exact gT [0, 1, 2]
       ·refine sn <| sj ?_
        refine xi (some 69810262081) (ai (okM.mk (show (69810262081 : Nat) = freeM T _ _ _ from by kernel_rfl)) ?_)
        refine Gho.go <| FnC.of_ev (T := T) (rows := [13]) tOk mixed Tryz.func35 rfl (by kernel_rfl) (by kernel_rfl) rfl rfl <| sj <| ai rfl ?_
        refine xi [(5, 3)] (xi 1 (ai ⟨(by kernel_rfl), rfl⟩ ?_))
        refine sn <| ai ⟨lb rfl, lb rfl⟩ ?_
        refine xi (some 5368709120) (ai (show aggT [(5, 3)] 0 7 = some 5368709120 from by kernel_rfl) ?_)
        refine NormE.to (S_Message.av S_Message.z) (fun _ => rfl) <| ai ⟨rfl, rfl, lb rfl⟩ <| ai ⟨rfl, rfl, lb rfl⟩ <| ai ⟨rfl, rfl, lb rfl⟩ <| ai ⟨rfl, rfl, lb rfl⟩ ?_
        refine xi none (ai trivial ?_)
        refine Gho.go <| FnC.of_ev (T := T) (rows := []) tOk mixed Tryz.func78 rfl (by kernel_rfl) (by kernel_rfl) rfl rfl <| sj <| ai rfl ?_
        refine xi [] (xi 0 (ai ⟨rfl, rfl⟩ ?_))
        refine sn <| Or.inl <| ai ⟨lb rfl, lb rfl⟩ ?_
        refine xi none (ai rfl ?_)
        refine NormE.to (S_Act.av (((S_Act.z.w0 (4 : Int)).w4 x28.Id).w6 (62 : Int))) (fun _ => rfl) <| ai ⟨rfl, rfl, rfl, rfl⟩ <| ai ⟨rfl, rfl, rfl⟩ <| NormE.to (AV.list 13 (([(((S_Act.z.w0 (4 : Int)).w4 x28.Id).w6 (62 : Int))] : List S_Act).map S_Act.av)) (fun _ => rfl) <| bind_elim h fun x30 hx30 h => ?_
        have qx30 := (app_some hx30).1
        have hx30e := (app_some hx30).2
        refine ai ⟨rfl, rfl, rfl⟩ <| ai rfl <| ai (app_cond S_Act.av qx30) <| NormE.to (AV.list 13 (x30.map S_Act.av)) (fun _ => (app_list 13 S_Act.av _ _).trans (congrArg (fun y => AV.list 13 (List.map S_Act.av y)) hx30e.symm)) ?_
        refine ai ⟨rfl, rfl, rfl, lb rfl⟩ (xi [ii (IntKind.i64.wrap (a0.Now + (1 : Int))), ii a0.Next, AV.row 3 0 s14.length 29, AV.row 4 0 a0.Wait.length 7, AV.list 13 (x30.map S_Act.av)] (ai (fun _ => rfl) ?_))
        refine ai (by kernel_rfl) <| Gho.go <| Gho.go <| sn <| sj <| sj <| bind_elim h fun x31 hx31 h => CallH.lend [3, 9] _ _ _ rfl (slices_IndexFunc__api_Conn_api_Conn_ok E s14 60 [AV.iptr (S_Fetch.cells x28)] (fun x0 => upstream_Tick_1 x0 x28) (fun x0 r h => upstream_Tick_1_ok E x0 x28 r h) rfl x31 hx31) (Lend.of [3, 9] ⟨Frz.rowsW S_Conn.av 29 (lb rfl) (fun _ => rfl) (fun _ => rfl) rfl (flat_from _ _) rfl, Frz.fn1 (Frz.ptrD rfl rfl (lb rfl)), trivial⟩) <| sn <| sj <| sn ?_
        refine Br.of h (fun ht h => ?_) fun ht h => ?_
        ·refine Gho.go <| FnC.of_ev (T := T) (rows := [15, 25]) tOk mixed Tryz.func38 rfl (by kernel_rfl) (by kernel_rfl) rfl rfl <| sj <| chk_elim h fun q32 h => ai (fun _ => q32) <| bind_elim h fun x33 hx33 h => optE.mk (α := AV) (c := ii x33.Id) (flat_getF S_Conn.cells 29 (fun _ => rfl) hx33 (o := 0) (lb rfl) rfl) <| ai ⟨rfl, rfl, lb rfl⟩ <| ai ⟨rfl, rfl, lb rfl⟩ ?_
         refine xi (some 4797324681010433232896) (ai (okM.mk (show (4797324681010433232896 : Nat) = freeM T _ _ _ from by kernel_rfl)) ?_)
         refine Gho.go <| FnC.of_ev (T := T) (rows := []) tOk mixed Tryz.func78 rfl (by kernel_rfl) (by kernel_rfl) rfl rfl <| sj <| ai rfl ?_
         refine xi [(10, 6)] (xi 1 (ai ⟨(by kernel_rfl), rfl⟩ ?_))
         refine sn <| Or.inl <| ai ⟨lb rfl, lb rfl⟩ ?_
         refine xi (some 9223372036854775808) (ai (show aggT [(10, 6)] 0 13 = some 9223372036854775808 from by kernel_rfl) ?_)
         refine NormE.to (S_Act.av ((S_Act.z.w0 (3 : Int)).w1 x33.Id)) (fun _ => rfl) <| ai ⟨rfl, rfl, rfl, rfl⟩ <| ai ⟨rfl, rfl, rfl⟩ <| NormE.to (AV.list 13 (([((S_Act.z.w0 (3 : Int)).w1 x33.Id)] : List S_Act).map S_Act.av)) (fun _ => rfl) <| bind_elim h fun x34 hx34 h => ?_
         have qx34 := (app_some hx34).1
         have hx34e := (app_some hx34).2
         refine ai ⟨rfl, rfl, rfl⟩ <| ai rfl <| ai (app_cond S_Act.av qx34) <| NormE.to (AV.list 13 (x34.map S_Act.av)) (fun _ => (app_list 13 S_Act.av _ _).trans (congrArg (fun y => AV.list 13 (List.map S_Act.av y)) hx34e.symm)) ?_
         refine ai ⟨rfl, rfl, rfl, lb rfl⟩ (xi [ii (IntKind.i64.wrap (a0.Now + (1 : Int))), ii a0.Next, AV.row 3 0 s14.length 29, AV.row 4 0 a0.Wait.length 7, AV.list 13 (x34.map S_Act.av)] (ai (fun _ => rfl) ?_))
         refine ai (by kernel_rfl) <| Gho.go <| sn <| bind_elim h fun x35 hx35 h => Gho.go <| slices_Delete_Conn_ok (f := S_Conn.av) E rfl rfl hx35 ?_
         refine ai ⟨rfl, rfl, rfl, lb rfl⟩ (xi [ii (IntKind.i64.wrap (a0.Now + (1 : Int))), ii a0.Next, AV.row 3 0 x35.length 29, AV.row 4 0 a0.Wait.length 7, AV.list 13 (x34.map S_Act.av)] (ai (fun _ => rfl) ?_))
         refine Gho.go ?_
         refine SeqN.via (St.of [⟨2, AV.ptr 1 0, none⟩, ⟨5, AV.ptr 5 0, none⟩, ⟨7, AV.iface 112 (AV.ptr 8 0), none⟩, ⟨8, AV.ptr 9 0, none⟩] [.dead, .cells 28 (S_Up.cells S_Up.z) [(2, 0), (3, 1)], .dead, .cells 48 (x35.flatMap S_Conn.cells) [], .cells 23 (a0.Wait.flatMap S_Fetch.cells) [], .cells 91 [ii (IntKind.i64.wrap (a0.Now + (1 : Int))), ii a0.Next, AV.row 3 0 x35.length 29, AV.row 4 0 a0.Wait.length 7, AV.list 13 (x34.map S_Act.av)] [(4, 2)], .dead, .cells 23 (x29.flatMap S_Fetch.cells) [], .cells 111 [AV.row 7 0 x29.length 7] [], .cells 23 (S_Fetch.cells x28) []] [1, 1, 1]) ?_ ?_
         ·exact gT [0, 1, 8]
         refine Gho.go <| FnC.of_ev (T := T) (rows := []) tOk mixed Tryz.func61 rfl (by kernel_rfl) (by kernel_rfl) rfl rfl <| sj <| sn <| sj <| bind_elim h fun x36 hx36 h => CallH.lend [4, 9] _ _ _ rfl (slices_IndexFunc__api_Fetch_api_Fetch_ok E a0.Wait 62 [AV.iptr (S_Fetch.cells x28)] (fun x0 => upstream_Tick_2 x0 x28) (fun x0 r h => upstream_Tick_2_ok E x0 x28 r h) rfl x36 hx36) (Lend.of [4, 9] ⟨Frz.rowsW S_Fetch.av 7 (lb rfl) (fun _ => rfl) (fun _ => rfl) rfl (flat_from _ _) rfl, Frz.fn1 (Frz.ptrD rfl rfl (lb rfl)), trivial⟩) <| sn <| sj <| sj <| sn ?_
         refine Br.of h (fun ht h => ?_) fun ht h => ?_
         ·refine sj <| sn <| Gho.go ?_
          refine ai ⟨rfl, rfl, rfl, lb rfl⟩ (xi [ii (IntKind.i64.wrap (a0.Now + (1 : Int))), ii a0.Next, AV.row 3 0 x35.length 29, AV.row 4 0 a0.Wait.length 7, AV.list 13 (x34.map S_Act.av)] (ai (fun _ => rfl) ?_))
          replace h := oi h
          refine xi ⟨(n3, (x35, x34, x29)), hl3 _ h.symm⟩ (ai (Nat.lt_succ_self _) ?_)
          exact gT [0, 1, 2]
         ·exact W
        ·refine sn <| Gho.go <| FnC.of_ev (T := T) (rows := []) tOk mixed Tryz.func61 rfl (by kernel_rfl) (by kernel_rfl) rfl rfl <| sj <| sn <| sj <| bind_elim h fun x37 hx37 h => CallH.lend [4, 9] _ _ _ rfl (slices_IndexFunc__api_Fetch_api_Fetch_ok E a0.Wait 62 [AV.iptr (S_Fetch.cells x28)] (fun x0 => upstream_Tick_2 x0 x28) (fun x0 r h => upstream_Tick_2_ok E x0 x28 r h) rfl x37 hx37) (Lend.of [4, 9] ⟨Frz.rowsW S_Fetch.av 7 (lb rfl) (fun _ => rfl) (fun _ => rfl) rfl (flat_from _ _) rfl, Frz.fn1 (Frz.ptrD rfl rfl (lb rfl)), trivial⟩) <| sn <| sj <| sj <| sn ?_
         refine Br.of h (fun ht h => ?_) fun ht h => ?_
         ·refine sj <| sn <| Gho.go ?_
          refine ai ⟨rfl, rfl, rfl, lb rfl⟩ (xi [ii (IntKind.i64.wrap (a0.Now + (1 : Int))), ii a0.Next, AV.row 3 0 s14.length 29, AV.row 4 0 a0.Wait.length 7, AV.list 13 (x30.map S_Act.av)] (ai (fun _ => rfl) ?_))
          replace h := oi h
          refine xi ⟨(n3, (s14, x30, x29)), hl3 _ h.symm⟩ (ai (Nat.lt_succ_self _) ?_)
          exact gT [0, 1, 5]
         ·exact W
     ·replace h := oi h
      replace h := hr3 _ h.symm
      replace h := hr2 _ h.symm
      subst h
      exact gT [0, 1, 2]
   ·clear hj11
    refine sj <| bind_elim h fun x38 hx38 h => ?_
    refine xi (St.of [⟨2, AV.ptr 3 0, none⟩, ⟨77, AV.ptr 0 0, none⟩] [.cells 91 [ii j11.2.1, ii j11.2.2.1, AV.row 1 0 j11.1.length 29, AV.row 2 0 a0.Wait.length 7, AV.list 13 (j11.2.2.2.map S_Act.av)] [(4, 0)], .cells 48 (j11.1.flatMap S_Conn.cells) [], .cells 23 (a0.Wait.flatMap S_Fetch.cells) [], .cells 28 (S_Up.cells S_Up.z) []] [1]) (ai ?_ ?_)
    ·exact gI [2] [5, 3, 4, 1]
    refine upstream_work_goes_ok E (S_upstream_work.mk (S_Up.mk j11.2.1 j11.2.2.1 j11.1 a0.Wait) j11.2.2.2) x38.1 x38.2 hx38 _ ?_
    refine ai ⟨rfl, rfl, rfl, lb rfl⟩ (xi [ii x38.1.1, ii x38.1.2.1, AV.row 4 0 x38.2.Up.Conns.length 29, AV.row 5 0 x38.2.Up.Wait.length 7] (ai (fun _ => rfl) ?_))
    refine sn ?_
    replace h := oi h
    refine RetE.frz ?_
    refine ai ⟨lb rfl, lb rfl⟩ (xi (AV.agg [ii x38.1.1, ii x38.1.2.1, AV.row 4 0 x38.2.Up.Conns.length 29, AV.row 5 0 x38.2.Up.Wait.length 7]) (ai rfl ?_))
    exact xi (AV.tup [S_Up.av ((x38.2.Up.w0 x38.1.1).w1 x38.1.2.1), AV.list 13 (x38.1.2.2.1.map S_Act.av), ii x38.1.2.2.2]) (ai (Frz.tupL ⟨Frz.aggL ⟨Frz.pure _ (AV.puD_ok rfl), Frz.pure _ (AV.puD_ok rfl), Frz.rowsW S_Conn.av 29 (lb rfl) (fun _ => rfl) (fun _ => rfl) rfl (flat_from _ _) rfl, Frz.rowsW S_Fetch.av 7 (lb rfl) (fun _ => rfl) (fun _ => rfl) rfl (flat_from _ _) rfl, trivial⟩, Frz.pure _ (AV.puD_ok rfl), Frz.pure _ (AV.puD_ok rfl), trivial⟩) (ai (congrArg (fun r : (S_Up × (List S_Act) × Int) => AV.tup [S_Up.av r.1, AV.list 13 (r.2.1.map S_Act.av), ii r.2.2]) h) rfl))
instance upstream_Tick_ok_i (E : Pm.Env) [LaidE E] (a0 : S_Up) : Ok E (upstream_Tick a0) (fun r => FnR E Tryz.prog 24 [S_Up.av a0] (AV.tup [S_Up.av r.1, AV.list 13 (r.2.1.map S_Act.av), ii r.2.2]) false) := ⟨upstream_Tick_ok E a0⟩
theorem start_Right_1_ok (E : Pm.Env) [LaidE E] (a0 : Int) (r : Bool) (h : start_Right_1 a0 = some r) : FnR E Tryz.prog 145 [AV.int .u8 a0] (bb r) false := by
 refine FnR.of_ev (T := T) (rows := []) tOk mixed Tryz.func145 rfl (by kernel_rfl) (by kernel_rfl) rfl fun hwf => ?_
 unfold start_Right_1 at h
 exact W
instance start_Right_1_ok_i (E : Pm.Env) [LaidE E] (a0 : Int) : Ok E (start_Right_1 a0) (fun r => FnR E Tryz.prog 145 [AV.int .u8 a0] (bb r) false) := ⟨start_Right_1_ok E a0⟩
theorem start_Right_ok (E : Pm.Env) [LaidE E] (a0 : S_Start) (r : Bool) (h : start_Right a0 = some r) : FnR E Tryz.prog 110 [S_Start.av a0] (bb r) false := by
 refine FnR.of_ev (T := T) (rows := []) tOk mixed Tryz.func110 rfl (by kernel_rfl) (by kernel_rfl) rfl fun hwf => ?_
 unfold start_Right at h
 refine sj <| ai rfl ?_
 refine xi [] (xi 0 (ai ⟨rfl, rfl⟩ ?_))
 refine sn <| sj <| sj <| ai id <| ai id <| ai (fun hg => (and_r hg)) <| sn ?_
 refine Br.of h (fun ht h => ?_) fun ht h => ?_
 ·exact W
 ·refine sn <| sj <| sj <| sn ?_
  refine Br.of h (fun ht h => ?_) fun ht h => ?_
  ·exact W
  ·refine sn <| sj <| sn <| sj <| Or.inl <| ai id <| ai id <| ai (fun hg => (and_r hg)) <| ai id <| ai id <| ai (fun hg => (and_r hg)) <| ai id <| ai id <| ai (fun hg => (and_r hg)) <| ai id <| ai id <| NormE.same <| ai id <| ai (fun hg => (and_r hg)) <| ai id <| bind_elim h fun x1 hx1 h => ai id <| ai rfl ?_
   refine CallF.mk _ false (fun hg => text_Trim_ok E a0.Reason x1 (gcall_some hx1 hg)) (ai rfl ?_)
   refine ai id <| ai id <| ai id <| ai (fun hg => (and_r hg)) <| ai id <| ai id <| ai ⟨rfl, rfl⟩ <| bind_elim h fun x2 hx2 h => ai id <| ai id <| ai rfl ?_
   refine CallF.mk _ false (fun hg => slices_ContainsFunc__byte_byte_ok E a0.Reason 145 [] (fun x0 => start_Right_1 x0) (fun x0 r h => start_Right_1_ok E x0 r h) rfl x2 (gcall_some hx2 hg)) (ai rfl ?_)
   refine ai id <| ai (fun hg => (and_r hg)) <| ai (by kernel_rfl) <| sn ?_
   replace h := oi h
   refine RetE.plain ?_
   subst h; exact ai rfl (ai rfl rfl)
instance start_Right_ok_i (E : Pm.Env) [LaidE E] (a0 : S_Start) : Ok E (start_Right a0) (fun r => FnR E Tryz.prog 110 [S_Start.av a0] (bb r) false) := ⟨start_Right_ok E a0⟩
theorem number_Dec_ok (E : Pm.Env) [LaidE E] (a0 : Int) (r : Bytes) (h : number_Dec a0 = some r) : FnR E Tryz.prog 111 [AV.int .u64 a0] (ss r) false := by
 refine FnR.of_ev (T := T) (rows := []) tOk mixed Tryz.func111 rfl (by kernel_rfl) (by kernel_rfl) rfl fun hwf => ?_
 unfold number_Dec at h
 exact W
instance number_Dec_ok_i (E : Pm.Env) [LaidE E] (a0 : Int) : Ok E (number_Dec a0) (fun r => FnR E Tryz.prog 111 [AV.int .u64 a0] (ss r) false) := ⟨number_Dec_ok E a0⟩
theorem start_Print_ok (E : Pm.Env) [LaidE E] (a0 : S_Start) (r : (Bytes × Int)) (h : start_Print a0 = some r) : FnR E Tryz.prog 65 [S_Start.av a0] (AV.tup [ss r.1, ii r.2]) false := by
 refine FnR.of_ev (T := T) (rows := []) tOk mixed Tryz.func65 rfl (by kernel_rfl) (by kernel_rfl) rfl fun hwf => ?_
 unfold start_Print at h
 exact W
instance start_Print_ok_i (E : Pm.Env) [LaidE E] (a0 : S_Start) : Ok E (start_Print a0) (fun r => FnR E Tryz.prog 65 [S_Start.av a0] (AV.tup [ss r.1, ii r.2]) false) := ⟨start_Print_ok E a0⟩
theorem table_named_ok (E : Pm.Env) [LaidE E] (a0 : Bytes) (r : Bytes) (h : table_named a0 = some r) : FnR E Tryz.prog 151 [ss a0] (AV.fn 182 [] [AV.iptr [ss r]]) false := by
 refine FnR.of_ev (T := T) (rows := []) tOk mixed Tryz.func151 rfl (by kernel_rfl) (by kernel_rfl) rfl fun hwf => ?_
 unfold table_named at h
 refine sj <| ai rfl ?_
 refine xi [] (xi 0 (ai ⟨rfl, rfl⟩ ?_))
 refine SeqN.via (St.of [⟨1, AV.iptr [ss a0], none⟩] [] []) ?_ ?_
 ·refine Gho.trans (Gho.fz [0] [(1, AV.iptr [ss a0])] ⟨Frz.ptrD rfl rfl (lb rfl), trivial⟩) ?_
  exact W
 exact W
instance table_named_ok_i (E : Pm.Env) [LaidE E] (a0 : Bytes) : Ok E (table_named a0) (fun r => FnR E Tryz.prog 151 [ss a0] (AV.fn 182 [] [AV.iptr [ss r]]) false) := ⟨table_named_ok E a0⟩
theorem table_keep_api_Field_ok (E : Pm.Env) [LaidE E] (a0 : (List S_Field)) (a1 : FuncId) (a1c : List AV) (a1i : S_Field → Option Bool) (a1h : ∀ (x0 : S_Field) (r : Bool), a1i x0 = some r → FnR E Tryz.prog a1 ([S_Field.av x0] ++ a1c) (bb r) false) (a1p : a1c.all AV.puB = true) (r : (List S_Field)) (h : table_keep_api_Field a0 a1i = some r) : FnR E Tryz.prog 152 [AV.list 2 (a0.map S_Field.av), AV.fn a1 [] a1c] (AV.list 2 (r.map S_Field.av)) true := by
 refine FnR.of_ev (T := T) (rows := []) tOk mixed Tryz.func152 rfl (by kernel_rfl) (by kernel_rfl) rfl fun hwf => ?_
 unfold table_keep_api_Field at h
 refine sj <| sn <| sj <| sn <| bind_elim h fun j1 hj1 h => ?_
 refine SeqJ.join (St.of [⟨5, AV.list 2 (j1.map S_Field.av), some 0⟩] [] [1]) ?_ ?_
 ·clear h; have h := hj1; clear hj1
  refine sj <| NormE.to (ii (a0.length : Int)) (fun _ => len_list S_Field.av a0) <| sn ?_
  refine LoopE.img (fun x : ((List S_Field) × Int) => St.of [⟨1, AV.fn a1 [] a1c, none⟩, ⟨5, AV.list 2 (x.1.map S_Field.av), some 0⟩, ⟨8, AV.list 2 (a0.map S_Field.av), none⟩, ⟨9, ii (a0.length : Int), none⟩, ⟨10, ii x.2, none⟩] [] [1]) (table_keep_api_Field_b1 a0 a1i) (([] : List S_Field), (0 : Int)) h ?_ ?_
  ·exact gT [1]
  intro n1 x y1 h hl1 hr1
  obtain ⟨s2, s3⟩ := x
  unfold table_keep_api_Field_b1 at h
  dsimp only at h
  refine sj <| sn <| sj ?_
  refine Br.of h (fun ht h => ?_) fun ht h => ?_
  ·refine sn <| sj <| sj <| bind_elim h fun x4 hx4 h => ?_
   refine ai rfl (xi (S_Field.av x4) (ai (fun hg => idx_map _ hx4) ?_))
   refine ai (lb rfl) <| NormE.to (S_Field.av x4) (fun _ => rfl) <| ai rfl ?_
   refine ai ⟨rfl, rfl, rfl, lb rfl⟩ (xi (S_Field.cells x4) (ai (fun _ => rfl) ?_))
   refine sn <| sj <| ai ⟨lb rfl, lb rfl⟩ ?_
   refine xi none (ai rfl ?_)
   refine NormE.to (S_Field.av x4) (fun _ => rfl) <| bind_elim h fun x5 hx5 h => CallH.data _ false (puD_app rfl (puD_of a1p)) (a1h x4 x5 hx5) ?_
   exact W
  ·exact W
 ·clear hj1
  exact W
theorem table_Remove_1_ok (E : Pm.Env) [LaidE E] (a0 : S_Field) (c0 : FuncId) (c0c : List AV) (c0i : S_Field → Option Bool) (c0h : ∀ (x0 : S_Field) (r : Bool), c0i x0 = some r → FnR E Tryz.prog c0 ([S_Field.av x0] ++ c0c) (bb r) false) (c0p : c0c.all AV.puB = true) (r : Bool) (h : table_Remove_1 a0 c0i = some r) : FnR E Tryz.prog 153 [S_Field.av a0, AV.iptr [AV.fn c0 [] c0c]] (bb r) false := by
 refine FnR.of_ev (T := T) (rows := []) tOk mixed Tryz.func153 rfl (by kernel_rfl) (by kernel_rfl) rfl fun hwf => ?_
 unfold table_Remove_1 at h
 refine sj <| ai rfl ?_
 refine xi [] (xi 0 (ai ⟨rfl, rfl⟩ ?_))
 refine sn <| sj <| ai ⟨lb rfl, lb rfl⟩ ?_
 refine xi none (ai rfl ?_)
 refine NormE.to (S_Field.av a0) (fun _ => rfl) <| bind_elim h fun x1 hx1 h => CallH.data _ false (puD_app rfl (puD_of c0p)) (c0h a0 x1 hx1) <| sn ?_
 replace h := oi h
 refine RetE.plain ?_
 subst h; exact ai rfl (ai rfl rfl)
theorem text_Lower_ok (E : Pm.Env) [LaidE E] (a0 : Bytes) (r : Bytes) (h : text_Lower a0 = some r) : FnR E Tryz.prog 157 [ss a0] (ss r) false := by
 refine FnR.of_ev (T := T) (rows := [7]) tOk mixed Tryz.func157 rfl (by kernel_rfl) (by kernel_rfl) rfl fun hwf => ?_
 unfold text_Lower at h
 refine sj <| sn <| sj <| ai ⟨rfl, rfl⟩ <| sn <| bind_elim h fun j1 hj1 h => ?_
 refine SeqJ.join (St.of [⟨3, AV.row 0 0 a0.length 0, none⟩] [.cells 5 (j1.map byteAV) []] []) ?_ ?_
 ·clear h; have h := hj1; clear hj1
  refine sj <| NormE.same <| sn ?_
  refine LoopE.img (fun x : (Int × (List UInt8)) => St.of [⟨3, AV.row 0 0 a0.length 0, none⟩, ⟨8, AV.row 0 0 a0.length 0, none⟩, ⟨9, ii (a0.length : Int), none⟩, ⟨10, ii x.1, none⟩] [.cells 5 (x.2.map byteAV) []] []) (text_Lower_b1 a0) ((0 : Int), a0) h ?_ ?_
  ·exact gT []
  intro n1 x y1 h hl1 hr1
  obtain ⟨s2, s3⟩ := x
  unfold text_Lower_b1 at h
  dsimp only at h
  exact W
 ·clear hj1
  refine sj <| chk_elim h fun q8 h => ?_
  refine ai rfl (xi (j1.take a0.length) (ai (row_text q8) ?_))
  exact W
instance text_Lower_ok_i (E : Pm.Env) [LaidE E] (a0 : Bytes) : Ok E (text_Lower a0) (fun r => FnR E Tryz.prog 157 [ss a0] (ss r) false) := ⟨text_Lower_ok E a0⟩
theorem text_Same_ok (E : Pm.Env) [LaidE E] (a0 : Bytes) (a1 : Bytes) (r : Bool) (h : text_Same a0 a1 = some r) : FnR E Tryz.prog 183 [ss a0, ss a1] (bb r) false := by
 refine FnR.of_ev (T := T) (rows := []) tOk mixed Tryz.func183 rfl (by kernel_rfl) (by kernel_rfl) rfl fun hwf => ?_
 unfold text_Same at h
 exact W
instance text_Same_ok_i (E : Pm.Env) [LaidE E] (a0 : Bytes) (a1 : Bytes) : Ok E (text_Same a0 a1) (fun r => FnR E Tryz.prog 183 [ss a0, ss a1] (bb r) false) := ⟨text_Same_ok E a0 a1⟩
theorem table_named_1_ok (E : Pm.Env) [LaidE E] (a0 : S_Field) (c0 : Bytes) (r : Bool) (h : table_named_1 a0 c0 = some r) : FnR E Tryz.prog 182 [S_Field.av a0, AV.iptr [ss c0]] (bb r) false := by
 refine FnR.of_ev (T := T) (rows := []) tOk mixed Tryz.func182 rfl (by kernel_rfl) (by kernel_rfl) rfl fun hwf => ?_
 unfold table_named_1 at h
 exact W
instance table_named_1_ok_i (E : Pm.Env) [LaidE E] (a0 : S_Field) (c0 : Bytes) : Ok E (table_named_1 a0 c0) (fun r => FnR E Tryz.prog 182 [S_Field.av a0, AV.iptr [ss c0]] (bb r) false) := ⟨table_named_1_ok E a0 c0⟩
theorem table_Remove_ok (E : Pm.Env) [LaidE E] (a0 : (List S_Field)) (a1 : Bytes) (r : (List S_Field)) (h : table_Remove a0 a1 = some r) : FnR E Tryz.prog 117 [AV.list 2 (a0.map S_Field.av), ss a1] (AV.list 2 (r.map S_Field.av)) true := by
 refine FnR.of_ev (T := T) (rows := []) tOk mixed Tryz.func117 rfl (by kernel_rfl) (by kernel_rfl) rfl fun hwf => ?_
 unfold table_Remove at h
 refine sj <| sn <| sj <| bind_elim h fun x1 hx1 h => CallH.data _ false rfl (table_named_ok E a1 x1 hx1) <| ai rfl ?_
 refine ai ⟨rfl, rfl, rfl, lb rfl⟩ (xi [AV.fn 182 [] [AV.iptr [ss x1]]] (ai (fun _ => rfl) ?_))
 refine SeqN.via (St.of [⟨0, AV.list 2 (a0.map S_Field.av), none⟩, ⟨5, AV.iptr [AV.fn 182 [] [AV.iptr [ss x1]]], none⟩] [] []) ?_ ?_
 ·refine Gho.trans (Gho.fz [0] [(5, AV.iptr [AV.fn 182 [] [AV.iptr [ss x1]]])] ⟨Frz.ptrD rfl rfl (lb rfl), trivial⟩) ?_
  exact W
 refine sj <| bind_elim h fun x2 hx2 h => CallH.data _ true rfl (table_keep_api_Field_ok E a0 153 [AV.iptr [AV.fn 182 [] [AV.iptr [ss x1]]]] (fun x0 => table_Remove_1 x0 (fun x0 => table_named_1 x0 x1)) (fun x0 r h => table_Remove_1_ok E x0 182 [AV.iptr [ss x1]] (fun x0 => table_named_1 x0 x1) (fun x0 r h => table_named_1_ok E x0 x1 r h) rfl r h) rfl x2 hx2) <| sn ?_
 replace h := oi h
 exact RetE.own 4 0 rfl rfl rfl rfl (ai (congrArg (fun r : (List S_Field) => AV.list 2 (r.map S_Field.av)) h) rfl)
instance table_Remove_ok_i (E : Pm.Env) [LaidE E] (a0 : (List S_Field)) (a1 : Bytes) : Ok E (table_Remove a0 a1) (fun r => FnR E Tryz.prog 117 [AV.list 2 (a0.map S_Field.av), ss a1] (AV.list 2 (r.map S_Field.av)) true) := ⟨table_Remove_ok E a0 a1⟩
theorem frame_With_ok (E : Pm.Env) [LaidE E] (a0 : (List S_Field)) (a1 : S_Body) (r : ((List S_Field) × Int)) (h : frame_With a0 a1 = some r) : FnR E Tryz.prog 69 [AV.list 2 (a0.map S_Field.av), S_Body.av a1] (AV.tup [AV.list 2 (r.1.map S_Field.av), ii r.2]) false := by
 refine FnR.of_ev (T := T) (rows := []) tOk mixed Tryz.func69 rfl (by kernel_rfl) (by kernel_rfl) rfl fun hwf => ?_
 unfold frame_With at h
 exact W
instance frame_With_ok_i (E : Pm.Env) [LaidE E] (a0 : (List S_Field)) (a1 : S_Body) : Ok E (frame_With a0 a1) (fun r => FnR E Tryz.prog 69 [AV.list 2 (a0.map S_Field.av), S_Body.av a1] (AV.tup [AV.list 2 (r.1.map S_Field.av), ii r.2]) false) := ⟨frame_With_ok E a0 a1⟩
theorem head_Print_ok (E : Pm.Env) [LaidE E] (a0 : (List S_Field)) (r : (Bytes × Int)) (h : head_Print a0 = some r) : FnR E Tryz.prog 70 [AV.list 2 (a0.map S_Field.av)] (AV.tup [ss r.1, ii r.2]) false := by
 refine FnR.of_ev (T := T) (rows := [4]) tOk mixed Tryz.func70 rfl (by kernel_rfl) (by kernel_rfl) rfl fun hwf => ?_
 unfold head_Print at h
 refine sj <| sn <| sj <| sj <| bind_elim h fun x1 hx1 h => CallH.data _ false rfl (table_Right_ok E a0 x1 hx1) <| sn ?_
 refine Br.of h (fun ht h => ?_) fun ht h => ?_
 ·exact W
 ·refine sn <| sj ?_
  refine xi 5 (ai rfl ?_)
  refine sn <| bind_elim h fun j2 hj2 h => ?_
  refine SeqJ.join (St.of [⟨4, AV.ptr 0 0, none⟩] [.mp (.bld 176 5 j2)] []) ?_ ?_
  ·clear h; have h := hj2; clear hj2
   refine sj <| NormE.to (ii (a0.length : Int)) (fun _ => len_list S_Field.av a0) <| sn ?_
   refine LoopE.img (fun x : (Int × Bytes) => St.of [⟨4, AV.ptr 0 0, none⟩, ⟨10, AV.list 2 (a0.map S_Field.av), none⟩, ⟨11, ii (a0.length : Int), none⟩, ⟨12, ii x.1, none⟩] [.mp (.bld 176 5 x.2)] []) (head_Print_b1 a0) ((0 : Int), ([] : Bytes)) h ?_ ?_
   ·exact gT []
   intro n1 x y1 h hl1 hr1
   obtain ⟨s3, s4⟩ := x
   unfold head_Print_b1 at h
   dsimp only at h
   refine sj <| sn <| sj ?_
   refine Br.of h (fun ht h => ?_) fun ht h => ?_
   ·refine sn <| sj <| sj <| bind_elim h fun x5 hx5 h => ?_
    refine ai rfl (xi (S_Field.av x5) (ai (fun hg => idx_map _ hx5) ?_))
    refine ai (lb rfl) <| NormE.to (S_Field.av x5) (fun _ => rfl) <| ai rfl ?_
    refine ai ⟨rfl, rfl, rfl, lb rfl⟩ (xi (S_Field.cells x5) (ai (fun _ => rfl) ?_))
    refine sn <| bind_elim h fun x6 hx6 h => ?_
    have hx6c := (cat_some hx6).1
    have hx6e := (cat_some hx6).2
    refine ai (fun _ => hx6c) <| NormE.to (ss x6) (fun _ => congrArg ss hx6e.symm) <| bind_elim h fun x7 hx7 h => ?_
    have hx7c := (cat_some hx7).1
    have hx7e := (cat_some hx7).2
    refine ai (fun _ => hx7c) <| NormE.to (ss x7) (fun _ => congrArg ss hx7e.symm) <| bind_elim h fun x8 hx8 h => ?_
    have hx8c := (cat_some hx8).1
    have hx8e := (cat_some hx8).2
    refine ai (fun _ => hx8c) <| NormE.to (ss x8) (fun _ => congrArg ss hx8e.symm) <| bind_elim h fun x9 hx9 h => ?_
    have qx9 := (bcat_some hx9).1
    have hx9e := (bcat_some hx9).2
    refine CallH.bldW L166 XB 0 s4 x8 rfl 176 5 rfl rfl [.mp (.bld 176 5 (s4 ++ x8)), .cells 169 (S_Field.cells x5) []] [] rfl qx9 rfl rfl ?_
    exact W
   ·exact W
  ·clear hj2
   refine sj <| sj <| bind_elim h fun x10 hx10 h => ?_
   have qx10 := (bcat_some hx10).1
   have hx10e := (bcat_some hx10).2
   refine CallH.bldL Tryz.lays170 XB 0 j2 rfl 176 5 rfl rfl rfl rfl [.mp (.bld 176 5 j2)] [] rfl qx10 rfl rfl <| sn ?_
   refine Br.of h (fun ht h => ?_) fun ht h => ?_
   ·exact W
   ·refine sn <| sj <| bind_elim h fun x11 hx11 h => ?_
    have qx11 := (bcat_some hx11).1
    have hx11e := (bcat_some hx11).2
    refine CallH.bldS L169 XB 0 j2 rfl 176 5 rfl rfl [.dead] [] rfl qx11 rfl rfl ?_
    exact W
instance head_Print_ok_i (E : Pm.Env) [LaidE E] (a0 : (List S_Field)) : Ok E (head_Print a0) (fun r => FnR E Tryz.prog 70 [AV.list 2 (a0.map S_Field.av)] (AV.tup [ss r.1, ii r.2]) false) := ⟨head_Print_ok E a0⟩
theorem wire_Write_ok (E : Pm.Env) [LaidE E] (a0 : S_Message) (a1 : Bool) (r : (Bytes × Int)) (h : wire_Write a0 a1 = some r) : FnR E Tryz.prog 28 [S_Message.av a0, bb a1] (AV.tup [ss r.1, ii r.2]) false := by
 refine FnR.of_ev (T := T) (rows := []) tOk mixed Tryz.func28 rfl (by kernel_rfl) (by kernel_rfl) rfl fun hwf => ?_
 unfold wire_Write at h
 exact W
instance wire_Write_ok_i (E : Pm.Env) [LaidE E] (a0 : S_Message) (a1 : Bool) : Ok E (wire_Write a0 a1) (fun r => FnR E Tryz.prog 28 [S_Message.av a0, bb a1] (AV.tup [ss r.1, ii r.2]) false) := ⟨wire_Write_ok E a0 a1⟩
theorem slices_BinarySearchFunc__api_Conn_api_Conn_int_ok (E : Pm.Env) [LaidE E] (a0 : (List S_Conn)) (a1 : Int) (a2 : FuncId) (a2c : List AV) (a2i : S_Conn → Int → Option Int) (a2h : ∀ (x0 : S_Conn) (x1 : Int) (r : Int), a2i x0 x1 = some r → FnR E Tryz.prog a2 ([S_Conn.av x0, ii x1] ++ a2c) (ii r) false) (a2p : a2c.all AV.puB = true) (r : (Int × Bool)) (h : slices_BinarySearchFunc__api_Conn_api_Conn_int a0 a1 a2i = some r) : FnR E Tryz.prog 79 [AV.list 29 (a0.map S_Conn.av), ii a1, AV.fn a2 [] a2c] (AV.tup [ii r.1, bb r.2]) false := by
 refine FnR.of_ev (T := T) (rows := []) tOk mixed Tryz.func79 rfl (by kernel_rfl) (by kernel_rfl) rfl fun hwf => ?_
 unfold slices_BinarySearchFunc__api_Conn_api_Conn_int at h
 refine sj <| sn <| sj <| NormE.to (ii (a0.length : Int)) (fun _ => len_list S_Conn.av a0) <| sn <| sj <| sn <| bind_elim h fun j1 hj1 h => ?_
 refine SeqJ.join (St.of [⟨0, AV.list 29 (a0.map S_Conn.av), none⟩, ⟨1, ii a1, none⟩, ⟨2, AV.fn a2 [] a2c, none⟩, ⟨8, ii (a0.length : Int), none⟩, ⟨9, ii j1, none⟩] [] []) ?_ ?_
 ·clear h; have h := hj1; clear hj1
  refine LoopE.img (fun x : (Int × Int) => St.of [⟨0, AV.list 29 (a0.map S_Conn.av), none⟩, ⟨1, ii a1, none⟩, ⟨2, AV.fn a2 [] a2c, none⟩, ⟨8, ii (a0.length : Int), none⟩, ⟨9, ii x.1, none⟩, ⟨10, ii x.2, none⟩] [] []) (slices_BinarySearchFunc__api_Conn_api_Conn_int_b1 a0 a1 a2i) ((0 : Int), (a0.length : Int)) h ?_ ?_
  ·exact gT []
  intro n1 x y1 h hl1 hr1
  obtain ⟨s2, s3⟩ := x
  unfold slices_BinarySearchFunc__api_Conn_api_Conn_int_b1 at h
  dsimp only at h
  refine sj <| sj <| sn ?_
  refine Br.of h (fun ht h => ?_) fun ht h => ?_
  ·refine sn <| sj <| chk_elim h fun q4 h => ai (fun _ => q4) <| sn <| sj <| bind_elim h fun x5 hx5 h => ?_
   refine ai rfl (xi (S_Conn.av x5) (ai (fun hg => idx_map _ hx5) ?_))
   refine ai (lb rfl) <| NormE.to (S_Conn.av x5) (fun _ => rfl) <| bind_elim h fun x6 hx6 h => CallH.data _ false (puD_app rfl (puD_of a2p)) (a2h x5 a1 x6 hx6) ?_
   exact W
  ·exact W
 ·clear hj1
  refine sj <| bind_elim h fun x7 hx7 h => ai id <| ai id ?_
  refine ai rfl (xi (S_Conn.av x7) (ai (fun hg => gidx_map _ hx7 hg) ?_))
  refine ai id <| ai (lb rfl) <| NormE.to (S_Conn.av x7) (fun _ => rfl) <| bind_elim h fun x8 hx8 h => ai id <| ai id <| ai id <| ai (puD_app rfl (puD_of a2p)) ?_
  refine CallF.mk _ false (fun hg => a2h x7 a1 x8 (gcall_some hx8 hg)) (ai rfl ?_)
  exact W
theorem upstream_find_1_ok (E : Pm.Env) [LaidE E] (a0 : S_Conn) (a1 : Int) (r : Int) (h : upstream_find_1 a0 a1 = some r) : FnR E Tryz.prog 80 [S_Conn.av a0, ii a1] (ii r) false := by
 refine FnR.of_ev (T := T) (rows := []) tOk mixed Tryz.func80 rfl (by kernel_rfl) (by kernel_rfl) rfl fun hwf => ?_
 unfold upstream_find_1 at h
 exact W
instance upstream_find_1_ok_i (E : Pm.Env) [LaidE E] (a0 : S_Conn) (a1 : Int) : Ok E (upstream_find_1 a0 a1) (fun r => FnR E Tryz.prog 80 [S_Conn.av a0, ii a1] (ii r) false) := ⟨upstream_find_1_ok E a0 a1⟩
theorem upstream_find_ok (E : Pm.Env) [LaidE E] (a0 : S_Up) (a1 : Int) (r : (Int × Bool)) (h : upstream_find a0 a1 = some r) : FnR E Tryz.prog 36 [S_Up.av a0, ii a1] (AV.tup [ii r.1, bb r.2]) false := by
 refine FnR.of_ev (T := T) (rows := []) tOk mixed Tryz.func36 rfl (by kernel_rfl) (by kernel_rfl) rfl fun hwf => ?_
 unfold upstream_find at h
 refine sj <| ai rfl ?_
 refine xi [] (xi 0 (ai ⟨rfl, rfl⟩ ?_))
 refine sn <| sj <| bind_elim h fun x1 hx1 h => CallH.data _ false rfl (slices_BinarySearchFunc__api_Conn_api_Conn_int_ok E a0.Conns a1 80 [] (fun x0 x1 => upstream_find_1 x0 x1) (fun x0 x1 r h => upstream_find_1_ok E x0 x1 r h) rfl x1 hx1) <| sn ?_
 replace h := oi h
 refine RetE.plain ?_
 subst h; exact ai rfl (ai rfl rfl)
instance upstream_find_ok_i (E : Pm.Env) [LaidE E] (a0 : S_Up) (a1 : Int) : Ok E (upstream_find a0 a1) (fun r => FnR E Tryz.prog 36 [S_Up.av a0, ii a1] (AV.tup [ii r.1, bb r.2]) false) := ⟨upstream_find_ok E a0 a1⟩
theorem wire_reading_whole_ok (E : Pm.Env) [LaidE E] (o0 : S_wire_reading) (r : Bool) (o0' : S_wire_reading) (h : wire_reading_whole o0 = some (r, o0')) : FnW E Tryz.prog 108 [AV.ptr 0 0] [.cells 122 (S_wire_reading.cells o0) [(18, 0)]] [1] (bb r) none [.cells 122 (S_wire_reading.cells o0') [(18, 1)]] [0, 1] := by
 refine FnW.of_evB (T := T) (rows := []) tOk mixed Tryz.func108 rfl (by kernel_rfl) (by kernel_rfl) rfl rfl fun hwf => ?_
 unfold wire_reading_whole at h
 refine sj <| sn <| sj <| Or.inl <| ai ⟨lb rfl, lb rfl⟩ ?_
 refine xi (some 0) (ai (show aggT [(18, 0)] 4 7 = some 0 from by kernel_rfl) ?_)
 refine NormE.to (S_Message.av o0.Reader.Head) (fun _ => rfl) <| ai ⟨rfl, rfl, rfl, rfl⟩ <| ai ⟨rfl, rfl, rfl⟩ <| NormE.to (AV.list 7 (([o0.Reader.Head] : List S_Message).map S_Message.av)) (fun _ => rfl) <| bind_elim h fun x1 hx1 h => ?_
 have qx1 := (app_some hx1).1
 have hx1e := (app_some hx1).2
 refine ai ⟨rfl, rfl, rfl⟩ <| ai rfl <| ai (app_cond S_Message.av qx1) <| NormE.to (AV.list 7 (x1.map S_Message.av)) (fun _ => (app_list 7 S_Message.av _ _).trans (congrArg (fun y => AV.list 7 (List.map S_Message.av y)) hx1e.symm)) ?_
 refine ai ⟨rfl, rfl, rfl, lb rfl⟩ (xi (S_wire_reading.cells (o0.w1 x1)) (ai (fun _ => rfl) ?_))
 refine ai (by kernel_rfl) <| sn <| sj ?_
 refine xi (some 69810262081) (ai (okM.mk (show (69810262081 : Nat) = freeM T _ _ _ from by kernel_rfl)) ?_)
 refine xi none (ai trivial ?_)
 refine xi none (ai trivial ?_)
 refine ai ⟨rfl, rfl, rfl, lb rfl⟩ (xi (S_wire_reading.cells (S_wire_reading.mk (o0.Reader.w4 S_Message.z) x1)) (ai (fun _ => rfl) ?_))
 refine xi [(9, 3), (18, 2)] (xi 1 (ai ⟨(by kernel_rfl), rfl⟩ ?_))
 refine ai ⟨rfl, rfl, rfl, lb rfl⟩ (xi (S_wire_reading.cells (S_wire_reading.mk ((o0.Reader.w4 S_Message.z).w5 S_Body.z) x1)) (ai (fun _ => rfl) ?_))
 refine ai ⟨rfl, rfl, rfl, lb rfl⟩ (xi (S_wire_reading.cells (S_wire_reading.mk (((o0.Reader.w4 S_Message.z).w5 S_Body.z).w6 S_Chunked.z) x1)) (ai (fun _ => rfl) ?_))
 refine ai ⟨rfl, rfl, rfl, lb rfl⟩ (xi (S_wire_reading.cells (S_wire_reading.mk ((((o0.Reader.w3 false).w4 S_Message.z).w5 S_Body.z).w6 S_Chunked.z) x1)) (ai (fun _ => rfl) ?_))
 refine sn <| sj <| sn ?_
 replace h := oi h
 have h0 := (Prod.mk.inj h).1
 have h1 := (Prod.mk.inj h).2
 subst h0
 subst h1
 refine xi [⟨2, bb true, none⟩] (xi [.cells 122 (S_wire_reading.cells (S_wire_reading.mk ((((o0.Reader.w3 false).w4 S_Message.z).w5 S_Body.z).w6 S_Chunked.z) x1)) [(18, 1)]] (ai rfl (ai (Gho.to _ _ _ [0, 2] ?_ ?_ ?_ rfl rfl ?_) (ai ?_ rfl))))
 ·exact ⟨⟨rfl, rfl, rfl⟩, trivial⟩
 ·exact rfl
 ·exact rfl
 ·exact tr3 <| trivial
 ·exact rfl
theorem wire_reading_more_ok (E : Pm.Env) [LaidE E] (o0 : S_wire_reading) (r : Bool) (o0' : S_wire_reading) (h : wire_reading_more o0 = some (r, o0')) : FnW E Tryz.prog 64 [AV.ptr 0 0] [.cells 122 (S_wire_reading.cells o0) [(18, 0)]] [1] (bb r) none [.cells 122 (S_wire_reading.cells o0') [(18, 1)]] [0, 1] := by
 refine FnW.of_evB (T := T) (rows := [87]) tOk mixed Tryz.func64 rfl (by kernel_rfl) (by kernel_rfl) rfl rfl fun hwf => ?_
 unfold wire_reading_more at h
 refine sj <| sn <| sj <| NormE.same <| sn <| sj <| sj <| sn <| sj <| sn ?_
 refine Br.of h (fun ht h => ?_) fun ht h => ?_
 ·exact W
 ·refine sj <| sn ?_
  refine Br.of h (fun ht h => ?_) fun ht h => ?_
  ·refine sj <| Or.inl <| NormE.same <| ai rfl <| ai (by kernel_rfl) <| sn <| sj <| Or.inl <| bind_elim h fun x1 hx1 h => ?_
   have qx1 := (slc_some hx1).1
   have hx1e := (slc_some hx1).2
   refine ai (fun _ => qx1) <| NormE.to (ss x1) (fun _ => congrArg ss hx1e.symm) <| bind_elim h fun x2 hx2 h => ?_
   have hx2c := (cat_some hx2).1
   have hx2e := (cat_some hx2).2
   refine ai (fun _ => hx2c) <| NormE.to (ss x2) (fun _ => congrArg ss hx2e.symm) ?_
   refine ai ⟨rfl, rfl, rfl, lb rfl⟩ (xi (S_wire_reading.cells (o0.w0 (o0.Reader.w4 (o0.Reader.Head.w2 x2)))) (ai (fun _ => rfl) ?_))
   refine ai (by kernel_rfl) <| sn <| sj <| bind_elim h fun x3 hx3 h => ?_
   have qx3 := (slc_some hx3).1
   have hx3e := (slc_some hx3).2
   refine ai (fun _ => qx3) <| NormE.to (ss x3) (fun _ => congrArg ss hx3e.symm) ?_
   refine ai ⟨rfl, rfl, rfl, lb rfl⟩ (xi (S_wire_reading.cells (o0.w0 ((o0.Reader.w2 x3).w4 (o0.Reader.Head.w2 x2)))) (ai (fun _ => rfl) ?_))
   refine sn <| sj <| Or.inl <| NormE.same ?_
   refine and_of h (fun ht h => ?_) fun ht h => ?_
   ·refine bind_elim h fun x4 hx4 h => ai (fun _ => id ht) <| CallH.ren [0] [0] [.cells 122 (S_wire_reading.cells x4.2) [(18, 1)]] [0, 1] (wire_reading_whole_ok E (o0.w0 ((o0.Reader.w2 x3).w4 (o0.Reader.Head.w2 x2))) x4.1 x4.2 hx4) rfl rfl rfl rfl rfl rfl rfl rfl rfl <| ai (by kernel_rfl) <| sn ?_
    replace h := oi h
    have h0 := (Prod.mk.inj h).1
    have h1 := (Prod.mk.inj h).2
    subst h0
    subst h1
    refine xi [⟨2, bb (bif ((x2.length : Int) == o0.Reader.Body.Size) then x4.1 else false), none⟩] (xi [.cells 122 (S_wire_reading.cells x4.2) [(18, 1)]] (ai rfl (ai (Gho.to _ _ _ [0, 1] ?_ ?_ ?_ rfl rfl ?_) (ai ?_ rfl))))
    ·exact ⟨⟨rfl, rfl, rfl⟩, trivial⟩
    ·exact rfl
    ·exact rfl
    ·exact tr3 <| trivial
    ·exact rfl
   ·refine xi (bb false) <| ai (fun hg => ht.symm.trans hg) <| ai (by kernel_rfl) <| sn ?_
    replace h := oi h
    have h0 := (Prod.mk.inj h).1
    have h1 := (Prod.mk.inj h).2
    subst h0
    subst h1
    refine xi [⟨2, bb (bif ((x2.length : Int) == o0.Reader.Body.Size) then false else false), none⟩] (xi [.cells 122 (S_wire_reading.cells (o0.w0 ((o0.Reader.w2 x3).w4 (o0.Reader.Head.w2 x2)))) [(18, 1)]] (ai rfl (ai (Gho.to _ _ _ [0, 0] ?_ ?_ ?_ rfl rfl ?_) (ai ?_ rfl))))
    ·exact ⟨⟨rfl, rfl, rfl⟩, trivial⟩
    ·exact rfl
    ·exact rfl
    ·exact tr3 <| trivial
    ·exact rfl
  ·exact W
theorem stringslite_HasPrefix_ok (E : Pm.Env) [LaidE E] (a0 : Bytes) (a1 : Bytes) (r : Bool) (h : stringslite_HasPrefix a0 a1 = some r) : FnR E Tryz.prog 132 [ss a0, ss a1] (bb r) false := by
 refine FnR.of_ev (T := T) (rows := []) tOk mixed Tryz.func132 rfl (by kernel_rfl) (by kernel_rfl) rfl fun hwf => ?_
 unfold stringslite_HasPrefix at h
 exact W
instance stringslite_HasPrefix_ok_i (E : Pm.Env) [LaidE E] (a0 : Bytes) (a1 : Bytes) : Ok E (stringslite_HasPrefix a0 a1) (fun r => FnR E Tryz.prog 132 [ss a0, ss a1] (bb r) false) := ⟨stringslite_HasPrefix_ok E a0 a1⟩
theorem strings_HasPrefix_ok (E : Pm.Env) [LaidE E] (a0 : Bytes) (a1 : Bytes) (r : Bool) (h : strings_HasPrefix a0 a1 = some r) : FnR E Tryz.prog 99 [ss a0, ss a1] (bb r) false := by
 refine FnR.of_ev (T := T) (rows := []) tOk mixed Tryz.func99 rfl (by kernel_rfl) (by kernel_rfl) rfl fun hwf => ?_
 unfold strings_HasPrefix at h
 exact W
instance strings_HasPrefix_ok_i (E : Pm.Env) [LaidE E] (a0 : Bytes) (a1 : Bytes) : Ok E (strings_HasPrefix a0 a1) (fun r => FnR E Tryz.prog 99 [ss a0, ss a1] (bb r) false) := ⟨strings_HasPrefix_ok E a0 a1⟩
theorem number_read_uint64_ok (E : Pm.Env) [LaidE E] (a0 : Bytes) (a1 : Int) (a2 : FuncId) (a2c : List AV) (a2i : Int → Option Int) (a2h : ∀ (x0 : Int) (r : Int), a2i x0 = some r → FnR E Tryz.prog a2 ([AV.int .u8 x0] ++ a2c) (AV.int .u64 r) false) (a2p : a2c.all AV.puB = true) (r : (Int × Int)) (h : number_read_uint64 a0 a1 a2i = some r) : FnR E Tryz.prog 168 [ss a0, AV.int .u64 a1, AV.fn a2 [] a2c] (AV.tup [AV.int .u64 r.1, ii r.2]) false := by
 refine FnR.of_ev (T := T) (rows := []) tOk mixed Tryz.func168 rfl (by kernel_rfl) (by kernel_rfl) rfl fun hwf => ?_
 unfold number_read_uint64 at h
 refine sj <| sn <| sj <| sj <| sn ?_
 refine Br.of h (fun ht h => ?_) fun ht h => ?_
 ·exact W
 ·refine sn <| sj <| sn <| sj <| sj <| NormE.same <| sn ?_
  refine LoopE.img (fun x : (Int × Bool × Int) => St.of [⟨0, ss a0, none⟩, ⟨1, AV.int .u64 a1, none⟩, ⟨2, AV.fn a2 [] a2c, none⟩, ⟨8, AV.int .u64 x.1, none⟩, ⟨9, bb x.2.1, none⟩, ⟨16, ii (a0.length : Int), none⟩, ⟨17, ii x.2.2, none⟩] [] []) (number_read_uint64_b1 a0 a1 a2i) ((IntKind.u64.wrap (0 : Int)), false, (0 : Int)) h ?_ ?_
  ·exact gT []
  intro n1 x y1 h hl1 hr1
  obtain ⟨s1, s2, s3⟩ := x
  unfold number_read_uint64_b1 at h
  dsimp only at h
  refine sj <| sn <| sj ?_
  refine Br.of h (fun ht h => ?_) fun ht h => ?_
  ·refine sn <| sj <| sj <| sn <| sj <| bind_elim h fun x4 hx4 h => ?_
   refine xi x4 (ai (fun hg => idx_some hx4) ?_)
   refine bind_elim h fun x5 hx5 h => CallH.data _ false (puD_app rfl (puD_of a2p)) (a2h (x4.toNat : Int) x5 hx5) ?_
   exact W
  ·exact W
theorem number_ReadDec_1_ok (E : Pm.Env) [LaidE E] (a0 : Int) (r : Int) (h : number_ReadDec_1 a0 = some r) : FnR E Tryz.prog 169 [AV.int .u8 a0] (AV.int .u64 r) false := by
 refine FnR.of_ev (T := T) (rows := []) tOk mixed Tryz.func169 rfl (by kernel_rfl) (by kernel_rfl) rfl fun hwf => ?_
 unfold number_ReadDec_1 at h
 exact W
instance number_ReadDec_1_ok_i (E : Pm.Env) [LaidE E] (a0 : Int) : Ok E (number_ReadDec_1 a0) (fun r => FnR E Tryz.prog 169 [AV.int .u8 a0] (AV.int .u64 r) false) := ⟨number_ReadDec_1_ok E a0⟩
theorem number_ReadDec_ok (E : Pm.Env) [LaidE E] (a0 : Bytes) (r : (Int × Int)) (h : number_ReadDec a0 = some r) : FnR E Tryz.prog 137 [ss a0] (AV.tup [AV.int .u64 r.1, ii r.2]) false := by
 refine FnR.of_ev (T := T) (rows := []) tOk mixed Tryz.func137 rfl (by kernel_rfl) (by kernel_rfl) rfl fun hwf => ?_
 unfold number_ReadDec at h
 refine sj <| sn <| sj <| bind_elim h fun x1 hx1 h => CallH.data _ false rfl (number_read_uint64_ok E a0 (10 : Int) 169 [] (fun x0 => number_ReadDec_1 x0) (fun x0 r h => number_ReadDec_1_ok E x0 r h) rfl x1 hx1) <| sn ?_
 replace h := oi h
 refine RetE.plain ?_
 subst h; exact ai rfl (ai rfl rfl)
instance number_ReadDec_ok_i (E : Pm.Env) [LaidE E] (a0 : Bytes) : Ok E (number_ReadDec a0) (fun r => FnR E Tryz.prog 137 [ss a0] (AV.tup [AV.int .u64 r.1, ii r.2]) false) := ⟨number_ReadDec_ok E a0⟩
theorem start_minor_ok (E : Pm.Env) [LaidE E] (a0 : Bytes) (r : Int) (h : start_minor a0 = some r) : FnR E Tryz.prog 138 [ss a0] (ii r) false := by
 refine FnR.of_ev (T := T) (rows := []) tOk mixed Tryz.func138 rfl (by kernel_rfl) (by kernel_rfl) rfl fun hwf => ?_
 unfold start_minor at h
 exact W
instance start_minor_ok_i (E : Pm.Env) [LaidE E] (a0 : Bytes) : Ok E (start_minor a0) (fun r => FnR E Tryz.prog 138 [ss a0] (ii r) false) := ⟨start_minor_ok E a0⟩
theorem start_Status_ok (E : Pm.Env) [LaidE E] (a0 : Bytes) (r : (S_Start × Int)) (h : start_Status a0 = some r) : FnR E Tryz.prog 104 [ss a0] (AV.tup [S_Start.av r.1, ii r.2]) false := by
 refine FnR.of_ev (T := T) (rows := []) tOk mixed Tryz.func104 rfl (by kernel_rfl) (by kernel_rfl) rfl fun hwf => ?_
 unfold start_Status at h
 exact W
instance start_Status_ok_i (E : Pm.Env) [LaidE E] (a0 : Bytes) : Ok E (start_Status a0) (fun r => FnR E Tryz.prog 104 [ss a0] (AV.tup [S_Start.av r.1, ii r.2]) false) := ⟨start_Status_ok E a0⟩
theorem table_All_ok (E : Pm.Env) [LaidE E] (a0 : (List S_Field)) (a1 : Bytes) (r : (List Bytes)) (h : table_All a0 a1 = some r) : FnR E Tryz.prog 185 [AV.list 2 (a0.map S_Field.av), ss a1] (AV.list 1 (r.map AV.str)) true := by
 refine FnR.of_ev (T := T) (rows := []) tOk mixed Tryz.func185 rfl (by kernel_rfl) (by kernel_rfl) rfl fun hwf => ?_
 unfold table_All at h
 refine sj <| sn <| sj <| sn <| bind_elim h fun j1 hj1 h => ?_
 refine SeqJ.join (St.of [⟨5, AV.list 1 (j1.map AV.str), some 0⟩] [] [1]) ?_ ?_
 ·clear h; have h := hj1; clear hj1
  refine sj <| bind_elim h fun x2 hx2 h => CallH.data _ false rfl (table_named_ok E a1 x2 hx2) <| bind_elim h fun x3 hx3 h => CallH.data _ true rfl (table_keep_api_Field_ok E a0 182 [AV.iptr [ss x2]] (fun x0 => table_named_1 x0 x2) (fun x0 r h => table_named_1_ok E x0 x2 r h) rfl x3 hx3) <| NormE.to (ii (x3.length : Int)) (fun _ => len_list S_Field.av x3) <| sn ?_
  refine LoopE.img (fun x : ((List Bytes) × Int) => St.of [⟨5, AV.list 1 (x.1.map AV.str), some 0⟩, ⟨11, AV.list 2 (x3.map S_Field.av), some 1⟩, ⟨12, ii (x3.length : Int), none⟩, ⟨13, ii x.2, none⟩] [] [1, 1]) (table_All_b1 x3) (([] : List Bytes), (0 : Int)) h ?_ ?_
  ·exact gT [1, 2]
  intro n1 x y1 h hl1 hr1
  obtain ⟨s4, s5⟩ := x
  unfold table_All_b1 at h
  dsimp only at h
  refine sj <| sn <| sj ?_
  refine Br.of h (fun ht h => ?_) fun ht h => ?_
  ·refine sn <| sj <| sj <| bind_elim h fun x6 hx6 h => ?_
   refine ai rfl (xi (S_Field.av x6) (ai (fun hg => idx_map _ hx6) ?_))
   refine ai (lb rfl) <| NormE.to (S_Field.av x6) (fun _ => rfl) <| ai rfl ?_
   refine ai ⟨rfl, rfl, rfl, lb rfl⟩ (xi (S_Field.cells x6) (ai (fun _ => rfl) ?_))
   refine sn <| ai ⟨rfl, rfl, rfl, rfl⟩ <| ai ⟨rfl, rfl, rfl⟩ <| NormE.to (AV.list 1 (([x6.Value] : List Bytes).map AV.str)) (fun _ => rfl) <| bind_elim h fun x7 hx7 h => ?_
   have qx7 := (app_some hx7).1
   have hx7e := (app_some hx7).2
   refine ai ⟨rfl, rfl, rfl⟩ <| ai rfl <| ai (app_cond ss qx7) <| NormE.to (AV.list 1 (x7.map AV.str)) (fun _ => (app_list 1 ss _ _).trans (congrArg (fun y => AV.list 1 (List.map ss y)) hx7e.symm)) <| sn ?_
   replace h := oi h
   refine xi ⟨(n1, (x7, (IntKind.i64.wrap (s5 + (1 : Int))))), hl1 _ h.symm⟩ (ai (Nat.lt_succ_self _) ?_)
   exact gT [3, 1]
  ·exact W
 ·clear hj1
  exact W
instance table_All_ok_i (E : Pm.Env) [LaidE E] (a0 : (List S_Field)) (a1 : Bytes) : Ok E (table_All a0 a1) (fun r => FnR E Tryz.prog 185 [AV.list 2 (a0.map S_Field.av), ss a1] (AV.list 1 (r.map AV.str)) true) := ⟨table_All_ok E a0 a1⟩
theorem table_Joined_ok (E : Pm.Env) [LaidE E] (a0 : (List S_Field)) (a1 : Bytes) (r : (Bytes × Bool)) (h : table_Joined a0 a1 = some r) : FnR E Tryz.prog 156 [AV.list 2 (a0.map S_Field.av), ss a1] (AV.tup [ss r.1, bb r.2]) false := by
 refine FnR.of_ev (T := T) (rows := []) tOk mixed Tryz.func156 rfl (by kernel_rfl) (by kernel_rfl) rfl fun hwf => ?_
 unfold table_Joined at h
 exact W
instance table_Joined_ok_i (E : Pm.Env) [LaidE E] (a0 : (List S_Field)) (a1 : Bytes) : Ok E (table_Joined a0 a1) (fun r => FnR E Tryz.prog 156 [AV.list 2 (a0.map S_Field.av), ss a1] (AV.tup [ss r.1, bb r.2]) false) := ⟨table_Joined_ok E a0 a1⟩
theorem frame_say_ok (E : Pm.Env) [LaidE E] (a0 : Int) (a1 : (List S_Field)) (a2 : S_Body) (r : (S_Body × Int)) (h : frame_say a0 a1 a2 = some r) : FnR E Tryz.prog 162 [ii a0, AV.list 2 (a1.map S_Field.av), S_Body.av a2] (AV.tup [S_Body.av r.1, ii r.2]) false := by
 refine FnR.of_ev (T := T) (rows := []) tOk mixed Tryz.func162 rfl (by kernel_rfl) (by kernel_rfl) rfl fun hwf => ?_
 unfold frame_say at h
 refine sj <| ai rfl ?_
 refine xi [] (xi 0 (ai ⟨rfl, rfl⟩ ?_))
 refine ai rfl <| sn <| sj <| bind_elim h fun x1 hx1 h => CallH.data _ true rfl (table_All_ok E a1 ([67, 111, 110, 116, 101, 110, 116, 45, 76, 101, 110, 103, 116, 104] : Bytes) x1 hx1) <| sn <| sj <| sj <| bind_elim h fun x2 hx2 h => CallH.data _ false rfl (table_Joined_ok E a1 ([84, 114, 97, 110, 115, 102, 101, 114, 45, 69, 110, 99, 111, 100, 105, 110, 103] : Bytes) x2 hx2) <| sn <| sj <| sn ?_
 refine Br.of h (fun ht h => ?_) fun ht h => ?_
 ·exact W
 ·refine sn <| sj <| ai ⟨lb rfl, lb rfl⟩ ?_
  refine xi none (ai rfl ?_)
  refine NormE.to (S_Body.av a2) (fun _ => rfl) <| ai rfl ?_
  refine ai ⟨rfl, rfl, rfl, lb rfl⟩ (xi (S_Body.cells a2) (ai (fun _ => rfl) ?_))
  refine sn <| sj <| sj <| NormE.to (ii (x1.length : Int)) (fun _ => len_list ss x1) <| sn ?_
  refine LoopE.img (fun x : (Bool × Int × S_Body) => St.of [⟨6, AV.ptr 1 0, none⟩, ⟨11, AV.ptr 2 0, none⟩, ⟨12, bb x.1, none⟩, ⟨41, AV.list 1 (x1.map AV.str), some 0⟩, ⟨42, ii (x1.length : Int), none⟩, ⟨43, ii x.2.1, none⟩] [.dead, .cells 42 (S_Body.cells S_Body.z) [], .cells 42 (S_Body.cells x.2.2) []] [1]) (frame_say_b1 x1) (false, (0 : Int), a2) h ?_ ?_
  ·exact gT [0]
  intro n1 x y1 h hl1 hr1
  obtain ⟨s3, s4, s5⟩ := x
  unfold frame_say_b1 at h
  dsimp only at h
  exact W
instance frame_say_ok_i (E : Pm.Env) [LaidE E] (a0 : Int) (a1 : (List S_Field)) (a2 : S_Body) : Ok E (frame_say a0 a1 a2) (fun r => FnR E Tryz.prog 162 [ii a0, AV.list 2 (a1.map S_Field.av), S_Body.av a2] (AV.tup [S_Body.av r.1, ii r.2]) false) := ⟨frame_say_ok E a0 a1 a2⟩
theorem frame_Answer_ok (E : Pm.Env) [LaidE E] (a0 : S_Start) (a1 : (List S_Field)) (a2 : Bytes) (r : (S_Body × Int)) (h : frame_Answer a0 a1 a2 = some r) : FnR E Tryz.prog 130 [S_Start.av a0, AV.list 2 (a1.map S_Field.av), ss a2] (AV.tup [S_Body.av r.1, ii r.2]) false := by
 refine FnR.of_ev (T := T) (rows := []) tOk mixed Tryz.func130 rfl (by kernel_rfl) (by kernel_rfl) rfl fun hwf => ?_
 unfold frame_Answer at h
 exact W
instance frame_Answer_ok_i (E : Pm.Env) [LaidE E] (a0 : S_Start) (a1 : (List S_Field)) (a2 : Bytes) : Ok E (frame_Answer a0 a1 a2) (fun r => FnR E Tryz.prog 130 [S_Start.av a0, AV.list 2 (a1.map S_Field.av), ss a2] (AV.tup [S_Body.av r.1, ii r.2]) false) := ⟨frame_Answer_ok E a0 a1 a2⟩
theorem wire_body_ok (E : Pm.Env) [LaidE E] (a0 : S_Reader) (r : (S_Body × Int)) (h : wire_body a0 = some r) : FnR E Tryz.prog 95 [S_Reader.av a0] (AV.tup [S_Body.av r.1, ii r.2]) false := by
 refine FnR.of_ev (T := T) (rows := []) tOk mixed Tryz.func95 rfl (by kernel_rfl) (by kernel_rfl) rfl fun hwf => ?_
 unfold wire_body at h
 exact W
instance wire_body_ok_i (E : Pm.Env) [LaidE E] (a0 : S_Reader) : Ok E (wire_body a0) (fun r => FnR E Tryz.prog 95 [S_Reader.av a0] (AV.tup [S_Body.av r.1, ii r.2]) false) := ⟨wire_body_ok E a0⟩
theorem wire_reading_begin_ok (E : Pm.Env) [LaidE E] (o0 : S_wire_reading) (r : Bool) (o0' : S_wire_reading) (h : wire_reading_begin o0 = some (r, o0')) : FnW E Tryz.prog 63 [AV.ptr 0 0] [.cells 122 (S_wire_reading.cells o0) [(18, 0)]] [1] (bb r) none [.cells 122 (S_wire_reading.cells o0') [(18, 1)]] [0, 1] := by
 refine FnW.of_evB (T := T) (rows := []) tOk mixed Tryz.func63 rfl (by kernel_rfl) (by kernel_rfl) rfl rfl fun hwf => ?_
 unfold wire_reading_begin at h
 refine sj <| sn <| bind_elim h fun j1 hj1 h => ?_
 refine SeqJ.join (St.of [⟨0, AV.ptr 0 0, none⟩] [.cells 122 (S_wire_reading.cells o0) [(18, 1)]] [0, 1]) ?_ ?_
 ·clear h; have h := hj1; clear hj1
  refine LoopE.img (fun x : Unit => St.of [⟨0, AV.ptr 0 0, none⟩] [.cells 122 (S_wire_reading.cells o0) [(18, 1)]] [0, 1]) (wire_reading_begin_b1 o0) () h ?_ ?_
  ·exact gT [0, 0]
  intro n1 x y1 h hl1 hr1
  unfold wire_reading_begin_b1 at h
  refine sj <| sj <| ai id <| ai id <| ai id <| ai id <| bind_elim h fun x2 hx2 h => ai id <| ai rfl ?_
  refine CallF.mk _ false (fun hg => strings_HasPrefix_ok E o0.Reader.Buf ([10] : Bytes) x2 (gcall_some hx2 hg)) (ai rfl ?_)
  refine ai id <| ai id <| ai id <| ai id <| ai id <| bind_elim h fun x3 hx3 h => ai id <| ai rfl ?_
  refine CallF.mk _ false (fun hg => strings_HasPrefix_ok E o0.Reader.Buf ([13, 10] : Bytes) x3 (gcall_some hx3 hg)) (ai rfl ?_)
  refine ai id <| ai id <| ai (fun hg => (and_r hg)) <| sn ?_
  refine Br.of h (fun ht h => ?_) fun ht h => ?_
  ·exact W
  ·replace h := oi h
   replace h := hr1 _ h.symm
   subst h
   exact gT [0, 1]
 ·clear hj1
  refine sj <| bind_elim h fun x4 hx4 h => CallH.data _ false rfl (head_End_ok E o0.Reader.Buf x4 hx4) <| sn <| sj <| sj <| sn ?_
  refine Br.of h (fun ht h => ?_) fun ht h => ?_
  ·refine sj <| sn ?_
   replace h := oi h
   have h0 := (Prod.mk.inj h).1
   have h1 := (Prod.mk.inj h).2
   subst h0
   subst h1
   refine xi [⟨2, bb false, none⟩] (xi [.cells 122 (S_wire_reading.cells o0) [(18, 1)]] (ai rfl (ai (Gho.to _ _ _ [0, 1] ?_ ?_ ?_ rfl rfl ?_) (ai ?_ rfl))))
   ·exact ⟨⟨rfl, rfl, rfl⟩, trivial⟩
   ·exact rfl
   ·exact rfl
   ·exact tr3 <| trivial
   ·exact rfl
  ·refine sj <| sn ?_
   refine Br.of h (fun ht h => ?_) fun ht h => ?_
   ·exact W
   ·refine sn <| sj <| bind_elim h fun x5 hx5 h => ?_
    have qx5 := (slc_some hx5).1
    have hx5e := (slc_some hx5).2
    refine ai (fun _ => qx5) <| NormE.to (ss x5) (fun _ => congrArg ss hx5e.symm) <| bind_elim h fun x6 hx6 h => CallH.data _ false rfl (strings_Cut_ok E x5 ([10] : Bytes) x6 hx6) <| sn <| sj <| sn <| sj <| sj <| sn ?_
    refine Br.of h (fun ht h => ?_) fun ht h => ?_
    ·exact W
    ·refine sn <| sj <| sj <| bind_elim h fun x7 hx7 h => CallH.data _ false rfl (strings_TrimSuffix_ok E x6.1 ([13] : Bytes) x7 hx7) <| bind_elim h fun x8 hx8 h => CallH.data _ false rfl (start_Status_ok E x7 x8 hx8) ?_
     refine ai ⟨rfl, rfl, rfl, lb rfl⟩ (xi (S_wire_reading.cells (o0.w0 (o0.Reader.w4 (o0.Reader.Head.w0 x8.1)))) (ai (fun _ => rfl) ?_))
     refine sn <| sj <| sn ?_
     refine Br.of h (fun ht h => ?_) fun ht h => ?_
     ·exact W
     ·refine sn <| sj <| bind_elim h fun x9 hx9 h => CallH.data _ false rfl (strings_TrimSuffix_ok E x6.2.1 ([10] : Bytes) x9 hx9) <| bind_elim h fun x10 hx10 h => CallH.data _ false rfl (strings_TrimSuffix_ok E x9 ([13] : Bytes) x10 hx10) <| sn <| sj <| sj <| bind_elim h fun x11 hx11 h => CallH.data _ false rfl (head_Parse_ok E x10 x11 hx11) ?_
      refine ai ⟨rfl, rfl, rfl, lb rfl⟩ (xi (S_wire_reading.cells (o0.w0 (o0.Reader.w4 ((o0.Reader.Head.w0 x8.1).w1 x11.1)))) (ai (fun _ => rfl) ?_))
      refine sn <| sj <| sn ?_
      refine Br.of h (fun ht h => ?_) fun ht h => ?_
      ·exact W
      ·refine sn <| sj <| sj <| ai ⟨lb rfl, lb rfl⟩ ?_
       refine xi (some 0) (ai (show aggT [(18, 1)] 0 18 = some 0 from by kernel_rfl) ?_)
       refine NormE.to (S_Reader.av (o0.Reader.w4 ((o0.Reader.Head.w0 x8.1).w1 x11.1))) (fun _ => rfl) <| bind_elim h fun x12 hx12 h => CallH.data _ false rfl (wire_body_ok E (o0.Reader.w4 ((o0.Reader.Head.w0 x8.1).w1 x11.1)) x12 hx12) ?_
       refine ai ⟨rfl, rfl, rfl, lb rfl⟩ (xi (S_wire_reading.cells (o0.w0 ((o0.Reader.w4 ((o0.Reader.Head.w0 x8.1).w1 x11.1)).w5 x12.1))) (ai (fun _ => rfl) ?_))
       refine sn <| sj <| sn ?_
       refine Br.of h (fun ht h => ?_) fun ht h => ?_
       ·exact W
       ·refine sn <| sj <| bind_elim h fun x13 hx13 h => ?_
        have qx13 := (slc_some hx13).1
        have hx13e := (slc_some hx13).2
        refine ai (fun _ => qx13) <| NormE.to (ss x13) (fun _ => congrArg ss hx13e.symm) ?_
        refine ai ⟨rfl, rfl, rfl, lb rfl⟩ (xi (S_wire_reading.cells (o0.w0 (((o0.Reader.w2 x13).w4 ((o0.Reader.Head.w0 x8.1).w1 x11.1)).w5 x12.1))) (ai (fun _ => rfl) ?_))
        refine sn <| sj <| sj <| sn <| sj <| ai id <| ai (fun hg => (and_r hg)) <| sn ?_
        refine Br.of h (fun ht h => ?_) fun ht h => ?_
        ·exact W
        ·refine sn <| sj ?_
         refine ai ⟨rfl, rfl, rfl, lb rfl⟩ (xi (S_wire_reading.cells (o0.w0 ((((o0.Reader.w2 x13).w3 true).w4 ((o0.Reader.Head.w0 x8.1).w1 x11.1)).w5 x12.1))) (ai (fun _ => rfl) ?_))
         refine sn <| sj <| sn ?_
         replace h := oi h
         have h0 := (Prod.mk.inj h).1
         have h1 := (Prod.mk.inj h).2
         subst h0
         subst h1
         refine xi [⟨2, bb true, none⟩] (xi [.cells 122 (S_wire_reading.cells (o0.w0 ((((o0.Reader.w2 x13).w3 true).w4 ((o0.Reader.Head.w0 x8.1).w1 x11.1)).w5 x12.1))) [(18, 1)]] (ai rfl (ai (Gho.to _ _ _ [0, 1] ?_ ?_ ?_ rfl rfl ?_) (ai ?_ rfl))))
         ·exact ⟨⟨rfl, rfl, rfl⟩, trivial⟩
         ·exact rfl
         ·exact rfl
         ·exact tr3 <| trivial
         ·exact rfl
theorem wire_Feed_ok (E : Pm.Env) [LaidE E] (a0 : S_Reader) (a1 : Bytes) (r : (S_Reader × (List S_Message) × Int)) (h : wire_Feed a0 a1 = some r) : FnR E Tryz.prog 27 [S_Reader.av a0, ss a1] (AV.tup [S_Reader.av r.1, AV.list 7 (r.2.1.map S_Message.av), ii r.2.2]) false := by
 refine FnR.of_ev (T := T) (rows := []) tOk mixed Tryz.func27 rfl (by kernel_rfl) (by kernel_rfl) rfl fun hwf => ?_
 unfold wire_Feed at h
 refine sj <| ai rfl ?_
 refine xi [] (xi 0 (ai ⟨rfl, rfl⟩ ?_))
 refine ai rfl <| sn <| sj <| sj <| ai ⟨lb rfl, lb rfl⟩ ?_
 refine xi none (ai rfl ?_)
 refine NormE.to (S_Reader.av a0) (fun _ => rfl) <| bind_elim h fun x1 hx1 h => CallH.data _ false rfl (wire_Right_ok E a0 x1 hx1) <| sn ?_
 refine Br.of h (fun ht h => ?_) fun ht h => ?_
 ·exact W
 ·refine sn <| sj <| sj <| sn ?_
  refine Br.of h (fun ht h => ?_) fun ht h => ?_
  ·exact W
  ·refine sn <| sj <| ai ⟨lb rfl, lb rfl⟩ ?_
   refine xi none (ai rfl ?_)
   refine NormE.to (S_Reader.av a0) (fun _ => rfl) <| ai ⟨rfl, rfl, lb rfl⟩ ?_
   refine xi (some 324518553658426726783156020576256) (ai (okM.mk (show (324518553658426726783156020576256 : Nat) = freeM T _ _ _ from by kernel_rfl)) ?_)
   refine ai rfl ?_
   refine xi [(18, 2)] (xi 1 (ai ⟨(by kernel_rfl), rfl⟩ ?_))
   refine sn <| sj <| bind_elim h fun x2 hx2 h => ?_
   have hx2c := (cat_some hx2).1
   have hx2e := (cat_some hx2).2
   refine ai (fun _ => hx2c) <| NormE.to (ss x2) (fun _ => congrArg ss hx2e.symm) ?_
   refine ai ⟨rfl, rfl, rfl, lb rfl⟩ (xi (S_wire_reading.cells (S_wire_reading.z.w0 (a0.w2 x2))) (ai (fun _ => rfl) ?_))
   refine SeqN.via (St.of [⟨4, AV.ptr 1 0, none⟩, ⟨7, AV.ptr 2 0, none⟩] [.dead, .cells 46 (S_Reader.cells S_Reader.z) [(9, 0)], .cells 122 (S_wire_reading.cells (S_wire_reading.z.w0 (a0.w2 x2))) [(18, 1)]] [1, 1]) ?_ ?_
   ·exact gT [0, 2]
   refine LoopE.img (fun x : S_wire_reading => St.of [⟨4, AV.ptr 1 0, none⟩, ⟨7, AV.ptr 2 0, none⟩] [.dead, .cells 46 (S_Reader.cells S_Reader.z) [(9, 0)], .cells 122 (S_wire_reading.cells x) [(18, 1)]] [1, 1]) wire_Feed_b1 (S_wire_reading.z.w0 (S_Reader.mk a0.Asks a0.Method x2 a0.In a0.Head a0.Body a0.Chunk a0.Bad)) h ?_ ?_
   ·exact gT [0, 1]
   intro n1 x y1 h hl1 hr1
   revert h; revert x; intro s3 h
   unfold wire_Feed_b1 at h
   refine sj <| sn <| sj <| sj <| sn ?_
   refine Br.of h (fun ht h => ?_) fun ht h => ?_
   ·refine sn <| sj <| bind_elim h fun x4 hx4 h => CallH.ren [2] [1] [.dead, .cells 46 (S_Reader.cells S_Reader.z) [(9, 0)], .cells 122 (S_wire_reading.cells x4.2) [(18, 2)]] [1, 0, 1] (wire_reading_more_ok E s3 x4.1 x4.2 hx4) rfl rfl rfl rfl rfl rfl rfl rfl rfl <| sn ?_
    refine Br.of h (fun ht h => ?_) fun ht h => ?_
    ·refine sj <| Or.inl <| ai ⟨lb rfl, lb rfl⟩ ?_
     refine xi (some 0) (ai (show aggT [(18, 2)] 0 18 = some 0 from by kernel_rfl) ?_)
     exact W
    ·replace h := oi h
     refine xi ⟨(n1, x4.2), hl1 _ h.symm⟩ (ai (Nat.lt_succ_self _) ?_)
     exact gT [0, 2]
   ·refine sn <| sj <| bind_elim h fun x5 hx5 h => CallH.ren [2] [1] [.dead, .cells 46 (S_Reader.cells S_Reader.z) [(9, 0)], .cells 122 (S_wire_reading.cells x5.2) [(18, 2)]] [1, 0, 1] (wire_reading_begin_ok E s3 x5.1 x5.2 hx5) rfl rfl rfl rfl rfl rfl rfl rfl rfl <| sn ?_
    refine Br.of h (fun ht h => ?_) fun ht h => ?_
    ·refine sj <| Or.inl <| ai ⟨lb rfl, lb rfl⟩ ?_
     refine xi (some 0) (ai (show aggT [(18, 2)] 0 18 = some 0 from by kernel_rfl) ?_)
     exact W
    ·replace h := oi h
     refine xi ⟨(n1, x5.2), hl1 _ h.symm⟩ (ai (Nat.lt_succ_self _) ?_)
     exact gT [0, 2]
instance wire_Feed_ok_i (E : Pm.Env) [LaidE E] (a0 : S_Reader) (a1 : Bytes) : Ok E (wire_Feed a0 a1) (fun r => FnR E Tryz.prog 27 [S_Reader.av a0, ss a1] (AV.tup [S_Reader.av r.1, AV.list 7 (r.2.1.map S_Message.av), ii r.2.2]) false) := ⟨wire_Feed_ok E a0 a1⟩
theorem hop_words_ok (E : Pm.Env) [LaidE E] (a0 : (List S_Field)) (r : (List Bytes)) (h : hop_words a0 = some r) : FnR E Tryz.prog 124 [AV.list 2 (a0.map S_Field.av)] (AV.list 1 (r.map AV.str)) true := by
 refine FnR.of_ev (T := T) (rows := []) tOk mixed Tryz.func124 rfl (by kernel_rfl) (by kernel_rfl) rfl fun hwf => ?_
 unfold hop_words at h
 refine sj <| sn <| sj <| bind_elim h fun x1 hx1 h => CallH.data _ false rfl (table_Joined_ok E a0 ([67, 111, 110, 110, 101, 99, 116, 105, 111, 110] : Bytes) x1 hx1) <| sn <| sj <| sn <| bind_elim h fun j2 hj2 h => ?_
 refine SeqJ.join (St.of [⟨5, AV.list 1 (j2.map AV.str), some 0⟩] [] [1]) ?_ ?_
 ·clear h; have h := hj2; clear hj2
  refine sj <| bind_elim h fun x3 hx3 h => CallH.data _ false rfl (strings_Split_ok E x1.1 ([44] : Bytes) x3 hx3) <| NormE.to (ii (x3.length : Int)) (fun _ => len_list ss x3) <| sn ?_
  refine LoopE.img (fun x : ((List Bytes) × Int) => St.of [⟨5, AV.list 1 (x.1.map AV.str), some 0⟩, ⟨14, AV.list 1 (x3.map AV.str), none⟩, ⟨15, ii (x3.length : Int), none⟩, ⟨16, ii x.2, none⟩] [] [1]) (hop_words_b1 x3) (([] : List Bytes), (0 : Int)) h ?_ ?_
  ·exact gT [1]
  intro n1 x y1 h hl1 hr1
  obtain ⟨s4, s5⟩ := x
  unfold hop_words_b1 at h
  dsimp only at h
  exact W
 ·clear hj2
  exact W
instance hop_words_ok_i (E : Pm.Env) [LaidE E] (a0 : (List S_Field)) : Ok E (hop_words a0) (fun r => FnR E Tryz.prog 124 [AV.list 2 (a0.map S_Field.av)] (AV.list 1 (r.map AV.str)) true) := ⟨hop_words_ok E a0⟩
end Go.Proofs.YtommkfooolabhaaGreatDoor
