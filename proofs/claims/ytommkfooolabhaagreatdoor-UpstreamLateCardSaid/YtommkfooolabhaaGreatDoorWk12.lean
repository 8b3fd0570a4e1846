/-
  The functions do what their images say: walks, written by a program of mine (gen.py).
-/
import Derived.Test.YtommkfooolabhaaGreatDoorIw1
import Derived.Test.YtommkfooolabhaaGreatDoorWk11
import Derived.Test.YtommkfooolabhaaGreatDoorPm31
namespace Go.Proofs.YtommkfooolabhaaGreatDoor
open Go Go.Pm
set_option linter.unusedSimpArgs false
open And renaming intro → ai
open Exists renaming intro → xi
open Option.some renaming inj → oi
open _root_.Nat renaming le_of_ble_eq_true → lb
open Go.Pm.SeqJ renaming go → sj
open Go.Pm.SeqN renaming go → sn
set_option maxRecDepth 100000
set_option maxHeartbeats 1200000
set_option linter.unusedVariables false
theorem hop_Keeps_ok (E : Pm.Env) [LaidE E] (a0 : S_Start) (a1 : (List S_Field)) (r : Bool) (h : hop_Keeps a0 a1 = some r) : FnR E Tryz.prog 82 [S_Start.av a0, AV.list 2 (a1.map S_Field.av)] (bb r) false := by
 refine FnR.of_ev (T := T) (rows := []) tOk mixed Tryz.func82 rfl (by kernel_rfl) (by kernel_rfl) rfl fun hwf => ?_
 unfold hop_Keeps at h
 refine sj <| ai rfl ?_
 refine xi [] (xi 0 (ai ⟨rfl, rfl⟩ ?_))
 refine sn <| sj <| sn <| sj <| sj <| bind_elim h fun x1 hx1 h => CallH.data _ true rfl (hop_words_ok E a1 x1 hx1) <| NormE.to (ii (x1.length : Int)) (fun _ => len_list ss x1) <| sn ?_
 refine LoopE.img (fun x : (Bool × Int) => St.of [⟨5, bb x.1, none⟩, ⟨12, AV.list 1 (x1.map AV.str), some 0⟩, ⟨13, ii (x1.length : Int), none⟩, ⟨14, ii x.2, none⟩] [] [1]) (hop_Keeps_b1 x1) ((a0.Minor == (1 : Int)), (0 : Int)) h ?_ ?_
 ·exact gT [0]
 intro n1 x y1 h hl1 hr1
 obtain ⟨s2, s3⟩ := x
 unfold hop_Keeps_b1 at h
 dsimp only at h
 exact W
instance hop_Keeps_ok_i (E : Pm.Env) [LaidE E] (a0 : S_Start) (a1 : (List S_Field)) : Ok E (hop_Keeps a0 a1) (fun r => FnR E Tryz.prog 82 [S_Start.av a0, AV.list 2 (a1.map S_Field.av)] (bb r) false) := ⟨hop_Keeps_ok E a0 a1⟩
theorem upstream_Recv_ok (E : Pm.Env) [LaidE E] (a0 : S_Up) (a1 : Int) (a2 : Bytes) (r : (S_Up × (List S_Act) × Int)) (h : upstream_Recv a0 a1 a2 = some r) : FnR E Tryz.prog 11 [S_Up.av a0, ii a1, ss a2] (AV.tup [S_Up.av r.1, AV.list 13 (r.2.1.map S_Act.av), ii r.2.2]) false := by
 refine FnR.of_ev (T := T) (rows := [31, 87, 106]) tOk mixed Tryz.func11 rfl (by kernel_rfl) (by kernel_rfl) rfl fun hwf => ?_
 unfold upstream_Recv at h
 refine sj <| ai rfl ?_
 refine xi [] (xi 0 (ai ⟨rfl, rfl⟩ ?_))
 refine ai rfl <| sn <| sj <| ai ⟨lb rfl, lb rfl⟩ ?_
 refine xi none (ai rfl ?_)
 refine NormE.to (S_Up.av a0) (fun _ => rfl) <| bind_elim h fun x1 hx1 h => CallH.data _ false rfl (upstream_find_ok E a0 a1 x1 hx1) <| sn <| sj <| sj <| ai ⟨lb rfl, lb rfl⟩ ?_
 refine xi none (ai rfl ?_)
 refine NormE.to (S_Up.av a0) (fun _ => rfl) <| bind_elim h fun x2 hx2 h => CallH.data _ false rfl (upstream_Right_ok E a0 x2 hx2) <| ai id <| ai (fun hg => (and_r hg)) ?_
 refine SeqN.via (St.of [⟨2, ss a2, none⟩, ⟨3, AV.ptr 0 0, none⟩, ⟨6, AV.ptr 1 0, none⟩, ⟨9, ii x1.1, none⟩, ⟨28, bb (bif (!x2) then true else (!x1.2)), none⟩] [.cells 28 (S_Up.cells a0) [], .cells 28 (S_Up.cells S_Up.z) [(2, 0), (3, 1)]] [1, 1]) ?_ ?_
 ·exact gT [0, 1]
 refine Br.of h (fun ht h => ?_) fun ht h => ?_
 ·refine sj ?_
  refine xi (some 266305) (ai (okM.mk (show (266305 : Nat) = freeM T _ _ _ from by kernel_rfl)) ?_)
  refine ai ⟨rfl, rfl, rfl, lb rfl⟩ (xi (S_Up.cells S_Up.z) (ai (fun _ => rfl) ?_))
  refine xi [(2, 2), (3, 3)] (xi 2 (ai ⟨(by kernel_rfl), rfl⟩ ?_))
  exact W
 ·refine sn <| sj <| ai ⟨lb rfl, lb rfl⟩ ?_
  refine xi none (ai rfl ?_)
  refine NormE.to (S_Up.av a0) (fun _ => rfl) <| Gho.go <| FnC.of_ev (T := T) (rows := []) tOk mixed Tryz.func33 rfl (by kernel_rfl) (by kernel_rfl) rfl rfl <| sj <| ai rfl ?_
  refine xi [] (xi 0 (ai ⟨rfl, rfl⟩ ?_))
  refine sn <| sj <| Or.inl <| bind_elim h fun x3 hx3 h => ?_
  have qx3 := chk2_some hx3
  refine CallH.rows _ _ _ _ rfl (slices_Clone_Conn_row E a0.Conns qx3) <| bind_elim h fun x4 hx4 h => ?_
  have qx4 := chk2_some hx4
  refine CallH.rows _ _ _ _ rfl (slices_Clone_Fetch_row E a0.Wait qx4) ?_
  refine ai ⟨rfl, rfl, rfl, lb rfl⟩ (xi [ii a0.Now, ii a0.Next, AV.row 3 0 a0.Conns.length 29, AV.list 7 (a0.Wait.map S_Fetch.av)] (ai (fun _ => rfl) ?_))
  refine ai ⟨rfl, rfl, rfl, lb rfl⟩ (xi [ii a0.Now, ii a0.Next, AV.row 3 0 a0.Conns.length 29, AV.row 4 0 a0.Wait.length 7] (ai (fun _ => rfl) ?_))
  refine ai (by kernel_rfl) <| sn <| sj <| ai ⟨lb rfl, lb rfl⟩ ?_
  refine xi none (ai rfl ?_)
  refine NormE.to (AV.agg [ii a0.Now, ii a0.Next, AV.row 3 0 a0.Conns.length 29, AV.row 4 0 a0.Wait.length 7]) (fun _ => rfl) <| ai ⟨rfl, rfl, lb rfl⟩ ?_
  refine xi (some 16777216) (ai (okM.mk (show (16777216 : Nat) = freeM T _ _ _ from by kernel_rfl)) ?_)
  refine ai rfl ?_
  refine xi [(4, 2)] (xi 1 (ai ⟨(by kernel_rfl), rfl⟩ ?_))
  refine SeqN.via (St.of [⟨2, AV.ptr 5 0, none⟩] [.cells 28 (S_Up.cells a0) [], .cells 28 (S_Up.cells S_Up.z) [(2, 0), (3, 1)], .dead, .cells 48 (a0.Conns.flatMap S_Conn.cells) [], .cells 23 (a0.Wait.flatMap S_Fetch.cells) [], .cells 91 [ii a0.Now, ii a0.Next, AV.row 3 0 a0.Conns.length 29, AV.row 4 0 a0.Wait.length 7, AV.list 13 (([] : List S_Act).map S_Act.av)] [(4, 2)]] [1, 1, 1]) ?_ ?_
  ·exact gT [0, 1, 2]
  refine Gho.go <| sn <| sj <| chk_elim h fun q5 h => ai (fun _ => q5) <| sn <| sj <| sj <| sn ?_
  refine Br.of h (fun ht h => ?_) fun ht h => ?_
  ·refine sj <| ai ⟨lb rfl, lb rfl⟩ ?_
   refine xi none (ai rfl ?_)
   refine NormE.to (S_Up.av a0) (fun _ => rfl) ?_
   refine ai ⟨rfl, rfl, rfl, lb rfl⟩ (xi (S_Up.cells a0) (ai (fun _ => rfl) ?_))
   refine SeqN.via (St.of [⟨6, AV.ptr 1 0, none⟩, ⟨7, AV.list 13 (([] : List S_Act).map S_Act.av), some 0⟩, ⟨8, ii 0, none⟩] [.dead, .cells 28 (S_Up.cells a0) []] [2]) ?_ ?_
   ·exact gT [3]
   exact W
  ·refine sn <| sj <| sj <| bind_elim h fun x6 hx6 h => ai ⟨lb rfl, flat_fits S_Conn.cells 29 (fun _ => rfl) hx6⟩ ?_
   refine xi none (ai rfl ?_)
   refine NormE.to (S_Conn.av x6) (fun _ => congrArg AV.agg (flat_load S_Conn.cells 29 (fun _ => rfl) hx6)) <| bind_elim h fun x7 hx7 h => CallH.data _ false rfl (upstream_idle_ok E x6 x7 hx7) ?_
   refine SeqN.via (St.of [⟨2, ss a2, none⟩, ⟨6, AV.ptr 1 0, none⟩, ⟨9, ii x1.1, none⟩, ⟨11, AV.ptr 5 0, none⟩, ⟨12, AV.ptr 3 (0 + x1.1.toNat * 29), none⟩, ⟨45, bb x7, none⟩] [.dead, .cells 28 (S_Up.cells S_Up.z) [(2, 0), (3, 1)], .dead, .cells 48 (a0.Conns.flatMap S_Conn.cells) [], .cells 23 (a0.Wait.flatMap S_Fetch.cells) [], .cells 91 [ii a0.Now, ii a0.Next, AV.row 3 0 a0.Conns.length 29, AV.row 4 0 a0.Wait.length 7, AV.list 13 (([] : List S_Act).map S_Act.av)] [(4, 2)]] [1, 1, 1]) ?_ ?_
   ·exact gT [0, 1, 2]
   refine Br.of h (fun ht h => ?_) fun ht h => ?_
   ·exact W
   ·refine sn <| sj <| bind_elim h fun x8 hx8 h => ai ⟨lb rfl, flat_fitsF S_Conn.cells 29 (fun _ => rfl) hx8 (o := 9) (n' := 18) (lb rfl)⟩ ?_
    refine xi none (ai rfl ?_)
    refine NormE.to (S_Reader.av x8.Reader) (fun _ => congrArg AV.agg (flat_loadF S_Conn.cells 29 (fun _ => rfl) hx8 (o := 9) (n' := 18) (lb rfl) rfl)) <| bind_elim h fun x9 hx9 h => CallH.data _ false rfl (wire_Feed_ok E x8.Reader a2 x9 hx9) <| ai rfl ?_
    refine ai ⟨rfl, rfl, rfl, lb rfl⟩ (xi (S_Reader.cells x9.1) (ai (fun _ => rfl) ?_))
    refine sn <| sj <| ai ⟨lb rfl, lb rfl⟩ ?_
    refine xi none (ai rfl ?_)
    refine NormE.to (S_Reader.av x9.1) (fun _ => rfl) <| bind_elim h fun x10 hx10 h => ?_
    refine ai ⟨rfl, rfl, rfl, flat_lenF S_Conn.cells 29 (fun _ => rfl) hx10 (o := 9) (lb rfl)⟩ (xi ((a0.Conns.set x1.1.toNat (x10.w3 x9.1)).flatMap S_Conn.cells) (ai (fun _ => flat_storeF S_Conn.cells 29 (fun _ => rfl) hx10 (o := 9) (lb rfl) rfl) ?_))
    refine bind_elim h fun x11 hx11 h => ?_
    refine ai ⟨rfl, rfl, rfl, flat_lenF S_Conn.cells 29 (fun _ => rfl) hx11 (o := 27) (lb rfl)⟩ (xi (((a0.Conns.set x1.1.toNat (x10.w3 x9.1)).set x1.1.toNat (x11.w4 true)).flatMap S_Conn.cells) (ai (fun _ => flat_storeF S_Conn.cells 29 (fun _ => rfl) hx11 (o := 27) (lb rfl) rfl) ?_))
    refine SeqN.via (St.of [⟨6, AV.ptr 1 0, none⟩, ⟨9, ii x1.1, none⟩, ⟨11, AV.ptr 5 0, none⟩, ⟨12, AV.ptr 3 (0 + x1.1.toNat * 29), none⟩, ⟨13, AV.ptr 6 0, none⟩, ⟨14, AV.list 7 (x9.2.1.map S_Message.av), none⟩] [.dead, .cells 28 (S_Up.cells S_Up.z) [(2, 0), (3, 1)], .dead, .cells 48 (((a0.Conns.set x1.1.toNat (x10.w3 x9.1)).set x1.1.toNat (x11.w4 true)).flatMap S_Conn.cells) [], .cells 23 (a0.Wait.flatMap S_Fetch.cells) [], .cells 91 [ii a0.Now, ii a0.Next, AV.row 3 0 a0.Conns.length 29, AV.row 4 0 a0.Wait.length 7, AV.list 13 (([] : List S_Act).map S_Act.av)] [(4, 2)], .cells 46 (S_Reader.cells x9.1) []] [1, 1, 1]) ?_ ?_
    ·exact gT [0, 1, 2]
    refine sj <| sj <| NormE.to (ii (x9.2.1.length : Int)) (fun _ => len_list S_Message.av x9.2.1) <| sn ?_
    refine Br.of h (fun ht h => ?_) fun ht h => ?_
    ·refine bind_elim h fun x12 hx12 h => ?_
     refine ai rfl (xi (S_Message.av x12) (ai (fun hg => idx_map _ hx12) ?_))
     refine ai (lb rfl) <| NormE.to (S_Message.av x12) (fun _ => rfl) <| NormE.to (ii (x9.2.1.length : Int)) (fun _ => len_list S_Message.av x9.2.1) <| ai ⟨lb rfl, lb rfl⟩ ?_
     refine xi none (ai rfl ?_)
     refine NormE.to (S_Reader.av x9.1) (fun _ => rfl) <| bind_elim h fun x13 hx13 h => ai id <| ai rfl ?_
     refine CallF.mk _ false (fun hg => upstream_fresh_ok E x9.1 x13 (gcall_some hx13 hg)) (ai rfl ?_)
     refine ai (fun hg => (and_r hg)) <| ai ⟨by kernel_rfl, by kernel_rfl⟩ <| Gho.go <| FnC.of_ev (T := T) (rows := [25, 62, 999999]) tOk mixed Tryz.func40 rfl (by kernel_rfl) (by kernel_rfl) rfl rfl <| sj <| ai rfl ?_
     refine xi [] (xi 0 (ai ⟨rfl, rfl⟩ ?_))
     refine sn <| sj <| chk_elim h fun q14 h => ai (fun _ => q14) <| sn <| sj <| bind_elim h fun x15 hx15 h => optE.mk (α := AV) (c := ii x15.Fetch.Id) (flat_getF S_Conn.cells 29 (fun _ => rfl) hx15 (o := 2) (lb rfl) rfl) <| ai ⟨lb rfl, lb rfl⟩ ?_
     refine xi none (ai rfl ?_)
     refine NormE.to (S_Message.av x12) (fun _ => rfl) <| ai ⟨by kernel_rfl, by kernel_rfl⟩ <| Gho.go <| FnC.of_ev (T := T) (rows := [13]) tOk mixed Tryz.func35 rfl (by kernel_rfl) (by kernel_rfl) rfl rfl <| sj <| ai rfl ?_
     refine xi [] (xi 0 (ai ⟨rfl, rfl⟩ ?_))
     refine sn <| ai ⟨lb rfl, lb rfl⟩ ?_
     refine xi none (ai rfl ?_)
     refine NormE.to (S_Message.av x12) (fun _ => rfl) <| ai ⟨rfl, rfl, lb rfl⟩ <| ai ⟨rfl, rfl, lb rfl⟩ <| ai ⟨rfl, rfl, lb rfl⟩ <| ai ⟨rfl, rfl, lb rfl⟩ ?_
     refine xi none (ai trivial ?_)
     refine Gho.go <| FnC.of_ev (T := T) (rows := []) tOk mixed Tryz.func78 rfl (by kernel_rfl) (by kernel_rfl) rfl rfl <| sj <| ai rfl ?_
     refine xi [] (xi 0 (ai ⟨rfl, rfl⟩ ?_))
     refine sn <| Or.inl <| ai ⟨lb rfl, lb rfl⟩ ?_
     refine xi none (ai rfl ?_)
     refine NormE.to (S_Act.av (((S_Act.z.w0 (4 : Int)).w4 x15.Fetch.Id).w5 x12)) (fun _ => rfl) <| ai ⟨rfl, rfl, rfl, rfl⟩ <| ai ⟨rfl, rfl, rfl⟩ <| NormE.to (AV.list 13 (([(((S_Act.z.w0 (4 : Int)).w4 x15.Fetch.Id).w5 x12)] : List S_Act).map S_Act.av)) (fun _ => rfl) <| bind_elim h fun x16 hx16 h => ?_
     have qx16 := (app_some hx16).1
     have hx16e := (app_some hx16).2
     refine ai ⟨rfl, rfl, rfl⟩ <| ai rfl <| ai (app_cond S_Act.av qx16) <| NormE.to (AV.list 13 (x16.map S_Act.av)) (fun _ => (app_list 13 S_Act.av _ _).trans (congrArg (fun y => AV.list 13 (List.map S_Act.av y)) hx16e.symm)) ?_
     refine ai ⟨rfl, rfl, rfl, lb rfl⟩ (xi [ii a0.Now, ii a0.Next, AV.row 3 0 a0.Conns.length 29, AV.row 4 0 a0.Wait.length 7, AV.list 13 (x16.map S_Act.av)] (ai (fun _ => rfl) ?_))
     refine ai (by kernel_rfl) <| Gho.go <| Gho.go ?_
     refine SeqN.via (St.of [⟨0, AV.ptr 5 0, none⟩, ⟨1, ii x1.1, none⟩, ⟨3, bb (bif ((x9.2.1.length : Int) == (1 : Int)) then x13 else false), none⟩, ⟨6, AV.ptr 7 0, none⟩, ⟨8, AV.ptr 3 (0 + x1.1.toNat * 29), none⟩] [.dead, .cells 28 (S_Up.cells S_Up.z) [(2, 0), (3, 1)], .dead, .cells 48 (((a0.Conns.set x1.1.toNat (x10.w3 x9.1)).set x1.1.toNat (x11.w4 true)).flatMap S_Conn.cells) [], .cells 23 (a0.Wait.flatMap S_Fetch.cells) [], .cells 91 [ii a0.Now, ii a0.Next, AV.row 3 0 a0.Conns.length 29, AV.row 4 0 a0.Wait.length 7, AV.list 13 (x16.map S_Act.av)] [(4, 3)], .cells 46 (S_Reader.cells x9.1) [], .cells 38 (S_Message.cells x12) []] [1, 1, 0, 1]) ?_ ?_
     ·exact gT [0, 1, 2, 4]
     refine sj <| Or.inl <| bind_elim h fun x17 hx17 h => optE.mk (α := AV) (c := ss x17.Origin) (flat_getF S_Conn.cells 29 (fun _ => rfl) hx17 (o := 1) (lb rfl) rfl) <| bind_elim h fun x18 hx18 h => CallH.lend [3] _ _ _ rfl (upstream_free_ok E ((a0.Conns.set x1.1.toNat (x10.w3 x9.1)).set x1.1.toNat (x11.w4 true)) x17.Origin x18 hx18) (Lend.of [3] ⟨Frz.rowsW S_Conn.av 29 (lb rfl) (fun _ => rfl) (fun _ => rfl) rfl (flat_from _ _) (by simp only [List.length_set]), Frz.pure _ (AV.puD_ok rfl), trivial⟩) <| ai (by kernel_rfl) <| sn <| sj <| sj <| ai id <| ai ⟨lb rfl, lb rfl⟩ ?_
     refine xi none (ai rfl ?_)
     refine NormE.to (S_Start.av x12.Start) (fun _ => rfl) <| ai id <| bind_elim h fun x19 hx19 h => ai id <| ai id <| ai rfl ?_
     refine CallF.mk _ false (fun hg => hop_Keeps_ok E x12.Start x12.Fields x19 (gcall_some hx19 hg)) (ai rfl ?_)
     refine ai id <| ai (fun hg => (and_r hg)) <| ai id <| ai (fun hg => (and_r hg)) <| ai id <| ai id <| bind_elim h fun x20 hx20 h => ai id <| optE.mk (α := AV) (c := ii x20.Used) (flat_getF S_Conn.cells 29 (fun _ => rfl) hx20 (o := 28) (lb rfl) rfl) <| ai id <| ai (fun hg => (and_r hg)) ?_
     refine SeqN.via (St.of [⟨0, AV.ptr 5 0, none⟩, ⟨1, ii x1.1, none⟩, ⟨8, AV.ptr 3 (0 + x1.1.toNat * 29), none⟩, ⟨59, bb (bif (bif (bif (!(bif ((x9.2.1.length : Int) == (1 : Int)) then x13 else false)) then true else (!x19)) then true else (decide (x18.1 ≥ (2 : Int)))) then true else (decide (x20.Used ≥ (1000000000 : Int)))), none⟩] [.dead, .cells 28 (S_Up.cells S_Up.z) [(2, 0), (3, 1)], .dead, .cells 48 (((a0.Conns.set x1.1.toNat (x10.w3 x9.1)).set x1.1.toNat (x11.w4 true)).flatMap S_Conn.cells) [], .cells 23 (a0.Wait.flatMap S_Fetch.cells) [], .cells 91 [ii a0.Now, ii a0.Next, AV.row 3 0 a0.Conns.length 29, AV.row 4 0 a0.Wait.length 7, AV.list 13 (x16.map S_Act.av)] [(4, 3)], .cells 46 (S_Reader.cells x9.1) []] [1, 1, 0, 1]) ?_ ?_
     ·exact gT [0, 1, 2, 3]
     refine Br.of h (fun ht h => ?_) fun ht h => ?_
     ·refine sj <| Gho.go <| FnC.of_ev (T := T) (rows := [15, 25]) tOk mixed Tryz.func38 rfl (by kernel_rfl) (by kernel_rfl) rfl rfl <| sj <| chk_elim h fun q21 h => ai (fun _ => q21) <| bind_elim h fun x22 hx22 h => optE.mk (α := AV) (c := ii x22.Id) (flat_getF S_Conn.cells 29 (fun _ => rfl) hx22 (o := 0) (lb rfl) rfl) <| ai ⟨rfl, rfl, lb rfl⟩ <| ai ⟨rfl, rfl, lb rfl⟩ ?_
      refine xi (some 4797324681010433232896) (ai (okM.mk (show (4797324681010433232896 : Nat) = freeM T _ _ _ from by kernel_rfl)) ?_)
      refine Gho.go <| FnC.of_ev (T := T) (rows := []) tOk mixed Tryz.func78 rfl (by kernel_rfl) (by kernel_rfl) rfl rfl <| sj <| ai rfl ?_
      refine xi [(10, 4)] (xi 1 (ai ⟨(by kernel_rfl), rfl⟩ ?_))
      refine sn <| Or.inl <| ai ⟨lb rfl, lb rfl⟩ ?_
      refine xi (some 6917529027641081856) (ai (show aggT [(10, 4)] 0 13 = some 6917529027641081856 from by kernel_rfl) ?_)
      refine NormE.to (S_Act.av ((S_Act.z.w0 (3 : Int)).w1 x22.Id)) (fun _ => rfl) <| ai ⟨rfl, rfl, rfl, rfl⟩ <| ai ⟨rfl, rfl, rfl⟩ <| NormE.to (AV.list 13 (([((S_Act.z.w0 (3 : Int)).w1 x22.Id)] : List S_Act).map S_Act.av)) (fun _ => rfl) <| bind_elim h fun x23 hx23 h => ?_
      have qx23 := (app_some hx23).1
      have hx23e := (app_some hx23).2
      refine ai ⟨rfl, rfl, rfl⟩ <| ai rfl <| ai (app_cond S_Act.av qx23) <| NormE.to (AV.list 13 (x23.map S_Act.av)) (fun _ => (app_list 13 S_Act.av _ _).trans (congrArg (fun y => AV.list 13 (List.map S_Act.av y)) hx23e.symm)) ?_
      refine ai ⟨rfl, rfl, rfl, lb rfl⟩ (xi [ii a0.Now, ii a0.Next, AV.row 3 0 a0.Conns.length 29, AV.row 4 0 a0.Wait.length 7, AV.list 13 (x23.map S_Act.av)] (ai (fun _ => rfl) ?_))
      refine ai (by kernel_rfl) <| Gho.go <| sn <| bind_elim h fun x24 hx24 h => Gho.go <| slices_Delete_Conn_ok (f := S_Conn.av) E rfl (by simp only [List.length_set]) hx24 ?_
      refine ai ⟨rfl, rfl, rfl, lb rfl⟩ (xi [ii a0.Now, ii a0.Next, AV.row 3 0 x24.length 29, AV.row 4 0 a0.Wait.length 7, AV.list 13 (x23.map S_Act.av)] (ai (fun _ => rfl) ?_))
      refine Gho.go <| sn <| Gho.go ?_
      refine SeqN.via (St.of [⟨6, AV.ptr 1 0, none⟩, ⟨11, AV.ptr 5 0, none⟩] [.dead, .cells 28 (S_Up.cells S_Up.z) [(2, 0), (3, 1)], .dead, .cells 48 (x24.flatMap S_Conn.cells) [], .cells 23 (a0.Wait.flatMap S_Fetch.cells) [], .cells 91 [ii a0.Now, ii a0.Next, AV.row 3 0 x24.length 29, AV.row 4 0 a0.Wait.length 7, AV.list 13 (x23.map S_Act.av)] [(4, 2)]] [1, 1, 1]) ?_ ?_
      ·exact gT [0, 1, 6]
      refine sj <| bind_elim h fun x25 hx25 h => ?_
      refine xi (St.of [⟨6, AV.ptr 3 0, none⟩, ⟨105, AV.ptr 0 0, none⟩] [.cells 91 [ii a0.Now, ii a0.Next, AV.row 1 0 x24.length 29, AV.row 2 0 a0.Wait.length 7, AV.list 13 (x23.map S_Act.av)] [(4, 0)], .cells 48 (x24.flatMap S_Conn.cells) [], .cells 23 (a0.Wait.flatMap S_Fetch.cells) [], .cells 28 (S_Up.cells S_Up.z) []] [1]) (ai ?_ ?_)
      ·exact gI [2] [5, 3, 4, 1]
      refine upstream_work_goes_ok E (S_upstream_work.mk (S_Up.mk a0.Now a0.Next x24 a0.Wait) x23) x25.1 x25.2 hx25 _ ?_
      refine ai ⟨rfl, rfl, rfl, lb rfl⟩ (xi [ii x25.1.1, ii x25.1.2.1, AV.row 4 0 x25.2.Up.Conns.length 29, AV.row 5 0 x25.2.Up.Wait.length 7] (ai (fun _ => rfl) ?_))
      refine sn ?_
      replace h := oi h
      refine RetE.frz ?_
      refine ai ⟨lb rfl, lb rfl⟩ (xi (AV.agg [ii x25.1.1, ii x25.1.2.1, AV.row 4 0 x25.2.Up.Conns.length 29, AV.row 5 0 x25.2.Up.Wait.length 7]) (ai rfl ?_))
      exact xi (AV.tup [S_Up.av ((x25.2.Up.w0 x25.1.1).w1 x25.1.2.1), AV.list 13 (x25.1.2.2.1.map S_Act.av), ii x25.1.2.2.2]) (ai (Frz.tupL ⟨Frz.aggL ⟨Frz.pure _ (AV.puD_ok rfl), Frz.pure _ (AV.puD_ok rfl), Frz.rowsW S_Conn.av 29 (lb rfl) (fun _ => rfl) (fun _ => rfl) rfl (flat_from _ _) rfl, Frz.rowsW S_Fetch.av 7 (lb rfl) (fun _ => rfl) (fun _ => rfl) rfl (flat_from _ _) rfl, trivial⟩, Frz.pure _ (AV.puD_ok rfl), Frz.pure _ (AV.puD_ok rfl), trivial⟩) (ai (congrArg (fun r : (S_Up × (List S_Act) × Int) => AV.tup [S_Up.av r.1, AV.list 13 (r.2.1.map S_Act.av), ii r.2.2]) h) rfl))
     ·refine sn <| sj ?_
      refine xi none (ai trivial ?_)
      refine xi (some 5151088153308360742589778104385) (ai (okM.mk (show (5151088153308360742589778104385 : Nat) = freeM T _ _ _ from by kernel_rfl)) ?_)
      refine bind_elim h fun x26 hx26 h => ?_
      refine ai ⟨rfl, rfl, rfl, flat_lenF S_Conn.cells 29 (fun _ => rfl) hx26 (o := 2) (lb rfl)⟩ (xi ((((a0.Conns.set x1.1.toNat (x10.w3 x9.1)).set x1.1.toNat (x11.w4 true)).set x1.1.toNat (x26.w2 S_Fetch.z)).flatMap S_Conn.cells) (ai (fun _ => flat_storeF S_Conn.cells 29 (fun _ => rfl) hx26 (o := 2) (lb rfl) rfl) ?_))
      refine bind_elim h fun x27 hx27 h => ?_
      refine ai ⟨rfl, rfl, rfl, flat_lenF S_Conn.cells 29 (fun _ => rfl) hx27 (o := 9) (lb rfl)⟩ (xi (((((a0.Conns.set x1.1.toNat (x10.w3 x9.1)).set x1.1.toNat (x11.w4 true)).set x1.1.toNat (x26.w2 S_Fetch.z)).set x1.1.toNat (x27.w3 S_Reader.z)).flatMap S_Conn.cells) (ai (fun _ => flat_storeF S_Conn.cells 29 (fun _ => rfl) hx27 (o := 9) (lb rfl) rfl) ?_))
      refine bind_elim h fun x28 hx28 h => ?_
      refine ai ⟨rfl, rfl, rfl, flat_lenF S_Conn.cells 29 (fun _ => rfl) hx28 (o := 27) (lb rfl)⟩ (xi ((((((a0.Conns.set x1.1.toNat (x10.w3 x9.1)).set x1.1.toNat (x11.w4 true)).set x1.1.toNat (x26.w2 S_Fetch.z)).set x1.1.toNat (x27.w3 S_Reader.z)).set x1.1.toNat (x28.w4 false)).flatMap S_Conn.cells) (ai (fun _ => flat_storeF S_Conn.cells 29 (fun _ => rfl) hx28 (o := 27) (lb rfl) rfl) ?_))
      refine sn <| bind_elim h fun x29 hx29 h => optE.mk (α := AV) (c := ii x29.Used) (flat_getF S_Conn.cells 29 (fun _ => rfl) hx29 (o := 28) (lb rfl) rfl) <| bind_elim h fun x30 hx30 h => ?_
      refine ai ⟨rfl, rfl, rfl, flat_lenF S_Conn.cells 29 (fun _ => rfl) hx30 (o := 28) (lb rfl)⟩ (xi (((((((a0.Conns.set x1.1.toNat (x10.w3 x9.1)).set x1.1.toNat (x11.w4 true)).set x1.1.toNat (x26.w2 S_Fetch.z)).set x1.1.toNat (x27.w3 S_Reader.z)).set x1.1.toNat (x28.w4 false)).set x1.1.toNat (x30.w5 (IntKind.i64.wrap (x29.Used + (1 : Int))))).flatMap S_Conn.cells) (ai (fun _ => flat_storeF S_Conn.cells 29 (fun _ => rfl) hx30 (o := 28) (lb rfl) rfl) ?_))
      refine Gho.go ?_
      refine SeqN.via (St.of [⟨6, AV.ptr 1 0, none⟩, ⟨11, AV.ptr 5 0, none⟩] [.dead, .cells 28 (S_Up.cells S_Up.z) [(2, 0), (3, 1)], .dead, .cells 48 (((((((a0.Conns.set x1.1.toNat (x10.w3 x9.1)).set x1.1.toNat (x11.w4 true)).set x1.1.toNat (x26.w2 S_Fetch.z)).set x1.1.toNat (x27.w3 S_Reader.z)).set x1.1.toNat (x28.w4 false)).set x1.1.toNat (x30.w5 (IntKind.i64.wrap (x29.Used + (1 : Int))))).flatMap S_Conn.cells) [], .cells 23 (a0.Wait.flatMap S_Fetch.cells) [], .cells 91 [ii a0.Now, ii a0.Next, AV.row 3 0 a0.Conns.length 29, AV.row 4 0 a0.Wait.length 7, AV.list 13 (x16.map S_Act.av)] [(4, 2)]] [1, 1, 1]) ?_ ?_
      ·exact gT [0, 1, 3]
      refine sj <| bind_elim h fun x31 hx31 h => ?_
      refine xi (St.of [⟨6, AV.ptr 3 0, none⟩, ⟨105, AV.ptr 0 0, none⟩] [.cells 91 [ii a0.Now, ii a0.Next, AV.row 1 0 (((((((a0.Conns.set x1.1.toNat (x10.w3 x9.1)).set x1.1.toNat (x11.w4 true)).set x1.1.toNat (x26.w2 S_Fetch.z)).set x1.1.toNat (x27.w3 S_Reader.z)).set x1.1.toNat (x28.w4 false)).set x1.1.toNat (x30.w5 (IntKind.i64.wrap (x29.Used + (1 : Int))))).length) 29, AV.row 2 0 a0.Wait.length 7, AV.list 13 (x16.map S_Act.av)] [(4, 0)], .cells 48 (((((((a0.Conns.set x1.1.toNat (x10.w3 x9.1)).set x1.1.toNat (x11.w4 true)).set x1.1.toNat (x26.w2 S_Fetch.z)).set x1.1.toNat (x27.w3 S_Reader.z)).set x1.1.toNat (x28.w4 false)).set x1.1.toNat (x30.w5 (IntKind.i64.wrap (x29.Used + (1 : Int))))).flatMap S_Conn.cells) [], .cells 23 (a0.Wait.flatMap S_Fetch.cells) [], .cells 28 (S_Up.cells S_Up.z) []] [1]) (ai ?_ ?_)
      ·exact gI [2] [5, 3, 4, 1]
      refine upstream_work_goes_ok E (S_upstream_work.mk (S_Up.mk a0.Now a0.Next ((((((a0.Conns.set x1.1.toNat (x10.w3 x9.1)).set x1.1.toNat (x11.w4 true)).set x1.1.toNat (x26.w2 S_Fetch.z)).set x1.1.toNat (x27.w3 S_Reader.z)).set x1.1.toNat (x28.w4 false)).set x1.1.toNat (x30.w5 (IntKind.i64.wrap (x29.Used + (1 : Int))))) a0.Wait) x16) x31.1 x31.2 hx31 _ ?_
      refine ai ⟨rfl, rfl, rfl, lb rfl⟩ (xi [ii x31.1.1, ii x31.1.2.1, AV.row 4 0 x31.2.Up.Conns.length 29, AV.row 5 0 x31.2.Up.Wait.length 7] (ai (fun _ => rfl) ?_))
      refine sn ?_
      replace h := oi h
      refine RetE.frz ?_
      refine ai ⟨lb rfl, lb rfl⟩ (xi (AV.agg [ii x31.1.1, ii x31.1.2.1, AV.row 4 0 x31.2.Up.Conns.length 29, AV.row 5 0 x31.2.Up.Wait.length 7]) (ai rfl ?_))
      exact xi (AV.tup [S_Up.av ((x31.2.Up.w0 x31.1.1).w1 x31.1.2.1), AV.list 13 (x31.1.2.2.1.map S_Act.av), ii x31.1.2.2.2]) (ai (Frz.tupL ⟨Frz.aggL ⟨Frz.pure _ (AV.puD_ok rfl), Frz.pure _ (AV.puD_ok rfl), Frz.rowsW S_Conn.av 29 (lb rfl) (fun _ => rfl) (fun _ => rfl) rfl (flat_from _ _) rfl, Frz.rowsW S_Fetch.av 7 (lb rfl) (fun _ => rfl) (fun _ => rfl) rfl (flat_from _ _) rfl, trivial⟩, Frz.pure _ (AV.puD_ok rfl), Frz.pure _ (AV.puD_ok rfl), trivial⟩) (ai (congrArg (fun r : (S_Up × (List S_Act) × Int) => AV.tup [S_Up.av r.1, AV.list 13 (r.2.1.map S_Act.av), ii r.2.2]) h) rfl))
    ·refine sj <| sn ?_
     refine Br.of h (fun ht h => ?_) fun ht h => ?_
     ·exact W
     ·refine sn <| sj <| bind_elim h fun x32 hx32 h => ?_
      refine xi (St.of [⟨6, AV.ptr 3 0, none⟩, ⟨105, AV.ptr 0 0, none⟩] [.cells 91 [ii a0.Now, ii a0.Next, AV.row 1 0 (((a0.Conns.set x1.1.toNat (x10.w3 x9.1)).set x1.1.toNat (x11.w4 true)).length) 29, AV.row 2 0 a0.Wait.length 7, AV.list 13 (([] : List S_Act).map S_Act.av)] [(4, 0)], .cells 48 (((a0.Conns.set x1.1.toNat (x10.w3 x9.1)).set x1.1.toNat (x11.w4 true)).flatMap S_Conn.cells) [], .cells 23 (a0.Wait.flatMap S_Fetch.cells) [], .cells 28 (S_Up.cells S_Up.z) []] [1]) (ai ?_ ?_)
      ·exact gI [2] [5, 3, 4, 1]
      refine upstream_work_goes_ok E (S_upstream_work.z.w0 (S_Up.mk a0.Now a0.Next ((a0.Conns.set x1.1.toNat (x10.w3 x9.1)).set x1.1.toNat (x11.w4 true)) a0.Wait)) x32.1 x32.2 hx32 _ ?_
      refine ai ⟨rfl, rfl, rfl, lb rfl⟩ (xi [ii x32.1.1, ii x32.1.2.1, AV.row 4 0 x32.2.Up.Conns.length 29, AV.row 5 0 x32.2.Up.Wait.length 7] (ai (fun _ => rfl) ?_))
      refine SeqN.via (St.of [⟨6, AV.ptr 3 0, none⟩, ⟨7, AV.list 13 (x32.1.2.2.1.map S_Act.av), none⟩, ⟨8, ii x32.1.2.2.2, none⟩] [.dead, .dead, .dead, .cells 28 [ii x32.1.1, ii x32.1.2.1, AV.row 4 0 x32.2.Up.Conns.length 29, AV.row 5 0 x32.2.Up.Wait.length 7] [], .cells 48 (x32.2.Up.Conns.flatMap S_Conn.cells) [], .cells 23 (x32.2.Up.Wait.flatMap S_Fetch.cells) []] []) ?_ ?_
      ·exact gT []
      replace h := oi h
      refine RetE.frz ?_
      refine ai ⟨lb rfl, lb rfl⟩ (xi (AV.agg [ii x32.1.1, ii x32.1.2.1, AV.row 4 0 x32.2.Up.Conns.length 29, AV.row 5 0 x32.2.Up.Wait.length 7]) (ai rfl ?_))
      exact xi (AV.tup [S_Up.av ((x32.2.Up.w0 x32.1.1).w1 x32.1.2.1), AV.list 13 (x32.1.2.2.1.map S_Act.av), ii x32.1.2.2.2]) (ai (Frz.tupL ⟨Frz.aggL ⟨Frz.pure _ (AV.puD_ok rfl), Frz.pure _ (AV.puD_ok rfl), Frz.rowsW S_Conn.av 29 (lb rfl) (fun _ => rfl) (fun _ => rfl) rfl (flat_from _ _) rfl, Frz.rowsW S_Fetch.av 7 (lb rfl) (fun _ => rfl) (fun _ => rfl) rfl (flat_from _ _) rfl, trivial⟩, Frz.pure _ (AV.puD_ok rfl), Frz.pure _ (AV.puD_ok rfl), trivial⟩) (ai (congrArg (fun r : (S_Up × (List S_Act) × Int) => AV.tup [S_Up.av r.1, AV.list 13 (r.2.1.map S_Act.av), ii r.2.2]) h) rfl))
instance upstream_Recv_ok_i (E : Pm.Env) [LaidE E] (a0 : S_Up) (a1 : Int) (a2 : Bytes) : Ok E (upstream_Recv a0 a1 a2) (fun r => FnR E Tryz.prog 11 [S_Up.av a0, ii a1, ss a2] (AV.tup [S_Up.av r.1, AV.list 13 (r.2.1.map S_Act.av), ii r.2.2]) false) := ⟨upstream_Recv_ok E a0 a1 a2⟩
theorem intarsiaref22_Idle_ok (E : Pm.Env) [LaidE E] (a0 : S_Conn) (r : Bool) (h : intarsiaref22_Idle a0 = some r) : FnR E Tryz.prog 26 [S_Conn.av a0] (bb r) false := by
 refine FnR.of_ev (T := T) (rows := []) tOk mixed Tryz.func26 rfl (by kernel_rfl) (by kernel_rfl) rfl fun hwf => ?_
 unfold intarsiaref22_Idle at h
 exact W
instance intarsiaref22_Idle_ok_i (E : Pm.Env) [LaidE E] (a0 : S_Conn) : Ok E (intarsiaref22_Idle a0) (fun r => FnR E Tryz.prog 26 [S_Conn.av a0] (bb r) false) := ⟨intarsiaref22_Idle_ok E a0⟩
theorem intarsialaw22_UpstreamLate_ok (E : Pm.Env) [LaidE E] (a0 : S_Fetch) (a1 : Int) (a2 : Bytes) (r : Bool) (h : intarsialaw22_UpstreamLate a0 a1 a2 = some r) : FnR E Tryz.prog 8 [S_Fetch.av a0, ii a1, ss a2] (bb r) false := by
 refine FnR.of_ev (T := T) (rows := []) tOk mixed Tryz.func8 rfl (by kernel_rfl) (by kernel_rfl) rfl fun hwf => ?_
 unfold intarsialaw22_UpstreamLate at h
 refine sj <| ai rfl ?_
 refine xi [] (xi 0 (ai ⟨rfl, rfl⟩ ?_))
 refine sn <| sj <| ai ⟨lb rfl, lb rfl⟩ ?_
 refine xi none (ai rfl ?_)
 refine NormE.to (S_Fetch.av a0) (fun _ => rfl) <| bind_elim h fun x1 hx1 h => CallH.data _ false rfl (intarsialaw22_few_ok E a0 x1 hx1) ?_
 refine ai ⟨rfl, rfl, rfl, lb rfl⟩ (xi (S_Fetch.cells x1) (ai (fun _ => rfl) ?_))
 refine sn <| sj ?_
 refine ai ⟨rfl, rfl, rfl, lb rfl⟩ (xi (S_Fetch.cells (x1.w0 (1 : Int))) (ai (fun _ => rfl) ?_))
 refine ai ⟨rfl, rfl, rfl, lb rfl⟩ (xi (S_Fetch.cells ((x1.w0 (1 : Int)).w1 ([111] : Bytes))) (ai (fun _ => rfl) ?_))
 refine ai ⟨rfl, rfl, rfl, lb rfl⟩ (xi (S_Fetch.cells (((x1.w0 (1 : Int)).w1 ([111] : Bytes)).w2 ([98] : Bytes))) (ai (fun _ => rfl) ?_))
 refine ai ⟨rfl, rfl, rfl, lb rfl⟩ (xi (S_Fetch.cells ((((x1.w0 (1 : Int)).w1 ([111] : Bytes)).w2 ([98] : Bytes)).w3 ([71, 69, 84] : Bytes))) (ai (fun _ => rfl) ?_))
 refine sn <| sj <| ai rfl <| ai rfl ?_
 refine SeqN.via (St.of [⟨1, ii (imin (imax a1 (0 : Int)) (12 : Int)), none⟩, ⟨2, ss a2, none⟩, ⟨3, AV.ptr 0 0, none⟩] [.cells 23 (S_Fetch.cells ((((x1.w0 (1 : Int)).w1 ([111] : Bytes)).w2 ([98] : Bytes)).w3 ([71, 69, 84] : Bytes))) []] []) ?_ ?_
 ·exact gT []
 refine sj <| NormE.same <| ai rfl <| bind_elim h fun x2 hx2 h => ?_
 have qx2 := (slc_some hx2).1
 have hx2e := (slc_some hx2).2
 refine ai (fun _ => qx2) <| NormE.to (ss x2) (fun _ => congrArg ss hx2e.symm) <| sn <| sj ?_
 refine xi (some 266305) (ai (okM.mk (show (266305 : Nat) = freeM T _ _ _ from by kernel_rfl)) ?_)
 refine ai ⟨lb rfl, lb rfl⟩ ?_
 refine xi none (ai rfl ?_)
 refine NormE.to (S_Fetch.av ((((x1.w0 (1 : Int)).w1 ([111] : Bytes)).w2 ([98] : Bytes)).w3 ([71, 69, 84] : Bytes))) (fun _ => rfl) <| bind_elim h fun x3 hx3 h => CallH.data _ false rfl (upstream_Ask_ok E S_Up.z ((((x1.w0 (1 : Int)).w1 ([111] : Bytes)).w2 ([98] : Bytes)).w3 ([71, 69, 84] : Bytes)) x3 hx3) <| ai rfl ?_
 refine ai ⟨rfl, rfl, rfl, lb rfl⟩ (xi (S_Up.cells x3.1) (ai (fun _ => rfl) ?_))
 refine SeqN.via (St.of [⟨1, ii (imin (imax a1 (0 : Int)) (12 : Int)), none⟩, ⟨2, ss x2, none⟩, ⟨7, AV.ptr 1 0, none⟩, ⟨9, ii x3.2.2, none⟩] [.dead, .cells 28 (S_Up.cells x3.1) []] []) ?_ ?_
 ·exact gT []
 refine sj <| sj <| bind_elim h fun x4 hx4 h => ai rfl ?_
 refine CallF.mk _ false (fun hg => intarsialaw22_alive_ok E  x4 (gcall_some hx4 hg)) (ai rfl ?_)
 refine ai id <| ai (fun hg => (and_r hg)) <| sn ?_
 refine Br.of h (fun ht h => ?_) fun ht h => ?_
 ·exact W
 ·refine sn <| sj <| sj <| sn ?_
  refine LoopE.img (fun x : (Int × S_Up) => St.of [⟨1, ii (imin (imax a1 (0 : Int)) (12 : Int)), none⟩, ⟨2, ss x2, none⟩, ⟨7, AV.ptr 1 0, none⟩, ⟨46, ii (imin (imax a1 (0 : Int)) (12 : Int)), none⟩, ⟨47, ii x.1, none⟩] [.dead, .cells 28 (S_Up.cells x.2) []] []) (intarsialaw22_UpstreamLate_b1 a1 x2) ((0 : Int), x3.1) h ?_ ?_
  ·exact gT []
  intro n1 x y1 h hl1 hr1
  obtain ⟨s5, s6⟩ := x
  unfold intarsialaw22_UpstreamLate_b1 at h
  dsimp only at h
  refine sj <| sn <| sj ?_
  refine Br.of h (fun ht h => ?_) fun ht h => ?_
  ·refine sn <| sj <| sj <| sn <| sj <| ai ⟨lb rfl, lb rfl⟩ ?_
   refine xi none (ai rfl ?_)
   refine NormE.to (S_Up.av s6) (fun _ => rfl) <| bind_elim h fun x7 hx7 h => CallH.data _ false rfl (upstream_Tick_ok E s6 x7 hx7) <| ai rfl ?_
   refine ai ⟨rfl, rfl, rfl, lb rfl⟩ (xi (S_Up.cells x7.1) (ai (fun _ => rfl) ?_))
   refine sn <| sj <| sj <| ai id <| NormE.to (ii (x7.2.1.length : Int)) (fun _ => len_list S_Act.av x7.2.1) <| ai id <| ai id <| ai id <| ai id <| ai rfl <| ai (fun hg => (and_r hg)) <| ai id <| ai id <| ai id <| NormE.to (ii (x7.2.1.length : Int)) (fun _ => len_list S_Act.av x7.2.1) <| ai id <| ai id <| bind_elim h fun x8 hx8 h => ai id ?_
   refine ai rfl (xi (S_Act.av x8) (ai (fun hg => gidx_map _ hx8 hg) ?_))
   refine ai id <| ai id <| ai id <| ai id <| ai id <| ai id <| bind_elim h fun x9 hx9 h => ai id ?_
   refine ai rfl (xi (S_Act.av x9) (ai (fun hg => gidx_map _ hx9 hg) ?_))
   refine ai id <| ai id <| ai id <| ai id <| ai id <| ai id <| ai id <| ai (fun hg => (and_r hg)) ?_
   refine SeqN.via (St.of [⟨1, ii (imin (imax a1 (0 : Int)) (12 : Int)), none⟩, ⟨2, ss x2, none⟩, ⟨7, AV.ptr 1 0, none⟩, ⟨11, AV.ptr 2 0, none⟩, ⟨46, ii (imin (imax a1 (0 : Int)) (12 : Int)), none⟩, ⟨47, ii s5, none⟩, ⟨88, bb (bif (bif (x7.2.2 != (0 : Int)) then true else (!(((x7.2.1.length : Int) != (0 : Int)) == (s5 == (9 : Int))))) then true else (bif (s5 == (9 : Int)) then (bif (bif ((x7.2.1.length : Int) != (2 : Int)) then true else (x8.Bad != (62 : Int))) then true else (x9.Kind != (3 : Int))) else false)), none⟩] [.dead, .cells 28 (S_Up.cells s6) [], .cells 28 (S_Up.cells x7.1) []] []) ?_ ?_
   ·exact gT []
   exact W
  ·refine sn <| sj <| ai ⟨rfl, rfl, lb rfl⟩ <| ai ⟨rfl, rfl, lb rfl⟩ ?_
   refine xi none (ai trivial ?_)
   refine ai ⟨rfl, rfl, lb rfl⟩ <| ai ⟨rfl, rfl, lb rfl⟩ ?_
   refine xi (some 1073741824) (ai (okM.mk (show (1073741824 : Nat) = freeM T _ _ _ from by kernel_rfl)) ?_)
   refine bind_elim h fun x10 hx10 h => CallH.data _ false rfl (wire_Write_ok E ((S_Message.z.w0 ((S_Start.z.w2 (200 : Int)).w4 (1 : Int))).w2 x2) false x10 hx10) <| sn <| sj <| ai ⟨lb rfl, lb rfl⟩ ?_
   refine xi none (ai rfl ?_)
   refine NormE.to (S_Up.av s6) (fun _ => rfl) <| bind_elim h fun x11 hx11 h => CallH.data _ false rfl (upstream_Recv_ok E s6 (1 : Int) x10.1 x11 hx11) <| ai rfl ?_
   refine ai ⟨rfl, rfl, rfl, lb rfl⟩ (xi (S_Up.cells x11.1) (ai (fun _ => rfl) ?_))
   refine SeqN.via (St.of [⟨1, ii (imin (imax a1 (0 : Int)) (12 : Int)), none⟩, ⟨2, ss x2, none⟩, ⟨15, ii x10.2, none⟩, ⟨16, AV.ptr 2 0, none⟩, ⟨17, AV.list 13 (x11.2.1.map S_Act.av), none⟩, ⟨18, ii x11.2.2, none⟩] [.dead, .dead, .cells 28 (S_Up.cells x11.1) []] []) ?_ ?_
   ·exact gT []
   refine sj <| sj <| sn ?_
   refine Br.of h (fun ht h => ?_) fun ht h => ?_
   ·exact W
   ·refine sn <| sj <| ai id <| ai (fun hg => (and_r hg)) <| ai id <| NormE.to (ii (x11.2.1.length : Int)) (fun _ => len_list S_Act.av x11.2.1) <| ai id <| ai (fun hg => (and_r hg)) <| bind_elim h fun x12 hx12 h => ai id ?_
    refine ai rfl (xi (S_Act.av x12) (ai (fun hg => gidx_map _ hx12 hg) ?_))
    refine ai id <| ai id <| ai id <| ai (fun hg => (and_r hg)) <| bind_elim h fun x13 hx13 h => ai id ?_
    refine ai rfl (xi (S_Act.av x13) (ai (fun hg => gidx_map _ hx13 hg) ?_))
    refine ai id <| ai id <| ai id <| ai (fun hg => (and_r hg)) <| bind_elim h fun x14 hx14 h => ai id ?_
    refine ai rfl (xi (S_Act.av x14) (ai (fun hg => gidx_map _ hx14 hg) ?_))
    refine ai id <| ai id <| ai id <| ai id <| ai id <| ai (fun hg => (and_r hg)) <| ai id <| ai id <| NormE.to (ii (x11.1.Conns.length : Int)) (fun _ => len_list S_Conn.av x11.1.Conns) <| ai id <| ai (fun hg => (and_r hg)) <| ai id <| bind_elim h fun x15 hx15 h => ai id ?_
    refine ai rfl (xi (S_Conn.av x15) (ai (fun hg => gidx_map _ hx15 hg) ?_))
    refine ai id <| ai (lb rfl) <| NormE.to (S_Conn.av x15) (fun _ => rfl) <| bind_elim h fun x16 hx16 h => ai id <| ai rfl ?_
    refine CallF.mk _ false (fun hg => intarsiaref22_Idle_ok E x15 x16 (gcall_some hx16 hg)) (ai rfl ?_)
    refine ai (fun hg => (and_r hg)) <| ai id <| bind_elim h fun x17 hx17 h => ai id ?_
    refine ai rfl (xi (S_Conn.av x17) (ai (fun hg => gidx_map _ hx17 hg) ?_))
    refine ai id <| ai id <| ai id <| ai (fun hg => (and_r hg)) ?_
    refine SeqN.via (St.of [⟨6, bb (bif (bif (bif (bif (bif (bif (bif (bif (x10.2 == (0 : Int)) then (x11.2.2 == (0 : Int)) else false) then ((x11.2.1.length : Int) == (1 : Int)) else false) then (x12.Kind == (4 : Int)) else false) then (x13.Bad == (0 : Int)) else false) then (x14.Answer.Body == x2) else false) then ((x11.1.Conns.length : Int) == (1 : Int)) else false) then x16 else false) then (x17.Used == (1 : Int)) else false), none⟩] [] []) ?_ ?_
    ·exact gT []
    exact W
instance intarsialaw22_UpstreamLate_ok_i (E : Pm.Env) [LaidE E] (a0 : S_Fetch) (a1 : Int) (a2 : Bytes) : Ok E (intarsialaw22_UpstreamLate a0 a1 a2) (fun r => FnR E Tryz.prog 8 [S_Fetch.av a0, ii a1, ss a2] (bb r) false) := ⟨intarsialaw22_UpstreamLate_ok E a0 a1 a2⟩
end Go.Proofs.YtommkfooolabhaaGreatDoor
