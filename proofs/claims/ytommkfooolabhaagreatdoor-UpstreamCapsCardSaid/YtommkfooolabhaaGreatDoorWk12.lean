/-
  The functions do what their images say: walks, written by a program of mine (gen.py).
-/
import Derived.Test.YtommkfooolabhaaGreatDoorIw1
import Derived.Test.YtommkfooolabhaaGreatDoorWk11
import Derived.Test.YtommkfooolabhaaGreatDoorPm31
namespace Go.Proofs.YtommkfooolabhaaGreatDoor
open Go Go.Pm
set_option linter.unusedSimpArgs false
open And renaming intro → ai
open Exists renaming intro → xi
open Option.some renaming inj → oi
open _root_.Nat renaming le_of_ble_eq_true → lb
open Go.Pm.SeqJ renaming go → sj
open Go.Pm.SeqN renaming go → sn
set_option maxRecDepth 100000
set_option maxHeartbeats 1200000
set_option linter.unusedVariables false
theorem upstream_Recv_ok (E : Pm.Env) [LaidE E] (a0 : S_Up) (a1 : Int) (a2 : Bytes) (r : (S_Up × (List S_Act) × Int)) (h : upstream_Recv a0 a1 a2 = some r) : FnR E Tryz.prog 11 [S_Up.av a0, ii a1, ss a2] (AV.tup [S_Up.av r.1, AV.list 13 (r.2.1.map S_Act.av), ii r.2.2]) false := by
 refine FnR.of_ev (T := T) (rows := [31, 87, 106]) tOk mixed Tryz.func11 rfl (by kernel_rfl) (by kernel_rfl) rfl fun hwf => ?_
 unfold upstream_Recv at h
 refine sj <| ai rfl ?_
 refine xi [] (xi 0 (ai ⟨rfl, rfl⟩ ?_))
 refine ai rfl <| sn <| sj <| ai ⟨lb rfl, lb rfl⟩ ?_
 refine xi none (ai rfl ?_)
 refine NormE.to (S_Up.av a0) (fun _ => rfl) <| bind_elim h fun x1 hx1 h => CallH.data _ false rfl (upstream_find_ok E a0 a1 x1 hx1) <| sn <| sj <| sj <| ai ⟨lb rfl, lb rfl⟩ ?_
 refine xi none (ai rfl ?_)
 refine NormE.to (S_Up.av a0) (fun _ => rfl) <| bind_elim h fun x2 hx2 h => CallH.data _ false rfl (upstream_Right_ok E a0 x2 hx2) <| ai id <| ai (fun hg => (and_r hg)) ?_
 refine SeqN.via (St.of [⟨2, ss a2, none⟩, ⟨3, AV.ptr 0 0, none⟩, ⟨6, AV.ptr 1 0, none⟩, ⟨9, ii x1.1, none⟩, ⟨28, bb (bif (!x2) then true else (!x1.2)), none⟩] [.cells 28 (S_Up.cells a0) [], .cells 28 (S_Up.cells S_Up.z) [(2, 0), (3, 1)]] [1, 1]) ?_ ?_
 ·exact gT [0, 1]
 refine Br.of h (fun ht h => ?_) fun ht h => ?_
 ·refine sj ?_
  refine xi (some 266305) (ai (okM.mk (show (266305 : Nat) = freeM T _ _ _ from by kernel_rfl)) ?_)
  refine ai ⟨rfl, rfl, rfl, lb rfl⟩ (xi (S_Up.cells S_Up.z) (ai (fun _ => rfl) ?_))
  refine xi [(2, 2), (3, 3)] (xi 2 (ai ⟨(by kernel_rfl), rfl⟩ ?_))
  exact W
 ·refine sn <| sj <| ai ⟨lb rfl, lb rfl⟩ ?_
  refine xi none (ai rfl ?_)
  refine NormE.to (S_Up.av a0) (fun _ => rfl) <| Gho.go <| FnC.of_ev (T := T) (rows := []) tOk mixed Tryz.func33 rfl (by kernel_rfl) (by kernel_rfl) rfl rfl <| sj <| ai rfl ?_
  refine xi [] (xi 0 (ai ⟨rfl, rfl⟩ ?_))
  refine sn <| sj <| Or.inl <| bind_elim h fun x3 hx3 h => ?_
  have qx3 := chk2_some hx3
  refine CallH.rows _ _ _ _ rfl (slices_Clone_Conn_row E a0.Conns qx3) <| bind_elim h fun x4 hx4 h => ?_
  have qx4 := chk2_some hx4
  refine CallH.rows _ _ _ _ rfl (slices_Clone_Fetch_row E a0.Wait qx4) ?_
  refine ai ⟨rfl, rfl, rfl, lb rfl⟩ (xi [ii a0.Now, ii a0.Next, AV.row 3 0 a0.Conns.length 29, AV.list 7 (a0.Wait.map S_Fetch.av)] (ai (fun _ => rfl) ?_))
  refine ai ⟨rfl, rfl, rfl, lb rfl⟩ (xi [ii a0.Now, ii a0.Next, AV.row 3 0 a0.Conns.length 29, AV.row 4 0 a0.Wait.length 7] (ai (fun _ => rfl) ?_))
  refine ai (by kernel_rfl) <| sn <| sj <| ai ⟨lb rfl, lb rfl⟩ ?_
  refine xi none (ai rfl ?_)
  refine NormE.to (AV.agg [ii a0.Now, ii a0.Next, AV.row 3 0 a0.Conns.length 29, AV.row 4 0 a0.Wait.length 7]) (fun _ => rfl) <| ai ⟨rfl, rfl, lb rfl⟩ ?_
  refine xi (some 16777216) (ai (okM.mk (show (16777216 : Nat) = freeM T _ _ _ from by kernel_rfl)) ?_)
  refine ai rfl ?_
  refine xi [(4, 2)] (xi 1 (ai ⟨(by kernel_rfl), rfl⟩ ?_))
  refine SeqN.via (St.of [⟨2, AV.ptr 5 0, none⟩] [.cells 28 (S_Up.cells a0) [], .cells 28 (S_Up.cells S_Up.z) [(2, 0), (3, 1)], .dead, .cells 48 (a0.Conns.flatMap S_Conn.cells) [], .cells 23 (a0.Wait.flatMap S_Fetch.cells) [], .cells 91 [ii a0.Now, ii a0.Next, AV.row 3 0 a0.Conns.length 29, AV.row 4 0 a0.Wait.length 7, AV.list 13 (([] : List S_Act).map S_Act.av)] [(4, 2)]] [1, 1, 1]) ?_ ?_
  ·exact gT [0, 1, 2]
  refine Gho.go <| sn <| sj <| chk_elim h fun q5 h => ai (fun _ => q5) <| sn <| sj <| sj <| sn ?_
  refine Br.of h (fun ht h => ?_) fun ht h => ?_
  ·refine sj <| ai ⟨lb rfl, lb rfl⟩ ?_
   refine xi none (ai rfl ?_)
   refine NormE.to (S_Up.av a0) (fun _ => rfl) ?_
   refine ai ⟨rfl, rfl, rfl, lb rfl⟩ (xi (S_Up.cells a0) (ai (fun _ => rfl) ?_))
   refine SeqN.via (St.of [⟨6, AV.ptr 1 0, none⟩, ⟨7, AV.list 13 (([] : List S_Act).map S_Act.av), some 0⟩, ⟨8, ii 0, none⟩] [.dead, .cells 28 (S_Up.cells a0) []] [2]) ?_ ?_
   ·exact gT [3]
   exact W
  ·refine sn <| sj <| sj <| bind_elim h fun x6 hx6 h => ai ⟨lb rfl, flat_fits S_Conn.cells 29 (fun _ => rfl) hx6⟩ ?_
   refine xi none (ai rfl ?_)
   refine NormE.to (S_Conn.av x6) (fun _ => congrArg AV.agg (flat_load S_Conn.cells 29 (fun _ => rfl) hx6)) <| bind_elim h fun x7 hx7 h => CallH.data _ false rfl (upstream_idle_ok E x6 x7 hx7) ?_
   refine SeqN.via (St.of [⟨2, ss a2, none⟩, ⟨6, AV.ptr 1 0, none⟩, ⟨9, ii x1.1, none⟩, ⟨11, AV.ptr 5 0, none⟩, ⟨12, AV.ptr 3 (0 + x1.1.toNat * 29), none⟩, ⟨45, bb x7, none⟩] [.dead, .cells 28 (S_Up.cells S_Up.z) [(2, 0), (3, 1)], .dead, .cells 48 (a0.Conns.flatMap S_Conn.cells) [], .cells 23 (a0.Wait.flatMap S_Fetch.cells) [], .cells 91 [ii a0.Now, ii a0.Next, AV.row 3 0 a0.Conns.length 29, AV.row 4 0 a0.Wait.length 7, AV.list 13 (([] : List S_Act).map S_Act.av)] [(4, 2)]] [1, 1, 1]) ?_ ?_
   ·exact gT [0, 1, 2]
   refine Br.of h (fun ht h => ?_) fun ht h => ?_
   ·exact W
   ·refine sn <| sj <| bind_elim h fun x8 hx8 h => ai ⟨lb rfl, flat_fitsF S_Conn.cells 29 (fun _ => rfl) hx8 (o := 9) (n' := 18) (lb rfl)⟩ ?_
    refine xi none (ai rfl ?_)
    refine NormE.to (S_Reader.av x8.Reader) (fun _ => congrArg AV.agg (flat_loadF S_Conn.cells 29 (fun _ => rfl) hx8 (o := 9) (n' := 18) (lb rfl) rfl)) <| bind_elim h fun x9 hx9 h => CallH.data _ false rfl (wire_Feed_ok E x8.Reader a2 x9 hx9) <| ai rfl ?_
    refine ai ⟨rfl, rfl, rfl, lb rfl⟩ (xi (S_Reader.cells x9.1) (ai (fun _ => rfl) ?_))
    refine sn <| sj <| ai ⟨lb rfl, lb rfl⟩ ?_
    refine xi none (ai rfl ?_)
    refine NormE.to (S_Reader.av x9.1) (fun _ => rfl) <| bind_elim h fun x10 hx10 h => ?_
    refine ai ⟨rfl, rfl, rfl, flat_lenF S_Conn.cells 29 (fun _ => rfl) hx10 (o := 9) (lb rfl)⟩ (xi ((a0.Conns.set x1.1.toNat (x10.w3 x9.1)).flatMap S_Conn.cells) (ai (fun _ => flat_storeF S_Conn.cells 29 (fun _ => rfl) hx10 (o := 9) (lb rfl) rfl) ?_))
    refine bind_elim h fun x11 hx11 h => ?_
    refine ai ⟨rfl, rfl, rfl, flat_lenF S_Conn.cells 29 (fun _ => rfl) hx11 (o := 27) (lb rfl)⟩ (xi (((a0.Conns.set x1.1.toNat (x10.w3 x9.1)).set x1.1.toNat (x11.w4 true)).flatMap S_Conn.cells) (ai (fun _ => flat_storeF S_Conn.cells 29 (fun _ => rfl) hx11 (o := 27) (lb rfl) rfl) ?_))
    refine SeqN.via (St.of [⟨6, AV.ptr 1 0, none⟩, ⟨9, ii x1.1, none⟩, ⟨11, AV.ptr 5 0, none⟩, ⟨12, AV.ptr 3 (0 + x1.1.toNat * 29), none⟩, ⟨13, AV.ptr 6 0, none⟩, ⟨14, AV.list 7 (x9.2.1.map S_Message.av), none⟩] [.dead, .cells 28 (S_Up.cells S_Up.z) [(2, 0), (3, 1)], .dead, .cells 48 (((a0.Conns.set x1.1.toNat (x10.w3 x9.1)).set x1.1.toNat (x11.w4 true)).flatMap S_Conn.cells) [], .cells 23 (a0.Wait.flatMap S_Fetch.cells) [], .cells 91 [ii a0.Now, ii a0.Next, AV.row 3 0 a0.Conns.length 29, AV.row 4 0 a0.Wait.length 7, AV.list 13 (([] : List S_Act).map S_Act.av)] [(4, 2)], .cells 46 (S_Reader.cells x9.1) []] [1, 1, 1]) ?_ ?_
    ·exact gT [0, 1, 2]
    refine sj <| sj <| NormE.to (ii (x9.2.1.length : Int)) (fun _ => len_list S_Message.av x9.2.1) <| sn ?_
    refine Br.of h (fun ht h => ?_) fun ht h => ?_
    ·refine bind_elim h fun x12 hx12 h => ?_
     refine ai rfl (xi (S_Message.av x12) (ai (fun hg => idx_map _ hx12) ?_))
     refine ai (lb rfl) <| NormE.to (S_Message.av x12) (fun _ => rfl) <| NormE.to (ii (x9.2.1.length : Int)) (fun _ => len_list S_Message.av x9.2.1) <| ai ⟨lb rfl, lb rfl⟩ ?_
     refine xi none (ai rfl ?_)
     refine NormE.to (S_Reader.av x9.1) (fun _ => rfl) <| bind_elim h fun x13 hx13 h => ai id <| ai rfl ?_
     refine CallF.mk _ false (fun hg => upstream_fresh_ok E x9.1 x13 (gcall_some hx13 hg)) (ai rfl ?_)
     refine ai (fun hg => (and_r hg)) <| ai ⟨by kernel_rfl, by kernel_rfl⟩ <| Gho.go <| FnC.of_ev (T := T) (rows := [25, 62, 999999]) tOk mixed Tryz.func40 rfl (by kernel_rfl) (by kernel_rfl) rfl rfl <| sj <| ai rfl ?_
     refine xi [] (xi 0 (ai ⟨rfl, rfl⟩ ?_))
     refine sn <| sj <| chk_elim h fun q14 h => ai (fun _ => q14) <| sn <| sj <| bind_elim h fun x15 hx15 h => optE.mk (α := AV) (c := ii x15.Fetch.Id) (flat_getF S_Conn.cells 29 (fun _ => rfl) hx15 (o := 2) (lb rfl) rfl) <| ai ⟨lb rfl, lb rfl⟩ ?_
     refine xi none (ai rfl ?_)
     refine NormE.to (S_Message.av x12) (fun _ => rfl) <| ai ⟨by kernel_rfl, by kernel_rfl⟩ <| Gho.go <| FnC.of_ev (T := T) (rows := [13]) tOk mixed Tryz.func35 rfl (by kernel_rfl) (by kernel_rfl) rfl rfl <| sj <| ai rfl ?_
     refine xi [] (xi 0 (ai ⟨rfl, rfl⟩ ?_))
     refine sn <| ai ⟨lb rfl, lb rfl⟩ ?_
     refine xi none (ai rfl ?_)
     refine NormE.to (S_Message.av x12) (fun _ => rfl) <| ai ⟨rfl, rfl, lb rfl⟩ <| ai ⟨rfl, rfl, lb rfl⟩ <| ai ⟨rfl, rfl, lb rfl⟩ <| ai ⟨rfl, rfl, lb rfl⟩ ?_
     refine xi none (ai trivial ?_)
     refine Gho.go <| FnC.of_ev (T := T) (rows := []) tOk mixed Tryz.func78 rfl (by kernel_rfl) (by kernel_rfl) rfl rfl <| sj <| ai rfl ?_
     refine xi [] (xi 0 (ai ⟨rfl, rfl⟩ ?_))
     refine sn <| Or.inl <| ai ⟨lb rfl, lb rfl⟩ ?_
     refine xi none (ai rfl ?_)
     refine NormE.to (S_Act.av (((S_Act.z.w0 (4 : Int)).w4 x15.Fetch.Id).w5 x12)) (fun _ => rfl) <| ai ⟨rfl, rfl, rfl, rfl⟩ <| ai ⟨rfl, rfl, rfl⟩ <| NormE.to (AV.list 13 (([(((S_Act.z.w0 (4 : Int)).w4 x15.Fetch.Id).w5 x12)] : List S_Act).map S_Act.av)) (fun _ => rfl) <| bind_elim h fun x16 hx16 h => ?_
     have qx16 := (app_some hx16).1
     have hx16e := (app_some hx16).2
     refine ai ⟨rfl, rfl, rfl⟩ <| ai rfl <| ai (app_cond S_Act.av qx16) <| NormE.to (AV.list 13 (x16.map S_Act.av)) (fun _ => (app_list 13 S_Act.av _ _).trans (congrArg (fun y => AV.list 13 (List.map S_Act.av y)) hx16e.symm)) ?_
     refine ai ⟨rfl, rfl, rfl, lb rfl⟩ (xi [ii a0.Now, ii a0.Next, AV.row 3 0 a0.Conns.length 29, AV.row 4 0 a0.Wait.length 7, AV.list 13 (x16.map S_Act.av)] (ai (fun _ => rfl) ?_))
     refine ai (by kernel_rfl) <| Gho.go <| Gho.go ?_
     refine SeqN.via (St.of [⟨0, AV.ptr 5 0, none⟩, ⟨1, ii x1.1, none⟩, ⟨3, bb (bif ((x9.2.1.length : Int) == (1 : Int)) then x13 else false), none⟩, ⟨6, AV.ptr 7 0, none⟩, ⟨8, AV.ptr 3 (0 + x1.1.toNat * 29), none⟩] [.dead, .cells 28 (S_Up.cells S_Up.z) [(2, 0), (3, 1)], .dead, .cells 48 (((a0.Conns.set x1.1.toNat (x10.w3 x9.1)).set x1.1.toNat (x11.w4 true)).flatMap S_Conn.cells) [], .cells 23 (a0.Wait.flatMap S_Fetch.cells) [], .cells 91 [ii a0.Now, ii a0.Next, AV.row 3 0 a0.Conns.length 29, AV.row 4 0 a0.Wait.length 7, AV.list 13 (x16.map S_Act.av)] [(4, 3)], .cells 46 (S_Reader.cells x9.1) [], .cells 38 (S_Message.cells x12) []] [1, 1, 0, 1]) ?_ ?_
     ·exact gT [0, 1, 2, 4]
     refine sj <| Or.inl <| bind_elim h fun x17 hx17 h => optE.mk (α := AV) (c := ss x17.Origin) (flat_getF S_Conn.cells 29 (fun _ => rfl) hx17 (o := 1) (lb rfl) rfl) <| bind_elim h fun x18 hx18 h => CallH.lend [3] _ _ _ rfl (upstream_free_ok E ((a0.Conns.set x1.1.toNat (x10.w3 x9.1)).set x1.1.toNat (x11.w4 true)) x17.Origin x18 hx18) (Lend.of [3] ⟨Frz.rowsW S_Conn.av 29 (lb rfl) (fun _ => rfl) (fun _ => rfl) rfl (flat_from _ _) (by simp only [List.length_set]), Frz.pure _ (AV.puD_ok rfl), trivial⟩) <| ai (by kernel_rfl) <| sn <| sj <| sj <| ai id <| ai ⟨lb rfl, lb rfl⟩ ?_
     refine xi none (ai rfl ?_)
     refine NormE.to (S_Start.av x12.Start) (fun _ => rfl) <| ai id <| bind_elim h fun x19 hx19 h => ai id <| ai id <| ai rfl ?_
     refine CallF.mk _ false (fun hg => hop_Keeps_ok E x12.Start x12.Fields x19 (gcall_some hx19 hg)) (ai rfl ?_)
     refine ai id <| ai (fun hg => (and_r hg)) <| ai id <| ai (fun hg => (and_r hg)) <| ai id <| ai id <| bind_elim h fun x20 hx20 h => ai id <| optE.mk (α := AV) (c := ii x20.Used) (flat_getF S_Conn.cells 29 (fun _ => rfl) hx20 (o := 28) (lb rfl) rfl) <| ai id <| ai (fun hg => (and_r hg)) ?_
     refine SeqN.via (St.of [⟨0, AV.ptr 5 0, none⟩, ⟨1, ii x1.1, none⟩, ⟨8, AV.ptr 3 (0 + x1.1.toNat * 29), none⟩, ⟨59, bb (bif (bif (bif (!(bif ((x9.2.1.length : Int) == (1 : Int)) then x13 else false)) then true else (!x19)) then true else (decide (x18.1 ≥ (2 : Int)))) then true else (decide (x20.Used ≥ (1000000000 : Int)))), none⟩] [.dead, .cells 28 (S_Up.cells S_Up.z) [(2, 0), (3, 1)], .dead, .cells 48 (((a0.Conns.set x1.1.toNat (x10.w3 x9.1)).set x1.1.toNat (x11.w4 true)).flatMap S_Conn.cells) [], .cells 23 (a0.Wait.flatMap S_Fetch.cells) [], .cells 91 [ii a0.Now, ii a0.Next, AV.row 3 0 a0.Conns.length 29, AV.row 4 0 a0.Wait.length 7, AV.list 13 (x16.map S_Act.av)] [(4, 3)], .cells 46 (S_Reader.cells x9.1) []] [1, 1, 0, 1]) ?_ ?_
     ·exact gT [0, 1, 2, 3]
     refine Br.of h (fun ht h => ?_) fun ht h => ?_
     ·refine sj <| Gho.go <| FnC.of_ev (T := T) (rows := [15, 25]) tOk mixed Tryz.func38 rfl (by kernel_rfl) (by kernel_rfl) rfl rfl <| sj <| chk_elim h fun q21 h => ai (fun _ => q21) <| bind_elim h fun x22 hx22 h => optE.mk (α := AV) (c := ii x22.Id) (flat_getF S_Conn.cells 29 (fun _ => rfl) hx22 (o := 0) (lb rfl) rfl) <| ai ⟨rfl, rfl, lb rfl⟩ <| ai ⟨rfl, rfl, lb rfl⟩ ?_
      refine xi (some 4797324681010433232896) (ai (okM.mk (show (4797324681010433232896 : Nat) = freeM T _ _ _ from by kernel_rfl)) ?_)
      refine Gho.go <| FnC.of_ev (T := T) (rows := []) tOk mixed Tryz.func78 rfl (by kernel_rfl) (by kernel_rfl) rfl rfl <| sj <| ai rfl ?_
      refine xi [(10, 4)] (xi 1 (ai ⟨(by kernel_rfl), rfl⟩ ?_))
      refine sn <| Or.inl <| ai ⟨lb rfl, lb rfl⟩ ?_
      refine xi (some 6917529027641081856) (ai (show aggT [(10, 4)] 0 13 = some 6917529027641081856 from by kernel_rfl) ?_)
      refine NormE.to (S_Act.av ((S_Act.z.w0 (3 : Int)).w1 x22.Id)) (fun _ => rfl) <| ai ⟨rfl, rfl, rfl, rfl⟩ <| ai ⟨rfl, rfl, rfl⟩ <| NormE.to (AV.list 13 (([((S_Act.z.w0 (3 : Int)).w1 x22.Id)] : List S_Act).map S_Act.av)) (fun _ => rfl) <| bind_elim h fun x23 hx23 h => ?_
      have qx23 := (app_some hx23).1
      have hx23e := (app_some hx23).2
      refine ai ⟨rfl, rfl, rfl⟩ <| ai rfl <| ai (app_cond S_Act.av qx23) <| NormE.to (AV.list 13 (x23.map S_Act.av)) (fun _ => (app_list 13 S_Act.av _ _).trans (congrArg (fun y => AV.list 13 (List.map S_Act.av y)) hx23e.symm)) ?_
      refine ai ⟨rfl, rfl, rfl, lb rfl⟩ (xi [ii a0.Now, ii a0.Next, AV.row 3 0 a0.Conns.length 29, AV.row 4 0 a0.Wait.length 7, AV.list 13 (x23.map S_Act.av)] (ai (fun _ => rfl) ?_))
      refine ai (by kernel_rfl) <| Gho.go <| sn <| bind_elim h fun x24 hx24 h => Gho.go <| slices_Delete_Conn_ok (f := S_Conn.av) E rfl (by simp only [List.length_set]) hx24 ?_
      refine ai ⟨rfl, rfl, rfl, lb rfl⟩ (xi [ii a0.Now, ii a0.Next, AV.row 3 0 x24.length 29, AV.row 4 0 a0.Wait.length 7, AV.list 13 (x23.map S_Act.av)] (ai (fun _ => rfl) ?_))
      refine Gho.go <| sn <| Gho.go ?_
      refine SeqN.via (St.of [⟨6, AV.ptr 1 0, none⟩, ⟨11, AV.ptr 5 0, none⟩] [.dead, .cells 28 (S_Up.cells S_Up.z) [(2, 0), (3, 1)], .dead, .cells 48 (x24.flatMap S_Conn.cells) [], .cells 23 (a0.Wait.flatMap S_Fetch.cells) [], .cells 91 [ii a0.Now, ii a0.Next, AV.row 3 0 x24.length 29, AV.row 4 0 a0.Wait.length 7, AV.list 13 (x23.map S_Act.av)] [(4, 2)]] [1, 1, 1]) ?_ ?_
      ·exact gT [0, 1, 6]
      refine sj <| bind_elim h fun x25 hx25 h => ?_
      refine xi (St.of [⟨6, AV.ptr 3 0, none⟩, ⟨105, AV.ptr 0 0, none⟩] [.cells 91 [ii a0.Now, ii a0.Next, AV.row 1 0 x24.length 29, AV.row 2 0 a0.Wait.length 7, AV.list 13 (x23.map S_Act.av)] [(4, 0)], .cells 48 (x24.flatMap S_Conn.cells) [], .cells 23 (a0.Wait.flatMap S_Fetch.cells) [], .cells 28 (S_Up.cells S_Up.z) []] [1]) (ai ?_ ?_)
      ·exact gI [2] [5, 3, 4, 1]
      refine upstream_work_goes_ok E (S_upstream_work.mk (S_Up.mk a0.Now a0.Next x24 a0.Wait) x23) x25.1 x25.2 hx25 _ ?_
      refine ai ⟨rfl, rfl, rfl, lb rfl⟩ (xi [ii x25.1.1, ii x25.1.2.1, AV.row 4 0 x25.2.Up.Conns.length 29, AV.row 5 0 x25.2.Up.Wait.length 7] (ai (fun _ => rfl) ?_))
      refine sn ?_
      replace h := oi h
      refine RetE.frz ?_
      refine ai ⟨lb rfl, lb rfl⟩ (xi (AV.agg [ii x25.1.1, ii x25.1.2.1, AV.row 4 0 x25.2.Up.Conns.length 29, AV.row 5 0 x25.2.Up.Wait.length 7]) (ai rfl ?_))
      exact xi (AV.tup [S_Up.av ((x25.2.Up.w0 x25.1.1).w1 x25.1.2.1), AV.list 13 (x25.1.2.2.1.map S_Act.av), ii x25.1.2.2.2]) (ai (Frz.tupL ⟨Frz.aggL ⟨Frz.pure _ (AV.puD_ok rfl), Frz.pure _ (AV.puD_ok rfl), Frz.rowsW S_Conn.av 29 (lb rfl) (fun _ => rfl) (fun _ => rfl) rfl (flat_from _ _) rfl, Frz.rowsW S_Fetch.av 7 (lb rfl) (fun _ => rfl) (fun _ => rfl) rfl (flat_from _ _) rfl, trivial⟩, Frz.pure _ (AV.puD_ok rfl), Frz.pure _ (AV.puD_ok rfl), trivial⟩) (ai (congrArg (fun r : (S_Up × (List S_Act) × Int) => AV.tup [S_Up.av r.1, AV.list 13 (r.2.1.map S_Act.av), ii r.2.2]) h) rfl))
     ·refine sn <| sj ?_
      refine xi none (ai trivial ?_)
      refine xi (some 5151088153308360742589778104385) (ai (okM.mk (show (5151088153308360742589778104385 : Nat) = freeM T _ _ _ from by kernel_rfl)) ?_)
      refine bind_elim h fun x26 hx26 h => ?_
      refine ai ⟨rfl, rfl, rfl, flat_lenF S_Conn.cells 29 (fun _ => rfl) hx26 (o := 2) (lb rfl)⟩ (xi ((((a0.Conns.set x1.1.toNat (x10.w3 x9.1)).set x1.1.toNat (x11.w4 true)).set x1.1.toNat (x26.w2 S_Fetch.z)).flatMap S_Conn.cells) (ai (fun _ => flat_storeF S_Conn.cells 29 (fun _ => rfl) hx26 (o := 2) (lb rfl) rfl) ?_))
      refine bind_elim h fun x27 hx27 h => ?_
      refine ai ⟨rfl, rfl, rfl, flat_lenF S_Conn.cells 29 (fun _ => rfl) hx27 (o := 9) (lb rfl)⟩ (xi (((((a0.Conns.set x1.1.toNat (x10.w3 x9.1)).set x1.1.toNat (x11.w4 true)).set x1.1.toNat (x26.w2 S_Fetch.z)).set x1.1.toNat (x27.w3 S_Reader.z)).flatMap S_Conn.cells) (ai (fun _ => flat_storeF S_Conn.cells 29 (fun _ => rfl) hx27 (o := 9) (lb rfl) rfl) ?_))
      refine bind_elim h fun x28 hx28 h => ?_
      refine ai ⟨rfl, rfl, rfl, flat_lenF S_Conn.cells 29 (fun _ => rfl) hx28 (o := 27) (lb rfl)⟩ (xi ((((((a0.Conns.set x1.1.toNat (x10.w3 x9.1)).set x1.1.toNat (x11.w4 true)).set x1.1.toNat (x26.w2 S_Fetch.z)).set x1.1.toNat (x27.w3 S_Reader.z)).set x1.1.toNat (x28.w4 false)).flatMap S_Conn.cells) (ai (fun _ => flat_storeF S_Conn.cells 29 (fun _ => rfl) hx28 (o := 27) (lb rfl) rfl) ?_))
      refine sn <| bind_elim h fun x29 hx29 h => optE.mk (α := AV) (c := ii x29.Used) (flat_getF S_Conn.cells 29 (fun _ => rfl) hx29 (o := 28) (lb rfl) rfl) <| bind_elim h fun x30 hx30 h => ?_
      refine ai ⟨rfl, rfl, rfl, flat_lenF S_Conn.cells 29 (fun _ => rfl) hx30 (o := 28) (lb rfl)⟩ (xi (((((((a0.Conns.set x1.1.toNat (x10.w3 x9.1)).set x1.1.toNat (x11.w4 true)).set x1.1.toNat (x26.w2 S_Fetch.z)).set x1.1.toNat (x27.w3 S_Reader.z)).set x1.1.toNat (x28.w4 false)).set x1.1.toNat (x30.w5 (IntKind.i64.wrap (x29.Used + (1 : Int))))).flatMap S_Conn.cells) (ai (fun _ => flat_storeF S_Conn.cells 29 (fun _ => rfl) hx30 (o := 28) (lb rfl) rfl) ?_))
      refine Gho.go ?_
      refine SeqN.via (St.of [⟨6, AV.ptr 1 0, none⟩, ⟨11, AV.ptr 5 0, none⟩] [.dead, .cells 28 (S_Up.cells S_Up.z) [(2, 0), (3, 1)], .dead, .cells 48 (((((((a0.Conns.set x1.1.toNat (x10.w3 x9.1)).set x1.1.toNat (x11.w4 true)).set x1.1.toNat (x26.w2 S_Fetch.z)).set x1.1.toNat (x27.w3 S_Reader.z)).set x1.1.toNat (x28.w4 false)).set x1.1.toNat (x30.w5 (IntKind.i64.wrap (x29.Used + (1 : Int))))).flatMap S_Conn.cells) [], .cells 23 (a0.Wait.flatMap S_Fetch.cells) [], .cells 91 [ii a0.Now, ii a0.Next, AV.row 3 0 a0.Conns.length 29, AV.row 4 0 a0.Wait.length 7, AV.list 13 (x16.map S_Act.av)] [(4, 2)]] [1, 1, 1]) ?_ ?_
      ·exact gT [0, 1, 3]
      refine sj <| bind_elim h fun x31 hx31 h => ?_
      refine xi (St.of [⟨6, AV.ptr 3 0, none⟩, ⟨105, AV.ptr 0 0, none⟩] [.cells 91 [ii a0.Now, ii a0.Next, AV.row 1 0 (((((((a0.Conns.set x1.1.toNat (x10.w3 x9.1)).set x1.1.toNat (x11.w4 true)).set x1.1.toNat (x26.w2 S_Fetch.z)).set x1.1.toNat (x27.w3 S_Reader.z)).set x1.1.toNat (x28.w4 false)).set x1.1.toNat (x30.w5 (IntKind.i64.wrap (x29.Used + (1 : Int))))).length) 29, AV.row 2 0 a0.Wait.length 7, AV.list 13 (x16.map S_Act.av)] [(4, 0)], .cells 48 (((((((a0.Conns.set x1.1.toNat (x10.w3 x9.1)).set x1.1.toNat (x11.w4 true)).set x1.1.toNat (x26.w2 S_Fetch.z)).set x1.1.toNat (x27.w3 S_Reader.z)).set x1.1.toNat (x28.w4 false)).set x1.1.toNat (x30.w5 (IntKind.i64.wrap (x29.Used + (1 : Int))))).flatMap S_Conn.cells) [], .cells 23 (a0.Wait.flatMap S_Fetch.cells) [], .cells 28 (S_Up.cells S_Up.z) []] [1]) (ai ?_ ?_)
      ·exact gI [2] [5, 3, 4, 1]
      refine upstream_work_goes_ok E (S_upstream_work.mk (S_Up.mk a0.Now a0.Next ((((((a0.Conns.set x1.1.toNat (x10.w3 x9.1)).set x1.1.toNat (x11.w4 true)).set x1.1.toNat (x26.w2 S_Fetch.z)).set x1.1.toNat (x27.w3 S_Reader.z)).set x1.1.toNat (x28.w4 false)).set x1.1.toNat (x30.w5 (IntKind.i64.wrap (x29.Used + (1 : Int))))) a0.Wait) x16) x31.1 x31.2 hx31 _ ?_
      refine ai ⟨rfl, rfl, rfl, lb rfl⟩ (xi [ii x31.1.1, ii x31.1.2.1, AV.row 4 0 x31.2.Up.Conns.length 29, AV.row 5 0 x31.2.Up.Wait.length 7] (ai (fun _ => rfl) ?_))
      refine sn ?_
      replace h := oi h
      refine RetE.frz ?_
      refine ai ⟨lb rfl, lb rfl⟩ (xi (AV.agg [ii x31.1.1, ii x31.1.2.1, AV.row 4 0 x31.2.Up.Conns.length 29, AV.row 5 0 x31.2.Up.Wait.length 7]) (ai rfl ?_))
      exact xi (AV.tup [S_Up.av ((x31.2.Up.w0 x31.1.1).w1 x31.1.2.1), AV.list 13 (x31.1.2.2.1.map S_Act.av), ii x31.1.2.2.2]) (ai (Frz.tupL ⟨Frz.aggL ⟨Frz.pure _ (AV.puD_ok rfl), Frz.pure _ (AV.puD_ok rfl), Frz.rowsW S_Conn.av 29 (lb rfl) (fun _ => rfl) (fun _ => rfl) rfl (flat_from _ _) rfl, Frz.rowsW S_Fetch.av 7 (lb rfl) (fun _ => rfl) (fun _ => rfl) rfl (flat_from _ _) rfl, trivial⟩, Frz.pure _ (AV.puD_ok rfl), Frz.pure _ (AV.puD_ok rfl), trivial⟩) (ai (congrArg (fun r : (S_Up × (List S_Act) × Int) => AV.tup [S_Up.av r.1, AV.list 13 (r.2.1.map S_Act.av), ii r.2.2]) h) rfl))
    ·refine sj <| sn ?_
     refine Br.of h (fun ht h => ?_) fun ht h => ?_
     ·exact W
     ·refine sn <| sj <| bind_elim h fun x32 hx32 h => ?_
      refine xi (St.of [⟨6, AV.ptr 3 0, none⟩, ⟨105, AV.ptr 0 0, none⟩] [.cells 91 [ii a0.Now, ii a0.Next, AV.row 1 0 (((a0.Conns.set x1.1.toNat (x10.w3 x9.1)).set x1.1.toNat (x11.w4 true)).length) 29, AV.row 2 0 a0.Wait.length 7, AV.list 13 (([] : List S_Act).map S_Act.av)] [(4, 0)], .cells 48 (((a0.Conns.set x1.1.toNat (x10.w3 x9.1)).set x1.1.toNat (x11.w4 true)).flatMap S_Conn.cells) [], .cells 23 (a0.Wait.flatMap S_Fetch.cells) [], .cells 28 (S_Up.cells S_Up.z) []] [1]) (ai ?_ ?_)
      ·exact gI [2] [5, 3, 4, 1]
      refine upstream_work_goes_ok E (S_upstream_work.z.w0 (S_Up.mk a0.Now a0.Next ((a0.Conns.set x1.1.toNat (x10.w3 x9.1)).set x1.1.toNat (x11.w4 true)) a0.Wait)) x32.1 x32.2 hx32 _ ?_
      refine ai ⟨rfl, rfl, rfl, lb rfl⟩ (xi [ii x32.1.1, ii x32.1.2.1, AV.row 4 0 x32.2.Up.Conns.length 29, AV.row 5 0 x32.2.Up.Wait.length 7] (ai (fun _ => rfl) ?_))
      refine SeqN.via (St.of [⟨6, AV.ptr 3 0, none⟩, ⟨7, AV.list 13 (x32.1.2.2.1.map S_Act.av), none⟩, ⟨8, ii x32.1.2.2.2, none⟩] [.dead, .dead, .dead, .cells 28 [ii x32.1.1, ii x32.1.2.1, AV.row 4 0 x32.2.Up.Conns.length 29, AV.row 5 0 x32.2.Up.Wait.length 7] [], .cells 48 (x32.2.Up.Conns.flatMap S_Conn.cells) [], .cells 23 (x32.2.Up.Wait.flatMap S_Fetch.cells) []] []) ?_ ?_
      ·exact gT []
      replace h := oi h
      refine RetE.frz ?_
      refine ai ⟨lb rfl, lb rfl⟩ (xi (AV.agg [ii x32.1.1, ii x32.1.2.1, AV.row 4 0 x32.2.Up.Conns.length 29, AV.row 5 0 x32.2.Up.Wait.length 7]) (ai rfl ?_))
      exact xi (AV.tup [S_Up.av ((x32.2.Up.w0 x32.1.1).w1 x32.1.2.1), AV.list 13 (x32.1.2.2.1.map S_Act.av), ii x32.1.2.2.2]) (ai (Frz.tupL ⟨Frz.aggL ⟨Frz.pure _ (AV.puD_ok rfl), Frz.pure _ (AV.puD_ok rfl), Frz.rowsW S_Conn.av 29 (lb rfl) (fun _ => rfl) (fun _ => rfl) rfl (flat_from _ _) rfl, Frz.rowsW S_Fetch.av 7 (lb rfl) (fun _ => rfl) (fun _ => rfl) rfl (flat_from _ _) rfl, trivial⟩, Frz.pure _ (AV.puD_ok rfl), Frz.pure _ (AV.puD_ok rfl), trivial⟩) (ai (congrArg (fun r : (S_Up × (List S_Act) × Int) => AV.tup [S_Up.av r.1, AV.list 13 (r.2.1.map S_Act.av), ii r.2.2]) h) rfl))
instance upstream_Recv_ok_i (E : Pm.Env) [LaidE E] (a0 : S_Up) (a1 : Int) (a2 : Bytes) : Ok E (upstream_Recv a0 a1 a2) (fun r => FnR E Tryz.prog 11 [S_Up.av a0, ii a1, ss a2] (AV.tup [S_Up.av r.1, AV.list 13 (r.2.1.map S_Act.av), ii r.2.2]) false) := ⟨upstream_Recv_ok E a0 a1 a2⟩
theorem intarsiaref22_To_ok (E : Pm.Env) [LaidE E] (a0 : (List S_Conn)) (a1 : Bytes) (r : (Int × Int)) (h : intarsiaref22_To a0 a1 = some r) : FnR E Tryz.prog 23 [AV.list 29 (a0.map S_Conn.av), ss a1] (AV.tup [ii r.1, ii r.2]) false := by
 refine FnR.of_ev (T := T) (rows := []) tOk mixed Tryz.func23 rfl (by kernel_rfl) (by kernel_rfl) rfl fun hwf => ?_
 unfold intarsiaref22_To at h
 refine sj <| sn <| sj <| sn <| sj <| sn <| bind_elim h fun j1 hj1 h => ?_
 refine SeqJ.join (St.of [⟨6, ii j1.1, none⟩, ⟨7, ii j1.2, none⟩] [] []) ?_ ?_
 ·clear h; have h := hj1; clear hj1
  refine sj <| NormE.to (ii (a0.length : Int)) (fun _ => len_list S_Conn.av a0) <| sn ?_
  refine LoopE.img (fun x : (Int × Int × Int) => St.of [⟨1, ss a1, none⟩, ⟨6, ii x.1, none⟩, ⟨7, ii x.2.1, none⟩, ⟨10, AV.list 29 (a0.map S_Conn.av), none⟩, ⟨11, ii (a0.length : Int), none⟩, ⟨12, ii x.2.2, none⟩] [] []) (intarsiaref22_To_b1 a0 a1) ((0 : Int), (0 : Int), (0 : Int)) h ?_ ?_
  ·exact gT []
  intro n1 x y1 h hl1 hr1
  obtain ⟨s2, s3, s4⟩ := x
  unfold intarsiaref22_To_b1 at h
  dsimp only at h
  exact W
 ·clear hj1
  exact W
instance intarsiaref22_To_ok_i (E : Pm.Env) [LaidE E] (a0 : (List S_Conn)) (a1 : Bytes) : Ok E (intarsiaref22_To a0 a1) (fun r => FnR E Tryz.prog 23 [AV.list 29 (a0.map S_Conn.av), ss a1] (AV.tup [ii r.1, ii r.2]) false) := ⟨intarsiaref22_To_ok E a0 a1⟩
theorem intarsialaw22_UpstreamCaps_ok (E : Pm.Env) [LaidE E] (a0 : Int) (a1 : Bytes) (r : Bool) (h : intarsialaw22_UpstreamCaps a0 a1 = some r) : FnR E Tryz.prog 7 [ii a0, ss a1] (bb r) false := by
 refine FnR.of_ev (T := T) (rows := []) tOk mixed Tryz.func7 rfl (by kernel_rfl) (by kernel_rfl) rfl fun hwf => ?_
 unfold intarsialaw22_UpstreamCaps at h
 refine sj <| sn <| sj <| ai rfl <| ai rfl <| sn <| sj <| NormE.same <| ai rfl <| bind_elim h fun x1 hx1 h => ?_
 have qx1 := (slc_some hx1).1
 have hx1e := (slc_some hx1).2
 refine ai (fun _ => qx1) <| NormE.to (ss x1) (fun _ => congrArg ss hx1e.symm) <| sn <| sj ?_
 refine xi (some 266305) (ai (okM.mk (show (266305 : Nat) = freeM T _ _ _ from by kernel_rfl)) ?_)
 refine ai rfl ?_
 refine ai ⟨rfl, rfl, rfl, lb rfl⟩ (xi (S_Up.cells S_Up.z) (ai (fun _ => rfl) ?_))
 refine xi [(2, 2), (3, 3)] (xi 2 (ai ⟨(by kernel_rfl), rfl⟩ ?_))
 refine sn <| sj <| sn <| sj <| sj ?_
 refine SeqN.via (St.of [⟨0, ii (imin (imax a0 (0 : Int)) (25 : Int)), none⟩, ⟨1, ss x1, none⟩, ⟨5, AV.ptr 0 0, none⟩, ⟨6, ii 0, none⟩, ⟨33, ii (imin (imax a0 (0 : Int)) (25 : Int)), none⟩, ⟨34, ii 0, none⟩] [.cells 28 (S_Up.cells S_Up.z) [(2, 0), (3, 1)]] [1, 1]) ?_ ?_
 ·exact gT [2, 3]
 refine LoopE.img (fun x : (Int × Int × S_Up) => St.of [⟨0, ii (imin (imax a0 (0 : Int)) (25 : Int)), none⟩, ⟨1, ss x1, none⟩, ⟨5, AV.ptr 0 0, none⟩, ⟨6, ii x.1, none⟩, ⟨33, ii (imin (imax a0 (0 : Int)) (25 : Int)), none⟩, ⟨34, ii x.2.1, none⟩] [.cells 28 (S_Up.cells x.2.2) []] []) (intarsialaw22_UpstreamCaps_b1 a0 x1) ((0 : Int), (0 : Int), S_Up.z) h ?_ ?_
 ·exact gT []
 intro n1 x y1 h hl1 hr1
 obtain ⟨s2, s3, s4⟩ := x
 unfold intarsialaw22_UpstreamCaps_b1 at h
 dsimp only at h
 refine sj <| sn <| sj ?_
 refine Br.of h (fun ht h => ?_) fun ht h => ?_
 ·refine sn <| sj <| sj <| sn <| sj <| ai ⟨lb rfl, lb rfl⟩ ?_
  refine xi none (ai rfl ?_)
  refine NormE.to (S_Up.av s4) (fun _ => rfl) <| ai ⟨rfl, rfl, lb rfl⟩ <| ai ⟨rfl, rfl, lb rfl⟩ <| ai ⟨rfl, rfl, lb rfl⟩ <| ai ⟨rfl, rfl, lb rfl⟩ ?_
  refine xi none (ai trivial ?_)
  refine bind_elim h fun x5 hx5 h => CallH.data _ false rfl (upstream_Ask_ok E s4 ((((S_Fetch.z.w0 (IntKind.i64.wrap (s3 + (1 : Int)))).w1 ([111] : Bytes)).w2 ([98] : Bytes)).w3 ([71, 69, 84] : Bytes)) x5 hx5) <| ai rfl ?_
  refine ai ⟨rfl, rfl, rfl, lb rfl⟩ (xi (S_Up.cells x5.1) (ai (fun _ => rfl) ?_))
  refine SeqN.via (St.of [⟨0, ii (imin (imax a0 (0 : Int)) (25 : Int)), none⟩, ⟨1, ss x1, none⟩, ⟨5, AV.ptr 0 0, none⟩, ⟨6, ii s2, none⟩, ⟨7, ii s3, none⟩, ⟨8, AV.ptr 1 0, none⟩, ⟨9, AV.list 13 (x5.2.1.map S_Act.av), none⟩, ⟨10, ii x5.2.2, none⟩, ⟨33, ii (imin (imax a0 (0 : Int)) (25 : Int)), none⟩, ⟨34, ii s3, none⟩] [.cells 28 (S_Up.cells s4) [], .cells 28 (S_Up.cells x5.1) []] []) ?_ ?_
  ·exact gT []
  refine sj <| NormE.to (ii (x5.2.1.length : Int)) (fun _ => len_list S_Act.av x5.2.1) <| bind_elim h fun x6 hx6 h => ai id ?_
  refine ai rfl (xi (S_Act.av x6) (ai (fun hg => gidx_map _ hx6 hg) ?_))
  refine ai id <| ai id <| ai id <| ai (fun hg => (and_r hg)) <| bind_elim h fun x7 hx7 h => ai id ?_
  refine ai rfl (xi (S_Act.av x7) (ai (fun hg => gidx_map _ hx7 hg) ?_))
  refine ai id <| ai id <| ai id <| ai (fun hg => (and_r hg)) ?_
  refine SeqN.via (St.of [⟨0, ii (imin (imax a0 (0 : Int)) (25 : Int)), none⟩, ⟨1, ss x1, none⟩, ⟨5, AV.ptr 0 0, none⟩, ⟨6, ii s2, none⟩, ⟨7, ii s3, none⟩, ⟨8, AV.ptr 1 0, none⟩, ⟨9, AV.list 13 (x5.2.1.map S_Act.av), none⟩, ⟨10, ii x5.2.2, none⟩, ⟨11, bb (bif (bif ((x5.2.1.length : Int) == (1 : Int)) then (x6.Kind == (4 : Int)) else false) then (x7.Bad == (4 : Int)) else false), none⟩, ⟨33, ii (imin (imax a0 (0 : Int)) (25 : Int)), none⟩, ⟨34, ii s3, none⟩] [.cells 28 (S_Up.cells s4) [], .cells 28 (S_Up.cells x5.1) []] []) ?_ ?_
  ·exact gT []
  refine sj <| sj <| ai id <| ai id <| ai id <| ai rfl <| ai (fun hg => (and_r hg)) <| ai id <| NormE.to (ii (x5.2.1.length : Int)) (fun _ => len_list S_Act.av x5.2.1) <| ai id <| ai id <| ai id <| ai id <| ai id <| ai id <| ai id <| ai id <| ai rfl <| ai (fun hg => (and_r hg)) ?_
  refine SeqN.via (St.of [⟨0, ii (imin (imax a0 (0 : Int)) (25 : Int)), none⟩, ⟨1, ss x1, none⟩, ⟨5, AV.ptr 0 0, none⟩, ⟨6, ii s2, none⟩, ⟨8, AV.ptr 1 0, none⟩, ⟨9, AV.list 13 (x5.2.1.map S_Act.av), none⟩, ⟨33, ii (imin (imax a0 (0 : Int)) (25 : Int)), none⟩, ⟨34, ii s3, none⟩, ⟨82, bb (bif (bif (x5.2.2 != (0 : Int)) then true else (!((bif (bif ((x5.2.1.length : Int) == (1 : Int)) then (x6.Kind == (4 : Int)) else false) then (x7.Bad == (4 : Int)) else false) == (decide (s3 ≥ (20 : Int)))))) then true else (!(((x5.2.1.length : Int) == (0 : Int)) == (bif (decide (s3 ≥ (4 : Int))) then (decide (s3 < (20 : Int))) else false)))), none⟩] [.cells 28 (S_Up.cells s4) [], .cells 28 (S_Up.cells x5.1) []] []) ?_ ?_
  ·exact gT []
  exact W
 ·refine sn <| sj <| ai ⟨rfl, rfl, lb rfl⟩ <| ai ⟨rfl, rfl, lb rfl⟩ ?_
  refine xi none (ai trivial ?_)
  refine ai ⟨rfl, rfl, lb rfl⟩ <| ai ⟨rfl, rfl, lb rfl⟩ ?_
  refine xi (some 1073741824) (ai (okM.mk (show (1073741824 : Nat) = freeM T _ _ _ from by kernel_rfl)) ?_)
  refine bind_elim h fun x9 hx9 h => CallH.data _ false rfl (wire_Write_ok E ((S_Message.z.w0 ((S_Start.z.w2 (200 : Int)).w4 (1 : Int))).w2 x1) false x9 hx9) <| sn <| sj <| sj <| ai id <| ai rfl <| ai id <| ai id <| ai (fun hg => (and_r hg)) <| ai id <| ai id <| NormE.to (ii (s4.Wait.length : Int)) (fun _ => len_list S_Fetch.av s4.Wait) <| ai id <| ai id <| ai rfl <| ai id <| ai rfl <| ai id <| ai id <| ai (fun hg => (and_r hg)) <| bind_elim h fun x10 hx10 h => ai rfl ?_
  refine CallF.mk _ false (fun hg => intarsialaw22_alive_ok E  x10 (gcall_some hx10 hg)) (ai rfl ?_)
  refine ai id <| ai (fun hg => (and_r hg)) ?_
  refine SeqN.via (St.of [⟨0, ii (imin (imax a0 (0 : Int)) (25 : Int)), none⟩, ⟨5, AV.ptr 0 0, none⟩, ⟨12, ss x9.1, none⟩, ⟨118, bb (bif (bif (bif (x9.2 != (0 : Int)) then true else (s2 != (imin (imin (imax a0 (0 : Int)) (25 : Int)) (4 : Int)))) then true else ((s4.Wait.length : Int) != (imin (imax (IntKind.i64.wrap ((imin (imax a0 (0 : Int)) (25 : Int)) - (4 : Int))) (0 : Int)) (16 : Int)))) then true else (!x10)), none⟩] [.cells 28 (S_Up.cells s4) []] []) ?_ ?_
  ·exact gT []
  refine Br.of h (fun ht h => ?_) fun ht h => ?_
  ·exact W
  ·refine sn <| sj <| sj <| sn ?_
   refine LoopE.img (fun x : (Int × S_Up) => St.of [⟨0, ii (imin (imax a0 (0 : Int)) (25 : Int)), none⟩, ⟨5, AV.ptr 0 0, none⟩, ⟨12, ss x9.1, none⟩, ⟨14, ii x.1, none⟩] [.cells 28 (S_Up.cells x.2) []] []) (intarsialaw22_UpstreamCaps_b2 a0 x9) ((0 : Int), s4) h ?_ ?_
   ·exact gT []
   intro n2 x y2 h hl2 hr2
   obtain ⟨s11, s12⟩ := x
   unfold intarsialaw22_UpstreamCaps_b2 at h
   dsimp only at h
   refine sj <| sj <| ai ⟨lb rfl, lb rfl⟩ ?_
   refine xi none (ai rfl ?_)
   refine NormE.to (S_Up.av s12) (fun _ => rfl) <| bind_elim h fun x13 hx13 h => ai id <| ai rfl ?_
   refine CallF.mk _ false (fun hg => FnR.drop (intarsiaref22_All_ok E s12 x13 (gcall_some hx13 hg))) (ai rfl ?_)
   refine ai id <| NormE.to (ii (x13.length : Int)) (fun _ => len_list S_Fetch.av x13) <| ai id <| ai (fun hg => (and_r hg)) <| sn ?_
   refine Br.of h (fun ht h => ?_) fun ht h => ?_
   ·refine sn <| sj <| sj <| sn <| bind_elim h fun j14 hj14 h => ?_
    refine SeqJ.join (St.of [⟨0, ii (imin (imax a0 (0 : Int)) (25 : Int)), none⟩, ⟨5, AV.ptr 0 0, none⟩, ⟨12, ss x9.1, none⟩, ⟨14, ii s11, none⟩, ⟨15, ii j14, none⟩] [.cells 28 (S_Up.cells s12) []] []) ?_ ?_
    ·clear h; have h := hj14; clear hj14
     refine sj <| NormE.to (ii (s12.Conns.length : Int)) (fun _ => len_list S_Conn.av s12.Conns) <| sn ?_
     refine LoopE.img (fun x : (Int × Int) => St.of [⟨0, ii (imin (imax a0 (0 : Int)) (25 : Int)), none⟩, ⟨5, AV.ptr 0 0, none⟩, ⟨12, ss x9.1, none⟩, ⟨14, ii s11, none⟩, ⟨15, ii x.1, none⟩, ⟨130, AV.list 29 (s12.Conns.map S_Conn.av), none⟩, ⟨131, ii (s12.Conns.length : Int), none⟩, ⟨132, ii x.2, none⟩] [.cells 28 (S_Up.cells s12) []] []) (intarsialaw22_UpstreamCaps_b3 s12) ((0 : Int), (0 : Int)) h ?_ ?_
     ·exact gT []
     intro n3 x y3 h hl3 hr3
     obtain ⟨s15, s16⟩ := x
     unfold intarsialaw22_UpstreamCaps_b3 at h
     dsimp only at h
     exact W
    ·clear hj14
     refine sj <| NormE.to (ii (s12.Wait.length : Int)) (fun _ => len_list S_Fetch.av s12.Wait) <| sn <| sj <| ai ⟨lb rfl, lb rfl⟩ ?_
     refine xi none (ai rfl ?_)
     refine NormE.to (S_Up.av s12) (fun _ => rfl) <| bind_elim h fun x19 hx19 h => CallH.data _ false rfl (upstream_Recv_ok E s12 j14 x9.1 x19 hx19) <| ai rfl ?_
     refine ai ⟨rfl, rfl, rfl, lb rfl⟩ (xi (S_Up.cells x19.1) (ai (fun _ => rfl) ?_))
     refine SeqN.via (St.of [⟨0, ii (imin (imax a0 (0 : Int)) (25 : Int)), none⟩, ⟨5, AV.ptr 0 0, none⟩, ⟨12, ss x9.1, none⟩, ⟨14, ii s11, none⟩, ⟨18, ii (s12.Wait.length : Int), none⟩, ⟨19, AV.ptr 1 0, none⟩, ⟨20, AV.list 13 (x19.2.1.map S_Act.av), none⟩, ⟨21, ii x19.2.2, none⟩] [.cells 28 (S_Up.cells s12) [], .cells 28 (S_Up.cells x19.1) []] []) ?_ ?_
     ·exact gT []
     refine sj <| sj <| ai id <| NormE.to (ii (x19.2.1.length : Int)) (fun _ => len_list S_Act.av x19.2.1) <| ai id <| ai (fun hg => (and_r hg)) <| bind_elim h fun x20 hx20 h => ai id ?_
     refine ai rfl (xi (S_Act.av x20) (ai (fun hg => gidx_map _ hx20 hg) ?_))
     refine ai id <| ai id <| ai id <| ai (fun hg => (and_r hg)) <| ai id <| ai id <| NormE.to (ii (x19.1.Wait.length : Int)) (fun _ => len_list S_Fetch.av x19.1.Wait) <| ai id <| ai id <| ai rfl <| ai id <| ai id <| ai (fun hg => (and_r hg)) ?_
     refine SeqN.via (St.of [⟨0, ii (imin (imax a0 (0 : Int)) (25 : Int)), none⟩, ⟨5, AV.ptr 0 0, none⟩, ⟨12, ss x9.1, none⟩, ⟨14, ii s11, none⟩, ⟨19, AV.ptr 1 0, none⟩, ⟨179, bb (bif (bif (bif (x19.2.2 != (0 : Int)) then true else ((x19.2.1.length : Int) == (0 : Int))) then true else (x20.Kind != (4 : Int))) then true else ((x19.1.Wait.length : Int) != (imax (IntKind.i64.wrap ((s12.Wait.length : Int) - (1 : Int))) (0 : Int)))), none⟩] [.cells 28 (S_Up.cells s12) [], .cells 28 (S_Up.cells x19.1) []] []) ?_ ?_
     ·exact gT []
     exact W
   ·refine sn <| sj <| bind_elim h fun x21 hx21 h => CallH.data _ false rfl (intarsiaref22_To_ok E s12.Conns ([111] : Bytes) x21 hx21) ?_
    refine SeqN.via (St.of [⟨0, ii (imin (imax a0 (0 : Int)) (25 : Int)), none⟩, ⟨5, AV.ptr 0 0, none⟩, ⟨22, ii x21.1, none⟩, ⟨23, ii x21.2, none⟩] [.cells 28 (S_Up.cells s12) []] []) ?_ ?_
    ·exact gT []
    refine sj <| ai ⟨lb rfl, lb rfl⟩ ?_
    refine xi none (ai rfl ?_)
    refine NormE.to (S_Up.av s12) (fun _ => rfl) <| bind_elim h fun x22 hx22 h => CallH.data _ true rfl (intarsiaref22_All_ok E s12 x22 hx22) <| NormE.to (ii (x22.length : Int)) (fun _ => len_list S_Fetch.av x22) <| ai id <| ai id <| ai (fun hg => (and_r hg)) <| ai id <| ai rfl <| ai id <| ai id <| ai (fun hg => (and_r hg)) ?_
    refine SeqN.via (St.of [⟨4, bb (bif (bif ((x22.length : Int) == (0 : Int)) then (x21.1 == x21.2) else false) then (x21.2 == (imin (imin (imax a0 (0 : Int)) (25 : Int)) (2 : Int))) else false), none⟩] [] []) ?_ ?_
    ·exact gT []
    exact W
instance intarsialaw22_UpstreamCaps_ok_i (E : Pm.Env) [LaidE E] (a0 : Int) (a1 : Bytes) : Ok E (intarsialaw22_UpstreamCaps a0 a1) (fun r => FnR E Tryz.prog 7 [ii a0, ss a1] (bb r) false) := ⟨intarsialaw22_UpstreamCaps_ok E a0 a1⟩
end Go.Proofs.YtommkfooolabhaaGreatDoor
