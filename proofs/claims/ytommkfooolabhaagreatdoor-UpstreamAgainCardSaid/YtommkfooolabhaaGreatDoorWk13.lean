/-
  The functions do what their images say: walks, written by a program of mine (gen.py).
-/
import Derived.Test.YtommkfooolabhaaGreatDoorIw1
import Derived.Test.YtommkfooolabhaaGreatDoorWk12
import Derived.Test.YtommkfooolabhaaGreatDoorPm31
namespace Go.Proofs.YtommkfooolabhaaGreatDoor
open Go Go.Pm
set_option linter.unusedSimpArgs false
open And renaming intro -> ai
open Exists renaming intro -> xi
open Option.some renaming inj -> oi
open _root_.Nat renaming le_of_ble_eq_true -> lb
open Go.Pm.SeqJ renaming go -> sj
open Go.Pm.SeqN renaming go -> sn
set_option maxRecDepth 100000
set_option maxHeartbeats 4000000
set_option linter.unusedVariables false
instance upstream_Gone_ok (E : Pm.Env) [LaidM E] (a0 : S_Up) (a1 : Int) (a2 : Bool) : Ok E (upstream_Gone a0 a1 a2) (fun r => FnR E Tryz.prog 12 [S_Up.av a0, ii a1, bb a2] (AV.tup [S_Up.av r.1, AV.list 13 (r.2.1.map S_Act.av), ii r.2.2]) false) := ⟨fun r h => by
 refine FnR.of_ev (T := T) (rows := [31, 49, 56, 72, 86, 116, 118]) tOk mixed Tryz.func12 rfl (by kernel_rfl) (by kernel_rfl) rfl fun hwf => ?_
 unfold upstream_Gone at h
 refine sj <| ai rfl ?_
 refine xi [] (xi 0 (ai ⟨rfl, rfl⟩ ?_))
 refine ai rfl <| sn <| sj <| ai ⟨lb rfl, lb rfl⟩ ?_
 refine xi none (ai rfl ?_)
 refine NormE.to (S_Up.av a0) (fun _ => rfl) <| bind_elim h fun x1 hx1 h => CallH.data _ false rfl ((upstream_find_ok E a0 a1).1 x1 hx1) <| sn <| sj <| sj <| ai ⟨lb rfl, lb rfl⟩ ?_
 refine xi none (ai rfl ?_)
 refine NormE.to (S_Up.av a0) (fun _ => rfl) <| bind_elim h fun x2 hx2 h => CallH.data _ false rfl ((upstream_Right_ok E a0).1 x2 hx2) <| ai id <| ai (fun hg => (and_r hg)) ?_
 refine SeqN.via (St.of [⟨2, bb a2, none⟩, ⟨3, AV.ptr 0 0, none⟩, ⟨6, AV.ptr 1 0, none⟩, ⟨9, ii x1.1, none⟩, ⟨28, bb (bif (!x2) then true else (!x1.2)), none⟩] [.cells 28 (S_Up.cells a0) [], .cells 28 [ii 0, ii 0, AV.list 29 (([] : List S_Conn).map S_Conn.av), AV.list 7 (([] : List S_Fetch).map S_Fetch.av)] [(2, 0), (3, 1)]] [1, 1]) ?_ ?_
 ·refine Gho.to _ _ _ [0, 1] ?_ ?_ ?_ rfl rfl ?_
  ·exact ⟨⟨rfl, rfl, rfl⟩, ⟨⟨rfl, rfl, rfl⟩, trivial⟩⟩
  ·exact rfl
  ·exact rfl
  ·exact tr3 <| tr3 <| tr3 <| tr3 <| tr3 <| trivial
 refine Br.of h (fun ht h => ?_) fun ht h => ?_
 ·refine sj ?_
  refine xi (some 266305) (ai (okM.mk (show (266305 : Nat) = freeM T _ _ _ from by kernel_rfl)) ?_)
  refine ai ⟨rfl, rfl, rfl, lb rfl⟩ (xi [ii 0, ii 0, AV.list 29 (([] : List S_Conn).map S_Conn.av), AV.list 7 (([] : List S_Fetch).map S_Fetch.av)] (ai (fun _ => rfl) ?_))
  refine xi [(2, 2), (3, 3)] (xi 2 (ai ⟨(by kernel_rfl), rfl⟩ ?_))
  exact W
 ·refine sn <| sj <| ai ⟨lb rfl, lb rfl⟩ ?_
  refine xi none (ai rfl ?_)
  refine NormE.to (S_Up.av a0) (fun _ => rfl) <| FnC.of_ev (T := T) (rows := []) tOk mixed Tryz.func33 rfl (by kernel_rfl) (by kernel_rfl) rfl rfl <| sj <| ai rfl ?_
  refine xi [] (xi 0 (ai ⟨rfl, rfl⟩ ?_))
  refine sn <| sj <| Or.inl <| bind_elim h fun x3 hx3 h => ?_
  have qx3 := chk2_some hx3
  refine CallH.rows _ _ _ _ rfl (slices_Clone_Conn_row E a0.Conns qx3) <| bind_elim h fun x4 hx4 h => ?_
  have qx4 := chk2_some hx4
  refine CallH.rows _ _ _ _ rfl (slices_Clone_Fetch_row E a0.Wait qx4) ?_
  refine ai ⟨rfl, rfl, rfl, lb rfl⟩ (xi [ii a0.Now, ii a0.Next, AV.row 3 0 a0.Conns.length 29, AV.list 7 (a0.Wait.map S_Fetch.av)] (ai (fun _ => rfl) ?_))
  refine ai ⟨rfl, rfl, rfl, lb rfl⟩ (xi [ii a0.Now, ii a0.Next, AV.row 3 0 a0.Conns.length 29, AV.row 4 0 a0.Wait.length 7] (ai (fun _ => rfl) ?_))
  refine ai (by kernel_rfl) <| sn <| sj <| ai ⟨lb rfl, lb rfl⟩ ?_
  refine xi none (ai rfl ?_)
  refine NormE.to (AV.agg [ii a0.Now, ii a0.Next, AV.row 3 0 a0.Conns.length 29, AV.row 4 0 a0.Wait.length 7]) (fun _ => rfl) <| ai ⟨rfl, rfl, lb rfl⟩ ?_
  refine xi (some 16777216) (ai (okM.mk (show (16777216 : Nat) = freeM T _ _ _ from by kernel_rfl)) ?_)
  refine ai rfl ?_
  refine xi [(4, 2)] (xi 1 (ai ⟨(by kernel_rfl), rfl⟩ ?_))
  refine SeqN.via (St.of [⟨2, AV.ptr 5 0, none⟩] [.cells 28 (S_Up.cells a0) [], .cells 28 [ii 0, ii 0, AV.list 29 (([] : List S_Conn).map S_Conn.av), AV.list 7 (([] : List S_Fetch).map S_Fetch.av)] [(2, 0), (3, 1)], .dead, .cells 48 (a0.Conns.flatMap S_Conn.cells) [], .cells 23 (a0.Wait.flatMap S_Fetch.cells) [], .cells 91 [ii a0.Now, ii a0.Next, AV.row 3 0 a0.Conns.length 29, AV.row 4 0 a0.Wait.length 7, AV.list 13 (([] : List S_Act).map S_Act.av)] [(4, 2)]] [1, 1, 1]) ?_ ?_
  ·refine Gho.to _ _ _ [0, 1, 2] ?_ ?_ ?_ rfl rfl ?_
   ·exact ⟨⟨rfl, rfl, rfl⟩, ⟨⟨rfl, rfl, rfl⟩, ⟨trivial, ⟨⟨rfl, rfl, rfl⟩, ⟨⟨rfl, rfl, rfl⟩, ⟨⟨rfl, rfl, rfl⟩, trivial⟩⟩⟩⟩⟩⟩
   ·exact (keepN_c rfl (keepN_c rfl (keepN_d (keepN_c (noB_flat _ (fun _ => rfl) _) (keepN_c (noB_flat _ (fun _ => rfl) _) (keepN_c rfl rfl))))))
   ·exact rfl
   ·exact tr3 <| trivial
  refine sn <| sj <| chk_elim h fun q5 h => ai (fun _ => q5) <| bind_elim h fun x6 hx6 h => ai ⟨lb rfl, flat_fits S_Conn.cells 29 (fun _ => rfl) hx6⟩ ?_
  refine xi none (ai rfl ?_)
  refine NormE.to (S_Conn.av x6) (fun _ => congrArg AV.agg (flat_load S_Conn.cells 29 (fun _ => rfl) hx6)) <| ai rfl ?_
  refine ai ⟨rfl, rfl, rfl, lb rfl⟩ (xi (S_Conn.cells x6) (ai (fun _ => rfl) ?_))
  refine sn <| sj <| bind_elim h fun x7 hx7 h => slices_Delete_Conn_ok (f := S_Conn.av) E rfl rfl hx7 ?_
  refine ai ⟨rfl, rfl, rfl, lb rfl⟩ (xi [ii a0.Now, ii a0.Next, AV.row 3 0 x7.length 29, AV.row 4 0 a0.Wait.length 7, AV.list 13 (([] : List S_Act).map S_Act.av)] (ai (fun _ => rfl) ?_))
  refine SeqN.via (St.of [⟨2, bb a2, none⟩, ⟨6, AV.ptr 1 0, none⟩, ⟨11, AV.ptr 5 0, none⟩, ⟨12, AV.ptr 6 0, none⟩] [.dead, .cells 28 [ii 0, ii 0, AV.list 29 (([] : List S_Conn).map S_Conn.av), AV.list 7 (([] : List S_Fetch).map S_Fetch.av)] [(2, 0), (3, 1)], .dead, .cells 48 (x7.flatMap S_Conn.cells) [], .cells 23 (a0.Wait.flatMap S_Fetch.cells) [], .cells 91 [ii a0.Now, ii a0.Next, AV.row 3 0 x7.length 29, AV.row 4 0 a0.Wait.length 7, AV.list 13 (([] : List S_Act).map S_Act.av)] [(4, 2)], .cells 48 (S_Conn.cells x6) []] [1, 1, 1]) ?_ ?_
  ·refine Gho.to _ _ _ [0, 1, 2] ?_ ?_ ?_ rfl rfl ?_
   ·exact ⟨trivial, ⟨⟨rfl, rfl, rfl⟩, ⟨trivial, ⟨⟨rfl, rfl, rfl⟩, ⟨⟨rfl, rfl, rfl⟩, ⟨⟨rfl, rfl, rfl⟩, ⟨⟨rfl, rfl, rfl⟩, trivial⟩⟩⟩⟩⟩⟩⟩
   ·exact (keepN_d (keepN_c rfl (keepN_d (keepN_c (noB_flat _ (fun _ => rfl) _) (keepN_c (noB_flat _ (fun _ => rfl) _) (keepN_c rfl (keepN_c rfl rfl)))))))
   ·exact rfl
   ·exact tr3 <| tr3 <| tr3 <| tr3 <| trivial
  refine sj <| sj <| ai ⟨lb rfl, lb rfl⟩ ?_
  refine xi none (ai rfl ?_)
  refine NormE.to (S_Conn.av x6) (fun _ => rfl) <| bind_elim h fun x8 hx8 h => CallH.data _ false rfl ((upstream_idle_ok E x6).1 x8 hx8) <| sn ?_
  refine Br.of h (fun ht h => ?_) fun ht h => ?_
  ·refine sj <| FnC.of_ev (T := T) (rows := []) tOk mixed Tryz.func39 rfl (by kernel_rfl) (by kernel_rfl) rfl rfl <| sj <| ai rfl <| sn <| bind_elim h fun j9 hj9 h => ?_
   refine SeqJ.join (St.of [⟨0, AV.ptr 5 0, none⟩, ⟨2, AV.ptr 7 0, none⟩] [.dead, .cells 28 [ii 0, ii 0, AV.list 29 (([] : List S_Conn).map S_Conn.av), AV.list 7 (([] : List S_Fetch).map S_Fetch.av)] [(2, 0), (3, 1)], .dead, .cells 48 (x7.flatMap S_Conn.cells) [], .cells 23 (a0.Wait.flatMap S_Fetch.cells) [], .cells 91 [ii a0.Now, ii a0.Next, AV.row 3 0 x7.length 29, AV.row 4 0 a0.Wait.length 7, AV.list 13 (([] : List S_Act).map S_Act.av)] [(4, 2)], .cells 48 (S_Conn.cells x6) [], .cells 28 [ii 0, ii 0, AV.list 29 (([] : List S_Conn).map S_Conn.av), AV.list 7 (([] : List S_Fetch).map S_Fetch.av)] [(2, 3), (3, 4)]] [1, 1, 1, 1, 1]) ?_ ?_
   ·clear h; have h := hj9; clear hj9
    refine sj <| sn ?_
    refine LoopE.img (fun x : Int => St.of [⟨0, AV.ptr 5 0, none⟩, ⟨2, AV.ptr 7 0, none⟩, ⟨5, ii x, none⟩] [.dead, .cells 28 [ii 0, ii 0, AV.list 29 (([] : List S_Conn).map S_Conn.av), AV.list 7 (([] : List S_Fetch).map S_Fetch.av)] [(2, 0), (3, 1)], .dead, .cells 48 (x7.flatMap S_Conn.cells) [], .cells 23 (a0.Wait.flatMap S_Fetch.cells) [], .cells 91 [ii a0.Now, ii a0.Next, AV.row 3 0 x7.length 29, AV.row 4 0 a0.Wait.length 7, AV.list 13 (([] : List S_Act).map S_Act.av)] [(4, 2)], .cells 48 (S_Conn.cells x6) [], .cells 28 [ii 0, ii 0, AV.list 29 (([] : List S_Conn).map S_Conn.av), AV.list 7 (([] : List S_Fetch).map S_Fetch.av)] [(2, 3), (3, 4)]] [1, 1, 1, 1, 1]) (upstream_Gone_b1 a0) (0 : Int) h ?_ ?_
    ·refine Gho.to _ _ _ [0, 1, 2, 3, 4] ?_ ?_ ?_ rfl rfl ?_
     ·exact ⟨trivial, ⟨⟨rfl, rfl, rfl⟩, ⟨trivial, ⟨⟨rfl, rfl, rfl⟩, ⟨⟨rfl, rfl, rfl⟩, ⟨⟨rfl, rfl, rfl⟩, ⟨⟨rfl, rfl, rfl⟩, ⟨⟨rfl, rfl, rfl⟩, trivial⟩⟩⟩⟩⟩⟩⟩⟩
     ·exact (keepN_d (keepN_c rfl (keepN_d (keepN_c (noB_flat _ (fun _ => rfl) _) (keepN_c (noB_flat _ (fun _ => rfl) _) (keepN_c rfl (keepN_c rfl (keepN_c rfl rfl))))))))
     ·exact rfl
     ·exact tr3 <| tr3 <| tr3 <| trivial
    intro n1 x y1 h hl1 hr1
    revert h; revert x; intro s10 h
    unfold upstream_Gone_b1 at h
    refine sj <| sj <| NormE.same <| sn ?_
    refine Br.of h (fun ht h => ?_) fun ht h => ?_
    ·exact W
    ·replace h := oi h
     replace h := hr1 _ h.symm
     subst h
     refine Gho.to _ _ _ [0, 1, 2, 3, 4] ?_ ?_ ?_ rfl rfl ?_
     ·exact ⟨trivial, ⟨⟨rfl, rfl, rfl⟩, ⟨trivial, ⟨⟨rfl, rfl, rfl⟩, ⟨⟨rfl, rfl, rfl⟩, ⟨⟨rfl, rfl, rfl⟩, ⟨⟨rfl, rfl, rfl⟩, ⟨⟨rfl, rfl, rfl⟩, trivial⟩⟩⟩⟩⟩⟩⟩⟩
     ·exact (keepN_d (keepN_c rfl (keepN_d (keepN_c (noB_flat _ (fun _ => rfl) _) (keepN_c (noB_flat _ (fun _ => rfl) _) (keepN_c rfl (keepN_c rfl (keepN_c rfl rfl))))))))
     ·exact rfl
     ·exact tr3 <| tr3 <| trivial
   ·clear hj9
    refine sj <| Or.inl <| ai ⟨lb rfl, lb rfl⟩ ?_
    refine xi (some 0) (ai (show aggT [(4, 2)] 0 4 = some 0 from by kernel_rfl) ?_)
    refine NormE.to (AV.agg [ii a0.Now, ii a0.Next, AV.row 3 0 x7.length 29, AV.row 4 0 a0.Wait.length 7]) (fun _ => rfl) ?_
    refine ai ⟨rfl, rfl, rfl, lb rfl⟩ (xi [ii a0.Now, ii a0.Next, AV.row 3 0 x7.length 29, AV.row 4 0 a0.Wait.length 7] (ai (fun _ => rfl) ?_))
    refine ai (by kernel_rfl) <| sn ?_
    refine ai ⟨lb rfl, lb rfl⟩ (xi (AV.agg [ii a0.Now, ii a0.Next, AV.row 3 0 x7.length 29, AV.row 4 0 a0.Wait.length 7]) (ai rfl ?_))
    refine ai ⟨rfl, rfl, rfl, lb rfl⟩ (xi [ii a0.Now, ii a0.Next, AV.row 3 0 x7.length 29, AV.row 4 0 a0.Wait.length 7] (ai (fun _ => rfl) ?_))
    refine sn ?_
    replace h := oi h
    refine RetE.frz ?_
    refine ai ⟨lb rfl, lb rfl⟩ (xi (AV.agg [ii a0.Now, ii a0.Next, AV.row 3 0 x7.length 29, AV.row 4 0 a0.Wait.length 7]) (ai rfl ?_))
    exact xi (AV.tup [AV.agg [ii a0.Now, ii a0.Next, AV.list 29 (x7.map S_Conn.av), AV.list 7 (a0.Wait.map S_Fetch.av)], AV.list 13 (([] : List S_Act).map S_Act.av), ii 0]) (ai (Frz.tupL ⟨Frz.aggL ⟨Frz.pure _ (AV.puD_ok rfl), Frz.pure _ (AV.puD_ok rfl), Frz.rowsW S_Conn.av 29 (lb rfl) (fun _ => rfl) (fun _ => rfl) rfl (flat_from _ _) rfl, Frz.rowsW S_Fetch.av 7 (lb rfl) (fun _ => rfl) (fun _ => rfl) rfl (flat_from _ _) rfl, trivial⟩, Frz.pure _ (AV.puD_ok rfl), Frz.pure _ (AV.puD_ok rfl), trivial⟩) (ai (congrArg (fun r : (S_Up × (List S_Act) × Int) => AV.tup [S_Up.av r.1, AV.list 13 (r.2.1.map S_Act.av), ii r.2.2]) h) rfl))
  ·refine sn <| sj <| ai ⟨lb rfl, lb rfl⟩ ?_
   refine xi none (ai rfl ?_)
   refine NormE.to (S_Reader.av x6.Reader) (fun _ => rfl) <| bind_elim h fun x11 hx11 h => CallH.data _ false rfl ((wire_Close_ok E x6.Reader).1 x11 hx11) <| sn <| sj <| ai ⟨lb rfl, lb rfl⟩ ?_
   refine xi none (ai rfl ?_)
   refine NormE.to (S_Fetch.av x6.Fetch) (fun _ => rfl) <| ai rfl ?_
   refine ai ⟨rfl, rfl, rfl, lb rfl⟩ (xi (S_Fetch.cells x6.Fetch) (ai (fun _ => rfl) ?_))
   refine sn <| sj <| sj <| ai id <| NormE.to (ii (x11.1.length : Int)) (fun _ => len_list S_Message.av x11.1) <| ai id <| ai (fun hg => (and_r hg)) ?_
   refine SeqN.via (St.of [⟨6, AV.ptr 1 0, none⟩, ⟨11, AV.ptr 5 0, none⟩, ⟨12, AV.ptr 6 0, none⟩, ⟨13, AV.list 7 (x11.1.map S_Message.av), none⟩, ⟨15, AV.ptr 7 0, none⟩, ⟨73, bb (bif a2 then (decide ((x11.1.length : Int) > (0 : Int))) else false), none⟩] [.dead, .cells 28 [ii 0, ii 0, AV.list 29 (([] : List S_Conn).map S_Conn.av), AV.list 7 (([] : List S_Fetch).map S_Fetch.av)] [(2, 0), (3, 1)], .dead, .cells 48 (x7.flatMap S_Conn.cells) [], .cells 23 (a0.Wait.flatMap S_Fetch.cells) [], .cells 91 [ii a0.Now, ii a0.Next, AV.row 3 0 x7.length 29, AV.row 4 0 a0.Wait.length 7, AV.list 13 (([] : List S_Act).map S_Act.av)] [(4, 2)], .cells 48 (S_Conn.cells x6) [], .cells 23 (S_Fetch.cells x6.Fetch) []] [1, 1, 1]) ?_ ?_
   ·refine Gho.to _ _ _ [0, 1, 2] ?_ ?_ ?_ rfl rfl ?_
    ·exact ⟨trivial, ⟨⟨rfl, rfl, rfl⟩, ⟨trivial, ⟨⟨rfl, rfl, rfl⟩, ⟨⟨rfl, rfl, rfl⟩, ⟨⟨rfl, rfl, rfl⟩, ⟨⟨rfl, rfl, rfl⟩, ⟨⟨rfl, rfl, rfl⟩, trivial⟩⟩⟩⟩⟩⟩⟩⟩
    ·exact (keepN_d (keepN_c rfl (keepN_d (keepN_c (noB_flat _ (fun _ => rfl) _) (keepN_c (noB_flat _ (fun _ => rfl) _) (keepN_c rfl (keepN_c rfl (keepN_c rfl rfl))))))))
    ·exact rfl
    ·exact tr3 <| tr3 <| tr3 <| tr3 <| tr3 <| tr3 <| trivial
   refine Br.of h (fun ht h => ?_) fun ht h => ?_
   ·refine bind_elim h fun x12 hx12 h => ?_
    refine ai rfl (xi (S_Message.av x12) (ai (fun hg => idx_map _ hx12) ?_))
    refine ai (lb rfl) <| NormE.to (S_Message.av x12) (fun _ => rfl) <| ai ⟨by kernel_rfl, by kernel_rfl⟩ <| FnC.of_ev (T := T) (rows := [13]) tOk mixed Tryz.func35 rfl (by kernel_rfl) (by kernel_rfl) rfl rfl <| sj <| ai rfl ?_
    refine xi [] (xi 0 (ai ⟨rfl, rfl⟩ ?_))
    refine sn <| ai ⟨lb rfl, lb rfl⟩ ?_
    refine xi none (ai rfl ?_)
    refine NormE.to (S_Message.av x12) (fun _ => rfl) <| ai ⟨rfl, rfl, lb rfl⟩ <| ai ⟨rfl, rfl, lb rfl⟩ <| ai ⟨rfl, rfl, lb rfl⟩ <| ai ⟨rfl, rfl, lb rfl⟩ ?_
    refine xi none (ai trivial ?_)
    refine FnC.of_ev (T := T) (rows := []) tOk mixed Tryz.func78 rfl (by kernel_rfl) (by kernel_rfl) rfl rfl <| sj <| ai rfl ?_
    refine xi [] (xi 0 (ai ⟨rfl, rfl⟩ ?_))
    refine sn <| Or.inl <| ai ⟨lb rfl, lb rfl⟩ ?_
    refine xi none (ai rfl ?_)
    refine NormE.to (AV.agg [ii 4, ii 0, ss [], ss [], ii x6.Fetch.Id, ss x12.Start.Method, ss x12.Start.Target, ii x12.Start.Code, ss x12.Start.Reason, ii x12.Start.Minor, AV.list 2 (x12.Fields.map S_Field.av), ss x12.Body, ii 0]) (fun _ => rfl) <| ai ⟨rfl, rfl, rfl, rfl⟩ <| ai ⟨rfl, rfl, rfl⟩ <| NormE.to (AV.list 13 (([(S_Act.mk (4 : Int) (0 : Int) ([] : Bytes) ([] : Bytes) x6.Fetch.Id x12 (0 : Int))] : List S_Act).map S_Act.av)) (fun _ => rfl) <| bind_elim h fun x13 hx13 h => ?_
    have qx13 := (app_some hx13).1
    have hx13e := (app_some hx13).2
    refine ai ⟨rfl, rfl, rfl⟩ <| ai rfl <| ai (app_cond S_Act.av qx13) <| NormE.to (AV.list 13 (x13.map S_Act.av)) (fun _ => (app_list 13 S_Act.av _ _).trans (congrArg (fun y => AV.list 13 (List.map S_Act.av y)) hx13e.symm)) ?_
    refine ai ⟨rfl, rfl, rfl, lb rfl⟩ (xi [ii a0.Now, ii a0.Next, AV.row 3 0 x7.length 29, AV.row 4 0 a0.Wait.length 7, AV.list 13 (x13.map S_Act.av)] (ai (fun _ => rfl) ?_))
    refine ai (by kernel_rfl) <| sn <| sj <| FnC.of_ev (T := T) (rows := []) tOk mixed Tryz.func39 rfl (by kernel_rfl) (by kernel_rfl) rfl rfl <| sj <| ai rfl <| sn <| bind_elim h fun j14 hj14 h => ?_
    refine SeqJ.join (St.of [⟨0, AV.ptr 5 0, none⟩, ⟨2, AV.ptr 10 0, none⟩] [.dead, .cells 28 [ii 0, ii 0, AV.list 29 (([] : List S_Conn).map S_Conn.av), AV.list 7 (([] : List S_Fetch).map S_Fetch.av)] [(2, 0), (3, 1)], .dead, .cells 48 (x7.flatMap S_Conn.cells) [], .cells 23 (a0.Wait.flatMap S_Fetch.cells) [], .cells 91 [ii a0.Now, ii a0.Next, AV.row 3 0 x7.length 29, AV.row 4 0 a0.Wait.length 7, AV.list 13 (x13.map S_Act.av)] [(4, 4)], .cells 48 (S_Conn.cells x6) [], .cells 23 (S_Fetch.cells x6.Fetch) [], .cells 38 (S_Message.cells x12) [], .cells 40 [ii 4, ii 0, ss [], ss [], ii x6.Fetch.Id, ss x12.Start.Method, ss x12.Start.Target, ii x12.Start.Code, ss x12.Start.Reason, ii x12.Start.Minor, AV.list 2 (x12.Fields.map S_Field.av), ss x12.Body, ii 0] [], .cells 28 [ii 0, ii 0, AV.list 29 (([] : List S_Conn).map S_Conn.av), AV.list 7 (([] : List S_Fetch).map S_Fetch.av)] [(2, 5), (3, 6)]] [1, 1, 0, 2, 1, 1, 1]) ?_ ?_
    ·clear h; have h := hj14; clear hj14
     refine sj <| sn ?_
     refine LoopE.img (fun x : Int => St.of [⟨0, AV.ptr 5 0, none⟩, ⟨2, AV.ptr 10 0, none⟩, ⟨5, ii x, none⟩] [.dead, .cells 28 [ii 0, ii 0, AV.list 29 (([] : List S_Conn).map S_Conn.av), AV.list 7 (([] : List S_Fetch).map S_Fetch.av)] [(2, 0), (3, 1)], .dead, .cells 48 (x7.flatMap S_Conn.cells) [], .cells 23 (a0.Wait.flatMap S_Fetch.cells) [], .cells 91 [ii a0.Now, ii a0.Next, AV.row 3 0 x7.length 29, AV.row 4 0 a0.Wait.length 7, AV.list 13 (x13.map S_Act.av)] [(4, 4)], .cells 48 (S_Conn.cells x6) [], .cells 23 (S_Fetch.cells x6.Fetch) [], .cells 38 (S_Message.cells x12) [], .cells 40 [ii 4, ii 0, ss [], ss [], ii x6.Fetch.Id, ss x12.Start.Method, ss x12.Start.Target, ii x12.Start.Code, ss x12.Start.Reason, ii x12.Start.Minor, AV.list 2 (x12.Fields.map S_Field.av), ss x12.Body, ii 0] [], .cells 28 [ii 0, ii 0, AV.list 29 (([] : List S_Conn).map S_Conn.av), AV.list 7 (([] : List S_Fetch).map S_Fetch.av)] [(2, 5), (3, 6)]] [1, 1, 0, 2, 1, 1, 1]) (upstream_Gone_b2 a0) (0 : Int) h ?_ ?_
     ·refine Gho.to _ _ _ [0, 1, 2, 3, 4, 5, 6] ?_ ?_ ?_ rfl rfl ?_
      ·exact ⟨trivial, ⟨⟨rfl, rfl, rfl⟩, ⟨trivial, ⟨⟨rfl, rfl, rfl⟩, ⟨⟨rfl, rfl, rfl⟩, ⟨⟨rfl, rfl, rfl⟩, ⟨⟨rfl, rfl, rfl⟩, ⟨⟨rfl, rfl, rfl⟩, ⟨⟨rfl, rfl, rfl⟩, ⟨⟨rfl, rfl, rfl⟩, ⟨⟨rfl, rfl, rfl⟩, trivial⟩⟩⟩⟩⟩⟩⟩⟩⟩⟩⟩
      ·exact (keepN_d (keepN_c rfl (keepN_d (keepN_c (noB_flat _ (fun _ => rfl) _) (keepN_c (noB_flat _ (fun _ => rfl) _) (keepN_c rfl (keepN_c rfl (keepN_c rfl (keepN_c rfl (keepN_c rfl (keepN_c rfl rfl)))))))))))
      ·exact rfl
      ·exact tr3 <| tr3 <| tr3 <| trivial
     intro n2 x y2 h hl2 hr2
     revert h; revert x; intro s15 h
     unfold upstream_Gone_b2 at h
     refine sj <| sj <| NormE.same <| sn ?_
     refine Br.of h (fun ht h => ?_) fun ht h => ?_
     ·exact W
     ·replace h := oi h
      replace h := hr2 _ h.symm
      subst h
      refine Gho.to _ _ _ [0, 1, 2, 3, 4, 5, 6] ?_ ?_ ?_ rfl rfl ?_
      ·exact ⟨trivial, ⟨⟨rfl, rfl, rfl⟩, ⟨trivial, ⟨⟨rfl, rfl, rfl⟩, ⟨⟨rfl, rfl, rfl⟩, ⟨⟨rfl, rfl, rfl⟩, ⟨⟨rfl, rfl, rfl⟩, ⟨⟨rfl, rfl, rfl⟩, ⟨⟨rfl, rfl, rfl⟩, ⟨⟨rfl, rfl, rfl⟩, ⟨⟨rfl, rfl, rfl⟩, trivial⟩⟩⟩⟩⟩⟩⟩⟩⟩⟩⟩
      ·exact (keepN_d (keepN_c rfl (keepN_d (keepN_c (noB_flat _ (fun _ => rfl) _) (keepN_c (noB_flat _ (fun _ => rfl) _) (keepN_c rfl (keepN_c rfl (keepN_c rfl (keepN_c rfl (keepN_c rfl (keepN_c rfl rfl)))))))))))
      ·exact rfl
      ·exact tr3 <| tr3 <| trivial
    ·clear hj14
     refine sj <| Or.inl <| ai ⟨lb rfl, lb rfl⟩ ?_
     refine xi (some 0) (ai (show aggT [(4, 4)] 0 4 = some 0 from by kernel_rfl) ?_)
     refine NormE.to (AV.agg [ii a0.Now, ii a0.Next, AV.row 3 0 x7.length 29, AV.row 4 0 a0.Wait.length 7]) (fun _ => rfl) ?_
     refine ai ⟨rfl, rfl, rfl, lb rfl⟩ (xi [ii a0.Now, ii a0.Next, AV.row 3 0 x7.length 29, AV.row 4 0 a0.Wait.length 7] (ai (fun _ => rfl) ?_))
     refine ai (by kernel_rfl) <| sn ?_
     refine ai ⟨lb rfl, lb rfl⟩ (xi (AV.agg [ii a0.Now, ii a0.Next, AV.row 3 0 x7.length 29, AV.row 4 0 a0.Wait.length 7]) (ai rfl ?_))
     refine ai ⟨rfl, rfl, rfl, lb rfl⟩ (xi [ii a0.Now, ii a0.Next, AV.row 3 0 x7.length 29, AV.row 4 0 a0.Wait.length 7] (ai (fun _ => rfl) ?_))
     refine sn ?_
     replace h := oi h
     refine RetE.frz ?_
     refine ai ⟨lb rfl, lb rfl⟩ (xi (AV.agg [ii a0.Now, ii a0.Next, AV.row 3 0 x7.length 29, AV.row 4 0 a0.Wait.length 7]) (ai rfl ?_))
     exact xi (AV.tup [AV.agg [ii a0.Now, ii a0.Next, AV.list 29 (x7.map S_Conn.av), AV.list 7 (a0.Wait.map S_Fetch.av)], AV.list 13 (x13.map S_Act.av), ii 0]) (ai (Frz.tupL ⟨Frz.aggL ⟨Frz.pure _ (AV.puD_ok rfl), Frz.pure _ (AV.puD_ok rfl), Frz.rowsW S_Conn.av 29 (lb rfl) (fun _ => rfl) (fun _ => rfl) rfl (flat_from _ _) rfl, Frz.rowsW S_Fetch.av 7 (lb rfl) (fun _ => rfl) (fun _ => rfl) rfl (flat_from _ _) rfl, trivial⟩, Frz.pure _ (AV.puD_ok rfl), Frz.pure _ (AV.puD_ok rfl), trivial⟩) (ai (congrArg (fun r : (S_Up × (List S_Act) × Int) => AV.tup [S_Up.av r.1, AV.list 13 (r.2.1.map S_Act.av), ii r.2.2]) h) rfl))
   ·refine sj <| ai id <| ai id <| ai (fun hg => (and_r hg)) <| ai id <| ai id <| ai (fun hg => (and_r hg)) <| ai id <| ai id <| ai (fun hg => (and_r hg)) <| ai id <| ai id <| ai id <| ai id <| ai id <| ai (fun hg => (and_r hg)) ?_
    refine SeqN.via (St.of [⟨6, AV.ptr 1 0, none⟩, ⟨11, AV.ptr 5 0, none⟩, ⟨15, AV.ptr 7 0, none⟩, ⟨87, bb (bif (bif (bif (bif x6.Fetch.Again then (!x6.Fetch.Tried) else false) then (decide (x6.Used > (0 : Int))) else false) then (!x6.Got) else false) then (decide (a0.Next < (1000000000 : Int))) else false), none⟩] [.dead, .cells 28 [ii 0, ii 0, AV.list 29 (([] : List S_Conn).map S_Conn.av), AV.list 7 (([] : List S_Fetch).map S_Fetch.av)] [(2, 0), (3, 1)], .dead, .cells 48 (x7.flatMap S_Conn.cells) [], .cells 23 (a0.Wait.flatMap S_Fetch.cells) [], .cells 91 [ii a0.Now, ii a0.Next, AV.row 3 0 x7.length 29, AV.row 4 0 a0.Wait.length 7, AV.list 13 (([] : List S_Act).map S_Act.av)] [(4, 2)], .dead, .cells 23 (S_Fetch.cells x6.Fetch) []] [1, 1, 1]) ?_ ?_
    ·refine Gho.to _ _ _ [0, 1, 2] ?_ ?_ ?_ rfl rfl ?_
     ·exact ⟨trivial, ⟨⟨rfl, rfl, rfl⟩, ⟨trivial, ⟨⟨rfl, rfl, rfl⟩, ⟨⟨rfl, rfl, rfl⟩, ⟨⟨rfl, rfl, rfl⟩, ⟨trivial, ⟨⟨rfl, rfl, rfl⟩, trivial⟩⟩⟩⟩⟩⟩⟩⟩
     ·exact (keepN_d (keepN_c rfl (keepN_d (keepN_c (noB_flat _ (fun _ => rfl) _) (keepN_c (noB_flat _ (fun _ => rfl) _) (keepN_c rfl (keepN_d (keepN_c rfl rfl))))))))
     ·exact rfl
     ·exact tr3 <| tr3 <| tr3 <| tr3 <| trivial
    refine Br.of h (fun ht h => ?_) fun ht h => ?_
    ·refine sj ?_
     refine ai ⟨rfl, rfl, rfl, lb rfl⟩ (xi [ii x6.Fetch.Id, ss x6.Fetch.Origin, ss x6.Fetch.Bytes, ss x6.Fetch.Method, bb x6.Fetch.Again, ii x6.Fetch.Due, bb true] (ai (fun _ => rfl) ?_))
     refine sn <| ai ⟨lb rfl, lb rfl⟩ ?_
     refine xi none (ai rfl ?_)
     refine NormE.to (AV.agg [ii x6.Fetch.Id, ss x6.Fetch.Origin, ss x6.Fetch.Bytes, ss x6.Fetch.Method, bb x6.Fetch.Again, ii x6.Fetch.Due, bb true]) (fun _ => rfl) <| FnC.of_ev (T := T) (rows := [28, 41, 51]) tOk mixed Tryz.func44 rfl (by kernel_rfl) (by kernel_rfl) rfl rfl <| sj <| ai rfl ?_
     refine xi [] (xi 0 (ai ⟨rfl, rfl⟩ ?_))
     refine sn <| sj ?_
     refine ai ⟨rfl, rfl, rfl, lb rfl⟩ (xi [ii a0.Now, ii (IntKind.i64.wrap (a0.Next + (1 : Int))), AV.row 3 0 x7.length 29, AV.row 4 0 a0.Wait.length 7, AV.list 13 (([] : List S_Act).map S_Act.av)] (ai (fun _ => rfl) ?_))
     refine sn <| sj <| Or.inl <| ai ⟨rfl, rfl, lb rfl⟩ <| ai ⟨rfl, rfl, lb rfl⟩ ?_
     refine xi (some 380083219460785927172209084114660015778457123557376) (ai (okM.mk (show (380083219460785927172209084114660015778457123557376 : Nat) = freeM T _ _ _ from by kernel_rfl)) ?_)
     refine ai ⟨rfl, rfl, rfl, rfl⟩ <| ai ⟨rfl, rfl, rfl⟩ <| NormE.to (AV.list 29 (([(S_Conn.mk (IntKind.i64.wrap (a0.Next + (1 : Int))) x6.Fetch.Origin (S_Fetch.mk (0 : Int) ([] : Bytes) ([] : Bytes) ([] : Bytes) false (0 : Int) false) (S_Reader.mk false ([] : Bytes) ([] : Bytes) false (S_Message.mk (S_Start.mk ([] : Bytes) ([] : Bytes) (0 : Int) ([] : Bytes) (0 : Int)) ([] : List S_Field) ([] : Bytes)) (S_Body.mk (0 : Int) (0 : Int)) (S_Chunked.mk (0 : Int) ([] : Bytes) (0 : Int) (0 : Int)) (0 : Int)) false (0 : Int))] : List S_Conn).map S_Conn.av)) (fun _ => rfl) <| bind_elim h fun x16 hx16 h => ?_
     have qx16 := (app_some hx16).1
     have hx16e := (app_some hx16).2
     refine ai ⟨rfl, rfl, rfl, grow_length S_Conn.cells 29 (fun _ => rfl) rfl, rfl⟩ <| ai rfl <| ai (grow_cond rfl qx16) ?_
     refine xi (x16.flatMap S_Conn.cells) (ai (grow_cells (f := S_Conn.av) hx16e) ?_)
     refine NormE.to (AV.row 9 0 x16.length 29) (fun _ => grow_len _ _ rfl hx16e) ?_
     refine ai ⟨rfl, rfl, rfl, lb rfl⟩ (xi [ii a0.Now, ii (IntKind.i64.wrap (a0.Next + (1 : Int))), AV.row 9 0 x16.length 29, AV.row 4 0 a0.Wait.length 7, AV.list 13 (([] : List S_Act).map S_Act.av)] (ai (fun _ => rfl) ?_))
     refine ai (by kernel_rfl) ?_
     refine SeqN.via (St.of [⟨0, AV.ptr 5 0, none⟩, ⟨3, AV.ptr 8 0, none⟩] [.dead, .cells 28 [ii 0, ii 0, AV.list 29 (([] : List S_Conn).map S_Conn.av), AV.list 7 (([] : List S_Fetch).map S_Fetch.av)] [(2, 0), (3, 1)], .dead, .dead, .cells 23 (a0.Wait.flatMap S_Fetch.cells) [], .cells 91 [ii a0.Now, ii (IntKind.i64.wrap (a0.Next + (1 : Int))), AV.row 9 0 x16.length 29, AV.row 4 0 a0.Wait.length 7, AV.list 13 (([] : List S_Act).map S_Act.av)] [(4, 2)], .dead, .cells 23 [ii x6.Fetch.Id, ss x6.Fetch.Origin, ss x6.Fetch.Bytes, ss x6.Fetch.Method, bb x6.Fetch.Again, ii x6.Fetch.Due, bb true] [], .cells 23 [ii x6.Fetch.Id, ss x6.Fetch.Origin, ss x6.Fetch.Bytes, ss x6.Fetch.Method, bb x6.Fetch.Again, ii x6.Fetch.Due, bb true] [], .cells 48 (x16.flatMap S_Conn.cells) []] [1, 1, 1]) ?_ ?_
     ·refine Gho.to _ _ _ [0, 1, 2] ?_ ?_ ?_ rfl rfl ?_
      ·exact ⟨trivial, ⟨⟨rfl, rfl, rfl⟩, ⟨trivial, ⟨trivial, ⟨⟨rfl, rfl, rfl⟩, ⟨⟨rfl, rfl, rfl⟩, ⟨trivial, ⟨⟨rfl, rfl, rfl⟩, ⟨⟨rfl, rfl, rfl⟩, ⟨⟨rfl, rfl, rfl⟩, trivial⟩⟩⟩⟩⟩⟩⟩⟩⟩⟩
      ·exact (keepN_d (keepN_c rfl (keepN_d (keepN_d (keepN_c (noB_flat _ (fun _ => rfl) _) (keepN_c rfl (keepN_d (keepN_c rfl (keepN_c rfl (keepN_c (noB_flat _ (fun _ => rfl) _) rfl))))))))))
      ·exact rfl
      ·exact tr3 <| tr3 <| trivial
     refine sj <| ai ⟨rfl, rfl, lb rfl⟩ <| ai ⟨rfl, rfl, lb rfl⟩ <| ai ⟨rfl, rfl, lb rfl⟩ ?_
     refine xi (some 4797324681010433228800) (ai (okM.mk (show (4797324681010433228800 : Nat) = freeM T _ _ _ from by kernel_rfl)) ?_)
     refine ai ⟨by kernel_rfl, by kernel_rfl⟩ <| FnC.of_ev (T := T) (rows := []) tOk mixed Tryz.func78 rfl (by kernel_rfl) (by kernel_rfl) rfl rfl <| sj <| ai rfl ?_
     refine xi [(10, 3)] (xi 1 (ai ⟨(by kernel_rfl), rfl⟩ ?_))
     refine sn <| Or.inl <| ai ⟨lb rfl, lb rfl⟩ ?_
     refine xi (some 5764607523034234880) (ai (show aggT [(10, 3)] 0 13 = some 5764607523034234880 from by kernel_rfl) ?_)
     refine NormE.to (AV.agg [ii 1, ii (IntKind.i64.wrap (a0.Next + (1 : Int))), ss x6.Fetch.Origin, ss [], ii 0, ss [], ss [], ii 0, ss [], ii 0, AV.list 2 (([] : List S_Field).map S_Field.av), ss [], ii 0]) (fun _ => rfl) <| ai ⟨rfl, rfl, rfl, rfl⟩ <| ai ⟨rfl, rfl, rfl⟩ <| NormE.to (AV.list 13 (([(S_Act.mk (1 : Int) (IntKind.i64.wrap (a0.Next + (1 : Int))) x6.Fetch.Origin ([] : Bytes) (0 : Int) (S_Message.mk (S_Start.mk ([] : Bytes) ([] : Bytes) (0 : Int) ([] : Bytes) (0 : Int)) ([] : List S_Field) ([] : Bytes)) (0 : Int))] : List S_Act).map S_Act.av)) (fun _ => rfl) <| bind_elim h fun x17 hx17 h => ?_
     have qx17 := (app_some hx17).1
     have hx17e := (app_some hx17).2
     refine ai ⟨rfl, rfl, rfl⟩ <| ai rfl <| ai (app_cond S_Act.av qx17) <| NormE.to (AV.list 13 (x17.map S_Act.av)) (fun _ => (app_list 13 S_Act.av _ _).trans (congrArg (fun y => AV.list 13 (List.map S_Act.av y)) hx17e.symm)) ?_
     refine ai ⟨rfl, rfl, rfl, lb rfl⟩ (xi [ii a0.Now, ii (IntKind.i64.wrap (a0.Next + (1 : Int))), AV.row 9 0 x16.length 29, AV.row 4 0 a0.Wait.length 7, AV.list 13 (x17.map S_Act.av)] (ai (fun _ => rfl) ?_))
     refine ai (by kernel_rfl) <| sn <| NormE.same <| ai ⟨lb rfl, lb rfl⟩ ?_
     refine xi none (ai rfl ?_)
     refine NormE.to (AV.agg [ii x6.Fetch.Id, ss x6.Fetch.Origin, ss x6.Fetch.Bytes, ss x6.Fetch.Method, bb x6.Fetch.Again, ii x6.Fetch.Due, bb true]) (fun _ => rfl) <| ai ⟨by kernel_rfl, by kernel_rfl⟩ <| FnC.of_ev (T := T) (rows := [35]) tOk mixed Tryz.func76 rfl (by kernel_rfl) (by kernel_rfl) rfl rfl <| sj <| ai rfl ?_
     refine xi [] (xi 0 (ai ⟨rfl, rfl⟩ ?_))
     refine sn <| sj <| chk_elim h fun q18 h => ai (fun _ => q18) <| sn <| sj <| Or.inl <| ai ⟨lb rfl, lb rfl⟩ ?_
     refine xi none (ai rfl ?_)
     refine NormE.to (AV.agg [ii x6.Fetch.Id, ss x6.Fetch.Origin, ss x6.Fetch.Bytes, ss x6.Fetch.Method, bb x6.Fetch.Again, ii x6.Fetch.Due, bb true]) (fun _ => rfl) <| bind_elim h fun x19 hx19 h => CallH.data _ false rfl ((wire_New_ok E false x6.Fetch.Method).1 x19 hx19) <| bind_elim h fun x20 hx20 h => ?_
     refine ai ⟨rfl, rfl, rfl, flat_lenF S_Conn.cells 29 (fun _ => rfl) hx20 (o := 2) (lb rfl)⟩ (xi ((x16.set (IntKind.i64.wrap ((x16.length : Int) - (1 : Int))).toNat (S_Conn.mk x20.Id x20.Origin (S_Fetch.mk x6.Fetch.Id x6.Fetch.Origin x6.Fetch.Bytes x6.Fetch.Method x6.Fetch.Again x6.Fetch.Due true) x20.Reader x20.Got x20.Used)).flatMap S_Conn.cells) (ai (fun _ => flat_storeF S_Conn.cells 29 (fun _ => rfl) hx20 (o := 2) (lb rfl) rfl) ?_))
     refine bind_elim h fun x21 hx21 h => ?_
     refine ai ⟨rfl, rfl, rfl, flat_lenF S_Conn.cells 29 (fun _ => rfl) hx21 (o := 9) (lb rfl)⟩ (xi (((x16.set (IntKind.i64.wrap ((x16.length : Int) - (1 : Int))).toNat (S_Conn.mk x20.Id x20.Origin (S_Fetch.mk x6.Fetch.Id x6.Fetch.Origin x6.Fetch.Bytes x6.Fetch.Method x6.Fetch.Again x6.Fetch.Due true) x20.Reader x20.Got x20.Used)).set (IntKind.i64.wrap ((x16.length : Int) - (1 : Int))).toNat (S_Conn.mk x21.Id x21.Origin x21.Fetch x19 x21.Got x21.Used)).flatMap S_Conn.cells) (ai (fun _ => flat_storeF S_Conn.cells 29 (fun _ => rfl) hx21 (o := 9) (lb rfl) rfl) ?_))
     refine bind_elim h fun x22 hx22 h => ?_
     refine ai ⟨rfl, rfl, rfl, flat_lenF S_Conn.cells 29 (fun _ => rfl) hx22 (o := 27) (lb rfl)⟩ (xi ((((x16.set (IntKind.i64.wrap ((x16.length : Int) - (1 : Int))).toNat (S_Conn.mk x20.Id x20.Origin (S_Fetch.mk x6.Fetch.Id x6.Fetch.Origin x6.Fetch.Bytes x6.Fetch.Method x6.Fetch.Again x6.Fetch.Due true) x20.Reader x20.Got x20.Used)).set (IntKind.i64.wrap ((x16.length : Int) - (1 : Int))).toNat (S_Conn.mk x21.Id x21.Origin x21.Fetch x19 x21.Got x21.Used)).set (IntKind.i64.wrap ((x16.length : Int) - (1 : Int))).toNat (S_Conn.mk x22.Id x22.Origin x22.Fetch x22.Reader false x22.Used)).flatMap S_Conn.cells) (ai (fun _ => flat_storeF S_Conn.cells 29 (fun _ => rfl) hx22 (o := 27) (lb rfl) rfl) ?_))
     refine ai (by kernel_rfl) ?_
     refine SeqN.via (St.of [⟨0, AV.ptr 5 0, none⟩, ⟨5, AV.ptr 11 0, none⟩, ⟨6, AV.ptr 9 (0 + (IntKind.i64.wrap ((x16.length : Int) - (1 : Int))).toNat * 29), none⟩] [.dead, .cells 28 [ii 0, ii 0, AV.list 29 (([] : List S_Conn).map S_Conn.av), AV.list 7 (([] : List S_Fetch).map S_Fetch.av)] [(2, 0), (3, 1)], .dead, .dead, .cells 23 (a0.Wait.flatMap S_Fetch.cells) [], .cells 91 [ii a0.Now, ii (IntKind.i64.wrap (a0.Next + (1 : Int))), AV.row 9 0 x16.length 29, AV.row 4 0 a0.Wait.length 7, AV.list 13 (x17.map S_Act.av)] [(4, 5)], .dead, .cells 23 [ii x6.Fetch.Id, ss x6.Fetch.Origin, ss x6.Fetch.Bytes, ss x6.Fetch.Method, bb x6.Fetch.Again, ii x6.Fetch.Due, bb true] [], .cells 23 [ii x6.Fetch.Id, ss x6.Fetch.Origin, ss x6.Fetch.Bytes, ss x6.Fetch.Method, bb x6.Fetch.Again, ii x6.Fetch.Due, bb true] [], .cells 48 ((((x16.set (IntKind.i64.wrap ((x16.length : Int) - (1 : Int))).toNat (S_Conn.mk x20.Id x20.Origin (S_Fetch.mk x6.Fetch.Id x6.Fetch.Origin x6.Fetch.Bytes x6.Fetch.Method x6.Fetch.Again x6.Fetch.Due true) x20.Reader x20.Got x20.Used)).set (IntKind.i64.wrap ((x16.length : Int) - (1 : Int))).toNat (S_Conn.mk x21.Id x21.Origin x21.Fetch x19 x21.Got x21.Used)).set (IntKind.i64.wrap ((x16.length : Int) - (1 : Int))).toNat (S_Conn.mk x22.Id x22.Origin x22.Fetch x22.Reader false x22.Used)).flatMap S_Conn.cells) [], .cells 40 [ii 1, ii (IntKind.i64.wrap (a0.Next + (1 : Int))), ss x6.Fetch.Origin, ss [], ii 0, ss [], ss [], ii 0, ss [], ii 0, AV.list 2 (([] : List S_Field).map S_Field.av), ss [], ii 0] [(10, 3)], .cells 23 [ii x6.Fetch.Id, ss x6.Fetch.Origin, ss x6.Fetch.Bytes, ss x6.Fetch.Method, bb x6.Fetch.Again, ii x6.Fetch.Due, bb true] []] [1, 1, 0, 2, 2, 1]) ?_ ?_
     ·refine Gho.to _ _ _ [0, 1, 2, 3, 4, 5] ?_ ?_ ?_ rfl rfl ?_
      ·exact ⟨trivial, ⟨⟨rfl, rfl, rfl⟩, ⟨trivial, ⟨trivial, ⟨⟨rfl, rfl, rfl⟩, ⟨⟨rfl, rfl, rfl⟩, ⟨trivial, ⟨⟨rfl, rfl, rfl⟩, ⟨⟨rfl, rfl, rfl⟩, ⟨⟨rfl, rfl, rfl⟩, ⟨⟨rfl, rfl, rfl⟩, ⟨⟨rfl, rfl, rfl⟩, trivial⟩⟩⟩⟩⟩⟩⟩⟩⟩⟩⟩⟩
      ·exact (keepN_d (keepN_c rfl (keepN_d (keepN_d (keepN_c (noB_flat _ (fun _ => rfl) _) (keepN_c rfl (keepN_d (keepN_c rfl (keepN_c rfl (keepN_c (noB_flat _ (fun _ => rfl) _) (keepN_c rfl (keepN_c rfl rfl))))))))))))
      ·exact rfl
      ·exact tr3 <| tr3 <| tr3 <| trivial
     refine bind_elim h fun x23 hx23 h => optE.mk (α := AV) (c := ii x23.Id) (flat_getF S_Conn.cells 29 (fun _ => rfl) hx23 (o := 0) (lb rfl) rfl) <| ai ⟨rfl, rfl, lb rfl⟩ <| ai ⟨rfl, rfl, lb rfl⟩ <| ai ⟨rfl, rfl, lb rfl⟩ ?_
     refine xi (some 4797324681010432970752) (ai (okM.mk (show (4797324681010432970752 : Nat) = freeM T _ _ _ from by kernel_rfl)) ?_)
     refine ai ⟨by kernel_rfl, by kernel_rfl⟩ <| FnC.of_ev (T := T) (rows := []) tOk mixed Tryz.func78 rfl (by kernel_rfl) (by kernel_rfl) rfl rfl <| sj <| ai rfl ?_
     refine xi [(10, 6)] (xi 1 (ai ⟨(by kernel_rfl), rfl⟩ ?_))
     refine sn <| Or.inl <| ai ⟨lb rfl, lb rfl⟩ ?_
     refine xi (some 9223372036854775808) (ai (show aggT [(10, 6)] 0 13 = some 9223372036854775808 from by kernel_rfl) ?_)
     refine NormE.to (AV.agg [ii 2, ii x23.Id, ss [], ss x6.Fetch.Bytes, ii 0, ss [], ss [], ii 0, ss [], ii 0, AV.list 2 (([] : List S_Field).map S_Field.av), ss [], ii 0]) (fun _ => rfl) <| ai ⟨rfl, rfl, rfl, rfl⟩ <| ai ⟨rfl, rfl, rfl⟩ <| NormE.to (AV.list 13 (([(S_Act.mk (2 : Int) x23.Id ([] : Bytes) x6.Fetch.Bytes (0 : Int) (S_Message.mk (S_Start.mk ([] : Bytes) ([] : Bytes) (0 : Int) ([] : Bytes) (0 : Int)) ([] : List S_Field) ([] : Bytes)) (0 : Int))] : List S_Act).map S_Act.av)) (fun _ => rfl) <| bind_elim h fun x24 hx24 h => ?_
     have qx24 := (app_some hx24).1
     have hx24e := (app_some hx24).2
     refine ai ⟨rfl, rfl, rfl⟩ <| ai rfl <| ai (app_cond S_Act.av qx24) <| NormE.to (AV.list 13 (x24.map S_Act.av)) (fun _ => (app_list 13 S_Act.av _ _).trans (congrArg (fun y => AV.list 13 (List.map S_Act.av y)) hx24e.symm)) ?_
     refine ai ⟨rfl, rfl, rfl, lb rfl⟩ (xi [ii a0.Now, ii (IntKind.i64.wrap (a0.Next + (1 : Int))), AV.row 9 0 x16.length 29, AV.row 4 0 a0.Wait.length 7, AV.list 13 (x24.map S_Act.av)] (ai (fun _ => rfl) ?_))
     refine ai (by kernel_rfl) <| sn <| sj <| FnC.of_ev (T := T) (rows := []) tOk mixed Tryz.func39 rfl (by kernel_rfl) (by kernel_rfl) rfl rfl <| sj <| ai rfl <| sn <| bind_elim h fun j25 hj25 h => ?_
     refine SeqJ.join (St.of [⟨0, AV.ptr 5 0, none⟩, ⟨2, AV.ptr 13 0, none⟩] [.dead, .cells 28 [ii 0, ii 0, AV.list 29 (([] : List S_Conn).map S_Conn.av), AV.list 7 (([] : List S_Fetch).map S_Fetch.av)] [(2, 0), (3, 1)], .dead, .dead, .cells 23 (a0.Wait.flatMap S_Fetch.cells) [], .cells 91 [ii a0.Now, ii (IntKind.i64.wrap (a0.Next + (1 : Int))), AV.row 9 0 x16.length 29, AV.row 4 0 a0.Wait.length 7, AV.list 13 (x24.map S_Act.av)] [(4, 8)], .dead, .cells 23 [ii x6.Fetch.Id, ss x6.Fetch.Origin, ss x6.Fetch.Bytes, ss x6.Fetch.Method, bb x6.Fetch.Again, ii x6.Fetch.Due, bb true] [], .cells 23 [ii x6.Fetch.Id, ss x6.Fetch.Origin, ss x6.Fetch.Bytes, ss x6.Fetch.Method, bb x6.Fetch.Again, ii x6.Fetch.Due, bb true] [], .cells 48 ((((x16.set (IntKind.i64.wrap ((x16.length : Int) - (1 : Int))).toNat (S_Conn.mk x20.Id x20.Origin (S_Fetch.mk x6.Fetch.Id x6.Fetch.Origin x6.Fetch.Bytes x6.Fetch.Method x6.Fetch.Again x6.Fetch.Due true) x20.Reader x20.Got x20.Used)).set (IntKind.i64.wrap ((x16.length : Int) - (1 : Int))).toNat (S_Conn.mk x21.Id x21.Origin x21.Fetch x19 x21.Got x21.Used)).set (IntKind.i64.wrap ((x16.length : Int) - (1 : Int))).toNat (S_Conn.mk x22.Id x22.Origin x22.Fetch x22.Reader false x22.Used)).flatMap S_Conn.cells) [], .cells 40 [ii 1, ii (IntKind.i64.wrap (a0.Next + (1 : Int))), ss x6.Fetch.Origin, ss [], ii 0, ss [], ss [], ii 0, ss [], ii 0, AV.list 2 (([] : List S_Field).map S_Field.av), ss [], ii 0] [(10, 3)], .cells 23 [ii x6.Fetch.Id, ss x6.Fetch.Origin, ss x6.Fetch.Bytes, ss x6.Fetch.Method, bb x6.Fetch.Again, ii x6.Fetch.Due, bb true] [], .cells 40 [ii 2, ii x23.Id, ss [], ss x6.Fetch.Bytes, ii 0, ss [], ss [], ii 0, ss [], ii 0, AV.list 2 (([] : List S_Field).map S_Field.av), ss [], ii 0] [(10, 6)], .cells 28 [ii 0, ii 0, AV.list 29 (([] : List S_Conn).map S_Conn.av), AV.list 7 (([] : List S_Fetch).map S_Fetch.av)] [(2, 9), (3, 10)]] [1, 1, 0, 2, 2, 0, 2, 2, 1, 1, 1]) ?_ ?_
     ·clear h; have h := hj25; clear hj25
      refine sj <| sn ?_
      refine LoopE.img (fun x : Int => St.of [⟨0, AV.ptr 5 0, none⟩, ⟨2, AV.ptr 13 0, none⟩, ⟨5, ii x, none⟩] [.dead, .cells 28 [ii 0, ii 0, AV.list 29 (([] : List S_Conn).map S_Conn.av), AV.list 7 (([] : List S_Fetch).map S_Fetch.av)] [(2, 0), (3, 1)], .dead, .dead, .cells 23 (a0.Wait.flatMap S_Fetch.cells) [], .cells 91 [ii a0.Now, ii (IntKind.i64.wrap (a0.Next + (1 : Int))), AV.row 9 0 x16.length 29, AV.row 4 0 a0.Wait.length 7, AV.list 13 (x24.map S_Act.av)] [(4, 8)], .dead, .cells 23 [ii x6.Fetch.Id, ss x6.Fetch.Origin, ss x6.Fetch.Bytes, ss x6.Fetch.Method, bb x6.Fetch.Again, ii x6.Fetch.Due, bb true] [], .cells 23 [ii x6.Fetch.Id, ss x6.Fetch.Origin, ss x6.Fetch.Bytes, ss x6.Fetch.Method, bb x6.Fetch.Again, ii x6.Fetch.Due, bb true] [], .cells 48 ((((x16.set (IntKind.i64.wrap ((x16.length : Int) - (1 : Int))).toNat (S_Conn.mk x20.Id x20.Origin (S_Fetch.mk x6.Fetch.Id x6.Fetch.Origin x6.Fetch.Bytes x6.Fetch.Method x6.Fetch.Again x6.Fetch.Due true) x20.Reader x20.Got x20.Used)).set (IntKind.i64.wrap ((x16.length : Int) - (1 : Int))).toNat (S_Conn.mk x21.Id x21.Origin x21.Fetch x19 x21.Got x21.Used)).set (IntKind.i64.wrap ((x16.length : Int) - (1 : Int))).toNat (S_Conn.mk x22.Id x22.Origin x22.Fetch x22.Reader false x22.Used)).flatMap S_Conn.cells) [], .cells 40 [ii 1, ii (IntKind.i64.wrap (a0.Next + (1 : Int))), ss x6.Fetch.Origin, ss [], ii 0, ss [], ss [], ii 0, ss [], ii 0, AV.list 2 (([] : List S_Field).map S_Field.av), ss [], ii 0] [(10, 3)], .cells 23 [ii x6.Fetch.Id, ss x6.Fetch.Origin, ss x6.Fetch.Bytes, ss x6.Fetch.Method, bb x6.Fetch.Again, ii x6.Fetch.Due, bb true] [], .cells 40 [ii 2, ii x23.Id, ss [], ss x6.Fetch.Bytes, ii 0, ss [], ss [], ii 0, ss [], ii 0, AV.list 2 (([] : List S_Field).map S_Field.av), ss [], ii 0] [(10, 6)], .cells 28 [ii 0, ii 0, AV.list 29 (([] : List S_Conn).map S_Conn.av), AV.list 7 (([] : List S_Fetch).map S_Fetch.av)] [(2, 9), (3, 10)]] [1, 1, 0, 2, 2, 0, 2, 2, 1, 1, 1]) (upstream_Gone_b3 a0) (0 : Int) h ?_ ?_
      ·refine Gho.to _ _ _ [0, 1, 2, 3, 4, 5, 6, 7, 8, 9, 10] ?_ ?_ ?_ rfl rfl ?_
       ·exact ⟨trivial, ⟨⟨rfl, rfl, rfl⟩, ⟨trivial, ⟨trivial, ⟨⟨rfl, rfl, rfl⟩, ⟨⟨rfl, rfl, rfl⟩, ⟨trivial, ⟨⟨rfl, rfl, rfl⟩, ⟨⟨rfl, rfl, rfl⟩, ⟨⟨rfl, rfl, rfl⟩, ⟨⟨rfl, rfl, rfl⟩, ⟨⟨rfl, rfl, rfl⟩, ⟨⟨rfl, rfl, rfl⟩, ⟨⟨rfl, rfl, rfl⟩, trivial⟩⟩⟩⟩⟩⟩⟩⟩⟩⟩⟩⟩⟩⟩
       ·exact (keepN_d (keepN_c rfl (keepN_d (keepN_d (keepN_c (noB_flat _ (fun _ => rfl) _) (keepN_c rfl (keepN_d (keepN_c rfl (keepN_c rfl (keepN_c (noB_flat _ (fun _ => rfl) _) (keepN_c rfl (keepN_c rfl (keepN_c rfl (keepN_c rfl rfl))))))))))))))
       ·exact rfl
       ·exact tr3 <| tr3 <| tr3 <| trivial
      intro n3 x y3 h hl3 hr3
      revert h; revert x; intro s26 h
      unfold upstream_Gone_b3 at h
      refine sj <| sj <| NormE.same <| sn ?_
      refine Br.of h (fun ht h => ?_) fun ht h => ?_
      ·exact W
      ·replace h := oi h
       replace h := hr3 _ h.symm
       subst h
       refine Gho.to _ _ _ [0, 1, 2, 3, 4, 5, 6, 7, 8, 9, 10] ?_ ?_ ?_ rfl rfl ?_
       ·exact ⟨trivial, ⟨⟨rfl, rfl, rfl⟩, ⟨trivial, ⟨trivial, ⟨⟨rfl, rfl, rfl⟩, ⟨⟨rfl, rfl, rfl⟩, ⟨trivial, ⟨⟨rfl, rfl, rfl⟩, ⟨⟨rfl, rfl, rfl⟩, ⟨⟨rfl, rfl, rfl⟩, ⟨⟨rfl, rfl, rfl⟩, ⟨⟨rfl, rfl, rfl⟩, ⟨⟨rfl, rfl, rfl⟩, ⟨⟨rfl, rfl, rfl⟩, trivial⟩⟩⟩⟩⟩⟩⟩⟩⟩⟩⟩⟩⟩⟩
       ·exact (keepN_d (keepN_c rfl (keepN_d (keepN_d (keepN_c (noB_flat _ (fun _ => rfl) _) (keepN_c rfl (keepN_d (keepN_c rfl (keepN_c rfl (keepN_c (noB_flat _ (fun _ => rfl) _) (keepN_c rfl (keepN_c rfl (keepN_c rfl (keepN_c rfl rfl))))))))))))))
       ·exact rfl
       ·exact tr3 <| tr3 <| trivial
     ·clear hj25
      refine sj <| Or.inl <| ai ⟨lb rfl, lb rfl⟩ ?_
      refine xi (some 0) (ai (show aggT [(4, 8)] 0 4 = some 0 from by kernel_rfl) ?_)
      refine NormE.to (AV.agg [ii a0.Now, ii (IntKind.i64.wrap (a0.Next + (1 : Int))), AV.row 9 0 x16.length 29, AV.row 4 0 a0.Wait.length 7]) (fun _ => rfl) ?_
      refine ai ⟨rfl, rfl, rfl, lb rfl⟩ (xi [ii a0.Now, ii (IntKind.i64.wrap (a0.Next + (1 : Int))), AV.row 9 0 x16.length 29, AV.row 4 0 a0.Wait.length 7] (ai (fun _ => rfl) ?_))
      refine ai (by kernel_rfl) <| sn ?_
      refine ai ⟨lb rfl, lb rfl⟩ (xi (AV.agg [ii a0.Now, ii (IntKind.i64.wrap (a0.Next + (1 : Int))), AV.row 9 0 x16.length 29, AV.row 4 0 a0.Wait.length 7]) (ai rfl ?_))
      refine ai ⟨rfl, rfl, rfl, lb rfl⟩ (xi [ii a0.Now, ii (IntKind.i64.wrap (a0.Next + (1 : Int))), AV.row 9 0 x16.length 29, AV.row 4 0 a0.Wait.length 7] (ai (fun _ => rfl) ?_))
      refine sn ?_
      replace h := oi h
      refine RetE.frz ?_
      refine ai ⟨lb rfl, lb rfl⟩ (xi (AV.agg [ii a0.Now, ii (IntKind.i64.wrap (a0.Next + (1 : Int))), AV.row 9 0 x16.length 29, AV.row 4 0 a0.Wait.length 7]) (ai rfl ?_))
      exact xi (AV.tup [AV.agg [ii a0.Now, ii (IntKind.i64.wrap (a0.Next + (1 : Int))), AV.list 29 ((((x16.set (IntKind.i64.wrap ((x16.length : Int) - (1 : Int))).toNat (S_Conn.mk x20.Id x20.Origin (S_Fetch.mk x6.Fetch.Id x6.Fetch.Origin x6.Fetch.Bytes x6.Fetch.Method x6.Fetch.Again x6.Fetch.Due true) x20.Reader x20.Got x20.Used)).set (IntKind.i64.wrap ((x16.length : Int) - (1 : Int))).toNat (S_Conn.mk x21.Id x21.Origin x21.Fetch x19 x21.Got x21.Used)).set (IntKind.i64.wrap ((x16.length : Int) - (1 : Int))).toNat (S_Conn.mk x22.Id x22.Origin x22.Fetch x22.Reader false x22.Used)).map S_Conn.av), AV.list 7 (a0.Wait.map S_Fetch.av)], AV.list 13 (x24.map S_Act.av), ii 0]) (ai (Frz.tupL ⟨Frz.aggL ⟨Frz.pure _ (AV.puD_ok rfl), Frz.pure _ (AV.puD_ok rfl), Frz.rowsW S_Conn.av 29 (lb rfl) (fun _ => rfl) (fun _ => rfl) rfl (flat_from _ _) (by simp only [List.length_set]), Frz.rowsW S_Fetch.av 7 (lb rfl) (fun _ => rfl) (fun _ => rfl) rfl (flat_from _ _) rfl, trivial⟩, Frz.pure _ (AV.puD_ok rfl), Frz.pure _ (AV.puD_ok rfl), trivial⟩) (ai (congrArg (fun r : (S_Up × (List S_Act) × Int) => AV.tup [S_Up.av r.1, AV.list 13 (r.2.1.map S_Act.av), ii r.2.2]) h) rfl))
    ·refine xi (some 69810262081) (ai (okM.mk (show (69810262081 : Nat) = freeM T _ _ _ from by kernel_rfl)) ?_)
     refine FnC.of_ev (T := T) (rows := [13]) tOk mixed Tryz.func35 rfl (by kernel_rfl) (by kernel_rfl) rfl rfl <| sj <| ai rfl ?_
     refine xi [(5, 3)] (xi 1 (ai ⟨(by kernel_rfl), rfl⟩ ?_))
     refine sn <| ai ⟨lb rfl, lb rfl⟩ ?_
     refine xi (some 5368709120) (ai (show aggT [(5, 3)] 0 7 = some 5368709120 from by kernel_rfl) ?_)
     refine NormE.to (AV.agg [ss [], ss [], ii 0, ss [], ii 0, AV.list 2 (([] : List S_Field).map S_Field.av), ss []]) (fun _ => rfl) <| ai ⟨rfl, rfl, lb rfl⟩ <| ai ⟨rfl, rfl, lb rfl⟩ <| ai ⟨rfl, rfl, lb rfl⟩ <| ai ⟨rfl, rfl, lb rfl⟩ ?_
     refine xi none (ai trivial ?_)
     refine FnC.of_ev (T := T) (rows := []) tOk mixed Tryz.func78 rfl (by kernel_rfl) (by kernel_rfl) rfl rfl <| sj <| ai rfl ?_
     refine xi [] (xi 0 (ai ⟨rfl, rfl⟩ ?_))
     refine sn <| Or.inl <| ai ⟨lb rfl, lb rfl⟩ ?_
     refine xi none (ai rfl ?_)
     refine NormE.to (AV.agg [ii 4, ii 0, ss [], ss [], ii x6.Fetch.Id, ss [], ss [], ii 0, ss [], ii 0, AV.list 2 (([] : List S_Field).map S_Field.av), ss [], ii 63]) (fun _ => rfl) <| ai ⟨rfl, rfl, rfl, rfl⟩ <| ai ⟨rfl, rfl, rfl⟩ <| NormE.to (AV.list 13 (([(S_Act.mk (4 : Int) (0 : Int) ([] : Bytes) ([] : Bytes) x6.Fetch.Id (S_Message.mk (S_Start.mk ([] : Bytes) ([] : Bytes) (0 : Int) ([] : Bytes) (0 : Int)) ([] : List S_Field) ([] : Bytes)) (63 : Int))] : List S_Act).map S_Act.av)) (fun _ => rfl) <| bind_elim h fun x27 hx27 h => ?_
     have qx27 := (app_some hx27).1
     have hx27e := (app_some hx27).2
     refine ai ⟨rfl, rfl, rfl⟩ <| ai rfl <| ai (app_cond S_Act.av qx27) <| NormE.to (AV.list 13 (x27.map S_Act.av)) (fun _ => (app_list 13 S_Act.av _ _).trans (congrArg (fun y => AV.list 13 (List.map S_Act.av y)) hx27e.symm)) ?_
     refine ai ⟨rfl, rfl, rfl, lb rfl⟩ (xi [ii a0.Now, ii a0.Next, AV.row 3 0 x7.length 29, AV.row 4 0 a0.Wait.length 7, AV.list 13 (x27.map S_Act.av)] (ai (fun _ => rfl) ?_))
     refine ai (by kernel_rfl) <| sn <| sj <| FnC.of_ev (T := T) (rows := []) tOk mixed Tryz.func39 rfl (by kernel_rfl) (by kernel_rfl) rfl rfl <| sj <| ai rfl <| sn <| bind_elim h fun j28 hj28 h => ?_
     refine SeqJ.join (St.of [⟨0, AV.ptr 5 0, none⟩, ⟨2, AV.ptr 10 0, none⟩] [.dead, .cells 28 [ii 0, ii 0, AV.list 29 (([] : List S_Conn).map S_Conn.av), AV.list 7 (([] : List S_Fetch).map S_Fetch.av)] [(2, 0), (3, 1)], .dead, .cells 48 (x7.flatMap S_Conn.cells) [], .cells 23 (a0.Wait.flatMap S_Fetch.cells) [], .cells 91 [ii a0.Now, ii a0.Next, AV.row 3 0 x7.length 29, AV.row 4 0 a0.Wait.length 7, AV.list 13 (x27.map S_Act.av)] [(4, 5)], .dead, .cells 23 (S_Fetch.cells x6.Fetch) [], .cells 38 [ss [], ss [], ii 0, ss [], ii 0, AV.list 2 (([] : List S_Field).map S_Field.av), ss []] [(5, 3)], .cells 40 [ii 4, ii 0, ss [], ss [], ii x6.Fetch.Id, ss [], ss [], ii 0, ss [], ii 0, AV.list 2 (([] : List S_Field).map S_Field.av), ss [], ii 63] [], .cells 28 [ii 0, ii 0, AV.list 29 (([] : List S_Conn).map S_Conn.av), AV.list 7 (([] : List S_Fetch).map S_Fetch.av)] [(2, 6), (3, 7)]] [1, 1, 0, 2, 2, 1, 1, 1]) ?_ ?_
     ·clear h; have h := hj28; clear hj28
      refine sj <| sn ?_
      refine LoopE.img (fun x : Int => St.of [⟨0, AV.ptr 5 0, none⟩, ⟨2, AV.ptr 10 0, none⟩, ⟨5, ii x, none⟩] [.dead, .cells 28 [ii 0, ii 0, AV.list 29 (([] : List S_Conn).map S_Conn.av), AV.list 7 (([] : List S_Fetch).map S_Fetch.av)] [(2, 0), (3, 1)], .dead, .cells 48 (x7.flatMap S_Conn.cells) [], .cells 23 (a0.Wait.flatMap S_Fetch.cells) [], .cells 91 [ii a0.Now, ii a0.Next, AV.row 3 0 x7.length 29, AV.row 4 0 a0.Wait.length 7, AV.list 13 (x27.map S_Act.av)] [(4, 5)], .dead, .cells 23 (S_Fetch.cells x6.Fetch) [], .cells 38 [ss [], ss [], ii 0, ss [], ii 0, AV.list 2 (([] : List S_Field).map S_Field.av), ss []] [(5, 3)], .cells 40 [ii 4, ii 0, ss [], ss [], ii x6.Fetch.Id, ss [], ss [], ii 0, ss [], ii 0, AV.list 2 (([] : List S_Field).map S_Field.av), ss [], ii 63] [], .cells 28 [ii 0, ii 0, AV.list 29 (([] : List S_Conn).map S_Conn.av), AV.list 7 (([] : List S_Fetch).map S_Fetch.av)] [(2, 6), (3, 7)]] [1, 1, 0, 2, 2, 1, 1, 1]) (upstream_Gone_b4 a0) (0 : Int) h ?_ ?_
      ·refine Gho.to _ _ _ [0, 1, 2, 3, 4, 5, 6, 7] ?_ ?_ ?_ rfl rfl ?_
       ·exact ⟨trivial, ⟨⟨rfl, rfl, rfl⟩, ⟨trivial, ⟨⟨rfl, rfl, rfl⟩, ⟨⟨rfl, rfl, rfl⟩, ⟨⟨rfl, rfl, rfl⟩, ⟨trivial, ⟨⟨rfl, rfl, rfl⟩, ⟨⟨rfl, rfl, rfl⟩, ⟨⟨rfl, rfl, rfl⟩, ⟨⟨rfl, rfl, rfl⟩, trivial⟩⟩⟩⟩⟩⟩⟩⟩⟩⟩⟩
       ·exact (keepN_d (keepN_c rfl (keepN_d (keepN_c (noB_flat _ (fun _ => rfl) _) (keepN_c (noB_flat _ (fun _ => rfl) _) (keepN_c rfl (keepN_d (keepN_c rfl (keepN_c rfl (keepN_c rfl (keepN_c rfl rfl)))))))))))
       ·exact rfl
       ·exact tr3 <| tr3 <| tr3 <| trivial
      intro n4 x y4 h hl4 hr4
      revert h; revert x; intro s29 h
      unfold upstream_Gone_b4 at h
      refine sj <| sj <| NormE.same <| sn ?_
      refine Br.of h (fun ht h => ?_) fun ht h => ?_
      ·exact W
      ·replace h := oi h
       replace h := hr4 _ h.symm
       subst h
       refine Gho.to _ _ _ [0, 1, 2, 3, 4, 5, 6, 7] ?_ ?_ ?_ rfl rfl ?_
       ·exact ⟨trivial, ⟨⟨rfl, rfl, rfl⟩, ⟨trivial, ⟨⟨rfl, rfl, rfl⟩, ⟨⟨rfl, rfl, rfl⟩, ⟨⟨rfl, rfl, rfl⟩, ⟨trivial, ⟨⟨rfl, rfl, rfl⟩, ⟨⟨rfl, rfl, rfl⟩, ⟨⟨rfl, rfl, rfl⟩, ⟨⟨rfl, rfl, rfl⟩, trivial⟩⟩⟩⟩⟩⟩⟩⟩⟩⟩⟩
       ·exact (keepN_d (keepN_c rfl (keepN_d (keepN_c (noB_flat _ (fun _ => rfl) _) (keepN_c (noB_flat _ (fun _ => rfl) _) (keepN_c rfl (keepN_d (keepN_c rfl (keepN_c rfl (keepN_c rfl (keepN_c rfl rfl)))))))))))
       ·exact rfl
       ·exact tr3 <| tr3 <| trivial
     ·clear hj28
      refine sj <| Or.inl <| ai ⟨lb rfl, lb rfl⟩ ?_
      refine xi (some 0) (ai (show aggT [(4, 5)] 0 4 = some 0 from by kernel_rfl) ?_)
      refine NormE.to (AV.agg [ii a0.Now, ii a0.Next, AV.row 3 0 x7.length 29, AV.row 4 0 a0.Wait.length 7]) (fun _ => rfl) ?_
      refine ai ⟨rfl, rfl, rfl, lb rfl⟩ (xi [ii a0.Now, ii a0.Next, AV.row 3 0 x7.length 29, AV.row 4 0 a0.Wait.length 7] (ai (fun _ => rfl) ?_))
      refine ai (by kernel_rfl) <| sn ?_
      refine ai ⟨lb rfl, lb rfl⟩ (xi (AV.agg [ii a0.Now, ii a0.Next, AV.row 3 0 x7.length 29, AV.row 4 0 a0.Wait.length 7]) (ai rfl ?_))
      refine ai ⟨rfl, rfl, rfl, lb rfl⟩ (xi [ii a0.Now, ii a0.Next, AV.row 3 0 x7.length 29, AV.row 4 0 a0.Wait.length 7] (ai (fun _ => rfl) ?_))
      refine sn ?_
      replace h := oi h
      refine RetE.frz ?_
      refine ai ⟨lb rfl, lb rfl⟩ (xi (AV.agg [ii a0.Now, ii a0.Next, AV.row 3 0 x7.length 29, AV.row 4 0 a0.Wait.length 7]) (ai rfl ?_))
      exact xi (AV.tup [AV.agg [ii a0.Now, ii a0.Next, AV.list 29 (x7.map S_Conn.av), AV.list 7 (a0.Wait.map S_Fetch.av)], AV.list 13 (x27.map S_Act.av), ii 0]) (ai (Frz.tupL ⟨Frz.aggL ⟨Frz.pure _ (AV.puD_ok rfl), Frz.pure _ (AV.puD_ok rfl), Frz.rowsW S_Conn.av 29 (lb rfl) (fun _ => rfl) (fun _ => rfl) rfl (flat_from _ _) rfl, Frz.rowsW S_Fetch.av 7 (lb rfl) (fun _ => rfl) (fun _ => rfl) rfl (flat_from _ _) rfl, trivial⟩, Frz.pure _ (AV.puD_ok rfl), Frz.pure _ (AV.puD_ok rfl), trivial⟩) (ai (congrArg (fun r : (S_Up × (List S_Act) × Int) => AV.tup [S_Up.av r.1, AV.list 13 (r.2.1.map S_Act.av), ii r.2.2]) h) rfl))⟩
theorem intarsialaw22_alive_ok (E : Pm.Env) [LaidM E] (r : Bool) (h : intarsialaw22_alive = some r) : FnR E Tryz.prog 13 [] (bb r) false := by
 refine FnR.of_ev (T := T) (rows := []) tOk mixed Tryz.func13 rfl (by kernel_rfl) (by kernel_rfl) rfl fun hwf => ?_
 unfold intarsialaw22_alive at h
 refine sj <| sn <| sj ?_
 refine xi (some 266305) (ai (okM.mk (show (266305 : Nat) = freeM T _ _ _ from by kernel_rfl)) ?_)
 exact W
instance intarsialaw22_alive_ok_i (E : Pm.Env) [LaidM E] : Ok E intarsialaw22_alive (fun r => FnR E Tryz.prog 13 [] (bb r) false) := ⟨intarsialaw22_alive_ok E⟩
theorem intarsialaw22_UpstreamAgain_ok (E : Pm.Env) [LaidM E] (a0 : S_Fetch) (a1 : Bool) (a2 : Bool) (a3 : Bytes) (r : Bool) (h : intarsialaw22_UpstreamAgain a0 a1 a2 a3 = some r) : FnR E Tryz.prog 3 [S_Fetch.av a0, bb a1, bb a2, ss a3] (bb r) false := by
 refine FnR.of_ev (T := T) (rows := []) tOk mixed Tryz.func3 rfl (by kernel_rfl) (by kernel_rfl) rfl fun hwf => ?_
 unfold intarsialaw22_UpstreamAgain at h
 refine sj <| ai rfl ?_
 refine xi [] (xi 0 (ai ⟨rfl, rfl⟩ ?_))
 refine sn <| sj <| ai ⟨lb rfl, lb rfl⟩ ?_
 refine xi none (ai rfl ?_)
 refine NormE.to (S_Fetch.av a0) (fun _ => rfl) <| bind_elim h fun x1 hx1 h => CallH.data _ false rfl (intarsialaw22_few_ok E a0 x1 hx1) ?_
 refine ai ⟨rfl, rfl, rfl, lb rfl⟩ (xi (S_Fetch.cells x1) (ai (fun _ => rfl) ?_))
 refine sn <| sj <| bind_elim h fun x2 hx2 h => ?_
 have hx2c := (cat_some hx2).1
 have hx2e := (cat_some hx2).2
 refine ai (fun _ => hx2c) <| NormE.to (ss x2) (fun _ => congrArg ss hx2e.symm) ?_
 refine ai ⟨rfl, rfl, rfl, lb rfl⟩ (xi [ii 1, ss x1.Origin, ss x1.Bytes, ss x1.Method, bb x1.Again, ii x1.Due, bb x1.Tried] (ai (fun _ => rfl) ?_))
 refine ai ⟨rfl, rfl, rfl, lb rfl⟩ (xi [ii 1, ss ([111] : Bytes), ss x1.Bytes, ss x1.Method, bb x1.Again, ii x1.Due, bb x1.Tried] (ai (fun _ => rfl) ?_))
 refine ai ⟨rfl, rfl, rfl, lb rfl⟩ (xi [ii 1, ss ([111] : Bytes), ss x2, ss x1.Method, bb x1.Again, ii x1.Due, bb x1.Tried] (ai (fun _ => rfl) ?_))
 refine ai ⟨rfl, rfl, rfl, lb rfl⟩ (xi [ii 1, ss ([111] : Bytes), ss x2, ss ([71, 69, 84] : Bytes), bb x1.Again, ii x1.Due, bb x1.Tried] (ai (fun _ => rfl) ?_))
 refine ai ⟨rfl, rfl, rfl, lb rfl⟩ (xi [ii 1, ss ([111] : Bytes), ss x2, ss ([71, 69, 84] : Bytes), bb a1, ii x1.Due, bb x1.Tried] (ai (fun _ => rfl) ?_))
 refine SeqN.via (St.of [⟨1, bb a1, none⟩, ⟨2, bb a2, none⟩, ⟨3, ss a3, none⟩, ⟨4, AV.ptr 0 0, none⟩] [.cells 23 [ii 1, ss ([111] : Bytes), ss x2, ss ([71, 69, 84] : Bytes), bb a1, ii x1.Due, bb x1.Tried] []] []) ?_ ?_
 ·exact W
 refine sj ?_
 refine xi (some 266305) (ai (okM.mk (show (266305 : Nat) = freeM T _ _ _ from by kernel_rfl)) ?_)
 refine ai rfl ?_
 refine ai ⟨rfl, rfl, rfl, lb rfl⟩ (xi [ii 0, ii 0, AV.list 29 (([] : List S_Conn).map S_Conn.av), AV.list 7 (([] : List S_Fetch).map S_Fetch.av)] (ai (fun _ => rfl) ?_))
 refine xi [(2, 2), (3, 3)] (xi 2 (ai ⟨(by kernel_rfl), rfl⟩ ?_))
 refine sn <| sj <| sj <| sn ?_
 refine Br.of h (fun ht h => ?_) fun ht h => ?_
 ·refine sj <| ai ⟨lb rfl, lb rfl⟩ ?_
  refine xi (some 1327104) (ai (show aggT [(2, 2), (3, 3)] 0 4 = some 1327104 from by kernel_rfl) ?_)
  refine NormE.to (AV.agg [ii 0, ii 0, AV.list 29 (([] : List S_Conn).map S_Conn.av), AV.list 7 (([] : List S_Fetch).map S_Fetch.av)]) (fun _ => rfl) <| ai ⟨rfl, rfl, lb rfl⟩ <| ai ⟨rfl, rfl, lb rfl⟩ <| ai ⟨rfl, rfl, lb rfl⟩ <| ai ⟨rfl, rfl, lb rfl⟩ ?_
  refine xi none (ai trivial ?_)
  refine bind_elim h fun x3 hx3 h => CallH.data _ false rfl ((upstream_Ask_ok E (S_Up.mk (0 : Int) (0 : Int) ([] : List S_Conn) ([] : List S_Fetch)) (S_Fetch.mk (2 : Int) ([111] : Bytes) ([120] : Bytes) ([71, 69, 84] : Bytes) false (0 : Int) false)).1 x3 hx3) <| ai rfl ?_
  refine ai ⟨rfl, rfl, rfl, lb rfl⟩ (xi (S_Up.cells x3.1) (ai (fun _ => rfl) ?_))
  refine sn <| sj <| ai ⟨lb rfl, lb rfl⟩ ?_
  refine xi none (ai rfl ?_)
  refine NormE.to (S_Up.av x3.1) (fun _ => rfl) <| bind_elim h fun x4 hx4 h => CallH.data _ false rfl ((upstream_Recv_ok E x3.1 (1 : Int) ([72, 84, 84, 80, 47, 49, 46, 49, 32, 50, 48, 48, 32, 79, 75, 13, 10, 67, 111, 110, 116, 101, 110, 116, 45, 76, 101, 110, 103, 116, 104, 58, 32, 48, 13, 10, 13, 10] : Bytes)).1 x4 hx4) <| ai rfl ?_
  refine ai ⟨rfl, rfl, rfl, lb rfl⟩ (xi (S_Up.cells x4.1) (ai (fun _ => rfl) ?_))
  refine SeqN.via (St.of [⟨1, bb a1, none⟩, ⟨2, bb a2, none⟩, ⟨3, ss a3, none⟩, ⟨4, AV.ptr 0 0, none⟩, ⟨9, AV.ptr 1 0, none⟩, ⟨12, ii x3.2.2, none⟩, ⟨13, AV.ptr 3 0, none⟩, ⟨14, AV.list 13 (x4.2.1.map S_Act.av), none⟩, ⟨15, ii x4.2.2, none⟩] [.cells 23 [ii 1, ss ([111] : Bytes), ss x2, ss ([71, 69, 84] : Bytes), bb a1, ii x1.Due, bb x1.Tried] [], .cells 28 [ii 0, ii 0, AV.list 29 (([] : List S_Conn).map S_Conn.av), AV.list 7 (([] : List S_Fetch).map S_Fetch.av)] [(2, 0), (3, 1)], .dead, .cells 28 (S_Up.cells x4.1) []] [1, 1]) ?_ ?_
  ·refine Gho.to _ _ _ [2, 3] ?_ ?_ ?_ rfl rfl ?_
   ·exact ⟨⟨rfl, rfl, rfl⟩, ⟨⟨rfl, rfl, rfl⟩, ⟨trivial, ⟨⟨rfl, rfl, rfl⟩, trivial⟩⟩⟩⟩
   ·exact rfl
   ·exact rfl
   ·exact tr3 <| tr3 <| tr3 <| tr3 <| tr3 <| tr3 <| tr3 <| tr3 <| tr3 <| trivial
  refine sj <| sj <| ai id <| ai (fun hg => (and_r hg)) <| ai id <| NormE.to (ii (x4.2.1.length : Int)) (fun _ => len_list S_Act.av x4.2.1) <| ai id <| ai (fun hg => (and_r hg)) <| bind_elim h fun x5 hx5 h => ai id ?_
  refine ai rfl (xi (S_Act.av x5) (ai (fun hg => gidx_map _ hx5 hg) ?_))
  refine ai id <| ai id <| ai id <| ai (fun hg => (and_r hg)) <| bind_elim h fun x6 hx6 h => ai id ?_
  refine ai rfl (xi (S_Act.av x6) (ai (fun hg => gidx_map _ hx6 hg) ?_))
  refine ai id <| ai id <| ai id <| ai (fun hg => (and_r hg)) ?_
  refine SeqN.via (St.of [⟨1, bb a1, none⟩, ⟨2, bb a2, none⟩, ⟨3, ss a3, none⟩, ⟨4, AV.ptr 0 0, none⟩, ⟨9, AV.ptr 1 0, none⟩, ⟨13, AV.ptr 3 0, none⟩, ⟨72, bb (bif (bif (bif (bif (x3.2.2 != (0 : Int)) then true else (x4.2.2 != (0 : Int))) then true else ((x4.2.1.length : Int) != (1 : Int))) then true else (x5.Kind != (4 : Int))) then true else (x6.Bad != (0 : Int))), none⟩] [.cells 23 [ii 1, ss ([111] : Bytes), ss x2, ss ([71, 69, 84] : Bytes), bb a1, ii x1.Due, bb x1.Tried] [], .cells 28 [ii 0, ii 0, AV.list 29 (([] : List S_Conn).map S_Conn.av), AV.list 7 (([] : List S_Fetch).map S_Fetch.av)] [(2, 0), (3, 1)], .dead, .cells 28 (S_Up.cells x4.1) []] [1, 1]) ?_ ?_
  ·refine Gho.to _ _ _ [0, 1] ?_ ?_ ?_ rfl rfl ?_
   ·exact ⟨⟨rfl, rfl, rfl⟩, ⟨⟨rfl, rfl, rfl⟩, ⟨trivial, ⟨⟨rfl, rfl, rfl⟩, trivial⟩⟩⟩⟩
   ·exact rfl
   ·exact rfl
   ·exact tr3 <| tr3 <| tr3 <| tr3 <| tr3 <| tr3 <| tr3 <| trivial
  refine Br.of h (fun ht h => ?_) fun ht h => ?_
  ·exact W
  ·refine sn <| ai ⟨lb rfl, lb rfl⟩ ?_
   refine xi none (ai rfl ?_)
   refine NormE.to (S_Up.av x4.1) (fun _ => rfl) ?_
   refine ai ⟨rfl, rfl, rfl, lb rfl⟩ (xi (S_Up.cells x4.1) (ai (fun _ => rfl) ?_))
   refine sn <| sj <| ai ⟨lb rfl, lb rfl⟩ ?_
   refine xi none (ai rfl ?_)
   refine NormE.to (S_Up.av x4.1) (fun _ => rfl) <| ai ⟨lb rfl, lb rfl⟩ ?_
   refine xi none (ai rfl ?_)
   refine NormE.to (AV.agg [ii 1, ss ([111] : Bytes), ss x2, ss ([71, 69, 84] : Bytes), bb a1, ii x1.Due, bb x1.Tried]) (fun _ => rfl) <| bind_elim h fun x7 hx7 h => CallH.data _ false rfl ((upstream_Ask_ok E x4.1 (S_Fetch.mk (1 : Int) ([111] : Bytes) x2 ([71, 69, 84] : Bytes) a1 x1.Due x1.Tried)).1 x7 hx7) ?_
   refine ai ⟨rfl, rfl, rfl, lb rfl⟩ (xi (S_Up.cells x7.1) (ai (fun _ => rfl) ?_))
   refine sn <| sj <| sj <| Or.inl <| ai id <| ai id <| NormE.to (ii (x7.1.Conns.length : Int)) (fun _ => len_list S_Conn.av x7.1.Conns) <| ai id <| ai (fun hg => (and_r hg)) <| ai id <| bind_elim h fun x8 hx8 h => ai id ?_
   refine ai rfl (xi (S_Conn.av x8) (ai (fun hg => gidx_map _ hx8 hg) ?_))
   refine ai id <| ai id <| ai id <| ai (fun hg => (and_r hg)) <| ai id <| NormE.to (ii (x7.2.1.length : Int)) (fun _ => len_list S_Act.av x7.2.1) <| ai id <| ai (fun hg => (and_r hg)) <| ai id <| NormE.to (ii (x7.2.1.length : Int)) (fun _ => len_list S_Act.av x7.2.1) <| ai id <| bind_elim h fun x9 hx9 h => ai id <| ai id ?_
   refine ai rfl (xi (S_Act.av x9) (ai (fun hg => gidx_map _ hx9 hg) ?_))
   refine ai id <| ai id <| ai id <| ai id <| ai id <| ai (fun hg => (and_r hg)) <| ai (by kernel_rfl) ?_
   refine SeqN.via (St.of [⟨1, bb a1, none⟩, ⟨2, bb a2, none⟩, ⟨3, ss a3, none⟩, ⟨4, AV.ptr 0 0, none⟩, ⟨9, AV.ptr 1 0, none⟩, ⟨113, bb (bif (bif (bif (bif (x7.2.2 != (0 : Int)) then true else ((x7.1.Conns.length : Int) != (1 : Int))) then true else (x8.Id != (1 : Int))) then true else ((x7.2.1.length : Int) == (0 : Int))) then true else (!(x9.Bytes == x2))), none⟩] [.cells 23 [ii 1, ss ([111] : Bytes), ss x2, ss ([71, 69, 84] : Bytes), bb a1, ii x1.Due, bb x1.Tried] [], .cells 28 (S_Up.cells x7.1) []] []) ?_ ?_
   ·exact W
   refine Br.of h (fun ht h => ?_) fun ht h => ?_
   ·exact W
   ·refine sn <| sj <| NormE.same <| sn <| sj <| sj <| sn ?_
    refine Br.of h (fun ht h => ?_) fun ht h => ?_
    ·refine sj <| ai ⟨lb rfl, lb rfl⟩ ?_
     refine xi none (ai rfl ?_)
     refine NormE.to (S_Up.av x7.1) (fun _ => rfl) <| bind_elim h fun x10 hx10 h => CallH.data _ false rfl ((upstream_Recv_ok E x7.1 (1 : Int) ([72] : Bytes)).1 x10 hx10) <| ai rfl ?_
     refine ai ⟨rfl, rfl, rfl, lb rfl⟩ (xi (S_Up.cells x10.1) (ai (fun _ => rfl) ?_))
     refine sn <| sj <| sj <| ai id <| NormE.to (ii (x10.2.1.length : Int)) (fun _ => len_list S_Act.av x10.2.1) <| ai id <| ai (fun hg => (and_r hg)) ?_
     refine SeqN.via (St.of [⟨1, bb a1, none⟩, ⟨2, bb a2, none⟩, ⟨4, AV.ptr 0 0, none⟩, ⟨9, AV.ptr 1 0, none⟩, ⟨18, bb (decide ((a3.length : Int) > (0 : Int))), none⟩, ⟨19, AV.ptr 2 0, none⟩, ⟨130, bb (bif (x10.2.2 != (0 : Int)) then true else ((x10.2.1.length : Int) != (0 : Int))), none⟩] [.cells 23 [ii 1, ss ([111] : Bytes), ss x2, ss ([71, 69, 84] : Bytes), bb a1, ii x1.Due, bb x1.Tried] [], .cells 28 (S_Up.cells x7.1) [], .cells 28 (S_Up.cells x10.1) []] []) ?_ ?_
     ·exact W
     refine Br.of h (fun ht h => ?_) fun ht h => ?_
     ·exact W
     ·refine sn <| ai ⟨lb rfl, lb rfl⟩ ?_
      refine xi none (ai rfl ?_)
      refine NormE.to (S_Up.av x10.1) (fun _ => rfl) ?_
      refine ai ⟨rfl, rfl, rfl, lb rfl⟩ (xi (S_Up.cells x10.1) (ai (fun _ => rfl) ?_))
      refine sn <| sj <| ai ⟨lb rfl, lb rfl⟩ ?_
      refine xi none (ai rfl ?_)
      refine NormE.to (S_Up.av x10.1) (fun _ => rfl) <| bind_elim h fun x11 hx11 h => CallH.data _ false rfl ((upstream_Gone_ok E x10.1 (1 : Int) false).1 x11 hx11) ?_
      refine ai ⟨rfl, rfl, rfl, lb rfl⟩ (xi (S_Up.cells x11.1) (ai (fun _ => rfl) ?_))
      refine sn <| sj <| sj <| bind_elim h fun x12 hx12 h => ai rfl ?_
      refine CallF.mk _ false (fun hg => intarsialaw22_alive_ok E  x12 (gcall_some hx12 hg)) (ai rfl ?_)
      refine ai id <| ai (fun hg => (and_r hg)) ?_
      refine SeqN.via (St.of [⟨1, bb a1, none⟩, ⟨2, bb a2, none⟩, ⟨4, AV.ptr 0 0, none⟩, ⟨9, AV.ptr 1 0, none⟩, ⟨16, AV.list 13 (x11.2.1.map S_Act.av), none⟩, ⟨18, bb (decide ((a3.length : Int) > (0 : Int))), none⟩, ⟨143, bb (bif (x11.2.2 != (0 : Int)) then true else (!x12)), none⟩] [.cells 23 [ii 1, ss ([111] : Bytes), ss x2, ss ([71, 69, 84] : Bytes), bb a1, ii x1.Due, bb x1.Tried] [], .cells 28 (S_Up.cells x11.1) []] []) ?_ ?_
      ·exact W
      refine Br.of h (fun ht h => ?_) fun ht h => ?_
      ·exact W
      ·refine sn <| sj <| sj <| ai id <| ai (fun hg => (and_r hg)) <| ai (fun hg => (and_r hg)) <| sn ?_
       refine Br.of h (fun ht h => ?_) fun ht h => ?_
       ·refine sj <| NormE.to (ii (x11.2.1.length : Int)) (fun _ => len_list S_Act.av x11.2.1) <| bind_elim h fun x13 hx13 h => ai id ?_
        refine ai rfl (xi (S_Act.av x13) (ai (fun hg => gidx_map _ hx13 hg) ?_))
        refine ai id <| ai id <| ai id <| ai (fun hg => (and_r hg)) <| bind_elim h fun x14 hx14 h => ai id ?_
        refine ai rfl (xi (S_Act.av x14) (ai (fun hg => gidx_map _ hx14 hg) ?_))
        refine ai id <| ai id <| ai id <| ai (fun hg => (and_r hg)) <| bind_elim h fun x15 hx15 h => ai id ?_
        refine ai rfl (xi (S_Act.av x15) (ai (fun hg => gidx_map _ hx15 hg) ?_))
        refine ai id <| ai id <| ai id <| ai (fun hg => (and_r hg)) <| ai id <| ai id <| NormE.to (ii (x11.1.Conns.length : Int)) (fun _ => len_list S_Conn.av x11.1.Conns) <| ai id <| ai (fun hg => (and_r hg)) ?_
        refine SeqN.via (St.of [⟨8, bb (bif (bif (bif (bif ((x11.2.1.length : Int) == (1 : Int)) then (x13.Kind == (4 : Int)) else false) then (x14.Bad == (63 : Int)) else false) then (x15.Fetch == (1 : Int)) else false) then ((x11.1.Conns.length : Int) == (0 : Int)) else false), none⟩] [] []) ?_ ?_
        ·exact W
        exact W
       ·refine sn <| sj <| sj <| Or.inl <| NormE.to (ii (x11.2.1.length : Int)) (fun _ => len_list S_Act.av x11.2.1) <| bind_elim h fun x16 hx16 h => ai id ?_
        refine ai rfl (xi (S_Act.av x16) (ai (fun hg => gidx_map _ hx16 hg) ?_))
        refine ai id <| ai id <| ai id <| ai (fun hg => (and_r hg)) <| bind_elim h fun x17 hx17 h => ai id ?_
        refine ai rfl (xi (S_Act.av x17) (ai (fun hg => gidx_map _ hx17 hg) ?_))
        refine ai id <| ai id <| ai id <| ai (fun hg => (and_r hg)) <| bind_elim h fun x18 hx18 h => ai id ?_
        refine ai rfl (xi (S_Act.av x18) (ai (fun hg => gidx_map _ hx18 hg) ?_))
        refine ai id <| ai id <| ai id <| ai (fun hg => (and_r hg)) <| bind_elim h fun x19 hx19 h => ai id ?_
        refine ai rfl (xi (S_Act.av x19) (ai (fun hg => gidx_map _ hx19 hg) ?_))
        refine ai id <| ai id <| ai id <| ai id <| ai id <| ai (fun hg => (and_r hg)) <| ai (by kernel_rfl) ?_
        refine SeqN.via (St.of [⟨9, AV.ptr 1 0, none⟩, ⟨215, bb (bif (bif (bif (bif ((x11.2.1.length : Int) != (2 : Int)) then true else (x16.Kind != (1 : Int))) then true else (x17.Conn != (2 : Int))) then true else (x18.Kind != (2 : Int))) then true else (!(x19.Bytes == x2))), none⟩] [.dead, .cells 28 (S_Up.cells x11.1) []] []) ?_ ?_
        ·exact W
        refine Br.of h (fun ht h => ?_) fun ht h => ?_
        ·exact W
        ·refine sn <| sj <| ai ⟨lb rfl, lb rfl⟩ ?_
         refine xi none (ai rfl ?_)
         refine NormE.to (S_Up.av x11.1) (fun _ => rfl) <| bind_elim h fun x20 hx20 h => CallH.data _ false rfl ((upstream_Gone_ok E x11.1 (2 : Int) false).1 x20 hx20) <| sn <| sj <| ai id <| NormE.to (ii (x20.2.1.length : Int)) (fun _ => len_list S_Act.av x20.2.1) <| ai id <| ai (fun hg => (and_r hg)) <| bind_elim h fun x21 hx21 h => ai id ?_
         refine ai rfl (xi (S_Act.av x21) (ai (fun hg => gidx_map _ hx21 hg) ?_))
         refine ai id <| ai id <| ai id <| ai (fun hg => (and_r hg)) <| bind_elim h fun x22 hx22 h => ai id ?_
         refine ai rfl (xi (S_Act.av x22) (ai (fun hg => gidx_map _ hx22 hg) ?_))
         refine ai id <| ai id <| ai id <| ai (fun hg => (and_r hg)) ?_
         refine SeqN.via (St.of [⟨8, bb (bif (bif (bif (x20.2.2 == (0 : Int)) then ((x20.2.1.length : Int) == (1 : Int)) else false) then (x21.Kind == (4 : Int)) else false) then (x22.Bad == (63 : Int)) else false), none⟩] [] []) ?_ ?_
         ·exact W
         exact W
    ·refine sn <| sj <| ai ⟨lb rfl, lb rfl⟩ ?_
     refine xi none (ai rfl ?_)
     refine NormE.to (S_Up.av x7.1) (fun _ => rfl) <| bind_elim h fun x23 hx23 h => CallH.data _ false rfl ((upstream_Gone_ok E x7.1 (1 : Int) false).1 x23 hx23) ?_
     refine ai ⟨rfl, rfl, rfl, lb rfl⟩ (xi (S_Up.cells x23.1) (ai (fun _ => rfl) ?_))
     refine sn <| sj <| sj <| bind_elim h fun x24 hx24 h => ai rfl ?_
     refine CallF.mk _ false (fun hg => intarsialaw22_alive_ok E  x24 (gcall_some hx24 hg)) (ai rfl ?_)
     refine ai id <| ai (fun hg => (and_r hg)) ?_
     refine SeqN.via (St.of [⟨1, bb a1, none⟩, ⟨2, bb a2, none⟩, ⟨4, AV.ptr 0 0, none⟩, ⟨9, AV.ptr 1 0, none⟩, ⟨16, AV.list 13 (x23.2.1.map S_Act.av), none⟩, ⟨18, bb (decide ((a3.length : Int) > (0 : Int))), none⟩, ⟨143, bb (bif (x23.2.2 != (0 : Int)) then true else (!x24)), none⟩] [.cells 23 [ii 1, ss ([111] : Bytes), ss x2, ss ([71, 69, 84] : Bytes), bb a1, ii x1.Due, bb x1.Tried] [], .cells 28 (S_Up.cells x23.1) []] []) ?_ ?_
     ·exact W
     refine Br.of h (fun ht h => ?_) fun ht h => ?_
     ·exact W
     ·refine sn <| sj <| sj <| ai id <| ai (fun hg => (and_r hg)) <| ai (fun hg => (and_r hg)) <| sn ?_
      refine Br.of h (fun ht h => ?_) fun ht h => ?_
      ·refine sj <| NormE.to (ii (x23.2.1.length : Int)) (fun _ => len_list S_Act.av x23.2.1) <| bind_elim h fun x25 hx25 h => ai id ?_
       refine ai rfl (xi (S_Act.av x25) (ai (fun hg => gidx_map _ hx25 hg) ?_))
       refine ai id <| ai id <| ai id <| ai (fun hg => (and_r hg)) <| bind_elim h fun x26 hx26 h => ai id ?_
       refine ai rfl (xi (S_Act.av x26) (ai (fun hg => gidx_map _ hx26 hg) ?_))
       refine ai id <| ai id <| ai id <| ai (fun hg => (and_r hg)) <| bind_elim h fun x27 hx27 h => ai id ?_
       refine ai rfl (xi (S_Act.av x27) (ai (fun hg => gidx_map _ hx27 hg) ?_))
       refine ai id <| ai id <| ai id <| ai (fun hg => (and_r hg)) <| ai id <| ai id <| NormE.to (ii (x23.1.Conns.length : Int)) (fun _ => len_list S_Conn.av x23.1.Conns) <| ai id <| ai (fun hg => (and_r hg)) ?_
       refine SeqN.via (St.of [⟨8, bb (bif (bif (bif (bif ((x23.2.1.length : Int) == (1 : Int)) then (x25.Kind == (4 : Int)) else false) then (x26.Bad == (63 : Int)) else false) then (x27.Fetch == (1 : Int)) else false) then ((x23.1.Conns.length : Int) == (0 : Int)) else false), none⟩] [] []) ?_ ?_
       ·exact W
       exact W
      ·refine sn <| sj <| sj <| Or.inl <| NormE.to (ii (x23.2.1.length : Int)) (fun _ => len_list S_Act.av x23.2.1) <| bind_elim h fun x28 hx28 h => ai id ?_
       refine ai rfl (xi (S_Act.av x28) (ai (fun hg => gidx_map _ hx28 hg) ?_))
       refine ai id <| ai id <| ai id <| ai (fun hg => (and_r hg)) <| bind_elim h fun x29 hx29 h => ai id ?_
       refine ai rfl (xi (S_Act.av x29) (ai (fun hg => gidx_map _ hx29 hg) ?_))
       refine ai id <| ai id <| ai id <| ai (fun hg => (and_r hg)) <| bind_elim h fun x30 hx30 h => ai id ?_
       refine ai rfl (xi (S_Act.av x30) (ai (fun hg => gidx_map _ hx30 hg) ?_))
       refine ai id <| ai id <| ai id <| ai (fun hg => (and_r hg)) <| bind_elim h fun x31 hx31 h => ai id ?_
       refine ai rfl (xi (S_Act.av x31) (ai (fun hg => gidx_map _ hx31 hg) ?_))
       refine ai id <| ai id <| ai id <| ai id <| ai id <| ai (fun hg => (and_r hg)) <| ai (by kernel_rfl) ?_
       refine SeqN.via (St.of [⟨9, AV.ptr 1 0, none⟩, ⟨215, bb (bif (bif (bif (bif ((x23.2.1.length : Int) != (2 : Int)) then true else (x28.Kind != (1 : Int))) then true else (x29.Conn != (2 : Int))) then true else (x30.Kind != (2 : Int))) then true else (!(x31.Bytes == x2))), none⟩] [.dead, .cells 28 (S_Up.cells x23.1) []] []) ?_ ?_
       ·exact W
       refine Br.of h (fun ht h => ?_) fun ht h => ?_
       ·exact W
       ·refine sn <| sj <| ai ⟨lb rfl, lb rfl⟩ ?_
        refine xi none (ai rfl ?_)
        refine NormE.to (S_Up.av x23.1) (fun _ => rfl) <| bind_elim h fun x32 hx32 h => CallH.data _ false rfl ((upstream_Gone_ok E x23.1 (2 : Int) false).1 x32 hx32) <| sn <| sj <| ai id <| NormE.to (ii (x32.2.1.length : Int)) (fun _ => len_list S_Act.av x32.2.1) <| ai id <| ai (fun hg => (and_r hg)) <| bind_elim h fun x33 hx33 h => ai id ?_
        refine ai rfl (xi (S_Act.av x33) (ai (fun hg => gidx_map _ hx33 hg) ?_))
        refine ai id <| ai id <| ai id <| ai (fun hg => (and_r hg)) <| bind_elim h fun x34 hx34 h => ai id ?_
        refine ai rfl (xi (S_Act.av x34) (ai (fun hg => gidx_map _ hx34 hg) ?_))
        refine ai id <| ai id <| ai id <| ai (fun hg => (and_r hg)) ?_
        refine SeqN.via (St.of [⟨8, bb (bif (bif (bif (x32.2.2 == (0 : Int)) then ((x32.2.1.length : Int) == (1 : Int)) else false) then (x33.Kind == (4 : Int)) else false) then (x34.Bad == (63 : Int)) else false), none⟩] [] []) ?_ ?_
        ·exact W
        exact W
 ·refine sn <| sj <| ai ⟨lb rfl, lb rfl⟩ ?_
  refine xi (some 1327104) (ai (show aggT [(2, 2), (3, 3)] 0 4 = some 1327104 from by kernel_rfl) ?_)
  refine NormE.to (AV.agg [ii 0, ii 0, AV.list 29 (([] : List S_Conn).map S_Conn.av), AV.list 7 (([] : List S_Fetch).map S_Fetch.av)]) (fun _ => rfl) <| ai ⟨lb rfl, lb rfl⟩ ?_
  refine xi none (ai rfl ?_)
  refine NormE.to (AV.agg [ii 1, ss ([111] : Bytes), ss x2, ss ([71, 69, 84] : Bytes), bb a1, ii x1.Due, bb x1.Tried]) (fun _ => rfl) <| bind_elim h fun x35 hx35 h => CallH.data _ false rfl ((upstream_Ask_ok E (S_Up.mk (0 : Int) (0 : Int) ([] : List S_Conn) ([] : List S_Fetch)) (S_Fetch.mk (1 : Int) ([111] : Bytes) x2 ([71, 69, 84] : Bytes) a1 x1.Due x1.Tried)).1 x35 hx35) ?_
  refine ai ⟨rfl, rfl, rfl, lb rfl⟩ (xi (S_Up.cells x35.1) (ai (fun _ => rfl) ?_))
  refine sn <| sj <| sj <| Or.inl <| ai id <| ai id <| NormE.to (ii (x35.1.Conns.length : Int)) (fun _ => len_list S_Conn.av x35.1.Conns) <| ai id <| ai (fun hg => (and_r hg)) <| ai id <| bind_elim h fun x36 hx36 h => ai id ?_
  refine ai rfl (xi (S_Conn.av x36) (ai (fun hg => gidx_map _ hx36 hg) ?_))
  refine ai id <| ai id <| ai id <| ai (fun hg => (and_r hg)) <| ai id <| NormE.to (ii (x35.2.1.length : Int)) (fun _ => len_list S_Act.av x35.2.1) <| ai id <| ai (fun hg => (and_r hg)) <| ai id <| NormE.to (ii (x35.2.1.length : Int)) (fun _ => len_list S_Act.av x35.2.1) <| ai id <| bind_elim h fun x37 hx37 h => ai id <| ai id ?_
  refine ai rfl (xi (S_Act.av x37) (ai (fun hg => gidx_map _ hx37 hg) ?_))
  refine ai id <| ai id <| ai id <| ai id <| ai id <| ai (fun hg => (and_r hg)) <| ai (by kernel_rfl) ?_
  refine SeqN.via (St.of [⟨1, bb a1, none⟩, ⟨2, bb a2, none⟩, ⟨3, ss a3, none⟩, ⟨4, AV.ptr 0 0, none⟩, ⟨9, AV.ptr 1 0, none⟩, ⟨113, bb (bif (bif (bif (bif (x35.2.2 != (0 : Int)) then true else ((x35.1.Conns.length : Int) != (1 : Int))) then true else (x36.Id != (1 : Int))) then true else ((x35.2.1.length : Int) == (0 : Int))) then true else (!(x37.Bytes == x2))), none⟩] [.cells 23 [ii 1, ss ([111] : Bytes), ss x2, ss ([71, 69, 84] : Bytes), bb a1, ii x1.Due, bb x1.Tried] [], .cells 28 (S_Up.cells x35.1) []] []) ?_ ?_
  ·exact W
  refine Br.of h (fun ht h => ?_) fun ht h => ?_
  ·exact W
  ·refine sn <| sj <| NormE.same <| sn <| sj <| sj <| sn ?_
   refine Br.of h (fun ht h => ?_) fun ht h => ?_
   ·refine sj <| ai ⟨lb rfl, lb rfl⟩ ?_
    refine xi none (ai rfl ?_)
    refine NormE.to (S_Up.av x35.1) (fun _ => rfl) <| bind_elim h fun x38 hx38 h => CallH.data _ false rfl ((upstream_Recv_ok E x35.1 (1 : Int) ([72] : Bytes)).1 x38 hx38) <| ai rfl ?_
    refine ai ⟨rfl, rfl, rfl, lb rfl⟩ (xi (S_Up.cells x38.1) (ai (fun _ => rfl) ?_))
    refine sn <| sj <| sj <| ai id <| NormE.to (ii (x38.2.1.length : Int)) (fun _ => len_list S_Act.av x38.2.1) <| ai id <| ai (fun hg => (and_r hg)) ?_
    refine SeqN.via (St.of [⟨1, bb a1, none⟩, ⟨2, bb a2, none⟩, ⟨4, AV.ptr 0 0, none⟩, ⟨9, AV.ptr 1 0, none⟩, ⟨18, bb (decide ((a3.length : Int) > (0 : Int))), none⟩, ⟨19, AV.ptr 2 0, none⟩, ⟨130, bb (bif (x38.2.2 != (0 : Int)) then true else ((x38.2.1.length : Int) != (0 : Int))), none⟩] [.cells 23 [ii 1, ss ([111] : Bytes), ss x2, ss ([71, 69, 84] : Bytes), bb a1, ii x1.Due, bb x1.Tried] [], .cells 28 (S_Up.cells x35.1) [], .cells 28 (S_Up.cells x38.1) []] []) ?_ ?_
    ·exact W
    refine Br.of h (fun ht h => ?_) fun ht h => ?_
    ·exact W
    ·refine sn <| ai ⟨lb rfl, lb rfl⟩ ?_
     refine xi none (ai rfl ?_)
     refine NormE.to (S_Up.av x38.1) (fun _ => rfl) ?_
     refine ai ⟨rfl, rfl, rfl, lb rfl⟩ (xi (S_Up.cells x38.1) (ai (fun _ => rfl) ?_))
     refine sn <| sj <| ai ⟨lb rfl, lb rfl⟩ ?_
     refine xi none (ai rfl ?_)
     refine NormE.to (S_Up.av x38.1) (fun _ => rfl) <| bind_elim h fun x39 hx39 h => CallH.data _ false rfl ((upstream_Gone_ok E x38.1 (1 : Int) false).1 x39 hx39) ?_
     refine ai ⟨rfl, rfl, rfl, lb rfl⟩ (xi (S_Up.cells x39.1) (ai (fun _ => rfl) ?_))
     refine sn <| sj <| sj <| bind_elim h fun x40 hx40 h => ai rfl ?_
     refine CallF.mk _ false (fun hg => intarsialaw22_alive_ok E  x40 (gcall_some hx40 hg)) (ai rfl ?_)
     refine ai id <| ai (fun hg => (and_r hg)) ?_
     refine SeqN.via (St.of [⟨1, bb a1, none⟩, ⟨2, bb a2, none⟩, ⟨4, AV.ptr 0 0, none⟩, ⟨9, AV.ptr 1 0, none⟩, ⟨16, AV.list 13 (x39.2.1.map S_Act.av), none⟩, ⟨18, bb (decide ((a3.length : Int) > (0 : Int))), none⟩, ⟨143, bb (bif (x39.2.2 != (0 : Int)) then true else (!x40)), none⟩] [.cells 23 [ii 1, ss ([111] : Bytes), ss x2, ss ([71, 69, 84] : Bytes), bb a1, ii x1.Due, bb x1.Tried] [], .cells 28 (S_Up.cells x39.1) []] []) ?_ ?_
     ·exact W
     refine Br.of h (fun ht h => ?_) fun ht h => ?_
     ·exact W
     ·refine sn <| sj <| sj <| ai id <| ai (fun hg => (and_r hg)) <| ai (fun hg => (and_r hg)) <| sn ?_
      refine Br.of h (fun ht h => ?_) fun ht h => ?_
      ·refine sj <| NormE.to (ii (x39.2.1.length : Int)) (fun _ => len_list S_Act.av x39.2.1) <| bind_elim h fun x41 hx41 h => ai id ?_
       refine ai rfl (xi (S_Act.av x41) (ai (fun hg => gidx_map _ hx41 hg) ?_))
       refine ai id <| ai id <| ai id <| ai (fun hg => (and_r hg)) <| bind_elim h fun x42 hx42 h => ai id ?_
       refine ai rfl (xi (S_Act.av x42) (ai (fun hg => gidx_map _ hx42 hg) ?_))
       refine ai id <| ai id <| ai id <| ai (fun hg => (and_r hg)) <| bind_elim h fun x43 hx43 h => ai id ?_
       refine ai rfl (xi (S_Act.av x43) (ai (fun hg => gidx_map _ hx43 hg) ?_))
       refine ai id <| ai id <| ai id <| ai (fun hg => (and_r hg)) <| ai id <| ai id <| NormE.to (ii (x39.1.Conns.length : Int)) (fun _ => len_list S_Conn.av x39.1.Conns) <| ai id <| ai (fun hg => (and_r hg)) ?_
       refine SeqN.via (St.of [⟨8, bb (bif (bif (bif (bif ((x39.2.1.length : Int) == (1 : Int)) then (x41.Kind == (4 : Int)) else false) then (x42.Bad == (63 : Int)) else false) then (x43.Fetch == (1 : Int)) else false) then ((x39.1.Conns.length : Int) == (0 : Int)) else false), none⟩] [] []) ?_ ?_
       ·exact W
       exact W
      ·refine sn <| sj <| sj <| Or.inl <| NormE.to (ii (x39.2.1.length : Int)) (fun _ => len_list S_Act.av x39.2.1) <| bind_elim h fun x44 hx44 h => ai id ?_
       refine ai rfl (xi (S_Act.av x44) (ai (fun hg => gidx_map _ hx44 hg) ?_))
       refine ai id <| ai id <| ai id <| ai (fun hg => (and_r hg)) <| bind_elim h fun x45 hx45 h => ai id ?_
       refine ai rfl (xi (S_Act.av x45) (ai (fun hg => gidx_map _ hx45 hg) ?_))
       refine ai id <| ai id <| ai id <| ai (fun hg => (and_r hg)) <| bind_elim h fun x46 hx46 h => ai id ?_
       refine ai rfl (xi (S_Act.av x46) (ai (fun hg => gidx_map _ hx46 hg) ?_))
       refine ai id <| ai id <| ai id <| ai (fun hg => (and_r hg)) <| bind_elim h fun x47 hx47 h => ai id ?_
       refine ai rfl (xi (S_Act.av x47) (ai (fun hg => gidx_map _ hx47 hg) ?_))
       refine ai id <| ai id <| ai id <| ai id <| ai id <| ai (fun hg => (and_r hg)) <| ai (by kernel_rfl) ?_
       refine SeqN.via (St.of [⟨9, AV.ptr 1 0, none⟩, ⟨215, bb (bif (bif (bif (bif ((x39.2.1.length : Int) != (2 : Int)) then true else (x44.Kind != (1 : Int))) then true else (x45.Conn != (2 : Int))) then true else (x46.Kind != (2 : Int))) then true else (!(x47.Bytes == x2))), none⟩] [.dead, .cells 28 (S_Up.cells x39.1) []] []) ?_ ?_
       ·exact W
       refine Br.of h (fun ht h => ?_) fun ht h => ?_
       ·exact W
       ·refine sn <| sj <| ai ⟨lb rfl, lb rfl⟩ ?_
        refine xi none (ai rfl ?_)
        refine NormE.to (S_Up.av x39.1) (fun _ => rfl) <| bind_elim h fun x48 hx48 h => CallH.data _ false rfl ((upstream_Gone_ok E x39.1 (2 : Int) false).1 x48 hx48) <| sn <| sj <| ai id <| NormE.to (ii (x48.2.1.length : Int)) (fun _ => len_list S_Act.av x48.2.1) <| ai id <| ai (fun hg => (and_r hg)) <| bind_elim h fun x49 hx49 h => ai id ?_
        refine ai rfl (xi (S_Act.av x49) (ai (fun hg => gidx_map _ hx49 hg) ?_))
        refine ai id <| ai id <| ai id <| ai (fun hg => (and_r hg)) <| bind_elim h fun x50 hx50 h => ai id ?_
        refine ai rfl (xi (S_Act.av x50) (ai (fun hg => gidx_map _ hx50 hg) ?_))
        refine ai id <| ai id <| ai id <| ai (fun hg => (and_r hg)) ?_
        refine SeqN.via (St.of [⟨8, bb (bif (bif (bif (x48.2.2 == (0 : Int)) then ((x48.2.1.length : Int) == (1 : Int)) else false) then (x49.Kind == (4 : Int)) else false) then (x50.Bad == (63 : Int)) else false), none⟩] [] []) ?_ ?_
        ·exact W
        exact W
   ·refine sn <| sj <| ai ⟨lb rfl, lb rfl⟩ ?_
    refine xi none (ai rfl ?_)
    refine NormE.to (S_Up.av x35.1) (fun _ => rfl) <| bind_elim h fun x51 hx51 h => CallH.data _ false rfl ((upstream_Gone_ok E x35.1 (1 : Int) false).1 x51 hx51) ?_
    refine ai ⟨rfl, rfl, rfl, lb rfl⟩ (xi (S_Up.cells x51.1) (ai (fun _ => rfl) ?_))
    refine sn <| sj <| sj <| bind_elim h fun x52 hx52 h => ai rfl ?_
    refine CallF.mk _ false (fun hg => intarsialaw22_alive_ok E  x52 (gcall_some hx52 hg)) (ai rfl ?_)
    refine ai id <| ai (fun hg => (and_r hg)) ?_
    refine SeqN.via (St.of [⟨1, bb a1, none⟩, ⟨2, bb a2, none⟩, ⟨4, AV.ptr 0 0, none⟩, ⟨9, AV.ptr 1 0, none⟩, ⟨16, AV.list 13 (x51.2.1.map S_Act.av), none⟩, ⟨18, bb (decide ((a3.length : Int) > (0 : Int))), none⟩, ⟨143, bb (bif (x51.2.2 != (0 : Int)) then true else (!x52)), none⟩] [.cells 23 [ii 1, ss ([111] : Bytes), ss x2, ss ([71, 69, 84] : Bytes), bb a1, ii x1.Due, bb x1.Tried] [], .cells 28 (S_Up.cells x51.1) []] []) ?_ ?_
    ·exact W
    refine Br.of h (fun ht h => ?_) fun ht h => ?_
    ·exact W
    ·refine sn <| sj <| sj <| ai id <| ai (fun hg => (and_r hg)) <| ai (fun hg => (and_r hg)) <| sn ?_
     refine Br.of h (fun ht h => ?_) fun ht h => ?_
     ·refine sj <| NormE.to (ii (x51.2.1.length : Int)) (fun _ => len_list S_Act.av x51.2.1) <| bind_elim h fun x53 hx53 h => ai id ?_
      refine ai rfl (xi (S_Act.av x53) (ai (fun hg => gidx_map _ hx53 hg) ?_))
      refine ai id <| ai id <| ai id <| ai (fun hg => (and_r hg)) <| bind_elim h fun x54 hx54 h => ai id ?_
      refine ai rfl (xi (S_Act.av x54) (ai (fun hg => gidx_map _ hx54 hg) ?_))
      refine ai id <| ai id <| ai id <| ai (fun hg => (and_r hg)) <| bind_elim h fun x55 hx55 h => ai id ?_
      refine ai rfl (xi (S_Act.av x55) (ai (fun hg => gidx_map _ hx55 hg) ?_))
      refine ai id <| ai id <| ai id <| ai (fun hg => (and_r hg)) <| ai id <| ai id <| NormE.to (ii (x51.1.Conns.length : Int)) (fun _ => len_list S_Conn.av x51.1.Conns) <| ai id <| ai (fun hg => (and_r hg)) ?_
      refine SeqN.via (St.of [⟨8, bb (bif (bif (bif (bif ((x51.2.1.length : Int) == (1 : Int)) then (x53.Kind == (4 : Int)) else false) then (x54.Bad == (63 : Int)) else false) then (x55.Fetch == (1 : Int)) else false) then ((x51.1.Conns.length : Int) == (0 : Int)) else false), none⟩] [] []) ?_ ?_
      ·exact W
      exact W
     ·refine sn <| sj <| sj <| Or.inl <| NormE.to (ii (x51.2.1.length : Int)) (fun _ => len_list S_Act.av x51.2.1) <| bind_elim h fun x56 hx56 h => ai id ?_
      refine ai rfl (xi (S_Act.av x56) (ai (fun hg => gidx_map _ hx56 hg) ?_))
      refine ai id <| ai id <| ai id <| ai (fun hg => (and_r hg)) <| bind_elim h fun x57 hx57 h => ai id ?_
      refine ai rfl (xi (S_Act.av x57) (ai (fun hg => gidx_map _ hx57 hg) ?_))
      refine ai id <| ai id <| ai id <| ai (fun hg => (and_r hg)) <| bind_elim h fun x58 hx58 h => ai id ?_
      refine ai rfl (xi (S_Act.av x58) (ai (fun hg => gidx_map _ hx58 hg) ?_))
      refine ai id <| ai id <| ai id <| ai (fun hg => (and_r hg)) <| bind_elim h fun x59 hx59 h => ai id ?_
      refine ai rfl (xi (S_Act.av x59) (ai (fun hg => gidx_map _ hx59 hg) ?_))
      refine ai id <| ai id <| ai id <| ai id <| ai id <| ai (fun hg => (and_r hg)) <| ai (by kernel_rfl) ?_
      refine SeqN.via (St.of [⟨9, AV.ptr 1 0, none⟩, ⟨215, bb (bif (bif (bif (bif ((x51.2.1.length : Int) != (2 : Int)) then true else (x56.Kind != (1 : Int))) then true else (x57.Conn != (2 : Int))) then true else (x58.Kind != (2 : Int))) then true else (!(x59.Bytes == x2))), none⟩] [.dead, .cells 28 (S_Up.cells x51.1) []] []) ?_ ?_
      ·exact W
      refine Br.of h (fun ht h => ?_) fun ht h => ?_
      ·exact W
      ·refine sn <| sj <| ai ⟨lb rfl, lb rfl⟩ ?_
       refine xi none (ai rfl ?_)
       refine NormE.to (S_Up.av x51.1) (fun _ => rfl) <| bind_elim h fun x60 hx60 h => CallH.data _ false rfl ((upstream_Gone_ok E x51.1 (2 : Int) false).1 x60 hx60) <| sn <| sj <| ai id <| NormE.to (ii (x60.2.1.length : Int)) (fun _ => len_list S_Act.av x60.2.1) <| ai id <| ai (fun hg => (and_r hg)) <| bind_elim h fun x61 hx61 h => ai id ?_
       refine ai rfl (xi (S_Act.av x61) (ai (fun hg => gidx_map _ hx61 hg) ?_))
       refine ai id <| ai id <| ai id <| ai (fun hg => (and_r hg)) <| bind_elim h fun x62 hx62 h => ai id ?_
       refine ai rfl (xi (S_Act.av x62) (ai (fun hg => gidx_map _ hx62 hg) ?_))
       refine ai id <| ai id <| ai id <| ai (fun hg => (and_r hg)) ?_
       refine SeqN.via (St.of [⟨8, bb (bif (bif (bif (x60.2.2 == (0 : Int)) then ((x60.2.1.length : Int) == (1 : Int)) else false) then (x61.Kind == (4 : Int)) else false) then (x62.Bad == (63 : Int)) else false), none⟩] [] []) ?_ ?_
       ·exact W
       exact W
instance intarsialaw22_UpstreamAgain_ok_i (E : Pm.Env) [LaidM E] (a0 : S_Fetch) (a1 : Bool) (a2 : Bool) (a3 : Bytes) : Ok E (intarsialaw22_UpstreamAgain a0 a1 a2 a3) (fun r => FnR E Tryz.prog 3 [S_Fetch.av a0, bb a1, bb a2, ss a3] (bb r) false) := ⟨intarsialaw22_UpstreamAgain_ok E a0 a1 a2 a3⟩
end Go.Proofs.YtommkfooolabhaaGreatDoor
