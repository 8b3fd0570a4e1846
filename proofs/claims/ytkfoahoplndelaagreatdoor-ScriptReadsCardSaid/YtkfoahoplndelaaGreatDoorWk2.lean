/-
  The functions do what their images say: walks, written by a program of mine (gen.py).
-/
import Derived.Test.YtkfoahoplndelaaGreatDoorIm1
import Derived.Test.YtkfoahoplndelaaGreatDoorWk1
namespace Go.Proofs.YtkfoahoplndelaaGreatDoor
open Go Go.Pm
set_option maxRecDepth 100000
set_option maxHeartbeats 4000000
set_option linter.unusedVariables false

theorem script_Parse_ok (E : Pm.Env) [LaidE E] (a0 : Bytes) (r : (S_Plan × Int × Int)) (h : script_Parse a0 = some r) : FnR E Tryz.prog 15 [AV.str a0] (AV.tup [S_Plan.av (r.1), AV.int .i64 (r.2.1), AV.int .i64 (r.2.2)]) false := by
  refine FnR.of_ev (T := T) (rows := []) tOk mixed Tryz.func15 rfl (by kernel_rfl) (by kernel_rfl) rfl fun hwf => ?_
  unfold script_Parse at h
  refine SeqJ.go <| And.intro rfl <| SeqN.go <| SeqJ.go <| And.intro rfl <| SeqN.go <| SeqJ.go <| SeqJ.go <| SeqN.go ?_
  refine LoopE.img (fun x : (Bytes × Int × S_Plan) => St.of [⟨0, AV.str (x.1), none⟩, ⟨2, AV.ptr 0 0, none⟩, ⟨5, AV.ptr 1 0, none⟩, ⟨6, AV.int .i64 (x.2.1), none⟩] [.cells 25 [AV.str ([] : Bytes), AV.list 3 (([] : List S_Route).map S_Route.av), AV.list 4 (([] : List S_Deed).map S_Deed.av)] [(1, 0), (2, 1)], .cells 25 [AV.str ((x.2.2).Device), AV.list 3 (((x.2.2).Routes).map S_Route.av), AV.list 4 (((x.2.2).Deeds).map S_Deed.av)] [(1, 2), (2, 3)]] [1, 1, 1, 1]) (script_Parse_b1) (a0, (1 : Int), (S_Plan.mk ([] : Bytes) ([] : List S_Route) ([] : List S_Deed))) h ?_ ?_
  · refine Gho.to _ _ _ [0, 1, 2, 3] ?_ ?_ ?_ rfl rfl ?_
    · exact ⟨⟨rfl, rfl, rfl⟩, ⟨⟨rfl, rfl, rfl⟩, trivial⟩⟩
    · exact rfl
    · exact rfl
    · exact ⟨rfl, rfl, trivial, rfl, rfl, trivial, rfl, rfl, trivial, rfl, rfl, trivial, trivial⟩
  intro n1 x y1 h hl1 hr1
  obtain ⟨s1, s2, s3⟩ := x
  unfold script_Parse_b1 at h
  dsimp only at h
  refine SeqJ.go <| SeqJ.go <| And.intro (fun hg => hg) <| And.intro (fun hg => (and_r hg)) <| SeqN.go ?_
  refine Br.mk (fun ht => ?_) (fun ht => ?_)
  · replace h := cond_tt h ht
    refine SeqN.go <| SeqJ.go <| SeqJ.go <| bind_elim h fun x4 hx4 h => CallH.data _ false rfl (strings_Cut_ok E s1 ([10] : Bytes) x4 hx4) <| SeqN.go <| SeqJ.go ?_
    refine SeqN.via (St.of [⟨0, AV.str (x4.2.1), none⟩, ⟨2, AV.ptr 0 0, none⟩, ⟨5, AV.ptr 1 0, none⟩, ⟨6, AV.int .i64 s2, none⟩, ⟨7, AV.str (x4.1), none⟩, ⟨9, AV.bool (x4.2.2), none⟩] [.cells 25 [AV.str ([] : Bytes), AV.list 3 (([] : List S_Route).map S_Route.av), AV.list 4 (([] : List S_Deed).map S_Deed.av)] [(1, 0), (2, 1)], .cells 25 [AV.str (s3.Device), AV.list 3 ((s3.Routes).map S_Route.av), AV.list 4 ((s3.Deeds).map S_Deed.av)] [(1, 2), (2, 3)]] [1, 1, 1, 1]) ?_ ?_
    · refine Gho.to _ _ _ [0, 1, 2, 3] ?_ ?_ ?_ rfl rfl ?_
      · exact ⟨⟨rfl, rfl, rfl⟩, ⟨⟨rfl, rfl, rfl⟩, trivial⟩⟩
      · exact rfl
      · exact rfl
      · exact ⟨rfl, rfl, trivial, rfl, rfl, trivial, rfl, rfl, trivial, rfl, rfl, trivial, rfl, rfl, trivial, rfl, rfl, trivial, trivial⟩
    refine SeqJ.go <| bind_elim h fun x5 hx5 h => CallH.data _ false rfl (script_parse_ok E (x4.1) x5 hx5) <| And.intro rfl ?_
    refine And.intro ⟨rfl, rfl, rfl, Nat.le_of_ble_eq_true rfl⟩ (Exists.intro (S_Route.cells (x5.1)) (And.intro (fun _ => rfl) ?_))
    refine SeqN.go <| SeqJ.go <| bind_elim h fun x6 hx6 h => CallH.data _ false rfl (script_deed_ok E (x4.1) x6 hx6) <| And.intro rfl ?_
    refine And.intro ⟨rfl, rfl, rfl, Nat.le_of_ble_eq_true rfl⟩ (Exists.intro (S_Deed.cells x6) (And.intro (fun _ => rfl) ?_))
    refine SeqN.go <| SeqJ.go <| SeqJ.go <| SeqN.go ?_
    refine Br.mk (fun ht => ?_) (fun ht => ?_)
    · replace h := cond_tt h ht
      refine SeqJ.go <| bind_elim h fun x7 hx7 h => CallH.data _ false rfl (strings_TrimPrefix_ok E (x4.1) ([100, 101, 118, 105, 99, 101, 32] : Bytes) x7 hx7) ?_
      refine And.intro ⟨rfl, rfl, rfl, Nat.le_of_ble_eq_true rfl⟩ (Exists.intro [AV.str x7, AV.list 3 ((s3.Routes).map S_Route.av), AV.list 4 ((s3.Deeds).map S_Deed.av)] (And.intro (fun _ => rfl) ?_))
      refine SeqN.via (St.of [⟨0, AV.str (x4.2.1), none⟩, ⟨2, AV.ptr 0 0, none⟩, ⟨5, AV.ptr 1 0, none⟩, ⟨6, AV.int .i64 s2, none⟩, ⟨7, AV.str (x4.1), none⟩, ⟨9, AV.bool (x4.2.2), none⟩] [.cells 25 [AV.str ([] : Bytes), AV.list 3 (([] : List S_Route).map S_Route.av), AV.list 4 (([] : List S_Deed).map S_Deed.av)] [(1, 0), (2, 1)], .cells 25 [AV.str x7, AV.list 3 ((s3.Routes).map S_Route.av), AV.list 4 ((s3.Deeds).map S_Deed.av)] [(1, 2), (2, 3)]] [1, 1, 1, 1]) ?_ ?_
      · refine Gho.to _ _ _ [0, 1, 2, 3] ?_ ?_ ?_ rfl rfl ?_
        · exact ⟨⟨rfl, rfl, rfl⟩, ⟨⟨rfl, rfl, rfl⟩, trivial⟩⟩
        · exact rfl
        · exact rfl
        · exact ⟨rfl, rfl, trivial, rfl, rfl, trivial, rfl, rfl, trivial, rfl, rfl, trivial, rfl, rfl, trivial, rfl, rfl, trivial, trivial⟩
      refine And.intro (fun hg => hg) <| bind_elim h fun x8 hx8 h => And.intro (fun hg => hg) <| And.intro rfl ?_
      refine CallF.mk _ false (fun hg => script_device_ok E x7 x8 (gcall_some hx8 hg)) (And.intro rfl ?_)
      refine And.intro (fun hg => (and_r hg)) <| And.intro (fun hg => hg) <| bind_elim h fun x9 hx9 h => ?_
      have hx9c := (gcat_some hx9).1
      have hx9e := (gcat_some hx9).2
      refine And.intro (fun hg => hg) <| And.intro hx9c <| NormE.to (AV.str x9) (fun _ => congrArg AV.str hx9e.symm) <| And.intro (fun hg => hg) <| And.intro (fun hg => hg) <| And.intro (fun hg => (and_r hg)) <| SeqN.go <| SeqJ.go ?_
      refine SeqN.via (St.of [⟨0, AV.str (x4.2.1), none⟩, ⟨2, AV.ptr 0 0, none⟩, ⟨5, AV.ptr 1 0, none⟩, ⟨6, AV.int .i64 s2, none⟩, ⟨98, AV.bool (!(bif (bif x4.2.2 then x8 else false) then (x9 == x4.1) else false)), none⟩] [.cells 25 [AV.str ([] : Bytes), AV.list 3 (([] : List S_Route).map S_Route.av), AV.list 4 (([] : List S_Deed).map S_Deed.av)] [(1, 0), (2, 1)], .cells 25 [AV.str x7, AV.list 3 ((s3.Routes).map S_Route.av), AV.list 4 ((s3.Deeds).map S_Deed.av)] [(1, 2), (2, 3)]] [1, 1, 1, 1]) ?_ ?_
      · refine Gho.to _ _ _ [0, 1, 2, 3] ?_ ?_ ?_ rfl rfl ?_
        · exact ⟨⟨rfl, rfl, rfl⟩, ⟨⟨rfl, rfl, rfl⟩, trivial⟩⟩
        · exact rfl
        · exact rfl
        · exact ⟨rfl, rfl, trivial, rfl, rfl, trivial, rfl, rfl, trivial, rfl, rfl, trivial, rfl, rfl, trivial, trivial⟩
      refine Br.mk (fun ht => ?_) (fun ht => ?_)
      · replace h := cond_tt h ht
        refine SeqJ.go ?_
        refine And.intro ⟨rfl, rfl, rfl, Nat.le_of_ble_eq_true rfl⟩ (Exists.intro [AV.str ([] : Bytes), AV.list 3 (([] : List S_Route).map S_Route.av), AV.list 4 (([] : List S_Deed).map S_Deed.av)] (And.intro (fun _ => rfl) ?_))
        refine SeqN.go ?_
        replace h := Option.some.inj h
        replace h := hr1 _ h.symm
        refine RetE.plain ?_
        refine And.intro ⟨Nat.le_of_ble_eq_true rfl, Nat.le_of_ble_eq_true rfl⟩ (Exists.intro (AV.agg [AV.str ([] : Bytes), AV.list 3 (([] : List S_Route).map S_Route.av), AV.list 4 (([] : List S_Deed).map S_Deed.av)]) (And.intro rfl ?_))
        exact And.intro rfl (And.intro (congrArg (fun r : (S_Plan × Int × Int) => AV.tup [S_Plan.av (r.1), AV.int .i64 (r.2.1), AV.int .i64 (r.2.2)]) h) rfl)
      · replace h := cond_ff h ht
        refine SeqN.go ?_
        replace h := Option.some.inj h
        refine Exists.intro ⟨(n1, ((x4.2.1), (IntKind.i64.wrap (s2 + (1 : Int))), (S_Plan.mk x7 (s3.Routes) (s3.Deeds)))), hl1 _ h.symm⟩ (And.intro (Nat.lt_succ_self _) ?_)
        refine Gho.to _ _ _ [0, 1, 2, 3] ?_ ?_ ?_ rfl rfl ?_
        · exact ⟨⟨rfl, rfl, rfl⟩, ⟨⟨rfl, rfl, rfl⟩, trivial⟩⟩
        · exact rfl
        · exact rfl
        · exact ⟨rfl, rfl, trivial, rfl, rfl, trivial, rfl, rfl, trivial, rfl, rfl, trivial, trivial⟩
    · replace h := cond_ff h ht
      refine SeqJ.go <| And.intro (fun hg => hg) <| And.intro (fun hg => hg) <| NormE.to (AV.int .i64 ((s3.Deeds).length : Int)) (fun _ => len_list S_Deed.av (s3.Deeds)) <| And.intro (fun hg => hg) <| And.intro (fun hg => (and_r hg)) ?_
      refine SeqN.via (St.of [⟨0, AV.str (x4.2.1), none⟩, ⟨2, AV.ptr 0 0, none⟩, ⟨5, AV.ptr 1 0, none⟩, ⟨6, AV.int .i64 s2, none⟩, ⟨7, AV.str (x4.1), none⟩, ⟨9, AV.bool (x4.2.2), none⟩, ⟨10, AV.ptr 2 0, none⟩, ⟨12, AV.ptr 3 0, none⟩, ⟨77, AV.bool (bif x5.2 then (((s3.Deeds).length : Int) == (0 : Int)) else false), none⟩] [.cells 25 [AV.str ([] : Bytes), AV.list 3 (([] : List S_Route).map S_Route.av), AV.list 4 (([] : List S_Deed).map S_Deed.av)] [(1, 0), (2, 1)], .cells 25 [AV.str (s3.Device), AV.list 3 ((s3.Routes).map S_Route.av), AV.list 4 ((s3.Deeds).map S_Deed.av)] [(1, 2), (2, 3)], .cells 92 (S_Route.cells (x5.1)) [], .cells 94 (S_Deed.cells x6) []] [1, 1, 1, 1]) ?_ ?_
      · refine Gho.to _ _ _ [0, 1, 2, 3] ?_ ?_ ?_ rfl rfl ?_
        · exact ⟨⟨rfl, rfl, rfl⟩, ⟨⟨rfl, rfl, rfl⟩, ⟨⟨rfl, rfl, rfl⟩, ⟨⟨rfl, rfl, rfl⟩, trivial⟩⟩⟩⟩
        · exact rfl
        · exact rfl
        · exact ⟨rfl, rfl, trivial, rfl, rfl, trivial, rfl, rfl, trivial, rfl, rfl, trivial, rfl, rfl, trivial, rfl, rfl, trivial, rfl, rfl, trivial, rfl, rfl, trivial, rfl, rfl, trivial, trivial⟩
      refine Br.mk (fun ht => ?_) (fun ht => ?_)
      · replace h := cond_tt h ht
        refine SeqJ.go <| And.intro ⟨Nat.le_of_ble_eq_true rfl, Nat.le_of_ble_eq_true rfl⟩ <| NormE.to (S_Route.av (x5.1)) (fun _ => rfl) <| And.intro ⟨rfl, rfl, rfl, rfl⟩ <| And.intro ⟨rfl, rfl, rfl⟩ <| NormE.to (AV.list 3 (([(x5.1)] : List S_Route).map S_Route.av)) (fun _ => rfl) <| bind_elim h fun x10 hx10 h => ?_
        have qx10 := (app_some hx10).1
        have hx10e := (app_some hx10).2
        refine And.intro ⟨rfl, rfl, rfl⟩ <| And.intro rfl <| And.intro (app_cond S_Route.av qx10) <| NormE.to (AV.list 3 (x10.map S_Route.av)) (fun _ => (app_list 3 S_Route.av _ _).trans (congrArg (fun y => AV.list 3 (List.map S_Route.av y)) hx10e.symm)) ?_
        refine And.intro ⟨rfl, rfl, rfl, Nat.le_of_ble_eq_true rfl⟩ (Exists.intro [AV.str (s3.Device), AV.list 3 (x10.map S_Route.av), AV.list 4 ((s3.Deeds).map S_Deed.av)] (And.intro (fun _ => rfl) ?_))
        refine SeqN.go <| And.intro (fun hg => hg) <| bind_elim h fun x11 hx11 h => And.intro (fun hg => hg) <| And.intro rfl ?_
        refine CallF.mk _ false (fun hg => route_Right_ok E x10 x11 (gcall_some hx11 hg)) (And.intro rfl ?_)
        refine And.intro (fun hg => (and_r hg)) <| SeqN.go <| SeqJ.go ?_
        refine SeqN.via (St.of [⟨0, AV.str (x4.2.1), none⟩, ⟨2, AV.ptr 0 0, none⟩, ⟨5, AV.ptr 1 0, none⟩, ⟨6, AV.int .i64 s2, none⟩, ⟨98, AV.bool (!(bif x4.2.2 then x11 else false)), none⟩] [.cells 25 [AV.str ([] : Bytes), AV.list 3 (([] : List S_Route).map S_Route.av), AV.list 4 (([] : List S_Deed).map S_Deed.av)] [(1, 0), (2, 1)], .cells 25 [AV.str (s3.Device), AV.list 3 (x10.map S_Route.av), AV.list 4 ((s3.Deeds).map S_Deed.av)] [(1, 2), (2, 3)]] [1, 1, 1, 1]) ?_ ?_
        · refine Gho.to _ _ _ [0, 1, 5, 3] ?_ ?_ ?_ rfl rfl ?_
          · exact ⟨⟨rfl, rfl, rfl⟩, ⟨⟨rfl, rfl, rfl⟩, trivial⟩⟩
          · exact rfl
          · exact rfl
          · exact ⟨rfl, rfl, trivial, rfl, rfl, trivial, rfl, rfl, trivial, rfl, rfl, trivial, rfl, rfl, trivial, trivial⟩
        refine Br.mk (fun ht => ?_) (fun ht => ?_)
        · replace h := cond_tt h ht
          refine SeqJ.go ?_
          refine And.intro ⟨rfl, rfl, rfl, Nat.le_of_ble_eq_true rfl⟩ (Exists.intro [AV.str ([] : Bytes), AV.list 3 (([] : List S_Route).map S_Route.av), AV.list 4 (([] : List S_Deed).map S_Deed.av)] (And.intro (fun _ => rfl) ?_))
          refine SeqN.go ?_
          replace h := Option.some.inj h
          replace h := hr1 _ h.symm
          refine RetE.plain ?_
          refine And.intro ⟨Nat.le_of_ble_eq_true rfl, Nat.le_of_ble_eq_true rfl⟩ (Exists.intro (AV.agg [AV.str ([] : Bytes), AV.list 3 (([] : List S_Route).map S_Route.av), AV.list 4 (([] : List S_Deed).map S_Deed.av)]) (And.intro rfl ?_))
          exact And.intro rfl (And.intro (congrArg (fun r : (S_Plan × Int × Int) => AV.tup [S_Plan.av (r.1), AV.int .i64 (r.2.1), AV.int .i64 (r.2.2)]) h) rfl)
        · replace h := cond_ff h ht
          refine SeqN.go ?_
          replace h := Option.some.inj h
          refine Exists.intro ⟨(n1, ((x4.2.1), (IntKind.i64.wrap (s2 + (1 : Int))), (S_Plan.mk (s3.Device) x10 (s3.Deeds)))), hl1 _ h.symm⟩ (And.intro (Nat.lt_succ_self _) ?_)
          refine Gho.to _ _ _ [0, 1, 2, 3] ?_ ?_ ?_ rfl rfl ?_
          · exact ⟨⟨rfl, rfl, rfl⟩, ⟨⟨rfl, rfl, rfl⟩, trivial⟩⟩
          · exact rfl
          · exact rfl
          · exact ⟨rfl, rfl, trivial, rfl, rfl, trivial, rfl, rfl, trivial, rfl, rfl, trivial, trivial⟩
      · replace h := cond_ff h ht
        refine SeqJ.go <| And.intro ⟨Nat.le_of_ble_eq_true rfl, Nat.le_of_ble_eq_true rfl⟩ <| NormE.to (S_Deed.av x6) (fun _ => rfl) <| And.intro ⟨rfl, rfl, rfl, rfl⟩ <| And.intro ⟨rfl, rfl, rfl⟩ <| NormE.to (AV.list 4 (([x6] : List S_Deed).map S_Deed.av)) (fun _ => rfl) <| bind_elim h fun x12 hx12 h => ?_
        have qx12 := (app_some hx12).1
        have hx12e := (app_some hx12).2
        refine And.intro ⟨rfl, rfl, rfl⟩ <| And.intro rfl <| And.intro (app_cond S_Deed.av qx12) <| NormE.to (AV.list 4 (x12.map S_Deed.av)) (fun _ => (app_list 4 S_Deed.av _ _).trans (congrArg (fun y => AV.list 4 (List.map S_Deed.av y)) hx12e.symm)) ?_
        refine And.intro ⟨rfl, rfl, rfl, Nat.le_of_ble_eq_true rfl⟩ (Exists.intro [AV.str (s3.Device), AV.list 3 ((s3.Routes).map S_Route.av), AV.list 4 (x12.map S_Deed.av)] (And.intro (fun _ => rfl) ?_))
        refine SeqN.go <| And.intro (fun hg => hg) <| And.intro (fun hg => hg) <| NormE.to (AV.int .i64 (x12.length : Int)) (fun _ => len_list S_Deed.av x12) <| And.intro (fun hg => hg) <| And.intro (fun hg => (and_r hg)) <| And.intro ⟨Nat.le_of_ble_eq_true rfl, Nat.le_of_ble_eq_true rfl⟩ <| NormE.to (S_Deed.av x6) (fun _ => rfl) <| bind_elim h fun x13 hx13 h => And.intro (fun hg => hg) <| And.intro rfl ?_
        refine CallF.mk _ false (fun hg => script_right_ok E x6 x13 (gcall_some hx13 hg)) (And.intro rfl ?_)
        refine And.intro (fun hg => (and_r hg)) <| And.intro ⟨Nat.le_of_ble_eq_true rfl, Nat.le_of_ble_eq_true rfl⟩ <| NormE.to (S_Deed.av x6) (fun _ => rfl) <| bind_elim h fun x14 hx14 h => And.intro (fun hg => hg) <| And.intro rfl ?_
        refine CallF.mk _ false (fun hg => script_line_ok E x6 x14 (gcall_some hx14 hg)) (And.intro rfl ?_)
        refine And.intro (fun hg => hg) <| And.intro (fun hg => hg) <| And.intro (fun hg => (and_r hg)) ?_
        refine SeqN.via (St.of [⟨0, AV.str (x4.2.1), none⟩, ⟨2, AV.ptr 0 0, none⟩, ⟨5, AV.ptr 1 0, none⟩, ⟨6, AV.int .i64 s2, none⟩, ⟨9, AV.bool (bif (bif (bif x4.2.2 then (decide ((x12.length : Int) ≤ (200 : Int))) else false) then x13 else false) then (x14 == x4.1) else false), none⟩] [.cells 25 [AV.str ([] : Bytes), AV.list 3 (([] : List S_Route).map S_Route.av), AV.list 4 (([] : List S_Deed).map S_Deed.av)] [(1, 0), (2, 1)], .cells 25 [AV.str (s3.Device), AV.list 3 ((s3.Routes).map S_Route.av), AV.list 4 (x12.map S_Deed.av)] [(1, 2), (2, 3)]] [1, 1, 1, 1]) ?_ ?_
        · refine Gho.to _ _ _ [0, 1, 2, 5] ?_ ?_ ?_ rfl rfl ?_
          · exact ⟨⟨rfl, rfl, rfl⟩, ⟨⟨rfl, rfl, rfl⟩, trivial⟩⟩
          · exact rfl
          · exact rfl
          · exact ⟨rfl, rfl, trivial, rfl, rfl, trivial, rfl, rfl, trivial, rfl, rfl, trivial, rfl, rfl, trivial, trivial⟩
        refine SeqJ.go <| SeqN.go ?_
        refine Br.mk (fun ht => ?_) (fun ht => ?_)
        · replace h := cond_tt h ht
          refine SeqJ.go ?_
          refine And.intro ⟨rfl, rfl, rfl, Nat.le_of_ble_eq_true rfl⟩ (Exists.intro [AV.str ([] : Bytes), AV.list 3 (([] : List S_Route).map S_Route.av), AV.list 4 (([] : List S_Deed).map S_Deed.av)] (And.intro (fun _ => rfl) ?_))
          refine SeqN.go ?_
          replace h := Option.some.inj h
          replace h := hr1 _ h.symm
          refine RetE.plain ?_
          refine And.intro ⟨Nat.le_of_ble_eq_true rfl, Nat.le_of_ble_eq_true rfl⟩ (Exists.intro (AV.agg [AV.str ([] : Bytes), AV.list 3 (([] : List S_Route).map S_Route.av), AV.list 4 (([] : List S_Deed).map S_Deed.av)]) (And.intro rfl ?_))
          exact And.intro rfl (And.intro (congrArg (fun r : (S_Plan × Int × Int) => AV.tup [S_Plan.av (r.1), AV.int .i64 (r.2.1), AV.int .i64 (r.2.2)]) h) rfl)
        · replace h := cond_ff h ht
          refine SeqN.go ?_
          replace h := Option.some.inj h
          refine Exists.intro ⟨(n1, ((x4.2.1), (IntKind.i64.wrap (s2 + (1 : Int))), (S_Plan.mk (s3.Device) (s3.Routes) x12))), hl1 _ h.symm⟩ (And.intro (Nat.lt_succ_self _) ?_)
          refine Gho.to _ _ _ [0, 1, 2, 3] ?_ ?_ ?_ rfl rfl ?_
          · exact ⟨⟨rfl, rfl, rfl⟩, ⟨⟨rfl, rfl, rfl⟩, trivial⟩⟩
          · exact rfl
          · exact rfl
          · exact ⟨rfl, rfl, trivial, rfl, rfl, trivial, rfl, rfl, trivial, rfl, rfl, trivial, trivial⟩
  · replace h := cond_ff h ht
    refine SeqN.go <| SeqJ.go <| And.intro ⟨Nat.le_of_ble_eq_true rfl, Nat.le_of_ble_eq_true rfl⟩ <| NormE.to (AV.agg [AV.str (s3.Device), AV.list 3 ((s3.Routes).map S_Route.av), AV.list 4 ((s3.Deeds).map S_Deed.av)]) (fun _ => rfl) ?_
    refine And.intro ⟨rfl, rfl, rfl, Nat.le_of_ble_eq_true rfl⟩ (Exists.intro [AV.str (s3.Device), AV.list 3 ((s3.Routes).map S_Route.av), AV.list 4 ((s3.Deeds).map S_Deed.av)] (And.intro (fun _ => rfl) ?_))
    refine SeqN.go ?_
    replace h := Option.some.inj h
    replace h := hr1 _ h.symm
    refine RetE.plain ?_
    refine And.intro ⟨Nat.le_of_ble_eq_true rfl, Nat.le_of_ble_eq_true rfl⟩ (Exists.intro (AV.agg [AV.str (s3.Device), AV.list 3 ((s3.Routes).map S_Route.av), AV.list 4 ((s3.Deeds).map S_Deed.av)]) (And.intro rfl ?_))
    exact And.intro rfl (And.intro (congrArg (fun r : (S_Plan × Int × Int) => AV.tup [S_Plan.av (r.1), AV.int .i64 (r.2.1), AV.int .i64 (r.2.2)]) h) rfl)

theorem intarsiaref25_Like_ok (E : Pm.Env) [LaidE E] (a0 : S_Plan) (a1 : S_Plan) (r : Bool) (h : intarsiaref25_Like a0 a1 = some r) : FnR E Tryz.prog 16 [S_Plan.av a0, S_Plan.av a1] (AV.bool r) false := by
  refine FnR.of_ev (T := T) (rows := []) tOk mixed Tryz.func16 rfl (by kernel_rfl) (by kernel_rfl) rfl fun hwf => ?_
  unfold intarsiaref25_Like at h
  refine SeqJ.go <| And.intro rfl <| And.intro rfl <| SeqN.go <| SeqJ.go <| SeqJ.go <| And.intro (fun hg => hg) <| And.intro (fun hg => hg) <| NormE.to (AV.int .i64 ((a0.Routes).length : Int)) (fun _ => len_list S_Route.av (a0.Routes)) <| And.intro (fun hg => hg) <| And.intro (fun hg => hg) <| NormE.to (AV.int .i64 ((a1.Routes).length : Int)) (fun _ => len_list S_Route.av (a1.Routes)) <| And.intro (fun hg => hg) <| And.intro (fun hg => hg) <| And.intro (fun hg => (and_r hg)) <| And.intro (fun hg => hg) <| And.intro (fun hg => hg) <| NormE.to (AV.int .i64 ((a0.Deeds).length : Int)) (fun _ => len_list S_Deed.av (a0.Deeds)) <| And.intro (fun hg => hg) <| And.intro (fun hg => hg) <| NormE.to (AV.int .i64 ((a1.Deeds).length : Int)) (fun _ => len_list S_Deed.av (a1.Deeds)) <| And.intro (fun hg => hg) <| And.intro (fun hg => hg) <| And.intro (fun hg => (and_r hg)) ?_
  refine SeqN.via (St.of [⟨2, AV.ptr 0 0, none⟩, ⟨3, AV.ptr 1 0, none⟩, ⟨29, AV.bool (bif (bif (!(a0.Device == a1.Device)) then true else (((a0.Routes).length : Int) != ((a1.Routes).length : Int))) then true else (((a0.Deeds).length : Int) != ((a1.Deeds).length : Int))), none⟩] [.cells 25 (S_Plan.cells a0) [], .cells 25 (S_Plan.cells a1) []] []) ?_ ?_
  · refine Gho.to _ _ _ [] ?_ ?_ ?_ rfl rfl ?_
    · exact ⟨⟨rfl, rfl, rfl⟩, ⟨⟨rfl, rfl, rfl⟩, trivial⟩⟩
    · exact rfl
    · exact rfl
    · exact ⟨rfl, rfl, trivial, rfl, rfl, trivial, rfl, rfl, trivial, trivial⟩
  refine Br.mk (fun ht => ?_) (fun ht => ?_)
  · replace h := cond_tt h ht
    refine SeqJ.go <| SeqN.go ?_
    replace h := Option.some.inj h
    refine RetE.plain ?_
    exact And.intro rfl (And.intro (congrArg (fun r : Bool => AV.bool r) h) rfl)
  · replace h := cond_ff h ht
    refine SeqN.go <| SeqJ.go <| SeqJ.go <| NormE.to (AV.int .i64 ((a0.Routes).length : Int)) (fun _ => len_list S_Route.av (a0.Routes)) <| SeqN.go ?_
    refine LoopE.img (fun x : Int => St.of [⟨2, AV.ptr 0 0, none⟩, ⟨3, AV.ptr 1 0, none⟩, ⟨32, AV.int .i64 ((a0.Routes).length : Int), none⟩, ⟨33, AV.int .i64 x, none⟩] [.cells 25 (S_Plan.cells a0) [], .cells 25 (S_Plan.cells a1) []] []) (intarsiaref25_Like_b1 a0 a1) (0 : Int) h ?_ ?_
    · refine Gho.to _ _ _ [] ?_ ?_ ?_ rfl rfl ?_
      · exact ⟨⟨rfl, rfl, rfl⟩, ⟨⟨rfl, rfl, rfl⟩, trivial⟩⟩
      · exact rfl
      · exact rfl
      · exact ⟨rfl, rfl, trivial, rfl, rfl, trivial, rfl, rfl, trivial, rfl, rfl, trivial, trivial⟩
    intro n1 x y1 h hl1 hr1
    revert h; revert x; intro s1 h
    unfold intarsiaref25_Like_b1 at h
    refine SeqJ.go <| SeqN.go <| SeqJ.go ?_
    refine Br.mk (fun ht => ?_) (fun ht => ?_)
    · replace h := cond_tt h ht
      refine SeqN.go <| SeqJ.go <| SeqJ.go <| SeqN.go <| SeqJ.go <| bind_elim h fun x2 hx2 h => ?_
      refine And.intro rfl (Exists.intro (S_Route.av x2) (And.intro (fun hg => idx_map _ hx2) ?_))
      refine And.intro (Nat.le_of_ble_eq_true rfl) <| NormE.to (S_Route.av x2) (fun _ => rfl) <| bind_elim h fun x3 hx3 h => ?_
      refine And.intro rfl (Exists.intro (S_Route.av x3) (And.intro (fun hg => idx_map _ hx3) ?_))
      refine And.intro (Nat.le_of_ble_eq_true rfl) <| NormE.to (S_Route.av x3) (fun _ => rfl) <| And.intro rfl <| And.intro (by kernel_rfl) <| SeqN.go ?_
      refine Br.mk (fun ht => ?_) (fun ht => ?_)
      · replace h := cond_tt h ht
        refine SeqJ.go <| SeqN.go ?_
        replace h := Option.some.inj h
        replace h := hr1 _ h.symm
        refine RetE.plain ?_
        exact And.intro rfl (And.intro (congrArg (fun r : Bool => AV.bool r) h) rfl)
      · replace h := cond_ff h ht
        refine SeqN.go ?_
        replace h := Option.some.inj h
        refine Exists.intro ⟨(n1, (IntKind.i64.wrap (s1 + (1 : Int)))), hl1 _ h.symm⟩ (And.intro (Nat.lt_succ_self _) ?_)
        refine Gho.to _ _ _ [] ?_ ?_ ?_ rfl rfl ?_
        · exact ⟨⟨rfl, rfl, rfl⟩, ⟨⟨rfl, rfl, rfl⟩, trivial⟩⟩
        · exact rfl
        · exact rfl
        · exact ⟨rfl, rfl, trivial, rfl, rfl, trivial, rfl, rfl, trivial, rfl, rfl, trivial, trivial⟩
    · replace h := cond_ff h ht
      refine SeqN.go <| SeqJ.go <| SeqJ.go <| NormE.to (AV.int .i64 ((a0.Deeds).length : Int)) (fun _ => len_list S_Deed.av (a0.Deeds)) <| SeqN.go ?_
      refine LoopE.img (fun x : Int => St.of [⟨2, AV.ptr 0 0, none⟩, ⟨3, AV.ptr 1 0, none⟩, ⟨50, AV.int .i64 ((a0.Deeds).length : Int), none⟩, ⟨51, AV.int .i64 x, none⟩] [.cells 25 (S_Plan.cells a0) [], .cells 25 (S_Plan.cells a1) []] []) (intarsiaref25_Like_b2 a0 a1) (0 : Int) h ?_ ?_
      · refine Gho.to _ _ _ [] ?_ ?_ ?_ rfl rfl ?_
        · exact ⟨⟨rfl, rfl, rfl⟩, ⟨⟨rfl, rfl, rfl⟩, trivial⟩⟩
        · exact rfl
        · exact rfl
        · exact ⟨rfl, rfl, trivial, rfl, rfl, trivial, rfl, rfl, trivial, rfl, rfl, trivial, trivial⟩
      intro n2 x y2 h hl2 hr2
      revert h; revert x; intro s4 h
      unfold intarsiaref25_Like_b2 at h
      refine SeqJ.go <| SeqN.go <| SeqJ.go ?_
      refine Br.mk (fun ht => ?_) (fun ht => ?_)
      · replace h := cond_tt h ht
        refine SeqN.go <| SeqJ.go <| SeqJ.go <| SeqN.go <| SeqJ.go <| bind_elim h fun x5 hx5 h => ?_
        refine And.intro rfl (Exists.intro (S_Deed.av x5) (And.intro (fun hg => idx_map _ hx5) ?_))
        refine And.intro (Nat.le_of_ble_eq_true rfl) <| NormE.to (S_Deed.av x5) (fun _ => rfl) <| bind_elim h fun x6 hx6 h => ?_
        refine And.intro rfl (Exists.intro (S_Deed.av x6) (And.intro (fun hg => idx_map _ hx6) ?_))
        refine And.intro (Nat.le_of_ble_eq_true rfl) <| NormE.to (S_Deed.av x6) (fun _ => rfl) <| And.intro rfl <| And.intro (by kernel_rfl) <| SeqN.go ?_
        refine Br.mk (fun ht => ?_) (fun ht => ?_)
        · replace h := cond_tt h ht
          refine SeqJ.go <| SeqN.go ?_
          replace h := Option.some.inj h
          replace h := hr2 _ h.symm
          replace h := hr1 _ h.symm
          refine RetE.plain ?_
          exact And.intro rfl (And.intro (congrArg (fun r : Bool => AV.bool r) h) rfl)
        · replace h := cond_ff h ht
          refine SeqN.go ?_
          replace h := Option.some.inj h
          refine Exists.intro ⟨(n2, (IntKind.i64.wrap (s4 + (1 : Int)))), hl2 _ h.symm⟩ (And.intro (Nat.lt_succ_self _) ?_)
          refine Gho.to _ _ _ [] ?_ ?_ ?_ rfl rfl ?_
          · exact ⟨⟨rfl, rfl, rfl⟩, ⟨⟨rfl, rfl, rfl⟩, trivial⟩⟩
          · exact rfl
          · exact rfl
          · exact ⟨rfl, rfl, trivial, rfl, rfl, trivial, rfl, rfl, trivial, rfl, rfl, trivial, trivial⟩
      · replace h := cond_ff h ht
        refine SeqN.go <| SeqJ.go <| SeqN.go ?_
        replace h := Option.some.inj h
        replace h := hr2 _ h.symm
        replace h := hr1 _ h.symm
        refine RetE.plain ?_
        exact And.intro rfl (And.intro (congrArg (fun r : Bool => AV.bool r) h) rfl)

theorem intarsialaw25_alive_ok (E : Pm.Env) [LaidE E] (r : Bool) (h : intarsialaw25_alive = some r) : FnR E Tryz.prog 17 [] (AV.bool r) false := by
  refine FnR.of_ev (T := T) (rows := []) tOk mixed Tryz.func17 rfl (by kernel_rfl) (by kernel_rfl) rfl fun hwf => ?_
  unfold intarsialaw25_alive at h
  refine SeqJ.go <| SeqN.go <| SeqJ.go <| bind_elim h fun x1 hx1 h => CallH.data _ false rfl (script_Parse_ok E ([100, 101, 118, 105, 99, 101, 32, 100, 10, 114, 111, 117, 116, 101, 32, 45, 32, 47, 32, 111, 10] : Bytes) x1 hx1) <| And.intro rfl ?_
  refine And.intro ⟨rfl, rfl, rfl, Nat.le_of_ble_eq_true rfl⟩ (Exists.intro (S_Plan.cells (x1.1)) (And.intro (fun _ => rfl) ?_))
  refine SeqN.go <| SeqJ.go <| And.intro ⟨Nat.le_of_ble_eq_true rfl, Nat.le_of_ble_eq_true rfl⟩ <| NormE.to (S_Plan.av (x1.1)) (fun _ => rfl) <| bind_elim h fun x2 hx2 h => And.intro (fun hg => hg) <| And.intro rfl ?_
  refine CallF.mk _ false (fun hg => script_Right_ok E (x1.1) x2 (gcall_some hx2 hg)) (And.intro rfl ?_)
  refine And.intro (fun hg => (and_r hg)) <| And.intro (fun hg => hg) <| And.intro (fun hg => hg) <| And.intro (fun hg => (and_r hg)) <| And.intro (fun hg => hg) <| And.intro (fun hg => hg) <| NormE.to (AV.int .i64 (((x1.1).Routes).length : Int)) (fun _ => len_list S_Route.av ((x1.1).Routes)) <| And.intro (fun hg => hg) <| And.intro (fun hg => (and_r hg)) ?_
  refine SeqN.via (St.of [⟨0, AV.bool (bif (bif (bif ((x1.2.1) == (0 : Int)) then x2 else false) then ((x1.1).Device == ([100] : Bytes)) else false) then ((((x1.1).Routes).length : Int) == (1 : Int)) else false), none⟩] [] []) ?_ ?_
  · refine Gho.to _ _ _ [] ?_ ?_ ?_ rfl rfl ?_
    · exact trivial
    · exact rfl
    · exact rfl
    · exact ⟨rfl, rfl, trivial, trivial⟩
  replace h := Option.some.inj h
  refine RetE.plain ?_
  exact And.intro rfl (And.intro (congrArg (fun r : Bool => AV.bool r) h) rfl)

theorem intarsialaw25_ScriptBack_ok (E : Pm.Env) [LaidE E] (a0 : S_Plan) (a1 : Bytes) (r : Bool) (h : intarsialaw25_ScriptBack a0 a1 = some r) : FnR E Tryz.prog 3 [S_Plan.av a0, AV.str a1] (AV.bool r) false := by
  refine FnR.of_ev (T := T) (rows := []) tOk mixed Tryz.func3 rfl (by kernel_rfl) (by kernel_rfl) rfl fun hwf => ?_
  unfold intarsialaw25_ScriptBack at h
  refine SeqJ.go <| And.intro rfl <| SeqN.go <| SeqJ.go <| And.intro ⟨Nat.le_of_ble_eq_true rfl, Nat.le_of_ble_eq_true rfl⟩ <| NormE.to (S_Plan.av a0) (fun _ => rfl) <| bind_elim h fun x1 hx1 h => CallH.data _ false rfl (intarsialaw25_few_ok E a0 x1 hx1) <| NormE.same <| And.intro rfl <| bind_elim h fun x2 hx2 h => ?_
  have qx2 := (slc_some hx2).1
  have hx2e := (slc_some hx2).2
  refine And.intro (fun _ => qx2) <| NormE.to (AV.str x2) (fun _ => congrArg AV.str hx2e.symm) ?_
  refine And.intro ⟨rfl, rfl, rfl, Nat.le_of_ble_eq_true rfl⟩ (Exists.intro (S_Plan.cells x1) (And.intro (fun _ => rfl) ?_))
  refine And.intro (by kernel_rfl) <| SeqN.go <| SeqJ.go <| SeqJ.go <| And.intro ⟨Nat.le_of_ble_eq_true rfl, Nat.le_of_ble_eq_true rfl⟩ <| NormE.to (S_Plan.av x1) (fun _ => rfl) <| bind_elim h fun x3 hx3 h => CallH.data _ false rfl (script_Print_ok E x1 x3 hx3) ?_
  refine SeqN.via (St.of [⟨1, AV.str x2, none⟩, ⟨2, AV.ptr 0 0, none⟩, ⟨5, AV.str (x3.1), none⟩, ⟨6, AV.int .i64 (x3.2), none⟩] [.cells 25 (S_Plan.cells x1) []] []) ?_ ?_
  · refine Gho.to _ _ _ [] ?_ ?_ ?_ rfl rfl ?_
    · exact ⟨⟨rfl, rfl, rfl⟩, trivial⟩
    · exact rfl
    · exact rfl
    · exact ⟨rfl, rfl, trivial, rfl, rfl, trivial, rfl, rfl, trivial, rfl, rfl, trivial, trivial⟩
  refine SeqJ.go <| SeqN.go ?_
  refine Br.mk (fun ht => ?_) (fun ht => ?_)
  · replace h := cond_tt h ht
    refine SeqJ.go <| bind_elim h fun x4 hx4 h => CallH.data _ false rfl (script_Parse_ok E (x3.1) x4 hx4) <| And.intro rfl ?_
    refine And.intro ⟨rfl, rfl, rfl, Nat.le_of_ble_eq_true rfl⟩ (Exists.intro (S_Plan.cells (x4.1)) (And.intro (fun _ => rfl) ?_))
    refine SeqN.go <| SeqJ.go <| And.intro (fun hg => hg) <| And.intro (fun hg => (and_r hg)) <| And.intro ⟨Nat.le_of_ble_eq_true rfl, Nat.le_of_ble_eq_true rfl⟩ <| NormE.to (S_Plan.av x1) (fun _ => rfl) <| And.intro ⟨Nat.le_of_ble_eq_true rfl, Nat.le_of_ble_eq_true rfl⟩ <| NormE.to (S_Plan.av (x4.1)) (fun _ => rfl) <| bind_elim h fun x5 hx5 h => And.intro (fun hg => hg) <| And.intro (fun hg => hg) <| And.intro rfl ?_
    refine CallF.mk _ false (fun hg => intarsiaref25_Like_ok E x1 (x4.1) x5 (gcall_some hx5 hg)) (And.intro rfl ?_)
    refine And.intro (fun hg => hg) <| And.intro (fun hg => (and_r hg)) ?_
    refine SeqN.via (St.of [⟨1, AV.str x2, none⟩, ⟨46, AV.bool (bif (bif ((x4.2.1) != (0 : Int)) then true else ((x4.2.2) != (0 : Int))) then true else (!x5)), none⟩] [] []) ?_ ?_
    · refine Gho.to _ _ _ [] ?_ ?_ ?_ rfl rfl ?_
      · exact trivial
      · exact rfl
      · exact rfl
      · exact ⟨rfl, rfl, trivial, rfl, rfl, trivial, trivial⟩
    refine Br.mk (fun ht => ?_) (fun ht => ?_)
    · replace h := cond_tt h ht
      refine SeqJ.go <| SeqN.go ?_
      replace h := Option.some.inj h
      refine RetE.plain ?_
      exact And.intro rfl (And.intro (congrArg (fun r : Bool => AV.bool r) h) rfl)
    · replace h := cond_ff h ht
      refine SeqN.go <| SeqJ.go <| bind_elim h fun x6 hx6 h => CallH.data _ false rfl (script_Parse_ok E x2 x6 hx6) <| And.intro rfl ?_
      refine And.intro ⟨rfl, rfl, rfl, Nat.le_of_ble_eq_true rfl⟩ (Exists.intro (S_Plan.cells (x6.1)) (And.intro (fun _ => rfl) ?_))
      refine SeqN.go <| SeqJ.go <| SeqJ.go <| SeqN.go ?_
      refine Br.mk (fun ht => ?_) (fun ht => ?_)
      · replace h := cond_tt h ht
        refine SeqJ.go <| bind_elim h fun x7 hx7 h => CallH.data _ false rfl (intarsialaw25_alive_ok E  x7 hx7) <| And.intro ⟨Nat.le_of_ble_eq_true rfl, Nat.le_of_ble_eq_true rfl⟩ <| NormE.to (S_Plan.av (x6.1)) (fun _ => rfl) <| bind_elim h fun x8 hx8 h => And.intro (fun hg => hg) <| And.intro (fun hg => hg) <| And.intro rfl ?_
        refine CallF.mk _ false (fun hg => intarsiaref25_Like_ok E (x6.1) (S_Plan.mk ([] : Bytes) ([] : List S_Route) ([] : List S_Deed)) x8 (gcall_some hx8 hg)) (And.intro rfl ?_)
        refine And.intro (fun hg => (and_r hg)) ?_
        refine SeqN.via (St.of [⟨4, AV.bool (bif x7 then x8 else false), none⟩] [] []) ?_ ?_
        · refine Gho.to _ _ _ [] ?_ ?_ ?_ rfl rfl ?_
          · exact trivial
          · exact rfl
          · exact rfl
          · exact ⟨rfl, rfl, trivial, trivial⟩
        replace h := Option.some.inj h
        refine RetE.plain ?_
        exact And.intro rfl (And.intro (congrArg (fun r : Bool => AV.bool r) h) rfl)
      · replace h := cond_ff h ht
        refine SeqN.go <| SeqJ.go <| And.intro ⟨Nat.le_of_ble_eq_true rfl, Nat.le_of_ble_eq_true rfl⟩ <| NormE.to (S_Plan.av (x6.1)) (fun _ => rfl) <| bind_elim h fun x9 hx9 h => CallH.data _ false rfl (script_Print_ok E (x6.1) x9 hx9) ?_
        refine SeqN.via (St.of [⟨1, AV.str x2, none⟩, ⟨10, AV.ptr 0 0, none⟩, ⟨13, AV.str (x9.1), none⟩, ⟨14, AV.int .i64 (x9.2), none⟩] [.cells 25 (S_Plan.cells (x6.1)) []] []) ?_ ?_
        · refine Gho.to _ _ _ [] ?_ ?_ ?_ rfl rfl ?_
          · exact ⟨⟨rfl, rfl, rfl⟩, trivial⟩
          · exact rfl
          · exact rfl
          · exact ⟨rfl, rfl, trivial, rfl, rfl, trivial, rfl, rfl, trivial, rfl, rfl, trivial, trivial⟩
        refine SeqJ.go <| bind_elim h fun x10 hx10 h => CallH.data _ false rfl (intarsialaw25_alive_ok E  x10 hx10) <| And.intro (fun hg => hg) <| And.intro (fun hg => (and_r hg)) <| And.intro (fun hg => hg) <| And.intro (fun hg => hg) <| And.intro (fun hg => (and_r hg)) <| And.intro ⟨Nat.le_of_ble_eq_true rfl, Nat.le_of_ble_eq_true rfl⟩ <| NormE.to (S_Plan.av (x6.1)) (fun _ => rfl) <| bind_elim h fun x11 hx11 h => And.intro (fun hg => hg) <| And.intro rfl ?_
        refine CallF.mk _ false (fun hg => script_Right_ok E (x6.1) x11 (gcall_some hx11 hg)) (And.intro rfl ?_)
        refine And.intro (fun hg => (and_r hg)) <| SeqN.go ?_
        replace h := Option.some.inj h
        refine RetE.plain ?_
        exact And.intro rfl (And.intro (congrArg (fun r : Bool => AV.bool r) h) rfl)
  · replace h := cond_ff h ht
    refine SeqN.go <| SeqJ.go <| bind_elim h fun x12 hx12 h => CallH.data _ false rfl (script_Parse_ok E x2 x12 hx12) <| And.intro rfl ?_
    refine And.intro ⟨rfl, rfl, rfl, Nat.le_of_ble_eq_true rfl⟩ (Exists.intro (S_Plan.cells (x12.1)) (And.intro (fun _ => rfl) ?_))
    refine SeqN.go <| SeqJ.go <| SeqJ.go <| SeqN.go ?_
    refine Br.mk (fun ht => ?_) (fun ht => ?_)
    · replace h := cond_tt h ht
      refine SeqJ.go <| bind_elim h fun x13 hx13 h => CallH.data _ false rfl (intarsialaw25_alive_ok E  x13 hx13) <| And.intro ⟨Nat.le_of_ble_eq_true rfl, Nat.le_of_ble_eq_true rfl⟩ <| NormE.to (S_Plan.av (x12.1)) (fun _ => rfl) <| bind_elim h fun x14 hx14 h => And.intro (fun hg => hg) <| And.intro (fun hg => hg) <| And.intro rfl ?_
      refine CallF.mk _ false (fun hg => intarsiaref25_Like_ok E (x12.1) (S_Plan.mk ([] : Bytes) ([] : List S_Route) ([] : List S_Deed)) x14 (gcall_some hx14 hg)) (And.intro rfl ?_)
      refine And.intro (fun hg => (and_r hg)) ?_
      refine SeqN.via (St.of [⟨4, AV.bool (bif x13 then x14 else false), none⟩] [] []) ?_ ?_
      · refine Gho.to _ _ _ [] ?_ ?_ ?_ rfl rfl ?_
        · exact trivial
        · exact rfl
        · exact rfl
        · exact ⟨rfl, rfl, trivial, trivial⟩
      replace h := Option.some.inj h
      refine RetE.plain ?_
      exact And.intro rfl (And.intro (congrArg (fun r : Bool => AV.bool r) h) rfl)
    · replace h := cond_ff h ht
      refine SeqN.go <| SeqJ.go <| And.intro ⟨Nat.le_of_ble_eq_true rfl, Nat.le_of_ble_eq_true rfl⟩ <| NormE.to (S_Plan.av (x12.1)) (fun _ => rfl) <| bind_elim h fun x15 hx15 h => CallH.data _ false rfl (script_Print_ok E (x12.1) x15 hx15) ?_
      refine SeqN.via (St.of [⟨1, AV.str x2, none⟩, ⟨10, AV.ptr 1 0, none⟩, ⟨13, AV.str (x15.1), none⟩, ⟨14, AV.int .i64 (x15.2), none⟩] [.dead, .cells 25 (S_Plan.cells (x12.1)) []] []) ?_ ?_
      · refine Gho.to _ _ _ [] ?_ ?_ ?_ rfl rfl ?_
        · exact ⟨trivial, ⟨⟨rfl, rfl, rfl⟩, trivial⟩⟩
        · exact rfl
        · exact rfl
        · exact ⟨rfl, rfl, trivial, rfl, rfl, trivial, rfl, rfl, trivial, rfl, rfl, trivial, trivial⟩
      refine SeqJ.go <| bind_elim h fun x16 hx16 h => CallH.data _ false rfl (intarsialaw25_alive_ok E  x16 hx16) <| And.intro (fun hg => hg) <| And.intro (fun hg => (and_r hg)) <| And.intro (fun hg => hg) <| And.intro (fun hg => hg) <| And.intro (fun hg => (and_r hg)) <| And.intro ⟨Nat.le_of_ble_eq_true rfl, Nat.le_of_ble_eq_true rfl⟩ <| NormE.to (S_Plan.av (x12.1)) (fun _ => rfl) <| bind_elim h fun x17 hx17 h => And.intro (fun hg => hg) <| And.intro rfl ?_
      refine CallF.mk _ false (fun hg => script_Right_ok E (x12.1) x17 (gcall_some hx17 hg)) (And.intro rfl ?_)
      refine And.intro (fun hg => (and_r hg)) <| SeqN.go ?_
      replace h := Option.some.inj h
      refine RetE.plain ?_
      exact And.intro rfl (And.intro (congrArg (fun r : Bool => AV.bool r) h) rfl)

theorem unicode_utf8_RuneCountInString_ok (E : Pm.Env) [LaidE E] (a0 : Bytes) (r : Int) (h : unicode_utf8_RuneCountInString a0 = some r) : FnR E Tryz.prog 57 [AV.str a0] (AV.int .i64 r) false := by
  refine FnR.of_ev (T := T) (rows := []) tOk mixed Tryz.func57 rfl (by kernel_rfl) (by kernel_rfl) rfl fun hwf => ?_
  unfold unicode_utf8_RuneCountInString at h
  refine SeqJ.go <| SeqN.go <| bind_elim h fun j1 hj1 h => ?_
  refine SeqJ.join (St.of [⟨2, AV.int .i64 j1, none⟩] [] []) ?_ ?_
  · clear h; have h := hj1; clear hj1
    refine SeqJ.go <| SeqN.go ?_
    refine LoopE.img (fun x : (Int × Nat) => St.of [⟨2, AV.int .i64 (x.1), none⟩, ⟨4, AV.ptr 0 0, none⟩] [.mp (.iter a0 (x.2))] []) (unicode_utf8_RuneCountInString_b1 a0) ((0 : Int), 0) h ?_ ?_
    · refine Gho.to _ _ _ [] ?_ ?_ ?_ rfl rfl ?_
      · exact ⟨rfl, trivial⟩
      · exact rfl
      · exact rfl
      · exact ⟨rfl, rfl, trivial, rfl, rfl, trivial, trivial⟩
    intro n1 x y1 h hl1 hr1
    obtain ⟨s2, s3⟩ := x
    unfold unicode_utf8_RuneCountInString_b1 at h
    dsimp only at h
    refine SeqJ.go ?_
    refine And.intro (fun ht => ?_) (fun ht => ?_)
    · replace h := cond_tt h ht
      refine SeqN.go <| SeqJ.go ?_
      refine Br.mk (fun _ => ?_) (fun hf => absurd hf (by decide))
      refine SeqN.go ?_
      replace h := Option.some.inj h
      refine Exists.intro ⟨(n1, ((IntKind.i64.wrap (s2 + (1 : Int))), (s3 + widthAt a0 s3))), hl1 _ h.symm⟩ (And.intro (Nat.lt_succ_self _) ?_)
      refine Gho.to _ _ _ [] ?_ ?_ ?_ rfl rfl ?_
      · exact ⟨rfl, trivial⟩
      · exact rfl
      · exact rfl
      · exact ⟨rfl, rfl, trivial, rfl, rfl, trivial, trivial⟩
    · replace h := cond_ff h ht
      refine SeqN.go <| SeqJ.go ?_
      refine Br.mk (fun hf => absurd hf (by decide)) (fun _ => ?_)
      replace h := Option.some.inj h
      replace h := hr1 _ h.symm
      subst h
      refine Gho.to _ _ _ [] ?_ ?_ ?_ rfl rfl ?_
      · exact trivial
      · exact rfl
      · exact rfl
      · exact ⟨rfl, rfl, trivial, trivial⟩
  · clear hj1
    refine SeqJ.go <| SeqN.go ?_
    replace h := Option.some.inj h
    refine RetE.plain ?_
    exact And.intro rfl (And.intro (congrArg (fun r : Int => AV.int .i64 r) h) rfl)

theorem strings_Count_ok (E : Pm.Env) [LaidE E] (a0 : Bytes) (a1 : Bytes) (r : Int) (h : strings_Count a0 a1 = some r) : FnR E Tryz.prog 20 [AV.str a0, AV.str a1] (AV.int .i64 r) false := by
  refine FnR.of_ev (T := T) (rows := []) tOk mixed Tryz.func20 rfl (by kernel_rfl) (by kernel_rfl) rfl fun hwf => ?_
  unfold strings_Count at h
  refine SeqJ.go <| SeqN.go <| SeqJ.go <| SeqJ.go <| NormE.same <| SeqN.go ?_
  refine Br.mk (fun ht => ?_) (fun ht => ?_)
  · replace h := cond_tt h ht
    refine SeqJ.go <| bind_elim h fun x1 hx1 h => CallH.data _ false rfl (unicode_utf8_RuneCountInString_ok E a0 x1 hx1) <| SeqN.go ?_
    replace h := Option.some.inj h
    refine RetE.plain ?_
    exact And.intro rfl (And.intro (congrArg (fun r : Int => AV.int .i64 r) h) rfl)
  · replace h := cond_ff h ht
    refine SeqN.go <| SeqJ.go <| SeqJ.go <| NormE.same <| SeqN.go ?_
    refine Br.mk (fun ht => ?_) (fun ht => ?_)
    · replace h := cond_tt h ht
      refine SeqJ.go <| bind_elim h fun x2 hx2 h => ?_
      refine Exists.intro x2 (And.intro (fun hg => idx_some hx2) ?_)
      refine bind_elim h fun x3 hx3 h => CallH.data _ false rfl (bytealg_CountString_ok E a0 (x2.toNat : Int) x3 hx3) <| SeqN.go ?_
      replace h := Option.some.inj h
      refine RetE.plain ?_
      exact And.intro rfl (And.intro (congrArg (fun r : Int => AV.int .i64 r) h) rfl)
    · replace h := cond_ff h ht
      refine SeqN.go <| SeqJ.go <| SeqN.go ?_
      refine LoopE.img (fun x : (Bytes × Int) => St.of [⟨0, AV.str (x.1), none⟩, ⟨1, AV.str a1, none⟩, ⟨5, AV.int .i64 (x.2), none⟩] [] []) (strings_Count_b1 a1) (a0, (0 : Int)) h ?_ ?_
      · refine Gho.to _ _ _ [] ?_ ?_ ?_ rfl rfl ?_
        · exact trivial
        · exact rfl
        · exact rfl
        · exact ⟨rfl, rfl, trivial, rfl, rfl, trivial, rfl, rfl, trivial, trivial⟩
      intro n1 x y1 h hl1 hr1
      obtain ⟨s4, s5⟩ := x
      unfold strings_Count_b1 at h
      dsimp only at h
      refine SeqJ.go <| bind_elim h fun x6 hx6 h => CallH.data _ false rfl (strings_Index_ok E s4 a1 x6 hx6) <| SeqN.go <| SeqJ.go <| SeqJ.go <| SeqN.go ?_
      refine Br.mk (fun ht => ?_) (fun ht => ?_)
      · replace h := cond_tt h ht
        refine SeqJ.go <| SeqN.go ?_
        replace h := Option.some.inj h
        replace h := hr1 _ h.symm
        refine RetE.plain ?_
        exact And.intro rfl (And.intro (congrArg (fun r : Int => AV.int .i64 r) h) rfl)
      · replace h := cond_ff h ht
        refine SeqN.go <| SeqJ.go <| SeqN.go <| NormE.same <| bind_elim h fun x7 hx7 h => ?_
        have qx7 := (slc_some hx7).1
        have hx7e := (slc_some hx7).2
        refine And.intro (fun _ => qx7) <| NormE.to (AV.str x7) (fun _ => congrArg AV.str hx7e.symm) ?_
        replace h := Option.some.inj h
        refine Exists.intro ⟨(n1, (x7, (IntKind.i64.wrap (s5 + (1 : Int))))), hl1 _ h.symm⟩ (And.intro (Nat.lt_succ_self _) ?_)
        refine Gho.to _ _ _ [] ?_ ?_ ?_ rfl rfl ?_
        · exact trivial
        · exact rfl
        · exact rfl
        · exact ⟨rfl, rfl, trivial, rfl, rfl, trivial, rfl, rfl, trivial, trivial⟩

theorem intarsialaw25_ScriptLines_ok (E : Pm.Env) [LaidE E] (a0 : S_Plan) (r : Bool) (h : intarsialaw25_ScriptLines a0 = some r) : FnR E Tryz.prog 4 [S_Plan.av a0] (AV.bool r) false := by
  refine FnR.of_ev (T := T) (rows := []) tOk mixed Tryz.func4 rfl (by kernel_rfl) (by kernel_rfl) rfl fun hwf => ?_
  unfold intarsialaw25_ScriptLines at h
  refine SeqJ.go <| And.intro rfl <| SeqN.go <| SeqJ.go <| And.intro ⟨Nat.le_of_ble_eq_true rfl, Nat.le_of_ble_eq_true rfl⟩ <| NormE.to (S_Plan.av a0) (fun _ => rfl) <| bind_elim h fun x1 hx1 h => CallH.data _ false rfl (intarsialaw25_few_ok E a0 x1 hx1) ?_
  refine And.intro ⟨rfl, rfl, rfl, Nat.le_of_ble_eq_true rfl⟩ (Exists.intro (S_Plan.cells x1) (And.intro (fun _ => rfl) ?_))
  refine SeqN.go <| SeqJ.go <| And.intro ⟨Nat.le_of_ble_eq_true rfl, Nat.le_of_ble_eq_true rfl⟩ <| NormE.to (S_Plan.av x1) (fun _ => rfl) <| bind_elim h fun x2 hx2 h => CallH.data _ false rfl (script_Print_ok E x1 x2 hx2) <| SeqN.go <| SeqJ.go <| SeqJ.go <| SeqN.go ?_
  refine Br.mk (fun ht => ?_) (fun ht => ?_)
  · replace h := cond_tt h ht
    refine SeqJ.go <| bind_elim h fun x3 hx3 h => CallH.data _ false rfl (intarsialaw25_alive_ok E  x3 hx3) <| And.intro (fun hg => hg) <| And.intro (fun hg => (and_r hg)) ?_
    refine SeqN.via (St.of [⟨2, AV.bool (bif x3 then (x2.1 == ([] : Bytes)) else false), none⟩] [] []) ?_ ?_
    · refine Gho.to _ _ _ [] ?_ ?_ ?_ rfl rfl ?_
      · exact trivial
      · exact rfl
      · exact rfl
      · exact ⟨rfl, rfl, trivial, trivial⟩
    replace h := Option.some.inj h
    refine RetE.plain ?_
    exact And.intro rfl (And.intro (congrArg (fun r : Bool => AV.bool r) h) rfl)
  · replace h := cond_ff h ht
    refine SeqN.go <| SeqJ.go <| NormE.to (AV.int .i64 ((x1.Deeds).length : Int)) (fun _ => len_list S_Deed.av (x1.Deeds)) <| NormE.to (AV.int .i64 ((x1.Routes).length : Int)) (fun _ => len_list S_Route.av (x1.Routes)) ?_
    refine SeqN.via (St.of [⟨3, AV.str (x2.1), none⟩, ⟨5, AV.int .i64 (IntKind.i64.wrap (((x1.Deeds).length : Int) + ((x1.Routes).length : Int))), none⟩] [] []) ?_ ?_
    · refine Gho.to _ _ _ [] ?_ ?_ ?_ rfl rfl ?_
      · exact trivial
      · exact rfl
      · exact rfl
      · exact ⟨rfl, rfl, trivial, rfl, rfl, trivial, trivial⟩
    refine SeqJ.go <| bind_elim h fun x4 hx4 h => CallH.data _ false rfl (strings_Cut_ok E (x2.1) ([10] : Bytes) x4 hx4) <| SeqN.go <| SeqJ.go <| bind_elim h fun x5 hx5 h => CallH.data _ false rfl (script_Parse_ok E (x4.2.1) x5 hx5) <| And.intro rfl ?_
    refine And.intro ⟨rfl, rfl, rfl, Nat.le_of_ble_eq_true rfl⟩ (Exists.intro (S_Plan.cells (x5.1)) (And.intro (fun _ => rfl) ?_))
    refine SeqN.via (St.of [⟨3, AV.str (x2.1), none⟩, ⟨5, AV.int .i64 (IntKind.i64.wrap (((x1.Deeds).length : Int) + ((x1.Routes).length : Int))), none⟩, ⟨6, AV.str (x4.1), none⟩, ⟨10, AV.int .i64 (x5.2.1), none⟩, ⟨11, AV.int .i64 (x5.2.2), none⟩] [] []) ?_ ?_
    · refine Gho.to _ _ _ [] ?_ ?_ ?_ rfl rfl ?_
      · exact trivial
      · exact rfl
      · exact rfl
      · exact ⟨rfl, rfl, trivial, rfl, rfl, trivial, rfl, rfl, trivial, rfl, rfl, trivial, rfl, rfl, trivial, trivial⟩
    refine SeqJ.go <| bind_elim h fun x6 hx6 h => ?_
    have hx6c := (cat_some hx6).1
    have hx6e := (cat_some hx6).2
    refine And.intro (fun _ => hx6c) <| NormE.to (AV.str x6) (fun _ => congrArg AV.str hx6e.symm) <| bind_elim h fun x7 hx7 h => ?_
    have hx7c := (cat_some hx7).1
    have hx7e := (cat_some hx7).2
    refine And.intro (fun _ => hx7c) <| NormE.to (AV.str x7) (fun _ => congrArg AV.str hx7e.symm) <| bind_elim h fun x8 hx8 h => CallH.data _ false rfl (script_Parse_ok E x7 x8 hx8) <| And.intro rfl ?_
    refine And.intro ⟨rfl, rfl, rfl, Nat.le_of_ble_eq_true rfl⟩ (Exists.intro (S_Plan.cells (x8.1)) (And.intro (fun _ => rfl) ?_))
    refine SeqN.go <| SeqJ.go <| bind_elim h fun x9 hx9 h => CallH.data _ false rfl (intarsialaw25_alive_ok E  x9 hx9) <| bind_elim h fun x10 hx10 h => And.intro (fun hg => hg) <| And.intro rfl ?_
    refine CallF.mk _ false (fun hg => strings_Count_ok E (x2.1) ([10] : Bytes) x10 (gcall_some hx10 hg)) (And.intro rfl ?_)
    refine And.intro (fun hg => hg) <| And.intro (fun hg => hg) <| And.intro (fun hg => hg) <| And.intro (fun hg => (and_r hg)) <| And.intro (fun hg => hg) <| And.intro (fun hg => (and_r hg)) <| And.intro (fun hg => hg) <| And.intro (fun hg => (and_r hg)) <| And.intro (fun hg => hg) <| And.intro (fun hg => (and_r hg)) <| And.intro (fun hg => hg) <| And.intro (fun hg => hg) <| And.intro (fun hg => hg) <| And.intro (fun hg => (and_r hg)) ?_
    refine SeqN.via (St.of [⟨2, AV.bool (bif (bif (bif (bif (bif x9 then (x10 == (IntKind.i64.wrap ((IntKind.i64.wrap (((x1.Deeds).length : Int) + ((x1.Routes).length : Int))) + (1 : Int)))) else false) then ((x5.2.1) == (250 : Int)) else false) then ((x5.2.2) == (1 : Int)) else false) then ((x8.2.1) == (250 : Int)) else false) then ((x8.2.2) == (IntKind.i64.wrap ((IntKind.i64.wrap (((x1.Deeds).length : Int) + ((x1.Routes).length : Int))) + (2 : Int)))) else false), none⟩] [] []) ?_ ?_
    · refine Gho.to _ _ _ [] ?_ ?_ ?_ rfl rfl ?_
      · exact trivial
      · exact rfl
      · exact rfl
      · exact ⟨rfl, rfl, trivial, trivial⟩
    replace h := Option.some.inj h
    refine RetE.plain ?_
    exact And.intro rfl (And.intro (congrArg (fun r : Bool => AV.bool r) h) rfl)

end Go.Proofs.YtkfoahoplndelaaGreatDoor
