/-
  The functions do what their images say: walks, written by a program of mine (gen.py).
-/
import Derived.Test.YtbgldnleackgeaaDoorIm1
import Derived.Test.YtbgldnleackgeaaDoorWk1
namespace Go.Proofs.YtbgldnleackgeaaDoor
open Go Go.Pm
set_option maxRecDepth 100000
set_option maxHeartbeats 4000000
set_option linter.unusedVariables false

theorem intarsiaref09_Answer_ok (E : Pm.Env) [LaidE E] (a0 : S_Start) (a1 : (List S_Field)) (a2 : Bytes) (r : (S_Body × Int)) (h : intarsiaref09_Answer a0 a1 a2 = some r) : FnR E Tryd.prog 15 [S_Start.av a0, AV.list 2 (a1.map S_Field.av), AV.str a2] (AV.tup [S_Body.av (r.1), AV.int .i64 (r.2)]) false := by
  refine FnR.of_ev (T := T) (rows := []) tOk mixed Tryd.func15 rfl (by kernel_rfl) (by kernel_rfl) rfl fun hwf => ?_
  unfold intarsiaref09_Answer at h
  refine SeqJ.go ?_
  refine And.intro rfl ?_
  refine And.intro rfl ?_
  refine SeqN.go ?_
  refine SeqJ.go ?_
  refine SeqJ.go ?_
  refine And.intro ⟨Nat.le_of_ble_eq_true rfl, Nat.le_of_ble_eq_true rfl⟩ ?_
  refine NormE.to (S_Start.av a0) (fun _ => rfl) ?_
  refine bind_elim h fun x1 hx1 h => ?_
  refine CallH.data _ false rfl (intarsiaref06_Right_ok E a0 x1 hx1) ?_
  refine And.intro (fun hg => hg) ?_
  refine And.intro (fun hg => hg) ?_
  refine And.intro (fun hg => (and_r hg)) ?_
  refine bind_elim h fun x2 hx2 h => ?_
  refine And.intro (fun hg => hg) ?_
  refine And.intro rfl ?_
  refine CallF.mk _ false (fun hg => intarsiaref04_Right_ok E a1 x2 (gcall_some hx2 hg)) (And.intro rfl ?_)
  refine And.intro (fun hg => hg) ?_
  refine And.intro (fun hg => (and_r hg)) ?_
  refine SeqN.via (St.of [⟨1, AV.list 2 (a1.map S_Field.av), none⟩, ⟨2, AV.str a2, none⟩, ⟨3, AV.ptr 0 0, none⟩, ⟨6, AV.ptr 1 0, none⟩, ⟨22, AV.bool (bif (bif (!x1) then true else ((a0.Code) == (0 : Int))) then true else (!x2)), none⟩] [.cells 23 (S_Start.cells a0) [], .cells 28 [AV.int .i64 (0 : Int), AV.int .i64 (0 : Int)] []] []) ?_ ?_
  · refine Gho.to [⟨1, AV.list 2 (a1.map S_Field.av), none⟩, ⟨2, AV.str a2, none⟩, ⟨3, AV.ptr 0 0, none⟩, ⟨6, AV.ptr 1 0, none⟩, ⟨22, AV.bool (bif (bif (!x1) then true else ((a0.Code) == (0 : Int))) then true else (!x2)), none⟩] [.cells 23 (S_Start.cells a0) [], .cells 28 [AV.int .i64 (0 : Int), AV.int .i64 (0 : Int)] []] [] [] ?_ ?_ ?_ rfl rfl ?_
    · exact ⟨⟨rfl, rfl, rfl⟩, ⟨⟨rfl, rfl, rfl⟩, trivial⟩⟩
    · exact rfl
    · exact rfl
    · exact ⟨rfl, rfl, trivial, rfl, rfl, trivial, rfl, rfl, trivial, rfl, rfl, trivial, rfl, rfl, trivial, trivial⟩
  refine Br.mk (fun ht => ?_) (fun ht => ?_)
  · replace h := cond_tt h ht
    refine SeqJ.go ?_
    refine And.intro ⟨rfl, rfl, rfl, Nat.le_of_ble_eq_true rfl⟩ (Exists.intro [AV.int .i64 (0 : Int), AV.int .i64 (0 : Int)] (And.intro (fun _ => rfl) ?_))
    refine SeqN.go ?_
    replace h := Option.some.inj h
    refine RetE.plain ?_
    refine And.intro ⟨Nat.le_of_ble_eq_true rfl, Nat.le_of_ble_eq_true rfl⟩ (Exists.intro (AV.agg [AV.int .i64 (0 : Int), AV.int .i64 (0 : Int)]) (And.intro rfl ?_))
    exact And.intro rfl (And.intro (congrArg (fun r : (S_Body × Int) => AV.tup [S_Body.av (r.1), AV.int .i64 (r.2)]) h) rfl)
  · replace h := cond_ff h ht
    refine SeqN.go ?_
    refine SeqJ.go ?_
    refine SeqJ.go ?_
    refine And.intro (fun hg => hg) ?_
    refine And.intro (fun hg => hg) ?_
    refine And.intro (fun hg => (and_r hg)) ?_
    refine And.intro (fun hg => hg) ?_
    refine And.intro (fun hg => hg) ?_
    refine And.intro (fun hg => (and_r hg)) ?_
    refine And.intro (fun hg => hg) ?_
    refine And.intro (fun hg => (and_r hg)) ?_
    refine SeqN.via (St.of [⟨1, AV.list 2 (a1.map S_Field.av), none⟩, ⟨3, AV.ptr 0 0, none⟩, ⟨6, AV.ptr 1 0, none⟩, ⟨40, AV.bool (bif (bif (bif (decide ((a0.Code) < (200 : Int))) then true else ((a0.Code) == (204 : Int))) then true else ((a0.Code) == (304 : Int))) then true else (a2 == ([72, 69, 65, 68] : Bytes))), none⟩] [.cells 23 (S_Start.cells a0) [], .cells 28 [AV.int .i64 (0 : Int), AV.int .i64 (0 : Int)] []] []) ?_ ?_
    · refine Gho.to [⟨1, AV.list 2 (a1.map S_Field.av), none⟩, ⟨3, AV.ptr 0 0, none⟩, ⟨6, AV.ptr 1 0, none⟩, ⟨40, AV.bool (bif (bif (bif (decide ((a0.Code) < (200 : Int))) then true else ((a0.Code) == (204 : Int))) then true else ((a0.Code) == (304 : Int))) then true else (a2 == ([72, 69, 65, 68] : Bytes))), none⟩] [.cells 23 (S_Start.cells a0) [], .cells 28 [AV.int .i64 (0 : Int), AV.int .i64 (0 : Int)] []] [] [] ?_ ?_ ?_ rfl rfl ?_
      · exact ⟨⟨rfl, rfl, rfl⟩, ⟨⟨rfl, rfl, rfl⟩, trivial⟩⟩
      · exact rfl
      · exact rfl
      · exact ⟨rfl, rfl, trivial, rfl, rfl, trivial, rfl, rfl, trivial, rfl, rfl, trivial, trivial⟩
    refine Br.mk (fun ht => ?_) (fun ht => ?_)
    · replace h := cond_tt h ht
      refine SeqJ.go ?_
      refine And.intro ⟨rfl, rfl, rfl, Nat.le_of_ble_eq_true rfl⟩ (Exists.intro [AV.int .i64 (0 : Int), AV.int .i64 (0 : Int)] (And.intro (fun _ => rfl) ?_))
      refine SeqN.go ?_
      replace h := Option.some.inj h
      refine RetE.plain ?_
      refine And.intro ⟨Nat.le_of_ble_eq_true rfl, Nat.le_of_ble_eq_true rfl⟩ (Exists.intro (AV.agg [AV.int .i64 (0 : Int), AV.int .i64 (0 : Int)]) (And.intro rfl ?_))
      exact And.intro rfl (And.intro (congrArg (fun r : (S_Body × Int) => AV.tup [S_Body.av (r.1), AV.int .i64 (r.2)]) h) rfl)
    · replace h := cond_ff h ht
      refine SeqN.go ?_
      refine SeqJ.go ?_
      refine bind_elim h fun x3 hx3 h => ?_
      refine CallH.data _ false rfl (intarsiaref09_Say_ok E (a0.Minor) a1 x3 hx3) ?_
      refine And.intro rfl ?_
      refine And.intro ⟨rfl, rfl, rfl, Nat.le_of_ble_eq_true rfl⟩ (Exists.intro (S_Body.cells (x3.1)) (And.intro (fun _ => rfl) ?_))
      refine SeqN.go ?_
      refine SeqJ.go ?_
      refine SeqJ.go ?_
      refine SeqN.go ?_
      refine Br.mk (fun ht => ?_) (fun ht => ?_)
      · replace h := cond_tt h ht
        refine And.intro ⟨rfl, rfl, Nat.le_of_ble_eq_true rfl⟩ ?_
        refine And.intro ⟨rfl, rfl, rfl, Nat.le_of_ble_eq_true rfl⟩ (Exists.intro [AV.int .i64 (3 : Int), AV.int .i64 (0 : Int)] (And.intro (fun _ => rfl) ?_))
        refine SeqN.go ?_
        refine SeqJ.go ?_
        refine And.intro ⟨Nat.le_of_ble_eq_true rfl, Nat.le_of_ble_eq_true rfl⟩ ?_
        refine NormE.to (AV.agg [AV.int .i64 (3 : Int), AV.int .i64 (0 : Int)]) (fun _ => rfl) ?_
        refine And.intro ⟨rfl, rfl, rfl, Nat.le_of_ble_eq_true rfl⟩ (Exists.intro [AV.int .i64 (3 : Int), AV.int .i64 (0 : Int)] (And.intro (fun _ => rfl) ?_))
        refine SeqN.via (St.of [⟨6, AV.ptr 1 0, none⟩, ⟨7, AV.int .i64 (x3.2), none⟩] [.dead, .cells 28 [AV.int .i64 (3 : Int), AV.int .i64 (0 : Int)] []] []) ?_ ?_
        · refine Gho.to [⟨6, AV.ptr 1 0, none⟩, ⟨7, AV.int .i64 (x3.2), none⟩] [.dead, .cells 28 [AV.int .i64 (3 : Int), AV.int .i64 (0 : Int)] []] [] [] ?_ ?_ ?_ rfl rfl ?_
          · exact ⟨trivial, ⟨⟨rfl, rfl, rfl⟩, trivial⟩⟩
          · exact rfl
          · exact rfl
          · exact ⟨rfl, rfl, trivial, rfl, rfl, trivial, trivial⟩
        replace h := Option.some.inj h
        refine RetE.plain ?_
        refine And.intro ⟨Nat.le_of_ble_eq_true rfl, Nat.le_of_ble_eq_true rfl⟩ (Exists.intro (AV.agg [AV.int .i64 (3 : Int), AV.int .i64 (0 : Int)]) (And.intro rfl ?_))
        exact And.intro rfl (And.intro (congrArg (fun r : (S_Body × Int) => AV.tup [S_Body.av (r.1), AV.int .i64 (r.2)]) h) rfl)
      · replace h := cond_ff h ht
        refine SeqN.go ?_
        refine SeqJ.go ?_
        refine And.intro ⟨Nat.le_of_ble_eq_true rfl, Nat.le_of_ble_eq_true rfl⟩ ?_
        refine NormE.to (S_Body.av (x3.1)) (fun _ => rfl) ?_
        refine And.intro ⟨rfl, rfl, rfl, Nat.le_of_ble_eq_true rfl⟩ (Exists.intro (S_Body.cells (x3.1)) (And.intro (fun _ => rfl) ?_))
        refine SeqN.via (St.of [⟨6, AV.ptr 1 0, none⟩, ⟨7, AV.int .i64 (x3.2), none⟩] [.dead, .cells 28 (S_Body.cells (x3.1)) []] []) ?_ ?_
        · refine Gho.to [⟨6, AV.ptr 1 0, none⟩, ⟨7, AV.int .i64 (x3.2), none⟩] [.dead, .cells 28 (S_Body.cells (x3.1)) []] [] [] ?_ ?_ ?_ rfl rfl ?_
          · exact ⟨trivial, ⟨⟨rfl, rfl, rfl⟩, trivial⟩⟩
          · exact rfl
          · exact rfl
          · exact ⟨rfl, rfl, trivial, rfl, rfl, trivial, trivial⟩
        replace h := Option.some.inj h
        refine RetE.plain ?_
        refine And.intro ⟨Nat.le_of_ble_eq_true rfl, Nat.le_of_ble_eq_true rfl⟩ (Exists.intro (S_Body.av (x3.1)) (And.intro rfl ?_))
        exact And.intro rfl (And.intro (congrArg (fun r : (S_Body × Int) => AV.tup [S_Body.av (r.1), AV.int .i64 (r.2)]) h) rfl)

theorem intarsialaw09_alive_ok (E : Pm.Env) [LaidE E] (r : Bool) (h : intarsialaw09_alive = some r) : FnR E Tryd.prog 16 [] (AV.bool r) false := by
  refine FnR.of_ev (T := T) (rows := []) tOk mixed Tryd.func16 rfl (by kernel_rfl) (by kernel_rfl) rfl fun hwf => ?_
  unfold intarsialaw09_alive at h
  refine SeqJ.go ?_
  refine SeqN.go ?_
  refine SeqJ.go ?_
  refine And.intro ⟨rfl, rfl, Nat.le_of_ble_eq_true rfl⟩ ?_
  refine And.intro ⟨rfl, rfl, Nat.le_of_ble_eq_true rfl⟩ ?_
  refine And.intro ⟨rfl, rfl, Nat.le_of_ble_eq_true rfl⟩ ?_
  refine And.intro ⟨rfl, rfl, Nat.le_of_ble_eq_true rfl⟩ ?_
  refine And.intro ⟨rfl, rfl, rfl, rfl⟩ ?_
  refine And.intro ⟨rfl, rfl, rfl⟩ ?_
  refine NormE.to (AV.list 2 (([(S_Field.mk ([67, 111, 110, 116, 101, 110, 116, 45, 76, 101, 110, 103, 116, 104] : Bytes) ([53] : Bytes))] : List S_Field).map S_Field.av)) (fun _ => rfl) ?_
  refine bind_elim h fun x1 hx1 h => ?_
  refine CallH.data _ false rfl (frame_Request_ok E (S_Start.mk ([80, 79, 83, 84] : Bytes) ([47] : Bytes) (0 : Int) ([] : Bytes) (0 : Int)) ([(S_Field.mk ([67, 111, 110, 116, 101, 110, 116, 45, 76, 101, 110, 103, 116, 104] : Bytes) ([53] : Bytes))] : List S_Field) x1 hx1) ?_
  refine And.intro rfl ?_
  refine And.intro ⟨rfl, rfl, rfl, Nat.le_of_ble_eq_true rfl⟩ (Exists.intro (S_Body.cells (x1.1)) (And.intro (fun _ => rfl) ?_))
  refine SeqN.go ?_
  refine SeqJ.go ?_
  refine And.intro ⟨Nat.le_of_ble_eq_true rfl, Nat.le_of_ble_eq_true rfl⟩ ?_
  refine NormE.to (S_Body.av (x1.1)) (fun _ => rfl) ?_
  refine And.intro ⟨rfl, rfl, Nat.le_of_ble_eq_true rfl⟩ ?_
  refine And.intro ⟨rfl, rfl, Nat.le_of_ble_eq_true rfl⟩ ?_
  refine And.intro (fun hg => hg) ?_
  refine And.intro (fun hg => hg) ?_
  refine And.intro rfl ?_
  refine And.intro (fun hg => (and_r hg)) ?_
  refine SeqN.via (St.of [⟨0, AV.bool (bif ((x1.2) == (0 : Int)) then ((((x1.1).Kind) == (1 : Int)) && ((((x1.1).Size) == (5 : Int)) && true)) else false), none⟩] [] []) ?_ ?_
  · refine Gho.to [⟨0, AV.bool (bif ((x1.2) == (0 : Int)) then ((((x1.1).Kind) == (1 : Int)) && ((((x1.1).Size) == (5 : Int)) && true)) else false), none⟩] [] [] [] ?_ ?_ ?_ rfl rfl ?_
    · exact trivial
    · exact rfl
    · exact rfl
    · exact ⟨rfl, rfl, trivial, trivial⟩
  replace h := Option.some.inj h
  refine RetE.plain ?_
  exact And.intro rfl (And.intro (congrArg (fun r : Bool => AV.bool r) h) rfl)

theorem intarsialaw09_FrameSays_ok (E : Pm.Env) [LaidE E] (a0 : S_Start) (a1 : (List S_Field)) (a2 : Bytes) (r : Bool) (h : intarsialaw09_FrameSays a0 a1 a2 = some r) : FnR E Tryd.prog 3 [S_Start.av a0, AV.list 2 (a1.map S_Field.av), AV.str a2] (AV.bool r) false := by
  refine FnR.of_ev (T := T) (rows := []) tOk mixed Tryd.func3 rfl (by kernel_rfl) (by kernel_rfl) rfl fun hwf => ?_
  unfold intarsialaw09_FrameSays at h
  refine SeqJ.go ?_
  refine And.intro rfl ?_
  refine SeqN.go ?_
  refine SeqJ.go ?_
  refine And.intro ⟨Nat.le_of_ble_eq_true rfl, Nat.le_of_ble_eq_true rfl⟩ ?_
  refine NormE.to (S_Start.av a0) (fun _ => rfl) ?_
  refine bind_elim h fun x1 hx1 h => ?_
  refine CallH.data _ false rfl (intarsialaw09_small_ok E a0 x1 hx1) ?_
  refine bind_elim h fun x2 hx2 h => ?_
  refine CallH.data _ false rfl (intarsialaw09_few_ok E a1 x2 hx2) ?_
  refine NormE.same ?_
  refine And.intro rfl ?_
  refine bind_elim h fun x3 hx3 h => ?_
  have qx3 := (slc_some hx3).1
  have hx3e := (slc_some hx3).2
  refine And.intro (fun _ => qx3) ?_
  refine NormE.to (AV.str x3) (fun _ => congrArg AV.str hx3e.symm) ?_
  refine And.intro ⟨rfl, rfl, rfl, Nat.le_of_ble_eq_true rfl⟩ (Exists.intro (S_Start.cells x1) (And.intro (fun _ => rfl) ?_))
  refine And.intro (by kernel_rfl) ?_
  refine SeqN.go ?_
  refine SeqJ.go ?_
  refine And.intro ⟨Nat.le_of_ble_eq_true rfl, Nat.le_of_ble_eq_true rfl⟩ ?_
  refine NormE.to (S_Start.av x1) (fun _ => rfl) ?_
  refine bind_elim h fun x4 hx4 h => ?_
  refine CallH.data _ false rfl (frame_Request_ok E x1 x2 x4 hx4) ?_
  refine And.intro rfl ?_
  refine And.intro ⟨rfl, rfl, rfl, Nat.le_of_ble_eq_true rfl⟩ (Exists.intro (S_Body.cells (x4.1)) (And.intro (fun _ => rfl) ?_))
  refine SeqN.via (St.of [⟨1, AV.list 2 (x2.map S_Field.av), none⟩, ⟨2, AV.str x3, none⟩, ⟨3, AV.ptr 0 0, none⟩, ⟨7, AV.ptr 1 0, none⟩, ⟨8, AV.int .i64 (x4.2), none⟩] [.cells 23 (S_Start.cells x1) [], .cells 28 (S_Body.cells (x4.1)) []] []) ?_ ?_
  · refine Gho.to [⟨1, AV.list 2 (x2.map S_Field.av), none⟩, ⟨2, AV.str x3, none⟩, ⟨3, AV.ptr 0 0, none⟩, ⟨7, AV.ptr 1 0, none⟩, ⟨8, AV.int .i64 (x4.2), none⟩] [.cells 23 (S_Start.cells x1) [], .cells 28 (S_Body.cells (x4.1)) []] [] [] ?_ ?_ ?_ rfl rfl ?_
    · exact ⟨⟨rfl, rfl, rfl⟩, ⟨⟨rfl, rfl, rfl⟩, trivial⟩⟩
    · exact rfl
    · exact rfl
    · exact ⟨rfl, rfl, trivial, rfl, rfl, trivial, rfl, rfl, trivial, rfl, rfl, trivial, rfl, rfl, trivial, trivial⟩
  refine SeqJ.go ?_
  refine And.intro ⟨Nat.le_of_ble_eq_true rfl, Nat.le_of_ble_eq_true rfl⟩ ?_
  refine NormE.to (S_Start.av x1) (fun _ => rfl) ?_
  refine bind_elim h fun x5 hx5 h => ?_
  refine CallH.data _ false rfl (intarsiaref09_Request_ok E x1 x2 x5 hx5) ?_
  refine And.intro rfl ?_
  refine And.intro ⟨rfl, rfl, rfl, Nat.le_of_ble_eq_true rfl⟩ (Exists.intro (S_Body.cells (x5.1)) (And.intro (fun _ => rfl) ?_))
  refine SeqN.go ?_
  refine SeqJ.go ?_
  refine And.intro ⟨Nat.le_of_ble_eq_true rfl, Nat.le_of_ble_eq_true rfl⟩ ?_
  refine NormE.to (S_Start.av x1) (fun _ => rfl) ?_
  refine bind_elim h fun x6 hx6 h => ?_
  refine CallH.data _ false rfl (frame_Answer_ok E x1 x2 x3 x6 hx6) ?_
  refine And.intro rfl ?_
  refine And.intro ⟨rfl, rfl, rfl, Nat.le_of_ble_eq_true rfl⟩ (Exists.intro (S_Body.cells (x6.1)) (And.intro (fun _ => rfl) ?_))
  refine SeqN.via (St.of [⟨1, AV.list 2 (x2.map S_Field.av), none⟩, ⟨2, AV.str x3, none⟩, ⟨3, AV.ptr 0 0, none⟩, ⟨7, AV.ptr 1 0, none⟩, ⟨8, AV.int .i64 (x4.2), none⟩, ⟨9, AV.ptr 2 0, none⟩, ⟨10, AV.int .i64 (x5.2), none⟩, ⟨11, AV.ptr 3 0, none⟩, ⟨12, AV.int .i64 (x6.2), none⟩] [.cells 23 (S_Start.cells x1) [], .cells 28 (S_Body.cells (x4.1)) [], .cells 28 (S_Body.cells (x5.1)) [], .cells 28 (S_Body.cells (x6.1)) []] []) ?_ ?_
  · refine Gho.to [⟨1, AV.list 2 (x2.map S_Field.av), none⟩, ⟨2, AV.str x3, none⟩, ⟨3, AV.ptr 0 0, none⟩, ⟨7, AV.ptr 1 0, none⟩, ⟨8, AV.int .i64 (x4.2), none⟩, ⟨9, AV.ptr 2 0, none⟩, ⟨10, AV.int .i64 (x5.2), none⟩, ⟨11, AV.ptr 3 0, none⟩, ⟨12, AV.int .i64 (x6.2), none⟩] [.cells 23 (S_Start.cells x1) [], .cells 28 (S_Body.cells (x4.1)) [], .cells 28 (S_Body.cells (x5.1)) [], .cells 28 (S_Body.cells (x6.1)) []] [] [] ?_ ?_ ?_ rfl rfl ?_
    · exact ⟨⟨rfl, rfl, rfl⟩, ⟨⟨rfl, rfl, rfl⟩, ⟨⟨rfl, rfl, rfl⟩, ⟨⟨rfl, rfl, rfl⟩, trivial⟩⟩⟩⟩
    · exact rfl
    · exact rfl
    · exact ⟨rfl, rfl, trivial, rfl, rfl, trivial, rfl, rfl, trivial, rfl, rfl, trivial, rfl, rfl, trivial, rfl, rfl, trivial, rfl, rfl, trivial, rfl, rfl, trivial, rfl, rfl, trivial, trivial⟩
  refine SeqJ.go ?_
  refine And.intro ⟨Nat.le_of_ble_eq_true rfl, Nat.le_of_ble_eq_true rfl⟩ ?_
  refine NormE.to (S_Start.av x1) (fun _ => rfl) ?_
  refine bind_elim h fun x7 hx7 h => ?_
  refine CallH.data _ false rfl (intarsiaref09_Answer_ok E x1 x2 x3 x7 hx7) ?_
  refine And.intro rfl ?_
  refine And.intro ⟨rfl, rfl, rfl, Nat.le_of_ble_eq_true rfl⟩ (Exists.intro (S_Body.cells (x7.1)) (And.intro (fun _ => rfl) ?_))
  refine SeqN.go ?_
  refine SeqJ.go ?_
  refine bind_elim h fun x8 hx8 h => ?_
  refine CallH.data _ false rfl (intarsialaw09_alive_ok E  x8 hx8) ?_
  refine And.intro ⟨Nat.le_of_ble_eq_true rfl, Nat.le_of_ble_eq_true rfl⟩ ?_
  refine NormE.to (S_Body.av (x4.1)) (fun _ => rfl) ?_
  refine And.intro ⟨Nat.le_of_ble_eq_true rfl, Nat.le_of_ble_eq_true rfl⟩ ?_
  refine NormE.to (S_Body.av (x5.1)) (fun _ => rfl) ?_
  refine And.intro (fun hg => hg) ?_
  refine And.intro (fun hg => hg) ?_
  refine And.intro rfl ?_
  refine And.intro (fun hg => (and_r hg)) ?_
  refine And.intro (fun hg => hg) ?_
  refine And.intro (fun hg => hg) ?_
  refine And.intro (fun hg => (and_r hg)) ?_
  refine And.intro ⟨Nat.le_of_ble_eq_true rfl, Nat.le_of_ble_eq_true rfl⟩ ?_
  refine NormE.to (S_Body.av (x6.1)) (fun _ => rfl) ?_
  refine And.intro ⟨Nat.le_of_ble_eq_true rfl, Nat.le_of_ble_eq_true rfl⟩ ?_
  refine NormE.to (S_Body.av (x7.1)) (fun _ => rfl) ?_
  refine And.intro (fun hg => hg) ?_
  refine And.intro (fun hg => hg) ?_
  refine And.intro rfl ?_
  refine And.intro (fun hg => (and_r hg)) ?_
  refine And.intro (fun hg => hg) ?_
  refine And.intro (fun hg => hg) ?_
  refine And.intro (fun hg => (and_r hg)) ?_
  refine SeqN.via (St.of [⟨6, AV.bool (bif (bif (bif (bif x8 then ((((x4.1).Kind) == ((x5.1).Kind)) && ((((x4.1).Size) == ((x5.1).Size)) && true)) else false) then ((x4.2) == (x5.2)) else false) then ((((x6.1).Kind) == ((x7.1).Kind)) && ((((x6.1).Size) == ((x7.1).Size)) && true)) else false) then ((x6.2) == (x7.2)) else false), none⟩] [] []) ?_ ?_
  · refine Gho.to [⟨6, AV.bool (bif (bif (bif (bif x8 then ((((x4.1).Kind) == ((x5.1).Kind)) && ((((x4.1).Size) == ((x5.1).Size)) && true)) else false) then ((x4.2) == (x5.2)) else false) then ((((x6.1).Kind) == ((x7.1).Kind)) && ((((x6.1).Size) == ((x7.1).Size)) && true)) else false) then ((x6.2) == (x7.2)) else false), none⟩] [] [] [] ?_ ?_ ?_ rfl rfl ?_
    · exact trivial
    · exact rfl
    · exact rfl
    · exact ⟨rfl, rfl, trivial, trivial⟩
  replace h := Option.some.inj h
  refine RetE.plain ?_
  exact And.intro rfl (And.intro (congrArg (fun r : Bool => AV.bool r) h) rfl)

theorem intarsiaref04_Add_ok (E : Pm.Env) [LaidE E] (a0 : (List S_Field)) (a1 : S_Field) (r : ((List S_Field) × Int)) (h : intarsiaref04_Add a0 a1 = some r) : FnR E Tryd.prog 19 [AV.list 2 (a0.map S_Field.av), S_Field.av a1] (AV.tup [AV.list 2 ((r.1).map S_Field.av), AV.int .i64 (r.2)]) false := by
  refine FnR.of_ev (T := T) (rows := []) tOk mixed Tryd.func19 rfl (by kernel_rfl) (by kernel_rfl) rfl fun hwf => ?_
  unfold intarsiaref04_Add at h
  refine SeqJ.go ?_
  refine And.intro rfl ?_
  refine SeqN.go ?_
  refine SeqJ.go ?_
  refine SeqJ.go ?_
  refine bind_elim h fun x1 hx1 h => ?_
  refine CallH.data _ false rfl (intarsiaref04_Right_ok E a0 x1 hx1) ?_
  refine And.intro ⟨Nat.le_of_ble_eq_true rfl, Nat.le_of_ble_eq_true rfl⟩ ?_
  refine NormE.to (S_Field.av a1) (fun _ => rfl) ?_
  refine bind_elim h fun x2 hx2 h => ?_
  refine And.intro (fun hg => hg) ?_
  refine And.intro rfl ?_
  refine CallF.mk _ false (fun hg => intarsiaref04_May_ok E a1 x2 (gcall_some hx2 hg)) (And.intro rfl ?_)
  refine And.intro (fun hg => hg) ?_
  refine And.intro (fun hg => (and_r hg)) ?_
  refine SeqN.go ?_
  refine Br.mk (fun ht => ?_) (fun ht => ?_)
  · replace h := cond_tt h ht
    refine SeqJ.go ?_
    refine SeqN.go ?_
    replace h := Option.some.inj h
    refine RetE.plain ?_
    exact And.intro rfl (And.intro (congrArg (fun r : ((List S_Field) × Int) => AV.tup [AV.list 2 ((r.1).map S_Field.av), AV.int .i64 (r.2)]) h) rfl)
  · replace h := cond_ff h ht
    refine SeqN.go ?_
    refine SeqJ.go ?_
    refine SeqJ.go ?_
    refine NormE.to (AV.int .i64 (a0.length : Int)) (fun _ => len_list S_Field.av a0) ?_
    refine SeqN.go ?_
    refine Br.mk (fun ht => ?_) (fun ht => ?_)
    · replace h := cond_tt h ht
      refine SeqJ.go ?_
      refine SeqN.via (St.of [⟨4, AV.list 2 (([] : List S_Field).map S_Field.av), some 0⟩, ⟨5, AV.int .i64 (4 : Int), none⟩] [] [2]) ?_ ?_
      · refine Gho.to [⟨4, AV.list 2 (([] : List S_Field).map S_Field.av), some 0⟩, ⟨5, AV.int .i64 (4 : Int), none⟩] [] [2] [1] ?_ ?_ ?_ rfl rfl ?_
        · exact trivial
        · exact rfl
        · exact rfl
        · exact ⟨rfl, rfl, ⟨rfl, rfl⟩, rfl, rfl, trivial, trivial⟩
      replace h := Option.some.inj h
      refine RetE.plain ?_
      exact And.intro rfl (And.intro (congrArg (fun r : ((List S_Field) × Int) => AV.tup [AV.list 2 ((r.1).map S_Field.av), AV.int .i64 (r.2)]) h) rfl)
    · replace h := cond_ff h ht
      refine SeqN.go ?_
      refine SeqJ.go ?_
      refine And.intro ⟨rfl, rfl, rfl⟩ ?_
      refine NormE.to (AV.list 2 (([] : List S_Field).map S_Field.av)) (fun _ => rfl) ?_
      refine SeqN.via (St.of [⟨0, AV.list 2 (a0.map S_Field.av), none⟩, ⟨3, AV.ptr 0 0, none⟩, ⟨6, AV.list 2 (([] : List S_Field).map S_Field.av), some 0⟩] [.cells 40 (S_Field.cells a1) []] [2]) ?_ ?_
      · refine Gho.to [⟨0, AV.list 2 (a0.map S_Field.av), none⟩, ⟨3, AV.ptr 0 0, none⟩, ⟨6, AV.list 2 (([] : List S_Field).map S_Field.av), some 0⟩] [.cells 40 (S_Field.cells a1) []] [2] [1] ?_ ?_ ?_ rfl rfl ?_
        · exact ⟨⟨rfl, rfl, rfl⟩, trivial⟩
        · exact rfl
        · exact rfl
        · exact ⟨rfl, rfl, trivial, rfl, rfl, trivial, rfl, rfl, ⟨rfl, rfl⟩, trivial⟩
      refine SeqJ.go ?_
      refine bind_elim h fun x3 hx3 h => ?_
      have qx3 := (app_some hx3).1
      have hx3e := (app_some hx3).2
      refine And.intro ⟨rfl, rfl, rfl⟩ ?_
      refine And.intro rfl ?_
      refine And.intro (app_cond S_Field.av qx3) ?_
      refine NormE.to (AV.list 2 (x3.map S_Field.av)) (fun _ => (app_list 2 S_Field.av _ _).trans (congrArg (fun y => AV.list 2 (List.map S_Field.av y)) hx3e.symm)) ?_
      refine SeqN.go ?_
      refine SeqJ.go ?_
      refine And.intro ⟨Nat.le_of_ble_eq_true rfl, Nat.le_of_ble_eq_true rfl⟩ ?_
      refine NormE.to (S_Field.av a1) (fun _ => rfl) ?_
      refine And.intro ⟨rfl, rfl, rfl, rfl⟩ ?_
      refine And.intro ⟨rfl, rfl, rfl⟩ ?_
      refine NormE.to (AV.list 2 (([a1] : List S_Field).map S_Field.av)) (fun _ => rfl) ?_
      refine bind_elim h fun x4 hx4 h => ?_
      have qx4 := (app_some hx4).1
      have hx4e := (app_some hx4).2
      refine And.intro ⟨rfl, rfl, rfl⟩ ?_
      refine And.intro rfl ?_
      refine And.intro (app_cond S_Field.av qx4) ?_
      refine NormE.to (AV.list 2 (x4.map S_Field.av)) (fun _ => (app_list 2 S_Field.av _ _).trans (congrArg (fun y => AV.list 2 (List.map S_Field.av y)) hx4e.symm)) ?_
      refine SeqN.go ?_
      refine SeqJ.go ?_
      refine SeqN.go ?_
      replace h := Option.some.inj h
      refine RetE.plain ?_
      exact And.intro rfl (And.intro (congrArg (fun r : ((List S_Field) × Int) => AV.tup [AV.list 2 ((r.1).map S_Field.av), AV.int .i64 (r.2)]) h) rfl)

theorem intarsiaref04_Remove_ok (E : Pm.Env) [LaidE E] (a0 : (List S_Field)) (a1 : Bytes) (r : (List S_Field)) (h : intarsiaref04_Remove a0 a1 = some r) : FnR E Tryd.prog 20 [AV.list 2 (a0.map S_Field.av), AV.str a1] (AV.list 2 (r.map S_Field.av)) true := by
  refine FnR.of_ev (T := T) (rows := []) tOk mixed Tryd.func20 rfl (by kernel_rfl) (by kernel_rfl) rfl fun hwf => ?_
  unfold intarsiaref04_Remove at h
  refine SeqJ.go ?_
  refine SeqN.go ?_
  refine SeqJ.go ?_
  refine And.intro ⟨rfl, rfl, rfl⟩ ?_
  refine NormE.to (AV.list 2 (([] : List S_Field).map S_Field.av)) (fun _ => rfl) ?_
  refine SeqN.go ?_
  refine bind_elim h fun j1 hj1 h => ?_
  refine SeqJ.join (St.of [⟨5, AV.list 2 (j1.map S_Field.av), some 0⟩] [] [1]) ?_ ?_
  · clear h; have h := hj1; clear hj1
    refine SeqJ.go ?_
    refine NormE.to (AV.int .i64 (a0.length : Int)) (fun _ => len_list S_Field.av a0) ?_
    refine SeqN.go ?_
    refine LoopE.img (fun x : ((List S_Field) × Int) => St.of [⟨1, AV.str a1, none⟩, ⟨5, AV.list 2 ((x.1).map S_Field.av), some 0⟩, ⟨9, AV.list 2 (a0.map S_Field.av), none⟩, ⟨10, AV.int .i64 (a0.length : Int), none⟩, ⟨11, AV.int .i64 (x.2), none⟩] [] [1]) (intarsiaref04_Remove_b1 a0 a1) (([] : List S_Field), (0 : Int)) h ?_ ?_
    · refine Gho.to [⟨1, AV.str a1, none⟩, ⟨5, AV.list 2 (([] : List S_Field).map S_Field.av), some 0⟩, ⟨9, AV.list 2 (a0.map S_Field.av), none⟩, ⟨10, AV.int .i64 (a0.length : Int), none⟩, ⟨11, AV.int .i64 (0 : Int), none⟩] [] [1] [1] ?_ ?_ ?_ rfl rfl ?_
      · exact trivial
      · exact rfl
      · exact rfl
      · exact ⟨rfl, rfl, trivial, rfl, rfl, ⟨rfl, rfl⟩, rfl, rfl, trivial, rfl, rfl, trivial, rfl, rfl, trivial, trivial⟩
    intro n1 x y1 h hl1 hr1
    obtain ⟨s2, s3⟩ := x
    unfold intarsiaref04_Remove_b1 at h
    dsimp only at h
    refine SeqJ.go ?_
    refine SeqN.go ?_
    refine SeqJ.go ?_
    refine Br.mk (fun ht => ?_) (fun ht => ?_)
    · replace h := cond_tt h ht
      refine SeqN.go ?_
      refine SeqJ.go ?_
      refine SeqJ.go ?_
      refine bind_elim h fun x4 hx4 h => ?_
      refine And.intro rfl (Exists.intro (S_Field.av x4) (And.intro (fun hg => idx_map _ hx4) ?_))
      refine And.intro (Nat.le_of_ble_eq_true rfl) ?_
      refine NormE.to (S_Field.av x4) (fun _ => rfl) ?_
      refine And.intro rfl ?_
      refine And.intro ⟨rfl, rfl, rfl, Nat.le_of_ble_eq_true rfl⟩ (Exists.intro (S_Field.cells x4) (And.intro (fun _ => rfl) ?_))
      refine SeqN.go ?_
      refine SeqJ.go ?_
      refine bind_elim h fun x5 hx5 h => ?_
      refine CallH.data _ false rfl (intarsiaref04_same_ok E (x4.Name) a1 x5 hx5) ?_
      refine SeqN.go ?_
      refine Br.mk (fun ht => ?_) (fun ht => ?_)
      · replace h := cond_tt h ht
        refine And.intro ⟨Nat.le_of_ble_eq_true rfl, Nat.le_of_ble_eq_true rfl⟩ ?_
        refine NormE.to (S_Field.av x4) (fun _ => rfl) ?_
        refine And.intro ⟨rfl, rfl, rfl, rfl⟩ ?_
        refine And.intro ⟨rfl, rfl, rfl⟩ ?_
        refine NormE.to (AV.list 2 (([x4] : List S_Field).map S_Field.av)) (fun _ => rfl) ?_
        refine bind_elim h fun x6 hx6 h => ?_
        have qx6 := (app_some hx6).1
        have hx6e := (app_some hx6).2
        refine And.intro ⟨rfl, rfl, rfl⟩ ?_
        refine And.intro rfl ?_
        refine And.intro (app_cond S_Field.av qx6) ?_
        refine NormE.to (AV.list 2 (x6.map S_Field.av)) (fun _ => (app_list 2 S_Field.av _ _).trans (congrArg (fun y => AV.list 2 (List.map S_Field.av y)) hx6e.symm)) ?_
        refine SeqN.go ?_
        replace h := Option.some.inj h
        refine Exists.intro ⟨(n1, (x6, (IntKind.i64.wrap (s3 + (1 : Int))))), hl1 _ h.symm⟩ (And.intro (Nat.lt_succ_self _) ?_)
        refine Gho.to [⟨1, AV.str a1, none⟩, ⟨5, AV.list 2 (x6.map S_Field.av), some 0⟩, ⟨9, AV.list 2 (a0.map S_Field.av), none⟩, ⟨10, AV.int .i64 (a0.length : Int), none⟩, ⟨11, AV.int .i64 (IntKind.i64.wrap (s3 + (1 : Int))), none⟩] [] [1] [2] ?_ ?_ ?_ rfl rfl ?_
        · exact trivial
        · exact rfl
        · exact rfl
        · exact ⟨rfl, rfl, trivial, rfl, rfl, ⟨rfl, rfl⟩, rfl, rfl, trivial, rfl, rfl, trivial, rfl, rfl, trivial, trivial⟩
      · replace h := cond_ff h ht
        refine SeqN.go ?_
        replace h := Option.some.inj h
        refine Exists.intro ⟨(n1, (s2, (IntKind.i64.wrap (s3 + (1 : Int))))), hl1 _ h.symm⟩ (And.intro (Nat.lt_succ_self _) ?_)
        refine Gho.to [⟨1, AV.str a1, none⟩, ⟨5, AV.list 2 (s2.map S_Field.av), some 0⟩, ⟨9, AV.list 2 (a0.map S_Field.av), none⟩, ⟨10, AV.int .i64 (a0.length : Int), none⟩, ⟨11, AV.int .i64 (IntKind.i64.wrap (s3 + (1 : Int))), none⟩] [] [1] [0] ?_ ?_ ?_ rfl rfl ?_
        · exact trivial
        · exact rfl
        · exact rfl
        · exact ⟨rfl, rfl, trivial, rfl, rfl, ⟨rfl, rfl⟩, rfl, rfl, trivial, rfl, rfl, trivial, rfl, rfl, trivial, trivial⟩
    · replace h := cond_ff h ht
      replace h := Option.some.inj h
      replace h := hr1 _ h.symm
      subst h
      refine Gho.to [⟨5, AV.list 2 (s2.map S_Field.av), some 0⟩] [] [1] [0] ?_ ?_ ?_ rfl rfl ?_
      · exact trivial
      · exact rfl
      · exact rfl
      · exact ⟨rfl, rfl, ⟨rfl, rfl⟩, trivial⟩
  · clear hj1
    refine SeqJ.go ?_
    refine SeqN.go ?_
    replace h := Option.some.inj h
    exact RetE.own 4 0 rfl rfl rfl (And.intro (congrArg (fun r : (List S_Field) => AV.list 2 (r.map S_Field.av)) h) rfl)

theorem intarsialaw09_FrameNone_ok (E : Pm.Env) [LaidE E] (a0 : S_Start) (a1 : (List S_Field)) (a2 : Bytes) (a3 : Bytes) (r : Bool) (h : intarsialaw09_FrameNone a0 a1 a2 a3 = some r) : FnR E Tryd.prog 4 [S_Start.av a0, AV.list 2 (a1.map S_Field.av), AV.str a2, AV.str a3] (AV.bool r) false := by
  refine FnR.of_ev (T := T) (rows := []) tOk mixed Tryd.func4 rfl (by kernel_rfl) (by kernel_rfl) rfl fun hwf => ?_
  unfold intarsialaw09_FrameNone at h
  refine SeqJ.go ?_
  refine And.intro rfl ?_
  refine SeqN.go ?_
  refine SeqJ.go ?_
  refine And.intro ⟨Nat.le_of_ble_eq_true rfl, Nat.le_of_ble_eq_true rfl⟩ ?_
  refine NormE.to (S_Start.av a0) (fun _ => rfl) ?_
  refine bind_elim h fun x1 hx1 h => ?_
  refine CallH.data _ false rfl (intarsialaw09_small_ok E a0 x1 hx1) ?_
  refine bind_elim h fun x2 hx2 h => ?_
  refine CallH.data _ false rfl (intarsialaw09_few_ok E a1 x2 hx2) ?_
  refine And.intro ⟨rfl, rfl, rfl, Nat.le_of_ble_eq_true rfl⟩ (Exists.intro (S_Start.cells x1) (And.intro (fun _ => rfl) ?_))
  refine SeqN.go ?_
  refine SeqJ.go ?_
  refine And.intro ⟨Nat.le_of_ble_eq_true rfl, Nat.le_of_ble_eq_true rfl⟩ ?_
  refine NormE.to (S_Start.av x1) (fun _ => rfl) ?_
  refine bind_elim h fun x3 hx3 h => ?_
  refine CallH.data _ false rfl (frame_Answer_ok E x1 x2 ([72, 69, 65, 68] : Bytes) x3 hx3) ?_
  refine And.intro rfl ?_
  refine And.intro ⟨rfl, rfl, rfl, Nat.le_of_ble_eq_true rfl⟩ (Exists.intro (S_Body.cells (x3.1)) (And.intro (fun _ => rfl) ?_))
  refine SeqN.via (St.of [⟨1, AV.list 2 (x2.map S_Field.av), none⟩, ⟨2, AV.str a2, none⟩, ⟨3, AV.str a3, none⟩, ⟨4, AV.ptr 0 0, none⟩, ⟨9, AV.ptr 1 0, none⟩, ⟨10, AV.int .i64 (x3.2), none⟩] [.cells 23 (S_Start.cells x1) [], .cells 28 (S_Body.cells (x3.1)) []] []) ?_ ?_
  · refine Gho.to [⟨1, AV.list 2 (x2.map S_Field.av), none⟩, ⟨2, AV.str a2, none⟩, ⟨3, AV.str a3, none⟩, ⟨4, AV.ptr 0 0, none⟩, ⟨9, AV.ptr 1 0, none⟩, ⟨10, AV.int .i64 (x3.2), none⟩] [.cells 23 (S_Start.cells x1) [], .cells 28 (S_Body.cells (x3.1)) []] [] [] ?_ ?_ ?_ rfl rfl ?_
    · exact ⟨⟨rfl, rfl, rfl⟩, ⟨⟨rfl, rfl, rfl⟩, trivial⟩⟩
    · exact rfl
    · exact rfl
    · exact ⟨rfl, rfl, trivial, rfl, rfl, trivial, rfl, rfl, trivial, rfl, rfl, trivial, rfl, rfl, trivial, rfl, rfl, trivial, trivial⟩
  refine SeqJ.go ?_
  refine And.intro ⟨Nat.le_of_ble_eq_true rfl, Nat.le_of_ble_eq_true rfl⟩ ?_
  refine NormE.to (S_Start.av x1) (fun _ => rfl) ?_
  refine bind_elim h fun x4 hx4 h => ?_
  refine CallH.data _ false rfl (frame_Answer_ok E x1 x2 ([71, 69, 84] : Bytes) x4 hx4) ?_
  refine And.intro rfl ?_
  refine And.intro ⟨rfl, rfl, rfl, Nat.le_of_ble_eq_true rfl⟩ (Exists.intro (S_Body.cells (x4.1)) (And.intro (fun _ => rfl) ?_))
  refine SeqN.go ?_
  refine SeqJ.go ?_
  refine SeqJ.go ?_
  refine And.intro ⟨Nat.le_of_ble_eq_true rfl, Nat.le_of_ble_eq_true rfl⟩ ?_
  refine NormE.to (S_Start.av x1) (fun _ => rfl) ?_
  refine bind_elim h fun x5 hx5 h => ?_
  refine CallH.data _ false rfl (intarsiaref06_Right_ok E x1 x5 hx5) ?_
  refine And.intro (fun hg => hg) ?_
  refine And.intro (fun hg => hg) ?_
  refine And.intro (fun hg => (and_r hg)) ?_
  refine bind_elim h fun x6 hx6 h => ?_
  refine And.intro (fun hg => hg) ?_
  refine And.intro rfl ?_
  refine CallF.mk _ false (fun hg => intarsiaref04_Right_ok E x2 x6 (gcall_some hx6 hg)) (And.intro rfl ?_)
  refine And.intro (fun hg => hg) ?_
  refine And.intro (fun hg => (and_r hg)) ?_
  refine SeqN.via (St.of [⟨1, AV.list 2 (x2.map S_Field.av), none⟩, ⟨2, AV.str a2, none⟩, ⟨3, AV.str a3, none⟩, ⟨4, AV.ptr 0 0, none⟩, ⟨9, AV.ptr 1 0, none⟩, ⟨10, AV.int .i64 (x3.2), none⟩, ⟨11, AV.ptr 2 0, none⟩, ⟨12, AV.int .i64 (x4.2), none⟩, ⟨46, AV.bool (bif (bif (!x5) then true else ((x1.Code) == (0 : Int))) then true else (!x6)), none⟩] [.cells 23 (S_Start.cells x1) [], .cells 28 (S_Body.cells (x3.1)) [], .cells 28 (S_Body.cells (x4.1)) []] []) ?_ ?_
  · refine Gho.to [⟨1, AV.list 2 (x2.map S_Field.av), none⟩, ⟨2, AV.str a2, none⟩, ⟨3, AV.str a3, none⟩, ⟨4, AV.ptr 0 0, none⟩, ⟨9, AV.ptr 1 0, none⟩, ⟨10, AV.int .i64 (x3.2), none⟩, ⟨11, AV.ptr 2 0, none⟩, ⟨12, AV.int .i64 (x4.2), none⟩, ⟨46, AV.bool (bif (bif (!x5) then true else ((x1.Code) == (0 : Int))) then true else (!x6)), none⟩] [.cells 23 (S_Start.cells x1) [], .cells 28 (S_Body.cells (x3.1)) [], .cells 28 (S_Body.cells (x4.1)) []] [] [] ?_ ?_ ?_ rfl rfl ?_
    · exact ⟨⟨rfl, rfl, rfl⟩, ⟨⟨rfl, rfl, rfl⟩, ⟨⟨rfl, rfl, rfl⟩, trivial⟩⟩⟩
    · exact rfl
    · exact rfl
    · exact ⟨rfl, rfl, trivial, rfl, rfl, trivial, rfl, rfl, trivial, rfl, rfl, trivial, rfl, rfl, trivial, rfl, rfl, trivial, rfl, rfl, trivial, rfl, rfl, trivial, rfl, rfl, trivial, trivial⟩
  refine Br.mk (fun ht => ?_) (fun ht => ?_)
  · replace h := cond_tt h ht
    refine SeqJ.go ?_
    refine bind_elim h fun x7 hx7 h => ?_
    refine CallH.data _ false rfl (intarsialaw09_alive_ok E  x7 hx7) ?_
    refine And.intro (fun hg => hg) ?_
    refine And.intro (fun hg => (and_r hg)) ?_
    refine And.intro (fun hg => hg) ?_
    refine And.intro (fun hg => (and_r hg)) ?_
    refine And.intro ⟨Nat.le_of_ble_eq_true rfl, Nat.le_of_ble_eq_true rfl⟩ ?_
    refine NormE.to (S_Body.av (x3.1)) (fun _ => rfl) ?_
    refine And.intro ⟨Nat.le_of_ble_eq_true rfl, Nat.le_of_ble_eq_true rfl⟩ ?_
    refine NormE.to (S_Body.av (x4.1)) (fun _ => rfl) ?_
    refine And.intro (fun hg => hg) ?_
    refine And.intro (fun hg => hg) ?_
    refine And.intro rfl ?_
    refine And.intro (fun hg => (and_r hg)) ?_
    refine SeqN.go ?_
    replace h := Option.some.inj h
    refine RetE.plain ?_
    exact And.intro rfl (And.intro (congrArg (fun r : Bool => AV.bool r) h) rfl)
  · replace h := cond_ff h ht
    refine SeqN.go ?_
    refine SeqJ.go ?_
    refine SeqJ.go ?_
    refine And.intro ⟨Nat.le_of_ble_eq_true rfl, Nat.le_of_ble_eq_true rfl⟩ ?_
    refine NormE.to (S_Body.av (x3.1)) (fun _ => rfl) ?_
    refine And.intro (fun hg => hg) ?_
    refine And.intro (fun hg => hg) ?_
    refine And.intro rfl ?_
    refine And.intro (fun hg => (and_r hg)) ?_
    refine And.intro (fun hg => hg) ?_
    refine And.intro (fun hg => hg) ?_
    refine And.intro (fun hg => hg) ?_
    refine And.intro (fun hg => hg) ?_
    refine And.intro (fun hg => hg) ?_
    refine And.intro (fun hg => hg) ?_
    refine And.intro (fun hg => hg) ?_
    refine And.intro (fun hg => hg) ?_
    refine And.intro ⟨Nat.le_of_ble_eq_true rfl, Nat.le_of_ble_eq_true rfl⟩ ?_
    refine NormE.to (S_Body.av (x4.1)) (fun _ => rfl) ?_
    refine And.intro ⟨Nat.le_of_ble_eq_true rfl, Nat.le_of_ble_eq_true rfl⟩ ?_
    refine NormE.to (S_Body.av (x3.1)) (fun _ => rfl) ?_
    refine And.intro (fun hg => hg) ?_
    refine And.intro (fun hg => hg) ?_
    refine And.intro rfl ?_
    refine And.intro (fun hg => hg) ?_
    refine And.intro (fun hg => hg) ?_
    refine And.intro (fun hg => (and_r hg)) ?_
    refine bind_elim h fun x8 hx8 h => ?_
    refine And.intro rfl ?_
    refine CallF.mk _ false (fun hg => intarsialaw09_alive_ok E  x8 (gcall_some hx8 hg)) (And.intro rfl ?_)
    refine And.intro (fun hg => hg) ?_
    refine And.intro (fun hg => (and_r hg)) ?_
    refine SeqN.via (St.of [⟨1, AV.list 2 (x2.map S_Field.av), none⟩, ⟨2, AV.str a2, none⟩, ⟨3, AV.str a3, none⟩, ⟨4, AV.ptr 0 0, none⟩, ⟨11, AV.ptr 2 0, none⟩, ⟨12, AV.int .i64 (x4.2), none⟩, ⟨86, AV.bool (bif (bif (bif ((x3.2) != (0 : Int)) then true else (!((((x3.1).Kind) == (0 : Int)) && ((((x3.1).Size) == (0 : Int)) && true)))) then true else (bif (bif ((x1.Code) == (204 : Int)) then true else ((x1.Code) == (304 : Int))) then (!((((x4.1).Kind) == ((x3.1).Kind)) && ((((x4.1).Size) == ((x3.1).Size)) && true))) else false)) then true else (!x8)), none⟩] [.cells 23 (S_Start.cells x1) [], .dead, .cells 28 (S_Body.cells (x4.1)) []] []) ?_ ?_
    · refine Gho.to [⟨1, AV.list 2 (x2.map S_Field.av), none⟩, ⟨2, AV.str a2, none⟩, ⟨3, AV.str a3, none⟩, ⟨4, AV.ptr 0 0, none⟩, ⟨11, AV.ptr 2 0, none⟩, ⟨12, AV.int .i64 (x4.2), none⟩, ⟨86, AV.bool (bif (bif (bif ((x3.2) != (0 : Int)) then true else (!((((x3.1).Kind) == (0 : Int)) && ((((x3.1).Size) == (0 : Int)) && true)))) then true else (bif (bif ((x1.Code) == (204 : Int)) then true else ((x1.Code) == (304 : Int))) then (!((((x4.1).Kind) == ((x3.1).Kind)) && ((((x4.1).Size) == ((x3.1).Size)) && true))) else false)) then true else (!x8)), none⟩] [.cells 23 (S_Start.cells x1) [], .dead, .cells 28 (S_Body.cells (x4.1)) []] [] [] ?_ ?_ ?_ rfl rfl ?_
      · exact ⟨⟨rfl, rfl, rfl⟩, ⟨trivial, ⟨⟨rfl, rfl, rfl⟩, trivial⟩⟩⟩
      · exact rfl
      · exact rfl
      · exact ⟨rfl, rfl, trivial, rfl, rfl, trivial, rfl, rfl, trivial, rfl, rfl, trivial, rfl, rfl, trivial, rfl, rfl, trivial, rfl, rfl, trivial, trivial⟩
    refine Br.mk (fun ht => ?_) (fun ht => ?_)
    · replace h := cond_tt h ht
      refine SeqJ.go ?_
      refine SeqN.go ?_
      replace h := Option.some.inj h
      refine RetE.plain ?_
      exact And.intro rfl (And.intro (congrArg (fun r : Bool => AV.bool r) h) rfl)
    · replace h := cond_ff h ht
      refine SeqN.go ?_
      refine SeqJ.go ?_
      refine NormE.same ?_
      refine And.intro rfl ?_
      refine bind_elim h fun x9 hx9 h => ?_
      have qx9 := (slc_some hx9).1
      have hx9e := (slc_some hx9).2
      refine And.intro (fun _ => qx9) ?_
      refine NormE.to (AV.str x9) (fun _ => congrArg AV.str hx9e.symm) ?_
      refine NormE.same ?_
      refine And.intro rfl ?_
      refine bind_elim h fun x10 hx10 h => ?_
      have qx10 := (slc_some hx10).1
      have hx10e := (slc_some hx10).2
      refine And.intro (fun _ => qx10) ?_
      refine NormE.to (AV.str x10) (fun _ => congrArg AV.str hx10e.symm) ?_
      refine And.intro ⟨rfl, rfl, Nat.le_of_ble_eq_true rfl⟩ ?_
      refine And.intro ⟨rfl, rfl, Nat.le_of_ble_eq_true rfl⟩ ?_
      refine bind_elim h fun x11 hx11 h => ?_
      refine CallH.data _ false rfl (intarsiaref04_Add_ok E x2 (S_Field.mk x9 x10) x11 hx11) ?_
      refine And.intro (by kernel_rfl) ?_
      refine SeqN.via (St.of [⟨1, AV.list 2 (x2.map S_Field.av), none⟩, ⟨4, AV.ptr 0 0, none⟩, ⟨11, AV.ptr 2 0, none⟩, ⟨12, AV.int .i64 (x4.2), none⟩, ⟨13, AV.list 2 ((x11.1).map S_Field.av), none⟩, ⟨14, AV.int .i64 (x11.2), none⟩] [.cells 23 (S_Start.cells x1) [], .dead, .cells 28 (S_Body.cells (x4.1)) []] []) ?_ ?_
      · refine Gho.to [⟨1, AV.list 2 (x2.map S_Field.av), none⟩, ⟨4, AV.ptr 0 0, none⟩, ⟨11, AV.ptr 2 0, none⟩, ⟨12, AV.int .i64 (x4.2), none⟩, ⟨13, AV.list 2 ((x11.1).map S_Field.av), none⟩, ⟨14, AV.int .i64 (x11.2), none⟩] [.cells 23 (S_Start.cells x1) [], .dead, .cells 28 (S_Body.cells (x4.1)) []] [] [] ?_ ?_ ?_ rfl rfl ?_
        · exact ⟨⟨rfl, rfl, rfl⟩, ⟨trivial, ⟨⟨rfl, rfl, rfl⟩, trivial⟩⟩⟩
        · exact rfl
        · exact rfl
        · exact ⟨rfl, rfl, trivial, rfl, rfl, trivial, rfl, rfl, trivial, rfl, rfl, trivial, rfl, rfl, trivial, rfl, rfl, trivial, trivial⟩
      refine SeqJ.go ?_
      refine bind_elim h fun x12 hx12 h => ?_
      refine CallH.data _ true rfl (intarsiaref04_Remove_ok E (x11.1) ([99, 111, 110, 116, 101, 110, 116, 45, 108, 101, 110, 103, 116, 104] : Bytes) x12 hx12) ?_
      refine bind_elim h fun x13 hx13 h => ?_
      refine CallH.data _ true rfl (intarsiaref04_Remove_ok E x12 ([116, 114, 97, 110, 115, 102, 101, 114, 45, 101, 110, 99, 111, 100, 105, 110, 103] : Bytes) x13 hx13) ?_
      refine SeqN.go ?_
      refine SeqJ.go ?_
      refine SeqJ.go ?_
      refine And.intro (fun hg => hg) ?_
      refine NormE.to (AV.int .i64 ((x11.1).length : Int)) (fun _ => len_list S_Field.av (x11.1)) ?_
      refine And.intro (fun hg => hg) ?_
      refine NormE.to (AV.int .i64 (x13.length : Int)) (fun _ => len_list S_Field.av x13) ?_
      refine And.intro (fun hg => hg) ?_
      refine And.intro (fun hg => hg) ?_
      refine And.intro (fun hg => hg) ?_
      refine NormE.to (AV.int .i64 (x2.length : Int)) (fun _ => len_list S_Field.av x2) ?_
      refine bind_elim h fun x14 hx14 h => ?_
      refine And.intro (fun hg => hg) ?_
      refine And.intro rfl ?_
      refine CallF.mk _ false (fun hg => FnR.drop (intarsiaref04_Remove_ok E x2 ([99, 111, 110, 116, 101, 110, 116, 45, 108, 101, 110, 103, 116, 104] : Bytes) x14 (gcall_some hx14 hg))) (And.intro rfl ?_)
      refine bind_elim h fun x15 hx15 h => ?_
      refine And.intro (fun hg => hg) ?_
      refine And.intro rfl ?_
      refine CallF.mk _ false (fun hg => FnR.drop (intarsiaref04_Remove_ok E x14 ([116, 114, 97, 110, 115, 102, 101, 114, 45, 101, 110, 99, 111, 100, 105, 110, 103] : Bytes) x15 (gcall_some hx15 hg))) (And.intro rfl ?_)
      refine And.intro (fun hg => hg) ?_
      refine NormE.to (AV.int .i64 (x15.length : Int)) (fun _ => len_list S_Field.av x15) ?_
      refine And.intro (fun hg => hg) ?_
      refine And.intro (fun hg => hg) ?_
      refine And.intro (fun hg => hg) ?_
      refine And.intro (fun hg => hg) ?_
      refine And.intro (fun hg => (and_r hg)) ?_
      refine SeqN.via (St.of [⟨4, AV.ptr 0 0, none⟩, ⟨11, AV.ptr 2 0, none⟩, ⟨12, AV.int .i64 (x4.2), none⟩, ⟨13, AV.list 2 ((x11.1).map S_Field.av), none⟩, ⟨122, AV.bool (bif ((x11.2) != (0 : Int)) then true else ((IntKind.i64.wrap (((x11.1).length : Int) - (x13.length : Int))) != (IntKind.i64.wrap ((x2.length : Int) - (x15.length : Int))))), none⟩] [.cells 23 (S_Start.cells x1) [], .dead, .cells 28 (S_Body.cells (x4.1)) []] []) ?_ ?_
      · refine Gho.to [⟨4, AV.ptr 0 0, none⟩, ⟨11, AV.ptr 2 0, none⟩, ⟨12, AV.int .i64 (x4.2), none⟩, ⟨13, AV.list 2 ((x11.1).map S_Field.av), none⟩, ⟨122, AV.bool (bif ((x11.2) != (0 : Int)) then true else ((IntKind.i64.wrap (((x11.1).length : Int) - (x13.length : Int))) != (IntKind.i64.wrap ((x2.length : Int) - (x15.length : Int))))), none⟩] [.cells 23 (S_Start.cells x1) [], .dead, .cells 28 (S_Body.cells (x4.1)) []] [] [] ?_ ?_ ?_ rfl rfl ?_
        · exact ⟨⟨rfl, rfl, rfl⟩, ⟨trivial, ⟨⟨rfl, rfl, rfl⟩, trivial⟩⟩⟩
        · exact rfl
        · exact rfl
        · exact ⟨rfl, rfl, trivial, rfl, rfl, trivial, rfl, rfl, trivial, rfl, rfl, trivial, rfl, rfl, trivial, trivial⟩
      refine Br.mk (fun ht => ?_) (fun ht => ?_)
      · replace h := cond_tt h ht
        refine SeqJ.go ?_
        refine SeqN.go ?_
        replace h := Option.some.inj h
        refine RetE.plain ?_
        exact And.intro rfl (And.intro (congrArg (fun r : Bool => AV.bool r) h) rfl)
      · replace h := cond_ff h ht
        refine SeqN.go ?_
        refine SeqJ.go ?_
        refine And.intro ⟨Nat.le_of_ble_eq_true rfl, Nat.le_of_ble_eq_true rfl⟩ ?_
        refine NormE.to (S_Start.av x1) (fun _ => rfl) ?_
        refine bind_elim h fun x16 hx16 h => ?_
        refine CallH.data _ false rfl (frame_Answer_ok E x1 (x11.1) ([71, 69, 84] : Bytes) x16 hx16) ?_
        refine And.intro rfl ?_
        refine And.intro ⟨rfl, rfl, rfl, Nat.le_of_ble_eq_true rfl⟩ (Exists.intro (S_Body.cells (x16.1)) (And.intro (fun _ => rfl) ?_))
        refine SeqN.go ?_
        refine SeqJ.go ?_
        refine And.intro ⟨Nat.le_of_ble_eq_true rfl, Nat.le_of_ble_eq_true rfl⟩ ?_
        refine NormE.to (S_Body.av (x16.1)) (fun _ => rfl) ?_
        refine And.intro ⟨Nat.le_of_ble_eq_true rfl, Nat.le_of_ble_eq_true rfl⟩ ?_
        refine NormE.to (S_Body.av (x4.1)) (fun _ => rfl) ?_
        refine And.intro rfl ?_
        refine And.intro (fun hg => hg) ?_
        refine And.intro (fun hg => hg) ?_
        refine And.intro (fun hg => (and_r hg)) ?_
        refine SeqN.via (St.of [⟨8, AV.bool (bif ((((x16.1).Kind) == ((x4.1).Kind)) && ((((x16.1).Size) == ((x4.1).Size)) && true)) then ((x16.2) == (x4.2)) else false), none⟩] [] []) ?_ ?_
        · refine Gho.to [⟨8, AV.bool (bif ((((x16.1).Kind) == ((x4.1).Kind)) && ((((x16.1).Size) == ((x4.1).Size)) && true)) then ((x16.2) == (x4.2)) else false), none⟩] [] [] [] ?_ ?_ ?_ rfl rfl ?_
          · exact trivial
          · exact rfl
          · exact rfl
          · exact ⟨rfl, rfl, trivial, trivial⟩
        replace h := Option.some.inj h
        refine RetE.plain ?_
        exact And.intro rfl (And.intro (congrArg (fun r : Bool => AV.bool r) h) rfl)

theorem table_Remove_1_ok (E : Pm.Env) [LaidE E] (a0 : S_Field) (c0 : FuncId) (c0c : List AV) (c0i : S_Field → Option Bool) (c0h : ∀ (x0 : S_Field) (r : Bool), c0i x0 = some r → FnR E Tryd.prog c0 ([S_Field.av x0] ++ c0c) (AV.bool r) false) (c0p : c0c.all AV.puB = true) (r : Bool) (h : table_Remove_1 a0 c0i = some r) : FnR E Tryd.prog 74 [S_Field.av a0, AV.iptr [AV.fn c0 [] c0c]] (AV.bool r) false := by
  refine FnR.of_ev (T := T) (rows := []) tOk mixed Tryd.func74 rfl (by kernel_rfl) (by kernel_rfl) rfl fun hwf => ?_
  unfold table_Remove_1 at h
  refine SeqJ.go ?_
  refine And.intro rfl ?_
  refine SeqN.go ?_
  refine SeqJ.go ?_
  refine And.intro ⟨Nat.le_of_ble_eq_true rfl, Nat.le_of_ble_eq_true rfl⟩ ?_
  refine NormE.to (S_Field.av a0) (fun _ => rfl) ?_
  refine bind_elim h fun x1 hx1 h => ?_
  refine CallH.data _ false (puD_app rfl (puD_of c0p)) (c0h a0 x1 hx1) ?_
  refine SeqN.go ?_
  replace h := Option.some.inj h
  refine RetE.plain ?_
  exact And.intro rfl (And.intro (congrArg (fun r : Bool => AV.bool r) h) rfl)

theorem table_Remove_ok (E : Pm.Env) [LaidE E] (a0 : (List S_Field)) (a1 : Bytes) (r : (List S_Field)) (h : table_Remove a0 a1 = some r) : FnR E Tryd.prog 44 [AV.list 2 (a0.map S_Field.av), AV.str a1] (AV.list 2 (r.map S_Field.av)) true := by
  refine FnR.of_ev (T := T) (rows := []) tOk mixed Tryd.func44 rfl (by kernel_rfl) (by kernel_rfl) rfl fun hwf => ?_
  unfold table_Remove at h
  refine SeqJ.go ?_
  refine SeqN.go ?_
  refine SeqJ.go ?_
  refine bind_elim h fun x1 hx1 h => ?_
  refine CallH.data _ false rfl (table_named_ok E a1 x1 hx1) ?_
  refine And.intro rfl ?_
  refine And.intro ⟨rfl, rfl, rfl, Nat.le_of_ble_eq_true rfl⟩ (Exists.intro [AV.fn 95 [] [AV.iptr [AV.str x1]]] (And.intro (fun _ => rfl) ?_))
  refine SeqN.via (St.of [⟨0, AV.list 2 (a0.map S_Field.av), none⟩, ⟨5, AV.iptr [AV.fn 95 [] [AV.iptr [AV.str x1]]], none⟩] [] []) ?_ ?_
  · refine Gho.trans (Gho.fz [0] [(5, AV.iptr [AV.fn 95 [] [AV.iptr [AV.str x1]]])] ⟨Frz.ptrD rfl rfl (Nat.le_of_ble_eq_true rfl), trivial⟩) ?_
    refine Gho.to [⟨0, AV.list 2 (a0.map S_Field.av), none⟩, ⟨5, AV.iptr [AV.fn 95 [] [AV.iptr [AV.str x1]]], none⟩] [] [] [] ?_ ?_ ?_ rfl rfl ?_
    · exact trivial
    · exact rfl
    · exact rfl
    · exact ⟨rfl, rfl, trivial, rfl, rfl, trivial, trivial⟩
  refine SeqJ.go ?_
  refine bind_elim h fun x2 hx2 h => ?_
  refine CallH.data _ true rfl (table_keep_api_Field_ok E a0 74 [AV.iptr [AV.fn 95 [] [AV.iptr [AV.str x1]]]] (fun x0 => table_Remove_1 x0 (fun x0 => table_named_1 x0 x1)) (fun x0 r h => table_Remove_1_ok E x0 95 [AV.iptr [AV.str x1]] (fun x0 => table_named_1 x0 x1) (fun x0 r h => table_named_1_ok E x0 x1 r h) rfl r h) rfl x2 hx2) ?_
  refine SeqN.go ?_
  replace h := Option.some.inj h
  exact RetE.own 4 0 rfl rfl rfl (And.intro (congrArg (fun r : (List S_Field) => AV.list 2 (r.map S_Field.av)) h) rfl)

theorem number_Dec_ok (E : Pm.Env) [LaidE E] (a0 : Int) (r : Bytes) (h : number_Dec a0 = some r) : FnR E Tryd.prog 46 [AV.int .u64 a0] (AV.str r) false := by
  refine FnR.of_ev (T := T) (rows := []) tOk mixed Tryd.func46 rfl (by kernel_rfl) (by kernel_rfl) rfl fun hwf => ?_
  unfold number_Dec at h
  refine SeqJ.go ?_
  refine SeqN.go ?_
  refine SeqJ.go ?_
  refine bind_elim h fun x1 hx1 h => ?_
  refine CallH.data _ false rfl (strconv_FormatUint_ok E a0 (10 : Int) x1 hx1) ?_
  refine SeqN.go ?_
  replace h := Option.some.inj h
  refine RetE.plain ?_
  exact And.intro rfl (And.intro (congrArg (fun r : Bytes => AV.str r) h) rfl)

theorem slices_Clip__api_Field_api_Field_ok (E : Pm.Env) [LaidE E] (a0 : (List S_Field)) (r : (List S_Field)) (h : slices_Clip__api_Field_api_Field a0 = some r) : FnR E Tryd.prog 75 [AV.list 2 (a0.map S_Field.av)] (AV.list 2 (r.map S_Field.av)) true := by
  refine FnR.of_ev (T := T) (rows := []) tOk mixed Tryd.func75 rfl (by kernel_rfl) (by kernel_rfl) rfl fun hwf => ?_
  unfold slices_Clip__api_Field_api_Field at h
  refine SeqJ.go ?_
  refine SeqN.go ?_
  refine SeqJ.go ?_
  refine NormE.to (AV.int .i64 (a0.length : Int)) (fun _ => len_list S_Field.av a0) ?_
  refine NormE.to (AV.int .i64 (a0.length : Int)) (fun _ => len_list S_Field.av a0) ?_
  refine bind_elim h fun x1 hx1 h => ?_
  have qx1 := (slc_some hx1).1
  have hx1e := (slc_some hx1).2
  refine And.intro ⟨slc_cond S_Field.av qx1, rfl, rfl⟩ ?_
  refine NormE.to (AV.list 2 (x1.map S_Field.av)) (fun _ => (slc_list 2 S_Field.av _ _ _).trans (congrArg (fun y => AV.list 2 (List.map S_Field.av y)) hx1e.symm)) ?_
  refine SeqN.go ?_
  replace h := Option.some.inj h
  exact RetE.own 2 1 rfl rfl rfl (And.intro (congrArg (fun r : (List S_Field) => AV.list 2 (r.map S_Field.av)) h) rfl)

theorem table_Add_ok (E : Pm.Env) [LaidE E] (a0 : (List S_Field)) (a1 : Bytes) (a2 : Bytes) (r : ((List S_Field) × Int)) (h : table_Add a0 a1 a2 = some r) : FnR E Tryd.prog 45 [AV.list 2 (a0.map S_Field.av), AV.str a1, AV.str a2] (AV.tup [AV.list 2 ((r.1).map S_Field.av), AV.int .i64 (r.2)]) false := by
  refine FnR.of_ev (T := T) (rows := []) tOk mixed Tryd.func45 rfl (by kernel_rfl) (by kernel_rfl) rfl fun hwf => ?_
  unfold table_Add at h
  refine SeqJ.go ?_
  refine SeqN.go ?_
  refine SeqJ.go ?_
  refine And.intro ⟨rfl, rfl, Nat.le_of_ble_eq_true rfl⟩ ?_
  refine And.intro ⟨rfl, rfl, Nat.le_of_ble_eq_true rfl⟩ ?_
  refine And.intro rfl ?_
  refine And.intro ⟨rfl, rfl, rfl, Nat.le_of_ble_eq_true rfl⟩ (Exists.intro [AV.str a1, AV.str a2] (And.intro (fun _ => rfl) ?_))
  refine SeqN.go ?_
  refine SeqJ.go ?_
  refine SeqJ.go ?_
  refine bind_elim h fun x1 hx1 h => ?_
  refine CallH.data _ false rfl (table_Right_ok E a0 x1 hx1) ?_
  refine And.intro ⟨Nat.le_of_ble_eq_true rfl, Nat.le_of_ble_eq_true rfl⟩ ?_
  refine NormE.to (AV.agg [AV.str a1, AV.str a2]) (fun _ => rfl) ?_
  refine bind_elim h fun x2 hx2 h => ?_
  refine And.intro (fun hg => hg) ?_
  refine And.intro rfl ?_
  refine CallF.mk _ false (fun hg => table_may_ok E (S_Field.mk a1 a2) x2 (gcall_some hx2 hg)) (And.intro rfl ?_)
  refine And.intro (fun hg => hg) ?_
  refine And.intro (fun hg => (and_r hg)) ?_
  refine SeqN.via (St.of [⟨0, AV.list 2 (a0.map S_Field.av), none⟩, ⟨8, AV.ptr 0 0, none⟩, ⟨12, AV.bool (bif (!x1) then true else (!x2)), none⟩] [.cells 40 [AV.str a1, AV.str a2] []] []) ?_ ?_
  · refine Gho.to [⟨0, AV.list 2 (a0.map S_Field.av), none⟩, ⟨8, AV.ptr 0 0, none⟩, ⟨12, AV.bool (bif (!x1) then true else (!x2)), none⟩] [.cells 40 [AV.str a1, AV.str a2] []] [] [] ?_ ?_ ?_ rfl rfl ?_
    · exact ⟨⟨rfl, rfl, rfl⟩, trivial⟩
    · exact rfl
    · exact rfl
    · exact ⟨rfl, rfl, trivial, rfl, rfl, trivial, rfl, rfl, trivial, trivial⟩
  refine Br.mk (fun ht => ?_) (fun ht => ?_)
  · replace h := cond_tt h ht
    refine SeqJ.go ?_
    refine SeqN.go ?_
    replace h := Option.some.inj h
    refine RetE.plain ?_
    exact And.intro rfl (And.intro (congrArg (fun r : ((List S_Field) × Int) => AV.tup [AV.list 2 ((r.1).map S_Field.av), AV.int .i64 (r.2)]) h) rfl)
  · replace h := cond_ff h ht
    refine SeqJ.go ?_
    refine NormE.to (AV.int .i64 (a0.length : Int)) (fun _ => len_list S_Field.av a0) ?_
    refine SeqN.go ?_
    refine Br.mk (fun ht => ?_) (fun ht => ?_)
    · replace h := cond_tt h ht
      refine SeqJ.go ?_
      refine SeqN.go ?_
      replace h := Option.some.inj h
      refine RetE.plain ?_
      exact And.intro rfl (And.intro (congrArg (fun r : ((List S_Field) × Int) => AV.tup [AV.list 2 ((r.1).map S_Field.av), AV.int .i64 (r.2)]) h) rfl)
    · replace h := cond_ff h ht
      refine SeqN.go ?_
      refine SeqJ.go ?_
      refine bind_elim h fun x3 hx3 h => ?_
      refine CallH.data _ true rfl (slices_Clip__api_Field_api_Field_ok E a0 x3 hx3) ?_
      refine And.intro ⟨Nat.le_of_ble_eq_true rfl, Nat.le_of_ble_eq_true rfl⟩ ?_
      refine NormE.to (AV.agg [AV.str a1, AV.str a2]) (fun _ => rfl) ?_
      refine And.intro ⟨rfl, rfl, rfl, rfl⟩ ?_
      refine And.intro ⟨rfl, rfl, rfl⟩ ?_
      refine NormE.to (AV.list 2 (([(S_Field.mk a1 a2)] : List S_Field).map S_Field.av)) (fun _ => rfl) ?_
      refine bind_elim h fun x4 hx4 h => ?_
      have qx4 := (app_some hx4).1
      have hx4e := (app_some hx4).2
      refine And.intro ⟨rfl, rfl, rfl⟩ ?_
      refine And.intro rfl ?_
      refine And.intro (app_cond S_Field.av qx4) ?_
      refine NormE.to (AV.list 2 (x4.map S_Field.av)) (fun _ => (app_list 2 S_Field.av _ _).trans (congrArg (fun y => AV.list 2 (List.map S_Field.av y)) hx4e.symm)) ?_
      refine And.intro (by kernel_rfl) ?_
      refine SeqN.go ?_
      replace h := Option.some.inj h
      refine RetE.plain ?_
      exact And.intro rfl (And.intro (congrArg (fun r : ((List S_Field) × Int) => AV.tup [AV.list 2 ((r.1).map S_Field.av), AV.int .i64 (r.2)]) h) rfl)

theorem frame_With_ok (E : Pm.Env) [LaidE E] (a0 : (List S_Field)) (a1 : S_Body) (r : ((List S_Field) × Int)) (h : frame_With a0 a1 = some r) : FnR E Tryd.prog 21 [AV.list 2 (a0.map S_Field.av), S_Body.av a1] (AV.tup [AV.list 2 ((r.1).map S_Field.av), AV.int .i64 (r.2)]) false := by
  refine FnR.of_ev (T := T) (rows := []) tOk mixed Tryd.func21 rfl (by kernel_rfl) (by kernel_rfl) rfl fun hwf => ?_
  unfold frame_With at h
  refine SeqJ.go ?_
  refine And.intro rfl ?_
  refine SeqN.go ?_
  refine SeqJ.go ?_
  refine SeqJ.go ?_
  refine bind_elim h fun x1 hx1 h => ?_
  refine CallH.data _ false rfl (table_Right_ok E a0 x1 hx1) ?_
  refine And.intro (fun hg => hg) ?_
  refine And.intro (fun hg => hg) ?_
  refine And.intro (fun hg => (and_r hg)) ?_
  refine And.intro (fun hg => hg) ?_
  refine And.intro (fun hg => hg) ?_
  refine And.intro (fun hg => (and_r hg)) ?_
  refine And.intro (fun hg => hg) ?_
  refine And.intro (fun hg => hg) ?_
  refine And.intro (fun hg => (and_r hg)) ?_
  refine And.intro (fun hg => hg) ?_
  refine And.intro (fun hg => hg) ?_
  refine And.intro (fun hg => (and_r hg)) ?_
  refine SeqN.via (St.of [⟨0, AV.list 2 (a0.map S_Field.av), none⟩, ⟨3, AV.ptr 0 0, none⟩, ⟨28, AV.bool (bif (bif (bif (bif (!x1) then true else (decide ((a1.Size) < (0 : Int)))) then true else (decide ((a1.Size) > (20000 : Int)))) then true else (decide ((a1.Kind) < (0 : Int)))) then true else (decide ((a1.Kind) > (3 : Int)))), none⟩] [.cells 28 (S_Body.cells a1) []] []) ?_ ?_
  · refine Gho.to [⟨0, AV.list 2 (a0.map S_Field.av), none⟩, ⟨3, AV.ptr 0 0, none⟩, ⟨28, AV.bool (bif (bif (bif (bif (!x1) then true else (decide ((a1.Size) < (0 : Int)))) then true else (decide ((a1.Size) > (20000 : Int)))) then true else (decide ((a1.Kind) < (0 : Int)))) then true else (decide ((a1.Kind) > (3 : Int)))), none⟩] [.cells 28 (S_Body.cells a1) []] [] [] ?_ ?_ ?_ rfl rfl ?_
    · exact ⟨⟨rfl, rfl, rfl⟩, trivial⟩
    · exact rfl
    · exact rfl
    · exact ⟨rfl, rfl, trivial, rfl, rfl, trivial, rfl, rfl, trivial, trivial⟩
  refine Br.mk (fun ht => ?_) (fun ht => ?_)
  · replace h := cond_tt h ht
    refine SeqJ.go ?_
    refine SeqN.go ?_
    replace h := Option.some.inj h
    refine RetE.plain ?_
    exact And.intro rfl (And.intro (congrArg (fun r : ((List S_Field) × Int) => AV.tup [AV.list 2 ((r.1).map S_Field.av), AV.int .i64 (r.2)]) h) rfl)
  · replace h := cond_ff h ht
    refine SeqN.go ?_
    refine SeqJ.go ?_
    refine bind_elim h fun x2 hx2 h => ?_
    refine CallH.data _ true rfl (table_Remove_ok E a0 ([67, 111, 110, 116, 101, 110, 116, 45, 76, 101, 110, 103, 116, 104] : Bytes) x2 hx2) ?_
    refine bind_elim h fun x3 hx3 h => ?_
    refine CallH.data _ true rfl (table_Remove_ok E x2 ([84, 114, 97, 110, 115, 102, 101, 114, 45, 69, 110, 99, 111, 100, 105, 110, 103] : Bytes) x3 hx3) ?_
    refine SeqN.go ?_
    refine SeqJ.go ?_
    refine SeqJ.go ?_
    refine SeqN.go ?_
    refine SeqJ.go ?_
    refine SeqN.go ?_
    refine Br.mk (fun ht => ?_) (fun ht => ?_)
    · replace h := cond_tt h ht
      refine SeqJ.go ?_
      refine bind_elim h fun x4 hx4 h => ?_
      refine CallH.data _ false rfl (number_Dec_ok E (IntKind.u64.wrap (a1.Size)) x4 hx4) ?_
      refine bind_elim h fun x5 hx5 h => ?_
      refine CallH.data _ false rfl (table_Add_ok E x3 ([67, 111, 110, 116, 101, 110, 116, 45, 76, 101, 110, 103, 116, 104] : Bytes) x4 x5 hx5) ?_
      refine SeqN.via (St.of [⟨4, AV.list 2 ((x5.1).map S_Field.av), none⟩, ⟨5, AV.int .i64 (x5.2), none⟩] [] []) ?_ ?_
      · refine Gho.to [⟨4, AV.list 2 ((x5.1).map S_Field.av), none⟩, ⟨5, AV.int .i64 (x5.2), none⟩] [] [] [] ?_ ?_ ?_ rfl rfl ?_
        · exact trivial
        · exact rfl
        · exact rfl
        · exact ⟨rfl, rfl, trivial, rfl, rfl, trivial, trivial⟩
      replace h := Option.some.inj h
      refine RetE.plain ?_
      exact And.intro rfl (And.intro (congrArg (fun r : ((List S_Field) × Int) => AV.tup [AV.list 2 ((r.1).map S_Field.av), AV.int .i64 (r.2)]) h) rfl)
    · replace h := cond_ff h ht
      refine SeqJ.go ?_
      refine SeqN.go ?_
      refine Br.mk (fun ht => ?_) (fun ht => ?_)
      · replace h := cond_tt h ht
        refine SeqJ.go ?_
        refine bind_elim h fun x6 hx6 h => ?_
        refine CallH.data _ false rfl (table_Add_ok E x3 ([84, 114, 97, 110, 115, 102, 101, 114, 45, 69, 110, 99, 111, 100, 105, 110, 103] : Bytes) ([99, 104, 117, 110, 107, 101, 100] : Bytes) x6 hx6) ?_
        refine SeqN.via (St.of [⟨4, AV.list 2 ((x6.1).map S_Field.av), none⟩, ⟨5, AV.int .i64 (x6.2), none⟩] [] []) ?_ ?_
        · refine Gho.to [⟨4, AV.list 2 ((x6.1).map S_Field.av), none⟩, ⟨5, AV.int .i64 (x6.2), none⟩] [] [] [] ?_ ?_ ?_ rfl rfl ?_
          · exact trivial
          · exact rfl
          · exact rfl
          · exact ⟨rfl, rfl, trivial, rfl, rfl, trivial, trivial⟩
        replace h := Option.some.inj h
        refine RetE.plain ?_
        exact And.intro rfl (And.intro (congrArg (fun r : ((List S_Field) × Int) => AV.tup [AV.list 2 ((r.1).map S_Field.av), AV.int .i64 (r.2)]) h) rfl)
      · replace h := cond_ff h ht
        refine SeqN.go ?_
        refine SeqJ.go ?_
        refine SeqN.go ?_
        replace h := Option.some.inj h
        refine RetE.plain ?_
        exact And.intro rfl (And.intro (congrArg (fun r : ((List S_Field) × Int) => AV.tup [AV.list 2 ((r.1).map S_Field.av), AV.int .i64 (r.2)]) h) rfl)

theorem intarsiaref02_Digits_ok (E : Pm.Env) [LaidE E] (a0 : Int) (a1 : Int) (r : Bytes) (h : intarsiaref02_Digits a0 a1 = some r) : FnR E Tryd.prog 47 [AV.int .u64 a0, AV.int .u64 a1] (AV.str r) false := by
  refine FnR.of_ev (T := T) (rows := []) tOk mixed Tryd.func47 rfl (by kernel_rfl) (by kernel_rfl) rfl fun hwf => ?_
  unfold intarsiaref02_Digits at h
  refine SeqJ.go ?_
  refine SeqN.go ?_
  refine SeqJ.go ?_
  refine SeqN.go ?_
  refine bind_elim h fun j1 hj1 h => ?_
  refine SeqJ.join (St.of [⟨5, AV.str j1, none⟩] [] []) ?_ ?_
  · clear h; have h := hj1; clear hj1
    refine LoopE.img (fun x : (Int × Bytes) => St.of [⟨0, AV.int .u64 (x.1), none⟩, ⟨1, AV.int .u64 a1, none⟩, ⟨5, AV.str (x.2), none⟩] [] []) (intarsiaref02_Digits_b1 a1) (a0, ([] : Bytes)) h ?_ ?_
    · refine Gho.to [⟨0, AV.int .u64 a0, none⟩, ⟨1, AV.int .u64 a1, none⟩, ⟨5, AV.str ([] : Bytes), none⟩] [] [] [] ?_ ?_ ?_ rfl rfl ?_
      · exact trivial
      · exact rfl
      · exact rfl
      · exact ⟨rfl, rfl, trivial, rfl, rfl, trivial, rfl, rfl, trivial, trivial⟩
    intro n1 x y1 h hl1 hr1
    obtain ⟨s2, s3⟩ := x
    unfold intarsiaref02_Digits_b1 at h
    dsimp only at h
    refine SeqJ.go ?_
    refine SeqJ.go ?_
    refine And.intro (fun hg => hg) ?_
    refine And.intro (fun hg => (and_r hg)) ?_
    refine SeqN.go ?_
    refine Br.mk (fun ht => ?_) (fun ht => ?_)
    · replace h := cond_tt h ht
      refine SeqN.go ?_
      refine SeqJ.go ?_
      refine chk_elim h fun q4 h => ?_
      refine And.intro (fun _ => q4) ?_
      refine chk_elim h fun q5 h => ?_
      refine And.intro (fun _ => q5) ?_
      refine bind_elim h fun x6 hx6 h => ?_
      have qx6 := (slc_some hx6).1
      have hx6e := (slc_some hx6).2
      refine And.intro (fun _ => qx6) ?_
      refine NormE.to (AV.str x6) (fun _ => congrArg AV.str hx6e.symm) ?_
      refine bind_elim h fun x7 hx7 h => ?_
      have hx7c := (cat_some hx7).1
      have hx7e := (cat_some hx7).2
      refine And.intro (fun _ => hx7c) ?_
      refine NormE.to (AV.str x7) (fun _ => congrArg AV.str hx7e.symm) ?_
      refine And.intro (by kernel_rfl) ?_
      refine SeqN.via (St.of [⟨0, AV.int .u64 s2, none⟩, ⟨1, AV.int .u64 a1, none⟩, ⟨5, AV.str x7, none⟩] [] []) ?_ ?_
      · refine Gho.to [⟨0, AV.int .u64 s2, none⟩, ⟨1, AV.int .u64 a1, none⟩, ⟨5, AV.str x7, none⟩] [] [] [] ?_ ?_ ?_ rfl rfl ?_
        · exact trivial
        · exact rfl
        · exact rfl
        · exact ⟨rfl, rfl, trivial, rfl, rfl, trivial, rfl, rfl, trivial, trivial⟩
      refine chk_elim h fun q8 h => ?_
      refine And.intro (fun _ => q8) ?_
      replace h := Option.some.inj h
      refine Exists.intro ⟨(n1, ((IntKind.u64.wrap (s2.tdiv a1)), x7)), hl1 _ h.symm⟩ (And.intro (Nat.lt_succ_self _) ?_)
      refine Gho.to [⟨0, AV.int .u64 (IntKind.u64.wrap (s2.tdiv a1)), none⟩, ⟨1, AV.int .u64 a1, none⟩, ⟨5, AV.str x7, none⟩] [] [] [] ?_ ?_ ?_ rfl rfl ?_
      · exact trivial
      · exact rfl
      · exact rfl
      · exact ⟨rfl, rfl, trivial, rfl, rfl, trivial, rfl, rfl, trivial, trivial⟩
    · replace h := cond_ff h ht
      replace h := Option.some.inj h
      replace h := hr1 _ h.symm
      subst h
      refine Gho.to [⟨5, AV.str s3, none⟩] [] [] [] ?_ ?_ ?_ rfl rfl ?_
      · exact trivial
      · exact rfl
      · exact rfl
      · exact ⟨rfl, rfl, trivial, trivial⟩
  · clear hj1
    refine SeqJ.go ?_
    refine SeqN.go ?_
    replace h := Option.some.inj h
    refine RetE.plain ?_
    exact And.intro rfl (And.intro (congrArg (fun r : Bytes => AV.str r) h) rfl)

theorem intarsiaref09_With_ok (E : Pm.Env) [LaidE E] (a0 : (List S_Field)) (a1 : S_Body) (r : ((List S_Field) × Int)) (h : intarsiaref09_With a0 a1 = some r) : FnR E Tryd.prog 22 [AV.list 2 (a0.map S_Field.av), S_Body.av a1] (AV.tup [AV.list 2 ((r.1).map S_Field.av), AV.int .i64 (r.2)]) false := by
  refine FnR.of_ev (T := T) (rows := []) tOk mixed Tryd.func22 rfl (by kernel_rfl) (by kernel_rfl) rfl fun hwf => ?_
  unfold intarsiaref09_With at h
  refine SeqJ.go ?_
  refine And.intro rfl ?_
  refine SeqN.go ?_
  refine SeqJ.go ?_
  refine SeqJ.go ?_
  refine bind_elim h fun x1 hx1 h => ?_
  refine CallH.data _ false rfl (intarsiaref04_Right_ok E a0 x1 hx1) ?_
  refine And.intro (fun hg => hg) ?_
  refine And.intro (fun hg => hg) ?_
  refine And.intro (fun hg => (and_r hg)) ?_
  refine And.intro (fun hg => hg) ?_
  refine And.intro (fun hg => hg) ?_
  refine And.intro (fun hg => (and_r hg)) ?_
  refine And.intro (fun hg => hg) ?_
  refine And.intro (fun hg => hg) ?_
  refine And.intro (fun hg => (and_r hg)) ?_
  refine And.intro (fun hg => hg) ?_
  refine And.intro (fun hg => hg) ?_
  refine And.intro (fun hg => (and_r hg)) ?_
  refine SeqN.via (St.of [⟨0, AV.list 2 (a0.map S_Field.av), none⟩, ⟨3, AV.ptr 0 0, none⟩, ⟨28, AV.bool (bif (bif (bif (bif (!x1) then true else (decide ((a1.Size) < (0 : Int)))) then true else (decide ((a1.Size) > (20000 : Int)))) then true else (decide ((a1.Kind) < (0 : Int)))) then true else (decide ((a1.Kind) > (3 : Int)))), none⟩] [.cells 28 (S_Body.cells a1) []] []) ?_ ?_
  · refine Gho.to [⟨0, AV.list 2 (a0.map S_Field.av), none⟩, ⟨3, AV.ptr 0 0, none⟩, ⟨28, AV.bool (bif (bif (bif (bif (!x1) then true else (decide ((a1.Size) < (0 : Int)))) then true else (decide ((a1.Size) > (20000 : Int)))) then true else (decide ((a1.Kind) < (0 : Int)))) then true else (decide ((a1.Kind) > (3 : Int)))), none⟩] [.cells 28 (S_Body.cells a1) []] [] [] ?_ ?_ ?_ rfl rfl ?_
    · exact ⟨⟨rfl, rfl, rfl⟩, trivial⟩
    · exact rfl
    · exact rfl
    · exact ⟨rfl, rfl, trivial, rfl, rfl, trivial, rfl, rfl, trivial, trivial⟩
  refine Br.mk (fun ht => ?_) (fun ht => ?_)
  · replace h := cond_tt h ht
    refine SeqJ.go ?_
    refine SeqN.go ?_
    replace h := Option.some.inj h
    refine RetE.plain ?_
    exact And.intro rfl (And.intro (congrArg (fun r : ((List S_Field) × Int) => AV.tup [AV.list 2 ((r.1).map S_Field.av), AV.int .i64 (r.2)]) h) rfl)
  · replace h := cond_ff h ht
    refine SeqN.go ?_
    refine SeqJ.go ?_
    refine bind_elim h fun x2 hx2 h => ?_
    refine CallH.data _ true rfl (intarsiaref04_Remove_ok E a0 ([99, 111, 110, 116, 101, 110, 116, 45, 108, 101, 110, 103, 116, 104] : Bytes) x2 hx2) ?_
    refine bind_elim h fun x3 hx3 h => ?_
    refine CallH.data _ true rfl (intarsiaref04_Remove_ok E x2 ([116, 114, 97, 110, 115, 102, 101, 114, 45, 101, 110, 99, 111, 100, 105, 110, 103] : Bytes) x3 hx3) ?_
    refine SeqN.go ?_
    refine SeqJ.go ?_
    refine SeqJ.go ?_
    refine SeqN.go ?_
    refine Br.mk (fun ht => ?_) (fun ht => ?_)
    · replace h := cond_tt h ht
      refine SeqJ.go ?_
      refine bind_elim h fun x4 hx4 h => ?_
      refine CallH.data _ false rfl (intarsiaref02_Digits_ok E (IntKind.u64.wrap (a1.Size)) (10 : Int) x4 hx4) ?_
      refine And.intro ⟨rfl, rfl, Nat.le_of_ble_eq_true rfl⟩ ?_
      refine And.intro ⟨rfl, rfl, Nat.le_of_ble_eq_true rfl⟩ ?_
      refine bind_elim h fun x5 hx5 h => ?_
      refine CallH.data _ false rfl (intarsiaref04_Add_ok E x3 (S_Field.mk ([67, 111, 110, 116, 101, 110, 116, 45, 76, 101, 110, 103, 116, 104] : Bytes) x4) x5 hx5) ?_
      refine SeqN.via (St.of [⟨4, AV.list 2 ((x5.1).map S_Field.av), none⟩, ⟨5, AV.int .i64 (x5.2), none⟩] [] []) ?_ ?_
      · refine Gho.to [⟨4, AV.list 2 ((x5.1).map S_Field.av), none⟩, ⟨5, AV.int .i64 (x5.2), none⟩] [] [] [] ?_ ?_ ?_ rfl rfl ?_
        · exact trivial
        · exact rfl
        · exact rfl
        · exact ⟨rfl, rfl, trivial, rfl, rfl, trivial, trivial⟩
      replace h := Option.some.inj h
      refine RetE.plain ?_
      exact And.intro rfl (And.intro (congrArg (fun r : ((List S_Field) × Int) => AV.tup [AV.list 2 ((r.1).map S_Field.av), AV.int .i64 (r.2)]) h) rfl)
    · replace h := cond_ff h ht
      refine SeqN.go ?_
      refine SeqJ.go ?_
      refine SeqJ.go ?_
      refine SeqN.go ?_
      refine Br.mk (fun ht => ?_) (fun ht => ?_)
      · replace h := cond_tt h ht
        refine SeqJ.go ?_
        refine And.intro ⟨rfl, rfl, Nat.le_of_ble_eq_true rfl⟩ ?_
        refine And.intro ⟨rfl, rfl, Nat.le_of_ble_eq_true rfl⟩ ?_
        refine bind_elim h fun x6 hx6 h => ?_
        refine CallH.data _ false rfl (intarsiaref04_Add_ok E x3 (S_Field.mk ([84, 114, 97, 110, 115, 102, 101, 114, 45, 69, 110, 99, 111, 100, 105, 110, 103] : Bytes) ([99, 104, 117, 110, 107, 101, 100] : Bytes)) x6 hx6) ?_
        refine SeqN.via (St.of [⟨4, AV.list 2 ((x6.1).map S_Field.av), none⟩, ⟨5, AV.int .i64 (x6.2), none⟩] [] []) ?_ ?_
        · refine Gho.to [⟨4, AV.list 2 ((x6.1).map S_Field.av), none⟩, ⟨5, AV.int .i64 (x6.2), none⟩] [] [] [] ?_ ?_ ?_ rfl rfl ?_
          · exact trivial
          · exact rfl
          · exact rfl
          · exact ⟨rfl, rfl, trivial, rfl, rfl, trivial, trivial⟩
        replace h := Option.some.inj h
        refine RetE.plain ?_
        exact And.intro rfl (And.intro (congrArg (fun r : ((List S_Field) × Int) => AV.tup [AV.list 2 ((r.1).map S_Field.av), AV.int .i64 (r.2)]) h) rfl)
      · replace h := cond_ff h ht
        refine SeqN.go ?_
        refine SeqJ.go ?_
        refine SeqN.go ?_
        replace h := Option.some.inj h
        refine RetE.plain ?_
        exact And.intro rfl (And.intro (congrArg (fun r : ((List S_Field) × Int) => AV.tup [AV.list 2 ((r.1).map S_Field.av), AV.int .i64 (r.2)]) h) rfl)

theorem intarsiaref04_Like_ok (E : Pm.Env) [LaidE E] (a0 : (List S_Field)) (a1 : (List S_Field)) (r : Bool) (h : intarsiaref04_Like a0 a1 = some r) : FnR E Tryd.prog 23 [AV.list 2 (a0.map S_Field.av), AV.list 2 (a1.map S_Field.av)] (AV.bool r) false := by
  refine FnR.of_ev (T := T) (rows := []) tOk mixed Tryd.func23 rfl (by kernel_rfl) (by kernel_rfl) rfl fun hwf => ?_
  unfold intarsiaref04_Like at h
  refine SeqJ.go ?_
  refine SeqN.go ?_
  refine SeqJ.go ?_
  refine SeqJ.go ?_
  refine NormE.to (AV.int .i64 (a0.length : Int)) (fun _ => len_list S_Field.av a0) ?_
  refine NormE.to (AV.int .i64 (a1.length : Int)) (fun _ => len_list S_Field.av a1) ?_
  refine SeqN.go ?_
  refine Br.mk (fun ht => ?_) (fun ht => ?_)
  · replace h := cond_tt h ht
    refine SeqJ.go ?_
    refine SeqN.go ?_
    replace h := Option.some.inj h
    refine RetE.plain ?_
    exact And.intro rfl (And.intro (congrArg (fun r : Bool => AV.bool r) h) rfl)
  · replace h := cond_ff h ht
    refine SeqN.go ?_
    refine SeqJ.go ?_
    refine SeqJ.go ?_
    refine NormE.to (AV.int .i64 (a0.length : Int)) (fun _ => len_list S_Field.av a0) ?_
    refine SeqN.go ?_
    refine LoopE.img (fun x : Int => St.of [⟨0, AV.list 2 (a0.map S_Field.av), none⟩, ⟨1, AV.list 2 (a1.map S_Field.av), none⟩, ⟨12, AV.int .i64 (a0.length : Int), none⟩, ⟨13, AV.int .i64 x, none⟩] [] []) (intarsiaref04_Like_b1 a0 a1) (0 : Int) h ?_ ?_
    · refine Gho.to [⟨0, AV.list 2 (a0.map S_Field.av), none⟩, ⟨1, AV.list 2 (a1.map S_Field.av), none⟩, ⟨12, AV.int .i64 (a0.length : Int), none⟩, ⟨13, AV.int .i64 (0 : Int), none⟩] [] [] [] ?_ ?_ ?_ rfl rfl ?_
      · exact trivial
      · exact rfl
      · exact rfl
      · exact ⟨rfl, rfl, trivial, rfl, rfl, trivial, rfl, rfl, trivial, rfl, rfl, trivial, trivial⟩
    intro n1 x y1 h hl1 hr1
    revert h; revert x; intro s1 h
    unfold intarsiaref04_Like_b1 at h
    refine SeqJ.go ?_
    refine SeqN.go ?_
    refine SeqJ.go ?_
    refine Br.mk (fun ht => ?_) (fun ht => ?_)
    · replace h := cond_tt h ht
      refine SeqN.go ?_
      refine SeqJ.go ?_
      refine SeqJ.go ?_
      refine SeqN.go ?_
      refine SeqJ.go ?_
      refine bind_elim h fun x2 hx2 h => ?_
      refine And.intro rfl (Exists.intro (S_Field.av x2) (And.intro (fun hg => idx_map _ hx2) ?_))
      refine And.intro (Nat.le_of_ble_eq_true rfl) ?_
      refine NormE.to (S_Field.av x2) (fun _ => rfl) ?_
      refine bind_elim h fun x3 hx3 h => ?_
      refine And.intro rfl (Exists.intro (S_Field.av x3) (And.intro (fun hg => idx_map _ hx3) ?_))
      refine And.intro (Nat.le_of_ble_eq_true rfl) ?_
      refine NormE.to (S_Field.av x3) (fun _ => rfl) ?_
      refine And.intro rfl ?_
      refine And.intro (by kernel_rfl) ?_
      refine SeqN.go ?_
      refine Br.mk (fun ht => ?_) (fun ht => ?_)
      · replace h := cond_tt h ht
        refine SeqJ.go ?_
        refine SeqN.go ?_
        replace h := Option.some.inj h
        replace h := hr1 _ h.symm
        refine RetE.plain ?_
        exact And.intro rfl (And.intro (congrArg (fun r : Bool => AV.bool r) h) rfl)
      · replace h := cond_ff h ht
        refine SeqN.go ?_
        replace h := Option.some.inj h
        refine Exists.intro ⟨(n1, (IntKind.i64.wrap (s1 + (1 : Int)))), hl1 _ h.symm⟩ (And.intro (Nat.lt_succ_self _) ?_)
        refine Gho.to [⟨0, AV.list 2 (a0.map S_Field.av), none⟩, ⟨1, AV.list 2 (a1.map S_Field.av), none⟩, ⟨12, AV.int .i64 (a0.length : Int), none⟩, ⟨13, AV.int .i64 (IntKind.i64.wrap (s1 + (1 : Int))), none⟩] [] [] [] ?_ ?_ ?_ rfl rfl ?_
        · exact trivial
        · exact rfl
        · exact rfl
        · exact ⟨rfl, rfl, trivial, rfl, rfl, trivial, rfl, rfl, trivial, rfl, rfl, trivial, trivial⟩
    · replace h := cond_ff h ht
      refine SeqN.go ?_
      refine SeqJ.go ?_
      refine SeqN.go ?_
      replace h := Option.some.inj h
      replace h := hr1 _ h.symm
      refine RetE.plain ?_
      exact And.intro rfl (And.intro (congrArg (fun r : Bool => AV.bool r) h) rfl)

theorem intarsialaw09_FrameWith_ok (E : Pm.Env) [LaidE E] (a0 : (List S_Field)) (a1 : S_Body) (r : Bool) (h : intarsialaw09_FrameWith a0 a1 = some r) : FnR E Tryd.prog 5 [AV.list 2 (a0.map S_Field.av), S_Body.av a1] (AV.bool r) false := by
  refine FnR.of_ev (T := T) (rows := []) tOk mixed Tryd.func5 rfl (by kernel_rfl) (by kernel_rfl) rfl fun hwf => ?_
  unfold intarsialaw09_FrameWith at h
  refine SeqJ.go ?_
  refine And.intro rfl ?_
  refine SeqN.go ?_
  refine SeqJ.go ?_
  refine bind_elim h fun x1 hx1 h => ?_
  refine CallH.data _ false rfl (intarsialaw09_few_ok E a0 x1 hx1) ?_
  refine SeqN.go ?_
  refine SeqJ.go ?_
  refine And.intro ⟨Nat.le_of_ble_eq_true rfl, Nat.le_of_ble_eq_true rfl⟩ ?_
  refine NormE.to (S_Body.av a1) (fun _ => rfl) ?_
  refine bind_elim h fun x2 hx2 h => ?_
  refine CallH.data _ false rfl (frame_With_ok E x1 a1 x2 hx2) ?_
  refine SeqN.go ?_
  refine SeqJ.go ?_
  refine And.intro ⟨Nat.le_of_ble_eq_true rfl, Nat.le_of_ble_eq_true rfl⟩ ?_
  refine NormE.to (S_Body.av a1) (fun _ => rfl) ?_
  refine bind_elim h fun x3 hx3 h => ?_
  refine CallH.data _ false rfl (intarsiaref09_With_ok E x1 a1 x3 hx3) ?_
  refine SeqN.via (St.of [⟨5, AV.list 2 ((x2.1).map S_Field.av), none⟩, ⟨6, AV.int .i64 (x2.2), none⟩, ⟨7, AV.list 2 ((x3.1).map S_Field.av), none⟩, ⟨8, AV.int .i64 (x3.2), none⟩] [] []) ?_ ?_
  · refine Gho.to [⟨5, AV.list 2 ((x2.1).map S_Field.av), none⟩, ⟨6, AV.int .i64 (x2.2), none⟩, ⟨7, AV.list 2 ((x3.1).map S_Field.av), none⟩, ⟨8, AV.int .i64 (x3.2), none⟩] [] [] [] ?_ ?_ ?_ rfl rfl ?_
    · exact trivial
    · exact rfl
    · exact rfl
    · exact ⟨rfl, rfl, trivial, rfl, rfl, trivial, rfl, rfl, trivial, rfl, rfl, trivial, trivial⟩
  refine SeqJ.go ?_
  refine bind_elim h fun x4 hx4 h => ?_
  refine CallH.data _ false rfl (intarsialaw09_alive_ok E  x4 hx4) ?_
  refine bind_elim h fun x5 hx5 h => ?_
  refine And.intro (fun hg => hg) ?_
  refine And.intro (fun hg => hg) ?_
  refine And.intro rfl ?_
  refine CallF.mk _ false (fun hg => intarsiaref04_Like_ok E (x2.1) (x3.1) x5 (gcall_some hx5 hg)) (And.intro rfl ?_)
  refine And.intro (fun hg => (and_r hg)) ?_
  refine And.intro (fun hg => hg) ?_
  refine And.intro (fun hg => hg) ?_
  refine And.intro (fun hg => (and_r hg)) ?_
  refine SeqN.go ?_
  replace h := Option.some.inj h
  refine RetE.plain ?_
  exact And.intro rfl (And.intro (congrArg (fun r : Bool => AV.bool r) h) rfl)

theorem intarsialaw09_FrameBack_ok (E : Pm.Env) [LaidE E] (a0 : S_Start) (a1 : (List S_Field)) (a2 : S_Body) (r : Bool) (h : intarsialaw09_FrameBack a0 a1 a2 = some r) : FnR E Tryd.prog 6 [S_Start.av a0, AV.list 2 (a1.map S_Field.av), S_Body.av a2] (AV.bool r) false := by
  refine FnR.of_ev (T := T) (rows := []) tOk mixed Tryd.func6 rfl (by kernel_rfl) (by kernel_rfl) rfl fun hwf => ?_
  unfold intarsialaw09_FrameBack at h
  refine SeqJ.go ?_
  refine And.intro rfl ?_
  refine And.intro rfl ?_
  refine SeqN.go ?_
  refine SeqJ.go ?_
  refine And.intro ⟨Nat.le_of_ble_eq_true rfl, Nat.le_of_ble_eq_true rfl⟩ ?_
  refine NormE.to (S_Start.av a0) (fun _ => rfl) ?_
  refine bind_elim h fun x1 hx1 h => ?_
  refine CallH.data _ false rfl (intarsialaw09_small_ok E a0 x1 hx1) ?_
  refine bind_elim h fun x2 hx2 h => ?_
  refine CallH.data _ false rfl (intarsialaw09_few_ok E a1 x2 hx2) ?_
  refine And.intro ⟨rfl, rfl, rfl, Nat.le_of_ble_eq_true rfl⟩ (Exists.intro (S_Start.cells x1) (And.intro (fun _ => rfl) ?_))
  refine SeqN.go ?_
  refine SeqJ.go ?_
  refine And.intro ⟨Nat.le_of_ble_eq_true rfl, Nat.le_of_ble_eq_true rfl⟩ ?_
  refine NormE.to (S_Body.av a2) (fun _ => rfl) ?_
  refine bind_elim h fun x3 hx3 h => ?_
  refine CallH.data _ false rfl (frame_With_ok E x2 a2 x3 hx3) ?_
  refine SeqN.via (St.of [⟨1, AV.list 2 (x2.map S_Field.av), none⟩, ⟨3, AV.ptr 0 0, none⟩, ⟨5, AV.ptr 1 0, none⟩, ⟨7, AV.list 2 ((x3.1).map S_Field.av), none⟩, ⟨8, AV.int .i64 (x3.2), none⟩] [.cells 23 (S_Start.cells x1) [], .cells 28 (S_Body.cells a2) []] []) ?_ ?_
  · refine Gho.to [⟨1, AV.list 2 (x2.map S_Field.av), none⟩, ⟨3, AV.ptr 0 0, none⟩, ⟨5, AV.ptr 1 0, none⟩, ⟨7, AV.list 2 ((x3.1).map S_Field.av), none⟩, ⟨8, AV.int .i64 (x3.2), none⟩] [.cells 23 (S_Start.cells x1) [], .cells 28 (S_Body.cells a2) []] [] [] ?_ ?_ ?_ rfl rfl ?_
    · exact ⟨⟨rfl, rfl, rfl⟩, ⟨⟨rfl, rfl, rfl⟩, trivial⟩⟩
    · exact rfl
    · exact rfl
    · exact ⟨rfl, rfl, trivial, rfl, rfl, trivial, rfl, rfl, trivial, rfl, rfl, trivial, rfl, rfl, trivial, trivial⟩
  refine SeqJ.go ?_
  refine SeqJ.go ?_
  refine SeqN.go ?_
  refine Br.mk (fun ht => ?_) (fun ht => ?_)
  · replace h := cond_tt h ht
    refine SeqJ.go ?_
    refine bind_elim h fun x4 hx4 h => ?_
    refine CallH.data _ false rfl (intarsialaw09_alive_ok E  x4 hx4) ?_
    refine And.intro (fun hg => hg) ?_
    refine NormE.to (AV.int .i64 ((x3.1).length : Int)) (fun _ => len_list S_Field.av (x3.1)) ?_
    refine And.intro (fun hg => hg) ?_
    refine And.intro (fun hg => (and_r hg)) ?_
    refine SeqN.go ?_
    replace h := Option.some.inj h
    refine RetE.plain ?_
    exact And.intro rfl (And.intro (congrArg (fun r : Bool => AV.bool r) h) rfl)
  · replace h := cond_ff h ht
    refine SeqN.go ?_
    refine SeqJ.go ?_
    refine bind_elim h fun x5 hx5 h => ?_
    refine CallH.data _ true rfl (intarsiaref04_Remove_ok E (x3.1) ([99, 111, 110, 116, 101, 110, 116, 45, 108, 101, 110, 103, 116, 104] : Bytes) x5 hx5) ?_
    refine bind_elim h fun x6 hx6 h => ?_
    refine CallH.data _ true rfl (intarsiaref04_Remove_ok E x5 ([116, 114, 97, 110, 115, 102, 101, 114, 45, 101, 110, 99, 111, 100, 105, 110, 103] : Bytes) x6 hx6) ?_
    refine SeqN.go ?_
    refine SeqJ.go ?_
    refine SeqJ.go ?_
    refine bind_elim h fun x7 hx7 h => ?_
    refine CallH.data _ true rfl (intarsiaref04_Remove_ok E x2 ([99, 111, 110, 116, 101, 110, 116, 45, 108, 101, 110, 103, 116, 104] : Bytes) x7 hx7) ?_
    refine bind_elim h fun x8 hx8 h => ?_
    refine CallH.data _ true rfl (intarsiaref04_Remove_ok E x7 ([116, 114, 97, 110, 115, 102, 101, 114, 45, 101, 110, 99, 111, 100, 105, 110, 103] : Bytes) x8 hx8) ?_
    refine bind_elim h fun x9 hx9 h => ?_
    refine CallH.data _ false rfl (intarsiaref04_Like_ok E x6 x8 x9 hx9) ?_
    refine bind_elim h fun x10 hx10 h => ?_
    refine And.intro rfl ?_
    refine CallF.mk _ false (fun hg => intarsialaw09_alive_ok E  x10 (gcall_some hx10 hg)) (And.intro rfl ?_)
    refine And.intro (fun hg => hg) ?_
    refine And.intro (fun hg => (and_r hg)) ?_
    refine SeqN.via (St.of [⟨3, AV.ptr 0 0, none⟩, ⟨5, AV.ptr 1 0, none⟩, ⟨7, AV.list 2 ((x3.1).map S_Field.av), none⟩, ⟨45, AV.bool (bif (!x9) then true else (!x10)), none⟩] [.cells 23 (S_Start.cells x1) [], .cells 28 (S_Body.cells a2) []] []) ?_ ?_
    · refine Gho.to [⟨3, AV.ptr 0 0, none⟩, ⟨5, AV.ptr 1 0, none⟩, ⟨7, AV.list 2 ((x3.1).map S_Field.av), none⟩, ⟨45, AV.bool (bif (!x9) then true else (!x10)), none⟩] [.cells 23 (S_Start.cells x1) [], .cells 28 (S_Body.cells a2) []] [] [] ?_ ?_ ?_ rfl rfl ?_
      · exact ⟨⟨rfl, rfl, rfl⟩, ⟨⟨rfl, rfl, rfl⟩, trivial⟩⟩
      · exact rfl
      · exact rfl
      · exact ⟨rfl, rfl, trivial, rfl, rfl, trivial, rfl, rfl, trivial, rfl, rfl, trivial, trivial⟩
    refine Br.mk (fun ht => ?_) (fun ht => ?_)
    · replace h := cond_tt h ht
      refine SeqJ.go ?_
      refine SeqN.go ?_
      replace h := Option.some.inj h
      refine RetE.plain ?_
      exact And.intro rfl (And.intro (congrArg (fun r : Bool => AV.bool r) h) rfl)
    · replace h := cond_ff h ht
      refine SeqN.go ?_
      refine SeqJ.go ?_
      refine SeqJ.go ?_
      refine And.intro ⟨Nat.le_of_ble_eq_true rfl, Nat.le_of_ble_eq_true rfl⟩ ?_
      refine NormE.to (S_Start.av x1) (fun _ => rfl) ?_
      refine bind_elim h fun x11 hx11 h => ?_
      refine CallH.data _ false rfl (intarsiaref06_Right_ok E x1 x11 hx11) ?_
      refine And.intro (fun hg => hg) ?_
      refine And.intro (fun hg => hg) ?_
      refine And.intro (fun hg => hg) ?_
      refine And.intro (fun hg => hg) ?_
      refine And.intro (fun hg => hg) ?_
      refine And.intro (fun hg => hg) ?_
      refine And.intro (fun hg => hg) ?_
      refine And.intro (fun hg => (and_r hg)) ?_
      refine SeqN.go ?_
      refine Br.mk (fun ht => ?_) (fun ht => ?_)
      · replace h := cond_tt h ht
        refine SeqJ.go ?_
        refine SeqN.go ?_
        replace h := Option.some.inj h
        refine RetE.plain ?_
        exact And.intro rfl (And.intro (congrArg (fun r : Bool => AV.bool r) h) rfl)
      · replace h := cond_ff h ht
        refine SeqN.go ?_
        refine SeqJ.go ?_
        refine And.intro ⟨rfl, rfl, Nat.le_of_ble_eq_true rfl⟩ ?_
        refine And.intro rfl ?_
        refine And.intro ⟨rfl, rfl, rfl, Nat.le_of_ble_eq_true rfl⟩ (Exists.intro [AV.int .i64 (a2.Kind), AV.int .i64 (0 : Int)] (And.intro (fun _ => rfl) ?_))
        refine SeqN.via (St.of [⟨3, AV.ptr 0 0, none⟩, ⟨5, AV.ptr 1 0, none⟩, ⟨7, AV.list 2 ((x3.1).map S_Field.av), none⟩, ⟨10, AV.ptr 2 0, none⟩] [.cells 23 (S_Start.cells x1) [], .cells 28 (S_Body.cells a2) [], .cells 28 [AV.int .i64 (a2.Kind), AV.int .i64 (0 : Int)] []] []) ?_ ?_
        · refine Gho.to [⟨3, AV.ptr 0 0, none⟩, ⟨5, AV.ptr 1 0, none⟩, ⟨7, AV.list 2 ((x3.1).map S_Field.av), none⟩, ⟨10, AV.ptr 2 0, none⟩] [.cells 23 (S_Start.cells x1) [], .cells 28 (S_Body.cells a2) [], .cells 28 [AV.int .i64 (a2.Kind), AV.int .i64 (0 : Int)] []] [] [] ?_ ?_ ?_ rfl rfl ?_
          · exact ⟨⟨rfl, rfl, rfl⟩, ⟨⟨rfl, rfl, rfl⟩, ⟨⟨rfl, rfl, rfl⟩, trivial⟩⟩⟩
          · exact rfl
          · exact rfl
          · exact ⟨rfl, rfl, trivial, rfl, rfl, trivial, rfl, rfl, trivial, rfl, rfl, trivial, trivial⟩
        refine SeqJ.go ?_
        refine SeqJ.go ?_
        refine SeqN.go ?_
        refine Br.mk (fun ht => ?_) (fun ht => ?_)
        · replace h := cond_tt h ht
          refine And.intro ⟨Nat.le_of_ble_eq_true rfl, Nat.le_of_ble_eq_true rfl⟩ ?_
          refine NormE.to (S_Body.av a2) (fun _ => rfl) ?_
          refine And.intro ⟨rfl, rfl, rfl, Nat.le_of_ble_eq_true rfl⟩ (Exists.intro (S_Body.cells a2) (And.intro (fun _ => rfl) ?_))
          refine SeqN.go ?_
          refine SeqJ.go ?_
          refine SeqJ.go ?_
          refine SeqN.go ?_
          refine Br.mk (fun ht => ?_) (fun ht => ?_)
          · replace h := cond_tt h ht
            refine SeqJ.go ?_
            refine SeqJ.go ?_
            refine SeqN.go ?_
            refine Br.mk (fun ht => ?_) (fun ht => ?_)
            · replace h := cond_tt h ht
              refine And.intro ⟨rfl, rfl, rfl, Nat.le_of_ble_eq_true rfl⟩ (Exists.intro [AV.int .i64 (0 : Int), AV.int .i64 (0 : Int)] (And.intro (fun _ => rfl) ?_))
              refine SeqN.go ?_
              refine SeqJ.go ?_
              refine And.intro ⟨Nat.le_of_ble_eq_true rfl, Nat.le_of_ble_eq_true rfl⟩ ?_
              refine NormE.to (S_Start.av x1) (fun _ => rfl) ?_
              refine bind_elim h fun x12 hx12 h => ?_
              refine CallH.data _ false rfl (frame_Request_ok E x1 (x3.1) x12 hx12) ?_
              refine And.intro rfl ?_
              refine And.intro ⟨rfl, rfl, rfl, Nat.le_of_ble_eq_true rfl⟩ (Exists.intro (S_Body.cells (x12.1)) (And.intro (fun _ => rfl) ?_))
              refine SeqN.via (St.of [⟨10, AV.ptr 2 0, none⟩, ⟨11, AV.ptr 3 0, none⟩, ⟨12, AV.int .i64 (x12.2), none⟩] [.dead, .dead, .cells 28 [AV.int .i64 (0 : Int), AV.int .i64 (0 : Int)] [], .cells 28 (S_Body.cells (x12.1)) []] []) ?_ ?_
              · refine Gho.to [⟨10, AV.ptr 2 0, none⟩, ⟨11, AV.ptr 3 0, none⟩, ⟨12, AV.int .i64 (x12.2), none⟩] [.dead, .dead, .cells 28 [AV.int .i64 (0 : Int), AV.int .i64 (0 : Int)] [], .cells 28 (S_Body.cells (x12.1)) []] [] [] ?_ ?_ ?_ rfl rfl ?_
                · exact ⟨trivial, ⟨trivial, ⟨⟨rfl, rfl, rfl⟩, ⟨⟨rfl, rfl, rfl⟩, trivial⟩⟩⟩⟩
                · exact rfl
                · exact rfl
                · exact ⟨rfl, rfl, trivial, rfl, rfl, trivial, rfl, rfl, trivial, trivial⟩
              refine SeqJ.go ?_
              refine And.intro ⟨Nat.le_of_ble_eq_true rfl, Nat.le_of_ble_eq_true rfl⟩ ?_
              refine NormE.to (S_Body.av (x12.1)) (fun _ => rfl) ?_
              refine And.intro ⟨Nat.le_of_ble_eq_true rfl, Nat.le_of_ble_eq_true rfl⟩ ?_
              refine NormE.to (AV.agg [AV.int .i64 (0 : Int), AV.int .i64 (0 : Int)]) (fun _ => rfl) ?_
              refine And.intro (fun hg => hg) ?_
              refine And.intro (fun hg => hg) ?_
              refine And.intro rfl ?_
              refine And.intro (fun hg => (and_r hg)) ?_
              refine SeqN.go ?_
              replace h := Option.some.inj h
              refine RetE.plain ?_
              exact And.intro rfl (And.intro (congrArg (fun r : Bool => AV.bool r) h) rfl)
            · replace h := cond_ff h ht
              refine SeqN.go ?_
              refine SeqJ.go ?_
              refine And.intro ⟨Nat.le_of_ble_eq_true rfl, Nat.le_of_ble_eq_true rfl⟩ ?_
              refine NormE.to (S_Start.av x1) (fun _ => rfl) ?_
              refine bind_elim h fun x13 hx13 h => ?_
              refine CallH.data _ false rfl (frame_Request_ok E x1 (x3.1) x13 hx13) ?_
              refine And.intro rfl ?_
              refine And.intro ⟨rfl, rfl, rfl, Nat.le_of_ble_eq_true rfl⟩ (Exists.intro (S_Body.cells (x13.1)) (And.intro (fun _ => rfl) ?_))
              refine SeqN.via (St.of [⟨10, AV.ptr 2 0, none⟩, ⟨11, AV.ptr 3 0, none⟩, ⟨12, AV.int .i64 (x13.2), none⟩] [.dead, .dead, .cells 28 (S_Body.cells a2) [], .cells 28 (S_Body.cells (x13.1)) []] []) ?_ ?_
              · refine Gho.to [⟨10, AV.ptr 2 0, none⟩, ⟨11, AV.ptr 3 0, none⟩, ⟨12, AV.int .i64 (x13.2), none⟩] [.dead, .dead, .cells 28 (S_Body.cells a2) [], .cells 28 (S_Body.cells (x13.1)) []] [] [] ?_ ?_ ?_ rfl rfl ?_
                · exact ⟨trivial, ⟨trivial, ⟨⟨rfl, rfl, rfl⟩, ⟨⟨rfl, rfl, rfl⟩, trivial⟩⟩⟩⟩
                · exact rfl
                · exact rfl
                · exact ⟨rfl, rfl, trivial, rfl, rfl, trivial, rfl, rfl, trivial, trivial⟩
              refine SeqJ.go ?_
              refine And.intro ⟨Nat.le_of_ble_eq_true rfl, Nat.le_of_ble_eq_true rfl⟩ ?_
              refine NormE.to (S_Body.av (x13.1)) (fun _ => rfl) ?_
              refine And.intro ⟨Nat.le_of_ble_eq_true rfl, Nat.le_of_ble_eq_true rfl⟩ ?_
              refine NormE.to (S_Body.av a2) (fun _ => rfl) ?_
              refine And.intro (fun hg => hg) ?_
              refine And.intro (fun hg => hg) ?_
              refine And.intro rfl ?_
              refine And.intro (fun hg => (and_r hg)) ?_
              refine SeqN.go ?_
              replace h := Option.some.inj h
              refine RetE.plain ?_
              exact And.intro rfl (And.intro (congrArg (fun r : Bool => AV.bool r) h) rfl)
          · replace h := cond_ff h ht
            refine SeqN.go ?_
            refine SeqJ.go ?_
            refine And.intro ⟨Nat.le_of_ble_eq_true rfl, Nat.le_of_ble_eq_true rfl⟩ ?_
            refine NormE.to (S_Start.av x1) (fun _ => rfl) ?_
            refine bind_elim h fun x14 hx14 h => ?_
            refine CallH.data _ false rfl (frame_Answer_ok E x1 (x3.1) ([71, 69, 84] : Bytes) x14 hx14) ?_
            refine And.intro rfl ?_
            refine And.intro ⟨rfl, rfl, rfl, Nat.le_of_ble_eq_true rfl⟩ (Exists.intro (S_Body.cells (x14.1)) (And.intro (fun _ => rfl) ?_))
            refine SeqN.via (St.of [⟨3, AV.ptr 0 0, none⟩, ⟨5, AV.ptr 1 0, none⟩, ⟨10, AV.ptr 2 0, none⟩, ⟨13, AV.ptr 3 0, none⟩, ⟨14, AV.int .i64 (x14.2), none⟩] [.cells 23 (S_Start.cells x1) [], .cells 28 (S_Body.cells a2) [], .cells 28 (S_Body.cells a2) [], .cells 28 (S_Body.cells (x14.1)) []] []) ?_ ?_
            · refine Gho.to [⟨3, AV.ptr 0 0, none⟩, ⟨5, AV.ptr 1 0, none⟩, ⟨10, AV.ptr 2 0, none⟩, ⟨13, AV.ptr 3 0, none⟩, ⟨14, AV.int .i64 (x14.2), none⟩] [.cells 23 (S_Start.cells x1) [], .cells 28 (S_Body.cells a2) [], .cells 28 (S_Body.cells a2) [], .cells 28 (S_Body.cells (x14.1)) []] [] [] ?_ ?_ ?_ rfl rfl ?_
              · exact ⟨⟨rfl, rfl, rfl⟩, ⟨⟨rfl, rfl, rfl⟩, ⟨⟨rfl, rfl, rfl⟩, ⟨⟨rfl, rfl, rfl⟩, trivial⟩⟩⟩⟩
              · exact rfl
              · exact rfl
              · exact ⟨rfl, rfl, trivial, rfl, rfl, trivial, rfl, rfl, trivial, rfl, rfl, trivial, rfl, rfl, trivial, trivial⟩
            refine SeqJ.go ?_
            refine SeqJ.go ?_
            refine And.intro (fun hg => hg) ?_
            refine And.intro (fun hg => hg) ?_
            refine And.intro (fun hg => (and_r hg)) ?_
            refine And.intro (fun hg => hg) ?_
            refine And.intro (fun hg => hg) ?_
            refine And.intro (fun hg => (and_r hg)) ?_
            refine SeqN.go ?_
            refine Br.mk (fun ht => ?_) (fun ht => ?_)
            · replace h := cond_tt h ht
              refine SeqJ.go ?_
              refine And.intro ⟨Nat.le_of_ble_eq_true rfl, Nat.le_of_ble_eq_true rfl⟩ ?_
              refine NormE.to (S_Body.av (x14.1)) (fun _ => rfl) ?_
              refine And.intro (fun hg => hg) ?_
              refine And.intro (fun hg => hg) ?_
              refine And.intro rfl ?_
              refine And.intro (fun hg => (and_r hg)) ?_
              refine SeqN.via (St.of [⟨6, AV.bool (bif ((x14.2) == (0 : Int)) then ((((x14.1).Kind) == (0 : Int)) && ((((x14.1).Size) == (0 : Int)) && true)) else false), none⟩] [] []) ?_ ?_
              · refine Gho.to [⟨6, AV.bool (bif ((x14.2) == (0 : Int)) then ((((x14.1).Kind) == (0 : Int)) && ((((x14.1).Size) == (0 : Int)) && true)) else false), none⟩] [] [] [] ?_ ?_ ?_ rfl rfl ?_
                · exact trivial
                · exact rfl
                · exact rfl
                · exact ⟨rfl, rfl, trivial, trivial⟩
              replace h := Option.some.inj h
              refine RetE.plain ?_
              exact And.intro rfl (And.intro (congrArg (fun r : Bool => AV.bool r) h) rfl)
            · replace h := cond_ff h ht
              refine SeqN.go ?_
              refine SeqJ.go ?_
              refine SeqJ.go ?_
              refine SeqN.via (St.of [⟨10, AV.ptr 2 0, none⟩, ⟨13, AV.ptr 3 0, none⟩, ⟨14, AV.int .i64 (x14.2), none⟩, ⟨114, AV.bool ((a2.Kind) == (0 : Int)), none⟩] [.dead, .dead, .cells 28 (S_Body.cells a2) [], .cells 28 (S_Body.cells (x14.1)) []] []) ?_ ?_
              · refine Gho.to [⟨10, AV.ptr 2 0, none⟩, ⟨13, AV.ptr 3 0, none⟩, ⟨14, AV.int .i64 (x14.2), none⟩, ⟨114, AV.bool ((a2.Kind) == (0 : Int)), none⟩] [.dead, .dead, .cells 28 (S_Body.cells a2) [], .cells 28 (S_Body.cells (x14.1)) []] [] [] ?_ ?_ ?_ rfl rfl ?_
                · exact ⟨trivial, ⟨trivial, ⟨⟨rfl, rfl, rfl⟩, ⟨⟨rfl, rfl, rfl⟩, trivial⟩⟩⟩⟩
                · exact rfl
                · exact rfl
                · exact ⟨rfl, rfl, trivial, rfl, rfl, trivial, rfl, rfl, trivial, rfl, rfl, trivial, trivial⟩
              refine Br.mk (fun ht => ?_) (fun ht => ?_)
              · replace h := cond_tt h ht
                refine And.intro ⟨rfl, rfl, Nat.le_of_ble_eq_true rfl⟩ ?_
                refine And.intro ⟨rfl, rfl, rfl, Nat.le_of_ble_eq_true rfl⟩ (Exists.intro [AV.int .i64 (3 : Int), AV.int .i64 (0 : Int)] (And.intro (fun _ => rfl) ?_))
                refine SeqN.go ?_
                refine SeqJ.go ?_
                refine And.intro ⟨Nat.le_of_ble_eq_true rfl, Nat.le_of_ble_eq_true rfl⟩ ?_
                refine NormE.to (S_Body.av (x14.1)) (fun _ => rfl) ?_
                refine And.intro ⟨Nat.le_of_ble_eq_true rfl, Nat.le_of_ble_eq_true rfl⟩ ?_
                refine NormE.to (AV.agg [AV.int .i64 (3 : Int), AV.int .i64 (0 : Int)]) (fun _ => rfl) ?_
                refine And.intro (fun hg => hg) ?_
                refine And.intro (fun hg => hg) ?_
                refine And.intro rfl ?_
                refine And.intro (fun hg => (and_r hg)) ?_
                refine SeqN.go ?_
                replace h := Option.some.inj h
                refine RetE.plain ?_
                exact And.intro rfl (And.intro (congrArg (fun r : Bool => AV.bool r) h) rfl)
              · replace h := cond_ff h ht
                refine SeqN.go ?_
                refine SeqJ.go ?_
                refine And.intro ⟨Nat.le_of_ble_eq_true rfl, Nat.le_of_ble_eq_true rfl⟩ ?_
                refine NormE.to (S_Body.av (x14.1)) (fun _ => rfl) ?_
                refine And.intro ⟨Nat.le_of_ble_eq_true rfl, Nat.le_of_ble_eq_true rfl⟩ ?_
                refine NormE.to (S_Body.av a2) (fun _ => rfl) ?_
                refine And.intro (fun hg => hg) ?_
                refine And.intro (fun hg => hg) ?_
                refine And.intro rfl ?_
                refine And.intro (fun hg => (and_r hg)) ?_
                refine SeqN.go ?_
                replace h := Option.some.inj h
                refine RetE.plain ?_
                exact And.intro rfl (And.intro (congrArg (fun r : Bool => AV.bool r) h) rfl)
        · replace h := cond_ff h ht
          refine SeqN.go ?_
          refine SeqJ.go ?_
          refine SeqJ.go ?_
          refine SeqN.go ?_
          refine Br.mk (fun ht => ?_) (fun ht => ?_)
          · replace h := cond_tt h ht
            refine SeqJ.go ?_
            refine SeqJ.go ?_
            refine SeqN.go ?_
            refine Br.mk (fun ht => ?_) (fun ht => ?_)
            · replace h := cond_tt h ht
              refine And.intro ⟨rfl, rfl, rfl, Nat.le_of_ble_eq_true rfl⟩ (Exists.intro [AV.int .i64 (0 : Int), AV.int .i64 (0 : Int)] (And.intro (fun _ => rfl) ?_))
              refine SeqN.go ?_
              refine SeqJ.go ?_
              refine And.intro ⟨Nat.le_of_ble_eq_true rfl, Nat.le_of_ble_eq_true rfl⟩ ?_
              refine NormE.to (S_Start.av x1) (fun _ => rfl) ?_
              refine bind_elim h fun x15 hx15 h => ?_
              refine CallH.data _ false rfl (frame_Request_ok E x1 (x3.1) x15 hx15) ?_
              refine And.intro rfl ?_
              refine And.intro ⟨rfl, rfl, rfl, Nat.le_of_ble_eq_true rfl⟩ (Exists.intro (S_Body.cells (x15.1)) (And.intro (fun _ => rfl) ?_))
              refine SeqN.via (St.of [⟨10, AV.ptr 2 0, none⟩, ⟨11, AV.ptr 3 0, none⟩, ⟨12, AV.int .i64 (x15.2), none⟩] [.dead, .dead, .cells 28 [AV.int .i64 (0 : Int), AV.int .i64 (0 : Int)] [], .cells 28 (S_Body.cells (x15.1)) []] []) ?_ ?_
              · refine Gho.to [⟨10, AV.ptr 2 0, none⟩, ⟨11, AV.ptr 3 0, none⟩, ⟨12, AV.int .i64 (x15.2), none⟩] [.dead, .dead, .cells 28 [AV.int .i64 (0 : Int), AV.int .i64 (0 : Int)] [], .cells 28 (S_Body.cells (x15.1)) []] [] [] ?_ ?_ ?_ rfl rfl ?_
                · exact ⟨trivial, ⟨trivial, ⟨⟨rfl, rfl, rfl⟩, ⟨⟨rfl, rfl, rfl⟩, trivial⟩⟩⟩⟩
                · exact rfl
                · exact rfl
                · exact ⟨rfl, rfl, trivial, rfl, rfl, trivial, rfl, rfl, trivial, trivial⟩
              refine SeqJ.go ?_
              refine And.intro ⟨Nat.le_of_ble_eq_true rfl, Nat.le_of_ble_eq_true rfl⟩ ?_
              refine NormE.to (S_Body.av (x15.1)) (fun _ => rfl) ?_
              refine And.intro ⟨Nat.le_of_ble_eq_true rfl, Nat.le_of_ble_eq_true rfl⟩ ?_
              refine NormE.to (AV.agg [AV.int .i64 (0 : Int), AV.int .i64 (0 : Int)]) (fun _ => rfl) ?_
              refine And.intro (fun hg => hg) ?_
              refine And.intro (fun hg => hg) ?_
              refine And.intro rfl ?_
              refine And.intro (fun hg => (and_r hg)) ?_
              refine SeqN.go ?_
              replace h := Option.some.inj h
              refine RetE.plain ?_
              exact And.intro rfl (And.intro (congrArg (fun r : Bool => AV.bool r) h) rfl)
            · replace h := cond_ff h ht
              refine SeqN.go ?_
              refine SeqJ.go ?_
              refine And.intro ⟨Nat.le_of_ble_eq_true rfl, Nat.le_of_ble_eq_true rfl⟩ ?_
              refine NormE.to (S_Start.av x1) (fun _ => rfl) ?_
              refine bind_elim h fun x16 hx16 h => ?_
              refine CallH.data _ false rfl (frame_Request_ok E x1 (x3.1) x16 hx16) ?_
              refine And.intro rfl ?_
              refine And.intro ⟨rfl, rfl, rfl, Nat.le_of_ble_eq_true rfl⟩ (Exists.intro (S_Body.cells (x16.1)) (And.intro (fun _ => rfl) ?_))
              refine SeqN.via (St.of [⟨10, AV.ptr 2 0, none⟩, ⟨11, AV.ptr 3 0, none⟩, ⟨12, AV.int .i64 (x16.2), none⟩] [.dead, .dead, .cells 28 [AV.int .i64 (a2.Kind), AV.int .i64 (0 : Int)] [], .cells 28 (S_Body.cells (x16.1)) []] []) ?_ ?_
              · refine Gho.to [⟨10, AV.ptr 2 0, none⟩, ⟨11, AV.ptr 3 0, none⟩, ⟨12, AV.int .i64 (x16.2), none⟩] [.dead, .dead, .cells 28 [AV.int .i64 (a2.Kind), AV.int .i64 (0 : Int)] [], .cells 28 (S_Body.cells (x16.1)) []] [] [] ?_ ?_ ?_ rfl rfl ?_
                · exact ⟨trivial, ⟨trivial, ⟨⟨rfl, rfl, rfl⟩, ⟨⟨rfl, rfl, rfl⟩, trivial⟩⟩⟩⟩
                · exact rfl
                · exact rfl
                · exact ⟨rfl, rfl, trivial, rfl, rfl, trivial, rfl, rfl, trivial, trivial⟩
              refine SeqJ.go ?_
              refine And.intro ⟨Nat.le_of_ble_eq_true rfl, Nat.le_of_ble_eq_true rfl⟩ ?_
              refine NormE.to (S_Body.av (x16.1)) (fun _ => rfl) ?_
              refine And.intro ⟨Nat.le_of_ble_eq_true rfl, Nat.le_of_ble_eq_true rfl⟩ ?_
              refine NormE.to (AV.agg [AV.int .i64 (a2.Kind), AV.int .i64 (0 : Int)]) (fun _ => rfl) ?_
              refine And.intro (fun hg => hg) ?_
              refine And.intro (fun hg => hg) ?_
              refine And.intro rfl ?_
              refine And.intro (fun hg => (and_r hg)) ?_
              refine SeqN.go ?_
              replace h := Option.some.inj h
              refine RetE.plain ?_
              exact And.intro rfl (And.intro (congrArg (fun r : Bool => AV.bool r) h) rfl)
          · replace h := cond_ff h ht
            refine SeqN.go ?_
            refine SeqJ.go ?_
            refine And.intro ⟨Nat.le_of_ble_eq_true rfl, Nat.le_of_ble_eq_true rfl⟩ ?_
            refine NormE.to (S_Start.av x1) (fun _ => rfl) ?_
            refine bind_elim h fun x17 hx17 h => ?_
            refine CallH.data _ false rfl (frame_Answer_ok E x1 (x3.1) ([71, 69, 84] : Bytes) x17 hx17) ?_
            refine And.intro rfl ?_
            refine And.intro ⟨rfl, rfl, rfl, Nat.le_of_ble_eq_true rfl⟩ (Exists.intro (S_Body.cells (x17.1)) (And.intro (fun _ => rfl) ?_))
            refine SeqN.go ?_
            refine SeqJ.go ?_
            refine SeqJ.go ?_
            refine And.intro (fun hg => hg) ?_
            refine And.intro (fun hg => hg) ?_
            refine And.intro (fun hg => (and_r hg)) ?_
            refine And.intro (fun hg => hg) ?_
            refine And.intro (fun hg => hg) ?_
            refine And.intro (fun hg => (and_r hg)) ?_
            refine SeqN.via (St.of [⟨5, AV.ptr 1 0, none⟩, ⟨10, AV.ptr 2 0, none⟩, ⟨13, AV.ptr 3 0, none⟩, ⟨14, AV.int .i64 (x17.2), none⟩, ⟨104, AV.bool (bif (bif (decide ((x1.Code) < (200 : Int))) then true else ((x1.Code) == (204 : Int))) then true else ((x1.Code) == (304 : Int))), none⟩] [.dead, .cells 28 (S_Body.cells a2) [], .cells 28 [AV.int .i64 (a2.Kind), AV.int .i64 (0 : Int)] [], .cells 28 (S_Body.cells (x17.1)) []] []) ?_ ?_
            · refine Gho.to [⟨5, AV.ptr 1 0, none⟩, ⟨10, AV.ptr 2 0, none⟩, ⟨13, AV.ptr 3 0, none⟩, ⟨14, AV.int .i64 (x17.2), none⟩, ⟨104, AV.bool (bif (bif (decide ((x1.Code) < (200 : Int))) then true else ((x1.Code) == (204 : Int))) then true else ((x1.Code) == (304 : Int))), none⟩] [.dead, .cells 28 (S_Body.cells a2) [], .cells 28 [AV.int .i64 (a2.Kind), AV.int .i64 (0 : Int)] [], .cells 28 (S_Body.cells (x17.1)) []] [] [] ?_ ?_ ?_ rfl rfl ?_
              · exact ⟨trivial, ⟨⟨rfl, rfl, rfl⟩, ⟨⟨rfl, rfl, rfl⟩, ⟨⟨rfl, rfl, rfl⟩, trivial⟩⟩⟩⟩
              · exact rfl
              · exact rfl
              · exact ⟨rfl, rfl, trivial, rfl, rfl, trivial, rfl, rfl, trivial, rfl, rfl, trivial, rfl, rfl, trivial, trivial⟩
            refine Br.mk (fun ht => ?_) (fun ht => ?_)
            · replace h := cond_tt h ht
              refine SeqJ.go ?_
              refine And.intro ⟨Nat.le_of_ble_eq_true rfl, Nat.le_of_ble_eq_true rfl⟩ ?_
              refine NormE.to (S_Body.av (x17.1)) (fun _ => rfl) ?_
              refine And.intro (fun hg => hg) ?_
              refine And.intro (fun hg => hg) ?_
              refine And.intro rfl ?_
              refine And.intro (fun hg => (and_r hg)) ?_
              refine SeqN.go ?_
              replace h := Option.some.inj h
              refine RetE.plain ?_
              exact And.intro rfl (And.intro (congrArg (fun r : Bool => AV.bool r) h) rfl)
            · replace h := cond_ff h ht
              refine SeqN.go ?_
              refine SeqJ.go ?_
              refine SeqJ.go ?_
              refine SeqN.go ?_
              refine Br.mk (fun ht => ?_) (fun ht => ?_)
              · replace h := cond_tt h ht
                refine And.intro ⟨rfl, rfl, Nat.le_of_ble_eq_true rfl⟩ ?_
                refine And.intro ⟨rfl, rfl, rfl, Nat.le_of_ble_eq_true rfl⟩ (Exists.intro [AV.int .i64 (3 : Int), AV.int .i64 (0 : Int)] (And.intro (fun _ => rfl) ?_))
                refine SeqN.go ?_
                refine SeqJ.go ?_
                refine And.intro ⟨Nat.le_of_ble_eq_true rfl, Nat.le_of_ble_eq_true rfl⟩ ?_
                refine NormE.to (S_Body.av (x17.1)) (fun _ => rfl) ?_
                refine And.intro ⟨Nat.le_of_ble_eq_true rfl, Nat.le_of_ble_eq_true rfl⟩ ?_
                refine NormE.to (AV.agg [AV.int .i64 (3 : Int), AV.int .i64 (0 : Int)]) (fun _ => rfl) ?_
                refine And.intro (fun hg => hg) ?_
                refine And.intro (fun hg => hg) ?_
                refine And.intro rfl ?_
                refine And.intro (fun hg => (and_r hg)) ?_
                refine SeqN.go ?_
                replace h := Option.some.inj h
                refine RetE.plain ?_
                exact And.intro rfl (And.intro (congrArg (fun r : Bool => AV.bool r) h) rfl)
              · replace h := cond_ff h ht
                refine SeqN.go ?_
                refine SeqJ.go ?_
                refine And.intro ⟨Nat.le_of_ble_eq_true rfl, Nat.le_of_ble_eq_true rfl⟩ ?_
                refine NormE.to (S_Body.av (x17.1)) (fun _ => rfl) ?_
                refine And.intro ⟨Nat.le_of_ble_eq_true rfl, Nat.le_of_ble_eq_true rfl⟩ ?_
                refine NormE.to (AV.agg [AV.int .i64 (a2.Kind), AV.int .i64 (0 : Int)]) (fun _ => rfl) ?_
                refine And.intro (fun hg => hg) ?_
                refine And.intro (fun hg => hg) ?_
                refine And.intro rfl ?_
                refine And.intro (fun hg => (and_r hg)) ?_
                refine SeqN.go ?_
                replace h := Option.some.inj h
                refine RetE.plain ?_
                exact And.intro rfl (And.intro (congrArg (fun r : Bool => AV.bool r) h) rfl)

end Go.Proofs.YtbgldnleackgeaaDoor
