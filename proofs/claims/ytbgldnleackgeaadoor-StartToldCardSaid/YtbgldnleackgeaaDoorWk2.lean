/-
  The functions do what their images say: walks, written by a program of mine (gen.py).
-/
import Derived.Test.YtbgldnleackgeaaDoorIm1
import Derived.Test.YtbgldnleackgeaaDoorWk1
namespace Go.Proofs.YtbgldnleackgeaaDoor
open Go Go.Pm
set_option maxRecDepth 100000
set_option maxHeartbeats 4000000
set_option linter.unusedVariables false

theorem intarsiaref09_Answer_ok (E : Pm.Env) [LaidE E] (a0 : S_Start) (a1 : (List S_Field)) (a2 : Bytes) (r : (S_Body × Int)) (h : intarsiaref09_Answer a0 a1 a2 = some r) : FnR E Tryd.prog 15 [S_Start.av a0, AV.list 2 (a1.map S_Field.av), AV.str a2] (AV.tup [S_Body.av (r.1), AV.int .i64 (r.2)]) false := by
  refine FnR.of_ev (T := T) (rows := []) tOk mixed Tryd.func15 rfl (by kernel_rfl) (by kernel_rfl) rfl fun hwf => ?_
  unfold intarsiaref09_Answer at h
  refine SeqJ.go ?_
  refine And.intro rfl ?_
  refine And.intro rfl ?_
  refine SeqN.go ?_
  refine SeqJ.go ?_
  refine SeqJ.go ?_
  refine And.intro ⟨Nat.le_of_ble_eq_true rfl, Nat.le_of_ble_eq_true rfl⟩ ?_
  refine NormE.to (S_Start.av a0) (fun _ => rfl) ?_
  refine bind_elim h fun x1 hx1 h => ?_
  refine CallH.data _ false rfl (intarsiaref06_Right_ok E a0 x1 hx1) ?_
  refine And.intro (fun hg => hg) ?_
  refine And.intro (fun hg => hg) ?_
  refine And.intro (fun hg => (and_r hg)) ?_
  refine bind_elim h fun x2 hx2 h => ?_
  refine And.intro (fun hg => hg) ?_
  refine And.intro rfl ?_
  refine CallF.mk _ false (fun hg => intarsiaref04_Right_ok E a1 x2 (gcall_some hx2 hg)) (And.intro rfl ?_)
  refine And.intro (fun hg => hg) ?_
  refine And.intro (fun hg => (and_r hg)) ?_
  refine SeqN.via (St.of [⟨1, AV.list 2 (a1.map S_Field.av), none⟩, ⟨2, AV.str a2, none⟩, ⟨3, AV.ptr 0 0, none⟩, ⟨6, AV.ptr 1 0, none⟩, ⟨22, AV.bool (bif (bif (!x1) then true else ((a0.Code) == (0 : Int))) then true else (!x2)), none⟩] [.cells 23 (S_Start.cells a0) [], .cells 28 [AV.int .i64 (0 : Int), AV.int .i64 (0 : Int)] []] []) ?_ ?_
  · refine Gho.to [⟨1, AV.list 2 (a1.map S_Field.av), none⟩, ⟨2, AV.str a2, none⟩, ⟨3, AV.ptr 0 0, none⟩, ⟨6, AV.ptr 1 0, none⟩, ⟨22, AV.bool (bif (bif (!x1) then true else ((a0.Code) == (0 : Int))) then true else (!x2)), none⟩] [.cells 23 (S_Start.cells a0) [], .cells 28 [AV.int .i64 (0 : Int), AV.int .i64 (0 : Int)] []] [] [] ?_ ?_ ?_ rfl rfl ?_
    · exact ⟨⟨rfl, rfl, rfl⟩, ⟨⟨rfl, rfl, rfl⟩, trivial⟩⟩
    · exact rfl
    · exact rfl
    · exact ⟨rfl, rfl, trivial, rfl, rfl, trivial, rfl, rfl, trivial, rfl, rfl, trivial, rfl, rfl, trivial, trivial⟩
  refine Br.mk (fun ht => ?_) (fun ht => ?_)
  · replace h := cond_tt h ht
    refine SeqJ.go ?_
    refine And.intro ⟨rfl, rfl, rfl, Nat.le_of_ble_eq_true rfl⟩ (Exists.intro [AV.int .i64 (0 : Int), AV.int .i64 (0 : Int)] (And.intro (fun _ => rfl) ?_))
    refine SeqN.go ?_
    replace h := Option.some.inj h
    refine RetE.plain ?_
    refine And.intro ⟨Nat.le_of_ble_eq_true rfl, Nat.le_of_ble_eq_true rfl⟩ (Exists.intro (AV.agg [AV.int .i64 (0 : Int), AV.int .i64 (0 : Int)]) (And.intro rfl ?_))
    exact And.intro rfl (And.intro (congrArg (fun r : (S_Body × Int) => AV.tup [S_Body.av (r.1), AV.int .i64 (r.2)]) h) rfl)
  · replace h := cond_ff h ht
    refine SeqN.go ?_
    refine SeqJ.go ?_
    refine SeqJ.go ?_
    refine And.intro (fun hg => hg) ?_
    refine And.intro (fun hg => hg) ?_
    refine And.intro (fun hg => (and_r hg)) ?_
    refine And.intro (fun hg => hg) ?_
    refine And.intro (fun hg => hg) ?_
    refine And.intro (fun hg => (and_r hg)) ?_
    refine And.intro (fun hg => hg) ?_
    refine And.intro (fun hg => (and_r hg)) ?_
    refine SeqN.via (St.of [⟨1, AV.list 2 (a1.map S_Field.av), none⟩, ⟨3, AV.ptr 0 0, none⟩, ⟨6, AV.ptr 1 0, none⟩, ⟨40, AV.bool (bif (bif (bif (decide ((a0.Code) < (200 : Int))) then true else ((a0.Code) == (204 : Int))) then true else ((a0.Code) == (304 : Int))) then true else (a2 == ([72, 69, 65, 68] : Bytes))), none⟩] [.cells 23 (S_Start.cells a0) [], .cells 28 [AV.int .i64 (0 : Int), AV.int .i64 (0 : Int)] []] []) ?_ ?_
    · refine Gho.to [⟨1, AV.list 2 (a1.map S_Field.av), none⟩, ⟨3, AV.ptr 0 0, none⟩, ⟨6, AV.ptr 1 0, none⟩, ⟨40, AV.bool (bif (bif (bif (decide ((a0.Code) < (200 : Int))) then true else ((a0.Code) == (204 : Int))) then true else ((a0.Code) == (304 : Int))) then true else (a2 == ([72, 69, 65, 68] : Bytes))), none⟩] [.cells 23 (S_Start.cells a0) [], .cells 28 [AV.int .i64 (0 : Int), AV.int .i64 (0 : Int)] []] [] [] ?_ ?_ ?_ rfl rfl ?_
      · exact ⟨⟨rfl, rfl, rfl⟩, ⟨⟨rfl, rfl, rfl⟩, trivial⟩⟩
      · exact rfl
      · exact rfl
      · exact ⟨rfl, rfl, trivial, rfl, rfl, trivial, rfl, rfl, trivial, rfl, rfl, trivial, trivial⟩
    refine Br.mk (fun ht => ?_) (fun ht => ?_)
    · replace h := cond_tt h ht
      refine SeqJ.go ?_
      refine And.intro ⟨rfl, rfl, rfl, Nat.le_of_ble_eq_true rfl⟩ (Exists.intro [AV.int .i64 (0 : Int), AV.int .i64 (0 : Int)] (And.intro (fun _ => rfl) ?_))
      refine SeqN.go ?_
      replace h := Option.some.inj h
      refine RetE.plain ?_
      refine And.intro ⟨Nat.le_of_ble_eq_true rfl, Nat.le_of_ble_eq_true rfl⟩ (Exists.intro (AV.agg [AV.int .i64 (0 : Int), AV.int .i64 (0 : Int)]) (And.intro rfl ?_))
      exact And.intro rfl (And.intro (congrArg (fun r : (S_Body × Int) => AV.tup [S_Body.av (r.1), AV.int .i64 (r.2)]) h) rfl)
    · replace h := cond_ff h ht
      refine SeqN.go ?_
      refine SeqJ.go ?_
      refine bind_elim h fun x3 hx3 h => ?_
      refine CallH.data _ false rfl (intarsiaref09_Say_ok E (a0.Minor) a1 x3 hx3) ?_
      refine And.intro rfl ?_
      refine And.intro ⟨rfl, rfl, rfl, Nat.le_of_ble_eq_true rfl⟩ (Exists.intro (S_Body.cells (x3.1)) (And.intro (fun _ => rfl) ?_))
      refine SeqN.go ?_
      refine SeqJ.go ?_
      refine SeqJ.go ?_
      refine SeqN.go ?_
      refine Br.mk (fun ht => ?_) (fun ht => ?_)
      · replace h := cond_tt h ht
        refine And.intro ⟨rfl, rfl, Nat.le_of_ble_eq_true rfl⟩ ?_
        refine And.intro ⟨rfl, rfl, rfl, Nat.le_of_ble_eq_true rfl⟩ (Exists.intro [AV.int .i64 (3 : Int), AV.int .i64 (0 : Int)] (And.intro (fun _ => rfl) ?_))
        refine SeqN.go ?_
        refine SeqJ.go ?_
        refine And.intro ⟨Nat.le_of_ble_eq_true rfl, Nat.le_of_ble_eq_true rfl⟩ ?_
        refine NormE.to (AV.agg [AV.int .i64 (3 : Int), AV.int .i64 (0 : Int)]) (fun _ => rfl) ?_
        refine And.intro ⟨rfl, rfl, rfl, Nat.le_of_ble_eq_true rfl⟩ (Exists.intro [AV.int .i64 (3 : Int), AV.int .i64 (0 : Int)] (And.intro (fun _ => rfl) ?_))
        refine SeqN.via (St.of [⟨6, AV.ptr 1 0, none⟩, ⟨7, AV.int .i64 (x3.2), none⟩] [.dead, .cells 28 [AV.int .i64 (3 : Int), AV.int .i64 (0 : Int)] []] []) ?_ ?_
        · refine Gho.to [⟨6, AV.ptr 1 0, none⟩, ⟨7, AV.int .i64 (x3.2), none⟩] [.dead, .cells 28 [AV.int .i64 (3 : Int), AV.int .i64 (0 : Int)] []] [] [] ?_ ?_ ?_ rfl rfl ?_
          · exact ⟨trivial, ⟨⟨rfl, rfl, rfl⟩, trivial⟩⟩
          · exact rfl
          · exact rfl
          · exact ⟨rfl, rfl, trivial, rfl, rfl, trivial, trivial⟩
        replace h := Option.some.inj h
        refine RetE.plain ?_
        refine And.intro ⟨Nat.le_of_ble_eq_true rfl, Nat.le_of_ble_eq_true rfl⟩ (Exists.intro (AV.agg [AV.int .i64 (3 : Int), AV.int .i64 (0 : Int)]) (And.intro rfl ?_))
        exact And.intro rfl (And.intro (congrArg (fun r : (S_Body × Int) => AV.tup [S_Body.av (r.1), AV.int .i64 (r.2)]) h) rfl)
      · replace h := cond_ff h ht
        refine SeqN.go ?_
        refine SeqJ.go ?_
        refine And.intro ⟨Nat.le_of_ble_eq_true rfl, Nat.le_of_ble_eq_true rfl⟩ ?_
        refine NormE.to (S_Body.av (x3.1)) (fun _ => rfl) ?_
        refine And.intro ⟨rfl, rfl, rfl, Nat.le_of_ble_eq_true rfl⟩ (Exists.intro (S_Body.cells (x3.1)) (And.intro (fun _ => rfl) ?_))
        refine SeqN.via (St.of [⟨6, AV.ptr 1 0, none⟩, ⟨7, AV.int .i64 (x3.2), none⟩] [.dead, .cells 28 (S_Body.cells (x3.1)) []] []) ?_ ?_
        · refine Gho.to [⟨6, AV.ptr 1 0, none⟩, ⟨7, AV.int .i64 (x3.2), none⟩] [.dead, .cells 28 (S_Body.cells (x3.1)) []] [] [] ?_ ?_ ?_ rfl rfl ?_
          · exact ⟨trivial, ⟨⟨rfl, rfl, rfl⟩, trivial⟩⟩
          · exact rfl
          · exact rfl
          · exact ⟨rfl, rfl, trivial, rfl, rfl, trivial, trivial⟩
        replace h := Option.some.inj h
        refine RetE.plain ?_
        refine And.intro ⟨Nat.le_of_ble_eq_true rfl, Nat.le_of_ble_eq_true rfl⟩ (Exists.intro (S_Body.av (x3.1)) (And.intro rfl ?_))
        exact And.intro rfl (And.intro (congrArg (fun r : (S_Body × Int) => AV.tup [S_Body.av (r.1), AV.int .i64 (r.2)]) h) rfl)

theorem intarsialaw09_alive_ok (E : Pm.Env) [LaidE E] (r : Bool) (h : intarsialaw09_alive = some r) : FnR E Tryd.prog 16 [] (AV.bool r) false := by
  refine FnR.of_ev (T := T) (rows := []) tOk mixed Tryd.func16 rfl (by kernel_rfl) (by kernel_rfl) rfl fun hwf => ?_
  unfold intarsialaw09_alive at h
  refine SeqJ.go ?_
  refine SeqN.go ?_
  refine SeqJ.go ?_
  refine And.intro ⟨rfl, rfl, Nat.le_of_ble_eq_true rfl⟩ ?_
  refine And.intro ⟨rfl, rfl, Nat.le_of_ble_eq_true rfl⟩ ?_
  refine And.intro ⟨rfl, rfl, Nat.le_of_ble_eq_true rfl⟩ ?_
  refine And.intro ⟨rfl, rfl, Nat.le_of_ble_eq_true rfl⟩ ?_
  refine And.intro ⟨rfl, rfl, rfl, rfl⟩ ?_
  refine And.intro ⟨rfl, rfl, rfl⟩ ?_
  refine NormE.to (AV.list 2 (([(S_Field.mk ([67, 111, 110, 116, 101, 110, 116, 45, 76, 101, 110, 103, 116, 104] : Bytes) ([53] : Bytes))] : List S_Field).map S_Field.av)) (fun _ => rfl) ?_
  refine bind_elim h fun x1 hx1 h => ?_
  refine CallH.data _ false rfl (frame_Request_ok E (S_Start.mk ([80, 79, 83, 84] : Bytes) ([47] : Bytes) (0 : Int) ([] : Bytes) (0 : Int)) ([(S_Field.mk ([67, 111, 110, 116, 101, 110, 116, 45, 76, 101, 110, 103, 116, 104] : Bytes) ([53] : Bytes))] : List S_Field) x1 hx1) ?_
  refine And.intro rfl ?_
  refine And.intro ⟨rfl, rfl, rfl, Nat.le_of_ble_eq_true rfl⟩ (Exists.intro (S_Body.cells (x1.1)) (And.intro (fun _ => rfl) ?_))
  refine SeqN.go ?_
  refine SeqJ.go ?_
  refine And.intro ⟨Nat.le_of_ble_eq_true rfl, Nat.le_of_ble_eq_true rfl⟩ ?_
  refine NormE.to (S_Body.av (x1.1)) (fun _ => rfl) ?_
  refine And.intro ⟨rfl, rfl, Nat.le_of_ble_eq_true rfl⟩ ?_
  refine And.intro ⟨rfl, rfl, Nat.le_of_ble_eq_true rfl⟩ ?_
  refine And.intro (fun hg => hg) ?_
  refine And.intro (fun hg => hg) ?_
  refine And.intro rfl ?_
  refine And.intro (fun hg => (and_r hg)) ?_
  refine SeqN.via (St.of [⟨0, AV.bool (bif ((x1.2) == (0 : Int)) then ((((x1.1).Kind) == (1 : Int)) && ((((x1.1).Size) == (5 : Int)) && true)) else false), none⟩] [] []) ?_ ?_
  · refine Gho.to [⟨0, AV.bool (bif ((x1.2) == (0 : Int)) then ((((x1.1).Kind) == (1 : Int)) && ((((x1.1).Size) == (5 : Int)) && true)) else false), none⟩] [] [] [] ?_ ?_ ?_ rfl rfl ?_
    · exact trivial
    · exact rfl
    · exact rfl
    · exact ⟨rfl, rfl, trivial, trivial⟩
  replace h := Option.some.inj h
  refine RetE.plain ?_
  exact And.intro rfl (And.intro (congrArg (fun r : Bool => AV.bool r) h) rfl)

theorem intarsialaw09_FrameSays_ok (E : Pm.Env) [LaidE E] (a0 : S_Start) (a1 : (List S_Field)) (a2 : Bytes) (r : Bool) (h : intarsialaw09_FrameSays a0 a1 a2 = some r) : FnR E Tryd.prog 3 [S_Start.av a0, AV.list 2 (a1.map S_Field.av), AV.str a2] (AV.bool r) false := by
  refine FnR.of_ev (T := T) (rows := []) tOk mixed Tryd.func3 rfl (by kernel_rfl) (by kernel_rfl) rfl fun hwf => ?_
  unfold intarsialaw09_FrameSays at h
  refine SeqJ.go ?_
  refine And.intro rfl ?_
  refine SeqN.go ?_
  refine SeqJ.go ?_
  refine And.intro ⟨Nat.le_of_ble_eq_true rfl, Nat.le_of_ble_eq_true rfl⟩ ?_
  refine NormE.to (S_Start.av a0) (fun _ => rfl) ?_
  refine bind_elim h fun x1 hx1 h => ?_
  refine CallH.data _ false rfl (intarsialaw09_small_ok E a0 x1 hx1) ?_
  refine bind_elim h fun x2 hx2 h => ?_
  refine CallH.data _ false rfl (intarsialaw09_few_ok E a1 x2 hx2) ?_
  refine NormE.same ?_
  refine And.intro rfl ?_
  refine bind_elim h fun x3 hx3 h => ?_
  have qx3 := (slc_some hx3).1
  have hx3e := (slc_some hx3).2
  refine And.intro (fun _ => qx3) ?_
  refine NormE.to (AV.str x3) (fun _ => congrArg AV.str hx3e.symm) ?_
  refine And.intro ⟨rfl, rfl, rfl, Nat.le_of_ble_eq_true rfl⟩ (Exists.intro (S_Start.cells x1) (And.intro (fun _ => rfl) ?_))
  refine And.intro (by kernel_rfl) ?_
  refine SeqN.go ?_
  refine SeqJ.go ?_
  refine And.intro ⟨Nat.le_of_ble_eq_true rfl, Nat.le_of_ble_eq_true rfl⟩ ?_
  refine NormE.to (S_Start.av x1) (fun _ => rfl) ?_
  refine bind_elim h fun x4 hx4 h => ?_
  refine CallH.data _ false rfl (frame_Request_ok E x1 x2 x4 hx4) ?_
  refine And.intro rfl ?_
  refine And.intro ⟨rfl, rfl, rfl, Nat.le_of_ble_eq_true rfl⟩ (Exists.intro (S_Body.cells (x4.1)) (And.intro (fun _ => rfl) ?_))
  refine SeqN.via (St.of [⟨1, AV.list 2 (x2.map S_Field.av), none⟩, ⟨2, AV.str x3, none⟩, ⟨3, AV.ptr 0 0, none⟩, ⟨7, AV.ptr 1 0, none⟩, ⟨8, AV.int .i64 (x4.2), none⟩] [.cells 23 (S_Start.cells x1) [], .cells 28 (S_Body.cells (x4.1)) []] []) ?_ ?_
  · refine Gho.to [⟨1, AV.list 2 (x2.map S_Field.av), none⟩, ⟨2, AV.str x3, none⟩, ⟨3, AV.ptr 0 0, none⟩, ⟨7, AV.ptr 1 0, none⟩, ⟨8, AV.int .i64 (x4.2), none⟩] [.cells 23 (S_Start.cells x1) [], .cells 28 (S_Body.cells (x4.1)) []] [] [] ?_ ?_ ?_ rfl rfl ?_
    · exact ⟨⟨rfl, rfl, rfl⟩, ⟨⟨rfl, rfl, rfl⟩, trivial⟩⟩
    · exact rfl
    · exact rfl
    · exact ⟨rfl, rfl, trivial, rfl, rfl, trivial, rfl, rfl, trivial, rfl, rfl, trivial, rfl, rfl, trivial, trivial⟩
  refine SeqJ.go ?_
  refine And.intro ⟨Nat.le_of_ble_eq_true rfl, Nat.le_of_ble_eq_true rfl⟩ ?_
  refine NormE.to (S_Start.av x1) (fun _ => rfl) ?_
  refine bind_elim h fun x5 hx5 h => ?_
  refine CallH.data _ false rfl (intarsiaref09_Request_ok E x1 x2 x5 hx5) ?_
  refine And.intro rfl ?_
  refine And.intro ⟨rfl, rfl, rfl, Nat.le_of_ble_eq_true rfl⟩ (Exists.intro (S_Body.cells (x5.1)) (And.intro (fun _ => rfl) ?_))
  refine SeqN.go ?_
  refine SeqJ.go ?_
  refine And.intro ⟨Nat.le_of_ble_eq_true rfl, Nat.le_of_ble_eq_true rfl⟩ ?_
  refine NormE.to (S_Start.av x1) (fun _ => rfl) ?_
  refine bind_elim h fun x6 hx6 h => ?_
  refine CallH.data _ false rfl (frame_Answer_ok E x1 x2 x3 x6 hx6) ?_
  refine And.intro rfl ?_
  refine And.intro ⟨rfl, rfl, rfl, Nat.le_of_ble_eq_true rfl⟩ (Exists.intro (S_Body.cells (x6.1)) (And.intro (fun _ => rfl) ?_))
  refine SeqN.via (St.of [⟨1, AV.list 2 (x2.map S_Field.av), none⟩, ⟨2, AV.str x3, none⟩, ⟨3, AV.ptr 0 0, none⟩, ⟨7, AV.ptr 1 0, none⟩, ⟨8, AV.int .i64 (x4.2), none⟩, ⟨9, AV.ptr 2 0, none⟩, ⟨10, AV.int .i64 (x5.2), none⟩, ⟨11, AV.ptr 3 0, none⟩, ⟨12, AV.int .i64 (x6.2), none⟩] [.cells 23 (S_Start.cells x1) [], .cells 28 (S_Body.cells (x4.1)) [], .cells 28 (S_Body.cells (x5.1)) [], .cells 28 (S_Body.cells (x6.1)) []] []) ?_ ?_
  · refine Gho.to [⟨1, AV.list 2 (x2.map S_Field.av), none⟩, ⟨2, AV.str x3, none⟩, ⟨3, AV.ptr 0 0, none⟩, ⟨7, AV.ptr 1 0, none⟩, ⟨8, AV.int .i64 (x4.2), none⟩, ⟨9, AV.ptr 2 0, none⟩, ⟨10, AV.int .i64 (x5.2), none⟩, ⟨11, AV.ptr 3 0, none⟩, ⟨12, AV.int .i64 (x6.2), none⟩] [.cells 23 (S_Start.cells x1) [], .cells 28 (S_Body.cells (x4.1)) [], .cells 28 (S_Body.cells (x5.1)) [], .cells 28 (S_Body.cells (x6.1)) []] [] [] ?_ ?_ ?_ rfl rfl ?_
    · exact ⟨⟨rfl, rfl, rfl⟩, ⟨⟨rfl, rfl, rfl⟩, ⟨⟨rfl, rfl, rfl⟩, ⟨⟨rfl, rfl, rfl⟩, trivial⟩⟩⟩⟩
    · exact rfl
    · exact rfl
    · exact ⟨rfl, rfl, trivial, rfl, rfl, trivial, rfl, rfl, trivial, rfl, rfl, trivial, rfl, rfl, trivial, rfl, rfl, trivial, rfl, rfl, trivial, rfl, rfl, trivial, rfl, rfl, trivial, trivial⟩
  refine SeqJ.go ?_
  refine And.intro ⟨Nat.le_of_ble_eq_true rfl, Nat.le_of_ble_eq_true rfl⟩ ?_
  refine NormE.to (S_Start.av x1) (fun _ => rfl) ?_
  refine bind_elim h fun x7 hx7 h => ?_
  refine CallH.data _ false rfl (intarsiaref09_Answer_ok E x1 x2 x3 x7 hx7) ?_
  refine And.intro rfl ?_
  refine And.intro ⟨rfl, rfl, rfl, Nat.le_of_ble_eq_true rfl⟩ (Exists.intro (S_Body.cells (x7.1)) (And.intro (fun _ => rfl) ?_))
  refine SeqN.go ?_
  refine SeqJ.go ?_
  refine bind_elim h fun x8 hx8 h => ?_
  refine CallH.data _ false rfl (intarsialaw09_alive_ok E  x8 hx8) ?_
  refine And.intro ⟨Nat.le_of_ble_eq_true rfl, Nat.le_of_ble_eq_true rfl⟩ ?_
  refine NormE.to (S_Body.av (x4.1)) (fun _ => rfl) ?_
  refine And.intro ⟨Nat.le_of_ble_eq_true rfl, Nat.le_of_ble_eq_true rfl⟩ ?_
  refine NormE.to (S_Body.av (x5.1)) (fun _ => rfl) ?_
  refine And.intro (fun hg => hg) ?_
  refine And.intro (fun hg => hg) ?_
  refine And.intro rfl ?_
  refine And.intro (fun hg => (and_r hg)) ?_
  refine And.intro (fun hg => hg) ?_
  refine And.intro (fun hg => hg) ?_
  refine And.intro (fun hg => (and_r hg)) ?_
  refine And.intro ⟨Nat.le_of_ble_eq_true rfl, Nat.le_of_ble_eq_true rfl⟩ ?_
  refine NormE.to (S_Body.av (x6.1)) (fun _ => rfl) ?_
  refine And.intro ⟨Nat.le_of_ble_eq_true rfl, Nat.le_of_ble_eq_true rfl⟩ ?_
  refine NormE.to (S_Body.av (x7.1)) (fun _ => rfl) ?_
  refine And.intro (fun hg => hg) ?_
  refine And.intro (fun hg => hg) ?_
  refine And.intro rfl ?_
  refine And.intro (fun hg => (and_r hg)) ?_
  refine And.intro (fun hg => hg) ?_
  refine And.intro (fun hg => hg) ?_
  refine And.intro (fun hg => (and_r hg)) ?_
  refine SeqN.via (St.of [⟨6, AV.bool (bif (bif (bif (bif x8 then ((((x4.1).Kind) == ((x5.1).Kind)) && ((((x4.1).Size) == ((x5.1).Size)) && true)) else false) then ((x4.2) == (x5.2)) else false) then ((((x6.1).Kind) == ((x7.1).Kind)) && ((((x6.1).Size) == ((x7.1).Size)) && true)) else false) then ((x6.2) == (x7.2)) else false), none⟩] [] []) ?_ ?_
  · refine Gho.to [⟨6, AV.bool (bif (bif (bif (bif x8 then ((((x4.1).Kind) == ((x5.1).Kind)) && ((((x4.1).Size) == ((x5.1).Size)) && true)) else false) then ((x4.2) == (x5.2)) else false) then ((((x6.1).Kind) == ((x7.1).Kind)) && ((((x6.1).Size) == ((x7.1).Size)) && true)) else false) then ((x6.2) == (x7.2)) else false), none⟩] [] [] [] ?_ ?_ ?_ rfl rfl ?_
    · exact trivial
    · exact rfl
    · exact rfl
    · exact ⟨rfl, rfl, trivial, trivial⟩
  replace h := Option.some.inj h
  refine RetE.plain ?_
  exact And.intro rfl (And.intro (congrArg (fun r : Bool => AV.bool r) h) rfl)

theorem intarsiaref04_Add_ok (E : Pm.Env) [LaidE E] (a0 : (List S_Field)) (a1 : S_Field) (r : ((List S_Field) × Int)) (h : intarsiaref04_Add a0 a1 = some r) : FnR E Tryd.prog 19 [AV.list 2 (a0.map S_Field.av), S_Field.av a1] (AV.tup [AV.list 2 ((r.1).map S_Field.av), AV.int .i64 (r.2)]) false := by
  refine FnR.of_ev (T := T) (rows := []) tOk mixed Tryd.func19 rfl (by kernel_rfl) (by kernel_rfl) rfl fun hwf => ?_
  unfold intarsiaref04_Add at h
  refine SeqJ.go ?_
  refine And.intro rfl ?_
  refine SeqN.go ?_
  refine SeqJ.go ?_
  refine SeqJ.go ?_
  refine bind_elim h fun x1 hx1 h => ?_
  refine CallH.data _ false rfl (intarsiaref04_Right_ok E a0 x1 hx1) ?_
  refine And.intro ⟨Nat.le_of_ble_eq_true rfl, Nat.le_of_ble_eq_true rfl⟩ ?_
  refine NormE.to (S_Field.av a1) (fun _ => rfl) ?_
  refine bind_elim h fun x2 hx2 h => ?_
  refine And.intro (fun hg => hg) ?_
  refine And.intro rfl ?_
  refine CallF.mk _ false (fun hg => intarsiaref04_May_ok E a1 x2 (gcall_some hx2 hg)) (And.intro rfl ?_)
  refine And.intro (fun hg => hg) ?_
  refine And.intro (fun hg => (and_r hg)) ?_
  refine SeqN.go ?_
  refine Br.mk (fun ht => ?_) (fun ht => ?_)
  · replace h := cond_tt h ht
    refine SeqJ.go ?_
    refine SeqN.go ?_
    replace h := Option.some.inj h
    refine RetE.plain ?_
    exact And.intro rfl (And.intro (congrArg (fun r : ((List S_Field) × Int) => AV.tup [AV.list 2 ((r.1).map S_Field.av), AV.int .i64 (r.2)]) h) rfl)
  · replace h := cond_ff h ht
    refine SeqN.go ?_
    refine SeqJ.go ?_
    refine SeqJ.go ?_
    refine NormE.to (AV.int .i64 (a0.length : Int)) (fun _ => len_list S_Field.av a0) ?_
    refine SeqN.go ?_
    refine Br.mk (fun ht => ?_) (fun ht => ?_)
    · replace h := cond_tt h ht
      refine SeqJ.go ?_
      refine SeqN.via (St.of [⟨4, AV.list 2 (([] : List S_Field).map S_Field.av), some 0⟩, ⟨5, AV.int .i64 (4 : Int), none⟩] [] [2]) ?_ ?_
      · refine Gho.to [⟨4, AV.list 2 (([] : List S_Field).map S_Field.av), some 0⟩, ⟨5, AV.int .i64 (4 : Int), none⟩] [] [2] [1] ?_ ?_ ?_ rfl rfl ?_
        · exact trivial
        · exact rfl
        · exact rfl
        · exact ⟨rfl, rfl, ⟨rfl, rfl⟩, rfl, rfl, trivial, trivial⟩
      replace h := Option.some.inj h
      refine RetE.plain ?_
      exact And.intro rfl (And.intro (congrArg (fun r : ((List S_Field) × Int) => AV.tup [AV.list 2 ((r.1).map S_Field.av), AV.int .i64 (r.2)]) h) rfl)
    · replace h := cond_ff h ht
      refine SeqN.go ?_
      refine SeqJ.go ?_
      refine And.intro ⟨rfl, rfl, rfl⟩ ?_
      refine NormE.to (AV.list 2 (([] : List S_Field).map S_Field.av)) (fun _ => rfl) ?_
      refine SeqN.via (St.of [⟨0, AV.list 2 (a0.map S_Field.av), none⟩, ⟨3, AV.ptr 0 0, none⟩, ⟨6, AV.list 2 (([] : List S_Field).map S_Field.av), some 0⟩] [.cells 40 (S_Field.cells a1) []] [2]) ?_ ?_
      · refine Gho.to [⟨0, AV.list 2 (a0.map S_Field.av), none⟩, ⟨3, AV.ptr 0 0, none⟩, ⟨6, AV.list 2 (([] : List S_Field).map S_Field.av), some 0⟩] [.cells 40 (S_Field.cells a1) []] [2] [1] ?_ ?_ ?_ rfl rfl ?_
        · exact ⟨⟨rfl, rfl, rfl⟩, trivial⟩
        · exact rfl
        · exact rfl
        · exact ⟨rfl, rfl, trivial, rfl, rfl, trivial, rfl, rfl, ⟨rfl, rfl⟩, trivial⟩
      refine SeqJ.go ?_
      refine bind_elim h fun x3 hx3 h => ?_
      have qx3 := (app_some hx3).1
      have hx3e := (app_some hx3).2
      refine And.intro ⟨rfl, rfl, rfl⟩ ?_
      refine And.intro rfl ?_
      refine And.intro (app_cond S_Field.av qx3) ?_
      refine NormE.to (AV.list 2 (x3.map S_Field.av)) (fun _ => (app_list 2 S_Field.av _ _).trans (congrArg (fun y => AV.list 2 (List.map S_Field.av y)) hx3e.symm)) ?_
      refine SeqN.go ?_
      refine SeqJ.go ?_
      refine And.intro ⟨Nat.le_of_ble_eq_true rfl, Nat.le_of_ble_eq_true rfl⟩ ?_
      refine NormE.to (S_Field.av a1) (fun _ => rfl) ?_
      refine And.intro ⟨rfl, rfl, rfl, rfl⟩ ?_
      refine And.intro ⟨rfl, rfl, rfl⟩ ?_
      refine NormE.to (AV.list 2 (([a1] : List S_Field).map S_Field.av)) (fun _ => rfl) ?_
      refine bind_elim h fun x4 hx4 h => ?_
      have qx4 := (app_some hx4).1
      have hx4e := (app_some hx4).2
      refine And.intro ⟨rfl, rfl, rfl⟩ ?_
      refine And.intro rfl ?_
      refine And.intro (app_cond S_Field.av qx4) ?_
      refine NormE.to (AV.list 2 (x4.map S_Field.av)) (fun _ => (app_list 2 S_Field.av _ _).trans (congrArg (fun y => AV.list 2 (List.map S_Field.av y)) hx4e.symm)) ?_
      refine SeqN.go ?_
      refine SeqJ.go ?_
      refine SeqN.go ?_
      replace h := Option.some.inj h
      refine RetE.plain ?_
      exact And.intro rfl (And.intro (congrArg (fun r : ((List S_Field) × Int) => AV.tup [AV.list 2 ((r.1).map S_Field.av), AV.int .i64 (r.2)]) h) rfl)

theorem intarsiaref04_Remove_ok (E : Pm.Env) [LaidE E] (a0 : (List S_Field)) (a1 : Bytes) (r : (List S_Field)) (h : intarsiaref04_Remove a0 a1 = some r) : FnR E Tryd.prog 20 [AV.list 2 (a0.map S_Field.av), AV.str a1] (AV.list 2 (r.map S_Field.av)) true := by
  refine FnR.of_ev (T := T) (rows := []) tOk mixed Tryd.func20 rfl (by kernel_rfl) (by kernel_rfl) rfl fun hwf => ?_
  unfold intarsiaref04_Remove at h
  refine SeqJ.go ?_
  refine SeqN.go ?_
  refine SeqJ.go ?_
  refine And.intro ⟨rfl, rfl, rfl⟩ ?_
  refine NormE.to (AV.list 2 (([] : List S_Field).map S_Field.av)) (fun _ => rfl) ?_
  refine SeqN.go ?_
  refine bind_elim h fun j1 hj1 h => ?_
  refine SeqJ.join (St.of [⟨5, AV.list 2 (j1.map S_Field.av), some 0⟩] [] [1]) ?_ ?_
  · clear h; have h := hj1; clear hj1
    refine SeqJ.go ?_
    refine NormE.to (AV.int .i64 (a0.length : Int)) (fun _ => len_list S_Field.av a0) ?_
    refine SeqN.go ?_
    refine LoopE.img (fun x : ((List S_Field) × Int) => St.of [⟨1, AV.str a1, none⟩, ⟨5, AV.list 2 ((x.1).map S_Field.av), some 0⟩, ⟨9, AV.list 2 (a0.map S_Field.av), none⟩, ⟨10, AV.int .i64 (a0.length : Int), none⟩, ⟨11, AV.int .i64 (x.2), none⟩] [] [1]) (intarsiaref04_Remove_b1 a0 a1) (([] : List S_Field), (0 : Int)) h ?_ ?_
    · refine Gho.to [⟨1, AV.str a1, none⟩, ⟨5, AV.list 2 (([] : List S_Field).map S_Field.av), some 0⟩, ⟨9, AV.list 2 (a0.map S_Field.av), none⟩, ⟨10, AV.int .i64 (a0.length : Int), none⟩, ⟨11, AV.int .i64 (0 : Int), none⟩] [] [1] [1] ?_ ?_ ?_ rfl rfl ?_
      · exact trivial
      · exact rfl
      · exact rfl
      · exact ⟨rfl, rfl, trivial, rfl, rfl, ⟨rfl, rfl⟩, rfl, rfl, trivial, rfl, rfl, trivial, rfl, rfl, trivial, trivial⟩
    intro n1 x y1 h hl1 hr1
    obtain ⟨s2, s3⟩ := x
    unfold intarsiaref04_Remove_b1 at h
    dsimp only at h
    refine SeqJ.go ?_
    refine SeqN.go ?_
    refine SeqJ.go ?_
    refine Br.mk (fun ht => ?_) (fun ht => ?_)
    · replace h := cond_tt h ht
      refine SeqN.go ?_
      refine SeqJ.go ?_
      refine SeqJ.go ?_
      refine bind_elim h fun x4 hx4 h => ?_
      refine And.intro rfl (Exists.intro (S_Field.av x4) (And.intro (fun hg => idx_map _ hx4) ?_))
      refine And.intro (Nat.le_of_ble_eq_true rfl) ?_
      refine NormE.to (S_Field.av x4) (fun _ => rfl) ?_
      refine And.intro rfl ?_
      refine And.intro ⟨rfl, rfl, rfl, Nat.le_of_ble_eq_true rfl⟩ (Exists.intro (S_Field.cells x4) (And.intro (fun _ => rfl) ?_))
      refine SeqN.go ?_
      refine SeqJ.go ?_
      refine bind_elim h fun x5 hx5 h => ?_
      refine CallH.data _ false rfl (intarsiaref04_same_ok E (x4.Name) a1 x5 hx5) ?_
      refine SeqN.go ?_
      refine Br.mk (fun ht => ?_) (fun ht => ?_)
      · replace h := cond_tt h ht
        refine And.intro ⟨Nat.le_of_ble_eq_true rfl, Nat.le_of_ble_eq_true rfl⟩ ?_
        refine NormE.to (S_Field.av x4) (fun _ => rfl) ?_
        refine And.intro ⟨rfl, rfl, rfl, rfl⟩ ?_
        refine And.intro ⟨rfl, rfl, rfl⟩ ?_
        refine NormE.to (AV.list 2 (([x4] : List S_Field).map S_Field.av)) (fun _ => rfl) ?_
        refine bind_elim h fun x6 hx6 h => ?_
        have qx6 := (app_some hx6).1
        have hx6e := (app_some hx6).2
        refine And.intro ⟨rfl, rfl, rfl⟩ ?_
        refine And.intro rfl ?_
        refine And.intro (app_cond S_Field.av qx6) ?_
        refine NormE.to (AV.list 2 (x6.map S_Field.av)) (fun _ => (app_list 2 S_Field.av _ _).trans (congrArg (fun y => AV.list 2 (List.map S_Field.av y)) hx6e.symm)) ?_
        refine SeqN.go ?_
        replace h := Option.some.inj h
        refine Exists.intro ⟨(n1, (x6, (IntKind.i64.wrap (s3 + (1 : Int))))), hl1 _ h.symm⟩ (And.intro (Nat.lt_succ_self _) ?_)
        refine Gho.to [⟨1, AV.str a1, none⟩, ⟨5, AV.list 2 (x6.map S_Field.av), some 0⟩, ⟨9, AV.list 2 (a0.map S_Field.av), none⟩, ⟨10, AV.int .i64 (a0.length : Int), none⟩, ⟨11, AV.int .i64 (IntKind.i64.wrap (s3 + (1 : Int))), none⟩] [] [1] [2] ?_ ?_ ?_ rfl rfl ?_
        · exact trivial
        · exact rfl
        · exact rfl
        · exact ⟨rfl, rfl, trivial, rfl, rfl, ⟨rfl, rfl⟩, rfl, rfl, trivial, rfl, rfl, trivial, rfl, rfl, trivial, trivial⟩
      · replace h := cond_ff h ht
        refine SeqN.go ?_
        replace h := Option.some.inj h
        refine Exists.intro ⟨(n1, (s2, (IntKind.i64.wrap (s3 + (1 : Int))))), hl1 _ h.symm⟩ (And.intro (Nat.lt_succ_self _) ?_)
        refine Gho.to [⟨1, AV.str a1, none⟩, ⟨5, AV.list 2 (s2.map S_Field.av), some 0⟩, ⟨9, AV.list 2 (a0.map S_Field.av), none⟩, ⟨10, AV.int .i64 (a0.length : Int), none⟩, ⟨11, AV.int .i64 (IntKind.i64.wrap (s3 + (1 : Int))), none⟩] [] [1] [0] ?_ ?_ ?_ rfl rfl ?_
        · exact trivial
        · exact rfl
        · exact rfl
        · exact ⟨rfl, rfl, trivial, rfl, rfl, ⟨rfl, rfl⟩, rfl, rfl, trivial, rfl, rfl, trivial, rfl, rfl, trivial, trivial⟩
    · replace h := cond_ff h ht
      replace h := Option.some.inj h
      replace h := hr1 _ h.symm
      subst h
      refine Gho.to [⟨5, AV.list 2 (s2.map S_Field.av), some 0⟩] [] [1] [0] ?_ ?_ ?_ rfl rfl ?_
      · exact trivial
      · exact rfl
      · exact rfl
      · exact ⟨rfl, rfl, ⟨rfl, rfl⟩, trivial⟩
  · clear hj1
    refine SeqJ.go ?_
    refine SeqN.go ?_
    replace h := Option.some.inj h
    exact RetE.own 4 0 rfl rfl rfl (And.intro (congrArg (fun r : (List S_Field) => AV.list 2 (r.map S_Field.av)) h) rfl)

theorem intarsialaw09_FrameNone_ok (E : Pm.Env) [LaidE E] (a0 : S_Start) (a1 : (List S_Field)) (a2 : Bytes) (a3 : Bytes) (r : Bool) (h : intarsialaw09_FrameNone a0 a1 a2 a3 = some r) : FnR E Tryd.prog 4 [S_Start.av a0, AV.list 2 (a1.map S_Field.av), AV.str a2, AV.str a3] (AV.bool r) false := by
  refine FnR.of_ev (T := T) (rows := []) tOk mixed Tryd.func4 rfl (by kernel_rfl) (by kernel_rfl) rfl fun hwf => ?_
  unfold intarsialaw09_FrameNone at h
  refine SeqJ.go ?_
  refine And.intro rfl ?_
  refine SeqN.go ?_
  refine SeqJ.go ?_
  refine And.intro ⟨Nat.le_of_ble_eq_true rfl, Nat.le_of_ble_eq_true rfl⟩ ?_
  refine NormE.to (S_Start.av a0) (fun _ => rfl) ?_
  refine bind_elim h fun x1 hx1 h => ?_
  refine CallH.data _ false rfl (intarsialaw09_small_ok E a0 x1 hx1) ?_
  refine bind_elim h fun x2 hx2 h => ?_
  refine CallH.data _ false rfl (intarsialaw09_few_ok E a1 x2 hx2) ?_
  refine And.intro ⟨rfl, rfl, rfl, Nat.le_of_ble_eq_true rfl⟩ (Exists.intro (S_Start.cells x1) (And.intro (fun _ => rfl) ?_))
  refine SeqN.go ?_
  refine SeqJ.go ?_
  refine And.intro ⟨Nat.le_of_ble_eq_true rfl, Nat.le_of_ble_eq_true rfl⟩ ?_
  refine NormE.to (S_Start.av x1) (fun _ => rfl) ?_
  refine bind_elim h fun x3 hx3 h => ?_
  refine CallH.data _ false rfl (frame_Answer_ok E x1 x2 ([72, 69, 65, 68] : Bytes) x3 hx3) ?_
  refine And.intro rfl ?_
  refine And.intro ⟨rfl, rfl, rfl, Nat.le_of_ble_eq_true rfl⟩ (Exists.intro (S_Body.cells (x3.1)) (And.intro (fun _ => rfl) ?_))
  refine SeqN.via (St.of [⟨1, AV.list 2 (x2.map S_Field.av), none⟩, ⟨2, AV.str a2, none⟩, ⟨3, AV.str a3, none⟩, ⟨4, AV.ptr 0 0, none⟩, ⟨9, AV.ptr 1 0, none⟩, ⟨10, AV.int .i64 (x3.2), none⟩] [.cells 23 (S_Start.cells x1) [], .cells 28 (S_Body.cells (x3.1)) []] []) ?_ ?_
  · refine Gho.to [⟨1, AV.list 2 (x2.map S_Field.av), none⟩, ⟨2, AV.str a2, none⟩, ⟨3, AV.str a3, none⟩, ⟨4, AV.ptr 0 0, none⟩, ⟨9, AV.ptr 1 0, none⟩, ⟨10, AV.int .i64 (x3.2), none⟩] [.cells 23 (S_Start.cells x1) [], .cells 28 (S_Body.cells (x3.1)) []] [] [] ?_ ?_ ?_ rfl rfl ?_
    · exact ⟨⟨rfl, rfl, rfl⟩, ⟨⟨rfl, rfl, rfl⟩, trivial⟩⟩
    · exact rfl
    · exact rfl
    · exact ⟨rfl, rfl, trivial, rfl, rfl, trivial, rfl, rfl, trivial, rfl, rfl, trivial, rfl, rfl, trivial, rfl, rfl, trivial, trivial⟩
  refine SeqJ.go ?_
  refine And.intro ⟨Nat.le_of_ble_eq_true rfl, Nat.le_of_ble_eq_true rfl⟩ ?_
  refine NormE.to (S_Start.av x1) (fun _ => rfl) ?_
  refine bind_elim h fun x4 hx4 h => ?_
  refine CallH.data _ false rfl (frame_Answer_ok E x1 x2 ([71, 69, 84] : Bytes) x4 hx4) ?_
  refine And.intro rfl ?_
  refine And.intro ⟨rfl, rfl, rfl, Nat.le_of_ble_eq_true rfl⟩ (Exists.intro (S_Body.cells (x4.1)) (And.intro (fun _ => rfl) ?_))
  refine SeqN.go ?_
  refine SeqJ.go ?_
  refine SeqJ.go ?_
  refine And.intro ⟨Nat.le_of_ble_eq_true rfl, Nat.le_of_ble_eq_true rfl⟩ ?_
  refine NormE.to (S_Start.av x1) (fun _ => rfl) ?_
  refine bind_elim h fun x5 hx5 h => ?_
  refine CallH.data _ false rfl (intarsiaref06_Right_ok E x1 x5 hx5) ?_
  refine And.intro (fun hg => hg) ?_
  refine And.intro (fun hg => hg) ?_
  refine And.intro (fun hg => (and_r hg)) ?_
  refine bind_elim h fun x6 hx6 h => ?_
  refine And.intro (fun hg => hg) ?_
  refine And.intro rfl ?_
  refine CallF.mk _ false (fun hg => intarsiaref04_Right_ok E x2 x6 (gcall_some hx6 hg)) (And.intro rfl ?_)
  refine And.intro (fun hg => hg) ?_
  refine And.intro (fun hg => (and_r hg)) ?_
  refine SeqN.via (St.of [⟨1, AV.list 2 (x2.map S_Field.av), none⟩, ⟨2, AV.str a2, none⟩, ⟨3, AV.str a3, none⟩, ⟨4, AV.ptr 0 0, none⟩, ⟨9, AV.ptr 1 0, none⟩, ⟨10, AV.int .i64 (x3.2), none⟩, ⟨11, AV.ptr 2 0, none⟩, ⟨12, AV.int .i64 (x4.2), none⟩, ⟨46, AV.bool (bif (bif (!x5) then true else ((x1.Code) == (0 : Int))) then true else (!x6)), none⟩] [.cells 23 (S_Start.cells x1) [], .cells 28 (S_Body.cells (x3.1)) [], .cells 28 (S_Body.cells (x4.1)) []] []) ?_ ?_
  · refine Gho.to [⟨1, AV.list 2 (x2.map S_Field.av), none⟩, ⟨2, AV.str a2, none⟩, ⟨3, AV.str a3, none⟩, ⟨4, AV.ptr 0 0, none⟩, ⟨9, AV.ptr 1 0, none⟩, ⟨10, AV.int .i64 (x3.2), none⟩, ⟨11, AV.ptr 2 0, none⟩, ⟨12, AV.int .i64 (x4.2), none⟩, ⟨46, AV.bool (bif (bif (!x5) then true else ((x1.Code) == (0 : Int))) then true else (!x6)), none⟩] [.cells 23 (S_Start.cells x1) [], .cells 28 (S_Body.cells (x3.1)) [], .cells 28 (S_Body.cells (x4.1)) []] [] [] ?_ ?_ ?_ rfl rfl ?_
    · exact ⟨⟨rfl, rfl, rfl⟩, ⟨⟨rfl, rfl, rfl⟩, ⟨⟨rfl, rfl, rfl⟩, trivial⟩⟩⟩
    · exact rfl
    · exact rfl
    · exact ⟨rfl, rfl, trivial, rfl, rfl, trivial, rfl, rfl, trivial, rfl, rfl, trivial, rfl, rfl, trivial, rfl, rfl, trivial, rfl, rfl, trivial, rfl, rfl, trivial, rfl, rfl, trivial, trivial⟩
  refine Br.mk (fun ht => ?_) (fun ht => ?_)
  · replace h := cond_tt h ht
    refine SeqJ.go ?_
    refine bind_elim h fun x7 hx7 h => ?_
    refine CallH.data _ false rfl (intarsialaw09_alive_ok E  x7 hx7) ?_
    refine And.intro (fun hg => hg) ?_
    refine And.intro (fun hg => (and_r hg)) ?_
    refine And.intro (fun hg => hg) ?_
    refine And.intro (fun hg => (and_r hg)) ?_
    refine And.intro ⟨Nat.le_of_ble_eq_true rfl, Nat.le_of_ble_eq_true rfl⟩ ?_
    refine NormE.to (S_Body.av (x3.1)) (fun _ => rfl) ?_
    refine And.intro ⟨Nat.le_of_ble_eq_true rfl, Nat.le_of_ble_eq_true rfl⟩ ?_
    refine NormE.to (S_Body.av (x4.1)) (fun _ => rfl) ?_
    refine And.intro (fun hg => hg) ?_
    refine And.intro (fun hg => hg) ?_
    refine And.intro rfl ?_
    refine And.intro (fun hg => (and_r hg)) ?_
    refine SeqN.go ?_
    replace h := Option.some.inj h
    refine RetE.plain ?_
    exact And.intro rfl (And.intro (congrArg (fun r : Bool => AV.bool r) h) rfl)
  · replace h := cond_ff h ht
    refine SeqN.go ?_
    refine SeqJ.go ?_
    refine SeqJ.go ?_
    refine And.intro ⟨Nat.le_of_ble_eq_true rfl, Nat.le_of_ble_eq_true rfl⟩ ?_
    refine NormE.to (S_Body.av (x3.1)) (fun _ => rfl) ?_
    refine And.intro (fun hg => hg) ?_
    refine And.intro (fun hg => hg) ?_
    refine And.intro rfl ?_
    refine And.intro (fun hg => (and_r hg)) ?_
    refine And.intro (fun hg => hg) ?_
    refine And.intro (fun hg => hg) ?_
    refine And.intro (fun hg => hg) ?_
    refine And.intro (fun hg => hg) ?_
    refine And.intro (fun hg => hg) ?_
    refine And.intro (fun hg => hg) ?_
    refine And.intro (fun hg => hg) ?_
    refine And.intro (fun hg => hg) ?_
    refine And.intro ⟨Nat.le_of_ble_eq_true rfl, Nat.le_of_ble_eq_true rfl⟩ ?_
    refine NormE.to (S_Body.av (x4.1)) (fun _ => rfl) ?_
    refine And.intro ⟨Nat.le_of_ble_eq_true rfl, Nat.le_of_ble_eq_true rfl⟩ ?_
    refine NormE.to (S_Body.av (x3.1)) (fun _ => rfl) ?_
    refine And.intro (fun hg => hg) ?_
    refine And.intro (fun hg => hg) ?_
    refine And.intro rfl ?_
    refine And.intro (fun hg => hg) ?_
    refine And.intro (fun hg => hg) ?_
    refine And.intro (fun hg => (and_r hg)) ?_
    refine bind_elim h fun x8 hx8 h => ?_
    refine And.intro rfl ?_
    refine CallF.mk _ false (fun hg => intarsialaw09_alive_ok E  x8 (gcall_some hx8 hg)) (And.intro rfl ?_)
    refine And.intro (fun hg => hg) ?_
    refine And.intro (fun hg => (and_r hg)) ?_
    refine SeqN.via (St.of [⟨1, AV.list 2 (x2.map S_Field.av), none⟩, ⟨2, AV.str a2, none⟩, ⟨3, AV.str a3, none⟩, ⟨4, AV.ptr 0 0, none⟩, ⟨11, AV.ptr 2 0, none⟩, ⟨12, AV.int .i64 (x4.2), none⟩, ⟨86, AV.bool (bif (bif (bif ((x3.2) != (0 : Int)) then true else (!((((x3.1).Kind) == (0 : Int)) && ((((x3.1).Size) == (0 : Int)) && true)))) then true else (bif (bif ((x1.Code) == (204 : Int)) then true else ((x1.Code) == (304 : Int))) then (!((((x4.1).Kind) == ((x3.1).Kind)) && ((((x4.1).Size) == ((x3.1).Size)) && true))) else false)) then true else (!x8)), none⟩] [.cells 23 (S_Start.cells x1) [], .dead, .cells 28 (S_Body.cells (x4.1)) []] []) ?_ ?_
    · refine Gho.to [⟨1, AV.list 2 (x2.map S_Field.av), none⟩, ⟨2, AV.str a2, none⟩, ⟨3, AV.str a3, none⟩, ⟨4, AV.ptr 0 0, none⟩, ⟨11, AV.ptr 2 0, none⟩, ⟨12, AV.int .i64 (x4.2), none⟩, ⟨86, AV.bool (bif (bif (bif ((x3.2) != (0 : Int)) then true else (!((((x3.1).Kind) == (0 : Int)) && ((((x3.1).Size) == (0 : Int)) && true)))) then true else (bif (bif ((x1.Code) == (204 : Int)) then true else ((x1.Code) == (304 : Int))) then (!((((x4.1).Kind) == ((x3.1).Kind)) && ((((x4.1).Size) == ((x3.1).Size)) && true))) else false)) then true else (!x8)), none⟩] [.cells 23 (S_Start.cells x1) [], .dead, .cells 28 (S_Body.cells (x4.1)) []] [] [] ?_ ?_ ?_ rfl rfl ?_
      · exact ⟨⟨rfl, rfl, rfl⟩, ⟨trivial, ⟨⟨rfl, rfl, rfl⟩, trivial⟩⟩⟩
      · exact rfl
      · exact rfl
      · exact ⟨rfl, rfl, trivial, rfl, rfl, trivial, rfl, rfl, trivial, rfl, rfl, trivial, rfl, rfl, trivial, rfl, rfl, trivial, rfl, rfl, trivial, trivial⟩
    refine Br.mk (fun ht => ?_) (fun ht => ?_)
    · replace h := cond_tt h ht
      refine SeqJ.go ?_
      refine SeqN.go ?_
      replace h := Option.some.inj h
      refine RetE.plain ?_
      exact And.intro rfl (And.intro (congrArg (fun r : Bool => AV.bool r) h) rfl)
    · replace h := cond_ff h ht
      refine SeqN.go ?_
      refine SeqJ.go ?_
      refine NormE.same ?_
      refine And.intro rfl ?_
      refine bind_elim h fun x9 hx9 h => ?_
      have qx9 := (slc_some hx9).1
      have hx9e := (slc_some hx9).2
      refine And.intro (fun _ => qx9) ?_
      refine NormE.to (AV.str x9) (fun _ => congrArg AV.str hx9e.symm) ?_
      refine NormE.same ?_
      refine And.intro rfl ?_
      refine bind_elim h fun x10 hx10 h => ?_
      have qx10 := (slc_some hx10).1
      have hx10e := (slc_some hx10).2
      refine And.intro (fun _ => qx10) ?_
      refine NormE.to (AV.str x10) (fun _ => congrArg AV.str hx10e.symm) ?_
      refine And.intro ⟨rfl, rfl, Nat.le_of_ble_eq_true rfl⟩ ?_
      refine And.intro ⟨rfl, rfl, Nat.le_of_ble_eq_true rfl⟩ ?_
      refine bind_elim h fun x11 hx11 h => ?_
      refine CallH.data _ false rfl (intarsiaref04_Add_ok E x2 (S_Field.mk x9 x10) x11 hx11) ?_
      refine And.intro (by kernel_rfl) ?_
      refine SeqN.via (St.of [⟨1, AV.list 2 (x2.map S_Field.av), none⟩, ⟨4, AV.ptr 0 0, none⟩, ⟨11, AV.ptr 2 0, none⟩, ⟨12, AV.int .i64 (x4.2), none⟩, ⟨13, AV.list 2 ((x11.1).map S_Field.av), none⟩, ⟨14, AV.int .i64 (x11.2), none⟩] [.cells 23 (S_Start.cells x1) [], .dead, .cells 28 (S_Body.cells (x4.1)) []] []) ?_ ?_
      · refine Gho.to [⟨1, AV.list 2 (x2.map S_Field.av), none⟩, ⟨4, AV.ptr 0 0, none⟩, ⟨11, AV.ptr 2 0, none⟩, ⟨12, AV.int .i64 (x4.2), none⟩, ⟨13, AV.list 2 ((x11.1).map S_Field.av), none⟩, ⟨14, AV.int .i64 (x11.2), none⟩] [.cells 23 (S_Start.cells x1) [], .dead, .cells 28 (S_Body.cells (x4.1)) []] [] [] ?_ ?_ ?_ rfl rfl ?_
        · exact ⟨⟨rfl, rfl, rfl⟩, ⟨trivial, ⟨⟨rfl, rfl, rfl⟩, trivial⟩⟩⟩
        · exact rfl
        · exact rfl
        · exact ⟨rfl, rfl, trivial, rfl, rfl, trivial, rfl, rfl, trivial, rfl, rfl, trivial, rfl, rfl, trivial, rfl, rfl, trivial, trivial⟩
      refine SeqJ.go ?_
      refine bind_elim h fun x12 hx12 h => ?_
      refine CallH.data _ true rfl (intarsiaref04_Remove_ok E (x11.1) ([99, 111, 110, 116, 101, 110, 116, 45, 108, 101, 110, 103, 116, 104] : Bytes) x12 hx12) ?_
      refine bind_elim h fun x13 hx13 h => ?_
      refine CallH.data _ true rfl (intarsiaref04_Remove_ok E x12 ([116, 114, 97, 110, 115, 102, 101, 114, 45, 101, 110, 99, 111, 100, 105, 110, 103] : Bytes) x13 hx13) ?_
      refine SeqN.go ?_
      refine SeqJ.go ?_
      refine SeqJ.go ?_
      refine And.intro (fun hg => hg) ?_
      refine NormE.to (AV.int .i64 ((x11.1).length : Int)) (fun _ => len_list S_Field.av (x11.1)) ?_
      refine And.intro (fun hg => hg) ?_
      refine NormE.to (AV.int .i64 (x13.length : Int)) (fun _ => len_list S_Field.av x13) ?_
      refine And.intro (fun hg => hg) ?_
      refine And.intro (fun hg => hg) ?_
      refine And.intro (fun hg => hg) ?_
      refine NormE.to (AV.int .i64 (x2.length : Int)) (fun _ => len_list S_Field.av x2) ?_
      refine bind_elim h fun x14 hx14 h => ?_
      refine And.intro (fun hg => hg) ?_
      refine And.intro rfl ?_
      refine CallF.mk _ false (fun hg => FnR.drop (intarsiaref04_Remove_ok E x2 ([99, 111, 110, 116, 101, 110, 116, 45, 108, 101, 110, 103, 116, 104] : Bytes) x14 (gcall_some hx14 hg))) (And.intro rfl ?_)
      refine bind_elim h fun x15 hx15 h => ?_
      refine And.intro (fun hg => hg) ?_
      refine And.intro rfl ?_
      refine CallF.mk _ false (fun hg => FnR.drop (intarsiaref04_Remove_ok E x14 ([116, 114, 97, 110, 115, 102, 101, 114, 45, 101, 110, 99, 111, 100, 105, 110, 103] : Bytes) x15 (gcall_some hx15 hg))) (And.intro rfl ?_)
      refine And.intro (fun hg => hg) ?_
      refine NormE.to (AV.int .i64 (x15.length : Int)) (fun _ => len_list S_Field.av x15) ?_
      refine And.intro (fun hg => hg) ?_
      refine And.intro (fun hg => hg) ?_
      refine And.intro (fun hg => hg) ?_
      refine And.intro (fun hg => hg) ?_
      refine And.intro (fun hg => (and_r hg)) ?_
      refine SeqN.via (St.of [⟨4, AV.ptr 0 0, none⟩, ⟨11, AV.ptr 2 0, none⟩, ⟨12, AV.int .i64 (x4.2), none⟩, ⟨13, AV.list 2 ((x11.1).map S_Field.av), none⟩, ⟨122, AV.bool (bif ((x11.2) != (0 : Int)) then true else ((IntKind.i64.wrap (((x11.1).length : Int) - (x13.length : Int))) != (IntKind.i64.wrap ((x2.length : Int) - (x15.length : Int))))), none⟩] [.cells 23 (S_Start.cells x1) [], .dead, .cells 28 (S_Body.cells (x4.1)) []] []) ?_ ?_
      · refine Gho.to [⟨4, AV.ptr 0 0, none⟩, ⟨11, AV.ptr 2 0, none⟩, ⟨12, AV.int .i64 (x4.2), none⟩, ⟨13, AV.list 2 ((x11.1).map S_Field.av), none⟩, ⟨122, AV.bool (bif ((x11.2) != (0 : Int)) then true else ((IntKind.i64.wrap (((x11.1).length : Int) - (x13.length : Int))) != (IntKind.i64.wrap ((x2.length : Int) - (x15.length : Int))))), none⟩] [.cells 23 (S_Start.cells x1) [], .dead, .cells 28 (S_Body.cells (x4.1)) []] [] [] ?_ ?_ ?_ rfl rfl ?_
        · exact ⟨⟨rfl, rfl, rfl⟩, ⟨trivial, ⟨⟨rfl, rfl, rfl⟩, trivial⟩⟩⟩
        · exact rfl
        · exact rfl
        · exact ⟨rfl, rfl, trivial, rfl, rfl, trivial, rfl, rfl, trivial, rfl, rfl, trivial, rfl, rfl, trivial, trivial⟩
      refine Br.mk (fun ht => ?_) (fun ht => ?_)
      · replace h := cond_tt h ht
        refine SeqJ.go ?_
        refine SeqN.go ?_
        replace h := Option.some.inj h
        refine RetE.plain ?_
        exact And.intro rfl (And.intro (congrArg (fun r : Bool => AV.bool r) h) rfl)
      · replace h := cond_ff h ht
        refine SeqN.go ?_
        refine SeqJ.go ?_
        refine And.intro ⟨Nat.le_of_ble_eq_true rfl, Nat.le_of_ble_eq_true rfl⟩ ?_
        refine NormE.to (S_Start.av x1) (fun _ => rfl) ?_
        refine bind_elim h fun x16 hx16 h => ?_
        refine CallH.data _ false rfl (frame_Answer_ok E x1 (x11.1) ([71, 69, 84] : Bytes) x16 hx16) ?_
        refine And.intro rfl ?_
        refine And.intro ⟨rfl, rfl, rfl, Nat.le_of_ble_eq_true rfl⟩ (Exists.intro (S_Body.cells (x16.1)) (And.intro (fun _ => rfl) ?_))
        refine SeqN.go ?_
        refine SeqJ.go ?_
        refine And.intro ⟨Nat.le_of_ble_eq_true rfl, Nat.le_of_ble_eq_true rfl⟩ ?_
        refine NormE.to (S_Body.av (x16.1)) (fun _ => rfl) ?_
        refine And.intro ⟨Nat.le_of_ble_eq_true rfl, Nat.le_of_ble_eq_true rfl⟩ ?_
        refine NormE.to (S_Body.av (x4.1)) (fun _ => rfl) ?_
        refine And.intro rfl ?_
        refine And.intro (fun hg => hg) ?_
        refine And.intro (fun hg => hg) ?_
        refine And.intro (fun hg => (and_r hg)) ?_
        refine SeqN.via (St.of [⟨8, AV.bool (bif ((((x16.1).Kind) == ((x4.1).Kind)) && ((((x16.1).Size) == ((x4.1).Size)) && true)) then ((x16.2) == (x4.2)) else false), none⟩] [] []) ?_ ?_
        · refine Gho.to [⟨8, AV.bool (bif ((((x16.1).Kind) == ((x4.1).Kind)) && ((((x16.1).Size) == ((x4.1).Size)) && true)) then ((x16.2) == (x4.2)) else false), none⟩] [] [] [] ?_ ?_ ?_ rfl rfl ?_
          · exact trivial
          · exact rfl
          · exact rfl
          · exact ⟨rfl, rfl, trivial, trivial⟩
        replace h := Option.some.inj h
        refine RetE.plain ?_
        exact And.intro rfl (And.intro (congrArg (fun r : Bool => AV.bool r) h) rfl)

theorem table_Remove_1_ok (E : Pm.Env) [LaidE E] (a0 : S_Field) (c0 : FuncId) (c0c : List AV) (c0i : S_Field → Option Bool) (c0h : ∀ (x0 : S_Field) (r : Bool), c0i x0 = some r → FnR E Tryd.prog c0 ([S_Field.av x0] ++ c0c) (AV.bool r) false) (c0p : c0c.all AV.puB = true) (r : Bool) (h : table_Remove_1 a0 c0i = some r) : FnR E Tryd.prog 74 [S_Field.av a0, AV.iptr [AV.fn c0 [] c0c]] (AV.bool r) false := by
  refine FnR.of_ev (T := T) (rows := []) tOk mixed Tryd.func74 rfl (by kernel_rfl) (by kernel_rfl) rfl fun hwf => ?_
  unfold table_Remove_1 at h
  refine SeqJ.go ?_
  refine And.intro rfl ?_
  refine SeqN.go ?_
  refine SeqJ.go ?_
  refine And.intro ⟨Nat.le_of_ble_eq_true rfl, Nat.le_of_ble_eq_true rfl⟩ ?_
  refine NormE.to (S_Field.av a0) (fun _ => rfl) ?_
  refine bind_elim h fun x1 hx1 h => ?_
  refine CallH.data _ false (puD_app rfl (puD_of c0p)) (c0h a0 x1 hx1) ?_
  refine SeqN.go ?_
  replace h := Option.some.inj h
  refine RetE.plain ?_
  exact And.intro rfl (And.intro (congrArg (fun r : Bool => AV.bool r) h) rfl)

theorem table_Remove_ok (E : Pm.Env) [LaidE E] (a0 : (List S_Field)) (a1 : Bytes) (r : (List S_Field)) (h : table_Remove a0 a1 = some r) : FnR E Tryd.prog 44 [AV.list 2 (a0.map S_Field.av), AV.str a1] (AV.list 2 (r.map S_Field.av)) true := by
  refine FnR.of_ev (T := T) (rows := []) tOk mixed Tryd.func44 rfl (by kernel_rfl) (by kernel_rfl) rfl fun hwf => ?_
  unfold table_Remove at h
  refine SeqJ.go ?_
  refine SeqN.go ?_
  refine SeqJ.go ?_
  refine bind_elim h fun x1 hx1 h => ?_
  refine CallH.data _ false rfl (table_named_ok E a1 x1 hx1) ?_
  refine And.intro rfl ?_
  refine And.intro ⟨rfl, rfl, rfl, Nat.le_of_ble_eq_true rfl⟩ (Exists.intro [AV.fn 95 [] [AV.iptr [AV.str x1]]] (And.intro (fun _ => rfl) ?_))
  refine SeqN.via (St.of [⟨0, AV.list 2 (a0.map S_Field.av), none⟩, ⟨5, AV.iptr [AV.fn 95 [] [AV.iptr [AV.str x1]]], none⟩] [] []) ?_ ?_
  · refine Gho.trans (Gho.fz [0] [(5, AV.iptr [AV.fn 95 [] [AV.iptr [AV.str x1]]])] ⟨Frz.ptrD rfl rfl (Nat.le_of_ble_eq_true rfl), trivial⟩) ?_
    refine Gho.to [⟨0, AV.list 2 (a0.map S_Field.av), none⟩, ⟨5, AV.iptr [AV.fn 95 [] [AV.iptr [AV.str x1]]], none⟩] [] [] [] ?_ ?_ ?_ rfl rfl ?_
    · exact trivial
    · exact rfl
    · exact rfl
    · exact ⟨rfl, rfl, trivial, rfl, rfl, trivial, trivial⟩
  refine SeqJ.go ?_
  refine bind_elim h fun x2 hx2 h => ?_
  refine CallH.data _ true rfl (table_keep_api_Field_ok E a0 74 [AV.iptr [AV.fn 95 [] [AV.iptr [AV.str x1]]]] (fun x0 => table_Remove_1 x0 (fun x0 => table_named_1 x0 x1)) (fun x0 r h => table_Remove_1_ok E x0 95 [AV.iptr [AV.str x1]] (fun x0 => table_named_1 x0 x1) (fun x0 r h => table_named_1_ok E x0 x1 r h) rfl r h) rfl x2 hx2) ?_
  refine SeqN.go ?_
  replace h := Option.some.inj h
  exact RetE.own 4 0 rfl rfl rfl (And.intro (congrArg (fun r : (List S_Field) => AV.list 2 (r.map S_Field.av)) h) rfl)

theorem number_Dec_ok (E : Pm.Env) [LaidE E] (a0 : Int) (r : Bytes) (h : number_Dec a0 = some r) : FnR E Tryd.prog 46 [AV.int .u64 a0] (AV.str r) false := by
  refine FnR.of_ev (T := T) (rows := []) tOk mixed Tryd.func46 rfl (by kernel_rfl) (by kernel_rfl) rfl fun hwf => ?_
  unfold number_Dec at h
  refine SeqJ.go ?_
  refine SeqN.go ?_
  refine SeqJ.go ?_
  refine bind_elim h fun x1 hx1 h => ?_
  refine CallH.data _ false rfl (strconv_FormatUint_ok E a0 (10 : Int) x1 hx1) ?_
  refine SeqN.go ?_
  replace h := Option.some.inj h
  refine RetE.plain ?_
  exact And.intro rfl (And.intro (congrArg (fun r : Bytes => AV.str r) h) rfl)

theorem slices_Clip__api_Field_api_Field_ok (E : Pm.Env) [LaidE E] (a0 : (List S_Field)) (r : (List S_Field)) (h : slices_Clip__api_Field_api_Field a0 = some r) : FnR E Tryd.prog 75 [AV.list 2 (a0.map S_Field.av)] (AV.list 2 (r.map S_Field.av)) true := by
  refine FnR.of_ev (T := T) (rows := []) tOk mixed Tryd.func75 rfl (by kernel_rfl) (by kernel_rfl) rfl fun hwf => ?_
  unfold slices_Clip__api_Field_api_Field at h
  refine SeqJ.go ?_
  refine SeqN.go ?_
  refine SeqJ.go ?_
  refine NormE.to (AV.int .i64 (a0.length : Int)) (fun _ => len_list S_Field.av a0) ?_
  refine NormE.to (AV.int .i64 (a0.length : Int)) (fun _ => len_list S_Field.av a0) ?_
  refine bind_elim h fun x1 hx1 h => ?_
  have qx1 := (slc_some hx1).1
  have hx1e := (slc_some hx1).2
  refine And.intro ⟨slc_cond S_Field.av qx1, rfl, rfl⟩ ?_
  refine NormE.to (AV.list 2 (x1.map S_Field.av)) (fun _ => (slc_list 2 S_Field.av _ _ _).trans (congrArg (fun y => AV.list 2 (List.map S_Field.av y)) hx1e.symm)) ?_
  refine SeqN.go ?_
  replace h := Option.some.inj h
  exact RetE.own 2 1 rfl rfl rfl (And.intro (congrArg (fun r : (List S_Field) => AV.list 2 (r.map S_Field.av)) h) rfl)

theorem table_Add_ok (E : Pm.Env) [LaidE E] (a0 : (List S_Field)) (a1 : Bytes) (a2 : Bytes) (r : ((List S_Field) × Int)) (h : table_Add a0 a1 a2 = some r) : FnR E Tryd.prog 45 [AV.list 2 (a0.map S_Field.av), AV.str a1, AV.str a2] (AV.tup [AV.list 2 ((r.1).map S_Field.av), AV.int .i64 (r.2)]) false := by
  refine FnR.of_ev (T := T) (rows := []) tOk mixed Tryd.func45 rfl (by kernel_rfl) (by kernel_rfl) rfl fun hwf => ?_
  unfold table_Add at h
  refine SeqJ.go ?_
  refine SeqN.go ?_
  refine SeqJ.go ?_
  refine And.intro ⟨rfl, rfl, Nat.le_of_ble_eq_true rfl⟩ ?_
  refine And.intro ⟨rfl, rfl, Nat.le_of_ble_eq_true rfl⟩ ?_
  refine And.intro rfl ?_
  refine And.intro ⟨rfl, rfl, rfl, Nat.le_of_ble_eq_true rfl⟩ (Exists.intro [AV.str a1, AV.str a2] (And.intro (fun _ => rfl) ?_))
  refine SeqN.go ?_
  refine SeqJ.go ?_
  refine SeqJ.go ?_
  refine bind_elim h fun x1 hx1 h => ?_
  refine CallH.data _ false rfl (table_Right_ok E a0 x1 hx1) ?_
  refine And.intro ⟨Nat.le_of_ble_eq_true rfl, Nat.le_of_ble_eq_true rfl⟩ ?_
  refine NormE.to (AV.agg [AV.str a1, AV.str a2]) (fun _ => rfl) ?_
  refine bind_elim h fun x2 hx2 h => ?_
  refine And.intro (fun hg => hg) ?_
  refine And.intro rfl ?_
  refine CallF.mk _ false (fun hg => table_may_ok E (S_Field.mk a1 a2) x2 (gcall_some hx2 hg)) (And.intro rfl ?_)
  refine And.intro (fun hg => hg) ?_
  refine And.intro (fun hg => (and_r hg)) ?_
  refine SeqN.via (St.of [⟨0, AV.list 2 (a0.map S_Field.av), none⟩, ⟨8, AV.ptr 0 0, none⟩, ⟨12, AV.bool (bif (!x1) then true else (!x2)), none⟩] [.cells 40 [AV.str a1, AV.str a2] []] []) ?_ ?_
  · refine Gho.to [⟨0, AV.list 2 (a0.map S_Field.av), none⟩, ⟨8, AV.ptr 0 0, none⟩, ⟨12, AV.bool (bif (!x1) then true else (!x2)), none⟩] [.cells 40 [AV.str a1, AV.str a2] []] [] [] ?_ ?_ ?_ rfl rfl ?_
    · exact ⟨⟨rfl, rfl, rfl⟩, trivial⟩
    · exact rfl
    · exact rfl
    · exact ⟨rfl, rfl, trivial, rfl, rfl, trivial, rfl, rfl, trivial, trivial⟩
  refine Br.mk (fun ht => ?_) (fun ht => ?_)
  · replace h := cond_tt h ht
    refine SeqJ.go ?_
    refine SeqN.go ?_
    replace h := Option.some.inj h
    refine RetE.plain ?_
    exact And.intro rfl (And.intro (congrArg (fun r : ((List S_Field) × Int) => AV.tup [AV.list 2 ((r.1).map S_Field.av), AV.int .i64 (r.2)]) h) rfl)
  · replace h := cond_ff h ht
    refine SeqJ.go ?_
    refine NormE.to (AV.int .i64 (a0.length : Int)) (fun _ => len_list S_Field.av a0) ?_
    refine SeqN.go ?_
    refine Br.mk (fun ht => ?_) (fun ht => ?_)
    · replace h := cond_tt h ht
      refine SeqJ.go ?_
      refine SeqN.go ?_
      replace h := Option.some.inj h
      refine RetE.plain ?_
      exact And.intro rfl (And.intro (congrArg (fun r : ((List S_Field) × Int) => AV.tup [AV.list 2 ((r.1).map S_Field.av), AV.int .i64 (r.2)]) h) rfl)
    · replace h := cond_ff h ht
      refine SeqN.go ?_
      refine SeqJ.go ?_
      refine bind_elim h fun x3 hx3 h => ?_
      refine CallH.data _ true rfl (slices_Clip__api_Field_api_Field_ok E a0 x3 hx3) ?_
      refine And.intro ⟨Nat.le_of_ble_eq_true rfl, Nat.le_of_ble_eq_true rfl⟩ ?_
      refine NormE.to (AV.agg [AV.str a1, AV.str a2]) (fun _ => rfl) ?_
      refine And.intro ⟨rfl, rfl, rfl, rfl⟩ ?_
      refine And.intro ⟨rfl, rfl, rfl⟩ ?_
      refine NormE.to (AV.list 2 (([(S_Field.mk a1 a2)] : List S_Field).map S_Field.av)) (fun _ => rfl) ?_
      refine bind_elim h fun x4 hx4 h => ?_
      have qx4 := (app_some hx4).1
      have hx4e := (app_some hx4).2
      refine And.intro ⟨rfl, rfl, rfl⟩ ?_
      refine And.intro rfl ?_
      refine And.intro (app_cond S_Field.av qx4) ?_
      refine NormE.to (AV.list 2 (x4.map S_Field.av)) (fun _ => (app_list 2 S_Field.av _ _).trans (congrArg (fun y => AV.list 2 (List.map S_Field.av y)) hx4e.symm)) ?_
      refine And.intro (by kernel_rfl) ?_
      refine SeqN.go ?_
      replace h := Option.some.inj h
      refine RetE.plain ?_
      exact And.intro rfl (And.intro (congrArg (fun r : ((List S_Field) × Int) => AV.tup [AV.list 2 ((r.1).map S_Field.av), AV.int .i64 (r.2)]) h) rfl)

theorem frame_With_ok (E : Pm.Env) [LaidE E] (a0 : (List S_Field)) (a1 : S_Body) (r : ((List S_Field) × Int)) (h : frame_With a0 a1 = some r) : FnR E Tryd.prog 21 [AV.list 2 (a0.map S_Field.av), S_Body.av a1] (AV.tup [AV.list 2 ((r.1).map S_Field.av), AV.int .i64 (r.2)]) false := by
  refine FnR.of_ev (T := T) (rows := []) tOk mixed Tryd.func21 rfl (by kernel_rfl) (by kernel_rfl) rfl fun hwf => ?_
  unfold frame_With at h
  refine SeqJ.go ?_
  refine And.intro rfl ?_
  refine SeqN.go ?_
  refine SeqJ.go ?_
  refine SeqJ.go ?_
  refine bind_elim h fun x1 hx1 h => ?_
  refine CallH.data _ false rfl (table_Right_ok E a0 x1 hx1) ?_
  refine And.intro (fun hg => hg) ?_
  refine And.intro (fun hg => hg) ?_
  refine And.intro (fun hg => (and_r hg)) ?_
  refine And.intro (fun hg => hg) ?_
  refine And.intro (fun hg => hg) ?_
  refine And.intro (fun hg => (and_r hg)) ?_
  refine And.intro (fun hg => hg) ?_
  refine And.intro (fun hg => hg) ?_
  refine And.intro (fun hg => (and_r hg)) ?_
  refine And.intro (fun hg => hg) ?_
  refine And.intro (fun hg => hg) ?_
  refine And.intro (fun hg => (and_r hg)) ?_
  refine SeqN.via (St.of [⟨0, AV.list 2 (a0.map S_Field.av), none⟩, ⟨3, AV.ptr 0 0, none⟩, ⟨28, AV.bool (bif (bif (bif (bif (!x1) then true else (decide ((a1.Size) < (0 : Int)))) then true else (decide ((a1.Size) > (20000 : Int)))) then true else (decide ((a1.Kind) < (0 : Int)))) then true else (decide ((a1.Kind) > (3 : Int)))), none⟩] [.cells 28 (S_Body.cells a1) []] []) ?_ ?_
  · refine Gho.to [⟨0, AV.list 2 (a0.map S_Field.av), none⟩, ⟨3, AV.ptr 0 0, none⟩, ⟨28, AV.bool (bif (bif (bif (bif (!x1) then true else (decide ((a1.Size) < (0 : Int)))) then true else (decide ((a1.Size) > (20000 : Int)))) then true else (decide ((a1.Kind) < (0 : Int)))) then true else (decide ((a1.Kind) > (3 : Int)))), none⟩] [.cells 28 (S_Body.cells a1) []] [] [] ?_ ?_ ?_ rfl rfl ?_
    · exact ⟨⟨rfl, rfl, rfl⟩, trivial⟩
    · exact rfl
    · exact rfl
    · exact ⟨rfl, rfl, trivial, rfl, rfl, trivial, rfl, rfl, trivial, trivial⟩
  refine Br.mk (fun ht => ?_) (fun ht => ?_)
  · replace h := cond_tt h ht
    refine SeqJ.go ?_
    refine SeqN.go ?_
    replace h := Option.some.inj h
    refine RetE.plain ?_
    exact And.intro rfl (And.intro (congrArg (fun r : ((List S_Field) × Int) => AV.tup [AV.list 2 ((r.1).map S_Field.av), AV.int .i64 (r.2)]) h) rfl)
  · replace h := cond_ff h ht
    refine SeqN.go ?_
    refine SeqJ.go ?_
    refine bind_elim h fun x2 hx2 h => ?_
    refine CallH.data _ true rfl (table_Remove_ok E a0 ([67, 111, 110, 116, 101, 110, 116, 45, 76, 101, 110, 103, 116, 104] : Bytes) x2 hx2) ?_
    refine bind_elim h fun x3 hx3 h => ?_
    refine CallH.data _ true rfl (table_Remove_ok E x2 ([84, 114, 97, 110, 115, 102, 101, 114, 45, 69, 110, 99, 111, 100, 105, 110, 103] : Bytes) x3 hx3) ?_
    refine SeqN.go ?_
    refine SeqJ.go ?_
    refine SeqJ.go ?_
    refine SeqN.go ?_
    refine SeqJ.go ?_
    refine SeqN.go ?_
    refine Br.mk (fun ht => ?_) (fun ht => ?_)
    · replace h := cond_tt h ht
      refine SeqJ.go ?_
      refine bind_elim h fun x4 hx4 h => ?_
      refine CallH.data _ false rfl (number_Dec_ok E (IntKind.u64.wrap (a1.Size)) x4 hx4) ?_
      refine bind_elim h fun x5 hx5 h => ?_
      refine CallH.data _ false rfl (table_Add_ok E x3 ([67, 111, 110, 116, 101, 110, 116, 45, 76, 101, 110, 103, 116, 104] : Bytes) x4 x5 hx5) ?_
      refine SeqN.via (St.of [⟨4, AV.list 2 ((x5.1).map S_Field.av), none⟩, ⟨5, AV.int .i64 (x5.2), none⟩] [] []) ?_ ?_
      · refine Gho.to [⟨4, AV.list 2 ((x5.1).map S_Field.av), none⟩, ⟨5, AV.int .i64 (x5.2), none⟩] [] [] [] ?_ ?_ ?_ rfl rfl ?_
        · exact trivial
        · exact rfl
        · exact rfl
        · exact ⟨rfl, rfl, trivial, rfl, rfl, trivial, trivial⟩
      replace h := Option.some.inj h
      refine RetE.plain ?_
      exact And.intro rfl (And.intro (congrArg (fun r : ((List S_Field) × Int) => AV.tup [AV.list 2 ((r.1).map S_Field.av), AV.int .i64 (r.2)]) h) rfl)
    · replace h := cond_ff h ht
      refine SeqJ.go ?_
      refine SeqN.go ?_
      refine Br.mk (fun ht => ?_) (fun ht => ?_)
      · replace h := cond_tt h ht
        refine SeqJ.go ?_
        refine bind_elim h fun x6 hx6 h => ?_
        refine CallH.data _ false rfl (table_Add_ok E x3 ([84, 114, 97, 110, 115, 102, 101, 114, 45, 69, 110, 99, 111, 100, 105, 110, 103] : Bytes) ([99, 104, 117, 110, 107, 101, 100] : Bytes) x6 hx6) ?_
        refine SeqN.via (St.of [⟨4, AV.list 2 ((x6.1).map S_Field.av), none⟩, ⟨5, AV.int .i64 (x6.2), none⟩] [] []) ?_ ?_
        · refine Gho.to [⟨4, AV.list 2 ((x6.1).map S_Field.av), none⟩, ⟨5, AV.int .i64 (x6.2), none⟩] [] [] [] ?_ ?_ ?_ rfl rfl ?_
          · exact trivial
          · exact rfl
          · exact rfl
          · exact ⟨rfl, rfl, trivial, rfl, rfl, trivial, trivial⟩
        replace h := Option.some.inj h
        refine RetE.plain ?_
        exact And.intro rfl (And.intro (congrArg (fun r : ((List S_Field) × Int) => AV.tup [AV.list 2 ((r.1).map S_Field.av), AV.int .i64 (r.2)]) h) rfl)
      · replace h := cond_ff h ht
        refine SeqN.go ?_
        refine SeqJ.go ?_
        refine SeqN.go ?_
        replace h := Option.some.inj h
        refine RetE.plain ?_
        exact And.intro rfl (And.intro (congrArg (fun r : ((List S_Field) × Int) => AV.tup [AV.list 2 ((r.1).map S_Field.av), AV.int .i64 (r.2)]) h) rfl)

theorem intarsiaref02_Digits_ok (E : Pm.Env) [LaidE E] (a0 : Int) (a1 : Int) (r : Bytes) (h : intarsiaref02_Digits a0 a1 = some r) : FnR E Tryd.prog 47 [AV.int .u64 a0, AV.int .u64 a1] (AV.str r) false := by
  refine FnR.of_ev (T := T) (rows := []) tOk mixed Tryd.func47 rfl (by kernel_rfl) (by kernel_rfl) rfl fun hwf => ?_
  unfold intarsiaref02_Digits at h
  refine SeqJ.go ?_
  refine SeqN.go ?_
  refine SeqJ.go ?_
  refine SeqN.go ?_
  refine bind_elim h fun j1 hj1 h => ?_
  refine SeqJ.join (St.of [⟨5, AV.str j1, none⟩] [] []) ?_ ?_
  · clear h; have h := hj1; clear hj1
    refine LoopE.img (fun x : (Int × Bytes) => St.of [⟨0, AV.int .u64 (x.1), none⟩, ⟨1, AV.int .u64 a1, none⟩, ⟨5, AV.str (x.2), none⟩] [] []) (intarsiaref02_Digits_b1 a1) (a0, ([] : Bytes)) h ?_ ?_
    · refine Gho.to [⟨0, AV.int .u64 a0, none⟩, ⟨1, AV.int .u64 a1, none⟩, ⟨5, AV.str ([] : Bytes), none⟩] [] [] [] ?_ ?_ ?_ rfl rfl ?_
      · exact trivial
      · exact rfl
      · exact rfl
      · exact ⟨rfl, rfl, trivial, rfl, rfl, trivial, rfl, rfl, trivial, trivial⟩
    intro n1 x y1 h hl1 hr1
    obtain ⟨s2, s3⟩ := x
    unfold intarsiaref02_Digits_b1 at h
    dsimp only at h
    refine SeqJ.go ?_
    refine SeqJ.go ?_
    refine And.intro (fun hg => hg) ?_
    refine And.intro (fun hg => (and_r hg)) ?_
    refine SeqN.go ?_
    refine Br.mk (fun ht => ?_) (fun ht => ?_)
    · replace h := cond_tt h ht
      refine SeqN.go ?_
      refine SeqJ.go ?_
      refine chk_elim h fun q4 h => ?_
      refine And.intro (fun _ => q4) ?_
      refine chk_elim h fun q5 h => ?_
      refine And.intro (fun _ => q5) ?_
      refine bind_elim h fun x6 hx6 h => ?_
      have qx6 := (slc_some hx6).1
      have hx6e := (slc_some hx6).2
      refine And.intro (fun _ => qx6) ?_
      refine NormE.to (AV.str x6) (fun _ => congrArg AV.str hx6e.symm) ?_
      refine bind_elim h fun x7 hx7 h => ?_
      have hx7c := (cat_some hx7).1
      have hx7e := (cat_some hx7).2
      refine And.intro (fun _ => hx7c) ?_
      refine NormE.to (AV.str x7) (fun _ => congrArg AV.str hx7e.symm) ?_
      refine And.intro (by kernel_rfl) ?_
      refine SeqN.via (St.of [⟨0, AV.int .u64 s2, none⟩, ⟨1, AV.int .u64 a1, none⟩, ⟨5, AV.str x7, none⟩] [] []) ?_ ?_
      · refine Gho.to [⟨0, AV.int .u64 s2, none⟩, ⟨1, AV.int .u64 a1, none⟩, ⟨5, AV.str x7, none⟩] [] [] [] ?_ ?_ ?_ rfl rfl ?_
        · exact trivial
        · exact rfl
        · exact rfl
        · exact ⟨rfl, rfl, trivial, rfl, rfl, trivial, rfl, rfl, trivial, trivial⟩
      refine chk_elim h fun q8 h => ?_
      refine And.intro (fun _ => q8) ?_
      replace h := Option.some.inj h
      refine Exists.intro ⟨(n1, ((IntKind.u64.wrap (s2.tdiv a1)), x7)), hl1 _ h.symm⟩ (And.intro (Nat.lt_succ_self _) ?_)
      refine Gho.to [⟨0, AV.int .u64 (IntKind.u64.wrap (s2.tdiv a1)), none⟩, ⟨1, AV.int .u64 a1, none⟩, ⟨5, AV.str x7, none⟩] [] [] [] ?_ ?_ ?_ rfl rfl ?_
      · exact trivial
      · exact rfl
      · exact rfl
      · exact ⟨rfl, rfl, trivial, rfl, rfl, trivial, rfl, rfl, trivial, trivial⟩
    · replace h := cond_ff h ht
      replace h := Option.some.inj h
      replace h := hr1 _ h.symm
      subst h
      refine Gho.to [⟨5, AV.str s3, none⟩] [] [] [] ?_ ?_ ?_ rfl rfl ?_
      · exact trivial
      · exact rfl
      · exact rfl
      · exact ⟨rfl, rfl, trivial, trivial⟩
  · clear hj1
    refine SeqJ.go ?_
    refine SeqN.go ?_
    replace h := Option.some.inj h
    refine RetE.plain ?_
    exact And.intro rfl (And.intro (congrArg (fun r : Bytes => AV.str r) h) rfl)

theorem intarsiaref09_With_ok (E : Pm.Env) [LaidE E] (a0 : (List S_Field)) (a1 : S_Body) (r : ((List S_Field) × Int)) (h : intarsiaref09_With a0 a1 = some r) : FnR E Tryd.prog 22 [AV.list 2 (a0.map S_Field.av), S_Body.av a1] (AV.tup [AV.list 2 ((r.1).map S_Field.av), AV.int .i64 (r.2)]) false := by
  refine FnR.of_ev (T := T) (rows := []) tOk mixed Tryd.func22 rfl (by kernel_rfl) (by kernel_rfl) rfl fun hwf => ?_
  unfold intarsiaref09_With at h
  refine SeqJ.go ?_
  refine And.intro rfl ?_
  refine SeqN.go ?_
  refine SeqJ.go ?_
  refine SeqJ.go ?_
  refine bind_elim h fun x1 hx1 h => ?_
  refine CallH.data _ false rfl (intarsiaref04_Right_ok E a0 x1 hx1) ?_
  refine And.intro (fun hg => hg) ?_
  refine And.intro (fun hg => hg) ?_
  refine And.intro (fun hg => (and_r hg)) ?_
  refine And.intro (fun hg => hg) ?_
  refine And.intro (fun hg => hg) ?_
  refine And.intro (fun hg => (and_r hg)) ?_
  refine And.intro (fun hg => hg) ?_
  refine And.intro (fun hg => hg) ?_
  refine And.intro (fun hg => (and_r hg)) ?_
  refine And.intro (fun hg => hg) ?_
  refine And.intro (fun hg => hg) ?_
  refine And.intro (fun hg => (and_r hg)) ?_
  refine SeqN.via (St.of [⟨0, AV.list 2 (a0.map S_Field.av), none⟩, ⟨3, AV.ptr 0 0, none⟩, ⟨28, AV.bool (bif (bif (bif (bif (!x1) then true else (decide ((a1.Size) < (0 : Int)))) then true else (decide ((a1.Size) > (20000 : Int)))) then true else (decide ((a1.Kind) < (0 : Int)))) then true else (decide ((a1.Kind) > (3 : Int)))), none⟩] [.cells 28 (S_Body.cells a1) []] []) ?_ ?_
  · refine Gho.to [⟨0, AV.list 2 (a0.map S_Field.av), none⟩, ⟨3, AV.ptr 0 0, none⟩, ⟨28, AV.bool (bif (bif (bif (bif (!x1) then true else (decide ((a1.Size) < (0 : Int)))) then true else (decide ((a1.Size) > (20000 : Int)))) then true else (decide ((a1.Kind) < (0 : Int)))) then true else (decide ((a1.Kind) > (3 : Int)))), none⟩] [.cells 28 (S_Body.cells a1) []] [] [] ?_ ?_ ?_ rfl rfl ?_
    · exact ⟨⟨rfl, rfl, rfl⟩, trivial⟩
    · exact rfl
    · exact rfl
    · exact ⟨rfl, rfl, trivial, rfl, rfl, trivial, rfl, rfl, trivial, trivial⟩
  refine Br.mk (fun ht => ?_) (fun ht => ?_)
  · replace h := cond_tt h ht
    refine SeqJ.go ?_
    refine SeqN.go ?_
    replace h := Option.some.inj h
    refine RetE.plain ?_
    exact And.intro rfl (And.intro (congrArg (fun r : ((List S_Field) × Int) => AV.tup [AV.list 2 ((r.1).map S_Field.av), AV.int .i64 (r.2)]) h) rfl)
  · replace h := cond_ff h ht
    refine SeqN.go ?_
    refine SeqJ.go ?_
    refine bind_elim h fun x2 hx2 h => ?_
    refine CallH.data _ true rfl (intarsiaref04_Remove_ok E a0 ([99, 111, 110, 116, 101, 110, 116, 45, 108, 101, 110, 103, 116, 104] : Bytes) x2 hx2) ?_
    refine bind_elim h fun x3 hx3 h => ?_
    refine CallH.data _ true rfl (intarsiaref04_Remove_ok E x2 ([116, 114, 97, 110, 115, 102, 101, 114, 45, 101, 110, 99, 111, 100, 105, 110, 103] : Bytes) x3 hx3) ?_
    refine SeqN.go ?_
    refine SeqJ.go ?_
    refine SeqJ.go ?_
    refine SeqN.go ?_
    refine Br.mk (fun ht => ?_) (fun ht => ?_)
    · replace h := cond_tt h ht
      refine SeqJ.go ?_
      refine bind_elim h fun x4 hx4 h => ?_
      refine CallH.data _ false rfl (intarsiaref02_Digits_ok E (IntKind.u64.wrap (a1.Size)) (10 : Int) x4 hx4) ?_
      refine And.intro ⟨rfl, rfl, Nat.le_of_ble_eq_true rfl⟩ ?_
      refine And.intro ⟨rfl, rfl, Nat.le_of_ble_eq_true rfl⟩ ?_
      refine bind_elim h fun x5 hx5 h => ?_
      refine CallH.data _ false rfl (intarsiaref04_Add_ok E x3 (S_Field.mk ([67, 111, 110, 116, 101, 110, 116, 45, 76, 101, 110, 103, 116, 104] : Bytes) x4) x5 hx5) ?_
      refine SeqN.via (St.of [⟨4, AV.list 2 ((x5.1).map S_Field.av), none⟩, ⟨5, AV.int .i64 (x5.2), none⟩] [] []) ?_ ?_
      · refine Gho.to [⟨4, AV.list 2 ((x5.1).map S_Field.av), none⟩, ⟨5, AV.int .i64 (x5.2), none⟩] [] [] [] ?_ ?_ ?_ rfl rfl ?_
        · exact trivial
        · exact rfl
        · exact rfl
        · exact ⟨rfl, rfl, trivial, rfl, rfl, trivial, trivial⟩
      replace h := Option.some.inj h
      refine RetE.plain ?_
      exact And.intro rfl (And.intro (congrArg (fun r : ((List S_Field) × Int) => AV.tup [AV.list 2 ((r.1).map S_Field.av), AV.int .i64 (r.2)]) h) rfl)
    · replace h := cond_ff h ht
      refine SeqN.go ?_
      refine SeqJ.go ?_
      refine SeqJ.go ?_
      refine SeqN.go ?_
      refine Br.mk (fun ht => ?_) (fun ht => ?_)
      · replace h := cond_tt h ht
        refine SeqJ.go ?_
        refine And.intro ⟨rfl, rfl, Nat.le_of_ble_eq_true rfl⟩ ?_
        refine And.intro ⟨rfl, rfl, Nat.le_of_ble_eq_true rfl⟩ ?_
        refine bind_elim h fun x6 hx6 h => ?_
        refine CallH.data _ false rfl (intarsiaref04_Add_ok E x3 (S_Field.mk ([84, 114, 97, 110, 115, 102, 101, 114, 45, 69, 110, 99, 111, 100, 105, 110, 103] : Bytes) ([99, 104, 117, 110, 107, 101, 100] : Bytes)) x6 hx6) ?_
        refine SeqN.via (St.of [⟨4, AV.list 2 ((x6.1).map S_Field.av), none⟩, ⟨5, AV.int .i64 (x6.2), none⟩] [] []) ?_ ?_
        · refine Gho.to [⟨4, AV.list 2 ((x6.1).map S_Field.av), none⟩, ⟨5, AV.int .i64 (x6.2), none⟩] [] [] [] ?_ ?_ ?_ rfl rfl ?_
          · exact trivial
          · exact rfl
          · exact rfl
          · exact ⟨rfl, rfl, trivial, rfl, rfl, trivial, trivial⟩
        replace h := Option.some.inj h
        refine RetE.plain ?_
        exact And.intro rfl (And.intro (congrArg (fun r : ((List S_Field) × Int) => AV.tup [AV.list 2 ((r.1).map S_Field.av), AV.int .i64 (r.2)]) h) rfl)
      · replace h := cond_ff h ht
        refine SeqN.go ?_
        refine SeqJ.go ?_
        refine SeqN.go ?_
        replace h := Option.some.inj h
        refine RetE.plain ?_
        exact And.intro rfl (And.intro (congrArg (fun r : ((List S_Field) × Int) => AV.tup [AV.list 2 ((r.1).map S_Field.av), AV.int .i64 (r.2)]) h) rfl)

theorem intarsiaref04_Like_ok (E : Pm.Env) [LaidE E] (a0 : (List S_Field)) (a1 : (List S_Field)) (r : Bool) (h : intarsiaref04_Like a0 a1 = some r) : FnR E Tryd.prog 23 [AV.list 2 (a0.map S_Field.av), AV.list 2 (a1.map S_Field.av)] (AV.bool r) false := by
  refine FnR.of_ev (T := T) (rows := []) tOk mixed Tryd.func23 rfl (by kernel_rfl) (by kernel_rfl) rfl fun hwf => ?_
  unfold intarsiaref04_Like at h
  refine SeqJ.go ?_
  refine SeqN.go ?_
  refine SeqJ.go ?_
  refine SeqJ.go ?_
  refine NormE.to (AV.int .i64 (a0.length : Int)) (fun _ => len_list S_Field.av a0) ?_
  refine NormE.to (AV.int .i64 (a1.length : Int)) (fun _ => len_list S_Field.av a1) ?_
  refine SeqN.go ?_
  refine Br.mk (fun ht => ?_) (fun ht => ?_)
  · replace h := cond_tt h ht
    refine SeqJ.go ?_
    refine SeqN.go ?_
    replace h := Option.some.inj h
    refine RetE.plain ?_
    exact And.intro rfl (And.intro (congrArg (fun r : Bool => AV.bool r) h) rfl)
  · replace h := cond_ff h ht
    refine SeqN.go ?_
    refine SeqJ.go ?_
    refine SeqJ.go ?_
    refine NormE.to (AV.int .i64 (a0.length : Int)) (fun _ => len_list S_Field.av a0) ?_
    refine SeqN.go ?_
    refine LoopE.img (fun x : Int => St.of [⟨0, AV.list 2 (a0.map S_Field.av), none⟩, ⟨1, AV.list 2 (a1.map S_Field.av), none⟩, ⟨12, AV.int .i64 (a0.length : Int), none⟩, ⟨13, AV.int .i64 x, none⟩] [] []) (intarsiaref04_Like_b1 a0 a1) (0 : Int) h ?_ ?_
    · refine Gho.to [⟨0, AV.list 2 (a0.map S_Field.av), none⟩, ⟨1, AV.list 2 (a1.map S_Field.av), none⟩, ⟨12, AV.int .i64 (a0.length : Int), none⟩, ⟨13, AV.int .i64 (0 : Int), none⟩] [] [] [] ?_ ?_ ?_ rfl rfl ?_
      · exact trivial
      · exact rfl
      · exact rfl
      · exact ⟨rfl, rfl, trivial, rfl, rfl, trivial, rfl, rfl, trivial, rfl, rfl, trivial, trivial⟩
    intro n1 x y1 h hl1 hr1
    revert h; revert x; intro s1 h
    unfold intarsiaref04_Like_b1 at h
    refine SeqJ.go ?_
    refine SeqN.go ?_
    refine SeqJ.go ?_
    refine Br.mk (fun ht => ?_) (fun ht => ?_)
    · replace h := cond_tt h ht
      refine SeqN.go ?_
      refine SeqJ.go ?_
      refine SeqJ.go ?_
      refine SeqN.go ?_
      refine SeqJ.go ?_
      refine bind_elim h fun x2 hx2 h => ?_
      refine And.intro rfl (Exists.intro (S_Field.av x2) (And.intro (fun hg => idx_map _ hx2) ?_))
      refine And.intro (Nat.le_of_ble_eq_true rfl) ?_
      refine NormE.to (S_Field.av x2) (fun _ => rfl) ?_
      refine bind_elim h fun x3 hx3 h => ?_
      refine And.intro rfl (Exists.intro (S_Field.av x3) (And.intro (fun hg => idx_map _ hx3) ?_))
      refine And.intro (Nat.le_of_ble_eq_true rfl) ?_
      refine NormE.to (S_Field.av x3) (fun _ => rfl) ?_
      refine And.intro rfl ?_
      refine And.intro (by kernel_rfl) ?_
      refine SeqN.go ?_
      refine Br.mk (fun ht => ?_) (fun ht => ?_)
      · replace h := cond_tt h ht
        refine SeqJ.go ?_
        refine SeqN.go ?_
        replace h := Option.some.inj h
        replace h := hr1 _ h.symm
        refine RetE.plain ?_
        exact And.intro rfl (And.intro (congrArg (fun r : Bool => AV.bool r) h) rfl)
      · replace h := cond_ff h ht
        refine SeqN.go ?_
        replace h := Option.some.inj h
        refine Exists.intro ⟨(n1, (IntKind.i64.wrap (s1 + (1 : Int)))), hl1 _ h.symm⟩ (And.intro (Nat.lt_succ_self _) ?_)
        refine Gho.to [⟨0, AV.list 2 (a0.map S_Field.av), none⟩, ⟨1, AV.list 2 (a1.map S_Field.av), none⟩, ⟨12, AV.int .i64 (a0.length : Int), none⟩, ⟨13, AV.int .i64 (IntKind.i64.wrap (s1 + (1 : Int))), none⟩] [] [] [] ?_ ?_ ?_ rfl rfl ?_
        · exact trivial
        · exact rfl
        · exact rfl
        · exact ⟨rfl, rfl, trivial, rfl, rfl, trivial, rfl, rfl, trivial, rfl, rfl, trivial, trivial⟩
    · replace h := cond_ff h ht
      refine SeqN.go ?_
      refine SeqJ.go ?_
      refine SeqN.go ?_
      replace h := Option.some.inj h
      replace h := hr1 _ h.symm
      refine RetE.plain ?_
      exact And.intro rfl (And.intro (congrArg (fun r : Bool => AV.bool r) h) rfl)

theorem intarsialaw09_FrameWith_ok (E : Pm.Env) [LaidE E] (a0 : (List S_Field)) (a1 : S_Body) (r : Bool) (h : intarsialaw09_FrameWith a0 a1 = some r) : FnR E Tryd.prog 5 [AV.list 2 (a0.map S_Field.av), S_Body.av a1] (AV.bool r) false := by
  refine FnR.of_ev (T := T) (rows := []) tOk mixed Tryd.func5 rfl (by kernel_rfl) (by kernel_rfl) rfl fun hwf => ?_
  unfold intarsialaw09_FrameWith at h
  refine SeqJ.go ?_
  refine And.intro rfl ?_
  refine SeqN.go ?_
  refine SeqJ.go ?_
  refine bind_elim h fun x1 hx1 h => ?_
  refine CallH.data _ false rfl (intarsialaw09_few_ok E a0 x1 hx1) ?_
  refine SeqN.go ?_
  refine SeqJ.go ?_
  refine And.intro ⟨Nat.le_of_ble_eq_true rfl, Nat.le_of_ble_eq_true rfl⟩ ?_
  refine NormE.to (S_Body.av a1) (fun _ => rfl) ?_
  refine bind_elim h fun x2 hx2 h => ?_
  refine CallH.data _ false rfl (frame_With_ok E x1 a1 x2 hx2) ?_
  refine SeqN.go ?_
  refine SeqJ.go ?_
  refine And.intro ⟨Nat.le_of_ble_eq_true rfl, Nat.le_of_ble_eq_true rfl⟩ ?_
  refine NormE.to (S_Body.av a1) (fun _ => rfl) ?_
  refine bind_elim h fun x3 hx3 h => ?_
  refine CallH.data _ false rfl (intarsiaref09_With_ok E x1 a1 x3 hx3) ?_
  refine SeqN.via (St.of [⟨5, AV.list 2 ((x2.1).map S_Field.av), none⟩, ⟨6, AV.int .i64 (x2.2), none⟩, ⟨7, AV.list 2 ((x3.1).map S_Field.av), none⟩, ⟨8, AV.int .i64 (x3.2), none⟩] [] []) ?_ ?_
  · refine Gho.to [⟨5, AV.list 2 ((x2.1).map S_Field.av), none⟩, ⟨6, AV.int .i64 (x2.2), none⟩, ⟨7, AV.list 2 ((x3.1).map S_Field.av), none⟩, ⟨8, AV.int .i64 (x3.2), none⟩] [] [] [] ?_ ?_ ?_ rfl rfl ?_
    · exact trivial
    · exact rfl
    · exact rfl
    · exact ⟨rfl, rfl, trivial, rfl, rfl, trivial, rfl, rfl, trivial, rfl, rfl, trivial, trivial⟩
  refine SeqJ.go ?_
  refine bind_elim h fun x4 hx4 h => ?_
  refine CallH.data _ false rfl (intarsialaw09_alive_ok E  x4 hx4) ?_
  refine bind_elim h fun x5 hx5 h => ?_
  refine And.intro (fun hg => hg) ?_
  refine And.intro (fun hg => hg) ?_
  refine And.intro rfl ?_
  refine CallF.mk _ false (fun hg => intarsiaref04_Like_ok E (x2.1) (x3.1) x5 (gcall_some hx5 hg)) (And.intro rfl ?_)
  refine And.intro (fun hg => (and_r hg)) ?_
  refine And.intro (fun hg => hg) ?_
  refine And.intro (fun hg => hg) ?_
  refine And.intro (fun hg => (and_r hg)) ?_
  refine SeqN.go ?_
  replace h := Option.some.inj h
  refine RetE.plain ?_
  exact And.intro rfl (And.intro (congrArg (fun r : Bool => AV.bool r) h) rfl)

theorem intarsialaw09_FrameBack_ok (E : Pm.Env) [LaidE E] (a0 : S_Start) (a1 : (List S_Field)) (a2 : S_Body) (r : Bool) (h : intarsialaw09_FrameBack a0 a1 a2 = some r) : FnR E Tryd.prog 6 [S_Start.av a0, AV.list 2 (a1.map S_Field.av), S_Body.av a2] (AV.bool r) false := by
  refine FnR.of_ev (T := T) (rows := []) tOk mixed Tryd.func6 rfl (by kernel_rfl) (by kernel_rfl) rfl fun hwf => ?_
  unfold intarsialaw09_FrameBack at h
  refine SeqJ.go ?_
  refine And.intro rfl ?_
  refine And.intro rfl ?_
  refine SeqN.go ?_
  refine SeqJ.go ?_
  refine And.intro ⟨Nat.le_of_ble_eq_true rfl, Nat.le_of_ble_eq_true rfl⟩ ?_
  refine NormE.to (S_Start.av a0) (fun _ => rfl) ?_
  refine bind_elim h fun x1 hx1 h => ?_
  refine CallH.data _ false rfl (intarsialaw09_small_ok E a0 x1 hx1) ?_
  refine bind_elim h fun x2 hx2 h => ?_
  refine CallH.data _ false rfl (intarsialaw09_few_ok E a1 x2 hx2) ?_
  refine And.intro ⟨rfl, rfl, rfl, Nat.le_of_ble_eq_true rfl⟩ (Exists.intro (S_Start.cells x1) (And.intro (fun _ => rfl) ?_))
  refine SeqN.go ?_
  refine SeqJ.go ?_
  refine And.intro ⟨Nat.le_of_ble_eq_true rfl, Nat.le_of_ble_eq_true rfl⟩ ?_
  refine NormE.to (S_Body.av a2) (fun _ => rfl) ?_
  refine bind_elim h fun x3 hx3 h => ?_
  refine CallH.data _ false rfl (frame_With_ok E x2 a2 x3 hx3) ?_
  refine SeqN.via (St.of [⟨1, AV.list 2 (x2.map S_Field.av), none⟩, ⟨3, AV.ptr 0 0, none⟩, ⟨5, AV.ptr 1 0, none⟩, ⟨7, AV.list 2 ((x3.1).map S_Field.av), none⟩, ⟨8, AV.int .i64 (x3.2), none⟩] [.cells 23 (S_Start.cells x1) [], .cells 28 (S_Body.cells a2) []] []) ?_ ?_
  · refine Gho.to [⟨1, AV.list 2 (x2.map S_Field.av), none⟩, ⟨3, AV.ptr 0 0, none⟩, ⟨5, AV.ptr 1 0, none⟩, ⟨7, AV.list 2 ((x3.1).map S_Field.av), none⟩, ⟨8, AV.int .i64 (x3.2), none⟩] [.cells 23 (S_Start.cells x1) [], .cells 28 (S_Body.cells a2) []] [] [] ?_ ?_ ?_ rfl rfl ?_
    · exact ⟨⟨rfl, rfl, rfl⟩, ⟨⟨rfl, rfl, rfl⟩, trivial⟩⟩
    · exact rfl
    · exact rfl
    · exact ⟨rfl, rfl, trivial, rfl, rfl, trivial, rfl, rfl, trivial, rfl, rfl, trivial, rfl, rfl, trivial, trivial⟩
  refine SeqJ.go ?_
  refine SeqJ.go ?_
  refine SeqN.go ?_
  refine Br.mk (fun ht => ?_) (fun ht => ?_)
  · replace h := cond_tt h ht
    refine SeqJ.go ?_
    refine bind_elim h fun x4 hx4 h => ?_
    refine CallH.data _ false rfl (intarsialaw09_alive_ok E  x4 hx4) ?_
    refine And.intro (fun hg => hg) ?_
    refine NormE.to (AV.int .i64 ((x3.1).length : Int)) (fun _ => len_list S_Field.av (x3.1)) ?_
    refine And.intro (fun hg => hg) ?_
    refine And.intro (fun hg => (and_r hg)) ?_
    refine SeqN.go ?_
    replace h := Option.some.inj h
    refine RetE.plain ?_
    exact And.intro rfl (And.intro (congrArg (fun r : Bool => AV.bool r) h) rfl)
  · replace h := cond_ff h ht
    refine SeqN.go ?_
    refine SeqJ.go ?_
    refine bind_elim h fun x5 hx5 h => ?_
    refine CallH.data _ true rfl (intarsiaref04_Remove_ok E (x3.1) ([99, 111, 110, 116, 101, 110, 116, 45, 108, 101, 110, 103, 116, 104] : Bytes) x5 hx5) ?_
    refine bind_elim h fun x6 hx6 h => ?_
    refine CallH.data _ true rfl (intarsiaref04_Remove_ok E x5 ([116, 114, 97, 110, 115, 102, 101, 114, 45, 101, 110, 99, 111, 100, 105, 110, 103] : Bytes) x6 hx6) ?_
    refine SeqN.go ?_
    refine SeqJ.go ?_
    refine SeqJ.go ?_
    refine bind_elim h fun x7 hx7 h => ?_
    refine CallH.data _ true rfl (intarsiaref04_Remove_ok E x2 ([99, 111, 110, 116, 101, 110, 116, 45, 108, 101, 110, 103, 116, 104] : Bytes) x7 hx7) ?_
    refine bind_elim h fun x8 hx8 h => ?_
    refine CallH.data _ true rfl (intarsiaref04_Remove_ok E x7 ([116, 114, 97, 110, 115, 102, 101, 114, 45, 101, 110, 99, 111, 100, 105, 110, 103] : Bytes) x8 hx8) ?_
    refine bind_elim h fun x9 hx9 h => ?_
    refine CallH.data _ false rfl (intarsiaref04_Like_ok E x6 x8 x9 hx9) ?_
    refine bind_elim h fun x10 hx10 h => ?_
    refine And.intro rfl ?_
    refine CallF.mk _ false (fun hg => intarsialaw09_alive_ok E  x10 (gcall_some hx10 hg)) (And.intro rfl ?_)
    refine And.intro (fun hg => hg) ?_
    refine And.intro (fun hg => (and_r hg)) ?_
    refine SeqN.via (St.of [⟨3, AV.ptr 0 0, none⟩, ⟨5, AV.ptr 1 0, none⟩, ⟨7, AV.list 2 ((x3.1).map S_Field.av), none⟩, ⟨45, AV.bool (bif (!x9) then true else (!x10)), none⟩] [.cells 23 (S_Start.cells x1) [], .cells 28 (S_Body.cells a2) []] []) ?_ ?_
    · refine Gho.to [⟨3, AV.ptr 0 0, none⟩, ⟨5, AV.ptr 1 0, none⟩, ⟨7, AV.list 2 ((x3.1).map S_Field.av), none⟩, ⟨45, AV.bool (bif (!x9) then true else (!x10)), none⟩] [.cells 23 (S_Start.cells x1) [], .cells 28 (S_Body.cells a2) []] [] [] ?_ ?_ ?_ rfl rfl ?_
      · exact ⟨⟨rfl, rfl, rfl⟩, ⟨⟨rfl, rfl, rfl⟩, trivial⟩⟩
      · exact rfl
      · exact rfl
      · exact ⟨rfl, rfl, trivial, rfl, rfl, trivial, rfl, rfl, trivial, rfl, rfl, trivial, trivial⟩
    refine Br.mk (fun ht => ?_) (fun ht => ?_)
    · replace h := cond_tt h ht
      refine SeqJ.go ?_
      refine SeqN.go ?_
      replace h := Option.some.inj h
      refine RetE.plain ?_
      exact And.intro rfl (And.intro (congrArg (fun r : Bool => AV.bool r) h) rfl)
    · replace h := cond_ff h ht
      refine SeqN.go ?_
      refine SeqJ.go ?_
      refine SeqJ.go ?_
      refine And.intro ⟨Nat.le_of_ble_eq_true rfl, Nat.le_of_ble_eq_true rfl⟩ ?_
      refine NormE.to (S_Start.av x1) (fun _ => rfl) ?_
      refine bind_elim h fun x11 hx11 h => ?_
      refine CallH.data _ false rfl (intarsiaref06_Right_ok E x1 x11 hx11) ?_
      refine And.intro (fun hg => hg) ?_
      refine And.intro (fun hg => hg) ?_
      refine And.intro (fun hg => hg) ?_
      refine And.intro (fun hg => hg) ?_
      refine And.intro (fun hg => hg) ?_
      refine And.intro (fun hg => hg) ?_
      refine And.intro (fun hg => hg) ?_
      refine And.intro (fun hg => (and_r hg)) ?_
      refine SeqN.go ?_
      refine Br.mk (fun ht => ?_) (fun ht => ?_)
      · replace h := cond_tt h ht
        refine SeqJ.go ?_
        refine SeqN.go ?_
        replace h := Option.some.inj h
        refine RetE.plain ?_
        exact And.intro rfl (And.intro (congrArg (fun r : Bool => AV.bool r) h) rfl)
      · replace h := cond_ff h ht
        refine SeqN.go ?_
        refine SeqJ.go ?_
        refine And.intro ⟨rfl, rfl, Nat.le_of_ble_eq_true rfl⟩ ?_
        refine And.intro rfl ?_
        refine And.intro ⟨rfl, rfl, rfl, Nat.le_of_ble_eq_true rfl⟩ (Exists.intro [AV.int .i64 (a2.Kind), AV.int .i64 (0 : Int)] (And.intro (fun _ => rfl) ?_))
        refine SeqN.via (St.of [⟨3, AV.ptr 0 0, none⟩, ⟨5, AV.ptr 1 0, none⟩, ⟨7, AV.list 2 ((x3.1).map S_Field.av), none⟩, ⟨10, AV.ptr 2 0, none⟩] [.cells 23 (S_Start.cells x1) [], .cells 28 (S_Body.cells a2) [], .cells 28 [AV.int .i64 (a2.Kind), AV.int .i64 (0 : Int)] []] []) ?_ ?_
        · refine Gho.to [⟨3, AV.ptr 0 0, none⟩, ⟨5, AV.ptr 1 0, none⟩, ⟨7, AV.list 2 ((x3.1).map S_Field.av), none⟩, ⟨10, AV.ptr 2 0, none⟩] [.cells 23 (S_Start.cells x1) [], .cells 28 (S_Body.cells a2) [], .cells 28 [AV.int .i64 (a2.Kind), AV.int .i64 (0 : Int)] []] [] [] ?_ ?_ ?_ rfl rfl ?_
          · exact ⟨⟨rfl, rfl, rfl⟩, ⟨⟨rfl, rfl, rfl⟩, ⟨⟨rfl, rfl, rfl⟩, trivial⟩⟩⟩
          · exact rfl
          · exact rfl
          · exact ⟨rfl, rfl, trivial, rfl, rfl, trivial, rfl, rfl, trivial, rfl, rfl, trivial, trivial⟩
        refine SeqJ.go ?_
        refine SeqJ.go ?_
        refine SeqN.go ?_
        refine Br.mk (fun ht => ?_) (fun ht => ?_)
        · replace h := cond_tt h ht
          refine And.intro ⟨Nat.le_of_ble_eq_true rfl, Nat.le_of_ble_eq_true rfl⟩ ?_
          refine NormE.to (S_Body.av a2) (fun _ => rfl) ?_
          refine And.intro ⟨rfl, rfl, rfl, Nat.le_of_ble_eq_true rfl⟩ (Exists.intro (S_Body.cells a2) (And.intro (fun _ => rfl) ?_))
          refine SeqN.go ?_
          refine SeqJ.go ?_
          refine SeqJ.go ?_
          refine SeqN.go ?_
          refine Br.mk (fun ht => ?_) (fun ht => ?_)
          · replace h := cond_tt h ht
            refine SeqJ.go ?_
            refine SeqJ.go ?_
            refine SeqN.go ?_
            refine Br.mk (fun ht => ?_) (fun ht => ?_)
            · replace h := cond_tt h ht
              refine And.intro ⟨rfl, rfl, rfl, Nat.le_of_ble_eq_true rfl⟩ (Exists.intro [AV.int .i64 (0 : Int), AV.int .i64 (0 : Int)] (And.intro (fun _ => rfl) ?_))
              refine SeqN.go ?_
              refine SeqJ.go ?_
              refine And.intro ⟨Nat.le_of_ble_eq_true rfl, Nat.le_of_ble_eq_true rfl⟩ ?_
              refine NormE.to (S_Start.av x1) (fun _ => rfl) ?_
              refine bind_elim h fun x12 hx12 h => ?_
              refine CallH.data _ false rfl (frame_Request_ok E x1 (x3.1) x12 hx12) ?_
              refine And.intro rfl ?_
              refine And.intro ⟨rfl, rfl, rfl, Nat.le_of_ble_eq_true rfl⟩ (Exists.intro (S_Body.cells (x12.1)) (And.intro (fun _ => rfl) ?_))
              refine SeqN.via (St.of [⟨10, AV.ptr 2 0, none⟩, ⟨11, AV.ptr 3 0, none⟩, ⟨12, AV.int .i64 (x12.2), none⟩] [.dead, .dead, .cells 28 [AV.int .i64 (0 : Int), AV.int .i64 (0 : Int)] [], .cells 28 (S_Body.cells (x12.1)) []] []) ?_ ?_
              · refine Gho.to [⟨10, AV.ptr 2 0, none⟩, ⟨11, AV.ptr 3 0, none⟩, ⟨12, AV.int .i64 (x12.2), none⟩] [.dead, .dead, .cells 28 [AV.int .i64 (0 : Int), AV.int .i64 (0 : Int)] [], .cells 28 (S_Body.cells (x12.1)) []] [] [] ?_ ?_ ?_ rfl rfl ?_
                · exact ⟨trivial, ⟨trivial, ⟨⟨rfl, rfl, rfl⟩, ⟨⟨rfl, rfl, rfl⟩, trivial⟩⟩⟩⟩
                · exact rfl
                · exact rfl
                · exact ⟨rfl, rfl, trivial, rfl, rfl, trivial, rfl, rfl, trivial, trivial⟩
              refine SeqJ.go ?_
              refine And.intro ⟨Nat.le_of_ble_eq_true rfl, Nat.le_of_ble_eq_true rfl⟩ ?_
              refine NormE.to (S_Body.av (x12.1)) (fun _ => rfl) ?_
              refine And.intro ⟨Nat.le_of_ble_eq_true rfl, Nat.le_of_ble_eq_true rfl⟩ ?_
              refine NormE.to (AV.agg [AV.int .i64 (0 : Int), AV.int .i64 (0 : Int)]) (fun _ => rfl) ?_
              refine And.intro (fun hg => hg) ?_
              refine And.intro (fun hg => hg) ?_
              refine And.intro rfl ?_
              refine And.intro (fun hg => (and_r hg)) ?_
              refine SeqN.go ?_
              replace h := Option.some.inj h
              refine RetE.plain ?_
              exact And.intro rfl (And.intro (congrArg (fun r : Bool => AV.bool r) h) rfl)
            · replace h := cond_ff h ht
              refine SeqN.go ?_
              refine SeqJ.go ?_
              refine And.intro ⟨Nat.le_of_ble_eq_true rfl, Nat.le_of_ble_eq_true rfl⟩ ?_
              refine NormE.to (S_Start.av x1) (fun _ => rfl) ?_
              refine bind_elim h fun x13 hx13 h => ?_
              refine CallH.data _ false rfl (frame_Request_ok E x1 (x3.1) x13 hx13) ?_
              refine And.intro rfl ?_
              refine And.intro ⟨rfl, rfl, rfl, Nat.le_of_ble_eq_true rfl⟩ (Exists.intro (S_Body.cells (x13.1)) (And.intro (fun _ => rfl) ?_))
              refine SeqN.via (St.of [⟨10, AV.ptr 2 0, none⟩, ⟨11, AV.ptr 3 0, none⟩, ⟨12, AV.int .i64 (x13.2), none⟩] [.dead, .dead, .cells 28 (S_Body.cells a2) [], .cells 28 (S_Body.cells (x13.1)) []] []) ?_ ?_
              · refine Gho.to [⟨10, AV.ptr 2 0, none⟩, ⟨11, AV.ptr 3 0, none⟩, ⟨12, AV.int .i64 (x13.2), none⟩] [.dead, .dead, .cells 28 (S_Body.cells a2) [], .cells 28 (S_Body.cells (x13.1)) []] [] [] ?_ ?_ ?_ rfl rfl ?_
                · exact ⟨trivial, ⟨trivial, ⟨⟨rfl, rfl, rfl⟩, ⟨⟨rfl, rfl, rfl⟩, trivial⟩⟩⟩⟩
                · exact rfl
                · exact rfl
                · exact ⟨rfl, rfl, trivial, rfl, rfl, trivial, rfl, rfl, trivial, trivial⟩
              refine SeqJ.go ?_
              refine And.intro ⟨Nat.le_of_ble_eq_true rfl, Nat.le_of_ble_eq_true rfl⟩ ?_
              refine NormE.to (S_Body.av (x13.1)) (fun _ => rfl) ?_
              refine And.intro ⟨Nat.le_of_ble_eq_true rfl, Nat.le_of_ble_eq_true rfl⟩ ?_
              refine NormE.to (S_Body.av a2) (fun _ => rfl) ?_
              refine And.intro (fun hg => hg) ?_
              refine And.intro (fun hg => hg) ?_
              refine And.intro rfl ?_
              refine And.intro (fun hg => (and_r hg)) ?_
              refine SeqN.go ?_
              replace h := Option.some.inj h
              refine RetE.plain ?_
              exact And.intro rfl (And.intro (congrArg (fun r : Bool => AV.bool r) h) rfl)
          · replace h := cond_ff h ht
            refine SeqN.go ?_
            refine SeqJ.go ?_
            refine And.intro ⟨Nat.le_of_ble_eq_true rfl, Nat.le_of_ble_eq_true rfl⟩ ?_
            refine NormE.to (S_Start.av x1) (fun _ => rfl) ?_
            refine bind_elim h fun x14 hx14 h => ?_
            refine CallH.data _ false rfl (frame_Answer_ok E x1 (x3.1) ([71, 69, 84] : Bytes) x14 hx14) ?_
            refine And.intro rfl ?_
            refine And.intro ⟨rfl, rfl, rfl, Nat.le_of_ble_eq_true rfl⟩ (Exists.intro (S_Body.cells (x14.1)) (And.intro (fun _ => rfl) ?_))
            refine SeqN.via (St.of [⟨3, AV.ptr 0 0, none⟩, ⟨5, AV.ptr 1 0, none⟩, ⟨10, AV.ptr 2 0, none⟩, ⟨13, AV.ptr 3 0, none⟩, ⟨14, AV.int .i64 (x14.2), none⟩] [.cells 23 (S_Start.cells x1) [], .cells 28 (S_Body.cells a2) [], .cells 28 (S_Body.cells a2) [], .cells 28 (S_Body.cells (x14.1)) []] []) ?_ ?_
            · refine Gho.to [⟨3, AV.ptr 0 0, none⟩, ⟨5, AV.ptr 1 0, none⟩, ⟨10, AV.ptr 2 0, none⟩, ⟨13, AV.ptr 3 0, none⟩, ⟨14, AV.int .i64 (x14.2), none⟩] [.cells 23 (S_Start.cells x1) [], .cells 28 (S_Body.cells a2) [], .cells 28 (S_Body.cells a2) [], .cells 28 (S_Body.cells (x14.1)) []] [] [] ?_ ?_ ?_ rfl rfl ?_
              · exact ⟨⟨rfl, rfl, rfl⟩, ⟨⟨rfl, rfl, rfl⟩, ⟨⟨rfl, rfl, rfl⟩, ⟨⟨rfl, rfl, rfl⟩, trivial⟩⟩⟩⟩
              · exact rfl
              · exact rfl
              · exact ⟨rfl, rfl, trivial, rfl, rfl, trivial, rfl, rfl, trivial, rfl, rfl, trivial, rfl, rfl, trivial, trivial⟩
            refine SeqJ.go ?_
            refine SeqJ.go ?_
            refine And.intro (fun hg => hg) ?_
            refine And.intro (fun hg => hg) ?_
            refine And.intro (fun hg => (and_r hg)) ?_
            refine And.intro (fun hg => hg) ?_
            refine And.intro (fun hg => hg) ?_
            refine And.intro (fun hg => (and_r hg)) ?_
            refine SeqN.go ?_
            refine Br.mk (fun ht => ?_) (fun ht => ?_)
            · replace h := cond_tt h ht
              refine SeqJ.go ?_
              refine And.intro ⟨Nat.le_of_ble_eq_true rfl, Nat.le_of_ble_eq_true rfl⟩ ?_
              refine NormE.to (S_Body.av (x14.1)) (fun _ => rfl) ?_
              refine And.intro (fun hg => hg) ?_
              refine And.intro (fun hg => hg) ?_
              refine And.intro rfl ?_
              refine And.intro (fun hg => (and_r hg)) ?_
              refine SeqN.via (St.of [⟨6, AV.bool (bif ((x14.2) == (0 : Int)) then ((((x14.1).Kind) == (0 : Int)) && ((((x14.1).Size) == (0 : Int)) && true)) else false), none⟩] [] []) ?_ ?_
              · refine Gho.to [⟨6, AV.bool (bif ((x14.2) == (0 : Int)) then ((((x14.1).Kind) == (0 : Int)) && ((((x14.1).Size) == (0 : Int)) && true)) else false), none⟩] [] [] [] ?_ ?_ ?_ rfl rfl ?_
                · exact trivial
                · exact rfl
                · exact rfl
                · exact ⟨rfl, rfl, trivial, trivial⟩
              replace h := Option.some.inj h
              refine RetE.plain ?_
              exact And.intro rfl (And.intro (congrArg (fun r : Bool => AV.bool r) h) rfl)
            · replace h := cond_ff h ht
              refine SeqN.go ?_
              refine SeqJ.go ?_
              refine SeqJ.go ?_
              refine SeqN.via (St.of [⟨10, AV.ptr 2 0, none⟩, ⟨13, AV.ptr 3 0, none⟩, ⟨14, AV.int .i64 (x14.2), none⟩, ⟨114, AV.bool ((a2.Kind) == (0 : Int)), none⟩] [.dead, .dead, .cells 28 (S_Body.cells a2) [], .cells 28 (S_Body.cells (x14.1)) []] []) ?_ ?_
              · refine Gho.to [⟨10, AV.ptr 2 0, none⟩, ⟨13, AV.ptr 3 0, none⟩, ⟨14, AV.int .i64 (x14.2), none⟩, ⟨114, AV.bool ((a2.Kind) == (0 : Int)), none⟩] [.dead, .dead, .cells 28 (S_Body.cells a2) [], .cells 28 (S_Body.cells (x14.1)) []] [] [] ?_ ?_ ?_ rfl rfl ?_
                · exact ⟨trivial, ⟨trivial, ⟨⟨rfl, rfl, rfl⟩, ⟨⟨rfl, rfl, rfl⟩, trivial⟩⟩⟩⟩
                · exact rfl
                · exact rfl
                · exact ⟨rfl, rfl, trivial, rfl, rfl, trivial, rfl, rfl, trivial, rfl, rfl, trivial, trivial⟩
              refine Br.mk (fun ht => ?_) (fun ht => ?_)
              · replace h := cond_tt h ht
                refine And.intro ⟨rfl, rfl, Nat.le_of_ble_eq_true rfl⟩ ?_
                refine And.intro ⟨rfl, rfl, rfl, Nat.le_of_ble_eq_true rfl⟩ (Exists.intro [AV.int .i64 (3 : Int), AV.int .i64 (0 : Int)] (And.intro (fun _ => rfl) ?_))
                refine SeqN.go ?_
                refine SeqJ.go ?_
                refine And.intro ⟨Nat.le_of_ble_eq_true rfl, Nat.le_of_ble_eq_true rfl⟩ ?_
                refine NormE.to (S_Body.av (x14.1)) (fun _ => rfl) ?_
                refine And.intro ⟨Nat.le_of_ble_eq_true rfl, Nat.le_of_ble_eq_true rfl⟩ ?_
                refine NormE.to (AV.agg [AV.int .i64 (3 : Int), AV.int .i64 (0 : Int)]) (fun _ => rfl) ?_
                refine And.intro (fun hg => hg) ?_
                refine And.intro (fun hg => hg) ?_
                refine And.intro rfl ?_
                refine And.intro (fun hg => (and_r hg)) ?_
                refine SeqN.go ?_
                replace h := Option.some.inj h
                refine RetE.plain ?_
                exact And.intro rfl (And.intro (congrArg (fun r : Bool => AV.bool r) h) rfl)
              · replace h := cond_ff h ht
                refine SeqN.go ?_
                refine SeqJ.go ?_
                refine And.intro ⟨Nat.le_of_ble_eq_true rfl, Nat.le_of_ble_eq_true rfl⟩ ?_
                refine NormE.to (S_Body.av (x14.1)) (fun _ => rfl) ?_
                refine And.intro ⟨Nat.le_of_ble_eq_true rfl, Nat.le_of_ble_eq_true rfl⟩ ?_
                refine NormE.to (S_Body.av a2) (fun _ => rfl) ?_
                refine And.intro (fun hg => hg) ?_
                refine And.intro (fun hg => hg) ?_
                refine And.intro rfl ?_
                refine And.intro (fun hg => (and_r hg)) ?_
                refine SeqN.go ?_
                replace h := Option.some.inj h
                refine RetE.plain ?_
                exact And.intro rfl (And.intro (congrArg (fun r : Bool => AV.bool r) h) rfl)
        · replace h := cond_ff h ht
          refine SeqN.go ?_
          refine SeqJ.go ?_
          refine SeqJ.go ?_
          refine SeqN.go ?_
          refine Br.mk (fun ht => ?_) (fun ht => ?_)
          · replace h := cond_tt h ht
            refine SeqJ.go ?_
            refine SeqJ.go ?_
            refine SeqN.go ?_
            refine Br.mk (fun ht => ?_) (fun ht => ?_)
            · replace h := cond_tt h ht
              refine And.intro ⟨rfl, rfl, rfl, Nat.le_of_ble_eq_true rfl⟩ (Exists.intro [AV.int .i64 (0 : Int), AV.int .i64 (0 : Int)] (And.intro (fun _ => rfl) ?_))
              refine SeqN.go ?_
              refine SeqJ.go ?_
              refine And.intro ⟨Nat.le_of_ble_eq_true rfl, Nat.le_of_ble_eq_true rfl⟩ ?_
              refine NormE.to (S_Start.av x1) (fun _ => rfl) ?_
              refine bind_elim h fun x15 hx15 h => ?_
              refine CallH.data _ false rfl (frame_Request_ok E x1 (x3.1) x15 hx15) ?_
              refine And.intro rfl ?_
              refine And.intro ⟨rfl, rfl, rfl, Nat.le_of_ble_eq_true rfl⟩ (Exists.intro (S_Body.cells (x15.1)) (And.intro (fun _ => rfl) ?_))
              refine SeqN.via (St.of [⟨10, AV.ptr 2 0, none⟩, ⟨11, AV.ptr 3 0, none⟩, ⟨12, AV.int .i64 (x15.2), none⟩] [.dead, .dead, .cells 28 [AV.int .i64 (0 : Int), AV.int .i64 (0 : Int)] [], .cells 28 (S_Body.cells (x15.1)) []] []) ?_ ?_
              · refine Gho.to [⟨10, AV.ptr 2 0, none⟩, ⟨11, AV.ptr 3 0, none⟩, ⟨12, AV.int .i64 (x15.2), none⟩] [.dead, .dead, .cells 28 [AV.int .i64 (0 : Int), AV.int .i64 (0 : Int)] [], .cells 28 (S_Body.cells (x15.1)) []] [] [] ?_ ?_ ?_ rfl rfl ?_
                · exact ⟨trivial, ⟨trivial, ⟨⟨rfl, rfl, rfl⟩, ⟨⟨rfl, rfl, rfl⟩, trivial⟩⟩⟩⟩
                · exact rfl
                · exact rfl
                · exact ⟨rfl, rfl, trivial, rfl, rfl, trivial, rfl, rfl, trivial, trivial⟩
              refine SeqJ.go ?_
              refine And.intro ⟨Nat.le_of_ble_eq_true rfl, Nat.le_of_ble_eq_true rfl⟩ ?_
              refine NormE.to (S_Body.av (x15.1)) (fun _ => rfl) ?_
              refine And.intro ⟨Nat.le_of_ble_eq_true rfl, Nat.le_of_ble_eq_true rfl⟩ ?_
              refine NormE.to (AV.agg [AV.int .i64 (0 : Int), AV.int .i64 (0 : Int)]) (fun _ => rfl) ?_
              refine And.intro (fun hg => hg) ?_
              refine And.intro (fun hg => hg) ?_
              refine And.intro rfl ?_
              refine And.intro (fun hg => (and_r hg)) ?_
              refine SeqN.go ?_
              replace h := Option.some.inj h
              refine RetE.plain ?_
              exact And.intro rfl (And.intro (congrArg (fun r : Bool => AV.bool r) h) rfl)
            · replace h := cond_ff h ht
              refine SeqN.go ?_
              refine SeqJ.go ?_
              refine And.intro ⟨Nat.le_of_ble_eq_true rfl, Nat.le_of_ble_eq_true rfl⟩ ?_
              refine NormE.to (S_Start.av x1) (fun _ => rfl) ?_
              refine bind_elim h fun x16 hx16 h => ?_
              refine CallH.data _ false rfl (frame_Request_ok E x1 (x3.1) x16 hx16) ?_
              refine And.intro rfl ?_
              refine And.intro ⟨rfl, rfl, rfl, Nat.le_of_ble_eq_true rfl⟩ (Exists.intro (S_Body.cells (x16.1)) (And.intro (fun _ => rfl) ?_))
              refine SeqN.via (St.of [⟨10, AV.ptr 2 0, none⟩, ⟨11, AV.ptr 3 0, none⟩, ⟨12, AV.int .i64 (x16.2), none⟩] [.dead, .dead, .cells 28 [AV.int .i64 (a2.Kind), AV.int .i64 (0 : Int)] [], .cells 28 (S_Body.cells (x16.1)) []] []) ?_ ?_
              · refine Gho.to [⟨10, AV.ptr 2 0, none⟩, ⟨11, AV.ptr 3 0, none⟩, ⟨12, AV.int .i64 (x16.2), none⟩] [.dead, .dead, .cells 28 [AV.int .i64 (a2.Kind), AV.int .i64 (0 : Int)] [], .cells 28 (S_Body.cells (x16.1)) []] [] [] ?_ ?_ ?_ rfl rfl ?_
                · exact ⟨trivial, ⟨trivial, ⟨⟨rfl, rfl, rfl⟩, ⟨⟨rfl, rfl, rfl⟩, trivial⟩⟩⟩⟩
                · exact rfl
                · exact rfl
                · exact ⟨rfl, rfl, trivial, rfl, rfl, trivial, rfl, rfl, trivial, trivial⟩
              refine SeqJ.go ?_
              refine And.intro ⟨Nat.le_of_ble_eq_true rfl, Nat.le_of_ble_eq_true rfl⟩ ?_
              refine NormE.to (S_Body.av (x16.1)) (fun _ => rfl) ?_
              refine And.intro ⟨Nat.le_of_ble_eq_true rfl, Nat.le_of_ble_eq_true rfl⟩ ?_
              refine NormE.to (AV.agg [AV.int .i64 (a2.Kind), AV.int .i64 (0 : Int)]) (fun _ => rfl) ?_
              refine And.intro (fun hg => hg) ?_
              refine And.intro (fun hg => hg) ?_
              refine And.intro rfl ?_
              refine And.intro (fun hg => (and_r hg)) ?_
              refine SeqN.go ?_
              replace h := Option.some.inj h
              refine RetE.plain ?_
              exact And.intro rfl (And.intro (congrArg (fun r : Bool => AV.bool r) h) rfl)
          · replace h := cond_ff h ht
            refine SeqN.go ?_
            refine SeqJ.go ?_
            refine And.intro ⟨Nat.le_of_ble_eq_true rfl, Nat.le_of_ble_eq_true rfl⟩ ?_
            refine NormE.to (S_Start.av x1) (fun _ => rfl) ?_
            refine bind_elim h fun x17 hx17 h => ?_
            refine CallH.data _ false rfl (frame_Answer_ok E x1 (x3.1) ([71, 69, 84] : Bytes) x17 hx17) ?_
            refine And.intro rfl ?_
            refine And.intro ⟨rfl, rfl, rfl, Nat.le_of_ble_eq_true rfl⟩ (Exists.intro (S_Body.cells (x17.1)) (And.intro (fun _ => rfl) ?_))
            refine SeqN.go ?_
            refine SeqJ.go ?_
            refine SeqJ.go ?_
            refine And.intro (fun hg => hg) ?_
            refine And.intro (fun hg => hg) ?_
            refine And.intro (fun hg => (and_r hg)) ?_
            refine And.intro (fun hg => hg) ?_
            refine And.intro (fun hg => hg) ?_
            refine And.intro (fun hg => (and_r hg)) ?_
            refine SeqN.via (St.of [⟨5, AV.ptr 1 0, none⟩, ⟨10, AV.ptr 2 0, none⟩, ⟨13, AV.ptr 3 0, none⟩, ⟨14, AV.int .i64 (x17.2), none⟩, ⟨104, AV.bool (bif (bif (decide ((x1.Code) < (200 : Int))) then true else ((x1.Code) == (204 : Int))) then true else ((x1.Code) == (304 : Int))), none⟩] [.dead, .cells 28 (S_Body.cells a2) [], .cells 28 [AV.int .i64 (a2.Kind), AV.int .i64 (0 : Int)] [], .cells 28 (S_Body.cells (x17.1)) []] []) ?_ ?_
            · refine Gho.to [⟨5, AV.ptr 1 0, none⟩, ⟨10, AV.ptr 2 0, none⟩, ⟨13, AV.ptr 3 0, none⟩, ⟨14, AV.int .i64 (x17.2), none⟩, ⟨104, AV.bool (bif (bif (decide ((x1.Code) < (200 : Int))) then true else ((x1.Code) == (204 : Int))) then true else ((x1.Code) == (304 : Int))), none⟩] [.dead, .cells 28 (S_Body.cells a2) [], .cells 28 [AV.int .i64 (a2.Kind), AV.int .i64 (0 : Int)] [], .cells 28 (S_Body.cells (x17.1)) []] [] [] ?_ ?_ ?_ rfl rfl ?_
              · exact ⟨trivial, ⟨⟨rfl, rfl, rfl⟩, ⟨⟨rfl, rfl, rfl⟩, ⟨⟨rfl, rfl, rfl⟩, trivial⟩⟩⟩⟩
              · exact rfl
              · exact rfl
              · exact ⟨rfl, rfl, trivial, rfl, rfl, trivial, rfl, rfl, trivial, rfl, rfl, trivial, rfl, rfl, trivial, trivial⟩
            refine Br.mk (fun ht => ?_) (fun ht => ?_)
            · replace h := cond_tt h ht
              refine SeqJ.go ?_
              refine And.intro ⟨Nat.le_of_ble_eq_true rfl, Nat.le_of_ble_eq_true rfl⟩ ?_
              refine NormE.to (S_Body.av (x17.1)) (fun _ => rfl) ?_
              refine And.intro (fun hg => hg) ?_
              refine And.intro (fun hg => hg) ?_
              refine And.intro rfl ?_
              refine And.intro (fun hg => (and_r hg)) ?_
              refine SeqN.go ?_
              replace h := Option.some.inj h
              refine RetE.plain ?_
              exact And.intro rfl (And.intro (congrArg (fun r : Bool => AV.bool r) h) rfl)
            · replace h := cond_ff h ht
              refine SeqN.go ?_
              refine SeqJ.go ?_
              refine SeqJ.go ?_
              refine SeqN.go ?_
              refine Br.mk (fun ht => ?_) (fun ht => ?_)
              · replace h := cond_tt h ht
                refine And.intro ⟨rfl, rfl, Nat.le_of_ble_eq_true rfl⟩ ?_
                refine And.intro ⟨rfl, rfl, rfl, Nat.le_of_ble_eq_true rfl⟩ (Exists.intro [AV.int .i64 (3 : Int), AV.int .i64 (0 : Int)] (And.intro (fun _ => rfl) ?_))
                refine SeqN.go ?_
                refine SeqJ.go ?_
                refine And.intro ⟨Nat.le_of_ble_eq_true rfl, Nat.le_of_ble_eq_true rfl⟩ ?_
                refine NormE.to (S_Body.av (x17.1)) (fun _ => rfl) ?_
                refine And.intro ⟨Nat.le_of_ble_eq_true rfl, Nat.le_of_ble_eq_true rfl⟩ ?_
                refine NormE.to (AV.agg [AV.int .i64 (3 : Int), AV.int .i64 (0 : Int)]) (fun _ => rfl) ?_
                refine And.intro (fun hg => hg) ?_
                refine And.intro (fun hg => hg) ?_
                refine And.intro rfl ?_
                refine And.intro (fun hg => (and_r hg)) ?_
                refine SeqN.go ?_
                replace h := Option.some.inj h
                refine RetE.plain ?_
                exact And.intro rfl (And.intro (congrArg (fun r : Bool => AV.bool r) h) rfl)
              · replace h := cond_ff h ht
                refine SeqN.go ?_
                refine SeqJ.go ?_
                refine And.intro ⟨Nat.le_of_ble_eq_true rfl, Nat.le_of_ble_eq_true rfl⟩ ?_
                refine NormE.to (S_Body.av (x17.1)) (fun _ => rfl) ?_
                refine And.intro ⟨Nat.le_of_ble_eq_true rfl, Nat.le_of_ble_eq_true rfl⟩ ?_
                refine NormE.to (AV.agg [AV.int .i64 (a2.Kind), AV.int .i64 (0 : Int)]) (fun _ => rfl) ?_
                refine And.intro (fun hg => hg) ?_
                refine And.intro (fun hg => hg) ?_
                refine And.intro rfl ?_
                refine And.intro (fun hg => (and_r hg)) ?_
                refine SeqN.go ?_
                replace h := Option.some.inj h
                refine RetE.plain ?_
                exact And.intro rfl (And.intro (congrArg (fun r : Bool => AV.bool r) h) rfl)

theorem intarsialaw06_few_ok (E : Pm.Env) [LaidE E] (a0 : S_Start) (r : S_Start) (h : intarsialaw06_few a0 = some r) : FnR E Tryd.prog 24 [S_Start.av a0] (S_Start.av r) false := by
  refine FnR.of_ev (T := T) (rows := []) tOk mixed Tryd.func24 rfl (by kernel_rfl) (by kernel_rfl) rfl fun hwf => ?_
  unfold intarsialaw06_few at h
  refine SeqJ.go ?_
  refine And.intro rfl ?_
  refine And.intro rfl ?_
  refine SeqN.go ?_
  refine SeqJ.go ?_
  refine NormE.same ?_
  refine And.intro rfl ?_
  refine bind_elim h fun x1 hx1 h => ?_
  have qx1 := (slc_some hx1).1
  have hx1e := (slc_some hx1).2
  refine And.intro (fun _ => qx1) ?_
  refine NormE.to (AV.str x1) (fun _ => congrArg AV.str hx1e.symm) ?_
  refine NormE.same ?_
  refine And.intro rfl ?_
  refine bind_elim h fun x2 hx2 h => ?_
  have qx2 := (slc_some hx2).1
  have hx2e := (slc_some hx2).2
  refine And.intro (fun _ => qx2) ?_
  refine NormE.to (AV.str x2) (fun _ => congrArg AV.str hx2e.symm) ?_
  refine NormE.same ?_
  refine And.intro rfl ?_
  refine bind_elim h fun x3 hx3 h => ?_
  have qx3 := (slc_some hx3).1
  have hx3e := (slc_some hx3).2
  refine And.intro (fun _ => qx3) ?_
  refine NormE.to (AV.str x3) (fun _ => congrArg AV.str hx3e.symm) ?_
  refine And.intro ⟨rfl, rfl, rfl, Nat.le_of_ble_eq_true rfl⟩ (Exists.intro [AV.str x1, AV.str (a0.Target), AV.int .i64 (a0.Code), AV.str (a0.Reason), AV.int .i64 (a0.Minor)] (And.intro (fun _ => rfl) ?_))
  refine And.intro ⟨rfl, rfl, rfl, Nat.le_of_ble_eq_true rfl⟩ (Exists.intro [AV.str x1, AV.str x2, AV.int .i64 (a0.Code), AV.str (a0.Reason), AV.int .i64 (a0.Minor)] (And.intro (fun _ => rfl) ?_))
  refine And.intro ⟨rfl, rfl, rfl, Nat.le_of_ble_eq_true rfl⟩ (Exists.intro [AV.str x1, AV.str x2, AV.int .i64 (a0.Code), AV.str x3, AV.int .i64 (a0.Minor)] (And.intro (fun _ => rfl) ?_))
  refine And.intro (by kernel_rfl) ?_
  refine SeqN.via (St.of [⟨1, AV.ptr 0 0, none⟩, ⟨2, AV.ptr 1 0, none⟩] [.cells 23 [AV.str x1, AV.str x2, AV.int .i64 (a0.Code), AV.str x3, AV.int .i64 (a0.Minor)] [], .cells 23 [AV.str ([] : Bytes), AV.str ([] : Bytes), AV.int .i64 (0 : Int), AV.str ([] : Bytes), AV.int .i64 (0 : Int)] []] []) ?_ ?_
  · refine Gho.to [⟨1, AV.ptr 0 0, none⟩, ⟨2, AV.ptr 1 0, none⟩] [.cells 23 [AV.str x1, AV.str x2, AV.int .i64 (a0.Code), AV.str x3, AV.int .i64 (a0.Minor)] [], .cells 23 [AV.str ([] : Bytes), AV.str ([] : Bytes), AV.int .i64 (0 : Int), AV.str ([] : Bytes), AV.int .i64 (0 : Int)] []] [] [] ?_ ?_ ?_ rfl rfl ?_
    · exact ⟨⟨rfl, rfl, rfl⟩, ⟨⟨rfl, rfl, rfl⟩, trivial⟩⟩
    · exact rfl
    · exact rfl
    · exact ⟨rfl, rfl, trivial, rfl, rfl, trivial, trivial⟩
  refine SeqJ.go ?_
  refine And.intro ⟨Nat.le_of_ble_eq_true rfl, Nat.le_of_ble_eq_true rfl⟩ ?_
  refine NormE.to (AV.agg [AV.str x1, AV.str x2, AV.int .i64 (a0.Code), AV.str x3, AV.int .i64 (a0.Minor)]) (fun _ => rfl) ?_
  refine And.intro ⟨rfl, rfl, rfl, Nat.le_of_ble_eq_true rfl⟩ (Exists.intro [AV.str x1, AV.str x2, AV.int .i64 (a0.Code), AV.str x3, AV.int .i64 (a0.Minor)] (And.intro (fun _ => rfl) ?_))
  refine SeqN.go ?_
  replace h := Option.some.inj h
  refine RetE.plain ?_
  refine And.intro ⟨Nat.le_of_ble_eq_true rfl, Nat.le_of_ble_eq_true rfl⟩ (Exists.intro (AV.agg [AV.str x1, AV.str x2, AV.int .i64 (a0.Code), AV.str x3, AV.int .i64 (a0.Minor)]) (And.intro rfl ?_))
  exact And.intro rfl (And.intro (congrArg (fun r : S_Start => S_Start.av r) h) rfl)

theorem start_Print_ok (E : Pm.Env) [LaidE E] (a0 : S_Start) (r : (Bytes × Int)) (h : start_Print a0 = some r) : FnR E Tryd.prog 25 [S_Start.av a0] (AV.tup [AV.str (r.1), AV.int .i64 (r.2)]) false := by
  refine FnR.of_ev (T := T) (rows := []) tOk mixed Tryd.func25 rfl (by kernel_rfl) (by kernel_rfl) rfl fun hwf => ?_
  unfold start_Print at h
  refine SeqJ.go ?_
  refine And.intro rfl ?_
  refine SeqN.go ?_
  refine SeqJ.go ?_
  refine SeqJ.go ?_
  refine And.intro ⟨Nat.le_of_ble_eq_true rfl, Nat.le_of_ble_eq_true rfl⟩ ?_
  refine NormE.to (S_Start.av a0) (fun _ => rfl) ?_
  refine bind_elim h fun x1 hx1 h => ?_
  refine CallH.data _ false rfl (start_Right_ok E a0 x1 hx1) ?_
  refine SeqN.go ?_
  refine Br.mk (fun ht => ?_) (fun ht => ?_)
  · replace h := cond_tt h ht
    refine SeqJ.go ?_
    refine SeqN.go ?_
    replace h := Option.some.inj h
    refine RetE.plain ?_
    exact And.intro rfl (And.intro (congrArg (fun r : (Bytes × Int) => AV.tup [AV.str (r.1), AV.int .i64 (r.2)]) h) rfl)
  · replace h := cond_ff h ht
    refine SeqN.go ?_
    refine SeqJ.go ?_
    refine bind_elim h fun x2 hx2 h => ?_
    refine CallH.data _ false rfl (number_Dec_ok E (IntKind.u64.wrap (a0.Minor)) x2 hx2) ?_
    refine bind_elim h fun x3 hx3 h => ?_
    have hx3c := (cat_some hx3).1
    have hx3e := (cat_some hx3).2
    refine And.intro (fun _ => hx3c) ?_
    refine NormE.to (AV.str x3) (fun _ => congrArg AV.str hx3e.symm) ?_
    refine SeqN.go ?_
    refine SeqJ.go ?_
    refine SeqJ.go ?_
    refine SeqN.go ?_
    refine Br.mk (fun ht => ?_) (fun ht => ?_)
    · replace h := cond_tt h ht
      refine SeqJ.go ?_
      refine And.intro ⟨rfl, rfl, rfl, rfl⟩ ?_
      refine And.intro ⟨rfl, rfl, rfl, rfl⟩ ?_
      refine And.intro ⟨rfl, rfl, rfl, rfl⟩ ?_
      refine And.intro ⟨rfl, rfl, rfl⟩ ?_
      refine NormE.to (AV.list 1 (([(a0.Method), (a0.Target), x3] : List Bytes).map AV.str)) (fun _ => rfl) ?_
      refine bind_elim h fun x4 hx4 h => ?_
      refine CallH.data _ false rfl (strings_Join_ok E ([(a0.Method), (a0.Target), x3] : List Bytes) ([32] : Bytes) x4 hx4) ?_
      refine SeqN.via (St.of [⟨2, AV.str x4, none⟩, ⟨3, AV.int .i64 (0 : Int), none⟩] [] []) ?_ ?_
      · refine Gho.to [⟨2, AV.str x4, none⟩, ⟨3, AV.int .i64 (0 : Int), none⟩] [] [] [] ?_ ?_ ?_ rfl rfl ?_
        · exact trivial
        · exact rfl
        · exact rfl
        · exact ⟨rfl, rfl, trivial, rfl, rfl, trivial, trivial⟩
      replace h := Option.some.inj h
      refine RetE.plain ?_
      exact And.intro rfl (And.intro (congrArg (fun r : (Bytes × Int) => AV.tup [AV.str (r.1), AV.int .i64 (r.2)]) h) rfl)
    · replace h := cond_ff h ht
      refine SeqN.go ?_
      refine SeqJ.go ?_
      refine bind_elim h fun x5 hx5 h => ?_
      refine CallH.data _ false rfl (number_Dec_ok E (IntKind.u64.wrap (a0.Code)) x5 hx5) ?_
      refine And.intro ⟨rfl, rfl, rfl, rfl⟩ ?_
      refine And.intro ⟨rfl, rfl, rfl, rfl⟩ ?_
      refine And.intro ⟨rfl, rfl, rfl, rfl⟩ ?_
      refine And.intro ⟨rfl, rfl, rfl⟩ ?_
      refine NormE.to (AV.list 1 (([x3, x5, (a0.Reason)] : List Bytes).map AV.str)) (fun _ => rfl) ?_
      refine bind_elim h fun x6 hx6 h => ?_
      refine CallH.data _ false rfl (strings_Join_ok E ([x3, x5, (a0.Reason)] : List Bytes) ([32] : Bytes) x6 hx6) ?_
      refine And.intro (by kernel_rfl) ?_
      refine SeqN.via (St.of [⟨2, AV.str x6, none⟩, ⟨3, AV.int .i64 (0 : Int), none⟩] [] []) ?_ ?_
      · refine Gho.to [⟨2, AV.str x6, none⟩, ⟨3, AV.int .i64 (0 : Int), none⟩] [] [] [] ?_ ?_ ?_ rfl rfl ?_
        · exact trivial
        · exact rfl
        · exact rfl
        · exact ⟨rfl, rfl, trivial, rfl, rfl, trivial, trivial⟩
      replace h := Option.some.inj h
      refine RetE.plain ?_
      exact And.intro rfl (And.intro (congrArg (fun r : (Bytes × Int) => AV.tup [AV.str (r.1), AV.int .i64 (r.2)]) h) rfl)

theorem start_minor_ok (E : Pm.Env) [LaidE E] (a0 : Bytes) (r : Int) (h : start_minor a0 = some r) : FnR E Tryd.prog 50 [AV.str a0] (AV.int .i64 r) false := by
  refine FnR.of_ev (T := T) (rows := []) tOk mixed Tryd.func50 rfl (by kernel_rfl) (by kernel_rfl) rfl fun hwf => ?_
  unfold start_minor at h
  refine SeqJ.go ?_
  refine SeqN.go ?_
  refine SeqJ.go ?_
  refine SeqJ.go ?_
  refine SeqN.go ?_
  refine SeqJ.go ?_
  refine SeqN.go ?_
  refine Br.mk (fun ht => ?_) (fun ht => ?_)
  · replace h := cond_tt h ht
    refine SeqJ.go ?_
    refine SeqN.go ?_
    replace h := Option.some.inj h
    refine RetE.plain ?_
    exact And.intro rfl (And.intro (congrArg (fun r : Int => AV.int .i64 r) h) rfl)
  · replace h := cond_ff h ht
    refine SeqJ.go ?_
    refine SeqN.go ?_
    refine Br.mk (fun ht => ?_) (fun ht => ?_)
    · replace h := cond_tt h ht
      refine SeqJ.go ?_
      refine SeqN.go ?_
      replace h := Option.some.inj h
      refine RetE.plain ?_
      exact And.intro rfl (And.intro (congrArg (fun r : Int => AV.int .i64 r) h) rfl)
    · replace h := cond_ff h ht
      refine SeqN.go ?_
      refine SeqJ.go ?_
      refine SeqN.go ?_
      replace h := Option.some.inj h
      refine RetE.plain ?_
      exact And.intro rfl (And.intro (congrArg (fun r : Int => AV.int .i64 r) h) rfl)

theorem start_Parse_ok (E : Pm.Env) [LaidE E] (a0 : Bytes) (r : (S_Start × Int)) (h : start_Parse a0 = some r) : FnR E Tryd.prog 26 [AV.str a0] (AV.tup [S_Start.av (r.1), AV.int .i64 (r.2)]) false := by
  refine FnR.of_ev (T := T) (rows := []) tOk mixed Tryd.func26 rfl (by kernel_rfl) (by kernel_rfl) rfl fun hwf => ?_
  unfold start_Parse at h
  refine SeqJ.go ?_
  refine And.intro rfl ?_
  refine SeqN.go ?_
  refine SeqJ.go ?_
  refine bind_elim h fun x1 hx1 h => ?_
  refine CallH.data _ false rfl (strings_Split_ok E a0 ([32] : Bytes) x1 hx1) ?_
  refine SeqN.go ?_
  refine SeqJ.go ?_
  refine SeqJ.go ?_
  refine NormE.to (AV.int .i64 (x1.length : Int)) (fun _ => len_list AV.str x1) ?_
  refine SeqN.go ?_
  refine Br.mk (fun ht => ?_) (fun ht => ?_)
  · replace h := cond_tt h ht
    refine SeqJ.go ?_
    refine And.intro ⟨rfl, rfl, rfl, Nat.le_of_ble_eq_true rfl⟩ (Exists.intro [AV.str ([] : Bytes), AV.str ([] : Bytes), AV.int .i64 (0 : Int), AV.str ([] : Bytes), AV.int .i64 (0 : Int)] (And.intro (fun _ => rfl) ?_))
    refine SeqN.go ?_
    replace h := Option.some.inj h
    refine RetE.plain ?_
    refine And.intro ⟨Nat.le_of_ble_eq_true rfl, Nat.le_of_ble_eq_true rfl⟩ (Exists.intro (AV.agg [AV.str ([] : Bytes), AV.str ([] : Bytes), AV.int .i64 (0 : Int), AV.str ([] : Bytes), AV.int .i64 (0 : Int)]) (And.intro rfl ?_))
    exact And.intro rfl (And.intro (congrArg (fun r : (S_Start × Int) => AV.tup [S_Start.av (r.1), AV.int .i64 (r.2)]) h) rfl)
  · replace h := cond_ff h ht
    refine SeqN.go ?_
    refine SeqJ.go ?_
    refine bind_elim h fun x2 hx2 h => ?_
    refine And.intro rfl (Exists.intro (AV.str x2) (And.intro (fun hg => idx_map _ hx2) ?_))
    refine bind_elim h fun x3 hx3 h => ?_
    refine And.intro rfl (Exists.intro (AV.str x3) (And.intro (fun hg => idx_map _ hx3) ?_))
    refine bind_elim h fun x4 hx4 h => ?_
    refine And.intro rfl (Exists.intro (AV.str x4) (And.intro (fun hg => idx_map _ hx4) ?_))
    refine bind_elim h fun x5 hx5 h => ?_
    refine CallH.data _ false rfl (start_minor_ok E x4 x5 hx5) ?_
    refine And.intro ⟨rfl, rfl, Nat.le_of_ble_eq_true rfl⟩ ?_
    refine And.intro ⟨rfl, rfl, Nat.le_of_ble_eq_true rfl⟩ ?_
    refine And.intro ⟨rfl, rfl, Nat.le_of_ble_eq_true rfl⟩ ?_
    refine And.intro rfl ?_
    refine And.intro ⟨rfl, rfl, rfl, Nat.le_of_ble_eq_true rfl⟩ (Exists.intro [AV.str x2, AV.str x3, AV.int .i64 (0 : Int), AV.str ([] : Bytes), AV.int .i64 x5] (And.intro (fun _ => rfl) ?_))
    refine And.intro (by kernel_rfl) ?_
    refine SeqN.via (St.of [⟨2, AV.ptr 0 0, none⟩, ⟨5, AV.ptr 1 0, none⟩] [.cells 23 [AV.str ([] : Bytes), AV.str ([] : Bytes), AV.int .i64 (0 : Int), AV.str ([] : Bytes), AV.int .i64 (0 : Int)] [], .cells 23 [AV.str x2, AV.str x3, AV.int .i64 (0 : Int), AV.str ([] : Bytes), AV.int .i64 x5] []] []) ?_ ?_
    · refine Gho.to [⟨2, AV.ptr 0 0, none⟩, ⟨5, AV.ptr 1 0, none⟩] [.cells 23 [AV.str ([] : Bytes), AV.str ([] : Bytes), AV.int .i64 (0 : Int), AV.str ([] : Bytes), AV.int .i64 (0 : Int)] [], .cells 23 [AV.str x2, AV.str x3, AV.int .i64 (0 : Int), AV.str ([] : Bytes), AV.int .i64 x5] []] [] [] ?_ ?_ ?_ rfl rfl ?_
      · exact ⟨⟨rfl, rfl, rfl⟩, ⟨⟨rfl, rfl, rfl⟩, trivial⟩⟩
      · exact rfl
      · exact rfl
      · exact ⟨rfl, rfl, trivial, rfl, rfl, trivial, trivial⟩
    refine SeqJ.go ?_
    refine SeqJ.go ?_
    refine And.intro ⟨Nat.le_of_ble_eq_true rfl, Nat.le_of_ble_eq_true rfl⟩ ?_
    refine NormE.to (AV.agg [AV.str x2, AV.str x3, AV.int .i64 (0 : Int), AV.str ([] : Bytes), AV.int .i64 x5]) (fun _ => rfl) ?_
    refine bind_elim h fun x6 hx6 h => ?_
    refine CallH.data _ false rfl (start_Right_ok E (S_Start.mk x2 x3 (0 : Int) ([] : Bytes) x5) x6 hx6) ?_
    refine SeqN.go ?_
    refine Br.mk (fun ht => ?_) (fun ht => ?_)
    · replace h := cond_tt h ht
      refine SeqJ.go ?_
      refine And.intro ⟨rfl, rfl, rfl, Nat.le_of_ble_eq_true rfl⟩ (Exists.intro [AV.str ([] : Bytes), AV.str ([] : Bytes), AV.int .i64 (0 : Int), AV.str ([] : Bytes), AV.int .i64 (0 : Int)] (And.intro (fun _ => rfl) ?_))
      refine SeqN.go ?_
      replace h := Option.some.inj h
      refine RetE.plain ?_
      refine And.intro ⟨Nat.le_of_ble_eq_true rfl, Nat.le_of_ble_eq_true rfl⟩ (Exists.intro (AV.agg [AV.str ([] : Bytes), AV.str ([] : Bytes), AV.int .i64 (0 : Int), AV.str ([] : Bytes), AV.int .i64 (0 : Int)]) (And.intro rfl ?_))
      exact And.intro rfl (And.intro (congrArg (fun r : (S_Start × Int) => AV.tup [S_Start.av (r.1), AV.int .i64 (r.2)]) h) rfl)
    · replace h := cond_ff h ht
      refine SeqN.go ?_
      refine SeqJ.go ?_
      refine And.intro ⟨Nat.le_of_ble_eq_true rfl, Nat.le_of_ble_eq_true rfl⟩ ?_
      refine NormE.to (AV.agg [AV.str x2, AV.str x3, AV.int .i64 (0 : Int), AV.str ([] : Bytes), AV.int .i64 x5]) (fun _ => rfl) ?_
      refine And.intro ⟨rfl, rfl, rfl, Nat.le_of_ble_eq_true rfl⟩ (Exists.intro [AV.str x2, AV.str x3, AV.int .i64 (0 : Int), AV.str ([] : Bytes), AV.int .i64 x5] (And.intro (fun _ => rfl) ?_))
      refine SeqN.go ?_
      replace h := Option.some.inj h
      refine RetE.plain ?_
      refine And.intro ⟨Nat.le_of_ble_eq_true rfl, Nat.le_of_ble_eq_true rfl⟩ (Exists.intro (AV.agg [AV.str x2, AV.str x3, AV.int .i64 (0 : Int), AV.str ([] : Bytes), AV.int .i64 x5]) (And.intro rfl ?_))
      exact And.intro rfl (And.intro (congrArg (fun r : (S_Start × Int) => AV.tup [S_Start.av (r.1), AV.int .i64 (r.2)]) h) rfl)

theorem start_Status_ok (E : Pm.Env) [LaidE E] (a0 : Bytes) (r : (S_Start × Int)) (h : start_Status a0 = some r) : FnR E Tryd.prog 27 [AV.str a0] (AV.tup [S_Start.av (r.1), AV.int .i64 (r.2)]) false := by
  refine FnR.of_ev (T := T) (rows := []) tOk mixed Tryd.func27 rfl (by kernel_rfl) (by kernel_rfl) rfl fun hwf => ?_
  unfold start_Status at h
  refine SeqJ.go ?_
  refine And.intro rfl ?_
  refine SeqN.go ?_
  refine SeqJ.go ?_
  refine bind_elim h fun x1 hx1 h => ?_
  refine CallH.data _ false rfl (strings_SplitN_ok E a0 ([32] : Bytes) (3 : Int) x1 hx1) ?_
  refine SeqN.go ?_
  refine SeqJ.go ?_
  refine SeqJ.go ?_
  refine NormE.to (AV.int .i64 (x1.length : Int)) (fun _ => len_list AV.str x1) ?_
  refine bind_elim h fun x2 hx2 h => ?_
  refine And.intro (fun hg => hg) ?_
  refine And.intro rfl (Exists.intro (AV.str x2) (And.intro (fun hg => gidx_map _ hx2 hg) ?_))
  refine And.intro (fun hg => hg) ?_
  refine And.intro (fun hg => hg) ?_
  refine NormE.same ?_
  refine And.intro (fun hg => hg) ?_
  refine And.intro (fun hg => (and_r hg)) ?_
  refine SeqN.go ?_
  refine Br.mk (fun ht => ?_) (fun ht => ?_)
  · replace h := cond_tt h ht
    refine SeqJ.go ?_
    refine And.intro ⟨rfl, rfl, rfl, Nat.le_of_ble_eq_true rfl⟩ (Exists.intro [AV.str ([] : Bytes), AV.str ([] : Bytes), AV.int .i64 (0 : Int), AV.str ([] : Bytes), AV.int .i64 (0 : Int)] (And.intro (fun _ => rfl) ?_))
    refine SeqN.via (St.of [⟨2, AV.ptr 0 0, none⟩, ⟨3, AV.int .i64 (30 : Int), none⟩] [.cells 23 [AV.str ([] : Bytes), AV.str ([] : Bytes), AV.int .i64 (0 : Int), AV.str ([] : Bytes), AV.int .i64 (0 : Int)] []] []) ?_ ?_
    · refine Gho.to [⟨2, AV.ptr 0 0, none⟩, ⟨3, AV.int .i64 (30 : Int), none⟩] [.cells 23 [AV.str ([] : Bytes), AV.str ([] : Bytes), AV.int .i64 (0 : Int), AV.str ([] : Bytes), AV.int .i64 (0 : Int)] []] [] [] ?_ ?_ ?_ rfl rfl ?_
      · exact ⟨⟨rfl, rfl, rfl⟩, trivial⟩
      · exact rfl
      · exact rfl
      · exact ⟨rfl, rfl, trivial, rfl, rfl, trivial, trivial⟩
    replace h := Option.some.inj h
    refine RetE.plain ?_
    refine And.intro ⟨Nat.le_of_ble_eq_true rfl, Nat.le_of_ble_eq_true rfl⟩ (Exists.intro (AV.agg [AV.str ([] : Bytes), AV.str ([] : Bytes), AV.int .i64 (0 : Int), AV.str ([] : Bytes), AV.int .i64 (0 : Int)]) (And.intro rfl ?_))
    exact And.intro rfl (And.intro (congrArg (fun r : (S_Start × Int) => AV.tup [S_Start.av (r.1), AV.int .i64 (r.2)]) h) rfl)
  · replace h := cond_ff h ht
    refine SeqN.go ?_
    refine SeqJ.go ?_
    refine bind_elim h fun x3 hx3 h => ?_
    refine And.intro rfl (Exists.intro (AV.str x3) (And.intro (fun hg => idx_map _ hx3) ?_))
    refine bind_elim h fun x4 hx4 h => ?_
    refine CallH.data _ false rfl (number_ReadDec_ok E x3 x4 hx4) ?_
    refine SeqN.via (St.of [⟨2, AV.ptr 0 0, none⟩, ⟨4, AV.list 1 (x1.map AV.str), none⟩, ⟨5, AV.int .u64 (x4.1), none⟩, ⟨6, AV.int .i64 (x4.2), none⟩] [.cells 23 [AV.str ([] : Bytes), AV.str ([] : Bytes), AV.int .i64 (0 : Int), AV.str ([] : Bytes), AV.int .i64 (0 : Int)] []] []) ?_ ?_
    · refine Gho.to [⟨2, AV.ptr 0 0, none⟩, ⟨4, AV.list 1 (x1.map AV.str), none⟩, ⟨5, AV.int .u64 (x4.1), none⟩, ⟨6, AV.int .i64 (x4.2), none⟩] [.cells 23 [AV.str ([] : Bytes), AV.str ([] : Bytes), AV.int .i64 (0 : Int), AV.str ([] : Bytes), AV.int .i64 (0 : Int)] []] [] [] ?_ ?_ ?_ rfl rfl ?_
      · exact ⟨⟨rfl, rfl, rfl⟩, trivial⟩
      · exact rfl
      · exact rfl
      · exact ⟨rfl, rfl, trivial, rfl, rfl, trivial, rfl, rfl, trivial, rfl, rfl, trivial, trivial⟩
    refine SeqJ.go ?_
    refine bind_elim h fun x5 hx5 h => ?_
    refine And.intro rfl (Exists.intro (AV.str x5) (And.intro (fun hg => idx_map _ hx5) ?_))
    refine bind_elim h fun x6 hx6 h => ?_
    refine CallH.data _ false rfl (start_minor_ok E x5 x6 hx6) ?_
    refine And.intro ⟨rfl, rfl, Nat.le_of_ble_eq_true rfl⟩ ?_
    refine And.intro ⟨rfl, rfl, Nat.le_of_ble_eq_true rfl⟩ ?_
    refine And.intro rfl ?_
    refine And.intro ⟨rfl, rfl, rfl, Nat.le_of_ble_eq_true rfl⟩ (Exists.intro [AV.str ([] : Bytes), AV.str ([] : Bytes), AV.int .i64 (IntKind.i64.wrap (x4.1)), AV.str ([] : Bytes), AV.int .i64 x6] (And.intro (fun _ => rfl) ?_))
    refine SeqN.go ?_
    refine SeqJ.go ?_
    refine SeqJ.go ?_
    refine NormE.to (AV.int .i64 (x1.length : Int)) (fun _ => len_list AV.str x1) ?_
    refine SeqN.go ?_
    refine Br.mk (fun ht => ?_) (fun ht => ?_)
    · replace h := cond_tt h ht
      refine bind_elim h fun x7 hx7 h => ?_
      refine And.intro rfl (Exists.intro (AV.str x7) (And.intro (fun hg => idx_map _ hx7) ?_))
      refine And.intro ⟨rfl, rfl, rfl, Nat.le_of_ble_eq_true rfl⟩ (Exists.intro [AV.str ([] : Bytes), AV.str ([] : Bytes), AV.int .i64 (IntKind.i64.wrap (x4.1)), AV.str x7, AV.int .i64 x6] (And.intro (fun _ => rfl) ?_))
      refine SeqN.via (St.of [⟨2, AV.ptr 0 0, none⟩, ⟨5, AV.int .u64 (x4.1), none⟩, ⟨6, AV.int .i64 (x4.2), none⟩, ⟨7, AV.ptr 1 0, none⟩] [.cells 23 [AV.str ([] : Bytes), AV.str ([] : Bytes), AV.int .i64 (0 : Int), AV.str ([] : Bytes), AV.int .i64 (0 : Int)] [], .cells 23 [AV.str ([] : Bytes), AV.str ([] : Bytes), AV.int .i64 (IntKind.i64.wrap (x4.1)), AV.str x7, AV.int .i64 x6] []] []) ?_ ?_
      · refine Gho.to [⟨2, AV.ptr 0 0, none⟩, ⟨5, AV.int .u64 (x4.1), none⟩, ⟨6, AV.int .i64 (x4.2), none⟩, ⟨7, AV.ptr 1 0, none⟩] [.cells 23 [AV.str ([] : Bytes), AV.str ([] : Bytes), AV.int .i64 (0 : Int), AV.str ([] : Bytes), AV.int .i64 (0 : Int)] [], .cells 23 [AV.str ([] : Bytes), AV.str ([] : Bytes), AV.int .i64 (IntKind.i64.wrap (x4.1)), AV.str x7, AV.int .i64 x6] []] [] [] ?_ ?_ ?_ rfl rfl ?_
        · exact ⟨⟨rfl, rfl, rfl⟩, ⟨⟨rfl, rfl, rfl⟩, trivial⟩⟩
        · exact rfl
        · exact rfl
        · exact ⟨rfl, rfl, trivial, rfl, rfl, trivial, rfl, rfl, trivial, rfl, rfl, trivial, trivial⟩
      refine SeqJ.go ?_
      refine SeqJ.go ?_
      refine And.intro (fun hg => hg) ?_
      refine And.intro (fun hg => (and_r hg)) ?_
      refine And.intro ⟨Nat.le_of_ble_eq_true rfl, Nat.le_of_ble_eq_true rfl⟩ ?_
      refine NormE.to (AV.agg [AV.str ([] : Bytes), AV.str ([] : Bytes), AV.int .i64 (IntKind.i64.wrap (x4.1)), AV.str x7, AV.int .i64 x6]) (fun _ => rfl) ?_
      refine bind_elim h fun x8 hx8 h => ?_
      refine And.intro (fun hg => hg) ?_
      refine And.intro rfl ?_
      refine CallF.mk _ false (fun hg => start_Right_ok E (S_Start.mk ([] : Bytes) ([] : Bytes) (IntKind.i64.wrap (x4.1)) x7 x6) x8 (gcall_some hx8 hg)) (And.intro rfl ?_)
      refine And.intro (fun hg => hg) ?_
      refine And.intro (fun hg => (and_r hg)) ?_
      refine SeqN.go ?_
      refine Br.mk (fun ht => ?_) (fun ht => ?_)
      · replace h := cond_tt h ht
        refine SeqJ.go ?_
        refine And.intro ⟨rfl, rfl, rfl, Nat.le_of_ble_eq_true rfl⟩ (Exists.intro [AV.str ([] : Bytes), AV.str ([] : Bytes), AV.int .i64 (0 : Int), AV.str ([] : Bytes), AV.int .i64 (0 : Int)] (And.intro (fun _ => rfl) ?_))
        refine SeqN.go ?_
        replace h := Option.some.inj h
        refine RetE.plain ?_
        refine And.intro ⟨Nat.le_of_ble_eq_true rfl, Nat.le_of_ble_eq_true rfl⟩ (Exists.intro (AV.agg [AV.str ([] : Bytes), AV.str ([] : Bytes), AV.int .i64 (0 : Int), AV.str ([] : Bytes), AV.int .i64 (0 : Int)]) (And.intro rfl ?_))
        exact And.intro rfl (And.intro (congrArg (fun r : (S_Start × Int) => AV.tup [S_Start.av (r.1), AV.int .i64 (r.2)]) h) rfl)
      · replace h := cond_ff h ht
        refine SeqN.go ?_
        refine SeqJ.go ?_
        refine And.intro ⟨Nat.le_of_ble_eq_true rfl, Nat.le_of_ble_eq_true rfl⟩ ?_
        refine NormE.to (AV.agg [AV.str ([] : Bytes), AV.str ([] : Bytes), AV.int .i64 (IntKind.i64.wrap (x4.1)), AV.str x7, AV.int .i64 x6]) (fun _ => rfl) ?_
        refine And.intro ⟨rfl, rfl, rfl, Nat.le_of_ble_eq_true rfl⟩ (Exists.intro [AV.str ([] : Bytes), AV.str ([] : Bytes), AV.int .i64 (IntKind.i64.wrap (x4.1)), AV.str x7, AV.int .i64 x6] (And.intro (fun _ => rfl) ?_))
        refine SeqN.go ?_
        replace h := Option.some.inj h
        refine RetE.plain ?_
        refine And.intro ⟨Nat.le_of_ble_eq_true rfl, Nat.le_of_ble_eq_true rfl⟩ (Exists.intro (AV.agg [AV.str ([] : Bytes), AV.str ([] : Bytes), AV.int .i64 (IntKind.i64.wrap (x4.1)), AV.str x7, AV.int .i64 x6]) (And.intro rfl ?_))
        exact And.intro rfl (And.intro (congrArg (fun r : (S_Start × Int) => AV.tup [S_Start.av (r.1), AV.int .i64 (r.2)]) h) rfl)
    · replace h := cond_ff h ht
      refine SeqN.go ?_
      refine SeqJ.go ?_
      refine SeqJ.go ?_
      refine And.intro (fun hg => hg) ?_
      refine And.intro (fun hg => (and_r hg)) ?_
      refine And.intro ⟨Nat.le_of_ble_eq_true rfl, Nat.le_of_ble_eq_true rfl⟩ ?_
      refine NormE.to (AV.agg [AV.str ([] : Bytes), AV.str ([] : Bytes), AV.int .i64 (IntKind.i64.wrap (x4.1)), AV.str ([] : Bytes), AV.int .i64 x6]) (fun _ => rfl) ?_
      refine bind_elim h fun x9 hx9 h => ?_
      refine And.intro (fun hg => hg) ?_
      refine And.intro rfl ?_
      refine CallF.mk _ false (fun hg => start_Right_ok E (S_Start.mk ([] : Bytes) ([] : Bytes) (IntKind.i64.wrap (x4.1)) ([] : Bytes) x6) x9 (gcall_some hx9 hg)) (And.intro rfl ?_)
      refine And.intro (fun hg => hg) ?_
      refine And.intro (fun hg => (and_r hg)) ?_
      refine SeqN.via (St.of [⟨2, AV.ptr 0 0, none⟩, ⟨7, AV.ptr 1 0, none⟩, ⟨52, AV.bool (bif (bif ((x4.2) != (0 : Int)) then true else ((x4.1) == (0 : Int))) then true else (!x9)), none⟩] [.cells 23 [AV.str ([] : Bytes), AV.str ([] : Bytes), AV.int .i64 (0 : Int), AV.str ([] : Bytes), AV.int .i64 (0 : Int)] [], .cells 23 [AV.str ([] : Bytes), AV.str ([] : Bytes), AV.int .i64 (IntKind.i64.wrap (x4.1)), AV.str ([] : Bytes), AV.int .i64 x6] []] []) ?_ ?_
      · refine Gho.to [⟨2, AV.ptr 0 0, none⟩, ⟨7, AV.ptr 1 0, none⟩, ⟨52, AV.bool (bif (bif ((x4.2) != (0 : Int)) then true else ((x4.1) == (0 : Int))) then true else (!x9)), none⟩] [.cells 23 [AV.str ([] : Bytes), AV.str ([] : Bytes), AV.int .i64 (0 : Int), AV.str ([] : Bytes), AV.int .i64 (0 : Int)] [], .cells 23 [AV.str ([] : Bytes), AV.str ([] : Bytes), AV.int .i64 (IntKind.i64.wrap (x4.1)), AV.str ([] : Bytes), AV.int .i64 x6] []] [] [] ?_ ?_ ?_ rfl rfl ?_
        · exact ⟨⟨rfl, rfl, rfl⟩, ⟨⟨rfl, rfl, rfl⟩, trivial⟩⟩
        · exact rfl
        · exact rfl
        · exact ⟨rfl, rfl, trivial, rfl, rfl, trivial, rfl, rfl, trivial, trivial⟩
      refine Br.mk (fun ht => ?_) (fun ht => ?_)
      · replace h := cond_tt h ht
        refine SeqJ.go ?_
        refine And.intro ⟨rfl, rfl, rfl, Nat.le_of_ble_eq_true rfl⟩ (Exists.intro [AV.str ([] : Bytes), AV.str ([] : Bytes), AV.int .i64 (0 : Int), AV.str ([] : Bytes), AV.int .i64 (0 : Int)] (And.intro (fun _ => rfl) ?_))
        refine SeqN.go ?_
        replace h := Option.some.inj h
        refine RetE.plain ?_
        refine And.intro ⟨Nat.le_of_ble_eq_true rfl, Nat.le_of_ble_eq_true rfl⟩ (Exists.intro (AV.agg [AV.str ([] : Bytes), AV.str ([] : Bytes), AV.int .i64 (0 : Int), AV.str ([] : Bytes), AV.int .i64 (0 : Int)]) (And.intro rfl ?_))
        exact And.intro rfl (And.intro (congrArg (fun r : (S_Start × Int) => AV.tup [S_Start.av (r.1), AV.int .i64 (r.2)]) h) rfl)
      · replace h := cond_ff h ht
        refine SeqN.go ?_
        refine SeqJ.go ?_
        refine And.intro ⟨Nat.le_of_ble_eq_true rfl, Nat.le_of_ble_eq_true rfl⟩ ?_
        refine NormE.to (AV.agg [AV.str ([] : Bytes), AV.str ([] : Bytes), AV.int .i64 (IntKind.i64.wrap (x4.1)), AV.str ([] : Bytes), AV.int .i64 x6]) (fun _ => rfl) ?_
        refine And.intro ⟨rfl, rfl, rfl, Nat.le_of_ble_eq_true rfl⟩ (Exists.intro [AV.str ([] : Bytes), AV.str ([] : Bytes), AV.int .i64 (IntKind.i64.wrap (x4.1)), AV.str ([] : Bytes), AV.int .i64 x6] (And.intro (fun _ => rfl) ?_))
        refine SeqN.go ?_
        replace h := Option.some.inj h
        refine RetE.plain ?_
        refine And.intro ⟨Nat.le_of_ble_eq_true rfl, Nat.le_of_ble_eq_true rfl⟩ (Exists.intro (AV.agg [AV.str ([] : Bytes), AV.str ([] : Bytes), AV.int .i64 (IntKind.i64.wrap (x4.1)), AV.str ([] : Bytes), AV.int .i64 x6]) (And.intro rfl ?_))
        exact And.intro rfl (And.intro (congrArg (fun r : (S_Start × Int) => AV.tup [S_Start.av (r.1), AV.int .i64 (r.2)]) h) rfl)

theorem disp_50_ok (E : Pm.Env) [LaidE E] (n : Nat) (x0 : Bytes) (r : (S_Start × Int)) (h : disp_50 n x0 = some r) : FnR E Tryd.prog n [AV.str x0] (AV.tup [S_Start.av (r.1), AV.int .i64 (r.2)]) false := by
  unfold disp_50 at h
  cases hn26 : (n == 26) with
  | true => rw [hn26, cond_true] at h; rw [eq_of_beq hn26]; exact start_Parse_ok E x0 r h
  | false =>
    rw [hn26, cond_false] at h
    cases hn27 : (n == 27) with
    | true => rw [hn27, cond_true] at h; rw [eq_of_beq hn27]; exact start_Status_ok E x0 r h
    | false =>
      rw [hn27, cond_false] at h
      cases h

theorem intarsialaw06_alive_ok (E : Pm.Env) [LaidE E] (r : Bool) (h : intarsialaw06_alive = some r) : FnR E Tryd.prog 29 [] (AV.bool r) false := by
  refine FnR.of_ev (T := T) (rows := []) tOk mixed Tryd.func29 rfl (by kernel_rfl) (by kernel_rfl) rfl fun hwf => ?_
  unfold intarsialaw06_alive at h
  refine SeqJ.go ?_
  refine SeqN.go ?_
  refine SeqJ.go ?_
  refine bind_elim h fun x1 hx1 h => ?_
  refine CallH.data _ false rfl (start_Parse_ok E ([71, 69, 84, 32, 47, 120, 32, 72, 84, 84, 80, 47, 49, 46, 49] : Bytes) x1 hx1) ?_
  refine And.intro rfl ?_
  refine And.intro ⟨rfl, rfl, rfl, Nat.le_of_ble_eq_true rfl⟩ (Exists.intro (S_Start.cells (x1.1)) (And.intro (fun _ => rfl) ?_))
  refine SeqN.go ?_
  refine SeqJ.go ?_
  refine And.intro ⟨Nat.le_of_ble_eq_true rfl, Nat.le_of_ble_eq_true rfl⟩ ?_
  refine NormE.to (S_Start.av (x1.1)) (fun _ => rfl) ?_
  refine And.intro ⟨rfl, rfl, Nat.le_of_ble_eq_true rfl⟩ ?_
  refine And.intro ⟨rfl, rfl, Nat.le_of_ble_eq_true rfl⟩ ?_
  refine And.intro ⟨rfl, rfl, Nat.le_of_ble_eq_true rfl⟩ ?_
  refine And.intro (fun hg => hg) ?_
  refine And.intro (fun hg => hg) ?_
  refine And.intro rfl ?_
  refine And.intro (fun hg => (and_r hg)) ?_
  refine SeqN.via (St.of [⟨0, AV.bool (bif ((x1.2) == (0 : Int)) then ((((x1.1).Method) == ([71, 69, 84] : Bytes)) && ((((x1.1).Target) == ([47, 120] : Bytes)) && ((((x1.1).Code) == (0 : Int)) && ((((x1.1).Reason) == ([] : Bytes)) && ((((x1.1).Minor) == (1 : Int)) && true))))) else false), none⟩] [] []) ?_ ?_
  · refine Gho.to [⟨0, AV.bool (bif ((x1.2) == (0 : Int)) then ((((x1.1).Method) == ([71, 69, 84] : Bytes)) && ((((x1.1).Target) == ([47, 120] : Bytes)) && ((((x1.1).Code) == (0 : Int)) && ((((x1.1).Reason) == ([] : Bytes)) && ((((x1.1).Minor) == (1 : Int)) && true))))) else false), none⟩] [] [] [] ?_ ?_ ?_ rfl rfl ?_
    · exact trivial
    · exact rfl
    · exact rfl
    · exact ⟨rfl, rfl, trivial, trivial⟩
  replace h := Option.some.inj h
  refine RetE.plain ?_
  exact And.intro rfl (And.intro (congrArg (fun r : Bool => AV.bool r) h) rfl)

theorem intarsialaw06_StartBack_ok (E : Pm.Env) [LaidE E] (a0 : S_Start) (a1 : Bytes) (r : Bool) (h : intarsialaw06_StartBack a0 a1 = some r) : FnR E Tryd.prog 7 [S_Start.av a0, AV.str a1] (AV.bool r) false := by
  refine FnR.of_ev (T := T) (rows := []) tOk mixed Tryd.func7 rfl (by kernel_rfl) (by kernel_rfl) rfl fun hwf => ?_
  unfold intarsialaw06_StartBack at h
  refine SeqJ.go ?_
  refine And.intro rfl ?_
  refine SeqN.go ?_
  refine SeqJ.go ?_
  refine And.intro ⟨Nat.le_of_ble_eq_true rfl, Nat.le_of_ble_eq_true rfl⟩ ?_
  refine NormE.to (S_Start.av a0) (fun _ => rfl) ?_
  refine bind_elim h fun x1 hx1 h => ?_
  refine CallH.data _ false rfl (intarsialaw06_few_ok E a0 x1 hx1) ?_
  refine NormE.same ?_
  refine And.intro rfl ?_
  refine bind_elim h fun x2 hx2 h => ?_
  have qx2 := (slc_some hx2).1
  have hx2e := (slc_some hx2).2
  refine And.intro (fun _ => qx2) ?_
  refine NormE.to (AV.str x2) (fun _ => congrArg AV.str hx2e.symm) ?_
  refine And.intro ⟨rfl, rfl, rfl, Nat.le_of_ble_eq_true rfl⟩ (Exists.intro (S_Start.cells x1) (And.intro (fun _ => rfl) ?_))
  refine And.intro (by kernel_rfl) ?_
  refine SeqN.go ?_
  refine SeqJ.go ?_
  refine SeqJ.go ?_
  refine And.intro ⟨Nat.le_of_ble_eq_true rfl, Nat.le_of_ble_eq_true rfl⟩ ?_
  refine NormE.to (S_Start.av x1) (fun _ => rfl) ?_
  refine bind_elim h fun x3 hx3 h => ?_
  refine CallH.data _ false rfl (start_Print_ok E x1 x3 hx3) ?_
  refine SeqN.via (St.of [⟨1, AV.str x2, none⟩, ⟨2, AV.ptr 0 0, none⟩, ⟨5, AV.str (x3.1), none⟩, ⟨6, AV.int .i64 (x3.2), none⟩] [.cells 23 (S_Start.cells x1) []] []) ?_ ?_
  · refine Gho.to [⟨1, AV.str x2, none⟩, ⟨2, AV.ptr 0 0, none⟩, ⟨5, AV.str (x3.1), none⟩, ⟨6, AV.int .i64 (x3.2), none⟩] [.cells 23 (S_Start.cells x1) []] [] [] ?_ ?_ ?_ rfl rfl ?_
    · exact ⟨⟨rfl, rfl, rfl⟩, trivial⟩
    · exact rfl
    · exact rfl
    · exact ⟨rfl, rfl, trivial, rfl, rfl, trivial, rfl, rfl, trivial, rfl, rfl, trivial, trivial⟩
  refine SeqJ.go ?_
  refine SeqN.go ?_
  refine Br.mk (fun ht => ?_) (fun ht => ?_)
  · replace h := cond_tt h ht
    refine SeqJ.go ?_
    refine bind_elim h fun x4 hx4 h => ?_
    refine CallH.data _ false rfl (start_Parse_ok E (x3.1) x4 hx4) ?_
    refine And.intro rfl ?_
    refine And.intro ⟨rfl, rfl, rfl, Nat.le_of_ble_eq_true rfl⟩ (Exists.intro (S_Start.cells (x4.1)) (And.intro (fun _ => rfl) ?_))
    refine SeqN.go ?_
    refine SeqJ.go ?_
    refine bind_elim h fun x5 hx5 h => ?_
    refine CallH.data _ false rfl (start_Status_ok E (x3.1) x5 hx5) ?_
    refine And.intro rfl ?_
    refine And.intro ⟨rfl, rfl, rfl, Nat.le_of_ble_eq_true rfl⟩ (Exists.intro (S_Start.cells (x5.1)) (And.intro (fun _ => rfl) ?_))
    refine SeqN.via (St.of [⟨1, AV.str x2, none⟩, ⟨2, AV.ptr 0 0, none⟩, ⟨7, AV.ptr 1 0, none⟩, ⟨8, AV.int .i64 (x4.2), none⟩, ⟨9, AV.ptr 2 0, none⟩, ⟨10, AV.int .i64 (x5.2), none⟩] [.cells 23 (S_Start.cells x1) [], .cells 23 (S_Start.cells (x4.1)) [], .cells 23 (S_Start.cells (x5.1)) []] []) ?_ ?_
    · refine Gho.to [⟨1, AV.str x2, none⟩, ⟨2, AV.ptr 0 0, none⟩, ⟨7, AV.ptr 1 0, none⟩, ⟨8, AV.int .i64 (x4.2), none⟩, ⟨9, AV.ptr 2 0, none⟩, ⟨10, AV.int .i64 (x5.2), none⟩] [.cells 23 (S_Start.cells x1) [], .cells 23 (S_Start.cells (x4.1)) [], .cells 23 (S_Start.cells (x5.1)) []] [] [] ?_ ?_ ?_ rfl rfl ?_
      · exact ⟨⟨rfl, rfl, rfl⟩, ⟨⟨rfl, rfl, rfl⟩, ⟨⟨rfl, rfl, rfl⟩, trivial⟩⟩⟩
      · exact rfl
      · exact rfl
      · exact ⟨rfl, rfl, trivial, rfl, rfl, trivial, rfl, rfl, trivial, rfl, rfl, trivial, rfl, rfl, trivial, rfl, rfl, trivial, trivial⟩
    refine SeqJ.go ?_
    refine And.intro (fun hg => hg) ?_
    refine And.intro (fun hg => hg) ?_
    refine And.intro ⟨Nat.le_of_ble_eq_true rfl, Nat.le_of_ble_eq_true rfl⟩ ?_
    refine NormE.to (S_Start.av (x4.1)) (fun _ => rfl) ?_
    refine And.intro ⟨Nat.le_of_ble_eq_true rfl, Nat.le_of_ble_eq_true rfl⟩ ?_
    refine NormE.to (S_Start.av x1) (fun _ => rfl) ?_
    refine And.intro (fun hg => hg) ?_
    refine And.intro (fun hg => hg) ?_
    refine And.intro rfl ?_
    refine And.intro (fun hg => hg) ?_
    refine And.intro (fun hg => hg) ?_
    refine And.intro (fun hg => hg) ?_
    refine And.intro (fun hg => hg) ?_
    refine And.intro (fun hg => hg) ?_
    refine And.intro (fun hg => hg) ?_
    refine And.intro (fun hg => (and_r hg)) ?_
    refine And.intro (fun hg => hg) ?_
    refine And.intro (fun hg => hg) ?_
    refine And.intro (fun hg => hg) ?_
    refine And.intro (fun hg => hg) ?_
    refine And.intro (fun hg => hg) ?_
    refine And.intro ⟨Nat.le_of_ble_eq_true rfl, Nat.le_of_ble_eq_true rfl⟩ ?_
    refine NormE.to (S_Start.av (x5.1)) (fun _ => rfl) ?_
    refine And.intro ⟨Nat.le_of_ble_eq_true rfl, Nat.le_of_ble_eq_true rfl⟩ ?_
    refine NormE.to (S_Start.av x1) (fun _ => rfl) ?_
    refine And.intro (fun hg => hg) ?_
    refine And.intro (fun hg => hg) ?_
    refine And.intro rfl ?_
    refine And.intro (fun hg => hg) ?_
    refine And.intro (fun hg => hg) ?_
    refine And.intro (fun hg => hg) ?_
    refine And.intro (fun hg => hg) ?_
    refine And.intro (fun hg => hg) ?_
    refine And.intro (fun hg => hg) ?_
    refine And.intro (fun hg => hg) ?_
    refine And.intro (fun hg => hg) ?_
    refine And.intro (fun hg => (and_r hg)) ?_
    refine SeqN.via (St.of [⟨1, AV.str x2, none⟩, ⟨76, AV.bool (bif (bif ((x1.Code) == (0 : Int)) then (bif (bif ((x4.2) != (0 : Int)) then true else (!((((x4.1).Method) == (x1.Method)) && ((((x4.1).Target) == (x1.Target)) && ((((x4.1).Code) == (x1.Code)) && ((((x4.1).Reason) == (x1.Reason)) && ((((x4.1).Minor) == (x1.Minor)) && true))))))) then true else ((x5.2) != (30 : Int))) else false) then true else (bif ((x1.Code) != (0 : Int)) then (bif (bif ((x5.2) != (0 : Int)) then true else (!((((x5.1).Method) == (x1.Method)) && ((((x5.1).Target) == (x1.Target)) && ((((x5.1).Code) == (x1.Code)) && ((((x5.1).Reason) == (x1.Reason)) && ((((x5.1).Minor) == (x1.Minor)) && true))))))) then true else ((x4.2) != (30 : Int))) else false)), none⟩] [] []) ?_ ?_
    · refine Gho.to [⟨1, AV.str x2, none⟩, ⟨76, AV.bool (bif (bif ((x1.Code) == (0 : Int)) then (bif (bif ((x4.2) != (0 : Int)) then true else (!((((x4.1).Method) == (x1.Method)) && ((((x4.1).Target) == (x1.Target)) && ((((x4.1).Code) == (x1.Code)) && ((((x4.1).Reason) == (x1.Reason)) && ((((x4.1).Minor) == (x1.Minor)) && true))))))) then true else ((x5.2) != (30 : Int))) else false) then true else (bif ((x1.Code) != (0 : Int)) then (bif (bif ((x5.2) != (0 : Int)) then true else (!((((x5.1).Method) == (x1.Method)) && ((((x5.1).Target) == (x1.Target)) && ((((x5.1).Code) == (x1.Code)) && ((((x5.1).Reason) == (x1.Reason)) && ((((x5.1).Minor) == (x1.Minor)) && true))))))) then true else ((x4.2) != (30 : Int))) else false)), none⟩] [] [] [] ?_ ?_ ?_ rfl rfl ?_
      · exact trivial
      · exact rfl
      · exact rfl
      · exact ⟨rfl, rfl, trivial, rfl, rfl, trivial, trivial⟩
    refine Br.mk (fun ht => ?_) (fun ht => ?_)
    · replace h := cond_tt h ht
      refine SeqJ.go ?_
      refine SeqN.go ?_
      replace h := Option.some.inj h
      refine RetE.plain ?_
      exact And.intro rfl (And.intro (congrArg (fun r : Bool => AV.bool r) h) rfl)
    · replace h := cond_ff h ht
      refine SeqN.go ?_
      refine SeqJ.go ?_
      refine SeqJ.go ?_
      refine And.intro ⟨rfl, rfl, rfl, rfl⟩ ?_
      refine And.intro ⟨rfl, rfl, rfl, rfl⟩ ?_
      refine And.intro ⟨rfl, rfl, rfl⟩ ?_
      refine NormE.to (AV.list 1 (([(26 : Nat), (27 : Nat)] : List Nat).map (fun n => AV.fn n [] []))) (fun _ => rfl) ?_
      refine NormE.to (AV.int .i64 (([(26 : Nat), (27 : Nat)] : List Nat).length : Int)) (fun _ => len_list (fun n => AV.fn n [] []) ([(26 : Nat), (27 : Nat)] : List Nat)) ?_
      refine SeqN.go ?_
      refine LoopE.img (fun x : Int => St.of [⟨1, AV.str x2, none⟩, ⟨77, AV.list 1 (([(26 : Nat), (27 : Nat)] : List Nat).map (fun n => AV.fn n [] [])), some 0⟩, ⟨78, AV.int .i64 (([(26 : Nat), (27 : Nat)] : List Nat).length : Int), none⟩, ⟨79, AV.int .i64 x, none⟩] [] [2]) (intarsialaw06_StartBack_b1 x2) (0 : Int) h ?_ ?_
      · refine Gho.to [⟨1, AV.str x2, none⟩, ⟨77, AV.list 1 (([(26 : Nat), (27 : Nat)] : List Nat).map (fun n => AV.fn n [] [])), some 0⟩, ⟨78, AV.int .i64 (([(26 : Nat), (27 : Nat)] : List Nat).length : Int), none⟩, ⟨79, AV.int .i64 (0 : Int), none⟩] [] [2] [0] ?_ ?_ ?_ rfl rfl ?_
        · exact trivial
        · exact rfl
        · exact rfl
        · exact ⟨rfl, rfl, trivial, rfl, rfl, ⟨rfl, rfl⟩, rfl, rfl, trivial, rfl, rfl, trivial, trivial⟩
      intro n1 x y1 h hl1 hr1
      revert h; revert x; intro s6 h
      unfold intarsialaw06_StartBack_b1 at h
      refine SeqJ.go ?_
      refine SeqN.go ?_
      refine SeqJ.go ?_
      refine Br.mk (fun ht => ?_) (fun ht => ?_)
      · replace h := cond_tt h ht
        refine SeqN.go ?_
        refine SeqJ.go ?_
        refine SeqJ.go ?_
        refine bind_elim h fun x7 hx7 h => ?_
        refine And.intro rfl (Exists.intro (AV.fn x7 [] []) (And.intro (fun hg => idx_map _ hx7) ?_))
        refine SeqN.go ?_
        refine SeqJ.go ?_
        refine bind_elim h fun x8 hx8 h => ?_
        refine CallH.data _ false rfl (disp_50_ok E x7 x2 x8 hx8) ?_
        refine And.intro rfl ?_
        refine And.intro ⟨rfl, rfl, rfl, Nat.le_of_ble_eq_true rfl⟩ (Exists.intro (S_Start.cells (x8.1)) (And.intro (fun _ => rfl) ?_))
        refine SeqN.go ?_
        refine SeqJ.go ?_
        refine SeqJ.go ?_
        refine SeqN.go ?_
        refine Br.mk (fun ht => ?_) (fun ht => ?_)
        · replace h := cond_tt h ht
          refine SeqN.go ?_
          replace h := Option.some.inj h
          refine Exists.intro ⟨(n1, (IntKind.i64.wrap (s6 + (1 : Int)))), hl1 _ h.symm⟩ (And.intro (Nat.lt_succ_self _) ?_)
          refine Gho.to [⟨1, AV.str x2, none⟩, ⟨77, AV.list 1 (([(26 : Nat), (27 : Nat)] : List Nat).map (fun n => AV.fn n [] [])), some 0⟩, ⟨78, AV.int .i64 (([(26 : Nat), (27 : Nat)] : List Nat).length : Int), none⟩, ⟨79, AV.int .i64 (IntKind.i64.wrap (s6 + (1 : Int))), none⟩] [] [2] [0] ?_ ?_ ?_ rfl rfl ?_
          · exact trivial
          · exact rfl
          · exact rfl
          · exact ⟨rfl, rfl, trivial, rfl, rfl, ⟨rfl, rfl⟩, rfl, rfl, trivial, rfl, rfl, trivial, trivial⟩
        · replace h := cond_ff h ht
          refine SeqN.go ?_
          refine SeqJ.go ?_
          refine And.intro ⟨Nat.le_of_ble_eq_true rfl, Nat.le_of_ble_eq_true rfl⟩ ?_
          refine NormE.to (S_Start.av (x8.1)) (fun _ => rfl) ?_
          refine bind_elim h fun x9 hx9 h => ?_
          refine CallH.data _ false rfl (start_Print_ok E (x8.1) x9 hx9) ?_
          refine SeqN.via (St.of [⟨1, AV.str x2, none⟩, ⟨12, AV.fn x7 [] [], none⟩, ⟨13, AV.ptr 0 0, none⟩, ⟨15, AV.str (x9.1), none⟩, ⟨16, AV.int .i64 (x9.2), none⟩, ⟨77, AV.list 1 (([(26 : Nat), (27 : Nat)] : List Nat).map (fun n => AV.fn n [] [])), some 0⟩, ⟨78, AV.int .i64 (([(26 : Nat), (27 : Nat)] : List Nat).length : Int), none⟩, ⟨79, AV.int .i64 s6, none⟩] [.cells 23 (S_Start.cells (x8.1)) []] [2]) ?_ ?_
          · refine Gho.to [⟨1, AV.str x2, none⟩, ⟨12, AV.fn x7 [] [], none⟩, ⟨13, AV.ptr 0 0, none⟩, ⟨15, AV.str (x9.1), none⟩, ⟨16, AV.int .i64 (x9.2), none⟩, ⟨77, AV.list 1 (([(26 : Nat), (27 : Nat)] : List Nat).map (fun n => AV.fn n [] [])), some 0⟩, ⟨78, AV.int .i64 (([(26 : Nat), (27 : Nat)] : List Nat).length : Int), none⟩, ⟨79, AV.int .i64 s6, none⟩] [.cells 23 (S_Start.cells (x8.1)) []] [2] [0] ?_ ?_ ?_ rfl rfl ?_
            · exact ⟨⟨rfl, rfl, rfl⟩, trivial⟩
            · exact rfl
            · exact rfl
            · exact ⟨rfl, rfl, trivial, rfl, rfl, trivial, rfl, rfl, trivial, rfl, rfl, trivial, rfl, rfl, trivial, rfl, rfl, ⟨rfl, rfl⟩, rfl, rfl, trivial, rfl, rfl, trivial, trivial⟩
          refine SeqJ.go ?_
          refine bind_elim h fun x10 hx10 h => ?_
          refine CallH.data _ false rfl (disp_50_ok E x7 (x9.1) x10 hx10) ?_
          refine And.intro rfl ?_
          refine And.intro ⟨rfl, rfl, rfl, Nat.le_of_ble_eq_true rfl⟩ (Exists.intro (S_Start.cells (x10.1)) (And.intro (fun _ => rfl) ?_))
          refine SeqN.go ?_
          refine SeqJ.go ?_
          refine And.intro (fun hg => hg) ?_
          refine And.intro (fun hg => (and_r hg)) ?_
          refine And.intro ⟨Nat.le_of_ble_eq_true rfl, Nat.le_of_ble_eq_true rfl⟩ ?_
          refine NormE.to (S_Start.av (x8.1)) (fun _ => rfl) ?_
          refine And.intro ⟨Nat.le_of_ble_eq_true rfl, Nat.le_of_ble_eq_true rfl⟩ ?_
          refine NormE.to (S_Start.av (x10.1)) (fun _ => rfl) ?_
          refine And.intro (fun hg => hg) ?_
          refine And.intro (fun hg => hg) ?_
          refine And.intro rfl ?_
          refine And.intro (fun hg => (and_r hg)) ?_
          refine And.intro ⟨Nat.le_of_ble_eq_true rfl, Nat.le_of_ble_eq_true rfl⟩ ?_
          refine NormE.to (S_Start.av (x8.1)) (fun _ => rfl) ?_
          refine bind_elim h fun x11 hx11 h => ?_
          refine And.intro (fun hg => hg) ?_
          refine And.intro rfl ?_
          refine CallF.mk _ false (fun hg => start_Right_ok E (x8.1) x11 (gcall_some hx11 hg)) (And.intro rfl ?_)
          refine And.intro (fun hg => hg) ?_
          refine And.intro (fun hg => (and_r hg)) ?_
          refine SeqN.via (St.of [⟨1, AV.str x2, none⟩, ⟨77, AV.list 1 (([(26 : Nat), (27 : Nat)] : List Nat).map (fun n => AV.fn n [] [])), some 0⟩, ⟨78, AV.int .i64 (([(26 : Nat), (27 : Nat)] : List Nat).length : Int), none⟩, ⟨79, AV.int .i64 s6, none⟩, ⟨117, AV.bool (bif (bif (bif ((x9.2) != (0 : Int)) then true else ((x10.2) != (0 : Int))) then true else (!((((x8.1).Method) == ((x10.1).Method)) && ((((x8.1).Target) == ((x10.1).Target)) && ((((x8.1).Code) == ((x10.1).Code)) && ((((x8.1).Reason) == ((x10.1).Reason)) && ((((x8.1).Minor) == ((x10.1).Minor)) && true))))))) then true else (!x11)), none⟩] [] [2]) ?_ ?_
          · refine Gho.to [⟨1, AV.str x2, none⟩, ⟨77, AV.list 1 (([(26 : Nat), (27 : Nat)] : List Nat).map (fun n => AV.fn n [] [])), some 0⟩, ⟨78, AV.int .i64 (([(26 : Nat), (27 : Nat)] : List Nat).length : Int), none⟩, ⟨79, AV.int .i64 s6, none⟩, ⟨117, AV.bool (bif (bif (bif ((x9.2) != (0 : Int)) then true else ((x10.2) != (0 : Int))) then true else (!((((x8.1).Method) == ((x10.1).Method)) && ((((x8.1).Target) == ((x10.1).Target)) && ((((x8.1).Code) == ((x10.1).Code)) && ((((x8.1).Reason) == ((x10.1).Reason)) && ((((x8.1).Minor) == ((x10.1).Minor)) && true))))))) then true else (!x11)), none⟩] [] [2] [0] ?_ ?_ ?_ rfl rfl ?_
            · exact trivial
            · exact rfl
            · exact rfl
            · exact ⟨rfl, rfl, trivial, rfl, rfl, ⟨rfl, rfl⟩, rfl, rfl, trivial, rfl, rfl, trivial, rfl, rfl, trivial, trivial⟩
          refine Br.mk (fun ht => ?_) (fun ht => ?_)
          · replace h := cond_tt h ht
            refine SeqJ.go ?_
            refine SeqN.go ?_
            replace h := Option.some.inj h
            replace h := hr1 _ h.symm
            refine RetE.plain ?_
            exact And.intro rfl (And.intro (congrArg (fun r : Bool => AV.bool r) h) rfl)
          · replace h := cond_ff h ht
            refine SeqN.go ?_
            replace h := Option.some.inj h
            refine Exists.intro ⟨(n1, (IntKind.i64.wrap (s6 + (1 : Int)))), hl1 _ h.symm⟩ (And.intro (Nat.lt_succ_self _) ?_)
            refine Gho.to [⟨1, AV.str x2, none⟩, ⟨77, AV.list 1 (([(26 : Nat), (27 : Nat)] : List Nat).map (fun n => AV.fn n [] [])), some 0⟩, ⟨78, AV.int .i64 (([(26 : Nat), (27 : Nat)] : List Nat).length : Int), none⟩, ⟨79, AV.int .i64 (IntKind.i64.wrap (s6 + (1 : Int))), none⟩] [] [2] [0] ?_ ?_ ?_ rfl rfl ?_
            · exact trivial
            · exact rfl
            · exact rfl
            · exact ⟨rfl, rfl, trivial, rfl, rfl, ⟨rfl, rfl⟩, rfl, rfl, trivial, rfl, rfl, trivial, trivial⟩
      · replace h := cond_ff h ht
        refine SeqN.go ?_
        refine SeqJ.go ?_
        refine bind_elim h fun x12 hx12 h => ?_
        refine CallH.data _ false rfl (intarsialaw06_alive_ok E  x12 hx12) ?_
        refine SeqN.go ?_
        replace h := Option.some.inj h
        replace h := hr1 _ h.symm
        refine RetE.plain ?_
        exact And.intro rfl (And.intro (congrArg (fun r : Bool => AV.bool r) h) rfl)
  · replace h := cond_ff h ht
    refine SeqN.go ?_
    refine SeqJ.go ?_
    refine SeqJ.go ?_
    refine And.intro ⟨rfl, rfl, rfl, rfl⟩ ?_
    refine And.intro ⟨rfl, rfl, rfl, rfl⟩ ?_
    refine And.intro ⟨rfl, rfl, rfl⟩ ?_
    refine NormE.to (AV.list 1 (([(26 : Nat), (27 : Nat)] : List Nat).map (fun n => AV.fn n [] []))) (fun _ => rfl) ?_
    refine NormE.to (AV.int .i64 (([(26 : Nat), (27 : Nat)] : List Nat).length : Int)) (fun _ => len_list (fun n => AV.fn n [] []) ([(26 : Nat), (27 : Nat)] : List Nat)) ?_
    refine SeqN.go ?_
    refine LoopE.img (fun x : Int => St.of [⟨1, AV.str x2, none⟩, ⟨77, AV.list 1 (([(26 : Nat), (27 : Nat)] : List Nat).map (fun n => AV.fn n [] [])), some 0⟩, ⟨78, AV.int .i64 (([(26 : Nat), (27 : Nat)] : List Nat).length : Int), none⟩, ⟨79, AV.int .i64 x, none⟩] [] [2]) (intarsialaw06_StartBack_b2 x2) (0 : Int) h ?_ ?_
    · refine Gho.to [⟨1, AV.str x2, none⟩, ⟨77, AV.list 1 (([(26 : Nat), (27 : Nat)] : List Nat).map (fun n => AV.fn n [] [])), some 0⟩, ⟨78, AV.int .i64 (([(26 : Nat), (27 : Nat)] : List Nat).length : Int), none⟩, ⟨79, AV.int .i64 (0 : Int), none⟩] [] [2] [0] ?_ ?_ ?_ rfl rfl ?_
      · exact trivial
      · exact rfl
      · exact rfl
      · exact ⟨rfl, rfl, trivial, rfl, rfl, ⟨rfl, rfl⟩, rfl, rfl, trivial, rfl, rfl, trivial, trivial⟩
    intro n2 x y2 h hl2 hr2
    revert h; revert x; intro s13 h
    unfold intarsialaw06_StartBack_b2 at h
    refine SeqJ.go ?_
    refine SeqN.go ?_
    refine SeqJ.go ?_
    refine Br.mk (fun ht => ?_) (fun ht => ?_)
    · replace h := cond_tt h ht
      refine SeqN.go ?_
      refine SeqJ.go ?_
      refine SeqJ.go ?_
      refine bind_elim h fun x14 hx14 h => ?_
      refine And.intro rfl (Exists.intro (AV.fn x14 [] []) (And.intro (fun hg => idx_map _ hx14) ?_))
      refine SeqN.go ?_
      refine SeqJ.go ?_
      refine bind_elim h fun x15 hx15 h => ?_
      refine CallH.data _ false rfl (disp_50_ok E x14 x2 x15 hx15) ?_
      refine And.intro rfl ?_
      refine And.intro ⟨rfl, rfl, rfl, Nat.le_of_ble_eq_true rfl⟩ (Exists.intro (S_Start.cells (x15.1)) (And.intro (fun _ => rfl) ?_))
      refine SeqN.go ?_
      refine SeqJ.go ?_
      refine SeqJ.go ?_
      refine SeqN.go ?_
      refine Br.mk (fun ht => ?_) (fun ht => ?_)
      · replace h := cond_tt h ht
        refine SeqN.go ?_
        replace h := Option.some.inj h
        refine Exists.intro ⟨(n2, (IntKind.i64.wrap (s13 + (1 : Int)))), hl2 _ h.symm⟩ (And.intro (Nat.lt_succ_self _) ?_)
        refine Gho.to [⟨1, AV.str x2, none⟩, ⟨77, AV.list 1 (([(26 : Nat), (27 : Nat)] : List Nat).map (fun n => AV.fn n [] [])), some 0⟩, ⟨78, AV.int .i64 (([(26 : Nat), (27 : Nat)] : List Nat).length : Int), none⟩, ⟨79, AV.int .i64 (IntKind.i64.wrap (s13 + (1 : Int))), none⟩] [] [2] [0] ?_ ?_ ?_ rfl rfl ?_
        · exact trivial
        · exact rfl
        · exact rfl
        · exact ⟨rfl, rfl, trivial, rfl, rfl, ⟨rfl, rfl⟩, rfl, rfl, trivial, rfl, rfl, trivial, trivial⟩
      · replace h := cond_ff h ht
        refine SeqN.go ?_
        refine SeqJ.go ?_
        refine And.intro ⟨Nat.le_of_ble_eq_true rfl, Nat.le_of_ble_eq_true rfl⟩ ?_
        refine NormE.to (S_Start.av (x15.1)) (fun _ => rfl) ?_
        refine bind_elim h fun x16 hx16 h => ?_
        refine CallH.data _ false rfl (start_Print_ok E (x15.1) x16 hx16) ?_
        refine SeqN.via (St.of [⟨1, AV.str x2, none⟩, ⟨12, AV.fn x14 [] [], none⟩, ⟨13, AV.ptr 0 0, none⟩, ⟨15, AV.str (x16.1), none⟩, ⟨16, AV.int .i64 (x16.2), none⟩, ⟨77, AV.list 1 (([(26 : Nat), (27 : Nat)] : List Nat).map (fun n => AV.fn n [] [])), some 0⟩, ⟨78, AV.int .i64 (([(26 : Nat), (27 : Nat)] : List Nat).length : Int), none⟩, ⟨79, AV.int .i64 s13, none⟩] [.cells 23 (S_Start.cells (x15.1)) []] [2]) ?_ ?_
        · refine Gho.to [⟨1, AV.str x2, none⟩, ⟨12, AV.fn x14 [] [], none⟩, ⟨13, AV.ptr 0 0, none⟩, ⟨15, AV.str (x16.1), none⟩, ⟨16, AV.int .i64 (x16.2), none⟩, ⟨77, AV.list 1 (([(26 : Nat), (27 : Nat)] : List Nat).map (fun n => AV.fn n [] [])), some 0⟩, ⟨78, AV.int .i64 (([(26 : Nat), (27 : Nat)] : List Nat).length : Int), none⟩, ⟨79, AV.int .i64 s13, none⟩] [.cells 23 (S_Start.cells (x15.1)) []] [2] [0] ?_ ?_ ?_ rfl rfl ?_
          · exact ⟨⟨rfl, rfl, rfl⟩, trivial⟩
          · exact rfl
          · exact rfl
          · exact ⟨rfl, rfl, trivial, rfl, rfl, trivial, rfl, rfl, trivial, rfl, rfl, trivial, rfl, rfl, trivial, rfl, rfl, ⟨rfl, rfl⟩, rfl, rfl, trivial, rfl, rfl, trivial, trivial⟩
        refine SeqJ.go ?_
        refine bind_elim h fun x17 hx17 h => ?_
        refine CallH.data _ false rfl (disp_50_ok E x14 (x16.1) x17 hx17) ?_
        refine And.intro rfl ?_
        refine And.intro ⟨rfl, rfl, rfl, Nat.le_of_ble_eq_true rfl⟩ (Exists.intro (S_Start.cells (x17.1)) (And.intro (fun _ => rfl) ?_))
        refine SeqN.go ?_
        refine SeqJ.go ?_
        refine And.intro (fun hg => hg) ?_
        refine And.intro (fun hg => (and_r hg)) ?_
        refine And.intro ⟨Nat.le_of_ble_eq_true rfl, Nat.le_of_ble_eq_true rfl⟩ ?_
        refine NormE.to (S_Start.av (x15.1)) (fun _ => rfl) ?_
        refine And.intro ⟨Nat.le_of_ble_eq_true rfl, Nat.le_of_ble_eq_true rfl⟩ ?_
        refine NormE.to (S_Start.av (x17.1)) (fun _ => rfl) ?_
        refine And.intro (fun hg => hg) ?_
        refine And.intro (fun hg => hg) ?_
        refine And.intro rfl ?_
        refine And.intro (fun hg => (and_r hg)) ?_
        refine And.intro ⟨Nat.le_of_ble_eq_true rfl, Nat.le_of_ble_eq_true rfl⟩ ?_
        refine NormE.to (S_Start.av (x15.1)) (fun _ => rfl) ?_
        refine bind_elim h fun x18 hx18 h => ?_
        refine And.intro (fun hg => hg) ?_
        refine And.intro rfl ?_
        refine CallF.mk _ false (fun hg => start_Right_ok E (x15.1) x18 (gcall_some hx18 hg)) (And.intro rfl ?_)
        refine And.intro (fun hg => hg) ?_
        refine And.intro (fun hg => (and_r hg)) ?_
        refine SeqN.via (St.of [⟨1, AV.str x2, none⟩, ⟨77, AV.list 1 (([(26 : Nat), (27 : Nat)] : List Nat).map (fun n => AV.fn n [] [])), some 0⟩, ⟨78, AV.int .i64 (([(26 : Nat), (27 : Nat)] : List Nat).length : Int), none⟩, ⟨79, AV.int .i64 s13, none⟩, ⟨117, AV.bool (bif (bif (bif ((x16.2) != (0 : Int)) then true else ((x17.2) != (0 : Int))) then true else (!((((x15.1).Method) == ((x17.1).Method)) && ((((x15.1).Target) == ((x17.1).Target)) && ((((x15.1).Code) == ((x17.1).Code)) && ((((x15.1).Reason) == ((x17.1).Reason)) && ((((x15.1).Minor) == ((x17.1).Minor)) && true))))))) then true else (!x18)), none⟩] [] [2]) ?_ ?_
        · refine Gho.to [⟨1, AV.str x2, none⟩, ⟨77, AV.list 1 (([(26 : Nat), (27 : Nat)] : List Nat).map (fun n => AV.fn n [] [])), some 0⟩, ⟨78, AV.int .i64 (([(26 : Nat), (27 : Nat)] : List Nat).length : Int), none⟩, ⟨79, AV.int .i64 s13, none⟩, ⟨117, AV.bool (bif (bif (bif ((x16.2) != (0 : Int)) then true else ((x17.2) != (0 : Int))) then true else (!((((x15.1).Method) == ((x17.1).Method)) && ((((x15.1).Target) == ((x17.1).Target)) && ((((x15.1).Code) == ((x17.1).Code)) && ((((x15.1).Reason) == ((x17.1).Reason)) && ((((x15.1).Minor) == ((x17.1).Minor)) && true))))))) then true else (!x18)), none⟩] [] [2] [0] ?_ ?_ ?_ rfl rfl ?_
          · exact trivial
          · exact rfl
          · exact rfl
          · exact ⟨rfl, rfl, trivial, rfl, rfl, ⟨rfl, rfl⟩, rfl, rfl, trivial, rfl, rfl, trivial, rfl, rfl, trivial, trivial⟩
        refine Br.mk (fun ht => ?_) (fun ht => ?_)
        · replace h := cond_tt h ht
          refine SeqJ.go ?_
          refine SeqN.go ?_
          replace h := Option.some.inj h
          replace h := hr2 _ h.symm
          refine RetE.plain ?_
          exact And.intro rfl (And.intro (congrArg (fun r : Bool => AV.bool r) h) rfl)
        · replace h := cond_ff h ht
          refine SeqN.go ?_
          replace h := Option.some.inj h
          refine Exists.intro ⟨(n2, (IntKind.i64.wrap (s13 + (1 : Int)))), hl2 _ h.symm⟩ (And.intro (Nat.lt_succ_self _) ?_)
          refine Gho.to [⟨1, AV.str x2, none⟩, ⟨77, AV.list 1 (([(26 : Nat), (27 : Nat)] : List Nat).map (fun n => AV.fn n [] [])), some 0⟩, ⟨78, AV.int .i64 (([(26 : Nat), (27 : Nat)] : List Nat).length : Int), none⟩, ⟨79, AV.int .i64 (IntKind.i64.wrap (s13 + (1 : Int))), none⟩] [] [2] [0] ?_ ?_ ?_ rfl rfl ?_
          · exact trivial
          · exact rfl
          · exact rfl
          · exact ⟨rfl, rfl, trivial, rfl, rfl, ⟨rfl, rfl⟩, rfl, rfl, trivial, rfl, rfl, trivial, trivial⟩
    · replace h := cond_ff h ht
      refine SeqN.go ?_
      refine SeqJ.go ?_
      refine bind_elim h fun x19 hx19 h => ?_
      refine CallH.data _ false rfl (intarsialaw06_alive_ok E  x19 hx19) ?_
      refine SeqN.go ?_
      replace h := Option.some.inj h
      replace h := hr2 _ h.symm
      refine RetE.plain ?_
      exact And.intro rfl (And.intro (congrArg (fun r : Bool => AV.bool r) h) rfl)

theorem intarsiaref06_cut_ok (E : Pm.Env) [LaidE E] (a0 : Bytes) (r : (Bytes × Bytes × Bool)) (h : intarsiaref06_cut a0 = some r) : FnR E Tryd.prog 58 [AV.str a0] (AV.tup [AV.str (r.1), AV.str (r.2.1), AV.bool (r.2.2)]) false := by
  refine FnR.of_ev (T := T) (rows := []) tOk mixed Tryd.func58 rfl (by kernel_rfl) (by kernel_rfl) rfl fun hwf => ?_
  unfold intarsiaref06_cut at h
  refine SeqJ.go ?_
  refine SeqN.go ?_
  refine SeqJ.go ?_
  refine SeqJ.go ?_
  refine SeqN.go ?_
  refine LoopE.img (fun x : Int => St.of [⟨0, AV.str a0, none⟩, ⟨5, AV.int .i64 x, none⟩] [] []) (intarsiaref06_cut_b1 a0) (0 : Int) h ?_ ?_
  · refine Gho.to [⟨0, AV.str a0, none⟩, ⟨5, AV.int .i64 (0 : Int), none⟩] [] [] [] ?_ ?_ ?_ rfl rfl ?_
    · exact trivial
    · exact rfl
    · exact rfl
    · exact ⟨rfl, rfl, trivial, rfl, rfl, trivial, trivial⟩
  intro n1 x y1 h hl1 hr1
  revert h; revert x; intro s1 h
  unfold intarsiaref06_cut_b1 at h
  refine SeqJ.go ?_
  refine SeqJ.go ?_
  refine NormE.same ?_
  refine SeqN.go ?_
  refine Br.mk (fun ht => ?_) (fun ht => ?_)
  · replace h := cond_tt h ht
    refine SeqN.go ?_
    refine SeqJ.go ?_
    refine SeqJ.go ?_
    refine bind_elim h fun x2 hx2 h => ?_
    refine Exists.intro x2 (And.intro (fun hg => idx_some hx2) ?_)
    refine SeqN.go ?_
    refine Br.mk (fun ht => ?_) (fun ht => ?_)
    · replace h := cond_tt h ht
      refine SeqJ.go ?_
      refine bind_elim h fun x3 hx3 h => ?_
      have qx3 := (slc_some hx3).1
      have hx3e := (slc_some hx3).2
      refine And.intro (fun _ => qx3) ?_
      refine NormE.to (AV.str x3) (fun _ => congrArg AV.str hx3e.symm) ?_
      refine bind_elim h fun x4 hx4 h => ?_
      have qx4 := (slc_some hx4).1
      have hx4e := (slc_some hx4).2
      refine And.intro (fun _ => qx4) ?_
      refine NormE.to (AV.str x4) (fun _ => congrArg AV.str hx4e.symm) ?_
      refine And.intro (by kernel_rfl) ?_
      refine SeqN.via (St.of [⟨2, AV.str x3, none⟩, ⟨3, AV.str x4, none⟩, ⟨4, AV.bool true, none⟩] [] []) ?_ ?_
      · refine Gho.to [⟨2, AV.str x3, none⟩, ⟨3, AV.str x4, none⟩, ⟨4, AV.bool true, none⟩] [] [] [] ?_ ?_ ?_ rfl rfl ?_
        · exact trivial
        · exact rfl
        · exact rfl
        · exact ⟨rfl, rfl, trivial, rfl, rfl, trivial, rfl, rfl, trivial, trivial⟩
      replace h := Option.some.inj h
      replace h := hr1 _ h.symm
      refine RetE.plain ?_
      exact And.intro rfl (And.intro (congrArg (fun r : (Bytes × Bytes × Bool) => AV.tup [AV.str (r.1), AV.str (r.2.1), AV.bool (r.2.2)]) h) rfl)
    · replace h := cond_ff h ht
      refine SeqN.go ?_
      replace h := Option.some.inj h
      refine Exists.intro ⟨(n1, (IntKind.i64.wrap (s1 + (1 : Int)))), hl1 _ h.symm⟩ (And.intro (Nat.lt_succ_self _) ?_)
      refine Gho.to [⟨0, AV.str a0, none⟩, ⟨5, AV.int .i64 (IntKind.i64.wrap (s1 + (1 : Int))), none⟩] [] [] [] ?_ ?_ ?_ rfl rfl ?_
      · exact trivial
      · exact rfl
      · exact rfl
      · exact ⟨rfl, rfl, trivial, rfl, rfl, trivial, trivial⟩
  · replace h := cond_ff h ht
    refine SeqN.go ?_
    refine SeqJ.go ?_
    refine SeqN.go ?_
    replace h := Option.some.inj h
    replace h := hr1 _ h.symm
    refine RetE.plain ?_
    exact And.intro rfl (And.intro (congrArg (fun r : (Bytes × Bytes × Bool) => AV.tup [AV.str (r.1), AV.str (r.2.1), AV.bool (r.2.2)]) h) rfl)

theorem intarsiaref06_Print_ok (E : Pm.Env) [LaidE E] (a0 : S_Start) (r : Bytes) (h : intarsiaref06_Print a0 = some r) : FnR E Tryd.prog 34 [S_Start.av a0] (AV.str r) false := by
  refine FnR.of_ev (T := T) (rows := []) tOk mixed Tryd.func34 rfl (by kernel_rfl) (by kernel_rfl) rfl fun hwf => ?_
  unfold intarsiaref06_Print at h
  refine SeqJ.go ?_
  refine And.intro rfl ?_
  refine SeqN.go ?_
  refine SeqJ.go ?_
  refine bind_elim h fun x1 hx1 h => ?_
  refine CallH.data _ false rfl (intarsiaref02_Digits_ok E (IntKind.u64.wrap (a0.Minor)) (10 : Int) x1 hx1) ?_
  refine bind_elim h fun x2 hx2 h => ?_
  have hx2c := (cat_some hx2).1
  have hx2e := (cat_some hx2).2
  refine And.intro (fun _ => hx2c) ?_
  refine NormE.to (AV.str x2) (fun _ => congrArg AV.str hx2e.symm) ?_
  refine SeqN.go ?_
  refine SeqJ.go ?_
  refine SeqJ.go ?_
  refine SeqN.go ?_
  refine Br.mk (fun ht => ?_) (fun ht => ?_)
  · replace h := cond_tt h ht
    refine SeqJ.go ?_
    refine bind_elim h fun x3 hx3 h => ?_
    have hx3c := (cat_some hx3).1
    have hx3e := (cat_some hx3).2
    refine And.intro (fun _ => hx3c) ?_
    refine NormE.to (AV.str x3) (fun _ => congrArg AV.str hx3e.symm) ?_
    refine bind_elim h fun x4 hx4 h => ?_
    have hx4c := (cat_some hx4).1
    have hx4e := (cat_some hx4).2
    refine And.intro (fun _ => hx4c) ?_
    refine NormE.to (AV.str x4) (fun _ => congrArg AV.str hx4e.symm) ?_
    refine bind_elim h fun x5 hx5 h => ?_
    have hx5c := (cat_some hx5).1
    have hx5e := (cat_some hx5).2
    refine And.intro (fun _ => hx5c) ?_
    refine NormE.to (AV.str x5) (fun _ => congrArg AV.str hx5e.symm) ?_
    refine bind_elim h fun x6 hx6 h => ?_
    have hx6c := (cat_some hx6).1
    have hx6e := (cat_some hx6).2
    refine And.intro (fun _ => hx6c) ?_
    refine NormE.to (AV.str x6) (fun _ => congrArg AV.str hx6e.symm) ?_
    refine SeqN.via (St.of [⟨2, AV.str x6, none⟩] [] []) ?_ ?_
    · refine Gho.to [⟨2, AV.str x6, none⟩] [] [] [] ?_ ?_ ?_ rfl rfl ?_
      · exact trivial
      · exact rfl
      · exact rfl
      · exact ⟨rfl, rfl, trivial, trivial⟩
    replace h := Option.some.inj h
    refine RetE.plain ?_
    exact And.intro rfl (And.intro (congrArg (fun r : Bytes => AV.str r) h) rfl)
  · replace h := cond_ff h ht
    refine SeqN.go ?_
    refine SeqJ.go ?_
    refine bind_elim h fun x7 hx7 h => ?_
    have hx7c := (cat_some hx7).1
    have hx7e := (cat_some hx7).2
    refine And.intro (fun _ => hx7c) ?_
    refine NormE.to (AV.str x7) (fun _ => congrArg AV.str hx7e.symm) ?_
    refine bind_elim h fun x8 hx8 h => ?_
    refine CallH.data _ false rfl (intarsiaref02_Digits_ok E (IntKind.u64.wrap (a0.Code)) (10 : Int) x8 hx8) ?_
    refine bind_elim h fun x9 hx9 h => ?_
    have hx9c := (cat_some hx9).1
    have hx9e := (cat_some hx9).2
    refine And.intro (fun _ => hx9c) ?_
    refine NormE.to (AV.str x9) (fun _ => congrArg AV.str hx9e.symm) ?_
    refine bind_elim h fun x10 hx10 h => ?_
    have hx10c := (cat_some hx10).1
    have hx10e := (cat_some hx10).2
    refine And.intro (fun _ => hx10c) ?_
    refine NormE.to (AV.str x10) (fun _ => congrArg AV.str hx10e.symm) ?_
    refine bind_elim h fun x11 hx11 h => ?_
    have hx11c := (cat_some hx11).1
    have hx11e := (cat_some hx11).2
    refine And.intro (fun _ => hx11c) ?_
    refine NormE.to (AV.str x11) (fun _ => congrArg AV.str hx11e.symm) ?_
    refine And.intro (by kernel_rfl) ?_
    refine SeqN.via (St.of [⟨2, AV.str x11, none⟩] [] []) ?_ ?_
    · refine Gho.to [⟨2, AV.str x11, none⟩] [] [] [] ?_ ?_ ?_ rfl rfl ?_
      · exact trivial
      · exact rfl
      · exact rfl
      · exact ⟨rfl, rfl, trivial, trivial⟩
    replace h := Option.some.inj h
    refine RetE.plain ?_
    exact And.intro rfl (And.intro (congrArg (fun r : Bytes => AV.str r) h) rfl)

theorem intarsiaref06_Parse_ok (E : Pm.Env) [LaidE E] (a0 : Bytes) (r : (S_Start × Int)) (h : intarsiaref06_Parse a0 = some r) : FnR E Tryd.prog 30 [AV.str a0] (AV.tup [S_Start.av (r.1), AV.int .i64 (r.2)]) false := by
  refine FnR.of_ev (T := T) (rows := []) tOk mixed Tryd.func30 rfl (by kernel_rfl) (by kernel_rfl) rfl fun hwf => ?_
  unfold intarsiaref06_Parse at h
  refine SeqJ.go ?_
  refine And.intro rfl ?_
  refine SeqN.go ?_
  refine SeqJ.go ?_
  refine bind_elim h fun x1 hx1 h => ?_
  refine CallH.data _ false rfl (intarsiaref06_cut_ok E a0 x1 hx1) ?_
  refine SeqN.go ?_
  refine SeqJ.go ?_
  refine bind_elim h fun x2 hx2 h => ?_
  refine CallH.data _ false rfl (intarsiaref06_cut_ok E (x1.2.1) x2 hx2) ?_
  refine SeqN.via (St.of [⟨0, AV.str a0, none⟩, ⟨2, AV.ptr 0 0, none⟩, ⟨4, AV.str (x1.1), none⟩, ⟨7, AV.str (x2.1), none⟩, ⟨8, AV.str (x2.2.1), none⟩] [.cells 23 [AV.str ([] : Bytes), AV.str ([] : Bytes), AV.int .i64 (0 : Int), AV.str ([] : Bytes), AV.int .i64 (0 : Int)] []] []) ?_ ?_
  · refine Gho.to [⟨0, AV.str a0, none⟩, ⟨2, AV.ptr 0 0, none⟩, ⟨4, AV.str (x1.1), none⟩, ⟨7, AV.str (x2.1), none⟩, ⟨8, AV.str (x2.2.1), none⟩] [.cells 23 [AV.str ([] : Bytes), AV.str ([] : Bytes), AV.int .i64 (0 : Int), AV.str ([] : Bytes), AV.int .i64 (0 : Int)] []] [] [] ?_ ?_ ?_ rfl rfl ?_
    · exact ⟨⟨rfl, rfl, rfl⟩, trivial⟩
    · exact rfl
    · exact rfl
    · exact ⟨rfl, rfl, trivial, rfl, rfl, trivial, rfl, rfl, trivial, rfl, rfl, trivial, rfl, rfl, trivial, trivial⟩
  refine SeqJ.go ?_
  refine And.intro ⟨rfl, rfl, Nat.le_of_ble_eq_true rfl⟩ ?_
  refine And.intro ⟨rfl, rfl, Nat.le_of_ble_eq_true rfl⟩ ?_
  refine And.intro rfl ?_
  refine And.intro ⟨rfl, rfl, rfl, Nat.le_of_ble_eq_true rfl⟩ (Exists.intro [AV.str (x1.1), AV.str (x2.1), AV.int .i64 (0 : Int), AV.str ([] : Bytes), AV.int .i64 (0 : Int)] (And.intro (fun _ => rfl) ?_))
  refine SeqN.go ?_
  refine SeqJ.go ?_
  refine SeqJ.go ?_
  refine SeqN.go ?_
  refine Br.mk (fun ht => ?_) (fun ht => ?_)
  · replace h := cond_tt h ht
    refine And.intro ⟨rfl, rfl, rfl, Nat.le_of_ble_eq_true rfl⟩ (Exists.intro [AV.str (x1.1), AV.str (x2.1), AV.int .i64 (0 : Int), AV.str ([] : Bytes), AV.int .i64 (1 : Int)] (And.intro (fun _ => rfl) ?_))
    refine SeqN.go ?_
    refine SeqJ.go ?_
    refine SeqJ.go ?_
    refine And.intro ⟨Nat.le_of_ble_eq_true rfl, Nat.le_of_ble_eq_true rfl⟩ ?_
    refine NormE.to (AV.agg [AV.str (x1.1), AV.str (x2.1), AV.int .i64 (0 : Int), AV.str ([] : Bytes), AV.int .i64 (1 : Int)]) (fun _ => rfl) ?_
    refine bind_elim h fun x3 hx3 h => ?_
    refine CallH.data _ false rfl (intarsiaref06_Right_ok E (S_Start.mk (x1.1) (x2.1) (0 : Int) ([] : Bytes) (1 : Int)) x3 hx3) ?_
    refine And.intro ⟨Nat.le_of_ble_eq_true rfl, Nat.le_of_ble_eq_true rfl⟩ ?_
    refine NormE.to (AV.agg [AV.str (x1.1), AV.str (x2.1), AV.int .i64 (0 : Int), AV.str ([] : Bytes), AV.int .i64 (1 : Int)]) (fun _ => rfl) ?_
    refine bind_elim h fun x4 hx4 h => ?_
    refine And.intro (fun hg => hg) ?_
    refine And.intro rfl ?_
    refine CallF.mk _ false (fun hg => intarsiaref06_Print_ok E (S_Start.mk (x1.1) (x2.1) (0 : Int) ([] : Bytes) (1 : Int)) x4 (gcall_some hx4 hg)) (And.intro rfl ?_)
    refine And.intro (fun hg => hg) ?_
    refine And.intro (fun hg => hg) ?_
    refine And.intro (fun hg => (and_r hg)) ?_
    refine SeqN.via (St.of [⟨2, AV.ptr 0 0, none⟩, ⟨10, AV.ptr 1 0, none⟩, ⟨37, AV.bool (bif (!x3) then true else (!(x4 == a0))), none⟩] [.cells 23 [AV.str ([] : Bytes), AV.str ([] : Bytes), AV.int .i64 (0 : Int), AV.str ([] : Bytes), AV.int .i64 (0 : Int)] [], .cells 23 [AV.str (x1.1), AV.str (x2.1), AV.int .i64 (0 : Int), AV.str ([] : Bytes), AV.int .i64 (1 : Int)] []] []) ?_ ?_
    · refine Gho.to [⟨2, AV.ptr 0 0, none⟩, ⟨10, AV.ptr 1 0, none⟩, ⟨37, AV.bool (bif (!x3) then true else (!(x4 == a0))), none⟩] [.cells 23 [AV.str ([] : Bytes), AV.str ([] : Bytes), AV.int .i64 (0 : Int), AV.str ([] : Bytes), AV.int .i64 (0 : Int)] [], .cells 23 [AV.str (x1.1), AV.str (x2.1), AV.int .i64 (0 : Int), AV.str ([] : Bytes), AV.int .i64 (1 : Int)] []] [] [] ?_ ?_ ?_ rfl rfl ?_
      · exact ⟨⟨rfl, rfl, rfl⟩, ⟨⟨rfl, rfl, rfl⟩, trivial⟩⟩
      · exact rfl
      · exact rfl
      · exact ⟨rfl, rfl, trivial, rfl, rfl, trivial, rfl, rfl, trivial, trivial⟩
    refine Br.mk (fun ht => ?_) (fun ht => ?_)
    · replace h := cond_tt h ht
      refine SeqJ.go ?_
      refine And.intro ⟨rfl, rfl, rfl, Nat.le_of_ble_eq_true rfl⟩ (Exists.intro [AV.str ([] : Bytes), AV.str ([] : Bytes), AV.int .i64 (0 : Int), AV.str ([] : Bytes), AV.int .i64 (0 : Int)] (And.intro (fun _ => rfl) ?_))
      refine SeqN.go ?_
      replace h := Option.some.inj h
      refine RetE.plain ?_
      refine And.intro ⟨Nat.le_of_ble_eq_true rfl, Nat.le_of_ble_eq_true rfl⟩ (Exists.intro (AV.agg [AV.str ([] : Bytes), AV.str ([] : Bytes), AV.int .i64 (0 : Int), AV.str ([] : Bytes), AV.int .i64 (0 : Int)]) (And.intro rfl ?_))
      exact And.intro rfl (And.intro (congrArg (fun r : (S_Start × Int) => AV.tup [S_Start.av (r.1), AV.int .i64 (r.2)]) h) rfl)
    · replace h := cond_ff h ht
      refine SeqN.go ?_
      refine SeqJ.go ?_
      refine And.intro ⟨Nat.le_of_ble_eq_true rfl, Nat.le_of_ble_eq_true rfl⟩ ?_
      refine NormE.to (AV.agg [AV.str (x1.1), AV.str (x2.1), AV.int .i64 (0 : Int), AV.str ([] : Bytes), AV.int .i64 (1 : Int)]) (fun _ => rfl) ?_
      refine And.intro ⟨rfl, rfl, rfl, Nat.le_of_ble_eq_true rfl⟩ (Exists.intro [AV.str (x1.1), AV.str (x2.1), AV.int .i64 (0 : Int), AV.str ([] : Bytes), AV.int .i64 (1 : Int)] (And.intro (fun _ => rfl) ?_))
      refine SeqN.go ?_
      replace h := Option.some.inj h
      refine RetE.plain ?_
      refine And.intro ⟨Nat.le_of_ble_eq_true rfl, Nat.le_of_ble_eq_true rfl⟩ (Exists.intro (AV.agg [AV.str (x1.1), AV.str (x2.1), AV.int .i64 (0 : Int), AV.str ([] : Bytes), AV.int .i64 (1 : Int)]) (And.intro rfl ?_))
      exact And.intro rfl (And.intro (congrArg (fun r : (S_Start × Int) => AV.tup [S_Start.av (r.1), AV.int .i64 (r.2)]) h) rfl)
  · replace h := cond_ff h ht
    refine SeqN.go ?_
    refine SeqJ.go ?_
    refine SeqJ.go ?_
    refine And.intro ⟨Nat.le_of_ble_eq_true rfl, Nat.le_of_ble_eq_true rfl⟩ ?_
    refine NormE.to (AV.agg [AV.str (x1.1), AV.str (x2.1), AV.int .i64 (0 : Int), AV.str ([] : Bytes), AV.int .i64 (0 : Int)]) (fun _ => rfl) ?_
    refine bind_elim h fun x5 hx5 h => ?_
    refine CallH.data _ false rfl (intarsiaref06_Right_ok E (S_Start.mk (x1.1) (x2.1) (0 : Int) ([] : Bytes) (0 : Int)) x5 hx5) ?_
    refine And.intro ⟨Nat.le_of_ble_eq_true rfl, Nat.le_of_ble_eq_true rfl⟩ ?_
    refine NormE.to (AV.agg [AV.str (x1.1), AV.str (x2.1), AV.int .i64 (0 : Int), AV.str ([] : Bytes), AV.int .i64 (0 : Int)]) (fun _ => rfl) ?_
    refine bind_elim h fun x6 hx6 h => ?_
    refine And.intro (fun hg => hg) ?_
    refine And.intro rfl ?_
    refine CallF.mk _ false (fun hg => intarsiaref06_Print_ok E (S_Start.mk (x1.1) (x2.1) (0 : Int) ([] : Bytes) (0 : Int)) x6 (gcall_some hx6 hg)) (And.intro rfl ?_)
    refine And.intro (fun hg => hg) ?_
    refine And.intro (fun hg => hg) ?_
    refine And.intro (fun hg => (and_r hg)) ?_
    refine SeqN.via (St.of [⟨2, AV.ptr 0 0, none⟩, ⟨10, AV.ptr 1 0, none⟩, ⟨37, AV.bool (bif (!x5) then true else (!(x6 == a0))), none⟩] [.cells 23 [AV.str ([] : Bytes), AV.str ([] : Bytes), AV.int .i64 (0 : Int), AV.str ([] : Bytes), AV.int .i64 (0 : Int)] [], .cells 23 [AV.str (x1.1), AV.str (x2.1), AV.int .i64 (0 : Int), AV.str ([] : Bytes), AV.int .i64 (0 : Int)] []] []) ?_ ?_
    · refine Gho.to [⟨2, AV.ptr 0 0, none⟩, ⟨10, AV.ptr 1 0, none⟩, ⟨37, AV.bool (bif (!x5) then true else (!(x6 == a0))), none⟩] [.cells 23 [AV.str ([] : Bytes), AV.str ([] : Bytes), AV.int .i64 (0 : Int), AV.str ([] : Bytes), AV.int .i64 (0 : Int)] [], .cells 23 [AV.str (x1.1), AV.str (x2.1), AV.int .i64 (0 : Int), AV.str ([] : Bytes), AV.int .i64 (0 : Int)] []] [] [] ?_ ?_ ?_ rfl rfl ?_
      · exact ⟨⟨rfl, rfl, rfl⟩, ⟨⟨rfl, rfl, rfl⟩, trivial⟩⟩
      · exact rfl
      · exact rfl
      · exact ⟨rfl, rfl, trivial, rfl, rfl, trivial, rfl, rfl, trivial, trivial⟩
    refine Br.mk (fun ht => ?_) (fun ht => ?_)
    · replace h := cond_tt h ht
      refine SeqJ.go ?_
      refine And.intro ⟨rfl, rfl, rfl, Nat.le_of_ble_eq_true rfl⟩ (Exists.intro [AV.str ([] : Bytes), AV.str ([] : Bytes), AV.int .i64 (0 : Int), AV.str ([] : Bytes), AV.int .i64 (0 : Int)] (And.intro (fun _ => rfl) ?_))
      refine SeqN.go ?_
      replace h := Option.some.inj h
      refine RetE.plain ?_
      refine And.intro ⟨Nat.le_of_ble_eq_true rfl, Nat.le_of_ble_eq_true rfl⟩ (Exists.intro (AV.agg [AV.str ([] : Bytes), AV.str ([] : Bytes), AV.int .i64 (0 : Int), AV.str ([] : Bytes), AV.int .i64 (0 : Int)]) (And.intro rfl ?_))
      exact And.intro rfl (And.intro (congrArg (fun r : (S_Start × Int) => AV.tup [S_Start.av (r.1), AV.int .i64 (r.2)]) h) rfl)
    · replace h := cond_ff h ht
      refine SeqN.go ?_
      refine SeqJ.go ?_
      refine And.intro ⟨Nat.le_of_ble_eq_true rfl, Nat.le_of_ble_eq_true rfl⟩ ?_
      refine NormE.to (AV.agg [AV.str (x1.1), AV.str (x2.1), AV.int .i64 (0 : Int), AV.str ([] : Bytes), AV.int .i64 (0 : Int)]) (fun _ => rfl) ?_
      refine And.intro ⟨rfl, rfl, rfl, Nat.le_of_ble_eq_true rfl⟩ (Exists.intro [AV.str (x1.1), AV.str (x2.1), AV.int .i64 (0 : Int), AV.str ([] : Bytes), AV.int .i64 (0 : Int)] (And.intro (fun _ => rfl) ?_))
      refine SeqN.go ?_
      replace h := Option.some.inj h
      refine RetE.plain ?_
      refine And.intro ⟨Nat.le_of_ble_eq_true rfl, Nat.le_of_ble_eq_true rfl⟩ (Exists.intro (AV.agg [AV.str (x1.1), AV.str (x2.1), AV.int .i64 (0 : Int), AV.str ([] : Bytes), AV.int .i64 (0 : Int)]) (And.intro rfl ?_))
      exact And.intro rfl (And.intro (congrArg (fun r : (S_Start × Int) => AV.tup [S_Start.av (r.1), AV.int .i64 (r.2)]) h) rfl)

theorem intarsiaref06_Status_ok (E : Pm.Env) [LaidE E] (a0 : Bytes) (r : (S_Start × Int)) (h : intarsiaref06_Status a0 = some r) : FnR E Tryd.prog 31 [AV.str a0] (AV.tup [S_Start.av (r.1), AV.int .i64 (r.2)]) false := by
  refine FnR.of_ev (T := T) (rows := []) tOk mixed Tryd.func31 rfl (by kernel_rfl) (by kernel_rfl) rfl fun hwf => ?_
  unfold intarsiaref06_Status at h
  refine SeqJ.go ?_
  refine And.intro rfl ?_
  refine SeqN.go ?_
  refine SeqJ.go ?_
  refine bind_elim h fun x1 hx1 h => ?_
  refine CallH.data _ false rfl (intarsiaref06_cut_ok E a0 x1 hx1) ?_
  refine SeqN.go ?_
  refine SeqJ.go ?_
  refine bind_elim h fun x2 hx2 h => ?_
  refine CallH.data _ false rfl (intarsiaref06_cut_ok E (x1.2.1) x2 hx2) ?_
  refine SeqN.via (St.of [⟨0, AV.str a0, none⟩, ⟨2, AV.ptr 0 0, none⟩, ⟨4, AV.str (x1.1), none⟩, ⟨7, AV.str (x2.1), none⟩, ⟨8, AV.str (x2.2.1), none⟩, ⟨9, AV.bool (x2.2.2), none⟩] [.cells 23 [AV.str ([] : Bytes), AV.str ([] : Bytes), AV.int .i64 (0 : Int), AV.str ([] : Bytes), AV.int .i64 (0 : Int)] []] []) ?_ ?_
  · refine Gho.to [⟨0, AV.str a0, none⟩, ⟨2, AV.ptr 0 0, none⟩, ⟨4, AV.str (x1.1), none⟩, ⟨7, AV.str (x2.1), none⟩, ⟨8, AV.str (x2.2.1), none⟩, ⟨9, AV.bool (x2.2.2), none⟩] [.cells 23 [AV.str ([] : Bytes), AV.str ([] : Bytes), AV.int .i64 (0 : Int), AV.str ([] : Bytes), AV.int .i64 (0 : Int)] []] [] [] ?_ ?_ ?_ rfl rfl ?_
    · exact ⟨⟨rfl, rfl, rfl⟩, trivial⟩
    · exact rfl
    · exact rfl
    · exact ⟨rfl, rfl, trivial, rfl, rfl, trivial, rfl, rfl, trivial, rfl, rfl, trivial, rfl, rfl, trivial, rfl, rfl, trivial, trivial⟩
  refine SeqJ.go ?_
  refine bind_elim h fun x3 hx3 h => ?_
  refine CallH.data _ false rfl (intarsiaref02_Read_ok E (x2.1) (10 : Int) x3 hx3) ?_
  refine SeqN.go ?_
  refine SeqJ.go ?_
  refine And.intro ⟨rfl, rfl, Nat.le_of_ble_eq_true rfl⟩ ?_
  refine And.intro ⟨rfl, rfl, Nat.le_of_ble_eq_true rfl⟩ ?_
  refine And.intro rfl ?_
  refine And.intro ⟨rfl, rfl, rfl, Nat.le_of_ble_eq_true rfl⟩ (Exists.intro [AV.str ([] : Bytes), AV.str ([] : Bytes), AV.int .i64 (IntKind.i64.wrap (x3.1)), AV.str (x2.2.1), AV.int .i64 (0 : Int)] (And.intro (fun _ => rfl) ?_))
  refine SeqN.go ?_
  refine SeqJ.go ?_
  refine SeqJ.go ?_
  refine SeqN.go ?_
  refine Br.mk (fun ht => ?_) (fun ht => ?_)
  · replace h := cond_tt h ht
    refine And.intro ⟨rfl, rfl, rfl, Nat.le_of_ble_eq_true rfl⟩ (Exists.intro [AV.str ([] : Bytes), AV.str ([] : Bytes), AV.int .i64 (IntKind.i64.wrap (x3.1)), AV.str (x2.2.1), AV.int .i64 (1 : Int)] (And.intro (fun _ => rfl) ?_))
    refine SeqN.via (St.of [⟨0, AV.str a0, none⟩, ⟨2, AV.ptr 0 0, none⟩, ⟨9, AV.bool (x2.2.2), none⟩, ⟨10, AV.int .u64 (x3.1), none⟩, ⟨12, AV.ptr 1 0, none⟩] [.cells 23 [AV.str ([] : Bytes), AV.str ([] : Bytes), AV.int .i64 (0 : Int), AV.str ([] : Bytes), AV.int .i64 (0 : Int)] [], .cells 23 [AV.str ([] : Bytes), AV.str ([] : Bytes), AV.int .i64 (IntKind.i64.wrap (x3.1)), AV.str (x2.2.1), AV.int .i64 (1 : Int)] []] []) ?_ ?_
    · refine Gho.to [⟨0, AV.str a0, none⟩, ⟨2, AV.ptr 0 0, none⟩, ⟨9, AV.bool (x2.2.2), none⟩, ⟨10, AV.int .u64 (x3.1), none⟩, ⟨12, AV.ptr 1 0, none⟩] [.cells 23 [AV.str ([] : Bytes), AV.str ([] : Bytes), AV.int .i64 (0 : Int), AV.str ([] : Bytes), AV.int .i64 (0 : Int)] [], .cells 23 [AV.str ([] : Bytes), AV.str ([] : Bytes), AV.int .i64 (IntKind.i64.wrap (x3.1)), AV.str (x2.2.1), AV.int .i64 (1 : Int)] []] [] [] ?_ ?_ ?_ rfl rfl ?_
      · exact ⟨⟨rfl, rfl, rfl⟩, ⟨⟨rfl, rfl, rfl⟩, trivial⟩⟩
      · exact rfl
      · exact rfl
      · exact ⟨rfl, rfl, trivial, rfl, rfl, trivial, rfl, rfl, trivial, rfl, rfl, trivial, rfl, rfl, trivial, trivial⟩
    refine SeqJ.go ?_
    refine SeqJ.go ?_
    refine SeqN.go ?_
    refine Br.mk (fun ht => ?_) (fun ht => ?_)
    · replace h := cond_tt h ht
      refine bind_elim h fun x4 hx4 h => ?_
      have hx4c := (cat_some hx4).1
      have hx4e := (cat_some hx4).2
      refine And.intro (fun _ => hx4c) ?_
      refine NormE.to (AV.str x4) (fun _ => congrArg AV.str hx4e.symm) ?_
      refine SeqN.go ?_
      refine SeqJ.go ?_
      refine SeqJ.go ?_
      refine And.intro ⟨Nat.le_of_ble_eq_true rfl, Nat.le_of_ble_eq_true rfl⟩ ?_
      refine NormE.to (AV.agg [AV.str ([] : Bytes), AV.str ([] : Bytes), AV.int .i64 (IntKind.i64.wrap (x3.1)), AV.str (x2.2.1), AV.int .i64 (1 : Int)]) (fun _ => rfl) ?_
      refine bind_elim h fun x5 hx5 h => ?_
      refine And.intro (fun hg => hg) ?_
      refine And.intro rfl ?_
      refine CallF.mk _ false (fun hg => intarsiaref06_Right_ok E (S_Start.mk ([] : Bytes) ([] : Bytes) (IntKind.i64.wrap (x3.1)) (x2.2.1) (1 : Int)) x5 (gcall_some hx5 hg)) (And.intro rfl ?_)
      refine And.intro (fun hg => hg) ?_
      refine And.intro (fun hg => (and_r hg)) ?_
      refine And.intro ⟨Nat.le_of_ble_eq_true rfl, Nat.le_of_ble_eq_true rfl⟩ ?_
      refine NormE.to (AV.agg [AV.str ([] : Bytes), AV.str ([] : Bytes), AV.int .i64 (IntKind.i64.wrap (x3.1)), AV.str (x2.2.1), AV.int .i64 (1 : Int)]) (fun _ => rfl) ?_
      refine bind_elim h fun x6 hx6 h => ?_
      refine And.intro (fun hg => hg) ?_
      refine And.intro rfl ?_
      refine CallF.mk _ false (fun hg => intarsiaref06_Print_ok E (S_Start.mk ([] : Bytes) ([] : Bytes) (IntKind.i64.wrap (x3.1)) (x2.2.1) (1 : Int)) x6 (gcall_some hx6 hg)) (And.intro rfl ?_)
      refine And.intro (fun hg => hg) ?_
      refine And.intro (fun hg => hg) ?_
      refine And.intro (fun hg => (and_r hg)) ?_
      refine SeqN.via (St.of [⟨2, AV.ptr 0 0, none⟩, ⟨12, AV.ptr 1 0, none⟩, ⟨53, AV.bool (bif (bif ((x3.1) == (0 : Int)) then true else (!x5)) then true else (!(x6 == x4))), none⟩] [.cells 23 [AV.str ([] : Bytes), AV.str ([] : Bytes), AV.int .i64 (0 : Int), AV.str ([] : Bytes), AV.int .i64 (0 : Int)] [], .cells 23 [AV.str ([] : Bytes), AV.str ([] : Bytes), AV.int .i64 (IntKind.i64.wrap (x3.1)), AV.str (x2.2.1), AV.int .i64 (1 : Int)] []] []) ?_ ?_
      · refine Gho.to [⟨2, AV.ptr 0 0, none⟩, ⟨12, AV.ptr 1 0, none⟩, ⟨53, AV.bool (bif (bif ((x3.1) == (0 : Int)) then true else (!x5)) then true else (!(x6 == x4))), none⟩] [.cells 23 [AV.str ([] : Bytes), AV.str ([] : Bytes), AV.int .i64 (0 : Int), AV.str ([] : Bytes), AV.int .i64 (0 : Int)] [], .cells 23 [AV.str ([] : Bytes), AV.str ([] : Bytes), AV.int .i64 (IntKind.i64.wrap (x3.1)), AV.str (x2.2.1), AV.int .i64 (1 : Int)] []] [] [] ?_ ?_ ?_ rfl rfl ?_
        · exact ⟨⟨rfl, rfl, rfl⟩, ⟨⟨rfl, rfl, rfl⟩, trivial⟩⟩
        · exact rfl
        · exact rfl
        · exact ⟨rfl, rfl, trivial, rfl, rfl, trivial, rfl, rfl, trivial, trivial⟩
      refine Br.mk (fun ht => ?_) (fun ht => ?_)
      · replace h := cond_tt h ht
        refine SeqJ.go ?_
        refine And.intro ⟨rfl, rfl, rfl, Nat.le_of_ble_eq_true rfl⟩ (Exists.intro [AV.str ([] : Bytes), AV.str ([] : Bytes), AV.int .i64 (0 : Int), AV.str ([] : Bytes), AV.int .i64 (0 : Int)] (And.intro (fun _ => rfl) ?_))
        refine SeqN.go ?_
        replace h := Option.some.inj h
        refine RetE.plain ?_
        refine And.intro ⟨Nat.le_of_ble_eq_true rfl, Nat.le_of_ble_eq_true rfl⟩ (Exists.intro (AV.agg [AV.str ([] : Bytes), AV.str ([] : Bytes), AV.int .i64 (0 : Int), AV.str ([] : Bytes), AV.int .i64 (0 : Int)]) (And.intro rfl ?_))
        exact And.intro rfl (And.intro (congrArg (fun r : (S_Start × Int) => AV.tup [S_Start.av (r.1), AV.int .i64 (r.2)]) h) rfl)
      · replace h := cond_ff h ht
        refine SeqN.go ?_
        refine SeqJ.go ?_
        refine And.intro ⟨Nat.le_of_ble_eq_true rfl, Nat.le_of_ble_eq_true rfl⟩ ?_
        refine NormE.to (AV.agg [AV.str ([] : Bytes), AV.str ([] : Bytes), AV.int .i64 (IntKind.i64.wrap (x3.1)), AV.str (x2.2.1), AV.int .i64 (1 : Int)]) (fun _ => rfl) ?_
        refine And.intro ⟨rfl, rfl, rfl, Nat.le_of_ble_eq_true rfl⟩ (Exists.intro [AV.str ([] : Bytes), AV.str ([] : Bytes), AV.int .i64 (IntKind.i64.wrap (x3.1)), AV.str (x2.2.1), AV.int .i64 (1 : Int)] (And.intro (fun _ => rfl) ?_))
        refine SeqN.go ?_
        replace h := Option.some.inj h
        refine RetE.plain ?_
        refine And.intro ⟨Nat.le_of_ble_eq_true rfl, Nat.le_of_ble_eq_true rfl⟩ (Exists.intro (AV.agg [AV.str ([] : Bytes), AV.str ([] : Bytes), AV.int .i64 (IntKind.i64.wrap (x3.1)), AV.str (x2.2.1), AV.int .i64 (1 : Int)]) (And.intro rfl ?_))
        exact And.intro rfl (And.intro (congrArg (fun r : (S_Start × Int) => AV.tup [S_Start.av (r.1), AV.int .i64 (r.2)]) h) rfl)
    · replace h := cond_ff h ht
      refine SeqN.go ?_
      refine SeqJ.go ?_
      refine SeqJ.go ?_
      refine And.intro ⟨Nat.le_of_ble_eq_true rfl, Nat.le_of_ble_eq_true rfl⟩ ?_
      refine NormE.to (AV.agg [AV.str ([] : Bytes), AV.str ([] : Bytes), AV.int .i64 (IntKind.i64.wrap (x3.1)), AV.str (x2.2.1), AV.int .i64 (1 : Int)]) (fun _ => rfl) ?_
      refine bind_elim h fun x7 hx7 h => ?_
      refine And.intro (fun hg => hg) ?_
      refine And.intro rfl ?_
      refine CallF.mk _ false (fun hg => intarsiaref06_Right_ok E (S_Start.mk ([] : Bytes) ([] : Bytes) (IntKind.i64.wrap (x3.1)) (x2.2.1) (1 : Int)) x7 (gcall_some hx7 hg)) (And.intro rfl ?_)
      refine And.intro (fun hg => hg) ?_
      refine And.intro (fun hg => (and_r hg)) ?_
      refine And.intro ⟨Nat.le_of_ble_eq_true rfl, Nat.le_of_ble_eq_true rfl⟩ ?_
      refine NormE.to (AV.agg [AV.str ([] : Bytes), AV.str ([] : Bytes), AV.int .i64 (IntKind.i64.wrap (x3.1)), AV.str (x2.2.1), AV.int .i64 (1 : Int)]) (fun _ => rfl) ?_
      refine bind_elim h fun x8 hx8 h => ?_
      refine And.intro (fun hg => hg) ?_
      refine And.intro rfl ?_
      refine CallF.mk _ false (fun hg => intarsiaref06_Print_ok E (S_Start.mk ([] : Bytes) ([] : Bytes) (IntKind.i64.wrap (x3.1)) (x2.2.1) (1 : Int)) x8 (gcall_some hx8 hg)) (And.intro rfl ?_)
      refine And.intro (fun hg => hg) ?_
      refine And.intro (fun hg => hg) ?_
      refine And.intro (fun hg => (and_r hg)) ?_
      refine SeqN.go ?_
      refine Br.mk (fun ht => ?_) (fun ht => ?_)
      · replace h := cond_tt h ht
        refine SeqJ.go ?_
        refine And.intro ⟨rfl, rfl, rfl, Nat.le_of_ble_eq_true rfl⟩ (Exists.intro [AV.str ([] : Bytes), AV.str ([] : Bytes), AV.int .i64 (0 : Int), AV.str ([] : Bytes), AV.int .i64 (0 : Int)] (And.intro (fun _ => rfl) ?_))
        refine SeqN.via (St.of [⟨2, AV.ptr 0 0, none⟩, ⟨3, AV.int .i64 (30 : Int), none⟩] [.cells 23 [AV.str ([] : Bytes), AV.str ([] : Bytes), AV.int .i64 (0 : Int), AV.str ([] : Bytes), AV.int .i64 (0 : Int)] []] []) ?_ ?_
        · refine Gho.to [⟨2, AV.ptr 0 0, none⟩, ⟨3, AV.int .i64 (30 : Int), none⟩] [.cells 23 [AV.str ([] : Bytes), AV.str ([] : Bytes), AV.int .i64 (0 : Int), AV.str ([] : Bytes), AV.int .i64 (0 : Int)] []] [] [] ?_ ?_ ?_ rfl rfl ?_
          · exact ⟨⟨rfl, rfl, rfl⟩, trivial⟩
          · exact rfl
          · exact rfl
          · exact ⟨rfl, rfl, trivial, rfl, rfl, trivial, trivial⟩
        replace h := Option.some.inj h
        refine RetE.plain ?_
        refine And.intro ⟨Nat.le_of_ble_eq_true rfl, Nat.le_of_ble_eq_true rfl⟩ (Exists.intro (AV.agg [AV.str ([] : Bytes), AV.str ([] : Bytes), AV.int .i64 (0 : Int), AV.str ([] : Bytes), AV.int .i64 (0 : Int)]) (And.intro rfl ?_))
        exact And.intro rfl (And.intro (congrArg (fun r : (S_Start × Int) => AV.tup [S_Start.av (r.1), AV.int .i64 (r.2)]) h) rfl)
      · replace h := cond_ff h ht
        refine SeqN.go ?_
        refine SeqJ.go ?_
        refine And.intro ⟨Nat.le_of_ble_eq_true rfl, Nat.le_of_ble_eq_true rfl⟩ ?_
        refine NormE.to (AV.agg [AV.str ([] : Bytes), AV.str ([] : Bytes), AV.int .i64 (IntKind.i64.wrap (x3.1)), AV.str (x2.2.1), AV.int .i64 (1 : Int)]) (fun _ => rfl) ?_
        refine And.intro ⟨rfl, rfl, rfl, Nat.le_of_ble_eq_true rfl⟩ (Exists.intro [AV.str ([] : Bytes), AV.str ([] : Bytes), AV.int .i64 (IntKind.i64.wrap (x3.1)), AV.str (x2.2.1), AV.int .i64 (1 : Int)] (And.intro (fun _ => rfl) ?_))
        refine SeqN.via (St.of [⟨2, AV.ptr 0 0, none⟩, ⟨3, AV.int .i64 (0 : Int), none⟩] [.cells 23 [AV.str ([] : Bytes), AV.str ([] : Bytes), AV.int .i64 (IntKind.i64.wrap (x3.1)), AV.str (x2.2.1), AV.int .i64 (1 : Int)] []] []) ?_ ?_
        · refine Gho.to [⟨2, AV.ptr 0 0, none⟩, ⟨3, AV.int .i64 (0 : Int), none⟩] [.cells 23 [AV.str ([] : Bytes), AV.str ([] : Bytes), AV.int .i64 (IntKind.i64.wrap (x3.1)), AV.str (x2.2.1), AV.int .i64 (1 : Int)] []] [] [] ?_ ?_ ?_ rfl rfl ?_
          · exact ⟨⟨rfl, rfl, rfl⟩, trivial⟩
          · exact rfl
          · exact rfl
          · exact ⟨rfl, rfl, trivial, rfl, rfl, trivial, trivial⟩
        replace h := Option.some.inj h
        refine RetE.plain ?_
        refine And.intro ⟨Nat.le_of_ble_eq_true rfl, Nat.le_of_ble_eq_true rfl⟩ (Exists.intro (AV.agg [AV.str ([] : Bytes), AV.str ([] : Bytes), AV.int .i64 (IntKind.i64.wrap (x3.1)), AV.str (x2.2.1), AV.int .i64 (1 : Int)]) (And.intro rfl ?_))
        exact And.intro rfl (And.intro (congrArg (fun r : (S_Start × Int) => AV.tup [S_Start.av (r.1), AV.int .i64 (r.2)]) h) rfl)
  · replace h := cond_ff h ht
    refine SeqN.go ?_
    refine SeqJ.go ?_
    refine SeqJ.go ?_
    refine SeqN.via (St.of [⟨0, AV.str a0, none⟩, ⟨2, AV.ptr 0 0, none⟩, ⟨10, AV.int .u64 (x3.1), none⟩, ⟨12, AV.ptr 1 0, none⟩, ⟨38, AV.bool (!(x2.2.2)), none⟩] [.cells 23 [AV.str ([] : Bytes), AV.str ([] : Bytes), AV.int .i64 (0 : Int), AV.str ([] : Bytes), AV.int .i64 (0 : Int)] [], .cells 23 [AV.str ([] : Bytes), AV.str ([] : Bytes), AV.int .i64 (IntKind.i64.wrap (x3.1)), AV.str (x2.2.1), AV.int .i64 (0 : Int)] []] []) ?_ ?_
    · refine Gho.to [⟨0, AV.str a0, none⟩, ⟨2, AV.ptr 0 0, none⟩, ⟨10, AV.int .u64 (x3.1), none⟩, ⟨12, AV.ptr 1 0, none⟩, ⟨38, AV.bool (!(x2.2.2)), none⟩] [.cells 23 [AV.str ([] : Bytes), AV.str ([] : Bytes), AV.int .i64 (0 : Int), AV.str ([] : Bytes), AV.int .i64 (0 : Int)] [], .cells 23 [AV.str ([] : Bytes), AV.str ([] : Bytes), AV.int .i64 (IntKind.i64.wrap (x3.1)), AV.str (x2.2.1), AV.int .i64 (0 : Int)] []] [] [] ?_ ?_ ?_ rfl rfl ?_
      · exact ⟨⟨rfl, rfl, rfl⟩, ⟨⟨rfl, rfl, rfl⟩, trivial⟩⟩
      · exact rfl
      · exact rfl
      · exact ⟨rfl, rfl, trivial, rfl, rfl, trivial, rfl, rfl, trivial, rfl, rfl, trivial, rfl, rfl, trivial, trivial⟩
    refine Br.mk (fun ht => ?_) (fun ht => ?_)
    · replace h := cond_tt h ht
      refine bind_elim h fun x9 hx9 h => ?_
      have hx9c := (cat_some hx9).1
      have hx9e := (cat_some hx9).2
      refine And.intro (fun _ => hx9c) ?_
      refine NormE.to (AV.str x9) (fun _ => congrArg AV.str hx9e.symm) ?_
      refine SeqN.go ?_
      refine SeqJ.go ?_
      refine SeqJ.go ?_
      refine And.intro ⟨Nat.le_of_ble_eq_true rfl, Nat.le_of_ble_eq_true rfl⟩ ?_
      refine NormE.to (AV.agg [AV.str ([] : Bytes), AV.str ([] : Bytes), AV.int .i64 (IntKind.i64.wrap (x3.1)), AV.str (x2.2.1), AV.int .i64 (0 : Int)]) (fun _ => rfl) ?_
      refine bind_elim h fun x10 hx10 h => ?_
      refine And.intro (fun hg => hg) ?_
      refine And.intro rfl ?_
      refine CallF.mk _ false (fun hg => intarsiaref06_Right_ok E (S_Start.mk ([] : Bytes) ([] : Bytes) (IntKind.i64.wrap (x3.1)) (x2.2.1) (0 : Int)) x10 (gcall_some hx10 hg)) (And.intro rfl ?_)
      refine And.intro (fun hg => hg) ?_
      refine And.intro (fun hg => (and_r hg)) ?_
      refine And.intro ⟨Nat.le_of_ble_eq_true rfl, Nat.le_of_ble_eq_true rfl⟩ ?_
      refine NormE.to (AV.agg [AV.str ([] : Bytes), AV.str ([] : Bytes), AV.int .i64 (IntKind.i64.wrap (x3.1)), AV.str (x2.2.1), AV.int .i64 (0 : Int)]) (fun _ => rfl) ?_
      refine bind_elim h fun x11 hx11 h => ?_
      refine And.intro (fun hg => hg) ?_
      refine And.intro rfl ?_
      refine CallF.mk _ false (fun hg => intarsiaref06_Print_ok E (S_Start.mk ([] : Bytes) ([] : Bytes) (IntKind.i64.wrap (x3.1)) (x2.2.1) (0 : Int)) x11 (gcall_some hx11 hg)) (And.intro rfl ?_)
      refine And.intro (fun hg => hg) ?_
      refine And.intro (fun hg => hg) ?_
      refine And.intro (fun hg => (and_r hg)) ?_
      refine SeqN.via (St.of [⟨2, AV.ptr 0 0, none⟩, ⟨12, AV.ptr 1 0, none⟩, ⟨53, AV.bool (bif (bif ((x3.1) == (0 : Int)) then true else (!x10)) then true else (!(x11 == x9))), none⟩] [.cells 23 [AV.str ([] : Bytes), AV.str ([] : Bytes), AV.int .i64 (0 : Int), AV.str ([] : Bytes), AV.int .i64 (0 : Int)] [], .cells 23 [AV.str ([] : Bytes), AV.str ([] : Bytes), AV.int .i64 (IntKind.i64.wrap (x3.1)), AV.str (x2.2.1), AV.int .i64 (0 : Int)] []] []) ?_ ?_
      · refine Gho.to [⟨2, AV.ptr 0 0, none⟩, ⟨12, AV.ptr 1 0, none⟩, ⟨53, AV.bool (bif (bif ((x3.1) == (0 : Int)) then true else (!x10)) then true else (!(x11 == x9))), none⟩] [.cells 23 [AV.str ([] : Bytes), AV.str ([] : Bytes), AV.int .i64 (0 : Int), AV.str ([] : Bytes), AV.int .i64 (0 : Int)] [], .cells 23 [AV.str ([] : Bytes), AV.str ([] : Bytes), AV.int .i64 (IntKind.i64.wrap (x3.1)), AV.str (x2.2.1), AV.int .i64 (0 : Int)] []] [] [] ?_ ?_ ?_ rfl rfl ?_
        · exact ⟨⟨rfl, rfl, rfl⟩, ⟨⟨rfl, rfl, rfl⟩, trivial⟩⟩
        · exact rfl
        · exact rfl
        · exact ⟨rfl, rfl, trivial, rfl, rfl, trivial, rfl, rfl, trivial, trivial⟩
      refine Br.mk (fun ht => ?_) (fun ht => ?_)
      · replace h := cond_tt h ht
        refine SeqJ.go ?_
        refine And.intro ⟨rfl, rfl, rfl, Nat.le_of_ble_eq_true rfl⟩ (Exists.intro [AV.str ([] : Bytes), AV.str ([] : Bytes), AV.int .i64 (0 : Int), AV.str ([] : Bytes), AV.int .i64 (0 : Int)] (And.intro (fun _ => rfl) ?_))
        refine SeqN.go ?_
        replace h := Option.some.inj h
        refine RetE.plain ?_
        refine And.intro ⟨Nat.le_of_ble_eq_true rfl, Nat.le_of_ble_eq_true rfl⟩ (Exists.intro (AV.agg [AV.str ([] : Bytes), AV.str ([] : Bytes), AV.int .i64 (0 : Int), AV.str ([] : Bytes), AV.int .i64 (0 : Int)]) (And.intro rfl ?_))
        exact And.intro rfl (And.intro (congrArg (fun r : (S_Start × Int) => AV.tup [S_Start.av (r.1), AV.int .i64 (r.2)]) h) rfl)
      · replace h := cond_ff h ht
        refine SeqN.go ?_
        refine SeqJ.go ?_
        refine And.intro ⟨Nat.le_of_ble_eq_true rfl, Nat.le_of_ble_eq_true rfl⟩ ?_
        refine NormE.to (AV.agg [AV.str ([] : Bytes), AV.str ([] : Bytes), AV.int .i64 (IntKind.i64.wrap (x3.1)), AV.str (x2.2.1), AV.int .i64 (0 : Int)]) (fun _ => rfl) ?_
        refine And.intro ⟨rfl, rfl, rfl, Nat.le_of_ble_eq_true rfl⟩ (Exists.intro [AV.str ([] : Bytes), AV.str ([] : Bytes), AV.int .i64 (IntKind.i64.wrap (x3.1)), AV.str (x2.2.1), AV.int .i64 (0 : Int)] (And.intro (fun _ => rfl) ?_))
        refine SeqN.go ?_
        replace h := Option.some.inj h
        refine RetE.plain ?_
        refine And.intro ⟨Nat.le_of_ble_eq_true rfl, Nat.le_of_ble_eq_true rfl⟩ (Exists.intro (AV.agg [AV.str ([] : Bytes), AV.str ([] : Bytes), AV.int .i64 (IntKind.i64.wrap (x3.1)), AV.str (x2.2.1), AV.int .i64 (0 : Int)]) (And.intro rfl ?_))
        exact And.intro rfl (And.intro (congrArg (fun r : (S_Start × Int) => AV.tup [S_Start.av (r.1), AV.int .i64 (r.2)]) h) rfl)
    · replace h := cond_ff h ht
      refine SeqN.go ?_
      refine SeqJ.go ?_
      refine SeqJ.go ?_
      refine And.intro ⟨Nat.le_of_ble_eq_true rfl, Nat.le_of_ble_eq_true rfl⟩ ?_
      refine NormE.to (AV.agg [AV.str ([] : Bytes), AV.str ([] : Bytes), AV.int .i64 (IntKind.i64.wrap (x3.1)), AV.str (x2.2.1), AV.int .i64 (0 : Int)]) (fun _ => rfl) ?_
      refine bind_elim h fun x12 hx12 h => ?_
      refine And.intro (fun hg => hg) ?_
      refine And.intro rfl ?_
      refine CallF.mk _ false (fun hg => intarsiaref06_Right_ok E (S_Start.mk ([] : Bytes) ([] : Bytes) (IntKind.i64.wrap (x3.1)) (x2.2.1) (0 : Int)) x12 (gcall_some hx12 hg)) (And.intro rfl ?_)
      refine And.intro (fun hg => hg) ?_
      refine And.intro (fun hg => (and_r hg)) ?_
      refine And.intro ⟨Nat.le_of_ble_eq_true rfl, Nat.le_of_ble_eq_true rfl⟩ ?_
      refine NormE.to (AV.agg [AV.str ([] : Bytes), AV.str ([] : Bytes), AV.int .i64 (IntKind.i64.wrap (x3.1)), AV.str (x2.2.1), AV.int .i64 (0 : Int)]) (fun _ => rfl) ?_
      refine bind_elim h fun x13 hx13 h => ?_
      refine And.intro (fun hg => hg) ?_
      refine And.intro rfl ?_
      refine CallF.mk _ false (fun hg => intarsiaref06_Print_ok E (S_Start.mk ([] : Bytes) ([] : Bytes) (IntKind.i64.wrap (x3.1)) (x2.2.1) (0 : Int)) x13 (gcall_some hx13 hg)) (And.intro rfl ?_)
      refine And.intro (fun hg => hg) ?_
      refine And.intro (fun hg => hg) ?_
      refine And.intro (fun hg => (and_r hg)) ?_
      refine SeqN.go ?_
      refine Br.mk (fun ht => ?_) (fun ht => ?_)
      · replace h := cond_tt h ht
        refine SeqJ.go ?_
        refine And.intro ⟨rfl, rfl, rfl, Nat.le_of_ble_eq_true rfl⟩ (Exists.intro [AV.str ([] : Bytes), AV.str ([] : Bytes), AV.int .i64 (0 : Int), AV.str ([] : Bytes), AV.int .i64 (0 : Int)] (And.intro (fun _ => rfl) ?_))
        refine SeqN.via (St.of [⟨2, AV.ptr 0 0, none⟩, ⟨3, AV.int .i64 (30 : Int), none⟩] [.cells 23 [AV.str ([] : Bytes), AV.str ([] : Bytes), AV.int .i64 (0 : Int), AV.str ([] : Bytes), AV.int .i64 (0 : Int)] []] []) ?_ ?_
        · refine Gho.to [⟨2, AV.ptr 0 0, none⟩, ⟨3, AV.int .i64 (30 : Int), none⟩] [.cells 23 [AV.str ([] : Bytes), AV.str ([] : Bytes), AV.int .i64 (0 : Int), AV.str ([] : Bytes), AV.int .i64 (0 : Int)] []] [] [] ?_ ?_ ?_ rfl rfl ?_
          · exact ⟨⟨rfl, rfl, rfl⟩, trivial⟩
          · exact rfl
          · exact rfl
          · exact ⟨rfl, rfl, trivial, rfl, rfl, trivial, trivial⟩
        replace h := Option.some.inj h
        refine RetE.plain ?_
        refine And.intro ⟨Nat.le_of_ble_eq_true rfl, Nat.le_of_ble_eq_true rfl⟩ (Exists.intro (AV.agg [AV.str ([] : Bytes), AV.str ([] : Bytes), AV.int .i64 (0 : Int), AV.str ([] : Bytes), AV.int .i64 (0 : Int)]) (And.intro rfl ?_))
        exact And.intro rfl (And.intro (congrArg (fun r : (S_Start × Int) => AV.tup [S_Start.av (r.1), AV.int .i64 (r.2)]) h) rfl)
      · replace h := cond_ff h ht
        refine SeqN.go ?_
        refine SeqJ.go ?_
        refine And.intro ⟨Nat.le_of_ble_eq_true rfl, Nat.le_of_ble_eq_true rfl⟩ ?_
        refine NormE.to (AV.agg [AV.str ([] : Bytes), AV.str ([] : Bytes), AV.int .i64 (IntKind.i64.wrap (x3.1)), AV.str (x2.2.1), AV.int .i64 (0 : Int)]) (fun _ => rfl) ?_
        refine And.intro ⟨rfl, rfl, rfl, Nat.le_of_ble_eq_true rfl⟩ (Exists.intro [AV.str ([] : Bytes), AV.str ([] : Bytes), AV.int .i64 (IntKind.i64.wrap (x3.1)), AV.str (x2.2.1), AV.int .i64 (0 : Int)] (And.intro (fun _ => rfl) ?_))
        refine SeqN.via (St.of [⟨2, AV.ptr 0 0, none⟩, ⟨3, AV.int .i64 (0 : Int), none⟩] [.cells 23 [AV.str ([] : Bytes), AV.str ([] : Bytes), AV.int .i64 (IntKind.i64.wrap (x3.1)), AV.str (x2.2.1), AV.int .i64 (0 : Int)] []] []) ?_ ?_
        · refine Gho.to [⟨2, AV.ptr 0 0, none⟩, ⟨3, AV.int .i64 (0 : Int), none⟩] [.cells 23 [AV.str ([] : Bytes), AV.str ([] : Bytes), AV.int .i64 (IntKind.i64.wrap (x3.1)), AV.str (x2.2.1), AV.int .i64 (0 : Int)] []] [] [] ?_ ?_ ?_ rfl rfl ?_
          · exact ⟨⟨rfl, rfl, rfl⟩, trivial⟩
          · exact rfl
          · exact rfl
          · exact ⟨rfl, rfl, trivial, rfl, rfl, trivial, trivial⟩
        replace h := Option.some.inj h
        refine RetE.plain ?_
        refine And.intro ⟨Nat.le_of_ble_eq_true rfl, Nat.le_of_ble_eq_true rfl⟩ (Exists.intro (AV.agg [AV.str ([] : Bytes), AV.str ([] : Bytes), AV.int .i64 (IntKind.i64.wrap (x3.1)), AV.str (x2.2.1), AV.int .i64 (0 : Int)]) (And.intro rfl ?_))
        exact And.intro rfl (And.intro (congrArg (fun r : (S_Start × Int) => AV.tup [S_Start.av (r.1), AV.int .i64 (r.2)]) h) rfl)

theorem start_Reason_ok (E : Pm.Env) [LaidE E] (a0 : Int) (r : Bytes) (h : start_Reason a0 = some r) : FnR E Tryd.prog 32 [AV.int .i64 a0] (AV.str r) false := by
  refine FnR.of_ev (T := T) (rows := []) tOk mixed Tryd.func32 rfl (by kernel_rfl) (by kernel_rfl) rfl fun hwf => ?_
  unfold start_Reason at h
  refine SeqJ.go ?_
  refine SeqN.go ?_
  refine SeqJ.go ?_
  refine And.intro ⟨rfl, rfl, rfl⟩ (Exists.intro (menc (AV.int .i64) AV.str (mins ([] : List (Int × Bytes)) (200 : Int) ([79, 75] : Bytes))) (And.intro (ins_typed (AV.int .i64) AV.str (keyB_int .i64) (200 : Int) ([79, 75] : Bytes) ([] : List (Int × Bytes))) ?_))
  refine And.intro ⟨rfl, rfl, rfl⟩ (Exists.intro (menc (AV.int .i64) AV.str (mins (mins ([] : List (Int × Bytes)) (200 : Int) ([79, 75] : Bytes)) (304 : Int) ([78, 111, 116, 32, 77, 111, 100, 105, 102, 105, 101, 100] : Bytes))) (And.intro (ins_typed (AV.int .i64) AV.str (keyB_int .i64) (304 : Int) ([78, 111, 116, 32, 77, 111, 100, 105, 102, 105, 101, 100] : Bytes) (mins ([] : List (Int × Bytes)) (200 : Int) ([79, 75] : Bytes))) ?_))
  refine And.intro ⟨rfl, rfl, rfl⟩ (Exists.intro (menc (AV.int .i64) AV.str (mins (mins (mins ([] : List (Int × Bytes)) (200 : Int) ([79, 75] : Bytes)) (304 : Int) ([78, 111, 116, 32, 77, 111, 100, 105, 102, 105, 101, 100] : Bytes)) (400 : Int) ([66, 97, 100, 32, 82, 101, 113, 117, 101, 115, 116] : Bytes))) (And.intro (ins_typed (AV.int .i64) AV.str (keyB_int .i64) (400 : Int) ([66, 97, 100, 32, 82, 101, 113, 117, 101, 115, 116] : Bytes) (mins (mins ([] : List (Int × Bytes)) (200 : Int) ([79, 75] : Bytes)) (304 : Int) ([78, 111, 116, 32, 77, 111, 100, 105, 102, 105, 101, 100] : Bytes))) ?_))
  refine And.intro ⟨rfl, rfl, rfl⟩ (Exists.intro (menc (AV.int .i64) AV.str (mins (mins (mins (mins ([] : List (Int × Bytes)) (200 : Int) ([79, 75] : Bytes)) (304 : Int) ([78, 111, 116, 32, 77, 111, 100, 105, 102, 105, 101, 100] : Bytes)) (400 : Int) ([66, 97, 100, 32, 82, 101, 113, 117, 101, 115, 116] : Bytes)) (404 : Int) ([78, 111, 116, 32, 70, 111, 117, 110, 100] : Bytes))) (And.intro (ins_typed (AV.int .i64) AV.str (keyB_int .i64) (404 : Int) ([78, 111, 116, 32, 70, 111, 117, 110, 100] : Bytes) (mins (mins (mins ([] : List (Int × Bytes)) (200 : Int) ([79, 75] : Bytes)) (304 : Int) ([78, 111, 116, 32, 77, 111, 100, 105, 102, 105, 101, 100] : Bytes)) (400 : Int) ([66, 97, 100, 32, 82, 101, 113, 117, 101, 115, 116] : Bytes))) ?_))
  refine And.intro ⟨rfl, rfl, rfl⟩ (Exists.intro (menc (AV.int .i64) AV.str (mins (mins (mins (mins (mins ([] : List (Int × Bytes)) (200 : Int) ([79, 75] : Bytes)) (304 : Int) ([78, 111, 116, 32, 77, 111, 100, 105, 102, 105, 101, 100] : Bytes)) (400 : Int) ([66, 97, 100, 32, 82, 101, 113, 117, 101, 115, 116] : Bytes)) (404 : Int) ([78, 111, 116, 32, 70, 111, 117, 110, 100] : Bytes)) (413 : Int) ([84, 111, 111, 32, 76, 97, 114, 103, 101] : Bytes))) (And.intro (ins_typed (AV.int .i64) AV.str (keyB_int .i64) (413 : Int) ([84, 111, 111, 32, 76, 97, 114, 103, 101] : Bytes) (mins (mins (mins (mins ([] : List (Int × Bytes)) (200 : Int) ([79, 75] : Bytes)) (304 : Int) ([78, 111, 116, 32, 77, 111, 100, 105, 102, 105, 101, 100] : Bytes)) (400 : Int) ([66, 97, 100, 32, 82, 101, 113, 117, 101, 115, 116] : Bytes)) (404 : Int) ([78, 111, 116, 32, 70, 111, 117, 110, 100] : Bytes))) ?_))
  refine And.intro ⟨rfl, rfl, rfl⟩ (Exists.intro (menc (AV.int .i64) AV.str (mins (mins (mins (mins (mins (mins ([] : List (Int × Bytes)) (200 : Int) ([79, 75] : Bytes)) (304 : Int) ([78, 111, 116, 32, 77, 111, 100, 105, 102, 105, 101, 100] : Bytes)) (400 : Int) ([66, 97, 100, 32, 82, 101, 113, 117, 101, 115, 116] : Bytes)) (404 : Int) ([78, 111, 116, 32, 70, 111, 117, 110, 100] : Bytes)) (413 : Int) ([84, 111, 111, 32, 76, 97, 114, 103, 101] : Bytes)) (431 : Int) ([70, 105, 101, 108, 100, 115, 32, 84, 111, 111, 32, 76, 97, 114, 103, 101] : Bytes))) (And.intro (ins_typed (AV.int .i64) AV.str (keyB_int .i64) (431 : Int) ([70, 105, 101, 108, 100, 115, 32, 84, 111, 111, 32, 76, 97, 114, 103, 101] : Bytes) (mins (mins (mins (mins (mins ([] : List (Int × Bytes)) (200 : Int) ([79, 75] : Bytes)) (304 : Int) ([78, 111, 116, 32, 77, 111, 100, 105, 102, 105, 101, 100] : Bytes)) (400 : Int) ([66, 97, 100, 32, 82, 101, 113, 117, 101, 115, 116] : Bytes)) (404 : Int) ([78, 111, 116, 32, 70, 111, 117, 110, 100] : Bytes)) (413 : Int) ([84, 111, 111, 32, 76, 97, 114, 103, 101] : Bytes))) ?_))
  refine And.intro ⟨rfl, rfl, rfl⟩ (Exists.intro (menc (AV.int .i64) AV.str (mins (mins (mins (mins (mins (mins (mins ([] : List (Int × Bytes)) (200 : Int) ([79, 75] : Bytes)) (304 : Int) ([78, 111, 116, 32, 77, 111, 100, 105, 102, 105, 101, 100] : Bytes)) (400 : Int) ([66, 97, 100, 32, 82, 101, 113, 117, 101, 115, 116] : Bytes)) (404 : Int) ([78, 111, 116, 32, 70, 111, 117, 110, 100] : Bytes)) (413 : Int) ([84, 111, 111, 32, 76, 97, 114, 103, 101] : Bytes)) (431 : Int) ([70, 105, 101, 108, 100, 115, 32, 84, 111, 111, 32, 76, 97, 114, 103, 101] : Bytes)) (500 : Int) ([73, 110, 116, 101, 114, 110, 97, 108, 32, 69, 114, 114, 111, 114] : Bytes))) (And.intro (ins_typed (AV.int .i64) AV.str (keyB_int .i64) (500 : Int) ([73, 110, 116, 101, 114, 110, 97, 108, 32, 69, 114, 114, 111, 114] : Bytes) (mins (mins (mins (mins (mins (mins ([] : List (Int × Bytes)) (200 : Int) ([79, 75] : Bytes)) (304 : Int) ([78, 111, 116, 32, 77, 111, 100, 105, 102, 105, 101, 100] : Bytes)) (400 : Int) ([66, 97, 100, 32, 82, 101, 113, 117, 101, 115, 116] : Bytes)) (404 : Int) ([78, 111, 116, 32, 70, 111, 117, 110, 100] : Bytes)) (413 : Int) ([84, 111, 111, 32, 76, 97, 114, 103, 101] : Bytes)) (431 : Int) ([70, 105, 101, 108, 100, 115, 32, 84, 111, 111, 32, 76, 97, 114, 103, 101] : Bytes))) ?_))
  refine And.intro ⟨rfl, rfl, rfl⟩ (Exists.intro (menc (AV.int .i64) AV.str (mins (mins (mins (mins (mins (mins (mins (mins ([] : List (Int × Bytes)) (200 : Int) ([79, 75] : Bytes)) (304 : Int) ([78, 111, 116, 32, 77, 111, 100, 105, 102, 105, 101, 100] : Bytes)) (400 : Int) ([66, 97, 100, 32, 82, 101, 113, 117, 101, 115, 116] : Bytes)) (404 : Int) ([78, 111, 116, 32, 70, 111, 117, 110, 100] : Bytes)) (413 : Int) ([84, 111, 111, 32, 76, 97, 114, 103, 101] : Bytes)) (431 : Int) ([70, 105, 101, 108, 100, 115, 32, 84, 111, 111, 32, 76, 97, 114, 103, 101] : Bytes)) (500 : Int) ([73, 110, 116, 101, 114, 110, 97, 108, 32, 69, 114, 114, 111, 114] : Bytes)) (502 : Int) ([66, 97, 100, 32, 71, 97, 116, 101, 119, 97, 121] : Bytes))) (And.intro (ins_typed (AV.int .i64) AV.str (keyB_int .i64) (502 : Int) ([66, 97, 100, 32, 71, 97, 116, 101, 119, 97, 121] : Bytes) (mins (mins (mins (mins (mins (mins (mins ([] : List (Int × Bytes)) (200 : Int) ([79, 75] : Bytes)) (304 : Int) ([78, 111, 116, 32, 77, 111, 100, 105, 102, 105, 101, 100] : Bytes)) (400 : Int) ([66, 97, 100, 32, 82, 101, 113, 117, 101, 115, 116] : Bytes)) (404 : Int) ([78, 111, 116, 32, 70, 111, 117, 110, 100] : Bytes)) (413 : Int) ([84, 111, 111, 32, 76, 97, 114, 103, 101] : Bytes)) (431 : Int) ([70, 105, 101, 108, 100, 115, 32, 84, 111, 111, 32, 76, 97, 114, 103, 101] : Bytes)) (500 : Int) ([73, 110, 116, 101, 114, 110, 97, 108, 32, 69, 114, 114, 111, 114] : Bytes))) ?_))
  refine And.intro ⟨rfl, rfl, rfl⟩ (Exists.intro (menc (AV.int .i64) AV.str (mins (mins (mins (mins (mins (mins (mins (mins (mins ([] : List (Int × Bytes)) (200 : Int) ([79, 75] : Bytes)) (304 : Int) ([78, 111, 116, 32, 77, 111, 100, 105, 102, 105, 101, 100] : Bytes)) (400 : Int) ([66, 97, 100, 32, 82, 101, 113, 117, 101, 115, 116] : Bytes)) (404 : Int) ([78, 111, 116, 32, 70, 111, 117, 110, 100] : Bytes)) (413 : Int) ([84, 111, 111, 32, 76, 97, 114, 103, 101] : Bytes)) (431 : Int) ([70, 105, 101, 108, 100, 115, 32, 84, 111, 111, 32, 76, 97, 114, 103, 101] : Bytes)) (500 : Int) ([73, 110, 116, 101, 114, 110, 97, 108, 32, 69, 114, 114, 111, 114] : Bytes)) (502 : Int) ([66, 97, 100, 32, 71, 97, 116, 101, 119, 97, 121] : Bytes)) (504 : Int) ([71, 97, 116, 101, 119, 97, 121, 32, 84, 105, 109, 101, 111, 117, 116] : Bytes))) (And.intro (ins_typed (AV.int .i64) AV.str (keyB_int .i64) (504 : Int) ([71, 97, 116, 101, 119, 97, 121, 32, 84, 105, 109, 101, 111, 117, 116] : Bytes) (mins (mins (mins (mins (mins (mins (mins (mins ([] : List (Int × Bytes)) (200 : Int) ([79, 75] : Bytes)) (304 : Int) ([78, 111, 116, 32, 77, 111, 100, 105, 102, 105, 101, 100] : Bytes)) (400 : Int) ([66, 97, 100, 32, 82, 101, 113, 117, 101, 115, 116] : Bytes)) (404 : Int) ([78, 111, 116, 32, 70, 111, 117, 110, 100] : Bytes)) (413 : Int) ([84, 111, 111, 32, 76, 97, 114, 103, 101] : Bytes)) (431 : Int) ([70, 105, 101, 108, 100, 115, 32, 84, 111, 111, 32, 76, 97, 114, 103, 101] : Bytes)) (500 : Int) ([73, 110, 116, 101, 114, 110, 97, 108, 32, 69, 114, 114, 111, 114] : Bytes)) (502 : Int) ([66, 97, 100, 32, 71, 97, 116, 101, 119, 97, 121] : Bytes))) ?_))
  refine And.intro rfl (Exists.intro (AV.str (mget ([] : Bytes) (mins (mins (mins (mins (mins (mins (mins (mins (mins ([] : List (Int × Bytes)) (200 : Int) ([79, 75] : Bytes)) (304 : Int) ([78, 111, 116, 32, 77, 111, 100, 105, 102, 105, 101, 100] : Bytes)) (400 : Int) ([66, 97, 100, 32, 82, 101, 113, 117, 101, 115, 116] : Bytes)) (404 : Int) ([78, 111, 116, 32, 70, 111, 117, 110, 100] : Bytes)) (413 : Int) ([84, 111, 111, 32, 76, 97, 114, 103, 101] : Bytes)) (431 : Int) ([70, 105, 101, 108, 100, 115, 32, 84, 111, 111, 32, 76, 97, 114, 103, 101] : Bytes)) (500 : Int) ([73, 110, 116, 101, 114, 110, 97, 108, 32, 69, 114, 114, 111, 114] : Bytes)) (502 : Int) ([66, 97, 100, 32, 71, 97, 116, 101, 119, 97, 121] : Bytes)) (504 : Int) ([71, 97, 116, 101, 119, 97, 121, 32, 84, 105, 109, 101, 111, 117, 116] : Bytes)) a0)) (Exists.intro (mhas (mins (mins (mins (mins (mins (mins (mins (mins (mins ([] : List (Int × Bytes)) (200 : Int) ([79, 75] : Bytes)) (304 : Int) ([78, 111, 116, 32, 77, 111, 100, 105, 102, 105, 101, 100] : Bytes)) (400 : Int) ([66, 97, 100, 32, 82, 101, 113, 117, 101, 115, 116] : Bytes)) (404 : Int) ([78, 111, 116, 32, 70, 111, 117, 110, 100] : Bytes)) (413 : Int) ([84, 111, 111, 32, 76, 97, 114, 103, 101] : Bytes)) (431 : Int) ([70, 105, 101, 108, 100, 115, 32, 84, 111, 111, 32, 76, 97, 114, 103, 101] : Bytes)) (500 : Int) ([73, 110, 116, 101, 114, 110, 97, 108, 32, 69, 114, 114, 111, 114] : Bytes)) (502 : Int) ([66, 97, 100, 32, 71, 97, 116, 101, 119, 97, 121] : Bytes)) (504 : Int) ([71, 97, 116, 101, 119, 97, 121, 32, 84, 105, 109, 101, 111, 117, 116] : Bytes)) a0) (And.intro (look_map (AV.int .i64) AV.str (keyB_int .i64) ([] : Bytes) rfl a0 (mins (mins (mins (mins (mins (mins (mins (mins (mins ([] : List (Int × Bytes)) (200 : Int) ([79, 75] : Bytes)) (304 : Int) ([78, 111, 116, 32, 77, 111, 100, 105, 102, 105, 101, 100] : Bytes)) (400 : Int) ([66, 97, 100, 32, 82, 101, 113, 117, 101, 115, 116] : Bytes)) (404 : Int) ([78, 111, 116, 32, 70, 111, 117, 110, 100] : Bytes)) (413 : Int) ([84, 111, 111, 32, 76, 97, 114, 103, 101] : Bytes)) (431 : Int) ([70, 105, 101, 108, 100, 115, 32, 84, 111, 111, 32, 76, 97, 114, 103, 101] : Bytes)) (500 : Int) ([73, 110, 116, 101, 114, 110, 97, 108, 32, 69, 114, 114, 111, 114] : Bytes)) (502 : Int) ([66, 97, 100, 32, 71, 97, 116, 101, 119, 97, 121] : Bytes)) (504 : Int) ([71, 97, 116, 101, 119, 97, 121, 32, 84, 105, 109, 101, 111, 117, 116] : Bytes))) ?_)))
  refine SeqN.via (St.of [⟨3, AV.str (mget ([] : Bytes) (mins (mins (mins (mins (mins (mins (mins (mins (mins ([] : List (Int × Bytes)) (200 : Int) ([79, 75] : Bytes)) (304 : Int) ([78, 111, 116, 32, 77, 111, 100, 105, 102, 105, 101, 100] : Bytes)) (400 : Int) ([66, 97, 100, 32, 82, 101, 113, 117, 101, 115, 116] : Bytes)) (404 : Int) ([78, 111, 116, 32, 70, 111, 117, 110, 100] : Bytes)) (413 : Int) ([84, 111, 111, 32, 76, 97, 114, 103, 101] : Bytes)) (431 : Int) ([70, 105, 101, 108, 100, 115, 32, 84, 111, 111, 32, 76, 97, 114, 103, 101] : Bytes)) (500 : Int) ([73, 110, 116, 101, 114, 110, 97, 108, 32, 69, 114, 114, 111, 114] : Bytes)) (502 : Int) ([66, 97, 100, 32, 71, 97, 116, 101, 119, 97, 121] : Bytes)) (504 : Int) ([71, 97, 116, 101, 119, 97, 121, 32, 84, 105, 109, 101, 111, 117, 116] : Bytes)) a0), none⟩, ⟨4, AV.bool (mhas (mins (mins (mins (mins (mins (mins (mins (mins (mins ([] : List (Int × Bytes)) (200 : Int) ([79, 75] : Bytes)) (304 : Int) ([78, 111, 116, 32, 77, 111, 100, 105, 102, 105, 101, 100] : Bytes)) (400 : Int) ([66, 97, 100, 32, 82, 101, 113, 117, 101, 115, 116] : Bytes)) (404 : Int) ([78, 111, 116, 32, 70, 111, 117, 110, 100] : Bytes)) (413 : Int) ([84, 111, 111, 32, 76, 97, 114, 103, 101] : Bytes)) (431 : Int) ([70, 105, 101, 108, 100, 115, 32, 84, 111, 111, 32, 76, 97, 114, 103, 101] : Bytes)) (500 : Int) ([73, 110, 116, 101, 114, 110, 97, 108, 32, 69, 114, 114, 111, 114] : Bytes)) (502 : Int) ([66, 97, 100, 32, 71, 97, 116, 101, 119, 97, 121] : Bytes)) (504 : Int) ([71, 97, 116, 101, 119, 97, 121, 32, 84, 105, 109, 101, 111, 117, 116] : Bytes)) a0), none⟩] [] []) ?_ ?_
  · refine Gho.to [⟨3, AV.str (mget ([] : Bytes) (mins (mins (mins (mins (mins (mins (mins (mins (mins ([] : List (Int × Bytes)) (200 : Int) ([79, 75] : Bytes)) (304 : Int) ([78, 111, 116, 32, 77, 111, 100, 105, 102, 105, 101, 100] : Bytes)) (400 : Int) ([66, 97, 100, 32, 82, 101, 113, 117, 101, 115, 116] : Bytes)) (404 : Int) ([78, 111, 116, 32, 70, 111, 117, 110, 100] : Bytes)) (413 : Int) ([84, 111, 111, 32, 76, 97, 114, 103, 101] : Bytes)) (431 : Int) ([70, 105, 101, 108, 100, 115, 32, 84, 111, 111, 32, 76, 97, 114, 103, 101] : Bytes)) (500 : Int) ([73, 110, 116, 101, 114, 110, 97, 108, 32, 69, 114, 114, 111, 114] : Bytes)) (502 : Int) ([66, 97, 100, 32, 71, 97, 116, 101, 119, 97, 121] : Bytes)) (504 : Int) ([71, 97, 116, 101, 119, 97, 121, 32, 84, 105, 109, 101, 111, 117, 116] : Bytes)) a0), none⟩, ⟨4, AV.bool (mhas (mins (mins (mins (mins (mins (mins (mins (mins (mins ([] : List (Int × Bytes)) (200 : Int) ([79, 75] : Bytes)) (304 : Int) ([78, 111, 116, 32, 77, 111, 100, 105, 102, 105, 101, 100] : Bytes)) (400 : Int) ([66, 97, 100, 32, 82, 101, 113, 117, 101, 115, 116] : Bytes)) (404 : Int) ([78, 111, 116, 32, 70, 111, 117, 110, 100] : Bytes)) (413 : Int) ([84, 111, 111, 32, 76, 97, 114, 103, 101] : Bytes)) (431 : Int) ([70, 105, 101, 108, 100, 115, 32, 84, 111, 111, 32, 76, 97, 114, 103, 101] : Bytes)) (500 : Int) ([73, 110, 116, 101, 114, 110, 97, 108, 32, 69, 114, 114, 111, 114] : Bytes)) (502 : Int) ([66, 97, 100, 32, 71, 97, 116, 101, 119, 97, 121] : Bytes)) (504 : Int) ([71, 97, 116, 101, 119, 97, 121, 32, 84, 105, 109, 101, 111, 117, 116] : Bytes)) a0), none⟩] [] [] [] ?_ ?_ ?_ rfl rfl ?_
    · exact trivial
    · exact rfl
    · exact rfl
    · exact ⟨rfl, rfl, trivial, rfl, rfl, trivial, trivial⟩
  refine SeqJ.go ?_
  refine SeqJ.go ?_
  refine SeqN.go ?_
  refine Br.mk (fun ht => ?_) (fun ht => ?_)
  · replace h := cond_tt h ht
    refine SeqJ.go ?_
    refine SeqN.go ?_
    replace h := Option.some.inj h
    refine RetE.plain ?_
    exact And.intro rfl (And.intro (congrArg (fun r : Bytes => AV.str r) h) rfl)
  · replace h := cond_ff h ht
    refine SeqN.go ?_
    refine SeqJ.go ?_
    refine SeqN.go ?_
    replace h := Option.some.inj h
    refine RetE.plain ?_
    exact And.intro rfl (And.intro (congrArg (fun r : Bytes => AV.str r) h) rfl)

theorem intarsiaref06_Reason_ok (E : Pm.Env) [LaidE E] (a0 : Int) (r : Bytes) (h : intarsiaref06_Reason a0 = some r) : FnR E Tryd.prog 33 [AV.int .i64 a0] (AV.str r) false := by
  refine FnR.of_ev (T := T) (rows := []) tOk mixed Tryd.func33 rfl (by kernel_rfl) (by kernel_rfl) rfl fun hwf => ?_
  unfold intarsiaref06_Reason at h
  refine SeqJ.go ?_
  refine SeqN.go ?_
  refine SeqJ.go ?_
  refine And.intro ⟨rfl, rfl, rfl, rfl⟩ ?_
  refine And.intro ⟨rfl, rfl, rfl, rfl⟩ ?_
  refine And.intro ⟨rfl, rfl, rfl, rfl⟩ ?_
  refine And.intro ⟨rfl, rfl, rfl, rfl⟩ ?_
  refine And.intro ⟨rfl, rfl, rfl, rfl⟩ ?_
  refine And.intro ⟨rfl, rfl, rfl, rfl⟩ ?_
  refine And.intro ⟨rfl, rfl, rfl, rfl⟩ ?_
  refine And.intro ⟨rfl, rfl, rfl, rfl⟩ ?_
  refine And.intro ⟨rfl, rfl, rfl, rfl⟩ ?_
  refine And.intro ⟨rfl, rfl, rfl⟩ ?_
  refine NormE.to (AV.list 1 (([(200 : Int), (304 : Int), (400 : Int), (404 : Int), (413 : Int), (431 : Int), (500 : Int), (502 : Int), (504 : Int)] : List Int).map (AV.int .i64))) (fun _ => rfl) ?_
  refine SeqN.go ?_
  refine SeqJ.go ?_
  refine And.intro ⟨rfl, rfl, rfl, rfl⟩ ?_
  refine And.intro ⟨rfl, rfl, rfl, rfl⟩ ?_
  refine And.intro ⟨rfl, rfl, rfl, rfl⟩ ?_
  refine And.intro ⟨rfl, rfl, rfl, rfl⟩ ?_
  refine And.intro ⟨rfl, rfl, rfl, rfl⟩ ?_
  refine And.intro ⟨rfl, rfl, rfl, rfl⟩ ?_
  refine And.intro ⟨rfl, rfl, rfl, rfl⟩ ?_
  refine And.intro ⟨rfl, rfl, rfl, rfl⟩ ?_
  refine And.intro ⟨rfl, rfl, rfl, rfl⟩ ?_
  refine And.intro ⟨rfl, rfl, rfl⟩ ?_
  refine NormE.to (AV.list 1 (([([79, 75] : Bytes), ([78, 111, 116, 32, 77, 111, 100, 105, 102, 105, 101, 100] : Bytes), ([66, 97, 100, 32, 82, 101, 113, 117, 101, 115, 116] : Bytes), ([78, 111, 116, 32, 70, 111, 117, 110, 100] : Bytes), ([84, 111, 111, 32, 76, 97, 114, 103, 101] : Bytes), ([70, 105, 101, 108, 100, 115, 32, 84, 111, 111, 32, 76, 97, 114, 103, 101] : Bytes), ([73, 110, 116, 101, 114, 110, 97, 108, 32, 69, 114, 114, 111, 114] : Bytes), ([66, 97, 100, 32, 71, 97, 116, 101, 119, 97, 121] : Bytes), ([71, 97, 116, 101, 119, 97, 121, 32, 84, 105, 109, 101, 111, 117, 116] : Bytes)] : List Bytes).map AV.str)) (fun _ => rfl) ?_
  refine SeqN.go ?_
  refine SeqJ.go ?_
  refine SeqJ.go ?_
  refine NormE.to (AV.int .i64 (([(200 : Int), (304 : Int), (400 : Int), (404 : Int), (413 : Int), (431 : Int), (500 : Int), (502 : Int), (504 : Int)] : List Int).length : Int)) (fun _ => len_list (AV.int .i64) ([(200 : Int), (304 : Int), (400 : Int), (404 : Int), (413 : Int), (431 : Int), (500 : Int), (502 : Int), (504 : Int)] : List Int)) ?_
  refine SeqN.go ?_
  refine LoopE.img (fun x : Int => St.of [⟨0, AV.int .i64 a0, none⟩, ⟨4, AV.list 1 (([([79, 75] : Bytes), ([78, 111, 116, 32, 77, 111, 100, 105, 102, 105, 101, 100] : Bytes), ([66, 97, 100, 32, 82, 101, 113, 117, 101, 115, 116] : Bytes), ([78, 111, 116, 32, 70, 111, 117, 110, 100] : Bytes), ([84, 111, 111, 32, 76, 97, 114, 103, 101] : Bytes), ([70, 105, 101, 108, 100, 115, 32, 84, 111, 111, 32, 76, 97, 114, 103, 101] : Bytes), ([73, 110, 116, 101, 114, 110, 97, 108, 32, 69, 114, 114, 111, 114] : Bytes), ([66, 97, 100, 32, 71, 97, 116, 101, 119, 97, 121] : Bytes), ([71, 97, 116, 101, 119, 97, 121, 32, 84, 105, 109, 101, 111, 117, 116] : Bytes)] : List Bytes).map AV.str), some 0⟩, ⟨9, AV.list 1 (([(200 : Int), (304 : Int), (400 : Int), (404 : Int), (413 : Int), (431 : Int), (500 : Int), (502 : Int), (504 : Int)] : List Int).map (AV.int .i64)), some 1⟩, ⟨10, AV.int .i64 (([(200 : Int), (304 : Int), (400 : Int), (404 : Int), (413 : Int), (431 : Int), (500 : Int), (502 : Int), (504 : Int)] : List Int).length : Int), none⟩, ⟨11, AV.int .i64 x, none⟩] [] [2, 2]) (intarsiaref06_Reason_b1 a0) (0 : Int) h ?_ ?_
  · refine Gho.to [⟨0, AV.int .i64 a0, none⟩, ⟨4, AV.list 1 (([([79, 75] : Bytes), ([78, 111, 116, 32, 77, 111, 100, 105, 102, 105, 101, 100] : Bytes), ([66, 97, 100, 32, 82, 101, 113, 117, 101, 115, 116] : Bytes), ([78, 111, 116, 32, 70, 111, 117, 110, 100] : Bytes), ([84, 111, 111, 32, 76, 97, 114, 103, 101] : Bytes), ([70, 105, 101, 108, 100, 115, 32, 84, 111, 111, 32, 76, 97, 114, 103, 101] : Bytes), ([73, 110, 116, 101, 114, 110, 97, 108, 32, 69, 114, 114, 111, 114] : Bytes), ([66, 97, 100, 32, 71, 97, 116, 101, 119, 97, 121] : Bytes), ([71, 97, 116, 101, 119, 97, 121, 32, 84, 105, 109, 101, 111, 117, 116] : Bytes)] : List Bytes).map AV.str), some 0⟩, ⟨9, AV.list 1 (([(200 : Int), (304 : Int), (400 : Int), (404 : Int), (413 : Int), (431 : Int), (500 : Int), (502 : Int), (504 : Int)] : List Int).map (AV.int .i64)), some 1⟩, ⟨10, AV.int .i64 (([(200 : Int), (304 : Int), (400 : Int), (404 : Int), (413 : Int), (431 : Int), (500 : Int), (502 : Int), (504 : Int)] : List Int).length : Int), none⟩, ⟨11, AV.int .i64 (0 : Int), none⟩] [] [2, 2] [1, 0] ?_ ?_ ?_ rfl rfl ?_
    · exact trivial
    · exact rfl
    · exact rfl
    · exact ⟨rfl, rfl, trivial, rfl, rfl, ⟨rfl, rfl⟩, rfl, rfl, ⟨rfl, rfl⟩, rfl, rfl, trivial, rfl, rfl, trivial, trivial⟩
  intro n1 x y1 h hl1 hr1
  revert h; revert x; intro s1 h
  unfold intarsiaref06_Reason_b1 at h
  refine SeqJ.go ?_
  refine SeqN.go ?_
  refine SeqJ.go ?_
  refine Br.mk (fun ht => ?_) (fun ht => ?_)
  · replace h := cond_tt h ht
    refine SeqN.go ?_
    refine SeqJ.go ?_
    refine SeqJ.go ?_
    refine bind_elim h fun x2 hx2 h => ?_
    refine And.intro rfl (Exists.intro (AV.int .i64 x2) (And.intro (fun hg => idx_map _ hx2) ?_))
    refine SeqN.go ?_
    refine SeqJ.go ?_
    refine SeqN.go ?_
    refine Br.mk (fun ht => ?_) (fun ht => ?_)
    · replace h := cond_tt h ht
      refine SeqJ.go ?_
      refine bind_elim h fun x3 hx3 h => ?_
      refine And.intro rfl (Exists.intro (AV.str x3) (And.intro (fun hg => idx_map _ hx3) ?_))
      refine SeqN.go ?_
      replace h := Option.some.inj h
      replace h := hr1 _ h.symm
      refine RetE.plain ?_
      exact And.intro rfl (And.intro (congrArg (fun r : Bytes => AV.str r) h) rfl)
    · replace h := cond_ff h ht
      refine SeqN.go ?_
      replace h := Option.some.inj h
      refine Exists.intro ⟨(n1, (IntKind.i64.wrap (s1 + (1 : Int)))), hl1 _ h.symm⟩ (And.intro (Nat.lt_succ_self _) ?_)
      refine Gho.to [⟨0, AV.int .i64 a0, none⟩, ⟨4, AV.list 1 (([([79, 75] : Bytes), ([78, 111, 116, 32, 77, 111, 100, 105, 102, 105, 101, 100] : Bytes), ([66, 97, 100, 32, 82, 101, 113, 117, 101, 115, 116] : Bytes), ([78, 111, 116, 32, 70, 111, 117, 110, 100] : Bytes), ([84, 111, 111, 32, 76, 97, 114, 103, 101] : Bytes), ([70, 105, 101, 108, 100, 115, 32, 84, 111, 111, 32, 76, 97, 114, 103, 101] : Bytes), ([73, 110, 116, 101, 114, 110, 97, 108, 32, 69, 114, 114, 111, 114] : Bytes), ([66, 97, 100, 32, 71, 97, 116, 101, 119, 97, 121] : Bytes), ([71, 97, 116, 101, 119, 97, 121, 32, 84, 105, 109, 101, 111, 117, 116] : Bytes)] : List Bytes).map AV.str), some 0⟩, ⟨9, AV.list 1 (([(200 : Int), (304 : Int), (400 : Int), (404 : Int), (413 : Int), (431 : Int), (500 : Int), (502 : Int), (504 : Int)] : List Int).map (AV.int .i64)), some 1⟩, ⟨10, AV.int .i64 (([(200 : Int), (304 : Int), (400 : Int), (404 : Int), (413 : Int), (431 : Int), (500 : Int), (502 : Int), (504 : Int)] : List Int).length : Int), none⟩, ⟨11, AV.int .i64 (IntKind.i64.wrap (s1 + (1 : Int))), none⟩] [] [2, 2] [0, 1] ?_ ?_ ?_ rfl rfl ?_
      · exact trivial
      · exact rfl
      · exact rfl
      · exact ⟨rfl, rfl, trivial, rfl, rfl, ⟨rfl, rfl⟩, rfl, rfl, ⟨rfl, rfl⟩, rfl, rfl, trivial, rfl, rfl, trivial, trivial⟩
  · replace h := cond_ff h ht
    refine SeqN.go ?_
    refine SeqJ.go ?_
    refine SeqN.go ?_
    replace h := Option.some.inj h
    replace h := hr1 _ h.symm
    refine RetE.plain ?_
    exact And.intro rfl (And.intro (congrArg (fun r : Bytes => AV.str r) h) rfl)

theorem intarsialaw06_StartReads_ok (E : Pm.Env) [LaidE E] (a0 : S_Start) (a1 : Bytes) (a2 : Int) (r : Bool) (h : intarsialaw06_StartReads a0 a1 a2 = some r) : FnR E Tryd.prog 8 [S_Start.av a0, AV.str a1, AV.int .i64 a2] (AV.bool r) false := by
  refine FnR.of_ev (T := T) (rows := []) tOk mixed Tryd.func8 rfl (by kernel_rfl) (by kernel_rfl) rfl fun hwf => ?_
  unfold intarsialaw06_StartReads at h
  refine SeqJ.go ?_
  refine And.intro rfl ?_
  refine SeqN.go ?_
  refine SeqJ.go ?_
  refine And.intro ⟨Nat.le_of_ble_eq_true rfl, Nat.le_of_ble_eq_true rfl⟩ ?_
  refine NormE.to (S_Start.av a0) (fun _ => rfl) ?_
  refine bind_elim h fun x1 hx1 h => ?_
  refine CallH.data _ false rfl (intarsialaw06_few_ok E a0 x1 hx1) ?_
  refine NormE.same ?_
  refine And.intro rfl ?_
  refine bind_elim h fun x2 hx2 h => ?_
  have qx2 := (slc_some hx2).1
  have hx2e := (slc_some hx2).2
  refine And.intro (fun _ => qx2) ?_
  refine NormE.to (AV.str x2) (fun _ => congrArg AV.str hx2e.symm) ?_
  refine And.intro ⟨rfl, rfl, rfl, Nat.le_of_ble_eq_true rfl⟩ (Exists.intro (S_Start.cells x1) (And.intro (fun _ => rfl) ?_))
  refine And.intro (by kernel_rfl) ?_
  refine SeqN.go ?_
  refine SeqJ.go ?_
  refine And.intro ⟨Nat.le_of_ble_eq_true rfl, Nat.le_of_ble_eq_true rfl⟩ ?_
  refine NormE.to (S_Start.av x1) (fun _ => rfl) ?_
  refine bind_elim h fun x3 hx3 h => ?_
  refine CallH.data _ false rfl (start_Print_ok E x1 x3 hx3) ?_
  refine SeqN.via (St.of [⟨1, AV.str x2, none⟩, ⟨2, AV.int .i64 a2, none⟩, ⟨3, AV.ptr 0 0, none⟩, ⟨7, AV.str (x3.1), none⟩, ⟨8, AV.int .i64 (x3.2), none⟩] [.cells 23 (S_Start.cells x1) []] []) ?_ ?_
  · refine Gho.to [⟨1, AV.str x2, none⟩, ⟨2, AV.int .i64 a2, none⟩, ⟨3, AV.ptr 0 0, none⟩, ⟨7, AV.str (x3.1), none⟩, ⟨8, AV.int .i64 (x3.2), none⟩] [.cells 23 (S_Start.cells x1) []] [] [] ?_ ?_ ?_ rfl rfl ?_
    · exact ⟨⟨rfl, rfl, rfl⟩, trivial⟩
    · exact rfl
    · exact rfl
    · exact ⟨rfl, rfl, trivial, rfl, rfl, trivial, rfl, rfl, trivial, rfl, rfl, trivial, rfl, rfl, trivial, trivial⟩
  refine SeqJ.go ?_
  refine bind_elim h fun x4 hx4 h => ?_
  refine CallH.data _ false rfl (start_Parse_ok E x2 x4 hx4) ?_
  refine And.intro rfl ?_
  refine And.intro ⟨rfl, rfl, rfl, Nat.le_of_ble_eq_true rfl⟩ (Exists.intro (S_Start.cells (x4.1)) (And.intro (fun _ => rfl) ?_))
  refine SeqN.go ?_
  refine SeqJ.go ?_
  refine bind_elim h fun x5 hx5 h => ?_
  refine CallH.data _ false rfl (intarsiaref06_Parse_ok E x2 x5 hx5) ?_
  refine And.intro rfl ?_
  refine And.intro ⟨rfl, rfl, rfl, Nat.le_of_ble_eq_true rfl⟩ (Exists.intro (S_Start.cells (x5.1)) (And.intro (fun _ => rfl) ?_))
  refine SeqN.via (St.of [⟨1, AV.str x2, none⟩, ⟨2, AV.int .i64 a2, none⟩, ⟨3, AV.ptr 0 0, none⟩, ⟨7, AV.str (x3.1), none⟩, ⟨8, AV.int .i64 (x3.2), none⟩, ⟨9, AV.ptr 1 0, none⟩, ⟨10, AV.int .i64 (x4.2), none⟩, ⟨11, AV.ptr 2 0, none⟩, ⟨12, AV.int .i64 (x5.2), none⟩] [.cells 23 (S_Start.cells x1) [], .cells 23 (S_Start.cells (x4.1)) [], .cells 23 (S_Start.cells (x5.1)) []] []) ?_ ?_
  · refine Gho.to [⟨1, AV.str x2, none⟩, ⟨2, AV.int .i64 a2, none⟩, ⟨3, AV.ptr 0 0, none⟩, ⟨7, AV.str (x3.1), none⟩, ⟨8, AV.int .i64 (x3.2), none⟩, ⟨9, AV.ptr 1 0, none⟩, ⟨10, AV.int .i64 (x4.2), none⟩, ⟨11, AV.ptr 2 0, none⟩, ⟨12, AV.int .i64 (x5.2), none⟩] [.cells 23 (S_Start.cells x1) [], .cells 23 (S_Start.cells (x4.1)) [], .cells 23 (S_Start.cells (x5.1)) []] [] [] ?_ ?_ ?_ rfl rfl ?_
    · exact ⟨⟨rfl, rfl, rfl⟩, ⟨⟨rfl, rfl, rfl⟩, ⟨⟨rfl, rfl, rfl⟩, trivial⟩⟩⟩
    · exact rfl
    · exact rfl
    · exact ⟨rfl, rfl, trivial, rfl, rfl, trivial, rfl, rfl, trivial, rfl, rfl, trivial, rfl, rfl, trivial, rfl, rfl, trivial, rfl, rfl, trivial, rfl, rfl, trivial, rfl, rfl, trivial, trivial⟩
  refine SeqJ.go ?_
  refine bind_elim h fun x6 hx6 h => ?_
  refine CallH.data _ false rfl (start_Status_ok E x2 x6 hx6) ?_
  refine And.intro rfl ?_
  refine And.intro ⟨rfl, rfl, rfl, Nat.le_of_ble_eq_true rfl⟩ (Exists.intro (S_Start.cells (x6.1)) (And.intro (fun _ => rfl) ?_))
  refine SeqN.go ?_
  refine SeqJ.go ?_
  refine bind_elim h fun x7 hx7 h => ?_
  refine CallH.data _ false rfl (intarsiaref06_Status_ok E x2 x7 hx7) ?_
  refine And.intro rfl ?_
  refine And.intro ⟨rfl, rfl, rfl, Nat.le_of_ble_eq_true rfl⟩ (Exists.intro (S_Start.cells (x7.1)) (And.intro (fun _ => rfl) ?_))
  refine SeqN.via (St.of [⟨2, AV.int .i64 a2, none⟩, ⟨3, AV.ptr 0 0, none⟩, ⟨7, AV.str (x3.1), none⟩, ⟨8, AV.int .i64 (x3.2), none⟩, ⟨9, AV.ptr 1 0, none⟩, ⟨10, AV.int .i64 (x4.2), none⟩, ⟨11, AV.ptr 2 0, none⟩, ⟨12, AV.int .i64 (x5.2), none⟩, ⟨13, AV.ptr 3 0, none⟩, ⟨14, AV.int .i64 (x6.2), none⟩, ⟨15, AV.ptr 4 0, none⟩, ⟨16, AV.int .i64 (x7.2), none⟩] [.cells 23 (S_Start.cells x1) [], .cells 23 (S_Start.cells (x4.1)) [], .cells 23 (S_Start.cells (x5.1)) [], .cells 23 (S_Start.cells (x6.1)) [], .cells 23 (S_Start.cells (x7.1)) []] []) ?_ ?_
  · refine Gho.to [⟨2, AV.int .i64 a2, none⟩, ⟨3, AV.ptr 0 0, none⟩, ⟨7, AV.str (x3.1), none⟩, ⟨8, AV.int .i64 (x3.2), none⟩, ⟨9, AV.ptr 1 0, none⟩, ⟨10, AV.int .i64 (x4.2), none⟩, ⟨11, AV.ptr 2 0, none⟩, ⟨12, AV.int .i64 (x5.2), none⟩, ⟨13, AV.ptr 3 0, none⟩, ⟨14, AV.int .i64 (x6.2), none⟩, ⟨15, AV.ptr 4 0, none⟩, ⟨16, AV.int .i64 (x7.2), none⟩] [.cells 23 (S_Start.cells x1) [], .cells 23 (S_Start.cells (x4.1)) [], .cells 23 (S_Start.cells (x5.1)) [], .cells 23 (S_Start.cells (x6.1)) [], .cells 23 (S_Start.cells (x7.1)) []] [] [] ?_ ?_ ?_ rfl rfl ?_
    · exact ⟨⟨rfl, rfl, rfl⟩, ⟨⟨rfl, rfl, rfl⟩, ⟨⟨rfl, rfl, rfl⟩, ⟨⟨rfl, rfl, rfl⟩, ⟨⟨rfl, rfl, rfl⟩, trivial⟩⟩⟩⟩⟩
    · exact rfl
    · exact rfl
    · exact ⟨rfl, rfl, trivial, rfl, rfl, trivial, rfl, rfl, trivial, rfl, rfl, trivial, rfl, rfl, trivial, rfl, rfl, trivial, rfl, rfl, trivial, rfl, rfl, trivial, rfl, rfl, trivial, rfl, rfl, trivial, rfl, rfl, trivial, rfl, rfl, trivial, trivial⟩
  refine SeqJ.go ?_
  refine SeqJ.go ?_
  refine And.intro ⟨Nat.le_of_ble_eq_true rfl, Nat.le_of_ble_eq_true rfl⟩ ?_
  refine NormE.to (S_Start.av (x4.1)) (fun _ => rfl) ?_
  refine And.intro ⟨Nat.le_of_ble_eq_true rfl, Nat.le_of_ble_eq_true rfl⟩ ?_
  refine NormE.to (S_Start.av (x5.1)) (fun _ => rfl) ?_
  refine And.intro rfl ?_
  refine And.intro (fun hg => hg) ?_
  refine And.intro (fun hg => hg) ?_
  refine And.intro (fun hg => (and_r hg)) ?_
  refine And.intro ⟨Nat.le_of_ble_eq_true rfl, Nat.le_of_ble_eq_true rfl⟩ ?_
  refine NormE.to (S_Start.av (x6.1)) (fun _ => rfl) ?_
  refine And.intro ⟨Nat.le_of_ble_eq_true rfl, Nat.le_of_ble_eq_true rfl⟩ ?_
  refine NormE.to (S_Start.av (x7.1)) (fun _ => rfl) ?_
  refine And.intro (fun hg => hg) ?_
  refine And.intro (fun hg => hg) ?_
  refine And.intro rfl ?_
  refine And.intro (fun hg => (and_r hg)) ?_
  refine And.intro (fun hg => hg) ?_
  refine And.intro (fun hg => hg) ?_
  refine And.intro (fun hg => (and_r hg)) ?_
  refine And.intro ⟨Nat.le_of_ble_eq_true rfl, Nat.le_of_ble_eq_true rfl⟩ ?_
  refine NormE.to (S_Start.av x1) (fun _ => rfl) ?_
  refine bind_elim h fun x8 hx8 h => ?_
  refine And.intro (fun hg => hg) ?_
  refine And.intro rfl ?_
  refine CallF.mk _ false (fun hg => start_Right_ok E x1 x8 (gcall_some hx8 hg)) (And.intro rfl ?_)
  refine And.intro ⟨Nat.le_of_ble_eq_true rfl, Nat.le_of_ble_eq_true rfl⟩ ?_
  refine NormE.to (S_Start.av x1) (fun _ => rfl) ?_
  refine bind_elim h fun x9 hx9 h => ?_
  refine And.intro (fun hg => hg) ?_
  refine And.intro rfl ?_
  refine CallF.mk _ false (fun hg => intarsiaref06_Right_ok E x1 x9 (gcall_some hx9 hg)) (And.intro rfl ?_)
  refine And.intro (fun hg => hg) ?_
  refine And.intro (fun hg => hg) ?_
  refine And.intro rfl ?_
  refine And.intro (fun hg => (and_r hg)) ?_
  refine bind_elim h fun x10 hx10 h => ?_
  refine And.intro (fun hg => hg) ?_
  refine And.intro rfl ?_
  refine CallF.mk _ false (fun hg => start_Reason_ok E a2 x10 (gcall_some hx10 hg)) (And.intro rfl ?_)
  refine bind_elim h fun x11 hx11 h => ?_
  refine And.intro (fun hg => hg) ?_
  refine And.intro rfl ?_
  refine CallF.mk _ false (fun hg => intarsiaref06_Reason_ok E a2 x11 (gcall_some hx11 hg)) (And.intro rfl ?_)
  refine And.intro (fun hg => hg) ?_
  refine And.intro (fun hg => hg) ?_
  refine And.intro (fun hg => (and_r hg)) ?_
  refine bind_elim h fun x12 hx12 h => ?_
  refine And.intro rfl ?_
  refine CallF.mk _ false (fun hg => intarsialaw06_alive_ok E  x12 (gcall_some hx12 hg)) (And.intro rfl ?_)
  refine And.intro (fun hg => hg) ?_
  refine And.intro (fun hg => (and_r hg)) ?_
  refine And.intro (by kernel_rfl) ?_
  refine SeqN.via (St.of [⟨3, AV.ptr 0 0, none⟩, ⟨7, AV.str (x3.1), none⟩, ⟨8, AV.int .i64 (x3.2), none⟩, ⟨84, AV.bool (bif (bif (bif (bif (bif (bif (!((((x4.1).Method) == ((x5.1).Method)) && ((((x4.1).Target) == ((x5.1).Target)) && ((((x4.1).Code) == ((x5.1).Code)) && ((((x4.1).Reason) == ((x5.1).Reason)) && ((((x4.1).Minor) == ((x5.1).Minor)) && true)))))) then true else ((x4.2) != (x5.2))) then true else (!((((x6.1).Method) == ((x7.1).Method)) && ((((x6.1).Target) == ((x7.1).Target)) && ((((x6.1).Code) == ((x7.1).Code)) && ((((x6.1).Reason) == ((x7.1).Reason)) && ((((x6.1).Minor) == ((x7.1).Minor)) && true))))))) then true else ((x6.2) != (x7.2))) then true else (!(x8 == x9))) then true else (!(x10 == x11))) then true else (!x12)), none⟩] [.cells 23 (S_Start.cells x1) []] []) ?_ ?_
  · refine Gho.to [⟨3, AV.ptr 0 0, none⟩, ⟨7, AV.str (x3.1), none⟩, ⟨8, AV.int .i64 (x3.2), none⟩, ⟨84, AV.bool (bif (bif (bif (bif (bif (bif (!((((x4.1).Method) == ((x5.1).Method)) && ((((x4.1).Target) == ((x5.1).Target)) && ((((x4.1).Code) == ((x5.1).Code)) && ((((x4.1).Reason) == ((x5.1).Reason)) && ((((x4.1).Minor) == ((x5.1).Minor)) && true)))))) then true else ((x4.2) != (x5.2))) then true else (!((((x6.1).Method) == ((x7.1).Method)) && ((((x6.1).Target) == ((x7.1).Target)) && ((((x6.1).Code) == ((x7.1).Code)) && ((((x6.1).Reason) == ((x7.1).Reason)) && ((((x6.1).Minor) == ((x7.1).Minor)) && true))))))) then true else ((x6.2) != (x7.2))) then true else (!(x8 == x9))) then true else (!(x10 == x11))) then true else (!x12)), none⟩] [.cells 23 (S_Start.cells x1) []] [] [] ?_ ?_ ?_ rfl rfl ?_
    · exact ⟨⟨rfl, rfl, rfl⟩, trivial⟩
    · exact rfl
    · exact rfl
    · exact ⟨rfl, rfl, trivial, rfl, rfl, trivial, rfl, rfl, trivial, rfl, rfl, trivial, trivial⟩
  refine Br.mk (fun ht => ?_) (fun ht => ?_)
  · replace h := cond_tt h ht
    refine SeqJ.go ?_
    refine SeqN.go ?_
    replace h := Option.some.inj h
    refine RetE.plain ?_
    exact And.intro rfl (And.intro (congrArg (fun r : Bool => AV.bool r) h) rfl)
  · replace h := cond_ff h ht
    refine SeqN.go ?_
    refine SeqJ.go ?_
    refine SeqJ.go ?_
    refine And.intro ⟨Nat.le_of_ble_eq_true rfl, Nat.le_of_ble_eq_true rfl⟩ ?_
    refine NormE.to (S_Start.av x1) (fun _ => rfl) ?_
    refine bind_elim h fun x13 hx13 h => ?_
    refine CallH.data _ false rfl (intarsiaref06_Right_ok E x1 x13 hx13) ?_
    refine SeqN.go ?_
    refine Br.mk (fun ht => ?_) (fun ht => ?_)
    · replace h := cond_tt h ht
      refine SeqJ.go ?_
      refine And.intro (fun hg => hg) ?_
      refine And.intro (fun hg => (and_r hg)) ?_
      refine SeqN.go ?_
      replace h := Option.some.inj h
      refine RetE.plain ?_
      exact And.intro rfl (And.intro (congrArg (fun r : Bool => AV.bool r) h) rfl)
    · replace h := cond_ff h ht
      refine SeqN.go ?_
      refine SeqJ.go ?_
      refine And.intro ⟨Nat.le_of_ble_eq_true rfl, Nat.le_of_ble_eq_true rfl⟩ ?_
      refine NormE.to (S_Start.av x1) (fun _ => rfl) ?_
      refine bind_elim h fun x14 hx14 h => ?_
      refine And.intro (fun hg => hg) ?_
      refine And.intro rfl ?_
      refine CallF.mk _ false (fun hg => intarsiaref06_Print_ok E x1 x14 (gcall_some hx14 hg)) (And.intro rfl ?_)
      refine And.intro (fun hg => hg) ?_
      refine And.intro (fun hg => hg) ?_
      refine And.intro (fun hg => (and_r hg)) ?_
      refine SeqN.go ?_
      replace h := Option.some.inj h
      refine RetE.plain ?_
      exact And.intro rfl (And.intro (congrArg (fun r : Bool => AV.bool r) h) rfl)

end Go.Proofs.YtbgldnleackgeaaDoor
