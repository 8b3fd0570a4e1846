/-
  The functions do what their images say: walks, written by a program of mine (gen.py).
-/
import Derived.Test.YtbgldnleackgeaaDoorIm1
import Derived.Test.YtbgldnleackgeaaDoorWk2
namespace Go.Proofs.YtbgldnleackgeaaDoor
open Go Go.Pm
set_option maxRecDepth 100000
set_option maxHeartbeats 4000000
set_option linter.unusedVariables false

theorem intarsialaw06_StartTold_ok (E : Pm.Env) [LaidE E] (a0 : Bytes) (a1 : Int) (r : Bool) (h : intarsialaw06_StartTold a0 a1 = some r) : FnR E Tryd.prog 9 [AV.str a0, AV.int .i64 a1] (AV.bool r) false := by
  refine FnR.of_ev (T := T) (rows := []) tOk mixed Tryd.func9 rfl (by kernel_rfl) (by kernel_rfl) rfl fun hwf => ?_
  unfold intarsialaw06_StartTold at h
  refine SeqJ.go ?_
  refine SeqN.go ?_
  refine SeqJ.go ?_
  refine NormE.same ?_
  refine And.intro rfl ?_
  refine bind_elim h fun x1 hx1 h => ?_
  have qx1 := (slc_some hx1).1
  have hx1e := (slc_some hx1).2
  refine And.intro (fun _ => qx1) ?_
  refine NormE.to (AV.str x1) (fun _ => congrArg AV.str hx1e.symm) ?_
  refine SeqN.go ?_
  refine SeqJ.go ?_
  refine bind_elim h fun x2 hx2 h => ?_
  refine CallH.data _ false rfl (start_Parse_ok E x1 x2 hx2) ?_
  refine And.intro rfl ?_
  refine And.intro ⟨rfl, rfl, rfl, Nat.le_of_ble_eq_true rfl⟩ (Exists.intro (S_Start.cells (x2.1)) (And.intro (fun _ => rfl) ?_))
  refine SeqN.go ?_
  refine SeqJ.go ?_
  refine bind_elim h fun x3 hx3 h => ?_
  refine CallH.data _ false rfl (start_Status_ok E x1 x3 hx3) ?_
  refine And.intro rfl ?_
  refine And.intro ⟨rfl, rfl, rfl, Nat.le_of_ble_eq_true rfl⟩ (Exists.intro (S_Start.cells (x3.1)) (And.intro (fun _ => rfl) ?_))
  refine SeqN.via (St.of [⟨0, AV.str x1, none⟩, ⟨1, AV.int .i64 a1, none⟩, ⟨5, AV.ptr 0 0, none⟩, ⟨6, AV.int .i64 (x2.2), none⟩, ⟨7, AV.ptr 1 0, none⟩, ⟨8, AV.int .i64 (x3.2), none⟩] [.cells 23 (S_Start.cells (x2.1)) [], .cells 23 (S_Start.cells (x3.1)) []] []) ?_ ?_
  · refine Gho.to [⟨0, AV.str x1, none⟩, ⟨1, AV.int .i64 a1, none⟩, ⟨5, AV.ptr 0 0, none⟩, ⟨6, AV.int .i64 (x2.2), none⟩, ⟨7, AV.ptr 1 0, none⟩, ⟨8, AV.int .i64 (x3.2), none⟩] [.cells 23 (S_Start.cells (x2.1)) [], .cells 23 (S_Start.cells (x3.1)) []] [] [] ?_ ?_ ?_ rfl rfl ?_
    · exact ⟨⟨rfl, rfl, rfl⟩, ⟨⟨rfl, rfl, rfl⟩, trivial⟩⟩
    · exact rfl
    · exact rfl
    · exact ⟨rfl, rfl, trivial, rfl, rfl, trivial, rfl, rfl, trivial, rfl, rfl, trivial, rfl, rfl, trivial, rfl, rfl, trivial, trivial⟩
  refine SeqJ.go ?_
  refine SeqJ.go ?_
  refine And.intro (fun hg => hg) ?_
  refine And.intro (fun hg => hg) ?_
  refine And.intro (fun hg => hg) ?_
  refine And.intro (fun hg => hg) ?_
  refine And.intro (fun hg => hg) ?_
  refine And.intro (fun hg => hg) ?_
  refine And.intro (fun hg => hg) ?_
  refine And.intro (fun hg => hg) ?_
  refine And.intro (fun hg => hg) ?_
  refine NormE.same ?_
  refine And.intro (fun hg => hg) ?_
  refine And.intro (fun hg => hg) ?_
  refine NormE.same ?_
  refine And.intro (fun hg => hg) ?_
  refine And.intro (fun hg => hg) ?_
  refine And.intro (fun hg => hg) ?_
  refine And.intro (fun hg => hg) ?_
  refine NormE.same ?_
  refine And.intro (fun hg => hg) ?_
  refine And.intro (fun hg => hg) ?_
  refine And.intro (fun hg => hg) ?_
  refine And.intro (fun hg => hg) ?_
  refine And.intro (fun hg => (and_r hg)) ?_
  refine SeqN.via (St.of [⟨0, AV.str x1, none⟩, ⟨1, AV.int .i64 a1, none⟩, ⟨7, AV.ptr 1 0, none⟩, ⟨8, AV.int .i64 (x3.2), none⟩, ⟨52, AV.bool (bif ((x2.2) == (0 : Int)) then (bif (bif ((x3.2) == (0 : Int)) then true else (((x2.1).Code) != (0 : Int))) then true else ((IntKind.i64.wrap ((IntKind.i64.wrap ((((x2.1).Method).length : Int) + (((x2.1).Target).length : Int))) + (10 : Int))) != (x1.length : Int))) else false), none⟩] [.dead, .cells 23 (S_Start.cells (x3.1)) []] []) ?_ ?_
  · refine Gho.to [⟨0, AV.str x1, none⟩, ⟨1, AV.int .i64 a1, none⟩, ⟨7, AV.ptr 1 0, none⟩, ⟨8, AV.int .i64 (x3.2), none⟩, ⟨52, AV.bool (bif ((x2.2) == (0 : Int)) then (bif (bif ((x3.2) == (0 : Int)) then true else (((x2.1).Code) != (0 : Int))) then true else ((IntKind.i64.wrap ((IntKind.i64.wrap ((((x2.1).Method).length : Int) + (((x2.1).Target).length : Int))) + (10 : Int))) != (x1.length : Int))) else false), none⟩] [.dead, .cells 23 (S_Start.cells (x3.1)) []] [] [] ?_ ?_ ?_ rfl rfl ?_
    · exact ⟨trivial, ⟨⟨rfl, rfl, rfl⟩, trivial⟩⟩
    · exact rfl
    · exact rfl
    · exact ⟨rfl, rfl, trivial, rfl, rfl, trivial, rfl, rfl, trivial, rfl, rfl, trivial, rfl, rfl, trivial, trivial⟩
  refine Br.mk (fun ht => ?_) (fun ht => ?_)
  · replace h := cond_tt h ht
    refine SeqJ.go ?_
    refine SeqN.go ?_
    replace h := Option.some.inj h
    refine RetE.plain ?_
    exact And.intro rfl (And.intro (congrArg (fun r : Bool => AV.bool r) h) rfl)
  · replace h := cond_ff h ht
    refine SeqN.go ?_
    refine SeqJ.go ?_
    refine SeqJ.go ?_
    refine bind_elim h fun x4 hx4 h => ?_
    have qx4 := (gslc_some hx4).1
    have hx4e := (gslc_some hx4).2
    refine And.intro (fun hg => hg) ?_
    refine And.intro qx4 ?_
    refine NormE.to (AV.str x4) (fun _ => congrArg AV.str hx4e.symm) ?_
    refine And.intro (fun hg => hg) ?_
    refine And.intro (fun hg => hg) ?_
    refine And.intro (fun hg => hg) ?_
    refine And.intro (fun hg => hg) ?_
    refine And.intro (fun hg => hg) ?_
    refine And.intro (fun hg => hg) ?_
    refine And.intro (fun hg => hg) ?_
    refine And.intro (fun hg => hg) ?_
    refine And.intro (fun hg => hg) ?_
    refine And.intro (fun hg => hg) ?_
    refine And.intro (fun hg => hg) ?_
    refine And.intro (fun hg => hg) ?_
    refine And.intro (fun hg => hg) ?_
    refine And.intro (fun hg => hg) ?_
    refine And.intro (fun hg => hg) ?_
    refine And.intro (fun hg => hg) ?_
    refine And.intro (fun hg => hg) ?_
    refine And.intro (fun hg => hg) ?_
    refine And.intro (fun hg => hg) ?_
    refine And.intro (fun hg => hg) ?_
    refine And.intro (fun hg => hg) ?_
    refine And.intro (fun hg => (and_r hg)) ?_
    refine SeqN.via (St.of [⟨1, AV.int .i64 a1, none⟩, ⟨79, AV.bool (bif ((x3.2) == (0 : Int)) then (bif (bif (bif (bif (!(x4 == ([72, 84, 84, 80, 47, 49, 46] : Bytes))) then true else (decide (((x3.1).Code) < (100 : Int)))) then true else (decide (((x3.1).Code) > (599 : Int)))) then true else (!((x3.1).Method == ([] : Bytes)))) then true else (!((x3.1).Target == ([] : Bytes)))) else false), none⟩] [] []) ?_ ?_
    · refine Gho.to [⟨1, AV.int .i64 a1, none⟩, ⟨79, AV.bool (bif ((x3.2) == (0 : Int)) then (bif (bif (bif (bif (!(x4 == ([72, 84, 84, 80, 47, 49, 46] : Bytes))) then true else (decide (((x3.1).Code) < (100 : Int)))) then true else (decide (((x3.1).Code) > (599 : Int)))) then true else (!((x3.1).Method == ([] : Bytes)))) then true else (!((x3.1).Target == ([] : Bytes)))) else false), none⟩] [] [] [] ?_ ?_ ?_ rfl rfl ?_
      · exact trivial
      · exact rfl
      · exact rfl
      · exact ⟨rfl, rfl, trivial, rfl, rfl, trivial, trivial⟩
    refine Br.mk (fun ht => ?_) (fun ht => ?_)
    · replace h := cond_tt h ht
      refine SeqJ.go ?_
      refine SeqN.go ?_
      replace h := Option.some.inj h
      refine RetE.plain ?_
      exact And.intro rfl (And.intro (congrArg (fun r : Bool => AV.bool r) h) rfl)
    · replace h := cond_ff h ht
      refine SeqN.go ?_
      refine SeqJ.go ?_
      refine chk_elim h fun q5 h => ?_
      refine And.intro (fun _ => q5) ?_
      refine chk_elim h fun q6 h => ?_
      refine And.intro (fun _ => q6) ?_
      refine SeqN.go ?_
      refine SeqJ.go ?_
      refine bind_elim h fun x7 hx7 h => ?_
      refine CallH.data _ false rfl (start_Reason_ok E (IntKind.i64.wrap ((100 : Int) + ((IntKind.i64.wrap ((a1.tmod (500 : Int)) + (500 : Int))).tmod (500 : Int)))) x7 hx7) ?_
      refine And.intro ⟨rfl, rfl, Nat.le_of_ble_eq_true rfl⟩ ?_
      refine And.intro ⟨rfl, rfl, Nat.le_of_ble_eq_true rfl⟩ ?_
      refine And.intro ⟨rfl, rfl, Nat.le_of_ble_eq_true rfl⟩ ?_
      refine And.intro rfl ?_
      refine And.intro ⟨rfl, rfl, rfl, Nat.le_of_ble_eq_true rfl⟩ (Exists.intro [AV.str ([] : Bytes), AV.str ([] : Bytes), AV.int .i64 (IntKind.i64.wrap ((100 : Int) + ((IntKind.i64.wrap ((a1.tmod (500 : Int)) + (500 : Int))).tmod (500 : Int)))), AV.str x7, AV.int .i64 (1 : Int)] (And.intro (fun _ => rfl) ?_))
      refine SeqN.go ?_
      refine SeqJ.go ?_
      refine And.intro ⟨Nat.le_of_ble_eq_true rfl, Nat.le_of_ble_eq_true rfl⟩ ?_
      refine NormE.to (AV.agg [AV.str ([] : Bytes), AV.str ([] : Bytes), AV.int .i64 (IntKind.i64.wrap ((100 : Int) + ((IntKind.i64.wrap ((a1.tmod (500 : Int)) + (500 : Int))).tmod (500 : Int)))), AV.str x7, AV.int .i64 (1 : Int)]) (fun _ => rfl) ?_
      refine bind_elim h fun x8 hx8 h => ?_
      refine CallH.data _ false rfl (start_Print_ok E (S_Start.mk ([] : Bytes) ([] : Bytes) (IntKind.i64.wrap ((100 : Int) + ((IntKind.i64.wrap ((a1.tmod (500 : Int)) + (500 : Int))).tmod (500 : Int)))) x7 (1 : Int)) x8 hx8) ?_
      refine SeqN.via (St.of [⟨9, AV.ptr 0 0, none⟩, ⟨10, AV.str (x8.1), none⟩, ⟨11, AV.int .i64 (x8.2), none⟩] [.cells 23 [AV.str ([] : Bytes), AV.str ([] : Bytes), AV.int .i64 (IntKind.i64.wrap ((100 : Int) + ((IntKind.i64.wrap ((a1.tmod (500 : Int)) + (500 : Int))).tmod (500 : Int)))), AV.str x7, AV.int .i64 (1 : Int)] []] []) ?_ ?_
      · refine Gho.to [⟨9, AV.ptr 0 0, none⟩, ⟨10, AV.str (x8.1), none⟩, ⟨11, AV.int .i64 (x8.2), none⟩] [.cells 23 [AV.str ([] : Bytes), AV.str ([] : Bytes), AV.int .i64 (IntKind.i64.wrap ((100 : Int) + ((IntKind.i64.wrap ((a1.tmod (500 : Int)) + (500 : Int))).tmod (500 : Int)))), AV.str x7, AV.int .i64 (1 : Int)] []] [] [] ?_ ?_ ?_ rfl rfl ?_
        · exact ⟨⟨rfl, rfl, rfl⟩, trivial⟩
        · exact rfl
        · exact rfl
        · exact ⟨rfl, rfl, trivial, rfl, rfl, trivial, rfl, rfl, trivial, trivial⟩
      refine SeqJ.go ?_
      refine bind_elim h fun x9 hx9 h => ?_
      refine CallH.data _ false rfl (start_Status_ok E (x8.1) x9 hx9) ?_
      refine And.intro rfl ?_
      refine And.intro ⟨rfl, rfl, rfl, Nat.le_of_ble_eq_true rfl⟩ (Exists.intro (S_Start.cells (x9.1)) (And.intro (fun _ => rfl) ?_))
      refine SeqN.go ?_
      refine SeqJ.go ?_
      refine bind_elim h fun x10 hx10 h => ?_
      refine CallH.data _ false rfl (intarsialaw06_alive_ok E  x10 hx10) ?_
      refine And.intro (fun hg => hg) ?_
      refine And.intro (fun hg => (and_r hg)) ?_
      refine And.intro (fun hg => hg) ?_
      refine And.intro (fun hg => (and_r hg)) ?_
      refine And.intro ⟨Nat.le_of_ble_eq_true rfl, Nat.le_of_ble_eq_true rfl⟩ ?_
      refine NormE.to (S_Start.av (x9.1)) (fun _ => rfl) ?_
      refine And.intro ⟨Nat.le_of_ble_eq_true rfl, Nat.le_of_ble_eq_true rfl⟩ ?_
      refine NormE.to (AV.agg [AV.str ([] : Bytes), AV.str ([] : Bytes), AV.int .i64 (IntKind.i64.wrap ((100 : Int) + ((IntKind.i64.wrap ((a1.tmod (500 : Int)) + (500 : Int))).tmod (500 : Int)))), AV.str x7, AV.int .i64 (1 : Int)]) (fun _ => rfl) ?_
      refine And.intro (fun hg => hg) ?_
      refine And.intro (fun hg => hg) ?_
      refine And.intro rfl ?_
      refine And.intro (fun hg => (and_r hg)) ?_
      refine SeqN.via (St.of [⟨4, AV.bool (bif (bif (bif x10 then ((x8.2) == (0 : Int)) else false) then ((x9.2) == (0 : Int)) else false) then ((((x9.1).Method) == ([] : Bytes)) && ((((x9.1).Target) == ([] : Bytes)) && ((((x9.1).Code) == (IntKind.i64.wrap ((100 : Int) + ((IntKind.i64.wrap ((a1.tmod (500 : Int)) + (500 : Int))).tmod (500 : Int))))) && ((((x9.1).Reason) == x7) && ((((x9.1).Minor) == (1 : Int)) && true))))) else false), none⟩] [] []) ?_ ?_
      · refine Gho.to [⟨4, AV.bool (bif (bif (bif x10 then ((x8.2) == (0 : Int)) else false) then ((x9.2) == (0 : Int)) else false) then ((((x9.1).Method) == ([] : Bytes)) && ((((x9.1).Target) == ([] : Bytes)) && ((((x9.1).Code) == (IntKind.i64.wrap ((100 : Int) + ((IntKind.i64.wrap ((a1.tmod (500 : Int)) + (500 : Int))).tmod (500 : Int))))) && ((((x9.1).Reason) == x7) && ((((x9.1).Minor) == (1 : Int)) && true))))) else false), none⟩] [] [] [] ?_ ?_ ?_ rfl rfl ?_
        · exact trivial
        · exact rfl
        · exact rfl
        · exact ⟨rfl, rfl, trivial, trivial⟩
      replace h := Option.some.inj h
      refine RetE.plain ?_
      exact And.intro rfl (And.intro (congrArg (fun r : Bool => AV.bool r) h) rfl)

end Go.Proofs.YtbgldnleackgeaaDoor
