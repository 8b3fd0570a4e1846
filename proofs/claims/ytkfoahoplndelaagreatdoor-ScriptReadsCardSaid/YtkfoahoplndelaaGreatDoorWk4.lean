/-
  The functions do what their images say: walks, written by a program of mine (gen.py).
-/
import Derived.Test.YtkfoahoplndelaaGreatDoorIm3
import Derived.Test.YtkfoahoplndelaaGreatDoorWk3
namespace Go.Proofs.YtkfoahoplndelaaGreatDoor
open Go Go.Pm
set_option maxRecDepth 100000
set_option maxHeartbeats 4000000
set_option linter.unusedVariables false

theorem intarsiaref25_cut_ok (E : Pm.Env) [LaidE E] (a0 : Bytes) (a1 : Int) (r : (Bytes × Bytes × Bool)) (h : intarsiaref25_cut a0 a1 = some r) : FnR E Tryz.prog 60 [AV.str a0, AV.int .u8 a1] (AV.tup [AV.str (r.1), AV.str (r.2.1), AV.bool (r.2.2)]) false := by
  refine FnR.of_ev (T := T) (rows := []) tOk mixed Tryz.func60 rfl (by kernel_rfl) (by kernel_rfl) rfl fun hwf => ?_
  unfold intarsiaref25_cut at h
  refine SeqJ.go <| SeqN.go <| SeqJ.go <| SeqJ.go <| SeqN.go ?_
  refine LoopE.img (fun x : Int => St.of [⟨0, AV.str a0, none⟩, ⟨1, AV.int .u8 a1, none⟩, ⟨7, AV.int .i64 x, none⟩] [] []) (intarsiaref25_cut_b1 a0 a1) (0 : Int) h ?_ ?_
  · refine Gho.to _ _ _ [] ?_ ?_ ?_ rfl rfl ?_
    · exact trivial
    · exact rfl
    · exact rfl
    · exact ⟨rfl, rfl, trivial, rfl, rfl, trivial, rfl, rfl, trivial, trivial⟩
  intro n1 x y1 h hl1 hr1
  revert h; revert x; intro s1 h
  unfold intarsiaref25_cut_b1 at h
  refine SeqJ.go <| SeqJ.go <| NormE.same <| SeqN.go ?_
  refine Br.mk (fun ht => ?_) (fun ht => ?_)
  · replace h := cond_tt h ht
    refine SeqN.go <| SeqJ.go <| SeqJ.go <| bind_elim h fun x2 hx2 h => ?_
    refine Exists.intro x2 (And.intro (fun hg => idx_some hx2) ?_)
    refine SeqN.go ?_
    refine Br.mk (fun ht => ?_) (fun ht => ?_)
    · replace h := cond_tt h ht
      refine SeqJ.go <| bind_elim h fun x3 hx3 h => ?_
      have qx3 := (slc_some hx3).1
      have hx3e := (slc_some hx3).2
      refine And.intro (fun _ => qx3) <| NormE.to (AV.str x3) (fun _ => congrArg AV.str hx3e.symm) <| bind_elim h fun x4 hx4 h => ?_
      have qx4 := (slc_some hx4).1
      have hx4e := (slc_some hx4).2
      refine And.intro (fun _ => qx4) <| NormE.to (AV.str x4) (fun _ => congrArg AV.str hx4e.symm) <| And.intro (by kernel_rfl) ?_
      refine SeqN.via (St.of [⟨4, AV.str x3, none⟩, ⟨5, AV.str x4, none⟩, ⟨6, AV.bool true, none⟩] [] []) ?_ ?_
      · refine Gho.to _ _ _ [] ?_ ?_ ?_ rfl rfl ?_
        · exact trivial
        · exact rfl
        · exact rfl
        · exact ⟨rfl, rfl, trivial, rfl, rfl, trivial, rfl, rfl, trivial, trivial⟩
      replace h := Option.some.inj h
      replace h := hr1 _ h.symm
      refine RetE.plain ?_
      exact And.intro rfl (And.intro (congrArg (fun r : (Bytes × Bytes × Bool) => AV.tup [AV.str (r.1), AV.str (r.2.1), AV.bool (r.2.2)]) h) rfl)
    · replace h := cond_ff h ht
      refine SeqN.go ?_
      replace h := Option.some.inj h
      refine Exists.intro ⟨(n1, (IntKind.i64.wrap (s1 + (1 : Int)))), hl1 _ h.symm⟩ (And.intro (Nat.lt_succ_self _) ?_)
      refine Gho.to _ _ _ [] ?_ ?_ ?_ rfl rfl ?_
      · exact trivial
      · exact rfl
      · exact rfl
      · exact ⟨rfl, rfl, trivial, rfl, rfl, trivial, rfl, rfl, trivial, trivial⟩
  · replace h := cond_ff h ht
    refine SeqN.go <| SeqJ.go <| SeqN.go ?_
    replace h := Option.some.inj h
    replace h := hr1 _ h.symm
    refine RetE.plain ?_
    exact And.intro rfl (And.intro (congrArg (fun r : (Bytes × Bytes × Bool) => AV.tup [AV.str (r.1), AV.str (r.2.1), AV.bool (r.2.2)]) h) rfl)

theorem intarsiaref25_split_ok (E : Pm.Env) [LaidE E] (a0 : Bytes) (r : (List Bytes)) (h : intarsiaref25_split a0 = some r) : FnR E Tryz.prog 61 [AV.str a0] (AV.list 1 (r.map AV.str)) true := by
  refine FnR.of_ev (T := T) (rows := []) tOk mixed Tryz.func61 rfl (by kernel_rfl) (by kernel_rfl) rfl fun hwf => ?_
  unfold intarsiaref25_split at h
  refine SeqJ.go <| SeqN.go <| SeqJ.go <| And.intro ⟨rfl, rfl, rfl⟩ <| NormE.to (AV.list 1 (([] : List Bytes).map AV.str)) (fun _ => rfl) <| SeqN.go <| bind_elim h fun j1 hj1 h => ?_
  refine SeqJ.join (St.of [⟨3, AV.list 1 (j1.map AV.str), some 0⟩] [] [1]) ?_ ?_
  · clear h; have h := hj1; clear hj1
    refine LoopE.img (fun x : (Bytes × (List Bytes)) => St.of [⟨0, AV.str (x.1), none⟩, ⟨3, AV.list 1 ((x.2).map AV.str), some 0⟩] [] [1]) (intarsiaref25_split_b1) (a0, ([] : List Bytes)) h ?_ ?_
    · refine Gho.to _ _ _ [1] ?_ ?_ ?_ rfl rfl ?_
      · exact trivial
      · exact rfl
      · exact rfl
      · exact ⟨rfl, rfl, trivial, rfl, rfl, ⟨rfl, rfl⟩, trivial⟩
    intro n1 x y1 h hl1 hr1
    obtain ⟨s2, s3⟩ := x
    unfold intarsiaref25_split_b1 at h
    dsimp only at h
    refine SeqJ.go <| bind_elim h fun x4 hx4 h => CallH.data _ false rfl (intarsiaref25_cut_ok E s2 (32 : Int) x4 hx4) <| SeqN.go <| SeqJ.go <| And.intro ⟨rfl, rfl, rfl, rfl⟩ <| And.intro ⟨rfl, rfl, rfl⟩ <| NormE.to (AV.list 1 (([(x4.1)] : List Bytes).map AV.str)) (fun _ => rfl) <| bind_elim h fun x5 hx5 h => ?_
    have qx5 := (app_some hx5).1
    have hx5e := (app_some hx5).2
    refine And.intro ⟨rfl, rfl, rfl⟩ <| And.intro rfl <| And.intro (app_cond AV.str qx5) <| NormE.to (AV.list 1 (x5.map AV.str)) (fun _ => (app_list 1 AV.str _ _).trans (congrArg (fun y => AV.list 1 (List.map AV.str y)) hx5e.symm)) <| SeqN.go <| SeqJ.go ?_
    refine SeqN.via (St.of [⟨0, AV.str (x4.2.1), none⟩, ⟨3, AV.list 1 (x5.map AV.str), some 0⟩, ⟨6, AV.bool (x4.2.2), none⟩] [] [1]) ?_ ?_
    · refine Gho.to _ _ _ [2] ?_ ?_ ?_ rfl rfl ?_
      · exact trivial
      · exact rfl
      · exact rfl
      · exact ⟨rfl, rfl, trivial, rfl, rfl, ⟨rfl, rfl⟩, rfl, rfl, trivial, trivial⟩
    refine SeqJ.go <| SeqN.go ?_
    refine Br.mk (fun ht => ?_) (fun ht => ?_)
    · replace h := cond_tt h ht
      replace h := Option.some.inj h
      replace h := hr1 _ h.symm
      subst h
      refine Gho.to _ _ _ [0] ?_ ?_ ?_ rfl rfl ?_
      · exact trivial
      · exact rfl
      · exact rfl
      · exact ⟨rfl, rfl, ⟨rfl, rfl⟩, trivial⟩
    · replace h := cond_ff h ht
      replace h := Option.some.inj h
      refine Exists.intro ⟨(n1, ((x4.2.1), x5)), hl1 _ h.symm⟩ (And.intro (Nat.lt_succ_self _) ?_)
      refine Gho.to _ _ _ [0] ?_ ?_ ?_ rfl rfl ?_
      · exact trivial
      · exact rfl
      · exact rfl
      · exact ⟨rfl, rfl, trivial, rfl, rfl, ⟨rfl, rfl⟩, trivial⟩
  · clear hj1
    refine bind_elim h fun j6 hj6 h => ?_
    refine SeqJ.join (St.of [⟨3, AV.list 1 (j6.map AV.str), some 0⟩] [] [1]) ?_ ?_
    · clear h; have h := hj6; clear hj6
      refine LoopE.img (fun x : (List Bytes) => St.of [⟨3, AV.list 1 (x.map AV.str), some 0⟩] [] [1]) (intarsiaref25_split_b2) j1 h ?_ ?_
      · refine Gho.to _ _ _ [0] ?_ ?_ ?_ rfl rfl ?_
        · exact trivial
        · exact rfl
        · exact rfl
        · exact ⟨rfl, rfl, ⟨rfl, rfl⟩, trivial⟩
      intro n2 x y2 h hl2 hr2
      revert h; revert x; intro s7 h
      unfold intarsiaref25_split_b2 at h
      refine SeqJ.go <| SeqJ.go <| NormE.to (AV.int .i64 (s7.length : Int)) (fun _ => len_list AV.str s7) <| SeqN.go ?_
      refine Br.mk (fun ht => ?_) (fun ht => ?_)
      · replace h := cond_tt h ht
        refine SeqN.go <| And.intro ⟨rfl, rfl, rfl, rfl⟩ <| And.intro ⟨rfl, rfl, rfl⟩ <| NormE.to (AV.list 1 (([([] : Bytes)] : List Bytes).map AV.str)) (fun _ => rfl) <| bind_elim h fun x8 hx8 h => ?_
        have qx8 := (app_some hx8).1
        have hx8e := (app_some hx8).2
        refine And.intro ⟨rfl, rfl, rfl⟩ <| And.intro rfl <| And.intro (app_cond AV.str qx8) <| NormE.to (AV.list 1 (x8.map AV.str)) (fun _ => (app_list 1 AV.str _ _).trans (congrArg (fun y => AV.list 1 (List.map AV.str y)) hx8e.symm)) ?_
        replace h := Option.some.inj h
        refine Exists.intro ⟨(n2, x8), hl2 _ h.symm⟩ (And.intro (Nat.lt_succ_self _) ?_)
        refine Gho.to _ _ _ [2] ?_ ?_ ?_ rfl rfl ?_
        · exact trivial
        · exact rfl
        · exact rfl
        · exact ⟨rfl, rfl, ⟨rfl, rfl⟩, trivial⟩
      · replace h := cond_ff h ht
        replace h := Option.some.inj h
        replace h := hr2 _ h.symm
        subst h
        refine Gho.to _ _ _ [0] ?_ ?_ ?_ rfl rfl ?_
        · exact trivial
        · exact rfl
        · exact rfl
        · exact ⟨rfl, rfl, ⟨rfl, rfl⟩, trivial⟩
    · clear hj6
      refine SeqJ.go <| SeqN.go ?_
      replace h := Option.some.inj h
      exact RetE.own 2 0 rfl rfl rfl rfl (And.intro (congrArg (fun r : (List Bytes) => AV.list 1 (r.map AV.str)) h) rfl)

theorem intarsiaref25_digit_ok (E : Pm.Env) [LaidE E] (a0 : Int) (r : Int) (h : intarsiaref25_digit a0 = some r) : FnR E Tryz.prog 167 [AV.int .u8 a0] (AV.int .u8 r) false := by
  refine FnR.of_ev (T := T) (rows := []) tOk mixed Tryz.func167 rfl (by kernel_rfl) (by kernel_rfl) rfl fun hwf => ?_
  unfold intarsiaref25_digit at h
  refine SeqJ.go <| SeqN.go <| SeqJ.go <| SeqJ.go <| And.intro (fun hg => hg) <| And.intro (fun hg => (and_r hg)) <| SeqN.go ?_
  refine Br.mk (fun ht => ?_) (fun ht => ?_)
  · replace h := cond_tt h ht
    refine SeqJ.go <| SeqN.go ?_
    replace h := Option.some.inj h
    refine RetE.plain ?_
    exact And.intro rfl (And.intro (congrArg (fun r : Int => AV.int .u8 r) h) rfl)
  · replace h := cond_ff h ht
    refine SeqN.go <| SeqJ.go <| chk_elim h fun q1 h => And.intro (fun _ => q1) <| SeqN.go ?_
    replace h := Option.some.inj h
    refine RetE.plain ?_
    exact And.intro rfl (And.intro (congrArg (fun r : Int => AV.int .u8 r) h) rfl)

theorem intarsiaref25_bytes_ok (E : Pm.Env) [LaidE E] (a0 : Bytes) (r : Bytes) (h : intarsiaref25_bytes a0 = some r) : FnR E Tryz.prog 116 [AV.str a0] (AV.str r) false := by
  refine FnR.of_ev (T := T) (rows := []) tOk mixed Tryz.func116 rfl (by kernel_rfl) (by kernel_rfl) rfl fun hwf => ?_
  unfold intarsiaref25_bytes at h
  refine SeqJ.go <| SeqN.go <| SeqJ.go <| And.intro ⟨rfl, rfl, rfl⟩ <| NormE.to (AV.list 1 (([] : List UInt8).map byteAV)) (fun hw => rfl) <| SeqN.go <| bind_elim h fun j1 hj1 h => ?_
  refine SeqJ.join (St.of [⟨3, AV.list 1 (j1.map byteAV), some 0⟩] [] [1]) ?_ ?_
  · clear h; have h := hj1; clear hj1
    refine SeqJ.go <| SeqN.go ?_
    refine LoopE.img (fun x : ((List UInt8) × Int) => St.of [⟨0, AV.str a0, none⟩, ⟨3, AV.list 1 ((x.1).map byteAV), some 0⟩, ⟨4, AV.int .i64 (x.2), none⟩] [] [1]) (intarsiaref25_bytes_b1 a0) (([] : List UInt8), (0 : Int)) h ?_ ?_
    · refine Gho.to _ _ _ [0] ?_ ?_ ?_ rfl rfl ?_
      · exact trivial
      · exact rfl
      · exact rfl
      · exact ⟨rfl, rfl, trivial, rfl, rfl, ⟨rfl, rfl⟩, rfl, rfl, trivial, trivial⟩
    intro n1 x y1 h hl1 hr1
    obtain ⟨s2, s3⟩ := x
    unfold intarsiaref25_bytes_b1 at h
    dsimp only at h
    refine SeqJ.go <| SeqJ.go <| NormE.same <| SeqN.go ?_
    refine Br.mk (fun ht => ?_) (fun ht => ?_)
    · replace h := cond_tt h ht
      refine SeqN.go <| SeqJ.go <| bind_elim h fun x4 hx4 h => ?_
      refine Exists.intro x4 (And.intro (fun hg => idx_some hx4) ?_)
      refine bind_elim h fun x5 hx5 h => CallH.data _ false rfl (intarsiaref25_digit_ok E (x4.toNat : Int) x5 hx5) <| bind_elim h fun x6 hx6 h => ?_
      refine Exists.intro x6 (And.intro (fun hg => idx_some hx6) ?_)
      refine bind_elim h fun x7 hx7 h => CallH.data _ false rfl (intarsiaref25_digit_ok E (x6.toNat : Int) x7 hx7) <| And.intro ⟨rfl, rfl, rfl, rfl⟩ <| And.intro ⟨rfl, rfl, rfl⟩ <| NormE.to (AV.list 1 (([u8 (IntKind.u8.wrap ((IntKind.u8.wrap ((16 : Int) * x5)) + x7))] : List UInt8).map byteAV)) (fun hw => bytes1 hw) <| bind_elim h fun x8 hx8 h => ?_
      have qx8 := (app_some hx8).1
      have hx8e := (app_some hx8).2
      refine And.intro ⟨rfl, rfl, rfl⟩ <| And.intro rfl <| And.intro (app_cond byteAV qx8) <| NormE.to (AV.list 1 (x8.map byteAV)) (fun _ => (app_list 1 byteAV _ _).trans (congrArg (fun y => AV.list 1 (List.map byteAV y)) hx8e.symm)) <| And.intro (by kernel_rfl) ?_
      refine SeqN.via (St.of [⟨0, AV.str a0, none⟩, ⟨3, AV.list 1 (x8.map byteAV), some 0⟩, ⟨4, AV.int .i64 s3, none⟩] [] [1]) ?_ ?_
      · refine Gho.to _ _ _ [2] ?_ ?_ ?_ rfl rfl ?_
        · exact trivial
        · exact rfl
        · exact rfl
        · exact ⟨rfl, rfl, trivial, rfl, rfl, ⟨rfl, rfl⟩, rfl, rfl, trivial, trivial⟩
      replace h := Option.some.inj h
      refine Exists.intro ⟨(n1, (x8, (IntKind.i64.wrap (s3 + (2 : Int))))), hl1 _ h.symm⟩ (And.intro (Nat.lt_succ_self _) ?_)
      refine Gho.to _ _ _ [0] ?_ ?_ ?_ rfl rfl ?_
      · exact trivial
      · exact rfl
      · exact rfl
      · exact ⟨rfl, rfl, trivial, rfl, rfl, ⟨rfl, rfl⟩, rfl, rfl, trivial, trivial⟩
    · replace h := cond_ff h ht
      replace h := Option.some.inj h
      replace h := hr1 _ h.symm
      subst h
      refine Gho.to _ _ _ [0] ?_ ?_ ?_ rfl rfl ?_
      · exact trivial
      · exact rfl
      · exact rfl
      · exact ⟨rfl, rfl, ⟨rfl, rfl⟩, trivial⟩
  · clear hj1
    refine SeqJ.go ?_
    refine And.intro rfl (And.intro rfl (Exists.intro j1 (And.intro rfl ?_)))
    refine SeqN.go ?_
    replace h := Option.some.inj h
    refine RetE.plain ?_
    exact And.intro rfl (And.intro (congrArg (fun r : Bytes => AV.str r) h) rfl)

theorem intarsiaref25_value_ok (E : Pm.Env) [LaidE E] (a0 : Bytes) (r : Int) (h : intarsiaref25_value a0 = some r) : FnR E Tryz.prog 117 [AV.str a0] (AV.int .i64 r) false := by
  refine FnR.of_ev (T := T) (rows := []) tOk mixed Tryz.func117 rfl (by kernel_rfl) (by kernel_rfl) rfl fun hwf => ?_
  unfold intarsiaref25_value at h
  refine SeqJ.go <| SeqN.go <| SeqJ.go <| SeqN.go <| SeqJ.go <| SeqJ.go <| SeqN.go ?_
  refine LoopE.img (fun x : (Int × Int) => St.of [⟨0, AV.str a0, none⟩, ⟨3, AV.int .i64 (x.1), none⟩, ⟨4, AV.int .i64 (x.2), none⟩] [] []) (intarsiaref25_value_b1 a0) ((0 : Int), (0 : Int)) h ?_ ?_
  · refine Gho.to _ _ _ [] ?_ ?_ ?_ rfl rfl ?_
    · exact trivial
    · exact rfl
    · exact rfl
    · exact ⟨rfl, rfl, trivial, rfl, rfl, trivial, rfl, rfl, trivial, trivial⟩
  intro n1 x y1 h hl1 hr1
  obtain ⟨s1, s2⟩ := x
  unfold intarsiaref25_value_b1 at h
  dsimp only at h
  refine SeqJ.go <| SeqJ.go <| NormE.same <| SeqN.go ?_
  refine Br.mk (fun ht => ?_) (fun ht => ?_)
  · replace h := cond_tt h ht
    refine SeqN.go <| SeqJ.go <| SeqJ.go <| bind_elim h fun x3 hx3 h => ?_
    refine Exists.intro x3 (And.intro (fun hg => idx_some hx3) ?_)
    refine SeqN.go <| SeqJ.go <| SeqJ.go <| And.intro (fun hg => hg) <| And.intro (fun hg => (and_r hg)) <| And.intro (fun hg => hg) <| And.intro (fun hg => (and_r hg)) ?_
    refine SeqN.via (St.of [⟨0, AV.str a0, none⟩, ⟨3, AV.int .i64 s1, none⟩, ⟨4, AV.int .i64 s2, none⟩, ⟨5, AV.int .u8 (x3.toNat : Int), none⟩, ⟨24, AV.bool (bif (bif (decide ((x3.toNat : Int) < (48 : Int))) then true else (decide ((x3.toNat : Int) > (57 : Int)))) then true else (decide (s1 > (1000000 : Int)))), none⟩] [] []) ?_ ?_
    · refine Gho.to _ _ _ [] ?_ ?_ ?_ rfl rfl ?_
      · exact trivial
      · exact rfl
      · exact rfl
      · exact ⟨rfl, rfl, trivial, rfl, rfl, trivial, rfl, rfl, trivial, rfl, rfl, trivial, rfl, rfl, trivial, trivial⟩
    refine Br.mk (fun ht => ?_) (fun ht => ?_)
    · replace h := cond_tt h ht
      refine SeqJ.go <| SeqN.go ?_
      replace h := Option.some.inj h
      replace h := hr1 _ h.symm
      refine RetE.plain ?_
      exact And.intro rfl (And.intro (congrArg (fun r : Int => AV.int .i64 r) h) rfl)
    · replace h := cond_ff h ht
      refine SeqN.go <| SeqN.go ?_
      replace h := Option.some.inj h
      refine Exists.intro ⟨(n1, ((IntKind.i64.wrap ((IntKind.i64.wrap ((10 : Int) * s1)) + (IntKind.i64.wrap (IntKind.u8.wrap ((x3.toNat : Int) - (48 : Int)))))), (IntKind.i64.wrap (s2 + (1 : Int))))), hl1 _ h.symm⟩ (And.intro (Nat.lt_succ_self _) ?_)
      refine Gho.to _ _ _ [] ?_ ?_ ?_ rfl rfl ?_
      · exact trivial
      · exact rfl
      · exact rfl
      · exact ⟨rfl, rfl, trivial, rfl, rfl, trivial, rfl, rfl, trivial, trivial⟩
  · replace h := cond_ff h ht
    refine SeqN.go <| SeqJ.go <| SeqN.go ?_
    replace h := Option.some.inj h
    replace h := hr1 _ h.symm
    refine RetE.plain ?_
    exact And.intro rfl (And.intro (congrArg (fun r : Int => AV.int .i64 r) h) rfl)

theorem intarsiaref25_Deed_ok (E : Pm.Env) [LaidE E] (a0 : Bytes) (r : S_Deed) (h : intarsiaref25_Deed a0 = some r) : FnR E Tryz.prog 65 [AV.str a0] (S_Deed.av r) false := by
  refine FnR.of_ev (T := T) (rows := []) tOk mixed Tryz.func65 rfl (by kernel_rfl) (by kernel_rfl) rfl fun hwf => ?_
  unfold intarsiaref25_Deed at h
  refine SeqJ.go <| And.intro rfl <| SeqN.go <| SeqJ.go <| bind_elim h fun x1 hx1 h => CallH.data _ true rfl (intarsiaref25_split_ok E a0 x1 hx1) <| SeqN.go <| SeqJ.go <| SeqJ.go <| bind_elim h fun x2 hx2 h => ?_
  refine And.intro rfl (Exists.intro (AV.str x2) (And.intro (fun hg => idx_map _ hx2) ?_))
  refine SeqN.go <| SeqJ.go <| SeqN.go ?_
  refine Br.mk (fun ht => ?_) (fun ht => ?_)
  · replace h := cond_tt h ht
    refine SeqJ.go <| bind_elim h fun x3 hx3 h => ?_
    refine And.intro rfl (Exists.intro (AV.str x3) (And.intro (fun hg => idx_map _ hx3) ?_))
    refine bind_elim h fun x4 hx4 h => CallH.data _ false rfl (intarsiaref25_bytes_ok E x3 x4 hx4) <| And.intro ⟨rfl, rfl, Nat.le_of_ble_eq_true rfl⟩ <| And.intro ⟨rfl, rfl, Nat.le_of_ble_eq_true rfl⟩ ?_
    refine And.intro ⟨rfl, rfl, rfl, Nat.le_of_ble_eq_true rfl⟩ (Exists.intro [AV.int .i64 (1 : Int), AV.int .i64 (0 : Int), AV.str x4, AV.bool false] (And.intro (fun _ => rfl) ?_))
    refine SeqN.go ?_
    replace h := Option.some.inj h
    refine RetE.plain ?_
    refine And.intro ⟨Nat.le_of_ble_eq_true rfl, Nat.le_of_ble_eq_true rfl⟩ (Exists.intro (AV.agg [AV.int .i64 (1 : Int), AV.int .i64 (0 : Int), AV.str x4, AV.bool false]) (And.intro rfl ?_))
    exact And.intro rfl (And.intro (congrArg (fun r : S_Deed => S_Deed.av r) h) rfl)
  · replace h := cond_ff h ht
    refine SeqJ.go <| SeqN.go ?_
    refine Br.mk (fun ht => ?_) (fun ht => ?_)
    · replace h := cond_tt h ht
      refine SeqJ.go <| bind_elim h fun x5 hx5 h => ?_
      refine And.intro rfl (Exists.intro (AV.str x5) (And.intro (fun hg => idx_map _ hx5) ?_))
      refine bind_elim h fun x6 hx6 h => CallH.data _ false rfl (intarsiaref25_value_ok E x5 x6 hx6) <| And.intro ⟨rfl, rfl, Nat.le_of_ble_eq_true rfl⟩ <| And.intro ⟨rfl, rfl, Nat.le_of_ble_eq_true rfl⟩ ?_
      refine And.intro ⟨rfl, rfl, rfl, Nat.le_of_ble_eq_true rfl⟩ (Exists.intro [AV.int .i64 (2 : Int), AV.int .i64 x6, AV.str ([] : Bytes), AV.bool false] (And.intro (fun _ => rfl) ?_))
      refine SeqN.via (St.of [⟨2, AV.ptr 0 0, none⟩] [.cells 94 [AV.int .i64 (2 : Int), AV.int .i64 x6, AV.str ([] : Bytes), AV.bool false] []] []) ?_ ?_
      · refine Gho.to _ _ _ [] ?_ ?_ ?_ rfl rfl ?_
        · exact ⟨⟨rfl, rfl, rfl⟩, trivial⟩
        · exact rfl
        · exact rfl
        · exact ⟨rfl, rfl, trivial, trivial⟩
      replace h := Option.some.inj h
      refine RetE.plain ?_
      refine And.intro ⟨Nat.le_of_ble_eq_true rfl, Nat.le_of_ble_eq_true rfl⟩ (Exists.intro (AV.agg [AV.int .i64 (2 : Int), AV.int .i64 x6, AV.str ([] : Bytes), AV.bool false]) (And.intro rfl ?_))
      exact And.intro rfl (And.intro (congrArg (fun r : S_Deed => S_Deed.av r) h) rfl)
    · replace h := cond_ff h ht
      refine SeqJ.go <| SeqN.go ?_
      refine Br.mk (fun ht => ?_) (fun ht => ?_)
      · replace h := cond_tt h ht
        refine SeqJ.go <| And.intro ⟨rfl, rfl, Nat.le_of_ble_eq_true rfl⟩ ?_
        refine And.intro ⟨rfl, rfl, rfl, Nat.le_of_ble_eq_true rfl⟩ (Exists.intro [AV.int .i64 (3 : Int), AV.int .i64 (0 : Int), AV.str ([] : Bytes), AV.bool false] (And.intro (fun _ => rfl) ?_))
        refine SeqN.go ?_
        replace h := Option.some.inj h
        refine RetE.plain ?_
        refine And.intro ⟨Nat.le_of_ble_eq_true rfl, Nat.le_of_ble_eq_true rfl⟩ (Exists.intro (AV.agg [AV.int .i64 (3 : Int), AV.int .i64 (0 : Int), AV.str ([] : Bytes), AV.bool false]) (And.intro rfl ?_))
        exact And.intro rfl (And.intro (congrArg (fun r : S_Deed => S_Deed.av r) h) rfl)
      · replace h := cond_ff h ht
        refine SeqJ.go <| SeqN.go ?_
        refine Br.mk (fun ht => ?_) (fun ht => ?_)
        · replace h := cond_tt h ht
          refine SeqJ.go <| bind_elim h fun x7 hx7 h => ?_
          refine And.intro rfl (Exists.intro (AV.str x7) (And.intro (fun hg => idx_map _ hx7) ?_))
          refine bind_elim h fun x8 hx8 h => CallH.data _ false rfl (intarsiaref25_value_ok E x7 x8 hx8) <| bind_elim h fun x9 hx9 h => ?_
          refine And.intro rfl (Exists.intro (AV.str x9) (And.intro (fun hg => idx_map _ hx9) ?_))
          refine bind_elim h fun x10 hx10 h => CallH.data _ false rfl (intarsiaref25_bytes_ok E x9 x10 hx10) <| And.intro ⟨rfl, rfl, Nat.le_of_ble_eq_true rfl⟩ <| And.intro ⟨rfl, rfl, Nat.le_of_ble_eq_true rfl⟩ <| And.intro ⟨rfl, rfl, Nat.le_of_ble_eq_true rfl⟩ ?_
          refine And.intro ⟨rfl, rfl, rfl, Nat.le_of_ble_eq_true rfl⟩ (Exists.intro [AV.int .i64 (4 : Int), AV.int .i64 x8, AV.str x10, AV.bool false] (And.intro (fun _ => rfl) ?_))
          refine And.intro (by kernel_rfl) ?_
          refine SeqN.via (St.of [⟨2, AV.ptr 0 0, none⟩] [.cells 94 [AV.int .i64 (4 : Int), AV.int .i64 x8, AV.str x10, AV.bool false] []] []) ?_ ?_
          · refine Gho.to _ _ _ [] ?_ ?_ ?_ rfl rfl ?_
            · exact ⟨⟨rfl, rfl, rfl⟩, trivial⟩
            · exact rfl
            · exact rfl
            · exact ⟨rfl, rfl, trivial, trivial⟩
          replace h := Option.some.inj h
          refine RetE.plain ?_
          refine And.intro ⟨Nat.le_of_ble_eq_true rfl, Nat.le_of_ble_eq_true rfl⟩ (Exists.intro (AV.agg [AV.int .i64 (4 : Int), AV.int .i64 x8, AV.str x10, AV.bool false]) (And.intro rfl ?_))
          exact And.intro rfl (And.intro (congrArg (fun r : S_Deed => S_Deed.av r) h) rfl)
        · replace h := cond_ff h ht
          refine SeqJ.go ?_
          refine SeqN.via (St.of [⟨2, AV.ptr 0 0, none⟩, ⟨3, AV.list 1 (x1.map AV.str), some 0⟩, ⟨8, AV.str x2, none⟩, ⟨37, AV.bool (x2 == ([103, 111, 110, 101] : Bytes)), none⟩] [.cells 94 [AV.int .i64 (0 : Int), AV.int .i64 (0 : Int), AV.str ([] : Bytes), AV.bool false] []] [1]) ?_ ?_
          · refine Gho.to _ _ _ [0] ?_ ?_ ?_ rfl rfl ?_
            · exact ⟨⟨rfl, rfl, rfl⟩, trivial⟩
            · exact rfl
            · exact rfl
            · exact ⟨rfl, rfl, trivial, rfl, rfl, ⟨rfl, rfl⟩, rfl, rfl, trivial, rfl, rfl, trivial, trivial⟩
          refine Br.mk (fun ht => ?_) (fun ht => ?_)
          · replace h := cond_tt h ht
            refine SeqJ.go <| bind_elim h fun x11 hx11 h => ?_
            refine And.intro rfl (Exists.intro (AV.str x11) (And.intro (fun hg => idx_map _ hx11) ?_))
            refine bind_elim h fun x12 hx12 h => CallH.data _ false rfl (intarsiaref25_value_ok E x11 x12 hx12) <| bind_elim h fun x13 hx13 h => ?_
            refine And.intro rfl (Exists.intro (AV.str x13) (And.intro (fun hg => idx_map _ hx13) ?_))
            refine And.intro ⟨rfl, rfl, Nat.le_of_ble_eq_true rfl⟩ <| And.intro ⟨rfl, rfl, Nat.le_of_ble_eq_true rfl⟩ <| And.intro ⟨rfl, rfl, Nat.le_of_ble_eq_true rfl⟩ ?_
            refine And.intro ⟨rfl, rfl, rfl, Nat.le_of_ble_eq_true rfl⟩ (Exists.intro [AV.int .i64 (5 : Int), AV.int .i64 x12, AV.str ([] : Bytes), AV.bool (x13 == ([99, 108, 101, 97, 110] : Bytes))] (And.intro (fun _ => rfl) ?_))
            refine And.intro (by kernel_rfl) <| SeqN.go ?_
            replace h := Option.some.inj h
            refine RetE.plain ?_
            refine And.intro ⟨Nat.le_of_ble_eq_true rfl, Nat.le_of_ble_eq_true rfl⟩ (Exists.intro (AV.agg [AV.int .i64 (5 : Int), AV.int .i64 x12, AV.str ([] : Bytes), AV.bool (x13 == ([99, 108, 101, 97, 110] : Bytes))]) (And.intro rfl ?_))
            exact And.intro rfl (And.intro (congrArg (fun r : S_Deed => S_Deed.av r) h) rfl)
          · replace h := cond_ff h ht
            refine SeqJ.go <| SeqN.go ?_
            refine Br.mk (fun ht => ?_) (fun ht => ?_)
            · replace h := cond_tt h ht
              refine SeqJ.go <| And.intro ⟨rfl, rfl, Nat.le_of_ble_eq_true rfl⟩ ?_
              refine And.intro ⟨rfl, rfl, rfl, Nat.le_of_ble_eq_true rfl⟩ (Exists.intro [AV.int .i64 (6 : Int), AV.int .i64 (0 : Int), AV.str ([] : Bytes), AV.bool false] (And.intro (fun _ => rfl) ?_))
              refine SeqN.go ?_
              replace h := Option.some.inj h
              refine RetE.plain ?_
              refine And.intro ⟨Nat.le_of_ble_eq_true rfl, Nat.le_of_ble_eq_true rfl⟩ (Exists.intro (AV.agg [AV.int .i64 (6 : Int), AV.int .i64 (0 : Int), AV.str ([] : Bytes), AV.bool false]) (And.intro rfl ?_))
              exact And.intro rfl (And.intro (congrArg (fun r : S_Deed => S_Deed.av r) h) rfl)
            · replace h := cond_ff h ht
              refine SeqN.go <| SeqJ.go ?_
              refine And.intro ⟨rfl, rfl, rfl, Nat.le_of_ble_eq_true rfl⟩ (Exists.intro [AV.int .i64 (0 : Int), AV.int .i64 (0 : Int), AV.str ([] : Bytes), AV.bool false] (And.intro (fun _ => rfl) ?_))
              refine SeqN.go ?_
              replace h := Option.some.inj h
              refine RetE.plain ?_
              refine And.intro ⟨Nat.le_of_ble_eq_true rfl, Nat.le_of_ble_eq_true rfl⟩ (Exists.intro (AV.agg [AV.int .i64 (0 : Int), AV.int .i64 (0 : Int), AV.str ([] : Bytes), AV.bool false]) (And.intro rfl ?_))
              exact And.intro rfl (And.intro (congrArg (fun r : S_Deed => S_Deed.av r) h) rfl)

theorem intarsiaref25_Parse_ok (E : Pm.Env) [LaidE E] (a0 : Bytes) (r : (S_Plan × Int × Int)) (h : intarsiaref25_Parse a0 = some r) : FnR E Tryz.prog 21 [AV.str a0] (AV.tup [S_Plan.av (r.1), AV.int .i64 (r.2.1), AV.int .i64 (r.2.2)]) false := by
  refine FnR.of_ev (T := T) (rows := []) tOk mixed Tryz.func21 rfl (by kernel_rfl) (by kernel_rfl) rfl fun hwf => ?_
  unfold intarsiaref25_Parse at h
  refine SeqJ.go <| And.intro rfl <| SeqN.go <| SeqJ.go <| And.intro rfl ?_
  refine And.intro ⟨rfl, rfl, rfl, Nat.le_of_ble_eq_true rfl⟩ (Exists.intro [AV.str ([] : Bytes), AV.list 3 (([] : List S_Route).map S_Route.av), AV.list 4 (([] : List S_Deed).map S_Deed.av)] (And.intro (fun _ => rfl) ?_))
  refine SeqN.go <| SeqJ.go <| SeqJ.go <| SeqN.go ?_
  refine LoopE.img (fun x : (Bytes × Int × S_Plan) => St.of [⟨0, AV.str (x.1), none⟩, ⟨2, AV.ptr 0 0, none⟩, ⟨5, AV.ptr 1 0, none⟩, ⟨6, AV.int .i64 (x.2.1), none⟩] [.cells 25 [AV.str ([] : Bytes), AV.list 3 (([] : List S_Route).map S_Route.av), AV.list 4 (([] : List S_Deed).map S_Deed.av)] [(1, 0), (2, 1)], .cells 25 [AV.str ((x.2.2).Device), AV.list 3 (((x.2.2).Routes).map S_Route.av), AV.list 4 (((x.2.2).Deeds).map S_Deed.av)] [(1, 2), (2, 3)]] [1, 1, 1, 1]) (intarsiaref25_Parse_b1) (a0, (1 : Int), (S_Plan.mk ([] : Bytes) ([] : List S_Route) ([] : List S_Deed))) h ?_ ?_
  · refine Gho.to _ _ _ [0, 1, 4, 5] ?_ ?_ ?_ rfl rfl ?_
    · exact ⟨⟨rfl, rfl, rfl⟩, ⟨⟨rfl, rfl, rfl⟩, trivial⟩⟩
    · exact rfl
    · exact rfl
    · exact ⟨rfl, rfl, trivial, rfl, rfl, trivial, rfl, rfl, trivial, rfl, rfl, trivial, trivial⟩
  intro n1 x y1 h hl1 hr1
  obtain ⟨s1, s2, s3⟩ := x
  unfold intarsiaref25_Parse_b1 at h
  dsimp only at h
  refine SeqJ.go <| SeqJ.go <| And.intro (fun hg => hg) <| And.intro (fun hg => (and_r hg)) <| SeqN.go ?_
  refine Br.mk (fun ht => ?_) (fun ht => ?_)
  · replace h := cond_tt h ht
    refine SeqN.go <| SeqJ.go <| SeqJ.go <| bind_elim h fun x4 hx4 h => CallH.data _ false rfl (intarsiaref25_cut_ok E s1 (10 : Int) x4 hx4) <| SeqN.go <| SeqJ.go <| bind_elim h fun x5 hx5 h => CallH.data _ true rfl (intarsiaref25_split_ok E (x4.1) x5 hx5) ?_
    refine SeqN.via (St.of [⟨2, AV.ptr 0 0, none⟩, ⟨5, AV.ptr 1 0, none⟩, ⟨6, AV.int .i64 s2, none⟩, ⟨7, AV.str (x4.1), none⟩, ⟨8, AV.str (x4.2.1), none⟩, ⟨9, AV.bool (x4.2.2), none⟩, ⟨10, AV.list 1 (x5.map AV.str), some 0⟩] [.cells 25 [AV.str ([] : Bytes), AV.list 3 (([] : List S_Route).map S_Route.av), AV.list 4 (([] : List S_Deed).map S_Deed.av)] [(1, 1), (2, 2)], .cells 25 [AV.str (s3.Device), AV.list 3 ((s3.Routes).map S_Route.av), AV.list 4 ((s3.Deeds).map S_Deed.av)] [(1, 3), (2, 4)]] [1, 1, 1, 1, 1]) ?_ ?_
    · refine Gho.to _ _ _ [4, 0, 1, 2, 3] ?_ ?_ ?_ rfl rfl ?_
      · exact ⟨⟨rfl, rfl, rfl⟩, ⟨⟨rfl, rfl, rfl⟩, trivial⟩⟩
      · exact rfl
      · exact rfl
      · exact ⟨rfl, rfl, trivial, rfl, rfl, trivial, rfl, rfl, trivial, rfl, rfl, trivial, rfl, rfl, trivial, rfl, rfl, trivial, rfl, rfl, ⟨rfl, rfl⟩, trivial⟩
    refine SeqJ.go <| bind_elim h fun x6 hx6 h => ?_
    refine And.intro rfl (Exists.intro (AV.str x6) (And.intro (fun hg => idx_map _ hx6) ?_))
    refine bind_elim h fun x7 hx7 h => ?_
    refine And.intro rfl (Exists.intro (AV.str x7) (And.intro (fun hg => idx_map _ hx7) ?_))
    refine bind_elim h fun x8 hx8 h => ?_
    refine And.intro rfl (Exists.intro (AV.str x8) (And.intro (fun hg => idx_map _ hx8) ?_))
    refine And.intro ⟨rfl, rfl, Nat.le_of_ble_eq_true rfl⟩ <| And.intro ⟨rfl, rfl, Nat.le_of_ble_eq_true rfl⟩ <| And.intro ⟨rfl, rfl, Nat.le_of_ble_eq_true rfl⟩ <| And.intro rfl ?_
    refine And.intro ⟨rfl, rfl, rfl, Nat.le_of_ble_eq_true rfl⟩ (Exists.intro [AV.str x6, AV.str x7, AV.str x8] (And.intro (fun _ => rfl) ?_))
    refine And.intro (by kernel_rfl) <| SeqN.go <| SeqJ.go <| SeqJ.go <| SeqN.go ?_
    refine Br.mk (fun ht => ?_) (fun ht => ?_)
    · replace h := cond_tt h ht
      refine And.intro ⟨rfl, rfl, rfl, Nat.le_of_ble_eq_true rfl⟩ (Exists.intro [AV.str ([] : Bytes), AV.str x7, AV.str x8] (And.intro (fun _ => rfl) ?_))
      refine SeqN.via (St.of [⟨2, AV.ptr 0 0, none⟩, ⟨5, AV.ptr 1 0, none⟩, ⟨6, AV.int .i64 s2, none⟩, ⟨7, AV.str (x4.1), none⟩, ⟨8, AV.str (x4.2.1), none⟩, ⟨9, AV.bool (x4.2.2), none⟩, ⟨10, AV.list 1 (x5.map AV.str), some 0⟩, ⟨11, AV.ptr 2 0, none⟩] [.cells 25 [AV.str ([] : Bytes), AV.list 3 (([] : List S_Route).map S_Route.av), AV.list 4 (([] : List S_Deed).map S_Deed.av)] [(1, 1), (2, 2)], .cells 25 [AV.str (s3.Device), AV.list 3 ((s3.Routes).map S_Route.av), AV.list 4 ((s3.Deeds).map S_Deed.av)] [(1, 3), (2, 4)], .cells 92 [AV.str ([] : Bytes), AV.str x7, AV.str x8] []] [1, 1, 1, 1, 1]) ?_ ?_
      · refine Gho.to _ _ _ [0, 1, 2, 3, 4] ?_ ?_ ?_ rfl rfl ?_
        · exact ⟨⟨rfl, rfl, rfl⟩, ⟨⟨rfl, rfl, rfl⟩, ⟨⟨rfl, rfl, rfl⟩, trivial⟩⟩⟩
        · exact rfl
        · exact rfl
        · exact ⟨rfl, rfl, trivial, rfl, rfl, trivial, rfl, rfl, trivial, rfl, rfl, trivial, rfl, rfl, trivial, rfl, rfl, trivial, rfl, rfl, ⟨rfl, rfl⟩, rfl, rfl, trivial, trivial⟩
      refine SeqJ.go <| SeqJ.go <| SeqN.go ?_
      refine Br.mk (fun ht => ?_) (fun ht => ?_)
      · replace h := cond_tt h ht
        refine SeqJ.go <| bind_elim h fun x9 hx9 h => ?_
        refine And.intro rfl (Exists.intro (AV.str x9) (And.intro (fun hg => idx_map _ hx9) ?_))
        refine And.intro ⟨rfl, rfl, rfl, Nat.le_of_ble_eq_true rfl⟩ (Exists.intro [AV.str x9, AV.list 3 ((s3.Routes).map S_Route.av), AV.list 4 ((s3.Deeds).map S_Deed.av)] (And.intro (fun _ => rfl) ?_))
        refine SeqN.go <| bind_elim h fun x10 hx10 h => And.intro (fun hg => hg) ?_
        refine And.intro rfl (Exists.intro (AV.str x10) (And.intro (fun hg => gidx_map _ hx10 hg) ?_))
        refine And.intro (fun hg => hg) <| bind_elim h fun x11 hx11 h => And.intro (fun hg => hg) <| And.intro rfl ?_
        refine CallF.mk _ false (fun hg => intarsiaref25_device_ok E x10 x11 (gcall_some hx11 hg)) (And.intro rfl ?_)
        refine And.intro (fun hg => (and_r hg)) <| bind_elim h fun x12 hx12 h => And.intro (fun hg => hg) ?_
        refine And.intro rfl (Exists.intro (AV.str x12) (And.intro (fun hg => gidx_map _ hx12 hg) ?_))
        refine And.intro (fun hg => hg) <| bind_elim h fun x13 hx13 h => ?_
        have hx13c := (gcat_some hx13).1
        have hx13e := (gcat_some hx13).2
        refine And.intro (fun hg => hg) <| And.intro hx13c <| NormE.to (AV.str x13) (fun _ => congrArg AV.str hx13e.symm) <| And.intro (fun hg => hg) <| And.intro (fun hg => hg) <| And.intro (fun hg => (and_r hg)) ?_
        refine SeqN.via (St.of [⟨2, AV.ptr 0 0, none⟩, ⟨5, AV.ptr 1 0, none⟩, ⟨6, AV.int .i64 s2, none⟩, ⟨8, AV.str (x4.2.1), none⟩, ⟨9, AV.bool (bif (bif x4.2.2 then x11 else false) then (x4.1 == x13) else false), none⟩] [.cells 25 [AV.str ([] : Bytes), AV.list 3 (([] : List S_Route).map S_Route.av), AV.list 4 (([] : List S_Deed).map S_Deed.av)] [(1, 0), (2, 1)], .cells 25 [AV.str x9, AV.list 3 ((s3.Routes).map S_Route.av), AV.list 4 ((s3.Deeds).map S_Deed.av)] [(1, 2), (2, 3)]] [1, 1, 1, 1]) ?_ ?_
        · refine Gho.to _ _ _ [1, 2, 3, 4] ?_ ?_ ?_ rfl rfl ?_
          · exact ⟨⟨rfl, rfl, rfl⟩, ⟨⟨rfl, rfl, rfl⟩, trivial⟩⟩
          · exact rfl
          · exact rfl
          · exact ⟨rfl, rfl, trivial, rfl, rfl, trivial, rfl, rfl, trivial, rfl, rfl, trivial, rfl, rfl, trivial, trivial⟩
        refine SeqJ.go <| SeqJ.go <| SeqN.go ?_
        refine Br.mk (fun ht => ?_) (fun ht => ?_)
        · replace h := cond_tt h ht
          refine SeqJ.go ?_
          refine And.intro ⟨rfl, rfl, rfl, Nat.le_of_ble_eq_true rfl⟩ (Exists.intro [AV.str ([] : Bytes), AV.list 3 (([] : List S_Route).map S_Route.av), AV.list 4 (([] : List S_Deed).map S_Deed.av)] (And.intro (fun _ => rfl) ?_))
          refine SeqN.go ?_
          replace h := Option.some.inj h
          replace h := hr1 _ h.symm
          refine RetE.plain ?_
          refine And.intro ⟨Nat.le_of_ble_eq_true rfl, Nat.le_of_ble_eq_true rfl⟩ (Exists.intro (AV.agg [AV.str ([] : Bytes), AV.list 3 (([] : List S_Route).map S_Route.av), AV.list 4 (([] : List S_Deed).map S_Deed.av)]) (And.intro rfl ?_))
          exact And.intro rfl (And.intro (congrArg (fun r : (S_Plan × Int × Int) => AV.tup [S_Plan.av (r.1), AV.int .i64 (r.2.1), AV.int .i64 (r.2.2)]) h) rfl)
        · replace h := cond_ff h ht
          refine SeqN.go <| SeqN.go ?_
          replace h := Option.some.inj h
          refine Exists.intro ⟨(n1, ((x4.2.1), (IntKind.i64.wrap (s2 + (1 : Int))), (S_Plan.mk x9 (s3.Routes) (s3.Deeds)))), hl1 _ h.symm⟩ (And.intro (Nat.lt_succ_self _) ?_)
          refine Gho.to _ _ _ [0, 1, 2, 3] ?_ ?_ ?_ rfl rfl ?_
          · exact ⟨⟨rfl, rfl, rfl⟩, ⟨⟨rfl, rfl, rfl⟩, trivial⟩⟩
          · exact rfl
          · exact rfl
          · exact ⟨rfl, rfl, trivial, rfl, rfl, trivial, rfl, rfl, trivial, rfl, rfl, trivial, trivial⟩
      · replace h := cond_ff h ht
        refine SeqJ.go <| And.intro ⟨Nat.le_of_ble_eq_true rfl, Nat.le_of_ble_eq_true rfl⟩ <| NormE.to (AV.agg [AV.str ([] : Bytes), AV.str x7, AV.str x8]) (fun _ => rfl) <| bind_elim h fun x14 hx14 h => CallH.data _ false rfl (intarsiaref25_Way_ok E (S_Route.mk ([] : Bytes) x7 x8) x14 hx14) <| And.intro (fun hg => hg) <| And.intro (fun hg => hg) <| NormE.to (AV.int .i64 ((s3.Deeds).length : Int)) (fun _ => len_list S_Deed.av (s3.Deeds)) <| And.intro (fun hg => hg) <| And.intro (fun hg => (and_r hg)) <| SeqN.go ?_
        refine Br.mk (fun ht => ?_) (fun ht => ?_)
        · replace h := cond_tt h ht
          refine SeqJ.go <| And.intro ⟨Nat.le_of_ble_eq_true rfl, Nat.le_of_ble_eq_true rfl⟩ <| NormE.to (AV.agg [AV.str ([] : Bytes), AV.str x7, AV.str x8]) (fun _ => rfl) <| And.intro ⟨rfl, rfl, rfl, rfl⟩ <| And.intro ⟨rfl, rfl, rfl⟩ <| NormE.to (AV.list 3 (([(S_Route.mk ([] : Bytes) x7 x8)] : List S_Route).map S_Route.av)) (fun _ => rfl) <| bind_elim h fun x15 hx15 h => ?_
          have qx15 := (app_some hx15).1
          have hx15e := (app_some hx15).2
          refine And.intro ⟨rfl, rfl, rfl⟩ <| And.intro rfl <| And.intro (app_cond S_Route.av qx15) <| NormE.to (AV.list 3 (x15.map S_Route.av)) (fun _ => (app_list 3 S_Route.av _ _).trans (congrArg (fun y => AV.list 3 (List.map S_Route.av y)) hx15e.symm)) ?_
          refine And.intro ⟨rfl, rfl, rfl, Nat.le_of_ble_eq_true rfl⟩ (Exists.intro [AV.str (s3.Device), AV.list 3 (x15.map S_Route.av), AV.list 4 ((s3.Deeds).map S_Deed.av)] (And.intro (fun _ => rfl) ?_))
          refine SeqN.via (St.of [⟨2, AV.ptr 0 0, none⟩, ⟨5, AV.ptr 1 0, none⟩, ⟨6, AV.int .i64 s2, none⟩, ⟨8, AV.str (x4.2.1), none⟩, ⟨9, AV.bool (x4.2.2), none⟩] [.cells 25 [AV.str ([] : Bytes), AV.list 3 (([] : List S_Route).map S_Route.av), AV.list 4 (([] : List S_Deed).map S_Deed.av)] [(1, 0), (2, 1)], .cells 25 [AV.str (s3.Device), AV.list 3 (x15.map S_Route.av), AV.list 4 ((s3.Deeds).map S_Deed.av)] [(1, 2), (2, 3)]] [1, 1, 1, 1]) ?_ ?_
          · refine Gho.to _ _ _ [1, 2, 6, 4] ?_ ?_ ?_ rfl rfl ?_
            · exact ⟨⟨rfl, rfl, rfl⟩, ⟨⟨rfl, rfl, rfl⟩, trivial⟩⟩
            · exact rfl
            · exact rfl
            · exact ⟨rfl, rfl, trivial, rfl, rfl, trivial, rfl, rfl, trivial, rfl, rfl, trivial, rfl, rfl, trivial, trivial⟩
          refine And.intro (fun hg => hg) <| bind_elim h fun x16 hx16 h => And.intro (fun hg => hg) <| And.intro rfl ?_
          refine CallF.mk _ false (fun hg => intarsiaref21_Right_ok E x15 x16 (gcall_some hx16 hg)) (And.intro rfl ?_)
          refine And.intro (fun hg => (and_r hg)) <| SeqN.go <| SeqJ.go <| SeqJ.go <| SeqN.go ?_
          refine Br.mk (fun ht => ?_) (fun ht => ?_)
          · replace h := cond_tt h ht
            refine SeqJ.go ?_
            refine And.intro ⟨rfl, rfl, rfl, Nat.le_of_ble_eq_true rfl⟩ (Exists.intro [AV.str ([] : Bytes), AV.list 3 (([] : List S_Route).map S_Route.av), AV.list 4 (([] : List S_Deed).map S_Deed.av)] (And.intro (fun _ => rfl) ?_))
            refine SeqN.go ?_
            replace h := Option.some.inj h
            replace h := hr1 _ h.symm
            refine RetE.plain ?_
            refine And.intro ⟨Nat.le_of_ble_eq_true rfl, Nat.le_of_ble_eq_true rfl⟩ (Exists.intro (AV.agg [AV.str ([] : Bytes), AV.list 3 (([] : List S_Route).map S_Route.av), AV.list 4 (([] : List S_Deed).map S_Deed.av)]) (And.intro rfl ?_))
            exact And.intro rfl (And.intro (congrArg (fun r : (S_Plan × Int × Int) => AV.tup [S_Plan.av (r.1), AV.int .i64 (r.2.1), AV.int .i64 (r.2.2)]) h) rfl)
          · replace h := cond_ff h ht
            refine SeqN.go <| SeqN.go ?_
            replace h := Option.some.inj h
            refine Exists.intro ⟨(n1, ((x4.2.1), (IntKind.i64.wrap (s2 + (1 : Int))), (S_Plan.mk (s3.Device) x15 (s3.Deeds)))), hl1 _ h.symm⟩ (And.intro (Nat.lt_succ_self _) ?_)
            refine Gho.to _ _ _ [0, 1, 2, 3] ?_ ?_ ?_ rfl rfl ?_
            · exact ⟨⟨rfl, rfl, rfl⟩, ⟨⟨rfl, rfl, rfl⟩, trivial⟩⟩
            · exact rfl
            · exact rfl
            · exact ⟨rfl, rfl, trivial, rfl, rfl, trivial, rfl, rfl, trivial, rfl, rfl, trivial, trivial⟩
        · replace h := cond_ff h ht
          refine SeqJ.go <| bind_elim h fun x17 hx17 h => CallH.data _ false rfl (intarsiaref25_Deed_ok E (x4.1) x17 hx17) <| And.intro rfl ?_
          refine And.intro ⟨rfl, rfl, rfl, Nat.le_of_ble_eq_true rfl⟩ (Exists.intro (S_Deed.cells x17) (And.intro (fun _ => rfl) ?_))
          refine SeqN.via (St.of [⟨2, AV.ptr 0 0, none⟩, ⟨5, AV.ptr 1 0, none⟩, ⟨6, AV.int .i64 s2, none⟩, ⟨7, AV.str (x4.1), none⟩, ⟨8, AV.str (x4.2.1), none⟩, ⟨9, AV.bool (x4.2.2), none⟩, ⟨12, AV.ptr 3 0, none⟩] [.cells 25 [AV.str ([] : Bytes), AV.list 3 (([] : List S_Route).map S_Route.av), AV.list 4 (([] : List S_Deed).map S_Deed.av)] [(1, 0), (2, 1)], .cells 25 [AV.str (s3.Device), AV.list 3 ((s3.Routes).map S_Route.av), AV.list 4 ((s3.Deeds).map S_Deed.av)] [(1, 2), (2, 3)], .dead, .cells 94 (S_Deed.cells x17) []] [1, 1, 1, 1]) ?_ ?_
          · refine Gho.to _ _ _ [1, 2, 3, 4] ?_ ?_ ?_ rfl rfl ?_
            · exact ⟨⟨rfl, rfl, rfl⟩, ⟨⟨rfl, rfl, rfl⟩, ⟨trivial, ⟨⟨rfl, rfl, rfl⟩, trivial⟩⟩⟩⟩
            · exact rfl
            · exact rfl
            · exact ⟨rfl, rfl, trivial, rfl, rfl, trivial, rfl, rfl, trivial, rfl, rfl, trivial, rfl, rfl, trivial, rfl, rfl, trivial, rfl, rfl, trivial, trivial⟩
          refine SeqJ.go <| And.intro ⟨Nat.le_of_ble_eq_true rfl, Nat.le_of_ble_eq_true rfl⟩ <| NormE.to (S_Deed.av x17) (fun _ => rfl) <| And.intro ⟨rfl, rfl, rfl, rfl⟩ <| And.intro ⟨rfl, rfl, rfl⟩ <| NormE.to (AV.list 4 (([x17] : List S_Deed).map S_Deed.av)) (fun _ => rfl) <| bind_elim h fun x18 hx18 h => ?_
          have qx18 := (app_some hx18).1
          have hx18e := (app_some hx18).2
          refine And.intro ⟨rfl, rfl, rfl⟩ <| And.intro rfl <| And.intro (app_cond S_Deed.av qx18) <| NormE.to (AV.list 4 (x18.map S_Deed.av)) (fun _ => (app_list 4 S_Deed.av _ _).trans (congrArg (fun y => AV.list 4 (List.map S_Deed.av y)) hx18e.symm)) ?_
          refine And.intro ⟨rfl, rfl, rfl, Nat.le_of_ble_eq_true rfl⟩ (Exists.intro [AV.str (s3.Device), AV.list 3 ((s3.Routes).map S_Route.av), AV.list 4 (x18.map S_Deed.av)] (And.intro (fun _ => rfl) ?_))
          refine SeqN.go <| And.intro (fun hg => hg) <| And.intro (fun hg => hg) <| NormE.to (AV.int .i64 (x18.length : Int)) (fun _ => len_list S_Deed.av x18) <| And.intro (fun hg => hg) <| And.intro (fun hg => (and_r hg)) <| And.intro ⟨Nat.le_of_ble_eq_true rfl, Nat.le_of_ble_eq_true rfl⟩ <| NormE.to (S_Deed.av x17) (fun _ => rfl) <| bind_elim h fun x19 hx19 h => And.intro (fun hg => hg) <| And.intro rfl ?_
          refine CallF.mk _ false (fun hg => intarsiaref25_IsDeed_ok E x17 x19 (gcall_some hx19 hg)) (And.intro rfl ?_)
          refine And.intro (fun hg => (and_r hg)) <| And.intro ⟨Nat.le_of_ble_eq_true rfl, Nat.le_of_ble_eq_true rfl⟩ <| NormE.to (S_Deed.av x17) (fun _ => rfl) <| bind_elim h fun x20 hx20 h => And.intro (fun hg => hg) <| And.intro rfl ?_
          refine CallF.mk _ false (fun hg => intarsiaref25_Line_ok E x17 x20 (gcall_some hx20 hg)) (And.intro rfl ?_)
          refine And.intro (fun hg => hg) <| And.intro (fun hg => hg) <| And.intro (fun hg => (and_r hg)) ?_
          refine SeqN.via (St.of [⟨2, AV.ptr 0 0, none⟩, ⟨5, AV.ptr 1 0, none⟩, ⟨6, AV.int .i64 s2, none⟩, ⟨8, AV.str (x4.2.1), none⟩, ⟨9, AV.bool (bif (bif (bif x4.2.2 then (decide ((x18.length : Int) ≤ (200 : Int))) else false) then x19 else false) then (x20 == x4.1) else false), none⟩] [.cells 25 [AV.str ([] : Bytes), AV.list 3 (([] : List S_Route).map S_Route.av), AV.list 4 (([] : List S_Deed).map S_Deed.av)] [(1, 0), (2, 1)], .cells 25 [AV.str (s3.Device), AV.list 3 ((s3.Routes).map S_Route.av), AV.list 4 (x18.map S_Deed.av)] [(1, 2), (2, 3)]] [1, 1, 1, 1]) ?_ ?_
          · refine Gho.to _ _ _ [0, 1, 2, 5] ?_ ?_ ?_ rfl rfl ?_
            · exact ⟨⟨rfl, rfl, rfl⟩, ⟨⟨rfl, rfl, rfl⟩, trivial⟩⟩
            · exact rfl
            · exact rfl
            · exact ⟨rfl, rfl, trivial, rfl, rfl, trivial, rfl, rfl, trivial, rfl, rfl, trivial, rfl, rfl, trivial, trivial⟩
          refine SeqJ.go <| SeqJ.go <| SeqN.go ?_
          refine Br.mk (fun ht => ?_) (fun ht => ?_)
          · replace h := cond_tt h ht
            refine SeqJ.go ?_
            refine And.intro ⟨rfl, rfl, rfl, Nat.le_of_ble_eq_true rfl⟩ (Exists.intro [AV.str ([] : Bytes), AV.list 3 (([] : List S_Route).map S_Route.av), AV.list 4 (([] : List S_Deed).map S_Deed.av)] (And.intro (fun _ => rfl) ?_))
            refine SeqN.go ?_
            replace h := Option.some.inj h
            replace h := hr1 _ h.symm
            refine RetE.plain ?_
            refine And.intro ⟨Nat.le_of_ble_eq_true rfl, Nat.le_of_ble_eq_true rfl⟩ (Exists.intro (AV.agg [AV.str ([] : Bytes), AV.list 3 (([] : List S_Route).map S_Route.av), AV.list 4 (([] : List S_Deed).map S_Deed.av)]) (And.intro rfl ?_))
            exact And.intro rfl (And.intro (congrArg (fun r : (S_Plan × Int × Int) => AV.tup [S_Plan.av (r.1), AV.int .i64 (r.2.1), AV.int .i64 (r.2.2)]) h) rfl)
          · replace h := cond_ff h ht
            refine SeqN.go <| SeqN.go ?_
            replace h := Option.some.inj h
            refine Exists.intro ⟨(n1, ((x4.2.1), (IntKind.i64.wrap (s2 + (1 : Int))), (S_Plan.mk (s3.Device) (s3.Routes) x18))), hl1 _ h.symm⟩ (And.intro (Nat.lt_succ_self _) ?_)
            refine Gho.to _ _ _ [0, 1, 2, 3] ?_ ?_ ?_ rfl rfl ?_
            · exact ⟨⟨rfl, rfl, rfl⟩, ⟨⟨rfl, rfl, rfl⟩, trivial⟩⟩
            · exact rfl
            · exact rfl
            · exact ⟨rfl, rfl, trivial, rfl, rfl, trivial, rfl, rfl, trivial, rfl, rfl, trivial, trivial⟩
    · replace h := cond_ff h ht
      refine SeqN.go <| SeqJ.go <| SeqJ.go ?_
      refine SeqN.via (St.of [⟨2, AV.ptr 0 0, none⟩, ⟨5, AV.ptr 1 0, none⟩, ⟨6, AV.int .i64 s2, none⟩, ⟨7, AV.str (x4.1), none⟩, ⟨8, AV.str (x4.2.1), none⟩, ⟨9, AV.bool (x4.2.2), none⟩, ⟨10, AV.list 1 (x5.map AV.str), some 0⟩, ⟨11, AV.ptr 2 0, none⟩, ⟨45, AV.bool (s2 == (1 : Int)), none⟩] [.cells 25 [AV.str ([] : Bytes), AV.list 3 (([] : List S_Route).map S_Route.av), AV.list 4 (([] : List S_Deed).map S_Deed.av)] [(1, 1), (2, 2)], .cells 25 [AV.str (s3.Device), AV.list 3 ((s3.Routes).map S_Route.av), AV.list 4 ((s3.Deeds).map S_Deed.av)] [(1, 3), (2, 4)], .cells 92 [AV.str x6, AV.str x7, AV.str x8] []] [1, 1, 1, 1, 1]) ?_ ?_
      · refine Gho.to _ _ _ [0, 1, 2, 3, 4] ?_ ?_ ?_ rfl rfl ?_
        · exact ⟨⟨rfl, rfl, rfl⟩, ⟨⟨rfl, rfl, rfl⟩, ⟨⟨rfl, rfl, rfl⟩, trivial⟩⟩⟩
        · exact rfl
        · exact rfl
        · exact ⟨rfl, rfl, trivial, rfl, rfl, trivial, rfl, rfl, trivial, rfl, rfl, trivial, rfl, rfl, trivial, rfl, rfl, trivial, rfl, rfl, ⟨rfl, rfl⟩, rfl, rfl, trivial, rfl, rfl, trivial, trivial⟩
      refine Br.mk (fun ht => ?_) (fun ht => ?_)
      · replace h := cond_tt h ht
        refine SeqJ.go <| bind_elim h fun x21 hx21 h => ?_
        refine And.intro rfl (Exists.intro (AV.str x21) (And.intro (fun hg => idx_map _ hx21) ?_))
        refine And.intro ⟨rfl, rfl, rfl, Nat.le_of_ble_eq_true rfl⟩ (Exists.intro [AV.str x21, AV.list 3 ((s3.Routes).map S_Route.av), AV.list 4 ((s3.Deeds).map S_Deed.av)] (And.intro (fun _ => rfl) ?_))
        refine SeqN.go <| bind_elim h fun x22 hx22 h => And.intro (fun hg => hg) ?_
        refine And.intro rfl (Exists.intro (AV.str x22) (And.intro (fun hg => gidx_map _ hx22 hg) ?_))
        refine And.intro (fun hg => hg) <| bind_elim h fun x23 hx23 h => And.intro (fun hg => hg) <| And.intro rfl ?_
        refine CallF.mk _ false (fun hg => intarsiaref25_device_ok E x22 x23 (gcall_some hx23 hg)) (And.intro rfl ?_)
        refine And.intro (fun hg => (and_r hg)) <| bind_elim h fun x24 hx24 h => And.intro (fun hg => hg) ?_
        refine And.intro rfl (Exists.intro (AV.str x24) (And.intro (fun hg => gidx_map _ hx24 hg) ?_))
        refine And.intro (fun hg => hg) <| bind_elim h fun x25 hx25 h => ?_
        have hx25c := (gcat_some hx25).1
        have hx25e := (gcat_some hx25).2
        refine And.intro (fun hg => hg) <| And.intro hx25c <| NormE.to (AV.str x25) (fun _ => congrArg AV.str hx25e.symm) <| And.intro (fun hg => hg) <| And.intro (fun hg => hg) <| And.intro (fun hg => (and_r hg)) ?_
        refine SeqN.via (St.of [⟨2, AV.ptr 0 0, none⟩, ⟨5, AV.ptr 1 0, none⟩, ⟨6, AV.int .i64 s2, none⟩, ⟨8, AV.str (x4.2.1), none⟩, ⟨9, AV.bool (bif (bif x4.2.2 then x23 else false) then (x4.1 == x25) else false), none⟩] [.cells 25 [AV.str ([] : Bytes), AV.list 3 (([] : List S_Route).map S_Route.av), AV.list 4 (([] : List S_Deed).map S_Deed.av)] [(1, 0), (2, 1)], .cells 25 [AV.str x21, AV.list 3 ((s3.Routes).map S_Route.av), AV.list 4 ((s3.Deeds).map S_Deed.av)] [(1, 2), (2, 3)]] [1, 1, 1, 1]) ?_ ?_
        · refine Gho.to _ _ _ [1, 2, 3, 4] ?_ ?_ ?_ rfl rfl ?_
          · exact ⟨⟨rfl, rfl, rfl⟩, ⟨⟨rfl, rfl, rfl⟩, trivial⟩⟩
          · exact rfl
          · exact rfl
          · exact ⟨rfl, rfl, trivial, rfl, rfl, trivial, rfl, rfl, trivial, rfl, rfl, trivial, rfl, rfl, trivial, trivial⟩
        refine SeqJ.go <| SeqJ.go <| SeqN.go ?_
        refine Br.mk (fun ht => ?_) (fun ht => ?_)
        · replace h := cond_tt h ht
          refine SeqJ.go ?_
          refine And.intro ⟨rfl, rfl, rfl, Nat.le_of_ble_eq_true rfl⟩ (Exists.intro [AV.str ([] : Bytes), AV.list 3 (([] : List S_Route).map S_Route.av), AV.list 4 (([] : List S_Deed).map S_Deed.av)] (And.intro (fun _ => rfl) ?_))
          refine SeqN.go ?_
          replace h := Option.some.inj h
          replace h := hr1 _ h.symm
          refine RetE.plain ?_
          refine And.intro ⟨Nat.le_of_ble_eq_true rfl, Nat.le_of_ble_eq_true rfl⟩ (Exists.intro (AV.agg [AV.str ([] : Bytes), AV.list 3 (([] : List S_Route).map S_Route.av), AV.list 4 (([] : List S_Deed).map S_Deed.av)]) (And.intro rfl ?_))
          exact And.intro rfl (And.intro (congrArg (fun r : (S_Plan × Int × Int) => AV.tup [S_Plan.av (r.1), AV.int .i64 (r.2.1), AV.int .i64 (r.2.2)]) h) rfl)
        · replace h := cond_ff h ht
          refine SeqN.go <| SeqN.go ?_
          replace h := Option.some.inj h
          refine Exists.intro ⟨(n1, ((x4.2.1), (IntKind.i64.wrap (s2 + (1 : Int))), (S_Plan.mk x21 (s3.Routes) (s3.Deeds)))), hl1 _ h.symm⟩ (And.intro (Nat.lt_succ_self _) ?_)
          refine Gho.to _ _ _ [0, 1, 2, 3] ?_ ?_ ?_ rfl rfl ?_
          · exact ⟨⟨rfl, rfl, rfl⟩, ⟨⟨rfl, rfl, rfl⟩, trivial⟩⟩
          · exact rfl
          · exact rfl
          · exact ⟨rfl, rfl, trivial, rfl, rfl, trivial, rfl, rfl, trivial, rfl, rfl, trivial, trivial⟩
      · replace h := cond_ff h ht
        refine SeqJ.go <| And.intro ⟨Nat.le_of_ble_eq_true rfl, Nat.le_of_ble_eq_true rfl⟩ <| NormE.to (AV.agg [AV.str x6, AV.str x7, AV.str x8]) (fun _ => rfl) <| bind_elim h fun x26 hx26 h => CallH.data _ false rfl (intarsiaref25_Way_ok E (S_Route.mk x6 x7 x8) x26 hx26) <| And.intro (fun hg => hg) <| And.intro (fun hg => hg) <| NormE.to (AV.int .i64 ((s3.Deeds).length : Int)) (fun _ => len_list S_Deed.av (s3.Deeds)) <| And.intro (fun hg => hg) <| And.intro (fun hg => (and_r hg)) <| SeqN.go ?_
        refine Br.mk (fun ht => ?_) (fun ht => ?_)
        · replace h := cond_tt h ht
          refine SeqJ.go <| And.intro ⟨Nat.le_of_ble_eq_true rfl, Nat.le_of_ble_eq_true rfl⟩ <| NormE.to (AV.agg [AV.str x6, AV.str x7, AV.str x8]) (fun _ => rfl) <| And.intro ⟨rfl, rfl, rfl, rfl⟩ <| And.intro ⟨rfl, rfl, rfl⟩ <| NormE.to (AV.list 3 (([(S_Route.mk x6 x7 x8)] : List S_Route).map S_Route.av)) (fun _ => rfl) <| bind_elim h fun x27 hx27 h => ?_
          have qx27 := (app_some hx27).1
          have hx27e := (app_some hx27).2
          refine And.intro ⟨rfl, rfl, rfl⟩ <| And.intro rfl <| And.intro (app_cond S_Route.av qx27) <| NormE.to (AV.list 3 (x27.map S_Route.av)) (fun _ => (app_list 3 S_Route.av _ _).trans (congrArg (fun y => AV.list 3 (List.map S_Route.av y)) hx27e.symm)) ?_
          refine And.intro ⟨rfl, rfl, rfl, Nat.le_of_ble_eq_true rfl⟩ (Exists.intro [AV.str (s3.Device), AV.list 3 (x27.map S_Route.av), AV.list 4 ((s3.Deeds).map S_Deed.av)] (And.intro (fun _ => rfl) ?_))
          refine SeqN.via (St.of [⟨2, AV.ptr 0 0, none⟩, ⟨5, AV.ptr 1 0, none⟩, ⟨6, AV.int .i64 s2, none⟩, ⟨8, AV.str (x4.2.1), none⟩, ⟨9, AV.bool (x4.2.2), none⟩] [.cells 25 [AV.str ([] : Bytes), AV.list 3 (([] : List S_Route).map S_Route.av), AV.list 4 (([] : List S_Deed).map S_Deed.av)] [(1, 0), (2, 1)], .cells 25 [AV.str (s3.Device), AV.list 3 (x27.map S_Route.av), AV.list 4 ((s3.Deeds).map S_Deed.av)] [(1, 2), (2, 3)]] [1, 1, 1, 1]) ?_ ?_
          · refine Gho.to _ _ _ [1, 2, 6, 4] ?_ ?_ ?_ rfl rfl ?_
            · exact ⟨⟨rfl, rfl, rfl⟩, ⟨⟨rfl, rfl, rfl⟩, trivial⟩⟩
            · exact rfl
            · exact rfl
            · exact ⟨rfl, rfl, trivial, rfl, rfl, trivial, rfl, rfl, trivial, rfl, rfl, trivial, rfl, rfl, trivial, trivial⟩
          refine And.intro (fun hg => hg) <| bind_elim h fun x28 hx28 h => And.intro (fun hg => hg) <| And.intro rfl ?_
          refine CallF.mk _ false (fun hg => intarsiaref21_Right_ok E x27 x28 (gcall_some hx28 hg)) (And.intro rfl ?_)
          refine And.intro (fun hg => (and_r hg)) <| SeqN.go <| SeqJ.go <| SeqJ.go <| SeqN.go ?_
          refine Br.mk (fun ht => ?_) (fun ht => ?_)
          · replace h := cond_tt h ht
            refine SeqJ.go ?_
            refine And.intro ⟨rfl, rfl, rfl, Nat.le_of_ble_eq_true rfl⟩ (Exists.intro [AV.str ([] : Bytes), AV.list 3 (([] : List S_Route).map S_Route.av), AV.list 4 (([] : List S_Deed).map S_Deed.av)] (And.intro (fun _ => rfl) ?_))
            refine SeqN.go ?_
            replace h := Option.some.inj h
            replace h := hr1 _ h.symm
            refine RetE.plain ?_
            refine And.intro ⟨Nat.le_of_ble_eq_true rfl, Nat.le_of_ble_eq_true rfl⟩ (Exists.intro (AV.agg [AV.str ([] : Bytes), AV.list 3 (([] : List S_Route).map S_Route.av), AV.list 4 (([] : List S_Deed).map S_Deed.av)]) (And.intro rfl ?_))
            exact And.intro rfl (And.intro (congrArg (fun r : (S_Plan × Int × Int) => AV.tup [S_Plan.av (r.1), AV.int .i64 (r.2.1), AV.int .i64 (r.2.2)]) h) rfl)
          · replace h := cond_ff h ht
            refine SeqN.go <| SeqN.go ?_
            replace h := Option.some.inj h
            refine Exists.intro ⟨(n1, ((x4.2.1), (IntKind.i64.wrap (s2 + (1 : Int))), (S_Plan.mk (s3.Device) x27 (s3.Deeds)))), hl1 _ h.symm⟩ (And.intro (Nat.lt_succ_self _) ?_)
            refine Gho.to _ _ _ [0, 1, 2, 3] ?_ ?_ ?_ rfl rfl ?_
            · exact ⟨⟨rfl, rfl, rfl⟩, ⟨⟨rfl, rfl, rfl⟩, trivial⟩⟩
            · exact rfl
            · exact rfl
            · exact ⟨rfl, rfl, trivial, rfl, rfl, trivial, rfl, rfl, trivial, rfl, rfl, trivial, trivial⟩
        · replace h := cond_ff h ht
          refine SeqJ.go <| bind_elim h fun x29 hx29 h => CallH.data _ false rfl (intarsiaref25_Deed_ok E (x4.1) x29 hx29) <| And.intro rfl ?_
          refine And.intro ⟨rfl, rfl, rfl, Nat.le_of_ble_eq_true rfl⟩ (Exists.intro (S_Deed.cells x29) (And.intro (fun _ => rfl) ?_))
          refine SeqN.go <| SeqJ.go <| And.intro ⟨Nat.le_of_ble_eq_true rfl, Nat.le_of_ble_eq_true rfl⟩ <| NormE.to (S_Deed.av x29) (fun _ => rfl) <| And.intro ⟨rfl, rfl, rfl, rfl⟩ <| And.intro ⟨rfl, rfl, rfl⟩ <| NormE.to (AV.list 4 (([x29] : List S_Deed).map S_Deed.av)) (fun _ => rfl) <| bind_elim h fun x30 hx30 h => ?_
          have qx30 := (app_some hx30).1
          have hx30e := (app_some hx30).2
          refine And.intro ⟨rfl, rfl, rfl⟩ <| And.intro rfl <| And.intro (app_cond S_Deed.av qx30) <| NormE.to (AV.list 4 (x30.map S_Deed.av)) (fun _ => (app_list 4 S_Deed.av _ _).trans (congrArg (fun y => AV.list 4 (List.map S_Deed.av y)) hx30e.symm)) ?_
          refine And.intro ⟨rfl, rfl, rfl, Nat.le_of_ble_eq_true rfl⟩ (Exists.intro [AV.str (s3.Device), AV.list 3 ((s3.Routes).map S_Route.av), AV.list 4 (x30.map S_Deed.av)] (And.intro (fun _ => rfl) ?_))
          refine SeqN.via (St.of [⟨2, AV.ptr 0 0, none⟩, ⟨5, AV.ptr 1 0, none⟩, ⟨6, AV.int .i64 s2, none⟩, ⟨7, AV.str (x4.1), none⟩, ⟨8, AV.str (x4.2.1), none⟩, ⟨9, AV.bool (x4.2.2), none⟩, ⟨12, AV.ptr 3 0, none⟩] [.cells 25 [AV.str ([] : Bytes), AV.list 3 (([] : List S_Route).map S_Route.av), AV.list 4 (([] : List S_Deed).map S_Deed.av)] [(1, 0), (2, 1)], .cells 25 [AV.str (s3.Device), AV.list 3 ((s3.Routes).map S_Route.av), AV.list 4 (x30.map S_Deed.av)] [(1, 2), (2, 3)], .dead, .cells 94 (S_Deed.cells x29) []] [1, 1, 1, 1]) ?_ ?_
          · refine Gho.to _ _ _ [1, 2, 3, 6] ?_ ?_ ?_ rfl rfl ?_
            · exact ⟨⟨rfl, rfl, rfl⟩, ⟨⟨rfl, rfl, rfl⟩, ⟨trivial, ⟨⟨rfl, rfl, rfl⟩, trivial⟩⟩⟩⟩
            · exact rfl
            · exact rfl
            · exact ⟨rfl, rfl, trivial, rfl, rfl, trivial, rfl, rfl, trivial, rfl, rfl, trivial, rfl, rfl, trivial, rfl, rfl, trivial, rfl, rfl, trivial, trivial⟩
          refine And.intro (fun hg => hg) <| And.intro (fun hg => hg) <| NormE.to (AV.int .i64 (x30.length : Int)) (fun _ => len_list S_Deed.av x30) <| And.intro (fun hg => hg) <| And.intro (fun hg => (and_r hg)) <| And.intro ⟨Nat.le_of_ble_eq_true rfl, Nat.le_of_ble_eq_true rfl⟩ <| NormE.to (S_Deed.av x29) (fun _ => rfl) <| bind_elim h fun x31 hx31 h => And.intro (fun hg => hg) <| And.intro rfl ?_
          refine CallF.mk _ false (fun hg => intarsiaref25_IsDeed_ok E x29 x31 (gcall_some hx31 hg)) (And.intro rfl ?_)
          refine And.intro (fun hg => (and_r hg)) <| And.intro ⟨Nat.le_of_ble_eq_true rfl, Nat.le_of_ble_eq_true rfl⟩ <| NormE.to (S_Deed.av x29) (fun _ => rfl) <| bind_elim h fun x32 hx32 h => And.intro (fun hg => hg) <| And.intro rfl ?_
          refine CallF.mk _ false (fun hg => intarsiaref25_Line_ok E x29 x32 (gcall_some hx32 hg)) (And.intro rfl ?_)
          refine And.intro (fun hg => hg) <| And.intro (fun hg => hg) <| And.intro (fun hg => (and_r hg)) ?_
          refine SeqN.via (St.of [⟨2, AV.ptr 0 0, none⟩, ⟨5, AV.ptr 1 0, none⟩, ⟨6, AV.int .i64 s2, none⟩, ⟨8, AV.str (x4.2.1), none⟩, ⟨9, AV.bool (bif (bif (bif x4.2.2 then (decide ((x30.length : Int) ≤ (200 : Int))) else false) then x31 else false) then (x32 == x4.1) else false), none⟩] [.cells 25 [AV.str ([] : Bytes), AV.list 3 (([] : List S_Route).map S_Route.av), AV.list 4 (([] : List S_Deed).map S_Deed.av)] [(1, 0), (2, 1)], .cells 25 [AV.str (s3.Device), AV.list 3 ((s3.Routes).map S_Route.av), AV.list 4 (x30.map S_Deed.av)] [(1, 2), (2, 3)]] [1, 1, 1, 1]) ?_ ?_
          · refine Gho.to _ _ _ [0, 1, 2, 3] ?_ ?_ ?_ rfl rfl ?_
            · exact ⟨⟨rfl, rfl, rfl⟩, ⟨⟨rfl, rfl, rfl⟩, trivial⟩⟩
            · exact rfl
            · exact rfl
            · exact ⟨rfl, rfl, trivial, rfl, rfl, trivial, rfl, rfl, trivial, rfl, rfl, trivial, rfl, rfl, trivial, trivial⟩
          refine SeqJ.go <| SeqJ.go <| SeqN.go ?_
          refine Br.mk (fun ht => ?_) (fun ht => ?_)
          · replace h := cond_tt h ht
            refine SeqJ.go ?_
            refine And.intro ⟨rfl, rfl, rfl, Nat.le_of_ble_eq_true rfl⟩ (Exists.intro [AV.str ([] : Bytes), AV.list 3 (([] : List S_Route).map S_Route.av), AV.list 4 (([] : List S_Deed).map S_Deed.av)] (And.intro (fun _ => rfl) ?_))
            refine SeqN.go ?_
            replace h := Option.some.inj h
            replace h := hr1 _ h.symm
            refine RetE.plain ?_
            refine And.intro ⟨Nat.le_of_ble_eq_true rfl, Nat.le_of_ble_eq_true rfl⟩ (Exists.intro (AV.agg [AV.str ([] : Bytes), AV.list 3 (([] : List S_Route).map S_Route.av), AV.list 4 (([] : List S_Deed).map S_Deed.av)]) (And.intro rfl ?_))
            exact And.intro rfl (And.intro (congrArg (fun r : (S_Plan × Int × Int) => AV.tup [S_Plan.av (r.1), AV.int .i64 (r.2.1), AV.int .i64 (r.2.2)]) h) rfl)
          · replace h := cond_ff h ht
            refine SeqN.go <| SeqN.go ?_
            replace h := Option.some.inj h
            refine Exists.intro ⟨(n1, ((x4.2.1), (IntKind.i64.wrap (s2 + (1 : Int))), (S_Plan.mk (s3.Device) (s3.Routes) x30))), hl1 _ h.symm⟩ (And.intro (Nat.lt_succ_self _) ?_)
            refine Gho.to _ _ _ [0, 1, 2, 3] ?_ ?_ ?_ rfl rfl ?_
            · exact ⟨⟨rfl, rfl, rfl⟩, ⟨⟨rfl, rfl, rfl⟩, trivial⟩⟩
            · exact rfl
            · exact rfl
            · exact ⟨rfl, rfl, trivial, rfl, rfl, trivial, rfl, rfl, trivial, rfl, rfl, trivial, trivial⟩
  · replace h := cond_ff h ht
    refine SeqN.go <| SeqJ.go <| And.intro ⟨Nat.le_of_ble_eq_true rfl, Nat.le_of_ble_eq_true rfl⟩ <| NormE.to (AV.agg [AV.str (s3.Device), AV.list 3 ((s3.Routes).map S_Route.av), AV.list 4 ((s3.Deeds).map S_Deed.av)]) (fun _ => rfl) ?_
    refine And.intro ⟨rfl, rfl, rfl, Nat.le_of_ble_eq_true rfl⟩ (Exists.intro [AV.str (s3.Device), AV.list 3 ((s3.Routes).map S_Route.av), AV.list 4 ((s3.Deeds).map S_Deed.av)] (And.intro (fun _ => rfl) ?_))
    refine SeqN.go ?_
    replace h := Option.some.inj h
    replace h := hr1 _ h.symm
    refine RetE.plain ?_
    refine And.intro ⟨Nat.le_of_ble_eq_true rfl, Nat.le_of_ble_eq_true rfl⟩ (Exists.intro (AV.agg [AV.str (s3.Device), AV.list 3 ((s3.Routes).map S_Route.av), AV.list 4 ((s3.Deeds).map S_Deed.av)]) (And.intro rfl ?_))
    exact And.intro rfl (And.intro (congrArg (fun r : (S_Plan × Int × Int) => AV.tup [S_Plan.av (r.1), AV.int .i64 (r.2.1), AV.int .i64 (r.2.2)]) h) rfl)

theorem intarsialaw25_ScriptReads_ok (E : Pm.Env) [LaidE E] (a0 : Bytes) (r : Bool) (h : intarsialaw25_ScriptReads a0 = some r) : FnR E Tryz.prog 5 [AV.str a0] (AV.bool r) false := by
  refine FnR.of_ev (T := T) (rows := []) tOk mixed Tryz.func5 rfl (by kernel_rfl) (by kernel_rfl) rfl fun hwf => ?_
  unfold intarsialaw25_ScriptReads at h
  refine SeqJ.go <| SeqN.go <| SeqJ.go <| NormE.same <| And.intro rfl <| bind_elim h fun x1 hx1 h => ?_
  have qx1 := (slc_some hx1).1
  have hx1e := (slc_some hx1).2
  refine And.intro (fun _ => qx1) <| NormE.to (AV.str x1) (fun _ => congrArg AV.str hx1e.symm) <| SeqN.go <| SeqJ.go <| bind_elim h fun x2 hx2 h => CallH.data _ false rfl (script_Parse_ok E x1 x2 hx2) <| And.intro rfl ?_
  refine And.intro ⟨rfl, rfl, rfl, Nat.le_of_ble_eq_true rfl⟩ (Exists.intro (S_Plan.cells (x2.1)) (And.intro (fun _ => rfl) ?_))
  refine SeqN.via (St.of [⟨0, AV.str x1, none⟩, ⟨3, AV.ptr 0 0, none⟩, ⟨4, AV.int .i64 (x2.2.1), none⟩, ⟨5, AV.int .i64 (x2.2.2), none⟩] [.cells 25 (S_Plan.cells (x2.1)) []] []) ?_ ?_
  · refine Gho.to _ _ _ [] ?_ ?_ ?_ rfl rfl ?_
    · exact ⟨⟨rfl, rfl, rfl⟩, trivial⟩
    · exact rfl
    · exact rfl
    · exact ⟨rfl, rfl, trivial, rfl, rfl, trivial, rfl, rfl, trivial, rfl, rfl, trivial, trivial⟩
  refine SeqJ.go <| bind_elim h fun x3 hx3 h => CallH.data _ false rfl (intarsiaref25_Parse_ok E x1 x3 hx3) <| And.intro rfl ?_
  refine And.intro ⟨rfl, rfl, rfl, Nat.le_of_ble_eq_true rfl⟩ (Exists.intro (S_Plan.cells (x3.1)) (And.intro (fun _ => rfl) ?_))
  refine SeqN.go <| SeqJ.go <| bind_elim h fun x4 hx4 h => CallH.data _ false rfl (intarsialaw25_alive_ok E  x4 hx4) <| And.intro (fun hg => hg) <| And.intro (fun hg => hg) <| And.intro (fun hg => (and_r hg)) <| And.intro (fun hg => hg) <| And.intro (fun hg => hg) <| And.intro (fun hg => (and_r hg)) <| And.intro ⟨Nat.le_of_ble_eq_true rfl, Nat.le_of_ble_eq_true rfl⟩ <| NormE.to (S_Plan.av (x2.1)) (fun _ => rfl) <| And.intro ⟨Nat.le_of_ble_eq_true rfl, Nat.le_of_ble_eq_true rfl⟩ <| NormE.to (S_Plan.av (x3.1)) (fun _ => rfl) <| bind_elim h fun x5 hx5 h => And.intro (fun hg => hg) <| And.intro (fun hg => hg) <| And.intro rfl ?_
  refine CallF.mk _ false (fun hg => intarsiaref25_Like_ok E (x2.1) (x3.1) x5 (gcall_some hx5 hg)) (And.intro rfl ?_)
  refine And.intro (fun hg => (and_r hg)) ?_
  refine SeqN.via (St.of [⟨2, AV.bool (bif (bif (bif x4 then ((x2.2.1) == (x3.2.1)) else false) then ((x2.2.2) == (x3.2.2)) else false) then x5 else false), none⟩] [] []) ?_ ?_
  · refine Gho.to _ _ _ [] ?_ ?_ ?_ rfl rfl ?_
    · exact trivial
    · exact rfl
    · exact rfl
    · exact ⟨rfl, rfl, trivial, trivial⟩
  replace h := Option.some.inj h
  refine RetE.plain ?_
  exact And.intro rfl (And.intro (congrArg (fun r : Bool => AV.bool r) h) rfl)

end Go.Proofs.YtkfoahoplndelaaGreatDoor
