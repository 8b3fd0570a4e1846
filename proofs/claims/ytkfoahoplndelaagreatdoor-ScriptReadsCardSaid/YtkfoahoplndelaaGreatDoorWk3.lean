/-
  The functions do what their images say: walks, written by a program of mine (gen.py).
-/
import Derived.Test.YtkfoahoplndelaaGreatDoorIm2
import Derived.Test.YtkfoahoplndelaaGreatDoorGw3
namespace Go.Proofs.YtkfoahoplndelaaGreatDoor
open Go Go.Pm
set_option maxRecDepth 100000
set_option maxHeartbeats 4000000
set_option linter.unusedVariables false

theorem intarsiaref25_IsDeed_ok (E : Pm.Env) [LaidE E] (a0 : S_Deed) (r : Bool) (h : intarsiaref25_IsDeed a0 = some r) : FnR E Tryz.prog 66 [S_Deed.av a0] (AV.bool r) false := by
  refine FnR.of_ev (T := T) (rows := []) tOk mixed Tryz.func66 rfl (by kernel_rfl) (by kernel_rfl) rfl fun hwf => ?_
  unfold intarsiaref25_IsDeed at h
  refine SeqJ.go <| And.intro rfl <| SeqN.go <| SeqJ.go <| SeqN.go <| SeqJ.go <| SeqJ.go <| And.intro (fun hg => hg) <| And.intro (fun hg => (and_r hg)) <| And.intro (fun hg => hg) <| And.intro (fun hg => hg) <| And.intro (fun hg => (and_r hg)) <| And.intro (fun hg => hg) <| And.intro (fun hg => hg) <| And.intro (fun hg => (and_r hg)) <| And.intro (fun hg => hg) <| And.intro (fun hg => hg) <| NormE.same <| And.intro (fun hg => hg) <| And.intro (fun hg => (and_r hg)) ?_
  refine SeqN.via (St.of [⟨1, AV.ptr 0 0, none⟩, ⟨3, AV.int .i64 (a0.Kind), none⟩, ⟨27, AV.bool (bif (bif (bif (bif (decide ((a0.Kind) < (1 : Int))) then true else (decide ((a0.Kind) > (6 : Int)))) then true else (decide ((a0.At) < (0 : Int)))) then true else (decide ((a0.At) > (100000 : Int)))) then true else (decide (((a0.Bytes).length : Int) > (3000 : Int)))), none⟩] [.cells 94 (S_Deed.cells a0) []] []) ?_ ?_
  · refine Gho.to _ _ _ [] ?_ ?_ ?_ rfl rfl ?_
    · exact ⟨⟨rfl, rfl, rfl⟩, trivial⟩
    · exact rfl
    · exact rfl
    · exact ⟨rfl, rfl, trivial, rfl, rfl, trivial, rfl, rfl, trivial, trivial⟩
  refine Br.mk (fun ht => ?_) (fun ht => ?_)
  · replace h := cond_tt h ht
    refine SeqJ.go <| SeqN.go ?_
    replace h := Option.some.inj h
    refine RetE.plain ?_
    exact And.intro rfl (And.intro (congrArg (fun r : Bool => AV.bool r) h) rfl)
  · replace h := cond_ff h ht
    refine SeqN.go <| SeqJ.go <| SeqJ.go <| And.intro (fun hg => hg) <| And.intro (fun hg => (and_r hg)) <| And.intro (fun hg => hg) <| And.intro (fun hg => (and_r hg)) <| And.intro (fun hg => hg) <| And.intro (fun hg => hg) <| And.intro (fun hg => (and_r hg)) <| And.intro (fun hg => hg) <| And.intro (fun hg => hg) <| And.intro (fun hg => hg) <| And.intro (fun hg => hg) <| And.intro (fun hg => hg) <| And.intro (fun hg => hg) <| And.intro (fun hg => hg) <| And.intro (fun hg => hg) <| And.intro (fun hg => hg) <| And.intro (fun hg => hg) <| And.intro (fun hg => (and_r hg)) ?_
    refine SeqN.via (St.of [⟨1, AV.ptr 0 0, none⟩, ⟨3, AV.int .i64 (a0.Kind), none⟩, ⟨55, AV.bool (bif (bif (bif (bif ((a0.Kind) != (2 : Int)) then ((a0.Kind) != (4 : Int)) else false) then ((a0.Kind) != (5 : Int)) else false) then ((a0.At) != (0 : Int)) else false) then true else (bif (bif ((a0.Kind) != (1 : Int)) then ((a0.Kind) != (4 : Int)) else false) then (!(a0.Bytes == ([] : Bytes))) else false)), none⟩] [.cells 94 (S_Deed.cells a0) []] []) ?_ ?_
    · refine Gho.to _ _ _ [] ?_ ?_ ?_ rfl rfl ?_
      · exact ⟨⟨rfl, rfl, rfl⟩, trivial⟩
      · exact rfl
      · exact rfl
      · exact ⟨rfl, rfl, trivial, rfl, rfl, trivial, rfl, rfl, trivial, trivial⟩
    refine Br.mk (fun ht => ?_) (fun ht => ?_)
    · replace h := cond_tt h ht
      refine SeqJ.go <| SeqN.go ?_
      replace h := Option.some.inj h
      refine RetE.plain ?_
      exact And.intro rfl (And.intro (congrArg (fun r : Bool => AV.bool r) h) rfl)
    · replace h := cond_ff h ht
      refine SeqN.go <| SeqJ.go <| And.intro (fun hg => hg) <| And.intro (fun hg => hg) <| And.intro (fun hg => (and_r hg)) <| SeqN.go ?_
      replace h := Option.some.inj h
      refine RetE.plain ?_
      exact And.intro rfl (And.intro (congrArg (fun r : Bool => AV.bool r) h) rfl)

theorem intarsiaref03_word_ok (E : Pm.Env) [LaidE E] (a0 : Int) (r : Bool) (h : intarsiaref03_word a0 = some r) : FnR E Tryz.prog 139 [AV.int .u8 a0] (AV.bool r) false := by
  refine FnR.of_ev (T := T) (rows := []) tOk mixed Tryz.func139 rfl (by kernel_rfl) (by kernel_rfl) rfl fun hwf => ?_
  unfold intarsiaref03_word at h
  refine SeqJ.go <| SeqN.go <| SeqJ.go <| SeqJ.go <| And.intro (fun hg => hg) <| And.intro (fun hg => (and_r hg)) <| And.intro (fun hg => hg) <| And.intro (fun hg => hg) <| And.intro (fun hg => hg) <| And.intro (fun hg => hg) <| And.intro (fun hg => hg) <| And.intro (fun hg => (and_r hg)) <| And.intro (fun hg => hg) <| And.intro (fun hg => hg) <| And.intro (fun hg => hg) <| And.intro (fun hg => hg) <| And.intro (fun hg => hg) <| And.intro (fun hg => (and_r hg)) <| And.intro (fun hg => hg) <| And.intro (fun hg => (and_r hg)) ?_
  refine SeqN.via (St.of [⟨0, AV.int .u8 a0, none⟩, ⟨30, AV.bool (bif (bif (bif (bif (decide (a0 ≥ (97 : Int))) then (decide (a0 ≤ (122 : Int))) else false) then true else (bif (decide (a0 ≥ (65 : Int))) then (decide (a0 ≤ (90 : Int))) else false)) then true else (bif (decide (a0 ≥ (48 : Int))) then (decide (a0 ≤ (57 : Int))) else false)) then true else (a0 == (96 : Int))), none⟩] [] []) ?_ ?_
  · refine Gho.to _ _ _ [] ?_ ?_ ?_ rfl rfl ?_
    · exact trivial
    · exact rfl
    · exact rfl
    · exact ⟨rfl, rfl, trivial, rfl, rfl, trivial, trivial⟩
  refine Br.mk (fun ht => ?_) (fun ht => ?_)
  · replace h := cond_tt h ht
    refine SeqJ.go <| SeqN.go ?_
    replace h := Option.some.inj h
    refine RetE.plain ?_
    exact And.intro rfl (And.intro (congrArg (fun r : Bool => AV.bool r) h) rfl)
  · replace h := cond_ff h ht
    refine SeqN.go <| SeqJ.go <| SeqN.go <| SeqJ.go <| SeqJ.go <| SeqN.go ?_
    refine LoopE.img (fun x : Int => St.of [⟨0, AV.int .u8 a0, none⟩, ⟨3, AV.str ([33, 35, 36, 37, 38, 39, 42, 43, 45, 46, 94, 95, 124, 126] : Bytes), none⟩, ⟨4, AV.int .i64 x, none⟩] [] []) (intarsiaref03_word_b1 a0) (0 : Int) h ?_ ?_
    · refine Gho.to _ _ _ [] ?_ ?_ ?_ rfl rfl ?_
      · exact trivial
      · exact rfl
      · exact rfl
      · exact ⟨rfl, rfl, trivial, rfl, rfl, trivial, rfl, rfl, trivial, trivial⟩
    intro n1 x y1 h hl1 hr1
    revert h; revert x; intro s1 h
    unfold intarsiaref03_word_b1 at h
    refine SeqJ.go <| SeqJ.go <| NormE.same <| SeqN.go ?_
    refine Br.mk (fun ht => ?_) (fun ht => ?_)
    · replace h := cond_tt h ht
      refine SeqN.go <| SeqJ.go <| SeqJ.go <| bind_elim h fun x2 hx2 h => ?_
      refine Exists.intro x2 (And.intro (fun hg => idx_some hx2) ?_)
      refine SeqN.go ?_
      refine Br.mk (fun ht => ?_) (fun ht => ?_)
      · replace h := cond_tt h ht
        refine SeqJ.go <| SeqN.go ?_
        replace h := Option.some.inj h
        replace h := hr1 _ h.symm
        refine RetE.plain ?_
        exact And.intro rfl (And.intro (congrArg (fun r : Bool => AV.bool r) h) rfl)
      · replace h := cond_ff h ht
        refine SeqN.go ?_
        replace h := Option.some.inj h
        refine Exists.intro ⟨(n1, (IntKind.i64.wrap (s1 + (1 : Int)))), hl1 _ h.symm⟩ (And.intro (Nat.lt_succ_self _) ?_)
        refine Gho.to _ _ _ [] ?_ ?_ ?_ rfl rfl ?_
        · exact trivial
        · exact rfl
        · exact rfl
        · exact ⟨rfl, rfl, trivial, rfl, rfl, trivial, rfl, rfl, trivial, trivial⟩
    · replace h := cond_ff h ht
      refine SeqN.go <| SeqJ.go <| SeqN.go ?_
      replace h := Option.some.inj h
      replace h := hr1 _ h.symm
      refine RetE.plain ?_
      exact And.intro rfl (And.intro (congrArg (fun r : Bool => AV.bool r) h) rfl)

theorem intarsiaref03_Token_ok (E : Pm.Env) [LaidE E] (a0 : Bytes) (r : Bool) (h : intarsiaref03_Token a0 = some r) : FnR E Tryz.prog 81 [AV.str a0] (AV.bool r) false := by
  refine FnR.of_ev (T := T) (rows := []) tOk mixed Tryz.func81 rfl (by kernel_rfl) (by kernel_rfl) rfl fun hwf => ?_
  unfold intarsiaref03_Token at h
  refine SeqJ.go <| SeqN.go <| SeqJ.go <| SeqJ.go <| SeqN.go ?_
  refine LoopE.img (fun x : Int => St.of [⟨0, AV.str a0, none⟩, ⟨3, AV.int .i64 x, none⟩] [] []) (intarsiaref03_Token_b1 a0) (0 : Int) h ?_ ?_
  · refine Gho.to _ _ _ [] ?_ ?_ ?_ rfl rfl ?_
    · exact trivial
    · exact rfl
    · exact rfl
    · exact ⟨rfl, rfl, trivial, rfl, rfl, trivial, trivial⟩
  intro n1 x y1 h hl1 hr1
  revert h; revert x; intro s1 h
  unfold intarsiaref03_Token_b1 at h
  refine SeqJ.go <| SeqJ.go <| NormE.same <| SeqN.go ?_
  refine Br.mk (fun ht => ?_) (fun ht => ?_)
  · replace h := cond_tt h ht
    refine SeqN.go <| SeqJ.go <| SeqJ.go <| bind_elim h fun x2 hx2 h => ?_
    refine Exists.intro x2 (And.intro (fun hg => idx_some hx2) ?_)
    refine bind_elim h fun x3 hx3 h => CallH.data _ false rfl (intarsiaref03_word_ok E (x2.toNat : Int) x3 hx3) <| SeqN.go ?_
    refine Br.mk (fun ht => ?_) (fun ht => ?_)
    · replace h := cond_tt h ht
      refine SeqJ.go <| SeqN.go ?_
      replace h := Option.some.inj h
      replace h := hr1 _ h.symm
      refine RetE.plain ?_
      exact And.intro rfl (And.intro (congrArg (fun r : Bool => AV.bool r) h) rfl)
    · replace h := cond_ff h ht
      refine SeqN.go ?_
      replace h := Option.some.inj h
      refine Exists.intro ⟨(n1, (IntKind.i64.wrap (s1 + (1 : Int)))), hl1 _ h.symm⟩ (And.intro (Nat.lt_succ_self _) ?_)
      refine Gho.to _ _ _ [] ?_ ?_ ?_ rfl rfl ?_
      · exact trivial
      · exact rfl
      · exact rfl
      · exact ⟨rfl, rfl, trivial, rfl, rfl, trivial, trivial⟩
  · replace h := cond_ff h ht
    refine SeqN.go <| SeqJ.go <| SeqN.go ?_
    replace h := Option.some.inj h
    replace h := hr1 _ h.symm
    refine RetE.plain ?_
    exact And.intro rfl (And.intro (congrArg (fun r : Bool => AV.bool r) h) rfl)

theorem intarsiaref25_device_ok (E : Pm.Env) [LaidE E] (a0 : Bytes) (r : Bool) (h : intarsiaref25_device a0 = some r) : FnR E Tryz.prog 62 [AV.str a0] (AV.bool r) false := by
  refine FnR.of_ev (T := T) (rows := []) tOk mixed Tryz.func62 rfl (by kernel_rfl) (by kernel_rfl) rfl fun hwf => ?_
  unfold intarsiaref25_device at h
  refine SeqJ.go <| SeqN.go <| SeqJ.go <| bind_elim h fun x1 hx1 h => CallH.data _ false rfl (intarsiaref03_Token_ok E a0 x1 hx1) <| And.intro (fun hg => hg) <| NormE.same <| And.intro (fun hg => hg) <| And.intro (fun hg => (and_r hg)) <| SeqN.go ?_
  replace h := Option.some.inj h
  refine RetE.plain ?_
  exact And.intro rfl (And.intro (congrArg (fun r : Bool => AV.bool r) h) rfl)

theorem intarsiaref05_find_ok (E : Pm.Env) [LaidE E] (a0 : Bytes) (a1 : Int) (r : Int) (h : intarsiaref05_find a0 a1 = some r) : FnR E Tryz.prog 138 [AV.str a0, AV.int .u8 a1] (AV.int .i64 r) false := by
  refine FnR.of_ev (T := T) (rows := []) tOk mixed Tryz.func138 rfl (by kernel_rfl) (by kernel_rfl) rfl fun hwf => ?_
  unfold intarsiaref05_find at h
  refine SeqJ.go <| SeqN.go <| SeqJ.go <| SeqJ.go <| SeqN.go ?_
  refine LoopE.img (fun x : Int => St.of [⟨0, AV.str a0, none⟩, ⟨1, AV.int .u8 a1, none⟩, ⟨5, AV.int .i64 x, none⟩] [] []) (intarsiaref05_find_b1 a0 a1) (0 : Int) h ?_ ?_
  · refine Gho.to _ _ _ [] ?_ ?_ ?_ rfl rfl ?_
    · exact trivial
    · exact rfl
    · exact rfl
    · exact ⟨rfl, rfl, trivial, rfl, rfl, trivial, rfl, rfl, trivial, trivial⟩
  intro n1 x y1 h hl1 hr1
  revert h; revert x; intro s1 h
  unfold intarsiaref05_find_b1 at h
  refine SeqJ.go <| SeqJ.go <| NormE.same <| SeqN.go ?_
  refine Br.mk (fun ht => ?_) (fun ht => ?_)
  · replace h := cond_tt h ht
    refine SeqN.go <| SeqJ.go <| SeqJ.go <| bind_elim h fun x2 hx2 h => ?_
    refine Exists.intro x2 (And.intro (fun hg => idx_some hx2) ?_)
    refine SeqN.go ?_
    refine Br.mk (fun ht => ?_) (fun ht => ?_)
    · replace h := cond_tt h ht
      refine SeqJ.go <| SeqN.go ?_
      replace h := Option.some.inj h
      replace h := hr1 _ h.symm
      refine RetE.plain ?_
      exact And.intro rfl (And.intro (congrArg (fun r : Int => AV.int .i64 r) h) rfl)
    · replace h := cond_ff h ht
      refine SeqN.go ?_
      replace h := Option.some.inj h
      refine Exists.intro ⟨(n1, (IntKind.i64.wrap (s1 + (1 : Int)))), hl1 _ h.symm⟩ (And.intro (Nat.lt_succ_self _) ?_)
      refine Gho.to _ _ _ [] ?_ ?_ ?_ rfl rfl ?_
      · exact trivial
      · exact rfl
      · exact rfl
      · exact ⟨rfl, rfl, trivial, rfl, rfl, trivial, rfl, rfl, trivial, trivial⟩
  · replace h := cond_ff h ht
    refine SeqN.go <| SeqJ.go <| SeqN.go ?_
    replace h := Option.some.inj h
    replace h := hr1 _ h.symm
    refine RetE.plain ?_
    exact And.intro rfl (And.intro (congrArg (fun r : Int => AV.int .i64 r) h) rfl)

theorem intarsiaref05_Bytes_ok (E : Pm.Env) [LaidE E] (a0 : Bytes) (r : Bool) (h : intarsiaref05_Bytes a0 = some r) : FnR E Tryz.prog 80 [AV.str a0] (AV.bool r) false := by
  refine FnR.of_ev (T := T) (rows := []) tOk mixed Tryz.func80 rfl (by kernel_rfl) (by kernel_rfl) rfl fun hwf => ?_
  unfold intarsiaref05_Bytes at h
  refine SeqJ.go <| SeqN.go <| SeqJ.go <| SeqJ.go <| SeqN.go ?_
  refine LoopE.img (fun x : Int => St.of [⟨0, AV.str a0, none⟩, ⟨3, AV.int .i64 x, none⟩] [] []) (intarsiaref05_Bytes_b1 a0) (0 : Int) h ?_ ?_
  · refine Gho.to _ _ _ [] ?_ ?_ ?_ rfl rfl ?_
    · exact trivial
    · exact rfl
    · exact rfl
    · exact ⟨rfl, rfl, trivial, rfl, rfl, trivial, trivial⟩
  intro n1 x y1 h hl1 hr1
  revert h; revert x; intro s1 h
  unfold intarsiaref05_Bytes_b1 at h
  refine SeqJ.go <| SeqJ.go <| NormE.same <| SeqN.go ?_
  refine Br.mk (fun ht => ?_) (fun ht => ?_)
  · replace h := cond_tt h ht
    refine SeqN.go <| SeqJ.go <| SeqJ.go <| bind_elim h fun x2 hx2 h => ?_
    refine Exists.intro x2 (And.intro (fun hg => idx_some hx2) ?_)
    refine SeqN.go <| SeqJ.go <| And.intro (fun hg => hg) <| And.intro (fun hg => (and_r hg)) <| And.intro (fun hg => hg) <| And.intro (fun hg => (and_r hg)) <| bind_elim h fun x3 hx3 h => And.intro (fun hg => hg) <| And.intro rfl ?_
    refine CallF.mk _ false (fun hg => intarsiaref05_find_ok E ([34, 35, 60, 62, 92, 94, 123, 124, 125] : Bytes) (x2.toNat : Int) x3 (gcall_some hx3 hg)) (And.intro rfl ?_)
    refine And.intro (fun hg => hg) <| And.intro (fun hg => (and_r hg)) ?_
    refine SeqN.via (St.of [⟨0, AV.str a0, none⟩, ⟨3, AV.int .i64 s1, none⟩, ⟨28, AV.bool (bif (bif (bif (decide ((x2.toNat : Int) < (33 : Int))) then true else (decide ((x2.toNat : Int) > (126 : Int)))) then true else ((x2.toNat : Int) == (96 : Int))) then true else (decide (x3 ≥ (0 : Int)))), none⟩] [] []) ?_ ?_
    · refine Gho.to _ _ _ [] ?_ ?_ ?_ rfl rfl ?_
      · exact trivial
      · exact rfl
      · exact rfl
      · exact ⟨rfl, rfl, trivial, rfl, rfl, trivial, rfl, rfl, trivial, trivial⟩
    refine Br.mk (fun ht => ?_) (fun ht => ?_)
    · replace h := cond_tt h ht
      refine SeqJ.go <| SeqN.go ?_
      replace h := Option.some.inj h
      replace h := hr1 _ h.symm
      refine RetE.plain ?_
      exact And.intro rfl (And.intro (congrArg (fun r : Bool => AV.bool r) h) rfl)
    · replace h := cond_ff h ht
      refine SeqN.go ?_
      replace h := Option.some.inj h
      refine Exists.intro ⟨(n1, (IntKind.i64.wrap (s1 + (1 : Int)))), hl1 _ h.symm⟩ (And.intro (Nat.lt_succ_self _) ?_)
      refine Gho.to _ _ _ [] ?_ ?_ ?_ rfl rfl ?_
      · exact trivial
      · exact rfl
      · exact rfl
      · exact ⟨rfl, rfl, trivial, rfl, rfl, trivial, trivial⟩
  · replace h := cond_ff h ht
    refine SeqN.go <| SeqJ.go <| SeqN.go ?_
    replace h := Option.some.inj h
    replace h := hr1 _ h.symm
    refine RetE.plain ?_
    exact And.intro rfl (And.intro (congrArg (fun r : Bool => AV.bool r) h) rfl)

theorem intarsiaref02_Digits_ok (E : Pm.Env) [LaidE E] (a0 : Int) (a1 : Int) (r : Bytes) (h : intarsiaref02_Digits a0 a1 = some r) : FnR E Tryz.prog 198 [AV.int .u64 a0, AV.int .u64 a1] (AV.str r) false := by
  refine FnR.of_ev (T := T) (rows := []) tOk mixed Tryz.func198 rfl (by kernel_rfl) (by kernel_rfl) rfl fun hwf => ?_
  unfold intarsiaref02_Digits at h
  refine SeqJ.go <| SeqN.go <| SeqJ.go <| SeqN.go <| bind_elim h fun j1 hj1 h => ?_
  refine SeqJ.join (St.of [⟨5, AV.str j1, none⟩] [] []) ?_ ?_
  · clear h; have h := hj1; clear hj1
    refine LoopE.img (fun x : (Int × Bytes) => St.of [⟨0, AV.int .u64 (x.1), none⟩, ⟨1, AV.int .u64 a1, none⟩, ⟨5, AV.str (x.2), none⟩] [] []) (intarsiaref02_Digits_b1 a1) (a0, ([] : Bytes)) h ?_ ?_
    · refine Gho.to _ _ _ [] ?_ ?_ ?_ rfl rfl ?_
      · exact trivial
      · exact rfl
      · exact rfl
      · exact ⟨rfl, rfl, trivial, rfl, rfl, trivial, rfl, rfl, trivial, trivial⟩
    intro n1 x y1 h hl1 hr1
    obtain ⟨s2, s3⟩ := x
    unfold intarsiaref02_Digits_b1 at h
    dsimp only at h
    refine SeqJ.go <| SeqJ.go <| And.intro (fun hg => hg) <| And.intro (fun hg => (and_r hg)) <| SeqN.go ?_
    refine Br.mk (fun ht => ?_) (fun ht => ?_)
    · replace h := cond_tt h ht
      refine SeqN.go <| SeqJ.go <| chk_elim h fun q4 h => And.intro (fun _ => q4) <| chk_elim h fun q5 h => And.intro (fun _ => q5) <| bind_elim h fun x6 hx6 h => ?_
      have qx6 := (slc_some hx6).1
      have hx6e := (slc_some hx6).2
      refine And.intro (fun _ => qx6) <| NormE.to (AV.str x6) (fun _ => congrArg AV.str hx6e.symm) <| bind_elim h fun x7 hx7 h => ?_
      have hx7c := (cat_some hx7).1
      have hx7e := (cat_some hx7).2
      refine And.intro (fun _ => hx7c) <| NormE.to (AV.str x7) (fun _ => congrArg AV.str hx7e.symm) <| And.intro (by kernel_rfl) ?_
      refine SeqN.via (St.of [⟨0, AV.int .u64 s2, none⟩, ⟨1, AV.int .u64 a1, none⟩, ⟨5, AV.str x7, none⟩] [] []) ?_ ?_
      · refine Gho.to _ _ _ [] ?_ ?_ ?_ rfl rfl ?_
        · exact trivial
        · exact rfl
        · exact rfl
        · exact ⟨rfl, rfl, trivial, rfl, rfl, trivial, rfl, rfl, trivial, trivial⟩
      refine chk_elim h fun q8 h => And.intro (fun _ => q8) ?_
      replace h := Option.some.inj h
      refine Exists.intro ⟨(n1, ((IntKind.u64.wrap (s2.tdiv a1)), x7)), hl1 _ h.symm⟩ (And.intro (Nat.lt_succ_self _) ?_)
      refine Gho.to _ _ _ [] ?_ ?_ ?_ rfl rfl ?_
      · exact trivial
      · exact rfl
      · exact rfl
      · exact ⟨rfl, rfl, trivial, rfl, rfl, trivial, rfl, rfl, trivial, trivial⟩
    · replace h := cond_ff h ht
      replace h := Option.some.inj h
      replace h := hr1 _ h.symm
      subst h
      refine Gho.to _ _ _ [] ?_ ?_ ?_ rfl rfl ?_
      · exact trivial
      · exact rfl
      · exact rfl
      · exact ⟨rfl, rfl, trivial, trivial⟩
  · clear hj1
    refine SeqJ.go <| SeqN.go ?_
    replace h := Option.some.inj h
    refine RetE.plain ?_
    exact And.intro rfl (And.intro (congrArg (fun r : Bytes => AV.str r) h) rfl)

theorem intarsiaref05_Write_ok (E : Pm.Env) [LaidE E] (a0 : S_Uri) (r : Bytes) (h : intarsiaref05_Write a0 = some r) : FnR E Tryz.prog 164 [S_Uri.av a0] (AV.str r) false := by
  refine FnR.of_ev (T := T) (rows := []) tOk mixed Tryz.func164 rfl (by kernel_rfl) (by kernel_rfl) rfl fun hwf => ?_
  unfold intarsiaref05_Write at h
  refine SeqJ.go <| And.intro rfl <| SeqN.go <| SeqJ.go <| SeqN.go <| SeqJ.go <| SeqJ.go <| SeqN.go ?_
  refine Br.mk (fun ht => ?_) (fun ht => ?_)
  · replace h := cond_tt h ht
    refine SeqJ.go <| bind_elim h fun x1 hx1 h => ?_
    have hx1c := (cat_some hx1).1
    have hx1e := (cat_some hx1).2
    refine And.intro (fun _ => hx1c) <| NormE.to (AV.str x1) (fun _ => congrArg AV.str hx1e.symm) <| SeqN.go <| SeqJ.go <| SeqJ.go <| SeqN.go ?_
    refine Br.mk (fun ht => ?_) (fun ht => ?_)
    · replace h := cond_tt h ht
      refine bind_elim h fun x2 hx2 h => ?_
      have hx2c := (cat_some hx2).1
      have hx2e := (cat_some hx2).2
      refine And.intro (fun _ => hx2c) <| NormE.to (AV.str x2) (fun _ => congrArg AV.str hx2e.symm) <| bind_elim h fun x3 hx3 h => CallH.data _ false rfl (intarsiaref02_Digits_ok E (IntKind.u64.wrap (a0.Port)) (10 : Int) x3 hx3) <| bind_elim h fun x4 hx4 h => ?_
      have hx4c := (cat_some hx4).1
      have hx4e := (cat_some hx4).2
      refine And.intro (fun _ => hx4c) <| NormE.to (AV.str x4) (fun _ => congrArg AV.str hx4e.symm) ?_
      refine SeqN.via (St.of [⟨1, AV.ptr 0 0, none⟩, ⟨3, AV.str x4, none⟩] [.cells 164 (S_Uri.cells a0) []] []) ?_ ?_
      · refine Gho.to _ _ _ [] ?_ ?_ ?_ rfl rfl ?_
        · exact ⟨⟨rfl, rfl, rfl⟩, trivial⟩
        · exact rfl
        · exact rfl
        · exact ⟨rfl, rfl, trivial, rfl, rfl, trivial, trivial⟩
      refine bind_elim h fun x5 hx5 h => ?_
      have hx5c := (cat_some hx5).1
      have hx5e := (cat_some hx5).2
      refine And.intro (fun _ => hx5c) <| NormE.to (AV.str x5) (fun _ => congrArg AV.str hx5e.symm) <| SeqN.go <| SeqJ.go <| SeqJ.go <| SeqN.go ?_
      refine Br.mk (fun ht => ?_) (fun ht => ?_)
      · replace h := cond_tt h ht
        refine bind_elim h fun x6 hx6 h => ?_
        have hx6c := (cat_some hx6).1
        have hx6e := (cat_some hx6).2
        refine And.intro (fun _ => hx6c) <| NormE.to (AV.str x6) (fun _ => congrArg AV.str hx6e.symm) <| bind_elim h fun x7 hx7 h => ?_
        have hx7c := (cat_some hx7).1
        have hx7e := (cat_some hx7).2
        refine And.intro (fun _ => hx7c) <| NormE.to (AV.str x7) (fun _ => congrArg AV.str hx7e.symm) <| SeqN.go <| SeqJ.go <| SeqN.go ?_
        replace h := Option.some.inj h
        refine RetE.plain ?_
        exact And.intro rfl (And.intro (congrArg (fun r : Bytes => AV.str r) h) rfl)
      · replace h := cond_ff h ht
        refine SeqN.go <| SeqJ.go <| SeqN.go ?_
        replace h := Option.some.inj h
        refine RetE.plain ?_
        exact And.intro rfl (And.intro (congrArg (fun r : Bytes => AV.str r) h) rfl)
    · replace h := cond_ff h ht
      refine SeqN.go <| bind_elim h fun x8 hx8 h => ?_
      have hx8c := (cat_some hx8).1
      have hx8e := (cat_some hx8).2
      refine And.intro (fun _ => hx8c) <| NormE.to (AV.str x8) (fun _ => congrArg AV.str hx8e.symm) ?_
      refine SeqN.via (St.of [⟨1, AV.ptr 0 0, none⟩, ⟨3, AV.str x8, none⟩] [.cells 164 (S_Uri.cells a0) []] []) ?_ ?_
      · refine Gho.to _ _ _ [] ?_ ?_ ?_ rfl rfl ?_
        · exact ⟨⟨rfl, rfl, rfl⟩, trivial⟩
        · exact rfl
        · exact rfl
        · exact ⟨rfl, rfl, trivial, rfl, rfl, trivial, trivial⟩
      refine SeqJ.go <| SeqJ.go <| SeqN.go ?_
      refine Br.mk (fun ht => ?_) (fun ht => ?_)
      · replace h := cond_tt h ht
        refine bind_elim h fun x9 hx9 h => ?_
        have hx9c := (cat_some hx9).1
        have hx9e := (cat_some hx9).2
        refine And.intro (fun _ => hx9c) <| NormE.to (AV.str x9) (fun _ => congrArg AV.str hx9e.symm) <| bind_elim h fun x10 hx10 h => ?_
        have hx10c := (cat_some hx10).1
        have hx10e := (cat_some hx10).2
        refine And.intro (fun _ => hx10c) <| NormE.to (AV.str x10) (fun _ => congrArg AV.str hx10e.symm) <| SeqN.go <| SeqJ.go <| SeqN.go ?_
        replace h := Option.some.inj h
        refine RetE.plain ?_
        exact And.intro rfl (And.intro (congrArg (fun r : Bytes => AV.str r) h) rfl)
      · replace h := cond_ff h ht
        refine SeqN.go <| SeqJ.go <| SeqN.go ?_
        replace h := Option.some.inj h
        refine RetE.plain ?_
        exact And.intro rfl (And.intro (congrArg (fun r : Bytes => AV.str r) h) rfl)
  · replace h := cond_ff h ht
    refine SeqN.go <| SeqJ.go <| SeqJ.go <| SeqN.go ?_
    refine Br.mk (fun ht => ?_) (fun ht => ?_)
    · replace h := cond_tt h ht
      refine bind_elim h fun x11 hx11 h => ?_
      have hx11c := (cat_some hx11).1
      have hx11e := (cat_some hx11).2
      refine And.intro (fun _ => hx11c) <| NormE.to (AV.str x11) (fun _ => congrArg AV.str hx11e.symm) <| bind_elim h fun x12 hx12 h => ?_
      have hx12c := (cat_some hx12).1
      have hx12e := (cat_some hx12).2
      refine And.intro (fun _ => hx12c) <| NormE.to (AV.str x12) (fun _ => congrArg AV.str hx12e.symm) <| SeqN.go <| SeqJ.go ?_
      refine SeqN.via (St.of [⟨2, AV.str x12, none⟩] [] []) ?_ ?_
      · refine Gho.to _ _ _ [] ?_ ?_ ?_ rfl rfl ?_
        · exact trivial
        · exact rfl
        · exact rfl
        · exact ⟨rfl, rfl, trivial, trivial⟩
      replace h := Option.some.inj h
      refine RetE.plain ?_
      exact And.intro rfl (And.intro (congrArg (fun r : Bytes => AV.str r) h) rfl)
    · replace h := cond_ff h ht
      refine SeqN.go <| SeqJ.go <| SeqN.go ?_
      replace h := Option.some.inj h
      refine RetE.plain ?_
      exact And.intro rfl (And.intro (congrArg (fun r : Bytes => AV.str r) h) rfl)

theorem intarsiaref05_host_ok (E : Pm.Env) [LaidE E] (a0 : Bytes) (r : Bool) (h : intarsiaref05_host a0 = some r) : FnR E Tryz.prog 165 [AV.str a0] (AV.bool r) false := by
  refine FnR.of_ev (T := T) (rows := []) tOk mixed Tryz.func165 rfl (by kernel_rfl) (by kernel_rfl) rfl fun hwf => ?_
  unfold intarsiaref05_host at h
  refine SeqJ.go <| SeqN.go <| SeqJ.go <| SeqJ.go <| SeqN.go ?_
  refine LoopE.img (fun x : Int => St.of [⟨0, AV.str a0, none⟩, ⟨3, AV.int .i64 x, none⟩] [] []) (intarsiaref05_host_b1 a0) (0 : Int) h ?_ ?_
  · refine Gho.to _ _ _ [] ?_ ?_ ?_ rfl rfl ?_
    · exact trivial
    · exact rfl
    · exact rfl
    · exact ⟨rfl, rfl, trivial, rfl, rfl, trivial, trivial⟩
  intro n1 x y1 h hl1 hr1
  revert h; revert x; intro s1 h
  unfold intarsiaref05_host_b1 at h
  refine SeqJ.go <| SeqJ.go <| NormE.same <| SeqN.go ?_
  refine Br.mk (fun ht => ?_) (fun ht => ?_)
  · replace h := cond_tt h ht
    refine SeqN.go <| SeqJ.go <| SeqJ.go <| bind_elim h fun x2 hx2 h => ?_
    refine Exists.intro x2 (And.intro (fun hg => idx_some hx2) ?_)
    refine bind_elim h fun x3 hx3 h => CallH.data _ false rfl (intarsiaref05_find_ok E ([97, 98, 99, 100, 101, 102, 103, 104, 105, 106, 107, 108, 109, 110, 111, 112, 113, 114, 115, 116, 117, 118, 119, 120, 121, 122, 48, 49, 50, 51, 52, 53, 54, 55, 56, 57, 45, 46] : Bytes) (x2.toNat : Int) x3 hx3) <| SeqN.go ?_
    refine Br.mk (fun ht => ?_) (fun ht => ?_)
    · replace h := cond_tt h ht
      refine SeqJ.go <| SeqN.go ?_
      replace h := Option.some.inj h
      replace h := hr1 _ h.symm
      refine RetE.plain ?_
      exact And.intro rfl (And.intro (congrArg (fun r : Bool => AV.bool r) h) rfl)
    · replace h := cond_ff h ht
      refine SeqN.go ?_
      replace h := Option.some.inj h
      refine Exists.intro ⟨(n1, (IntKind.i64.wrap (s1 + (1 : Int)))), hl1 _ h.symm⟩ (And.intro (Nat.lt_succ_self _) ?_)
      refine Gho.to _ _ _ [] ?_ ?_ ?_ rfl rfl ?_
      · exact trivial
      · exact rfl
      · exact rfl
      · exact ⟨rfl, rfl, trivial, rfl, rfl, trivial, trivial⟩
  · replace h := cond_ff h ht
    refine SeqN.go <| SeqJ.go <| NormE.same <| And.intro (fun hg => hg) <| NormE.same <| And.intro (fun hg => hg) <| And.intro (fun hg => (and_r hg)) <| SeqN.go ?_
    replace h := Option.some.inj h
    replace h := hr1 _ h.symm
    refine RetE.plain ?_
    exact And.intro rfl (And.intro (congrArg (fun r : Bool => AV.bool r) h) rfl)

theorem intarsiaref05_begins_ok (E : Pm.Env) [LaidE E] (a0 : Bytes) (a1 : Bytes) (r : Bool) (h : intarsiaref05_begins a0 a1 = some r) : FnR E Tryz.prog 166 [AV.str a0, AV.str a1] (AV.bool r) false := by
  refine FnR.of_ev (T := T) (rows := []) tOk mixed Tryz.func166 rfl (by kernel_rfl) (by kernel_rfl) rfl fun hwf => ?_
  unfold intarsiaref05_begins at h
  refine SeqJ.go <| SeqN.go <| SeqJ.go <| NormE.same <| NormE.same <| And.intro (fun hg => hg) <| NormE.same <| bind_elim h fun x1 hx1 h => ?_
  have qx1 := (gslc_some hx1).1
  have hx1e := (gslc_some hx1).2
  refine And.intro (fun hg => hg) <| And.intro (fun hg => hg) <| And.intro qx1 <| NormE.to (AV.str x1) (fun _ => congrArg AV.str hx1e.symm) <| And.intro (fun hg => hg) <| And.intro (fun hg => hg) <| And.intro (fun hg => (and_r hg)) <| SeqN.go ?_
  replace h := Option.some.inj h
  refine RetE.plain ?_
  exact And.intro rfl (And.intro (congrArg (fun r : Bool => AV.bool r) h) rfl)

theorem intarsiaref05_Right_ok (E : Pm.Env) [LaidE E] (a0 : S_Uri) (r : Bool) (h : intarsiaref05_Right a0 = some r) : FnR E Tryz.prog 115 [S_Uri.av a0] (AV.bool r) false := by
  refine FnR.of_ev (T := T) (rows := []) tOk mixed Tryz.func115 rfl (by kernel_rfl) (by kernel_rfl) rfl fun hwf => ?_
  unfold intarsiaref05_Right at h
  refine SeqJ.go <| And.intro rfl <| SeqN.go <| SeqJ.go <| SeqJ.go <| And.intro (fun hg => hg) <| And.intro (fun hg => hg) <| And.intro (fun hg => (and_r hg)) <| And.intro (fun hg => hg) <| bind_elim h fun x1 hx1 h => And.intro (fun hg => hg) <| And.intro rfl ?_
  refine CallF.mk _ false (fun hg => intarsiaref05_Bytes_ok E (a0.Path) x1 (gcall_some hx1 hg)) (And.intro rfl ?_)
  refine And.intro (fun hg => hg) <| And.intro (fun hg => (and_r hg)) <| And.intro (fun hg => hg) <| bind_elim h fun x2 hx2 h => And.intro (fun hg => hg) <| And.intro rfl ?_
  refine CallF.mk _ false (fun hg => intarsiaref05_Bytes_ok E (a0.Query) x2 (gcall_some hx2 hg)) (And.intro rfl ?_)
  refine And.intro (fun hg => hg) <| And.intro (fun hg => (and_r hg)) <| And.intro (fun hg => hg) <| bind_elim h fun x3 hx3 h => And.intro (fun hg => hg) <| And.intro rfl ?_
  refine CallF.mk _ false (fun hg => intarsiaref05_find_ok E (a0.Path) (63 : Int) x3 (gcall_some hx3 hg)) (And.intro rfl ?_)
  refine And.intro (fun hg => hg) <| And.intro (fun hg => (and_r hg)) <| And.intro (fun hg => hg) <| And.intro (fun hg => hg) <| And.intro (fun hg => hg) <| And.intro (fun hg => hg) <| And.intro (fun hg => hg) <| And.intro (fun hg => hg) <| And.intro (fun hg => hg) <| And.intro (fun hg => (and_r hg)) <| And.intro ⟨Nat.le_of_ble_eq_true rfl, Nat.le_of_ble_eq_true rfl⟩ <| NormE.to (S_Uri.av a0) (fun _ => rfl) <| bind_elim h fun x4 hx4 h => And.intro (fun hg => hg) <| And.intro rfl ?_
  refine CallF.mk _ false (fun hg => intarsiaref05_Write_ok E a0 x4 (gcall_some hx4 hg)) (And.intro rfl ?_)
  refine And.intro (fun hg => hg) <| NormE.same <| And.intro (fun hg => hg) <| And.intro (fun hg => (and_r hg)) ?_
  refine SeqN.via (St.of [⟨1, AV.ptr 0 0, none⟩, ⟨46, AV.bool (bif (bif (bif (bif (bif (bif (decide ((a0.Port) < (0 : Int))) then true else (decide ((a0.Port) > (65535 : Int)))) then true else (!x1)) then true else (!x2)) then true else (decide (x3 ≥ (0 : Int)))) then true else (bif (!(a0.Asks)) then (!(a0.Query == ([] : Bytes))) else false)) then true else (decide ((x4.length : Int) > (500 : Int)))), none⟩] [.cells 164 (S_Uri.cells a0) []] []) ?_ ?_
  · refine Gho.to _ _ _ [] ?_ ?_ ?_ rfl rfl ?_
    · exact ⟨⟨rfl, rfl, rfl⟩, trivial⟩
    · exact rfl
    · exact rfl
    · exact ⟨rfl, rfl, trivial, rfl, rfl, trivial, trivial⟩
  refine Br.mk (fun ht => ?_) (fun ht => ?_)
  · replace h := cond_tt h ht
    refine SeqJ.go <| SeqN.go ?_
    replace h := Option.some.inj h
    refine RetE.plain ?_
    exact And.intro rfl (And.intro (congrArg (fun r : Bool => AV.bool r) h) rfl)
  · replace h := cond_ff h ht
    refine SeqN.go <| SeqJ.go <| SeqJ.go <| SeqN.go ?_
    refine Br.mk (fun ht => ?_) (fun ht => ?_)
    · replace h := cond_tt h ht
      refine SeqJ.go <| bind_elim h fun x5 hx5 h => CallH.data _ false rfl (intarsiaref05_host_ok E (a0.Host) x5 hx5) <| And.intro (fun hg => hg) <| bind_elim h fun x6 hx6 h => And.intro (fun hg => hg) <| And.intro rfl ?_
      refine CallF.mk _ false (fun hg => intarsiaref05_begins_ok E (a0.Path) ([47] : Bytes) x6 (gcall_some hx6 hg)) (And.intro rfl ?_)
      refine And.intro (fun hg => (and_r hg)) <| SeqN.go ?_
      replace h := Option.some.inj h
      refine RetE.plain ?_
      exact And.intro rfl (And.intro (congrArg (fun r : Bool => AV.bool r) h) rfl)
    · replace h := cond_ff h ht
      refine SeqN.go <| SeqJ.go <| bind_elim h fun x7 hx7 h => CallH.data _ false rfl (intarsiaref05_find_ok E (a0.Path) (58 : Int) x7 hx7) <| SeqN.go <| SeqJ.go <| bind_elim h fun x8 hx8 h => CallH.data _ false rfl (intarsiaref05_find_ok E (a0.Path) (47 : Int) x8 hx8) <| SeqN.go <| SeqJ.go <| SeqJ.go <| And.intro (fun hg => hg) <| And.intro (fun hg => hg) <| And.intro (fun hg => hg) <| And.intro (fun hg => hg) <| And.intro (fun hg => hg) <| And.intro (fun hg => hg) <| And.intro (fun hg => (and_r hg)) ?_
      refine SeqN.via (St.of [⟨1, AV.ptr 0 0, none⟩, ⟨73, AV.bool (bif (decide (x7 ≥ (0 : Int))) then (bif (decide (x8 < (0 : Int))) then true else (decide (x7 < x8))) else false), none⟩] [.cells 164 (S_Uri.cells a0) []] []) ?_ ?_
      · refine Gho.to _ _ _ [] ?_ ?_ ?_ rfl rfl ?_
        · exact ⟨⟨rfl, rfl, rfl⟩, trivial⟩
        · exact rfl
        · exact rfl
        · exact ⟨rfl, rfl, trivial, rfl, rfl, trivial, trivial⟩
      refine Br.mk (fun ht => ?_) (fun ht => ?_)
      · replace h := cond_tt h ht
        refine SeqJ.go <| SeqN.go ?_
        replace h := Option.some.inj h
        refine RetE.plain ?_
        exact And.intro rfl (And.intro (congrArg (fun r : Bool => AV.bool r) h) rfl)
      · replace h := cond_ff h ht
        refine SeqN.go <| SeqJ.go <| And.intro (fun hg => hg) <| And.intro (fun hg => hg) <| And.intro (fun hg => (and_r hg)) <| And.intro (fun hg => hg) <| bind_elim h fun x9 hx9 h => And.intro (fun hg => hg) <| And.intro rfl ?_
        refine CallF.mk _ false (fun hg => intarsiaref05_begins_ok E (a0.Path) ([47, 47] : Bytes) x9 (gcall_some hx9 hg)) (And.intro rfl ?_)
        refine And.intro (fun hg => hg) <| And.intro (fun hg => (and_r hg)) <| SeqN.go ?_
        replace h := Option.some.inj h
        refine RetE.plain ?_
        exact And.intro rfl (And.intro (congrArg (fun r : Bool => AV.bool r) h) rfl)

theorem intarsiaref21_host_ok (E : Pm.Env) [LaidE E] (a0 : Bytes) (r : Bool) (h : intarsiaref21_host a0 = some r) : FnR E Tryz.prog 114 [AV.str a0] (AV.bool r) false := by
  refine FnR.of_ev (T := T) (rows := []) tOk mixed Tryz.func114 rfl (by kernel_rfl) (by kernel_rfl) rfl fun hwf => ?_
  unfold intarsiaref21_host at h
  refine SeqJ.go <| SeqN.go <| SeqJ.go <| And.intro ⟨rfl, rfl, Nat.le_of_ble_eq_true rfl⟩ <| And.intro ⟨rfl, rfl, Nat.le_of_ble_eq_true rfl⟩ <| And.intro ⟨rfl, rfl, Nat.le_of_ble_eq_true rfl⟩ <| bind_elim h fun x1 hx1 h => CallH.data _ false rfl (intarsiaref05_Right_ok E (S_Uri.mk true a0 (0 : Int) ([47] : Bytes) false ([] : Bytes)) x1 hx1) <| SeqN.go ?_
  replace h := Option.some.inj h
  refine RetE.plain ?_
  exact And.intro rfl (And.intro (congrArg (fun r : Bool => AV.bool r) h) rfl)

theorem intarsiaref21_Right_ok (E : Pm.Env) [LaidE E] (a0 : (List S_Route)) (r : Bool) (h : intarsiaref21_Right a0 = some r) : FnR E Tryz.prog 64 [AV.list 3 (a0.map S_Route.av)] (AV.bool r) false := by
  refine FnR.of_ev (T := T) (rows := []) tOk mixed Tryz.func64 rfl (by kernel_rfl) (by kernel_rfl) rfl fun hwf => ?_
  unfold intarsiaref21_Right at h
  refine SeqJ.go <| SeqN.go <| SeqJ.go <| SeqJ.go <| NormE.to (AV.int .i64 (a0.length : Int)) (fun _ => len_list S_Route.av a0) <| SeqN.go ?_
  refine LoopE.img (fun x : Int => St.of [⟨0, AV.list 3 (a0.map S_Route.av), none⟩, ⟨6, AV.list 3 (a0.map S_Route.av), none⟩, ⟨7, AV.int .i64 (a0.length : Int), none⟩, ⟨8, AV.int .i64 x, none⟩] [] []) (intarsiaref21_Right_b1 a0) (0 : Int) h ?_ ?_
  · refine Gho.to _ _ _ [] ?_ ?_ ?_ rfl rfl ?_
    · exact trivial
    · exact rfl
    · exact rfl
    · exact ⟨rfl, rfl, trivial, rfl, rfl, trivial, rfl, rfl, trivial, rfl, rfl, trivial, trivial⟩
  intro n1 x y1 h hl1 hr1
  revert h; revert x; intro s1 h
  unfold intarsiaref21_Right_b1 at h
  refine SeqJ.go <| SeqN.go <| SeqJ.go ?_
  refine Br.mk (fun ht => ?_) (fun ht => ?_)
  · replace h := cond_tt h ht
    refine SeqN.go <| SeqJ.go <| SeqJ.go <| bind_elim h fun x2 hx2 h => ?_
    refine And.intro rfl (Exists.intro (S_Route.av x2) (And.intro (fun hg => idx_map _ hx2) ?_))
    refine And.intro (Nat.le_of_ble_eq_true rfl) <| NormE.to (S_Route.av x2) (fun _ => rfl) <| And.intro rfl ?_
    refine And.intro ⟨rfl, rfl, rfl, Nat.le_of_ble_eq_true rfl⟩ (Exists.intro (S_Route.cells x2) (And.intro (fun _ => rfl) ?_))
    refine SeqN.go <| SeqJ.go <| SeqJ.go <| And.intro (fun hg => hg) <| bind_elim h fun x3 hx3 h => And.intro (fun hg => hg) <| And.intro rfl ?_
    refine CallF.mk _ false (fun hg => intarsiaref21_host_ok E (x2.Host) x3 (gcall_some hx3 hg)) (And.intro rfl ?_)
    refine And.intro (fun hg => hg) <| And.intro (fun hg => (and_r hg)) <| And.intro (fun hg => hg) <| bind_elim h fun x4 hx4 h => And.intro (fun hg => hg) <| And.intro rfl ?_
    refine CallF.mk _ false (fun hg => intarsiaref21_host_ok E (x2.Origin) x4 (gcall_some hx4 hg)) (And.intro rfl ?_)
    refine And.intro (fun hg => hg) <| And.intro (fun hg => (and_r hg)) <| And.intro (fun hg => hg) <| And.intro (fun hg => hg) <| NormE.same <| And.intro (fun hg => hg) <| And.intro (fun hg => (and_r hg)) <| And.intro (fun hg => hg) <| And.intro ⟨rfl, rfl, Nat.le_of_ble_eq_true rfl⟩ <| And.intro ⟨rfl, rfl, Nat.le_of_ble_eq_true rfl⟩ <| And.intro (fun hg => hg) <| And.intro ⟨rfl, rfl, Nat.le_of_ble_eq_true rfl⟩ <| bind_elim h fun x5 hx5 h => And.intro (fun hg => hg) <| And.intro rfl ?_
    refine CallF.mk _ false (fun hg => intarsiaref05_Right_ok E (S_Uri.mk true ([104] : Bytes) (0 : Int) (x2.Prefix) false ([] : Bytes)) x5 (gcall_some hx5 hg)) (And.intro rfl ?_)
    refine And.intro (fun hg => hg) <| And.intro (fun hg => (and_r hg)) ?_
    refine SeqN.via (St.of [⟨0, AV.list 3 (a0.map S_Route.av), none⟩, ⟨3, AV.int .i64 s1, none⟩, ⟨4, AV.ptr 0 0, none⟩, ⟨6, AV.list 3 (a0.map S_Route.av), none⟩, ⟨7, AV.int .i64 (a0.length : Int), none⟩, ⟨8, AV.int .i64 s1, none⟩, ⟨40, AV.bool (bif (bif (bif (bif (!(x2.Host == ([] : Bytes))) then (!x3) else false) then true else (!x4)) then true else (decide (((x2.Prefix).length : Int) > (100 : Int)))) then true else (!x5)), none⟩] [.cells 92 (S_Route.cells x2) []] []) ?_ ?_
    · refine Gho.to _ _ _ [] ?_ ?_ ?_ rfl rfl ?_
      · exact ⟨⟨rfl, rfl, rfl⟩, trivial⟩
      · exact rfl
      · exact rfl
      · exact ⟨rfl, rfl, trivial, rfl, rfl, trivial, rfl, rfl, trivial, rfl, rfl, trivial, rfl, rfl, trivial, rfl, rfl, trivial, rfl, rfl, trivial, trivial⟩
    refine Br.mk (fun ht => ?_) (fun ht => ?_)
    · replace h := cond_tt h ht
      refine SeqJ.go <| SeqN.go ?_
      replace h := Option.some.inj h
      replace h := hr1 _ h.symm
      refine RetE.plain ?_
      exact And.intro rfl (And.intro (congrArg (fun r : Bool => AV.bool r) h) rfl)
    · replace h := cond_ff h ht
      refine SeqN.go <| SeqJ.go <| SeqN.go ?_
      refine LoopE.img (fun x : Int => St.of [⟨0, AV.list 3 (a0.map S_Route.av), none⟩, ⟨3, AV.int .i64 s1, none⟩, ⟨4, AV.ptr 0 0, none⟩, ⟨5, AV.int .i64 x, none⟩, ⟨6, AV.list 3 (a0.map S_Route.av), none⟩, ⟨7, AV.int .i64 (a0.length : Int), none⟩, ⟨8, AV.int .i64 s1, none⟩] [.cells 92 (S_Route.cells x2) []] []) (intarsiaref21_Right_b2 a0 s1 x2) (0 : Int) h ?_ ?_
      · refine Gho.to _ _ _ [] ?_ ?_ ?_ rfl rfl ?_
        · exact ⟨⟨rfl, rfl, rfl⟩, trivial⟩
        · exact rfl
        · exact rfl
        · exact ⟨rfl, rfl, trivial, rfl, rfl, trivial, rfl, rfl, trivial, rfl, rfl, trivial, rfl, rfl, trivial, rfl, rfl, trivial, rfl, rfl, trivial, trivial⟩
      intro n2 x y2 h hl2 hr2
      revert h; revert x; intro s6 h
      unfold intarsiaref21_Right_b2 at h
      refine SeqJ.go <| SeqJ.go <| SeqN.go ?_
      refine Br.mk (fun ht => ?_) (fun ht => ?_)
      · replace h := cond_tt h ht
        refine SeqN.go <| SeqJ.go <| SeqJ.go <| bind_elim h fun x7 hx7 h => ?_
        refine And.intro rfl (Exists.intro (S_Route.av x7) (And.intro (fun hg => idx_map _ hx7) ?_))
        refine bind_elim h fun x8 hx8 h => And.intro (fun hg => hg) <| And.intro (fun hg => hg) ?_
        refine And.intro rfl (Exists.intro (S_Route.av x8) (And.intro (fun hg => gidx_map _ hx8 hg) ?_))
        refine And.intro (fun hg => hg) <| And.intro (fun hg => hg) <| And.intro (fun hg => hg) <| And.intro (fun hg => hg) <| And.intro (fun hg => hg) <| And.intro (fun hg => (and_r hg)) <| And.intro (by kernel_rfl) ?_
        refine SeqN.via (St.of [⟨0, AV.list 3 (a0.map S_Route.av), none⟩, ⟨3, AV.int .i64 s1, none⟩, ⟨4, AV.ptr 0 0, none⟩, ⟨5, AV.int .i64 s6, none⟩, ⟨6, AV.list 3 (a0.map S_Route.av), none⟩, ⟨7, AV.int .i64 (a0.length : Int), none⟩, ⟨8, AV.int .i64 s1, none⟩, ⟨63, AV.bool (bif (x7.Host == x2.Host) then (x8.Prefix == x2.Prefix) else false), none⟩] [.cells 92 (S_Route.cells x2) []] []) ?_ ?_
        · refine Gho.to _ _ _ [] ?_ ?_ ?_ rfl rfl ?_
          · exact ⟨⟨rfl, rfl, rfl⟩, trivial⟩
          · exact rfl
          · exact rfl
          · exact ⟨rfl, rfl, trivial, rfl, rfl, trivial, rfl, rfl, trivial, rfl, rfl, trivial, rfl, rfl, trivial, rfl, rfl, trivial, rfl, rfl, trivial, rfl, rfl, trivial, trivial⟩
        refine Br.mk (fun ht => ?_) (fun ht => ?_)
        · replace h := cond_tt h ht
          refine SeqJ.go <| SeqN.go ?_
          replace h := Option.some.inj h
          replace h := hr2 _ h.symm
          replace h := hr1 _ h.symm
          refine RetE.plain ?_
          exact And.intro rfl (And.intro (congrArg (fun r : Bool => AV.bool r) h) rfl)
        · replace h := cond_ff h ht
          refine SeqN.go ?_
          replace h := Option.some.inj h
          refine Exists.intro ⟨(n2, (IntKind.i64.wrap (s6 + (1 : Int)))), hl2 _ h.symm⟩ (And.intro (Nat.lt_succ_self _) ?_)
          refine Gho.to _ _ _ [] ?_ ?_ ?_ rfl rfl ?_
          · exact ⟨⟨rfl, rfl, rfl⟩, trivial⟩
          · exact rfl
          · exact rfl
          · exact ⟨rfl, rfl, trivial, rfl, rfl, trivial, rfl, rfl, trivial, rfl, rfl, trivial, rfl, rfl, trivial, rfl, rfl, trivial, rfl, rfl, trivial, trivial⟩
      · replace h := cond_ff h ht
        refine SeqN.go ?_
        replace h := Option.some.inj h
        replace h := hr2 _ h.symm
        refine Exists.intro ⟨(n1, (IntKind.i64.wrap (s1 + (1 : Int)))), hl1 _ h.symm⟩ (And.intro (Nat.lt_succ_self _) ?_)
        refine Gho.to _ _ _ [] ?_ ?_ ?_ rfl rfl ?_
        · exact trivial
        · exact rfl
        · exact rfl
        · exact ⟨rfl, rfl, trivial, rfl, rfl, trivial, rfl, rfl, trivial, rfl, rfl, trivial, trivial⟩
  · replace h := cond_ff h ht
    refine SeqN.go <| SeqJ.go <| NormE.to (AV.int .i64 (a0.length : Int)) (fun _ => len_list S_Route.av a0) <| SeqN.go ?_
    replace h := Option.some.inj h
    replace h := hr1 _ h.symm
    refine RetE.plain ?_
    exact And.intro rfl (And.intro (congrArg (fun r : Bool => AV.bool r) h) rfl)

theorem intarsiaref25_Right_ok (E : Pm.Env) [LaidE E] (a0 : S_Plan) (r : Bool) (h : intarsiaref25_Right a0 = some r) : FnR E Tryz.prog 22 [S_Plan.av a0] (AV.bool r) false := by
  refine FnR.of_ev (T := T) (rows := []) tOk mixed Tryz.func22 rfl (by kernel_rfl) (by kernel_rfl) rfl fun hwf => ?_
  unfold intarsiaref25_Right at h
  refine SeqJ.go <| And.intro rfl <| SeqN.go <| SeqJ.go <| SeqJ.go <| NormE.to (AV.int .i64 ((a0.Deeds).length : Int)) (fun _ => len_list S_Deed.av (a0.Deeds)) <| SeqN.go ?_
  refine LoopE.img (fun x : Int => St.of [⟨1, AV.ptr 0 0, none⟩, ⟨8, AV.list 4 ((a0.Deeds).map S_Deed.av), none⟩, ⟨9, AV.int .i64 ((a0.Deeds).length : Int), none⟩, ⟨10, AV.int .i64 x, none⟩] [.cells 25 (S_Plan.cells a0) []] []) (intarsiaref25_Right_b1 a0) (0 : Int) h ?_ ?_
  · refine Gho.to _ _ _ [] ?_ ?_ ?_ rfl rfl ?_
    · exact ⟨⟨rfl, rfl, rfl⟩, trivial⟩
    · exact rfl
    · exact rfl
    · exact ⟨rfl, rfl, trivial, rfl, rfl, trivial, rfl, rfl, trivial, rfl, rfl, trivial, trivial⟩
  intro n1 x y1 h hl1 hr1
  revert h; revert x; intro s1 h
  unfold intarsiaref25_Right_b1 at h
  refine SeqJ.go <| SeqN.go <| SeqJ.go ?_
  refine Br.mk (fun ht => ?_) (fun ht => ?_)
  · replace h := cond_tt h ht
    refine SeqN.go <| SeqJ.go <| SeqJ.go <| bind_elim h fun x2 hx2 h => ?_
    refine And.intro rfl (Exists.intro (S_Deed.av x2) (And.intro (fun hg => idx_map _ hx2) ?_))
    refine And.intro (Nat.le_of_ble_eq_true rfl) <| NormE.to (S_Deed.av x2) (fun _ => rfl) <| And.intro rfl ?_
    refine And.intro ⟨rfl, rfl, rfl, Nat.le_of_ble_eq_true rfl⟩ (Exists.intro (S_Deed.cells x2) (And.intro (fun _ => rfl) ?_))
    refine SeqN.go <| SeqJ.go <| And.intro ⟨Nat.le_of_ble_eq_true rfl, Nat.le_of_ble_eq_true rfl⟩ <| NormE.to (S_Deed.av x2) (fun _ => rfl) <| bind_elim h fun x3 hx3 h => CallH.data _ false rfl (intarsiaref25_IsDeed_ok E x2 x3 hx3) <| SeqN.go ?_
    refine Br.mk (fun ht => ?_) (fun ht => ?_)
    · replace h := cond_tt h ht
      refine SeqJ.go <| SeqN.go ?_
      replace h := Option.some.inj h
      replace h := hr1 _ h.symm
      refine RetE.plain ?_
      exact And.intro rfl (And.intro (congrArg (fun r : Bool => AV.bool r) h) rfl)
    · replace h := cond_ff h ht
      refine SeqN.go ?_
      replace h := Option.some.inj h
      refine Exists.intro ⟨(n1, (IntKind.i64.wrap (s1 + (1 : Int)))), hl1 _ h.symm⟩ (And.intro (Nat.lt_succ_self _) ?_)
      refine Gho.to _ _ _ [] ?_ ?_ ?_ rfl rfl ?_
      · exact ⟨⟨rfl, rfl, rfl⟩, trivial⟩
      · exact rfl
      · exact rfl
      · exact ⟨rfl, rfl, trivial, rfl, rfl, trivial, rfl, rfl, trivial, rfl, rfl, trivial, trivial⟩
  · replace h := cond_ff h ht
    refine SeqN.go <| SeqJ.go <| SeqJ.go <| NormE.to (AV.int .i64 ((a0.Routes).length : Int)) (fun _ => len_list S_Route.av (a0.Routes)) <| SeqN.go ?_
    refine LoopE.img (fun x : Int => St.of [⟨1, AV.ptr 0 0, none⟩, ⟨19, AV.list 3 ((a0.Routes).map S_Route.av), none⟩, ⟨20, AV.int .i64 ((a0.Routes).length : Int), none⟩, ⟨21, AV.int .i64 x, none⟩] [.cells 25 (S_Plan.cells a0) []] []) (intarsiaref25_Right_b2 a0) (0 : Int) h ?_ ?_
    · refine Gho.to _ _ _ [] ?_ ?_ ?_ rfl rfl ?_
      · exact ⟨⟨rfl, rfl, rfl⟩, trivial⟩
      · exact rfl
      · exact rfl
      · exact ⟨rfl, rfl, trivial, rfl, rfl, trivial, rfl, rfl, trivial, rfl, rfl, trivial, trivial⟩
    intro n2 x y2 h hl2 hr2
    revert h; revert x; intro s4 h
    unfold intarsiaref25_Right_b2 at h
    refine SeqJ.go <| SeqN.go <| SeqJ.go ?_
    refine Br.mk (fun ht => ?_) (fun ht => ?_)
    · replace h := cond_tt h ht
      refine SeqN.go <| SeqJ.go <| SeqJ.go <| bind_elim h fun x5 hx5 h => ?_
      refine And.intro rfl (Exists.intro (S_Route.av x5) (And.intro (fun hg => idx_map _ hx5) ?_))
      refine And.intro (Nat.le_of_ble_eq_true rfl) <| NormE.to (S_Route.av x5) (fun _ => rfl) <| And.intro rfl ?_
      refine And.intro ⟨rfl, rfl, rfl, Nat.le_of_ble_eq_true rfl⟩ (Exists.intro (S_Route.cells x5) (And.intro (fun _ => rfl) ?_))
      refine SeqN.go <| SeqJ.go <| SeqN.go ?_
      refine Br.mk (fun ht => ?_) (fun ht => ?_)
      · replace h := cond_tt h ht
        refine SeqJ.go <| SeqN.go ?_
        replace h := Option.some.inj h
        replace h := hr2 _ h.symm
        replace h := hr1 _ h.symm
        refine RetE.plain ?_
        exact And.intro rfl (And.intro (congrArg (fun r : Bool => AV.bool r) h) rfl)
      · replace h := cond_ff h ht
        refine SeqN.go ?_
        replace h := Option.some.inj h
        refine Exists.intro ⟨(n2, (IntKind.i64.wrap (s4 + (1 : Int)))), hl2 _ h.symm⟩ (And.intro (Nat.lt_succ_self _) ?_)
        refine Gho.to _ _ _ [] ?_ ?_ ?_ rfl rfl ?_
        · exact ⟨⟨rfl, rfl, rfl⟩, trivial⟩
        · exact rfl
        · exact rfl
        · exact ⟨rfl, rfl, trivial, rfl, rfl, trivial, rfl, rfl, trivial, rfl, rfl, trivial, trivial⟩
    · replace h := cond_ff h ht
      refine SeqN.go <| SeqJ.go <| bind_elim h fun x6 hx6 h => CallH.data _ false rfl (intarsiaref25_device_ok E (a0.Device) x6 hx6) <| And.intro (fun hg => hg) <| bind_elim h fun x7 hx7 h => And.intro (fun hg => hg) <| And.intro rfl ?_
      refine CallF.mk _ false (fun hg => intarsiaref21_Right_ok E (a0.Routes) x7 (gcall_some hx7 hg)) (And.intro rfl ?_)
      refine And.intro (fun hg => (and_r hg)) <| And.intro (fun hg => hg) <| And.intro (fun hg => hg) <| NormE.to (AV.int .i64 ((a0.Deeds).length : Int)) (fun _ => len_list S_Deed.av (a0.Deeds)) <| And.intro (fun hg => hg) <| And.intro (fun hg => (and_r hg)) ?_
      refine SeqN.via (St.of [⟨2, AV.bool (bif (bif x6 then x7 else false) then (decide (((a0.Deeds).length : Int) ≤ (200 : Int))) else false), none⟩] [] []) ?_ ?_
      · refine Gho.to _ _ _ [] ?_ ?_ ?_ rfl rfl ?_
        · exact trivial
        · exact rfl
        · exact rfl
        · exact ⟨rfl, rfl, trivial, trivial⟩
      replace h := Option.some.inj h
      replace h := hr2 _ h.symm
      replace h := hr1 _ h.symm
      refine RetE.plain ?_
      exact And.intro rfl (And.intro (congrArg (fun r : Bool => AV.bool r) h) rfl)

theorem intarsiaref25_Way_ok (E : Pm.Env) [LaidE E] (a0 : S_Route) (r : Bytes) (h : intarsiaref25_Way a0 = some r) : FnR E Tryz.prog 63 [S_Route.av a0] (AV.str r) false := by
  refine FnR.of_ev (T := T) (rows := []) tOk mixed Tryz.func63 rfl (by kernel_rfl) (by kernel_rfl) rfl fun hwf => ?_
  unfold intarsiaref25_Way at h
  refine SeqJ.go <| And.intro rfl <| SeqN.go <| SeqJ.go <| SeqJ.go <| SeqN.go ?_
  refine Br.mk (fun ht => ?_) (fun ht => ?_)
  · replace h := cond_tt h ht
    refine SeqJ.go <| bind_elim h fun x1 hx1 h => ?_
    have hx1c := (cat_some hx1).1
    have hx1e := (cat_some hx1).2
    refine And.intro (fun _ => hx1c) <| NormE.to (AV.str x1) (fun _ => congrArg AV.str hx1e.symm) <| bind_elim h fun x2 hx2 h => ?_
    have hx2c := (cat_some hx2).1
    have hx2e := (cat_some hx2).2
    refine And.intro (fun _ => hx2c) <| NormE.to (AV.str x2) (fun _ => congrArg AV.str hx2e.symm) <| bind_elim h fun x3 hx3 h => ?_
    have hx3c := (cat_some hx3).1
    have hx3e := (cat_some hx3).2
    refine And.intro (fun _ => hx3c) <| NormE.to (AV.str x3) (fun _ => congrArg AV.str hx3e.symm) <| SeqN.go ?_
    replace h := Option.some.inj h
    refine RetE.plain ?_
    exact And.intro rfl (And.intro (congrArg (fun r : Bytes => AV.str r) h) rfl)
  · replace h := cond_ff h ht
    refine SeqN.go <| SeqJ.go <| bind_elim h fun x4 hx4 h => ?_
    have hx4c := (cat_some hx4).1
    have hx4e := (cat_some hx4).2
    refine And.intro (fun _ => hx4c) <| NormE.to (AV.str x4) (fun _ => congrArg AV.str hx4e.symm) <| bind_elim h fun x5 hx5 h => ?_
    have hx5c := (cat_some hx5).1
    have hx5e := (cat_some hx5).2
    refine And.intro (fun _ => hx5c) <| NormE.to (AV.str x5) (fun _ => congrArg AV.str hx5e.symm) <| bind_elim h fun x6 hx6 h => ?_
    have hx6c := (cat_some hx6).1
    have hx6e := (cat_some hx6).2
    refine And.intro (fun _ => hx6c) <| NormE.to (AV.str x6) (fun _ => congrArg AV.str hx6e.symm) <| bind_elim h fun x7 hx7 h => ?_
    have hx7c := (cat_some hx7).1
    have hx7e := (cat_some hx7).2
    refine And.intro (fun _ => hx7c) <| NormE.to (AV.str x7) (fun _ => congrArg AV.str hx7e.symm) <| bind_elim h fun x8 hx8 h => ?_
    have hx8c := (cat_some hx8).1
    have hx8e := (cat_some hx8).2
    refine And.intro (fun _ => hx8c) <| NormE.to (AV.str x8) (fun _ => congrArg AV.str hx8e.symm) ?_
    refine SeqN.via (St.of [⟨2, AV.str x8, none⟩] [] []) ?_ ?_
    · refine Gho.to _ _ _ [] ?_ ?_ ?_ rfl rfl ?_
      · exact trivial
      · exact rfl
      · exact rfl
      · exact ⟨rfl, rfl, trivial, trivial⟩
    replace h := Option.some.inj h
    refine RetE.plain ?_
    exact And.intro rfl (And.intro (congrArg (fun r : Bytes => AV.str r) h) rfl)

theorem intarsiaref25_word_ok (E : Pm.Env) [LaidE E] (a0 : Bytes) (r : Bytes) (h : intarsiaref25_word a0 = some r) : FnR E Tryz.prog 119 [AV.str a0] (AV.str r) false := by
  refine FnR.of_ev (T := T) (rows := []) tOk mixed Tryz.func119 rfl (by kernel_rfl) (by kernel_rfl) rfl fun hwf => ?_
  unfold intarsiaref25_word at h
  refine SeqJ.go <| SeqN.go <| SeqJ.go <| SeqJ.go <| SeqN.go ?_
  refine Br.mk (fun ht => ?_) (fun ht => ?_)
  · replace h := cond_tt h ht
    refine SeqJ.go <| SeqN.go ?_
    replace h := Option.some.inj h
    refine RetE.plain ?_
    exact And.intro rfl (And.intro (congrArg (fun r : Bytes => AV.str r) h) rfl)
  · replace h := cond_ff h ht
    refine SeqN.go <| SeqJ.go <| And.intro ⟨rfl, rfl, rfl, rfl⟩ <| And.intro ⟨rfl, rfl, rfl⟩ <| NormE.to (AV.list 1 (([u8 (32 : Int)] : List UInt8).map byteAV)) (fun hw => bytes1 hw) <| SeqN.go <| bind_elim h fun j1 hj1 h => ?_
    refine SeqJ.join (St.of [⟨3, AV.list 1 (j1.map byteAV), some 0⟩] [] [1]) ?_ ?_
    · clear h; have h := hj1; clear hj1
      refine SeqJ.go <| SeqN.go ?_
      refine LoopE.img (fun x : ((List UInt8) × Int) => St.of [⟨0, AV.str a0, none⟩, ⟨3, AV.list 1 ((x.1).map byteAV), some 0⟩, ⟨4, AV.int .i64 (x.2), none⟩] [] [1]) (intarsiaref25_word_b1 a0) (([u8 (32 : Int)] : List UInt8), (0 : Int)) h ?_ ?_
      · refine Gho.to _ _ _ [0] ?_ ?_ ?_ rfl rfl ?_
        · exact trivial
        · exact rfl
        · exact rfl
        · exact ⟨rfl, rfl, trivial, rfl, rfl, ⟨rfl, rfl⟩, rfl, rfl, trivial, trivial⟩
      intro n1 x y1 h hl1 hr1
      obtain ⟨s2, s3⟩ := x
      unfold intarsiaref25_word_b1 at h
      dsimp only at h
      refine SeqJ.go <| SeqJ.go <| NormE.same <| SeqN.go ?_
      refine Br.mk (fun ht => ?_) (fun ht => ?_)
      · replace h := cond_tt h ht
        refine SeqN.go <| SeqJ.go <| bind_elim h fun x4 hx4 h => ?_
        refine Exists.intro x4 (And.intro (fun hg => idx_some hx4) ?_)
        refine chk_elim h fun q5 h => And.intro (fun _ => q5) <| bind_elim h fun x6 hx6 h => ?_
        refine Exists.intro x6 (And.intro (fun hg => idx_some hx6) ?_)
        refine bind_elim h fun x7 hx7 h => ?_
        refine Exists.intro x7 (And.intro (fun hg => idx_some hx7) ?_)
        refine chk_elim h fun q8 h => And.intro (fun _ => q8) <| bind_elim h fun x9 hx9 h => ?_
        refine Exists.intro x9 (And.intro (fun hg => idx_some hx9) ?_)
        refine And.intro ⟨rfl, rfl, rfl, rfl⟩ <| And.intro ⟨rfl, rfl, rfl, rfl⟩ <| And.intro ⟨rfl, rfl, rfl⟩ <| NormE.to (AV.list 1 (([u8 (x6.toNat : Int), u8 (x9.toNat : Int)] : List UInt8).map byteAV)) (fun hw => bytes2 hw) <| bind_elim h fun x10 hx10 h => ?_
        have qx10 := (app_some hx10).1
        have hx10e := (app_some hx10).2
        refine And.intro ⟨rfl, rfl, rfl⟩ <| And.intro rfl <| And.intro (app_cond byteAV qx10) <| NormE.to (AV.list 1 (x10.map byteAV)) (fun _ => (app_list 1 byteAV _ _).trans (congrArg (fun y => AV.list 1 (List.map byteAV y)) hx10e.symm)) <| And.intro (by kernel_rfl) ?_
        refine SeqN.via (St.of [⟨0, AV.str a0, none⟩, ⟨3, AV.list 1 (x10.map byteAV), some 0⟩, ⟨4, AV.int .i64 s3, none⟩] [] [1]) ?_ ?_
        · refine Gho.to _ _ _ [2] ?_ ?_ ?_ rfl rfl ?_
          · exact trivial
          · exact rfl
          · exact rfl
          · exact ⟨rfl, rfl, trivial, rfl, rfl, ⟨rfl, rfl⟩, rfl, rfl, trivial, trivial⟩
        replace h := Option.some.inj h
        refine Exists.intro ⟨(n1, (x10, (IntKind.i64.wrap (s3 + (1 : Int))))), hl1 _ h.symm⟩ (And.intro (Nat.lt_succ_self _) ?_)
        refine Gho.to _ _ _ [0] ?_ ?_ ?_ rfl rfl ?_
        · exact trivial
        · exact rfl
        · exact rfl
        · exact ⟨rfl, rfl, trivial, rfl, rfl, ⟨rfl, rfl⟩, rfl, rfl, trivial, trivial⟩
      · replace h := cond_ff h ht
        replace h := Option.some.inj h
        replace h := hr1 _ h.symm
        subst h
        refine Gho.to _ _ _ [0] ?_ ?_ ?_ rfl rfl ?_
        · exact trivial
        · exact rfl
        · exact rfl
        · exact ⟨rfl, rfl, ⟨rfl, rfl⟩, trivial⟩
    · clear hj1
      refine SeqJ.go ?_
      refine And.intro rfl (And.intro rfl (Exists.intro j1 (And.intro rfl ?_)))
      refine SeqN.go ?_
      replace h := Option.some.inj h
      refine RetE.plain ?_
      exact And.intro rfl (And.intro (congrArg (fun r : Bytes => AV.str r) h) rfl)

theorem intarsiaref25_Line_ok (E : Pm.Env) [LaidE E] (a0 : S_Deed) (r : Bytes) (h : intarsiaref25_Line a0 = some r) : FnR E Tryz.prog 67 [S_Deed.av a0] (AV.str r) false := by
  refine FnR.of_ev (T := T) (rows := []) tOk mixed Tryz.func67 rfl (by kernel_rfl) (by kernel_rfl) rfl fun hwf => ?_
  unfold intarsiaref25_Line at h
  refine SeqJ.go <| And.intro rfl <| SeqN.go <| SeqJ.go <| bind_elim h fun x1 hx1 h => CallH.data _ false rfl (strconv_Itoa_ok E (a0.At) x1 hx1) <| bind_elim h fun x2 hx2 h => ?_
  have hx2c := (cat_some hx2).1
  have hx2e := (cat_some hx2).2
  refine And.intro (fun _ => hx2c) <| NormE.to (AV.str x2) (fun _ => congrArg AV.str hx2e.symm) <| SeqN.go <| SeqJ.go <| SeqJ.go <| SeqN.go <| SeqJ.go <| SeqN.go ?_
  refine Br.mk (fun ht => ?_) (fun ht => ?_)
  · replace h := cond_tt h ht
    refine SeqJ.go <| bind_elim h fun x3 hx3 h => CallH.data _ false rfl (intarsiaref25_word_ok E (a0.Bytes) x3 hx3) <| bind_elim h fun x4 hx4 h => ?_
    have hx4c := (cat_some hx4).1
    have hx4e := (cat_some hx4).2
    refine And.intro (fun _ => hx4c) <| NormE.to (AV.str x4) (fun _ => congrArg AV.str hx4e.symm) ?_
    refine SeqN.via (St.of [⟨2, AV.str x4, none⟩] [] []) ?_ ?_
    · refine Gho.to _ _ _ [] ?_ ?_ ?_ rfl rfl ?_
      · exact trivial
      · exact rfl
      · exact rfl
      · exact ⟨rfl, rfl, trivial, trivial⟩
    replace h := Option.some.inj h
    refine RetE.plain ?_
    exact And.intro rfl (And.intro (congrArg (fun r : Bytes => AV.str r) h) rfl)
  · replace h := cond_ff h ht
    refine SeqJ.go <| SeqN.go ?_
    refine Br.mk (fun ht => ?_) (fun ht => ?_)
    · replace h := cond_tt h ht
      refine SeqJ.go <| bind_elim h fun x5 hx5 h => ?_
      have hx5c := (cat_some hx5).1
      have hx5e := (cat_some hx5).2
      refine And.intro (fun _ => hx5c) <| NormE.to (AV.str x5) (fun _ => congrArg AV.str hx5e.symm) ?_
      refine SeqN.via (St.of [⟨2, AV.str x5, none⟩] [] []) ?_ ?_
      · refine Gho.to _ _ _ [] ?_ ?_ ?_ rfl rfl ?_
        · exact trivial
        · exact rfl
        · exact rfl
        · exact ⟨rfl, rfl, trivial, trivial⟩
      replace h := Option.some.inj h
      refine RetE.plain ?_
      exact And.intro rfl (And.intro (congrArg (fun r : Bytes => AV.str r) h) rfl)
    · replace h := cond_ff h ht
      refine SeqJ.go <| SeqN.go ?_
      refine Br.mk (fun ht => ?_) (fun ht => ?_)
      · replace h := cond_tt h ht
        refine SeqJ.go ?_
        refine SeqN.via (St.of [⟨2, AV.str ([108, 101, 102, 116] : Bytes), none⟩] [] []) ?_ ?_
        · refine Gho.to _ _ _ [] ?_ ?_ ?_ rfl rfl ?_
          · exact trivial
          · exact rfl
          · exact rfl
          · exact ⟨rfl, rfl, trivial, trivial⟩
        replace h := Option.some.inj h
        refine RetE.plain ?_
        exact And.intro rfl (And.intro (congrArg (fun r : Bytes => AV.str r) h) rfl)
      · replace h := cond_ff h ht
        refine SeqJ.go ?_
        refine SeqN.via (St.of [⟨1, AV.ptr 0 0, none⟩, ⟨3, AV.str x2, none⟩, ⟨9, AV.int .i64 (a0.Kind), none⟩, ⟨22, AV.bool ((a0.Kind) == (4 : Int)), none⟩] [.cells 94 (S_Deed.cells a0) []] []) ?_ ?_
        · refine Gho.to _ _ _ [] ?_ ?_ ?_ rfl rfl ?_
          · exact ⟨⟨rfl, rfl, rfl⟩, trivial⟩
          · exact rfl
          · exact rfl
          · exact ⟨rfl, rfl, trivial, rfl, rfl, trivial, rfl, rfl, trivial, rfl, rfl, trivial, trivial⟩
        refine Br.mk (fun ht => ?_) (fun ht => ?_)
        · replace h := cond_tt h ht
          refine SeqJ.go <| bind_elim h fun x6 hx6 h => ?_
          have hx6c := (cat_some hx6).1
          have hx6e := (cat_some hx6).2
          refine And.intro (fun _ => hx6c) <| NormE.to (AV.str x6) (fun _ => congrArg AV.str hx6e.symm) <| bind_elim h fun x7 hx7 h => CallH.data _ false rfl (intarsiaref25_word_ok E (a0.Bytes) x7 hx7) <| bind_elim h fun x8 hx8 h => ?_
          have hx8c := (cat_some hx8).1
          have hx8e := (cat_some hx8).2
          refine And.intro (fun _ => hx8c) <| NormE.to (AV.str x8) (fun _ => congrArg AV.str hx8e.symm) <| SeqN.go ?_
          replace h := Option.some.inj h
          refine RetE.plain ?_
          exact And.intro rfl (And.intro (congrArg (fun r : Bytes => AV.str r) h) rfl)
        · replace h := cond_ff h ht
          refine SeqJ.go <| SeqN.go ?_
          refine Br.mk (fun ht => ?_) (fun ht => ?_)
          · replace h := cond_tt h ht
            refine SeqJ.go <| SeqJ.go <| SeqN.go ?_
            refine Br.mk (fun ht => ?_) (fun ht => ?_)
            · replace h := cond_tt h ht
              refine SeqJ.go <| bind_elim h fun x9 hx9 h => ?_
              have hx9c := (cat_some hx9).1
              have hx9e := (cat_some hx9).2
              refine And.intro (fun _ => hx9c) <| NormE.to (AV.str x9) (fun _ => congrArg AV.str hx9e.symm) <| bind_elim h fun x10 hx10 h => ?_
              have hx10c := (cat_some hx10).1
              have hx10e := (cat_some hx10).2
              refine And.intro (fun _ => hx10c) <| NormE.to (AV.str x10) (fun _ => congrArg AV.str hx10e.symm) <| SeqN.go ?_
              replace h := Option.some.inj h
              refine RetE.plain ?_
              exact And.intro rfl (And.intro (congrArg (fun r : Bytes => AV.str r) h) rfl)
            · replace h := cond_ff h ht
              refine SeqN.go <| SeqJ.go <| bind_elim h fun x11 hx11 h => ?_
              have hx11c := (cat_some hx11).1
              have hx11e := (cat_some hx11).2
              refine And.intro (fun _ => hx11c) <| NormE.to (AV.str x11) (fun _ => congrArg AV.str hx11e.symm) <| bind_elim h fun x12 hx12 h => ?_
              have hx12c := (cat_some hx12).1
              have hx12e := (cat_some hx12).2
              refine And.intro (fun _ => hx12c) <| NormE.to (AV.str x12) (fun _ => congrArg AV.str hx12e.symm) <| SeqN.go ?_
              replace h := Option.some.inj h
              refine RetE.plain ?_
              exact And.intro rfl (And.intro (congrArg (fun r : Bytes => AV.str r) h) rfl)
          · replace h := cond_ff h ht
            refine SeqN.go <| SeqJ.go <| SeqN.go ?_
            replace h := Option.some.inj h
            refine RetE.plain ?_
            exact And.intro rfl (And.intro (congrArg (fun r : Bytes => AV.str r) h) rfl)

theorem intarsiaref25_Text_ok (E : Pm.Env) [LaidE E] (a0 : S_Plan) (r : Bytes) (h : intarsiaref25_Text a0 = some r) : FnR E Tryz.prog 23 [S_Plan.av a0] (AV.str r) false := by
  refine FnR.of_ev (T := T) (rows := []) tOk mixed Tryz.func23 rfl (by kernel_rfl) (by kernel_rfl) rfl fun hwf => ?_
  unfold intarsiaref25_Text at h
  refine SeqJ.go <| And.intro rfl <| SeqN.go <| SeqJ.go <| bind_elim h fun x1 hx1 h => ?_
  have hx1c := (cat_some hx1).1
  have hx1e := (cat_some hx1).2
  refine And.intro (fun _ => hx1c) <| NormE.to (AV.str x1) (fun _ => congrArg AV.str hx1e.symm) <| bind_elim h fun x2 hx2 h => ?_
  have hx2c := (cat_some hx2).1
  have hx2e := (cat_some hx2).2
  refine And.intro (fun _ => hx2c) <| NormE.to (AV.str x2) (fun _ => congrArg AV.str hx2e.symm) <| SeqN.go <| bind_elim h fun j3 hj3 h => ?_
  refine SeqJ.join (St.of [⟨1, AV.ptr 0 0, none⟩, ⟨3, AV.str j3, none⟩] [.cells 25 (S_Plan.cells a0) []] []) ?_ ?_
  · clear h; have h := hj3; clear hj3
    refine SeqJ.go <| NormE.to (AV.int .i64 ((a0.Routes).length : Int)) (fun _ => len_list S_Route.av (a0.Routes)) <| SeqN.go ?_
    refine LoopE.img (fun x : (Bytes × Int) => St.of [⟨1, AV.ptr 0 0, none⟩, ⟨3, AV.str (x.1), none⟩, ⟨13, AV.list 3 ((a0.Routes).map S_Route.av), none⟩, ⟨14, AV.int .i64 ((a0.Routes).length : Int), none⟩, ⟨15, AV.int .i64 (x.2), none⟩] [.cells 25 (S_Plan.cells a0) []] []) (intarsiaref25_Text_b1 a0) (x2, (0 : Int)) h ?_ ?_
    · refine Gho.to _ _ _ [] ?_ ?_ ?_ rfl rfl ?_
      · exact ⟨⟨rfl, rfl, rfl⟩, trivial⟩
      · exact rfl
      · exact rfl
      · exact ⟨rfl, rfl, trivial, rfl, rfl, trivial, rfl, rfl, trivial, rfl, rfl, trivial, rfl, rfl, trivial, trivial⟩
    intro n1 x y1 h hl1 hr1
    obtain ⟨s4, s5⟩ := x
    unfold intarsiaref25_Text_b1 at h
    dsimp only at h
    refine SeqJ.go <| SeqN.go <| SeqJ.go ?_
    refine Br.mk (fun ht => ?_) (fun ht => ?_)
    · replace h := cond_tt h ht
      refine SeqN.go <| SeqJ.go <| SeqJ.go <| bind_elim h fun x6 hx6 h => ?_
      refine And.intro rfl (Exists.intro (S_Route.av x6) (And.intro (fun hg => idx_map _ hx6) ?_))
      refine And.intro (Nat.le_of_ble_eq_true rfl) <| NormE.to (S_Route.av x6) (fun _ => rfl) <| And.intro rfl ?_
      refine And.intro ⟨rfl, rfl, rfl, Nat.le_of_ble_eq_true rfl⟩ (Exists.intro (S_Route.cells x6) (And.intro (fun _ => rfl) ?_))
      refine SeqN.go <| And.intro ⟨Nat.le_of_ble_eq_true rfl, Nat.le_of_ble_eq_true rfl⟩ <| NormE.to (S_Route.av x6) (fun _ => rfl) <| bind_elim h fun x7 hx7 h => CallH.data _ false rfl (intarsiaref25_Way_ok E x6 x7 hx7) <| bind_elim h fun x8 hx8 h => ?_
      have hx8c := (cat_some hx8).1
      have hx8e := (cat_some hx8).2
      refine And.intro (fun _ => hx8c) <| NormE.to (AV.str x8) (fun _ => congrArg AV.str hx8e.symm) <| bind_elim h fun x9 hx9 h => ?_
      have hx9c := (cat_some hx9).1
      have hx9e := (cat_some hx9).2
      refine And.intro (fun _ => hx9c) <| NormE.to (AV.str x9) (fun _ => congrArg AV.str hx9e.symm) <| SeqN.go ?_
      replace h := Option.some.inj h
      refine Exists.intro ⟨(n1, (x9, (IntKind.i64.wrap (s5 + (1 : Int))))), hl1 _ h.symm⟩ (And.intro (Nat.lt_succ_self _) ?_)
      refine Gho.to _ _ _ [] ?_ ?_ ?_ rfl rfl ?_
      · exact ⟨⟨rfl, rfl, rfl⟩, trivial⟩
      · exact rfl
      · exact rfl
      · exact ⟨rfl, rfl, trivial, rfl, rfl, trivial, rfl, rfl, trivial, rfl, rfl, trivial, rfl, rfl, trivial, trivial⟩
    · replace h := cond_ff h ht
      replace h := Option.some.inj h
      replace h := hr1 _ h.symm
      subst h
      refine Gho.to _ _ _ [] ?_ ?_ ?_ rfl rfl ?_
      · exact ⟨⟨rfl, rfl, rfl⟩, trivial⟩
      · exact rfl
      · exact rfl
      · exact ⟨rfl, rfl, trivial, rfl, rfl, trivial, trivial⟩
  · clear hj3
    refine bind_elim h fun j10 hj10 h => ?_
    refine SeqJ.join (St.of [⟨3, AV.str j10, none⟩] [] []) ?_ ?_
    · clear h; have h := hj10; clear hj10
      refine SeqJ.go <| NormE.to (AV.int .i64 ((a0.Deeds).length : Int)) (fun _ => len_list S_Deed.av (a0.Deeds)) <| SeqN.go ?_
      refine LoopE.img (fun x : (Bytes × Int) => St.of [⟨3, AV.str (x.1), none⟩, ⟨26, AV.list 4 ((a0.Deeds).map S_Deed.av), none⟩, ⟨27, AV.int .i64 ((a0.Deeds).length : Int), none⟩, ⟨28, AV.int .i64 (x.2), none⟩] [] []) (intarsiaref25_Text_b2 a0) (j3, (0 : Int)) h ?_ ?_
      · refine Gho.to _ _ _ [] ?_ ?_ ?_ rfl rfl ?_
        · exact trivial
        · exact rfl
        · exact rfl
        · exact ⟨rfl, rfl, trivial, rfl, rfl, trivial, rfl, rfl, trivial, rfl, rfl, trivial, trivial⟩
      intro n2 x y2 h hl2 hr2
      obtain ⟨s11, s12⟩ := x
      unfold intarsiaref25_Text_b2 at h
      dsimp only at h
      refine SeqJ.go <| SeqN.go <| SeqJ.go ?_
      refine Br.mk (fun ht => ?_) (fun ht => ?_)
      · replace h := cond_tt h ht
        refine SeqN.go <| SeqJ.go <| SeqJ.go <| bind_elim h fun x13 hx13 h => ?_
        refine And.intro rfl (Exists.intro (S_Deed.av x13) (And.intro (fun hg => idx_map _ hx13) ?_))
        refine And.intro (Nat.le_of_ble_eq_true rfl) <| NormE.to (S_Deed.av x13) (fun _ => rfl) <| And.intro rfl ?_
        refine And.intro ⟨rfl, rfl, rfl, Nat.le_of_ble_eq_true rfl⟩ (Exists.intro (S_Deed.cells x13) (And.intro (fun _ => rfl) ?_))
        refine SeqN.go <| And.intro ⟨Nat.le_of_ble_eq_true rfl, Nat.le_of_ble_eq_true rfl⟩ <| NormE.to (S_Deed.av x13) (fun _ => rfl) <| bind_elim h fun x14 hx14 h => CallH.data _ false rfl (intarsiaref25_Line_ok E x13 x14 hx14) <| bind_elim h fun x15 hx15 h => ?_
        have hx15c := (cat_some hx15).1
        have hx15e := (cat_some hx15).2
        refine And.intro (fun _ => hx15c) <| NormE.to (AV.str x15) (fun _ => congrArg AV.str hx15e.symm) <| bind_elim h fun x16 hx16 h => ?_
        have hx16c := (cat_some hx16).1
        have hx16e := (cat_some hx16).2
        refine And.intro (fun _ => hx16c) <| NormE.to (AV.str x16) (fun _ => congrArg AV.str hx16e.symm) <| SeqN.go ?_
        replace h := Option.some.inj h
        refine Exists.intro ⟨(n2, (x16, (IntKind.i64.wrap (s12 + (1 : Int))))), hl2 _ h.symm⟩ (And.intro (Nat.lt_succ_self _) ?_)
        refine Gho.to _ _ _ [] ?_ ?_ ?_ rfl rfl ?_
        · exact trivial
        · exact rfl
        · exact rfl
        · exact ⟨rfl, rfl, trivial, rfl, rfl, trivial, rfl, rfl, trivial, rfl, rfl, trivial, trivial⟩
      · replace h := cond_ff h ht
        replace h := Option.some.inj h
        replace h := hr2 _ h.symm
        subst h
        refine Gho.to _ _ _ [] ?_ ?_ ?_ rfl rfl ?_
        · exact trivial
        · exact rfl
        · exact rfl
        · exact ⟨rfl, rfl, trivial, trivial⟩
    · clear hj10
      refine SeqJ.go <| SeqN.go ?_
      replace h := Option.some.inj h
      refine RetE.plain ?_
      exact And.intro rfl (And.intro (congrArg (fun r : Bytes => AV.str r) h) rfl)

theorem intarsialaw25_ScriptPrints_ok (E : Pm.Env) [LaidE E] (a0 : S_Plan) (r : Bool) (h : intarsialaw25_ScriptPrints a0 = some r) : FnR E Tryz.prog 6 [S_Plan.av a0] (AV.bool r) false := by
  refine FnR.of_ev (T := T) (rows := []) tOk mixed Tryz.func6 rfl (by kernel_rfl) (by kernel_rfl) rfl fun hwf => ?_
  unfold intarsialaw25_ScriptPrints at h
  refine SeqJ.go <| And.intro rfl <| SeqN.go <| SeqJ.go <| And.intro ⟨Nat.le_of_ble_eq_true rfl, Nat.le_of_ble_eq_true rfl⟩ <| NormE.to (S_Plan.av a0) (fun _ => rfl) <| bind_elim h fun x1 hx1 h => CallH.data _ false rfl (intarsialaw25_few_ok E a0 x1 hx1) ?_
  refine And.intro ⟨rfl, rfl, rfl, Nat.le_of_ble_eq_true rfl⟩ (Exists.intro (S_Plan.cells x1) (And.intro (fun _ => rfl) ?_))
  refine SeqN.go <| SeqJ.go <| And.intro ⟨Nat.le_of_ble_eq_true rfl, Nat.le_of_ble_eq_true rfl⟩ <| NormE.to (S_Plan.av x1) (fun _ => rfl) <| bind_elim h fun x2 hx2 h => CallH.data _ false rfl (script_Print_ok E x1 x2 hx2) <| SeqN.go <| SeqJ.go <| SeqJ.go <| And.intro ⟨Nat.le_of_ble_eq_true rfl, Nat.le_of_ble_eq_true rfl⟩ <| NormE.to (S_Plan.av x1) (fun _ => rfl) <| bind_elim h fun x3 hx3 h => CallH.data _ false rfl (intarsiaref25_Right_ok E x1 x3 hx3) <| SeqN.go ?_
  refine Br.mk (fun ht => ?_) (fun ht => ?_)
  · replace h := cond_tt h ht
    refine SeqJ.go <| bind_elim h fun x4 hx4 h => CallH.data _ false rfl (intarsialaw25_alive_ok E  x4 hx4) <| And.intro ⟨Nat.le_of_ble_eq_true rfl, Nat.le_of_ble_eq_true rfl⟩ <| NormE.to (S_Plan.av x1) (fun _ => rfl) <| bind_elim h fun x5 hx5 h => And.intro (fun hg => hg) <| And.intro rfl ?_
    refine CallF.mk _ false (fun hg => script_Right_ok E x1 x5 (gcall_some hx5 hg)) (And.intro rfl ?_)
    refine And.intro (fun hg => hg) <| And.intro (fun hg => (and_r hg)) <| And.intro (fun hg => hg) <| And.intro (fun hg => (and_r hg)) <| And.intro (fun hg => hg) <| And.intro (fun hg => (and_r hg)) ?_
    refine SeqN.via (St.of [⟨2, AV.bool (bif (bif (bif x4 then (!x5) else false) then ((x2.2) == (1 : Int)) else false) then (x2.1 == ([] : Bytes)) else false), none⟩] [] []) ?_ ?_
    · refine Gho.to _ _ _ [] ?_ ?_ ?_ rfl rfl ?_
      · exact trivial
      · exact rfl
      · exact rfl
      · exact ⟨rfl, rfl, trivial, trivial⟩
    replace h := Option.some.inj h
    refine RetE.plain ?_
    exact And.intro rfl (And.intro (congrArg (fun r : Bool => AV.bool r) h) rfl)
  · replace h := cond_ff h ht
    refine SeqN.go <| SeqJ.go <| bind_elim h fun x6 hx6 h => CallH.data _ false rfl (intarsialaw25_alive_ok E  x6 hx6) <| And.intro ⟨Nat.le_of_ble_eq_true rfl, Nat.le_of_ble_eq_true rfl⟩ <| NormE.to (S_Plan.av x1) (fun _ => rfl) <| bind_elim h fun x7 hx7 h => And.intro (fun hg => hg) <| And.intro rfl ?_
    refine CallF.mk _ false (fun hg => script_Right_ok E x1 x7 (gcall_some hx7 hg)) (And.intro rfl ?_)
    refine And.intro (fun hg => (and_r hg)) <| And.intro (fun hg => hg) <| And.intro (fun hg => (and_r hg)) <| And.intro ⟨Nat.le_of_ble_eq_true rfl, Nat.le_of_ble_eq_true rfl⟩ <| NormE.to (S_Plan.av x1) (fun _ => rfl) <| bind_elim h fun x8 hx8 h => And.intro (fun hg => hg) <| And.intro rfl ?_
    refine CallF.mk _ false (fun hg => intarsiaref25_Text_ok E x1 x8 (gcall_some hx8 hg)) (And.intro rfl ?_)
    refine And.intro (fun hg => hg) <| And.intro (fun hg => hg) <| And.intro (fun hg => (and_r hg)) ?_
    refine SeqN.via (St.of [⟨2, AV.bool (bif (bif (bif x6 then x7 else false) then ((x2.2) == (0 : Int)) else false) then (x2.1 == x8) else false), none⟩] [] []) ?_ ?_
    · refine Gho.to _ _ _ [] ?_ ?_ ?_ rfl rfl ?_
      · exact trivial
      · exact rfl
      · exact rfl
      · exact ⟨rfl, rfl, trivial, trivial⟩
    replace h := Option.some.inj h
    refine RetE.plain ?_
    exact And.intro rfl (And.intro (congrArg (fun r : Bool => AV.bool r) h) rfl)

end Go.Proofs.YtkfoahoplndelaaGreatDoor
