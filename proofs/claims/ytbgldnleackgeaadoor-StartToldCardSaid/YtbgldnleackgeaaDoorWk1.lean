/-
  The functions do what their images say: walks, written by a program of mine (gen.py).
-/
import Derived.Test.YtbgldnleackgeaaDoorIm1
import Derived.Test.YtbgldnleackgeaaDoorGw2
namespace Go.Proofs.YtbgldnleackgeaaDoor
open Go Go.Pm
set_option maxRecDepth 100000
set_option maxHeartbeats 4000000
set_option linter.unusedVariables false

theorem intarsialaw09_small_ok (E : Pm.Env) [LaidE E] (a0 : S_Start) (r : S_Start) (h : intarsialaw09_small a0 = some r) : FnR E Tryd.prog 10 [S_Start.av a0] (S_Start.av r) false := by
  refine FnR.of_ev (T := T) (rows := []) tOk mixed Tryd.func10 rfl (by kernel_rfl) (by kernel_rfl) rfl fun hwf => ?_
  unfold intarsialaw09_small at h
  refine SeqJ.go ?_
  refine And.intro rfl ?_
  refine And.intro rfl ?_
  refine SeqN.go ?_
  refine SeqJ.go ?_
  refine NormE.same ?_
  refine And.intro rfl ?_
  refine bind_elim h fun x1 hx1 h => ?_
  have qx1 := (slc_some hx1).1
  have hx1e := (slc_some hx1).2
  refine And.intro (fun _ => qx1) ?_
  refine NormE.to (AV.str x1) (fun _ => congrArg AV.str hx1e.symm) ?_
  refine NormE.same ?_
  refine And.intro rfl ?_
  refine bind_elim h fun x2 hx2 h => ?_
  have qx2 := (slc_some hx2).1
  have hx2e := (slc_some hx2).2
  refine And.intro (fun _ => qx2) ?_
  refine NormE.to (AV.str x2) (fun _ => congrArg AV.str hx2e.symm) ?_
  refine NormE.same ?_
  refine And.intro rfl ?_
  refine bind_elim h fun x3 hx3 h => ?_
  have qx3 := (slc_some hx3).1
  have hx3e := (slc_some hx3).2
  refine And.intro (fun _ => qx3) ?_
  refine NormE.to (AV.str x3) (fun _ => congrArg AV.str hx3e.symm) ?_
  refine And.intro ⟨rfl, rfl, rfl, Nat.le_of_ble_eq_true rfl⟩ (Exists.intro [AV.str x1, AV.str (a0.Target), AV.int .i64 (a0.Code), AV.str (a0.Reason), AV.int .i64 (a0.Minor)] (And.intro (fun _ => rfl) ?_))
  refine And.intro ⟨rfl, rfl, rfl, Nat.le_of_ble_eq_true rfl⟩ (Exists.intro [AV.str x1, AV.str x2, AV.int .i64 (a0.Code), AV.str (a0.Reason), AV.int .i64 (a0.Minor)] (And.intro (fun _ => rfl) ?_))
  refine And.intro ⟨rfl, rfl, rfl, Nat.le_of_ble_eq_true rfl⟩ (Exists.intro [AV.str x1, AV.str x2, AV.int .i64 (a0.Code), AV.str x3, AV.int .i64 (a0.Minor)] (And.intro (fun _ => rfl) ?_))
  refine And.intro (by kernel_rfl) ?_
  refine SeqN.via (St.of [⟨1, AV.ptr 0 0, none⟩, ⟨2, AV.ptr 1 0, none⟩] [.cells 23 [AV.str x1, AV.str x2, AV.int .i64 (a0.Code), AV.str x3, AV.int .i64 (a0.Minor)] [], .cells 23 [AV.str ([] : Bytes), AV.str ([] : Bytes), AV.int .i64 (0 : Int), AV.str ([] : Bytes), AV.int .i64 (0 : Int)] []] []) ?_ ?_
  · refine Gho.to [⟨1, AV.ptr 0 0, none⟩, ⟨2, AV.ptr 1 0, none⟩] [.cells 23 [AV.str x1, AV.str x2, AV.int .i64 (a0.Code), AV.str x3, AV.int .i64 (a0.Minor)] [], .cells 23 [AV.str ([] : Bytes), AV.str ([] : Bytes), AV.int .i64 (0 : Int), AV.str ([] : Bytes), AV.int .i64 (0 : Int)] []] [] [] ?_ ?_ ?_ rfl rfl ?_
    · exact ⟨⟨rfl, rfl, rfl⟩, ⟨⟨rfl, rfl, rfl⟩, trivial⟩⟩
    · exact rfl
    · exact rfl
    · exact ⟨rfl, rfl, trivial, rfl, rfl, trivial, trivial⟩
  refine SeqJ.go ?_
  refine And.intro ⟨Nat.le_of_ble_eq_true rfl, Nat.le_of_ble_eq_true rfl⟩ ?_
  refine NormE.to (AV.agg [AV.str x1, AV.str x2, AV.int .i64 (a0.Code), AV.str x3, AV.int .i64 (a0.Minor)]) (fun _ => rfl) ?_
  refine And.intro ⟨rfl, rfl, rfl, Nat.le_of_ble_eq_true rfl⟩ (Exists.intro [AV.str x1, AV.str x2, AV.int .i64 (a0.Code), AV.str x3, AV.int .i64 (a0.Minor)] (And.intro (fun _ => rfl) ?_))
  refine SeqN.go ?_
  replace h := Option.some.inj h
  refine RetE.plain ?_
  refine And.intro ⟨Nat.le_of_ble_eq_true rfl, Nat.le_of_ble_eq_true rfl⟩ (Exists.intro (AV.agg [AV.str x1, AV.str x2, AV.int .i64 (a0.Code), AV.str x3, AV.int .i64 (a0.Minor)]) (And.intro rfl ?_))
  exact And.intro rfl (And.intro (congrArg (fun r : S_Start => S_Start.av r) h) rfl)

theorem intarsialaw09_few_ok (E : Pm.Env) [LaidE E] (a0 : (List S_Field)) (r : (List S_Field)) (h : intarsialaw09_few a0 = some r) : FnR E Tryd.prog 11 [AV.list 2 (a0.map S_Field.av)] (AV.list 2 (r.map S_Field.av)) false := by
  refine FnR.of_ev (T := T) (rows := [11]) tOk mixed Tryd.func11 rfl (by kernel_rfl) (by kernel_rfl) rfl fun hwf => ?_
  unfold intarsialaw09_few at h
  refine SeqJ.go ?_
  refine SeqN.go ?_
  refine SeqJ.go ?_
  refine And.intro ⟨rfl, rfl, rfl⟩ ?_
  refine NormE.to (AV.list 2 (([] : List S_Field).map S_Field.av)) (fun _ => rfl) ?_
  refine NormE.to (AV.int .i64 (a0.length : Int)) (fun _ => len_list S_Field.av a0) ?_
  refine And.intro rfl ?_
  refine bind_elim h fun x1 hx1 h => ?_
  have qx1 := (slc_some hx1).1
  have hx1e := (slc_some hx1).2
  refine And.intro ⟨(fun hg => slc_cond S_Field.av (qx1)), rfl⟩ ?_
  refine NormE.to (AV.list 2 (x1.map S_Field.av)) (fun _ => (slc_list 2 S_Field.av _ _ _).trans (congrArg (fun y => AV.list 2 (List.map S_Field.av y)) hx1e.symm)) ?_
  refine chk_elim h fun q2 h => ?_
  refine And.intro ⟨rfl, rfl, rfl⟩ ?_
  refine And.intro rfl ?_
  refine And.intro (by rw [List.length_map]; exact q2) ?_
  refine Exists.intro (x1.flatMap S_Field.cells) (And.intro (flat_from _ _) ?_)
  refine NormE.to (AV.row 0 0 x1.length) (fun _ => row_len _ _ _) ?_
  refine SeqN.go ?_
  refine bind_elim h fun j3 hj3 h => ?_
  refine SeqJ.join (St.of [⟨0, AV.row 0 0 (x1.length), none⟩] [.cells 40 (j3.flatMap S_Field.cells) []] []) ?_ ?_
  · clear h; have h := hj3; clear hj3
    refine SeqJ.go ?_
    refine NormE.same ?_
    refine SeqN.go ?_
    refine LoopE.img (fun x : (Int × (List S_Field)) => St.of [⟨0, AV.row 0 0 (x1.length), none⟩, ⟨12, AV.row 0 0 (x1.length), none⟩, ⟨13, AV.int .i64 ((x1.length : Nat) : Int), none⟩, ⟨14, AV.int .i64 (x.1), none⟩] [.cells 40 ((x.2).flatMap S_Field.cells) []] []) (intarsialaw09_few_b1 x1) ((0 : Int), x1) h ?_ ?_
    · refine Gho.to [⟨0, AV.row 0 0 (x1.length), none⟩, ⟨12, AV.row 0 0 (x1.length), none⟩, ⟨13, AV.int .i64 ((x1.length : Nat) : Int), none⟩, ⟨14, AV.int .i64 (0 : Int), none⟩] [.cells 40 (x1.flatMap S_Field.cells) []] [] [] ?_ ?_ ?_ rfl rfl ?_
      · exact ⟨⟨rfl, rfl, rfl⟩, trivial⟩
      · exact (and_tt' (noB_flat _ (fun _ => rfl) _) rfl)
      · exact rfl
      · exact ⟨rfl, rfl, trivial, rfl, rfl, trivial, rfl, rfl, trivial, rfl, rfl, trivial, trivial⟩
    intro n1 x y1 h hl1 hr1
    obtain ⟨s4, s5⟩ := x
    unfold intarsialaw09_few_b1 at h
    dsimp only at h
    refine SeqJ.go ?_
    refine SeqN.go ?_
    refine SeqJ.go ?_
    refine Br.mk (fun ht => ?_) (fun ht => ?_)
    · replace h := cond_tt h ht
      refine SeqN.go ?_
      refine SeqJ.go ?_
      refine SeqJ.go ?_
      refine chk_elim h fun q6 h => ?_
      refine And.intro (fun _ => q6) ?_
      refine bind_elim h fun x7 hx7 h => ?_
      refine And.intro ⟨Nat.le_of_ble_eq_true rfl, flat_fits S_Field.cells 2 (fun _ => rfl) hx7⟩ ?_
      refine NormE.to (S_Field.av x7) (fun _ => congrArg AV.agg (flat_load S_Field.cells 2 (fun _ => rfl) hx7)) ?_
      refine And.intro rfl ?_
      refine And.intro ⟨rfl, rfl, rfl, Nat.le_of_ble_eq_true rfl⟩ (Exists.intro (S_Field.cells x7) (And.intro (fun _ => rfl) ?_))
      refine SeqN.go ?_
      refine NormE.same ?_
      refine And.intro rfl ?_
      refine bind_elim h fun x8 hx8 h => ?_
      have qx8 := (slc_some hx8).1
      have hx8e := (slc_some hx8).2
      refine And.intro (fun _ => qx8) ?_
      refine NormE.to (AV.str x8) (fun _ => congrArg AV.str hx8e.symm) ?_
      refine NormE.same ?_
      refine And.intro rfl ?_
      refine bind_elim h fun x9 hx9 h => ?_
      have qx9 := (slc_some hx9).1
      have hx9e := (slc_some hx9).2
      refine And.intro (fun _ => qx9) ?_
      refine NormE.to (AV.str x9) (fun _ => congrArg AV.str hx9e.symm) ?_
      refine And.intro ⟨rfl, rfl, Nat.le_of_ble_eq_true rfl⟩ ?_
      refine And.intro ⟨rfl, rfl, Nat.le_of_ble_eq_true rfl⟩ ?_
      refine chk_elim h fun q10 h => ?_
      refine And.intro (fun _ => q10) ?_
      refine bind_elim h fun x11 hx11 h => ?_
      have qx11 := (seti_some hx11).1
      have hx11e := (seti_some hx11).2
      refine And.intro ⟨rfl, rfl, rfl, flat_len_le S_Field.cells 2 (fun _ => rfl) qx11⟩ (Exists.intro (x11.flatMap S_Field.cells) (And.intro (fun _ => flat_store S_Field.cells 2 (fun _ => rfl) (S_Field.mk x8 x9) qx11 hx11e) ?_))
      refine And.intro (by kernel_rfl) ?_
      refine SeqN.via (St.of [⟨0, AV.row 0 0 (x1.length), none⟩, ⟨12, AV.row 0 0 (x1.length), none⟩, ⟨13, AV.int .i64 ((x1.length : Nat) : Int), none⟩, ⟨14, AV.int .i64 s4, none⟩] [.cells 40 (x11.flatMap S_Field.cells) []] []) ?_ ?_
      · refine Gho.to [⟨0, AV.row 0 0 (x1.length), none⟩, ⟨12, AV.row 0 0 (x1.length), none⟩, ⟨13, AV.int .i64 ((x1.length : Nat) : Int), none⟩, ⟨14, AV.int .i64 s4, none⟩] [.cells 40 (x11.flatMap S_Field.cells) []] [] [] ?_ ?_ ?_ rfl rfl ?_
        · exact ⟨⟨rfl, rfl, rfl⟩, trivial⟩
        · exact (and_tt' (noB_flat _ (fun _ => rfl) _) rfl)
        · exact rfl
        · exact ⟨rfl, rfl, trivial, rfl, rfl, trivial, rfl, rfl, trivial, rfl, rfl, trivial, trivial⟩
      replace h := Option.some.inj h
      refine Exists.intro ⟨(n1, ((IntKind.i64.wrap (s4 + (1 : Int))), x11)), hl1 _ h.symm⟩ (And.intro (Nat.lt_succ_self _) ?_)
      refine Gho.to [⟨0, AV.row 0 0 (x1.length), none⟩, ⟨12, AV.row 0 0 (x1.length), none⟩, ⟨13, AV.int .i64 ((x1.length : Nat) : Int), none⟩, ⟨14, AV.int .i64 (IntKind.i64.wrap (s4 + (1 : Int))), none⟩] [.cells 40 (x11.flatMap S_Field.cells) []] [] [] ?_ ?_ ?_ rfl rfl ?_
      · exact ⟨⟨rfl, rfl, rfl⟩, trivial⟩
      · exact (and_tt' (noB_flat _ (fun _ => rfl) _) rfl)
      · exact rfl
      · exact ⟨rfl, rfl, trivial, rfl, rfl, trivial, rfl, rfl, trivial, rfl, rfl, trivial, trivial⟩
    · replace h := cond_ff h ht
      replace h := Option.some.inj h
      replace h := hr1 _ h.symm
      subst h
      refine Gho.to [⟨0, AV.row 0 0 (x1.length), none⟩] [.cells 40 (s5.flatMap S_Field.cells) []] [] [] ?_ ?_ ?_ rfl rfl ?_
      · exact ⟨⟨rfl, rfl, rfl⟩, trivial⟩
      · exact (and_tt' (noB_flat _ (fun _ => rfl) _) rfl)
      · exact rfl
      · exact ⟨rfl, rfl, trivial, trivial⟩
  · clear hj3
    refine SeqJ.go ?_
    refine SeqN.go ?_
    refine chk_elim h fun hc1 h => ?_
    replace h := Option.some.inj h
    refine RetE.frz ?_
    exact Exists.intro _ (And.intro (Frz.rows S_Field.av 2 (Nat.le_of_ble_eq_true rfl) (fun _ => rfl) (fun _ => rfl) rfl (flat_from _ _) hc1) (And.intro (congrArg (fun r : (List S_Field) => AV.list 2 (r.map S_Field.av)) h) rfl))

theorem stringslite_IndexByte_ok (E : Pm.Env) [LaidE E] (a0 : Bytes) (a1 : Int) (r : Int) (h : stringslite_IndexByte a0 a1 = some r) : FnR E Tryd.prog 102 [AV.str a0, AV.int .u8 a1] (AV.int .i64 r) false := by
  refine FnR.of_ev (T := T) (rows := []) tOk mixed Tryd.func102 rfl (by kernel_rfl) (by kernel_rfl) rfl fun hwf => ?_
  unfold stringslite_IndexByte at h
  refine SeqJ.go ?_
  refine SeqN.go ?_
  refine SeqJ.go ?_
  refine bind_elim h fun x1 hx1 h => ?_
  refine CallH.data _ false rfl (bytealg_IndexByteString_ok E a0 a1 x1 hx1) ?_
  refine SeqN.go ?_
  replace h := Option.some.inj h
  refine RetE.plain ?_
  exact And.intro rfl (And.intro (congrArg (fun r : Int => AV.int .i64 r) h) rfl)

theorem strings_IndexByte_ok (E : Pm.Env) [LaidE E] (a0 : Bytes) (a1 : Int) (r : Int) (h : strings_IndexByte a0 a1 = some r) : FnR E Tryd.prog 87 [AV.str a0, AV.int .u8 a1] (AV.int .i64 r) false := by
  refine FnR.of_ev (T := T) (rows := []) tOk mixed Tryd.func87 rfl (by kernel_rfl) (by kernel_rfl) rfl fun hwf => ?_
  unfold strings_IndexByte at h
  refine SeqJ.go ?_
  refine SeqN.go ?_
  refine SeqJ.go ?_
  refine bind_elim h fun x1 hx1 h => ?_
  refine CallH.data _ false rfl (stringslite_IndexByte_ok E a0 a1 x1 hx1) ?_
  refine SeqN.go ?_
  replace h := Option.some.inj h
  refine RetE.plain ?_
  exact And.intro rfl (And.intro (congrArg (fun r : Int => AV.int .i64 r) h) rfl)

theorem text_tokens_ok (E : Pm.Env) [LaidE E] (r : (List Bool)) (h : text_tokens = some r) : FnR E Tryd.prog 84 [] (AV.iptr (r.map AV.bool)) false := by
  refine FnR.of_ev (T := T) (rows := []) tOk mixed Tryd.func84 rfl (by kernel_rfl) (by kernel_rfl) rfl fun hwf => ?_
  unfold text_tokens at h
  refine SeqJ.go ?_
  refine SeqN.go ?_
  refine SeqJ.go ?_
  refine And.intro rfl ?_
  refine SeqN.go ?_
  refine bind_elim h fun j1 hj1 h => ?_
  refine SeqJ.join (St.of [⟨1, AV.ptr 0 0, none⟩] [.cells 114 (j1.map AV.bool) []] []) ?_ ?_
  · clear h; have h := hj1; clear hj1
    refine SeqJ.go ?_
    refine SeqN.go ?_
    refine LoopE.img (fun x : (Int × (List Bool)) => St.of [⟨1, AV.ptr 0 0, none⟩, ⟨4, AV.int .i64 (x.1), none⟩] [.cells 114 ((x.2).map AV.bool) []] []) (text_tokens_b1) ((0 : Int), (List.replicate 256 false)) h ?_ ?_
    · refine Gho.to [⟨1, AV.ptr 0 0, none⟩, ⟨4, AV.int .i64 (0 : Int), none⟩] [.cells 114 ((List.replicate 256 false).map AV.bool) []] [] [] ?_ ?_ ?_ rfl rfl ?_
      · exact ⟨⟨rfl, rfl, rfl⟩, trivial⟩
      · exact (and_tt' (noB_map _ (fun _ => rfl) _) rfl)
      · exact rfl
      · exact ⟨rfl, rfl, trivial, rfl, rfl, trivial, trivial⟩
    intro n1 x y1 h hl1 hr1
    obtain ⟨s2, s3⟩ := x
    unfold text_tokens_b1 at h
    dsimp only at h
    refine SeqJ.go ?_
    refine SeqN.go ?_
    refine SeqJ.go ?_
    refine Br.mk (fun ht => ?_) (fun ht => ?_)
    · replace h := cond_tt h ht
      refine SeqN.go ?_
      refine SeqJ.go ?_
      refine SeqJ.go ?_
      refine SeqN.go ?_
      refine SeqJ.go ?_
      refine SeqN.go ?_
      refine And.intro (fun hg => hg) ?_
      refine And.intro (fun hg => (and_r hg)) ?_
      refine And.intro (fun hg => hg) ?_
      refine And.intro (fun hg => hg) ?_
      refine And.intro (fun hg => hg) ?_
      refine And.intro (fun hg => hg) ?_
      refine And.intro (fun hg => hg) ?_
      refine And.intro (fun hg => (and_r hg)) ?_
      refine And.intro (fun hg => hg) ?_
      refine And.intro (fun hg => hg) ?_
      refine And.intro (fun hg => hg) ?_
      refine And.intro (fun hg => hg) ?_
      refine And.intro (fun hg => hg) ?_
      refine And.intro (fun hg => (and_r hg)) ?_
      refine bind_elim h fun x4 hx4 h => ?_
      refine And.intro (fun hg => hg) ?_
      refine And.intro rfl ?_
      refine CallF.mk _ false (fun hg => strings_IndexByte_ok E ([33, 35, 36, 37, 38, 39, 42, 43, 45, 46, 94, 95, 124, 126, 96] : Bytes) (IntKind.u8.wrap s2) x4 (gcall_some hx4 hg)) (And.intro rfl ?_)
      refine And.intro (fun hg => hg) ?_
      refine And.intro (fun hg => (and_r hg)) ?_
      refine chk_elim h fun q5 h => ?_
      refine And.intro (fun _ => q5) ?_
      refine bind_elim h fun x6 hx6 h => ?_
      have qx6 := (seti_some hx6).1
      have hx6e := (seti_some hx6).2
      refine And.intro ⟨rfl, rfl, rfl, seti_len AV.bool qx6 0 rfl⟩ (Exists.intro (x6.map AV.bool) (And.intro (fun hw => seti_map' AV.bool _ qx6 hx6e) ?_))
      refine SeqN.via (St.of [⟨1, AV.ptr 0 0, none⟩, ⟨4, AV.int .i64 s2, none⟩] [.cells 114 (x6.map AV.bool) []] []) ?_ ?_
      · refine Gho.to [⟨1, AV.ptr 0 0, none⟩, ⟨4, AV.int .i64 s2, none⟩] [.cells 114 (x6.map AV.bool) []] [] [] ?_ ?_ ?_ rfl rfl ?_
        · exact ⟨⟨rfl, rfl, rfl⟩, trivial⟩
        · exact (and_tt' (noB_map _ (fun _ => rfl) _) rfl)
        · exact rfl
        · exact ⟨rfl, rfl, trivial, rfl, rfl, trivial, trivial⟩
      replace h := Option.some.inj h
      refine Exists.intro ⟨(n1, ((IntKind.i64.wrap (s2 + (1 : Int))), x6)), hl1 _ h.symm⟩ (And.intro (Nat.lt_succ_self _) ?_)
      refine Gho.to [⟨1, AV.ptr 0 0, none⟩, ⟨4, AV.int .i64 (IntKind.i64.wrap (s2 + (1 : Int))), none⟩] [.cells 114 (x6.map AV.bool) []] [] [] ?_ ?_ ?_ rfl rfl ?_
      · exact ⟨⟨rfl, rfl, rfl⟩, trivial⟩
      · exact (and_tt' (noB_map _ (fun _ => rfl) _) rfl)
      · exact rfl
      · exact ⟨rfl, rfl, trivial, rfl, rfl, trivial, trivial⟩
    · replace h := cond_ff h ht
      replace h := Option.some.inj h
      replace h := hr1 _ h.symm
      subst h
      refine Gho.to [⟨1, AV.ptr 0 0, none⟩] [.cells 114 (s3.map AV.bool) []] [] [] ?_ ?_ ?_ rfl rfl ?_
      · exact ⟨⟨rfl, rfl, rfl⟩, trivial⟩
      · exact (and_tt' (noB_map _ (fun _ => rfl) _) rfl)
      · exact rfl
      · exact ⟨rfl, rfl, trivial, trivial⟩
  · clear hj1
    refine SeqJ.go ?_
    refine SeqN.go ?_
    refine chk_elim h fun hc1 h => ?_
    replace h := Option.some.inj h
    refine RetE.frz ?_
    exact Exists.intro _ (And.intro (Frz.ptr0 rfl (puB_map _ (fun _ => rfl) _) (by rw [List.length_map]; exact hc1)) (And.intro (congrArg (fun r : (List Bool) => AV.iptr (r.map AV.bool)) h) rfl))

theorem text_all_ok (E : Pm.Env) [LaidE E] (a0 : Bytes) (a1 : (List Bool)) (a2 : FuncId) (a2c : List AV) (a2i : (List Bool) → Int → Option Bool) (a2h : ∀ (x0 : (List Bool)) (x1 : Int) (r : Bool), a2i x0 x1 = some r → FnR E Tryd.prog a2 ([AV.iptr (x0.map AV.bool), AV.int .u8 x1] ++ a2c) (AV.bool r) false) (a2p : a2c.all AV.puB = true) (r : Bool) (h : text_all a0 a1 a2i = some r) : FnR E Tryd.prog 83 [AV.str a0, AV.iptr (a1.map AV.bool), AV.fn a2 [] a2c] (AV.bool r) false := by
  refine FnR.of_ev (T := T) (rows := []) tOk mixed Tryd.func83 rfl (by kernel_rfl) (by kernel_rfl) rfl fun hwf => ?_
  unfold text_all at h
  refine SeqJ.go ?_
  refine SeqN.go ?_
  refine SeqJ.go ?_
  refine SeqJ.go ?_
  refine NormE.same ?_
  refine SeqN.go ?_
  refine LoopE.img (fun x : Int => St.of [⟨0, AV.str a0, none⟩, ⟨1, AV.iptr (a1.map AV.bool), none⟩, ⟨2, AV.fn a2 [] a2c, none⟩, ⟨9, AV.int .i64 (a0.length : Int), none⟩, ⟨10, AV.int .i64 x, none⟩] [] []) (text_all_b1 a0 a1 a2i) (0 : Int) h ?_ ?_
  · refine Gho.to [⟨0, AV.str a0, none⟩, ⟨1, AV.iptr (a1.map AV.bool), none⟩, ⟨2, AV.fn a2 [] a2c, none⟩, ⟨9, AV.int .i64 (a0.length : Int), none⟩, ⟨10, AV.int .i64 (0 : Int), none⟩] [] [] [] ?_ ?_ ?_ rfl rfl ?_
    · exact trivial
    · exact rfl
    · exact rfl
    · exact ⟨rfl, rfl, trivial, rfl, rfl, trivial, rfl, (noB_fn a2p _), trivial, rfl, rfl, trivial, rfl, rfl, trivial, trivial⟩
  intro n1 x y1 h hl1 hr1
  revert h; revert x; intro s1 h
  unfold text_all_b1 at h
  refine SeqJ.go ?_
  refine SeqN.go ?_
  refine SeqJ.go ?_
  refine Br.mk (fun ht => ?_) (fun ht => ?_)
  · replace h := cond_tt h ht
    refine SeqN.go ?_
    refine SeqJ.go ?_
    refine SeqJ.go ?_
    refine SeqN.go ?_
    refine SeqJ.go ?_
    refine bind_elim h fun x2 hx2 h => ?_
    refine Exists.intro x2 (And.intro (fun hg => idx_some hx2) ?_)
    refine bind_elim h fun x3 hx3 h => ?_
    refine CallH.data _ false (puD_app rfl (puD_of a2p)) (a2h a1 (x2.toNat : Int) x3 hx3) ?_
    refine SeqN.go ?_
    refine Br.mk (fun ht => ?_) (fun ht => ?_)
    · replace h := cond_tt h ht
      refine SeqJ.go ?_
      refine SeqN.go ?_
      replace h := Option.some.inj h
      replace h := hr1 _ h.symm
      refine RetE.plain ?_
      exact And.intro rfl (And.intro (congrArg (fun r : Bool => AV.bool r) h) rfl)
    · replace h := cond_ff h ht
      refine SeqN.go ?_
      replace h := Option.some.inj h
      refine Exists.intro ⟨(n1, (IntKind.i64.wrap (s1 + (1 : Int)))), hl1 _ h.symm⟩ (And.intro (Nat.lt_succ_self _) ?_)
      refine Gho.to [⟨0, AV.str a0, none⟩, ⟨1, AV.iptr (a1.map AV.bool), none⟩, ⟨2, AV.fn a2 [] a2c, none⟩, ⟨9, AV.int .i64 (a0.length : Int), none⟩, ⟨10, AV.int .i64 (IntKind.i64.wrap (s1 + (1 : Int))), none⟩] [] [] [] ?_ ?_ ?_ rfl rfl ?_
      · exact trivial
      · exact rfl
      · exact rfl
      · exact ⟨rfl, rfl, trivial, rfl, rfl, trivial, rfl, (noB_fn a2p _), trivial, rfl, rfl, trivial, rfl, rfl, trivial, trivial⟩
  · replace h := cond_ff h ht
    refine SeqN.go ?_
    refine SeqJ.go ?_
    refine SeqN.go ?_
    replace h := Option.some.inj h
    replace h := hr1 _ h.symm
    refine RetE.plain ?_
    exact And.intro rfl (And.intro (congrArg (fun r : Bool => AV.bool r) h) rfl)

theorem text_set_has_ok (E : Pm.Env) [LaidE E] (a0 : (List Bool)) (a1 : Int) (r : Bool) (h : text_set_has a0 a1 = some r) : FnR E Tryd.prog 85 [AV.iptr (a0.map AV.bool), AV.int .u8 a1] (AV.bool r) false := by
  refine FnR.of_ev (T := T) (rows := []) tOk mixed Tryd.func85 rfl (by kernel_rfl) (by kernel_rfl) rfl fun hwf => ?_
  unfold text_set_has at h
  refine SeqJ.go ?_
  refine SeqN.go ?_
  refine SeqJ.go ?_
  refine chk_elim h fun q1 h => ?_
  refine And.intro (fun _ => q1) ?_
  refine bind_elim h fun x2 hx2 h => ?_
  refine optE.mk (c := AV.bool x2) (drop_get _ hx2) ?_
  refine SeqN.go ?_
  replace h := Option.some.inj h
  refine RetE.plain ?_
  exact And.intro rfl (And.intro (congrArg (fun r : Bool => AV.bool r) h) rfl)

theorem text_Token_ok (E : Pm.Env) [LaidE E] (a0 : Bytes) (r : Bool) (h : text_Token a0 = some r) : FnR E Tryd.prog 53 [AV.str a0] (AV.bool r) false := by
  refine FnR.of_ev (T := T) (rows := []) tOk mixed Tryd.func53 rfl (by kernel_rfl) (by kernel_rfl) rfl fun hwf => ?_
  unfold text_Token at h
  refine SeqJ.go ?_
  refine SeqN.go ?_
  refine SeqJ.go ?_
  refine bind_elim h fun x1 hx1 h => ?_
  refine And.intro rfl ?_
  refine CallF.mk _ false (fun hg => text_tokens_ok E  x1 (gcall_some hx1 hg)) (And.intro rfl ?_)
  refine bind_elim h fun x2 hx2 h => ?_
  refine And.intro (fun hg => hg) ?_
  refine And.intro (fun hg => hg) ?_
  refine And.intro rfl ?_
  refine CallF.mk _ false (fun hg => text_all_ok E a0 x1 85 [] (fun x0 x1 => text_set_has x0 x1) (fun x0 x1 r h => text_set_has_ok E x0 x1 r h) rfl x2 (gcall_some hx2 hg)) (And.intro rfl ?_)
  refine And.intro (fun hg => (and_r hg)) ?_
  refine SeqN.go ?_
  replace h := Option.some.inj h
  refine RetE.plain ?_
  exact And.intro rfl (And.intro (congrArg (fun r : Bool => AV.bool r) h) rfl)

theorem stringslite_HasPrefix_ok (E : Pm.Env) [LaidE E] (a0 : Bytes) (a1 : Bytes) (r : Bool) (h : stringslite_HasPrefix a0 a1 = some r) : FnR E Tryd.prog 103 [AV.str a0, AV.str a1] (AV.bool r) false := by
  refine FnR.of_ev (T := T) (rows := []) tOk mixed Tryd.func103 rfl (by kernel_rfl) (by kernel_rfl) rfl fun hwf => ?_
  unfold stringslite_HasPrefix at h
  refine SeqJ.go ?_
  refine SeqN.go ?_
  refine SeqJ.go ?_
  refine NormE.same ?_
  refine NormE.same ?_
  refine And.intro (fun hg => hg) ?_
  refine NormE.same ?_
  refine bind_elim h fun x1 hx1 h => ?_
  have qx1 := (gslc_some hx1).1
  have hx1e := (gslc_some hx1).2
  refine And.intro (fun hg => hg) ?_
  refine And.intro (fun hg => hg) ?_
  refine And.intro qx1 ?_
  refine NormE.to (AV.str x1) (fun _ => congrArg AV.str hx1e.symm) ?_
  refine And.intro (fun hg => hg) ?_
  refine And.intro (fun hg => hg) ?_
  refine And.intro (fun hg => (and_r hg)) ?_
  refine SeqN.go ?_
  replace h := Option.some.inj h
  refine RetE.plain ?_
  exact And.intro rfl (And.intro (congrArg (fun r : Bool => AV.bool r) h) rfl)

theorem strings_HasPrefix_ok (E : Pm.Env) [LaidE E] (a0 : Bytes) (a1 : Bytes) (r : Bool) (h : strings_HasPrefix a0 a1 = some r) : FnR E Tryd.prog 88 [AV.str a0, AV.str a1] (AV.bool r) false := by
  refine FnR.of_ev (T := T) (rows := []) tOk mixed Tryd.func88 rfl (by kernel_rfl) (by kernel_rfl) rfl fun hwf => ?_
  unfold strings_HasPrefix at h
  refine SeqJ.go ?_
  refine SeqN.go ?_
  refine SeqJ.go ?_
  refine bind_elim h fun x1 hx1 h => ?_
  refine CallH.data _ false rfl (stringslite_HasPrefix_ok E a0 a1 x1 hx1) ?_
  refine SeqN.go ?_
  replace h := Option.some.inj h
  refine RetE.plain ?_
  exact And.intro rfl (And.intro (congrArg (fun r : Bool => AV.bool r) h) rfl)

theorem slices_IndexFunc__byte_byte_ok (E : Pm.Env) [LaidE E] (a0 : (List UInt8)) (a1 : FuncId) (a1c : List AV) (a1i : Int → Option Bool) (a1h : ∀ (x0 : Int) (r : Bool), a1i x0 = some r → FnR E Tryd.prog a1 ([AV.int .u8 x0] ++ a1c) (AV.bool r) false) (a1p : a1c.all AV.puB = true) (r : Int) (h : slices_IndexFunc__byte_byte a0 a1i = some r) : FnR E Tryd.prog 90 [AV.list 1 (a0.map byteAV), AV.fn a1 [] a1c] (AV.int .i64 r) false := by
  refine FnR.of_ev (T := T) (rows := []) tOk mixed Tryd.func90 rfl (by kernel_rfl) (by kernel_rfl) rfl fun hwf => ?_
  unfold slices_IndexFunc__byte_byte at h
  refine SeqJ.go ?_
  refine SeqN.go ?_
  refine SeqJ.go ?_
  refine SeqJ.go ?_
  refine NormE.to (AV.int .i64 (a0.length : Int)) (fun _ => len_list byteAV a0) ?_
  refine SeqN.go ?_
  refine LoopE.img (fun x : Int => St.of [⟨0, AV.list 1 (a0.map byteAV), none⟩, ⟨1, AV.fn a1 [] a1c, none⟩, ⟨7, AV.int .i64 (a0.length : Int), none⟩, ⟨8, AV.int .i64 x, none⟩] [] []) (slices_IndexFunc__byte_byte_b1 a0 a1i) (0 : Int) h ?_ ?_
  · refine Gho.to [⟨0, AV.list 1 (a0.map byteAV), none⟩, ⟨1, AV.fn a1 [] a1c, none⟩, ⟨7, AV.int .i64 (a0.length : Int), none⟩, ⟨8, AV.int .i64 (0 : Int), none⟩] [] [] [] ?_ ?_ ?_ rfl rfl ?_
    · exact trivial
    · exact rfl
    · exact rfl
    · exact ⟨rfl, rfl, trivial, rfl, (noB_fn a1p _), trivial, rfl, rfl, trivial, rfl, rfl, trivial, trivial⟩
  intro n1 x y1 h hl1 hr1
  revert h; revert x; intro s1 h
  unfold slices_IndexFunc__byte_byte_b1 at h
  refine SeqJ.go ?_
  refine SeqN.go ?_
  refine SeqJ.go ?_
  refine Br.mk (fun ht => ?_) (fun ht => ?_)
  · replace h := cond_tt h ht
    refine SeqN.go ?_
    refine SeqJ.go ?_
    refine SeqJ.go ?_
    refine SeqN.go ?_
    refine SeqJ.go ?_
    refine bind_elim h fun x2 hx2 h => ?_
    refine And.intro rfl (Exists.intro (byteAV x2) (And.intro (fun hg => idx_map _ hx2) ?_))
    refine bind_elim h fun x3 hx3 h => ?_
    refine CallH.data _ false (puD_app rfl (puD_of a1p)) (a1h (x2.toNat : Int) x3 hx3) ?_
    refine SeqN.go ?_
    refine Br.mk (fun ht => ?_) (fun ht => ?_)
    · replace h := cond_tt h ht
      refine SeqJ.go ?_
      refine SeqN.go ?_
      replace h := Option.some.inj h
      replace h := hr1 _ h.symm
      refine RetE.plain ?_
      exact And.intro rfl (And.intro (congrArg (fun r : Int => AV.int .i64 r) h) rfl)
    · replace h := cond_ff h ht
      refine SeqN.go ?_
      replace h := Option.some.inj h
      refine Exists.intro ⟨(n1, (IntKind.i64.wrap (s1 + (1 : Int)))), hl1 _ h.symm⟩ (And.intro (Nat.lt_succ_self _) ?_)
      refine Gho.to [⟨0, AV.list 1 (a0.map byteAV), none⟩, ⟨1, AV.fn a1 [] a1c, none⟩, ⟨7, AV.int .i64 (a0.length : Int), none⟩, ⟨8, AV.int .i64 (IntKind.i64.wrap (s1 + (1 : Int))), none⟩] [] [] [] ?_ ?_ ?_ rfl rfl ?_
      · exact trivial
      · exact rfl
      · exact rfl
      · exact ⟨rfl, rfl, trivial, rfl, (noB_fn a1p _), trivial, rfl, rfl, trivial, rfl, rfl, trivial, trivial⟩
  · replace h := cond_ff h ht
    refine SeqN.go ?_
    refine SeqJ.go ?_
    refine SeqN.go ?_
    replace h := Option.some.inj h
    replace h := hr1 _ h.symm
    refine RetE.plain ?_
    exact And.intro rfl (And.intro (congrArg (fun r : Int => AV.int .i64 r) h) rfl)

theorem slices_ContainsFunc__byte_byte_ok (E : Pm.Env) [LaidE E] (a0 : (List UInt8)) (a1 : FuncId) (a1c : List AV) (a1i : Int → Option Bool) (a1h : ∀ (x0 : Int) (r : Bool), a1i x0 = some r → FnR E Tryd.prog a1 ([AV.int .u8 x0] ++ a1c) (AV.bool r) false) (a1p : a1c.all AV.puB = true) (r : Bool) (h : slices_ContainsFunc__byte_byte a0 a1i = some r) : FnR E Tryd.prog 57 [AV.list 1 (a0.map byteAV), AV.fn a1 [] a1c] (AV.bool r) false := by
  refine FnR.of_ev (T := T) (rows := []) tOk mixed Tryd.func57 rfl (by kernel_rfl) (by kernel_rfl) rfl fun hwf => ?_
  unfold slices_ContainsFunc__byte_byte at h
  refine SeqJ.go ?_
  refine SeqN.go ?_
  refine SeqJ.go ?_
  refine bind_elim h fun x1 hx1 h => ?_
  refine CallH.data _ false (and_tt' rfl (and_tt' (puD_fn a1p) rfl)) (slices_IndexFunc__byte_byte_ok E a0 a1 a1c (a1i) a1h a1p x1 hx1) ?_
  refine SeqN.go ?_
  replace h := Option.some.inj h
  refine RetE.plain ?_
  exact And.intro rfl (And.intro (congrArg (fun r : Bool => AV.bool r) h) rfl)

theorem start_target_1_ok (E : Pm.Env) [LaidE E] (a0 : Int) (r : Bool) (h : start_target_1 a0 = some r) : FnR E Tryd.prog 86 [AV.int .u8 a0] (AV.bool r) false := by
  refine FnR.of_ev (T := T) (rows := []) tOk mixed Tryd.func86 rfl (by kernel_rfl) (by kernel_rfl) rfl fun hwf => ?_
  unfold start_target_1 at h
  refine SeqJ.go ?_
  refine SeqN.go ?_
  refine SeqJ.go ?_
  refine And.intro (fun hg => hg) ?_
  refine And.intro (fun hg => (and_r hg)) ?_
  refine bind_elim h fun x1 hx1 h => ?_
  refine And.intro (fun hg => hg) ?_
  refine And.intro rfl ?_
  refine CallF.mk _ false (fun hg => strings_IndexByte_ok E ([34, 35, 60, 62, 92, 94, 123, 124, 125, 96] : Bytes) a0 x1 (gcall_some hx1 hg)) (And.intro rfl ?_)
  refine And.intro (fun hg => hg) ?_
  refine And.intro (fun hg => (and_r hg)) ?_
  refine SeqN.go ?_
  replace h := Option.some.inj h
  refine RetE.plain ?_
  exact And.intro rfl (And.intro (congrArg (fun r : Bool => AV.bool r) h) rfl)

theorem start_target_ok (E : Pm.Env) [LaidE E] (a0 : Bytes) (r : Bool) (h : start_target a0 = some r) : FnR E Tryd.prog 54 [AV.str a0] (AV.bool r) false := by
  refine FnR.of_ev (T := T) (rows := []) tOk mixed Tryd.func54 rfl (by kernel_rfl) (by kernel_rfl) rfl fun hwf => ?_
  unfold start_target at h
  refine SeqJ.go ?_
  refine SeqN.go ?_
  refine SeqJ.go ?_
  refine SeqN.go ?_
  refine SeqJ.go ?_
  refine SeqJ.go ?_
  refine SeqN.go ?_
  refine Br.mk (fun ht => ?_) (fun ht => ?_)
  · replace h := cond_tt h ht
    refine SeqJ.go ?_
    refine SeqN.go ?_
    replace h := Option.some.inj h
    refine RetE.plain ?_
    exact And.intro rfl (And.intro (congrArg (fun r : Bool => AV.bool r) h) rfl)
  · replace h := cond_ff h ht
    refine SeqN.go ?_
    refine SeqJ.go ?_
    refine bind_elim h fun x1 hx1 h => ?_
    refine CallH.data _ false rfl (strings_HasPrefix_ok E a0 ([47] : Bytes) x1 hx1) ?_
    refine bind_elim h fun x2 hx2 h => ?_
    refine And.intro (fun hg => hg) ?_
    refine And.intro rfl ?_
    refine CallF.mk _ false (fun hg => strings_HasPrefix_ok E a0 ([104, 116, 116, 112, 58, 47, 47] : Bytes) x2 (gcall_some hx2 hg)) (And.intro rfl ?_)
    refine And.intro (fun hg => (and_r hg)) ?_
    refine And.intro (fun hg => hg) ?_
    refine NormE.same ?_
    refine And.intro (fun hg => hg) ?_
    refine And.intro (fun hg => (and_r hg)) ?_
    refine And.intro (fun hg => hg) ?_
    refine And.intro ⟨rfl, rfl⟩ ?_
    refine bind_elim h fun x3 hx3 h => ?_
    refine And.intro (fun hg => hg) ?_
    refine And.intro (fun hg => hg) ?_
    refine And.intro rfl ?_
    refine CallF.mk _ false (fun hg => slices_ContainsFunc__byte_byte_ok E a0 86 [] (fun x0 => start_target_1 x0) (fun x0 r h => start_target_1_ok E x0 r h) rfl x3 (gcall_some hx3 hg)) (And.intro rfl ?_)
    refine And.intro (fun hg => hg) ?_
    refine And.intro (fun hg => (and_r hg)) ?_
    refine SeqN.via (St.of [⟨2, AV.bool (bif (bif (bif x1 then true else x2) then (decide ((a0.length : Int) ≤ (500 : Int))) else false) then (!x3) else false), none⟩] [] []) ?_ ?_
    · refine Gho.to [⟨2, AV.bool (bif (bif (bif x1 then true else x2) then (decide ((a0.length : Int) ≤ (500 : Int))) else false) then (!x3) else false), none⟩] [] [] [] ?_ ?_ ?_ rfl rfl ?_
      · exact trivial
      · exact rfl
      · exact rfl
      · exact ⟨rfl, rfl, trivial, trivial⟩
    replace h := Option.some.inj h
    refine RetE.plain ?_
    exact And.intro rfl (And.intro (congrArg (fun r : Bool => AV.bool r) h) rfl)

theorem strings_trimRightByte_ok (E : Pm.Env) [LaidE E] (a0 : Bytes) (a1 : Int) (r : Bytes) (h : strings_trimRightByte a0 a1 = some r) : FnR E Tryd.prog 105 [AV.str a0, AV.int .u8 a1] (AV.str r) false := by
  refine FnR.of_ev (T := T) (rows := []) tOk mixed Tryd.func105 rfl (by kernel_rfl) (by kernel_rfl) rfl fun hwf => ?_
  unfold strings_trimRightByte at h
  refine SeqJ.go ?_
  refine SeqN.go ?_
  refine bind_elim h fun j1 hj1 h => ?_
  refine SeqJ.join (St.of [⟨0, AV.str j1, none⟩] [] []) ?_ ?_
  · clear h; have h := hj1; clear hj1
    refine LoopE.img (fun x : Bytes => St.of [⟨0, AV.str x, none⟩, ⟨1, AV.int .u8 a1, none⟩] [] []) (strings_trimRightByte_b1 a1) a0 h ?_ ?_
    · refine Gho.to [⟨0, AV.str a0, none⟩, ⟨1, AV.int .u8 a1, none⟩] [] [] [] ?_ ?_ ?_ rfl rfl ?_
      · exact trivial
      · exact rfl
      · exact rfl
      · exact ⟨rfl, rfl, trivial, rfl, rfl, trivial, trivial⟩
    intro n1 x y1 h hl1 hr1
    revert h; revert x; intro s2 h
    unfold strings_trimRightByte_b1 at h
    refine SeqJ.go ?_
    refine SeqJ.go ?_
    refine NormE.same ?_
    refine And.intro (fun hg => hg) ?_
    refine NormE.same ?_
    refine And.intro (fun hg => hg) ?_
    refine bind_elim h fun x3 hx3 h => ?_
    refine And.intro (fun hg => hg) ?_
    refine And.intro (fun hg => hg) ?_
    refine Exists.intro x3 (And.intro (fun hg => gidx_some hx3 hg) ?_)
    refine And.intro (fun hg => hg) ?_
    refine And.intro (fun hg => hg) ?_
    refine And.intro (fun hg => (and_r hg)) ?_
    refine SeqN.go ?_
    refine Br.mk (fun ht => ?_) (fun ht => ?_)
    · replace h := cond_tt h ht
      refine SeqN.go ?_
      refine NormE.same ?_
      refine bind_elim h fun x4 hx4 h => ?_
      have qx4 := (slc_some hx4).1
      have hx4e := (slc_some hx4).2
      refine And.intro (fun _ => qx4) ?_
      refine NormE.to (AV.str x4) (fun _ => congrArg AV.str hx4e.symm) ?_
      replace h := Option.some.inj h
      refine Exists.intro ⟨(n1, x4), hl1 _ h.symm⟩ (And.intro (Nat.lt_succ_self _) ?_)
      refine Gho.to [⟨0, AV.str x4, none⟩, ⟨1, AV.int .u8 a1, none⟩] [] [] [] ?_ ?_ ?_ rfl rfl ?_
      · exact trivial
      · exact rfl
      · exact rfl
      · exact ⟨rfl, rfl, trivial, rfl, rfl, trivial, trivial⟩
    · replace h := cond_ff h ht
      replace h := Option.some.inj h
      replace h := hr1 _ h.symm
      subst h
      refine Gho.to [⟨0, AV.str s2, none⟩] [] [] [] ?_ ?_ ?_ rfl rfl ?_
      · exact trivial
      · exact rfl
      · exact rfl
      · exact ⟨rfl, rfl, trivial, trivial⟩
  · clear hj1
    refine SeqJ.go ?_
    refine SeqN.go ?_
    replace h := Option.some.inj h
    refine RetE.plain ?_
    exact And.intro rfl (And.intro (congrArg (fun r : Bytes => AV.str r) h) rfl)

theorem strings_trimLeftByte_ok (E : Pm.Env) [LaidE E] (a0 : Bytes) (a1 : Int) (r : Bytes) (h : strings_trimLeftByte a0 a1 = some r) : FnR E Tryd.prog 104 [AV.str a0, AV.int .u8 a1] (AV.str r) false := by
  refine FnR.of_ev (T := T) (rows := []) tOk mixed Tryd.func104 rfl (by kernel_rfl) (by kernel_rfl) rfl fun hwf => ?_
  unfold strings_trimLeftByte at h
  refine SeqJ.go ?_
  refine SeqN.go ?_
  refine bind_elim h fun j1 hj1 h => ?_
  refine SeqJ.join (St.of [⟨0, AV.str j1, none⟩] [] []) ?_ ?_
  · clear h; have h := hj1; clear hj1
    refine LoopE.img (fun x : Bytes => St.of [⟨0, AV.str x, none⟩, ⟨1, AV.int .u8 a1, none⟩] [] []) (strings_trimLeftByte_b1 a1) a0 h ?_ ?_
    · refine Gho.to [⟨0, AV.str a0, none⟩, ⟨1, AV.int .u8 a1, none⟩] [] [] [] ?_ ?_ ?_ rfl rfl ?_
      · exact trivial
      · exact rfl
      · exact rfl
      · exact ⟨rfl, rfl, trivial, rfl, rfl, trivial, trivial⟩
    intro n1 x y1 h hl1 hr1
    revert h; revert x; intro s2 h
    unfold strings_trimLeftByte_b1 at h
    refine SeqJ.go ?_
    refine SeqJ.go ?_
    refine NormE.same ?_
    refine bind_elim h fun x3 hx3 h => ?_
    refine And.intro (fun hg => hg) ?_
    refine Exists.intro x3 (And.intro (fun hg => gidx_some hx3 hg) ?_)
    refine And.intro (fun hg => hg) ?_
    refine And.intro (fun hg => hg) ?_
    refine And.intro (fun hg => (and_r hg)) ?_
    refine SeqN.go ?_
    refine Br.mk (fun ht => ?_) (fun ht => ?_)
    · replace h := cond_tt h ht
      refine SeqN.go ?_
      refine bind_elim h fun x4 hx4 h => ?_
      have qx4 := (slc_some hx4).1
      have hx4e := (slc_some hx4).2
      refine And.intro (fun _ => qx4) ?_
      refine NormE.to (AV.str x4) (fun _ => congrArg AV.str hx4e.symm) ?_
      replace h := Option.some.inj h
      refine Exists.intro ⟨(n1, x4), hl1 _ h.symm⟩ (And.intro (Nat.lt_succ_self _) ?_)
      refine Gho.to [⟨0, AV.str x4, none⟩, ⟨1, AV.int .u8 a1, none⟩] [] [] [] ?_ ?_ ?_ rfl rfl ?_
      · exact trivial
      · exact rfl
      · exact rfl
      · exact ⟨rfl, rfl, trivial, rfl, rfl, trivial, trivial⟩
    · replace h := cond_ff h ht
      replace h := Option.some.inj h
      replace h := hr1 _ h.symm
      subst h
      refine Gho.to [⟨0, AV.str s2, none⟩] [] [] [] ?_ ?_ ?_ rfl rfl ?_
      · exact trivial
      · exact rfl
      · exact rfl
      · exact ⟨rfl, rfl, trivial, trivial⟩
  · clear hj1
    refine SeqJ.go ?_
    refine SeqN.go ?_
    replace h := Option.some.inj h
    refine RetE.plain ?_
    exact And.intro rfl (And.intro (congrArg (fun r : Bytes => AV.str r) h) rfl)

theorem strings_makeASCIISet_ok (E : Pm.Env) [LaidE E] (a0 : Bytes) (r : ((List Bool) × Bool)) (h : strings_makeASCIISet a0 = some r) : FnR E Tryd.prog 106 [AV.str a0] (AV.tup [AV.agg ((r.1).map AV.bool), AV.bool (r.2)]) false := by
  refine FnR.of_ev (T := T) (rows := []) tOk mixed Tryd.func106 rfl (by kernel_rfl) (by kernel_rfl) rfl fun hwf => ?_
  unfold strings_makeASCIISet at h
  refine SeqJ.go ?_
  refine And.intro rfl ?_
  refine SeqN.go ?_
  refine SeqJ.go ?_
  refine SeqJ.go ?_
  refine SeqN.go ?_
  refine LoopE.img (fun x : (Int × (List Bool)) => St.of [⟨0, AV.str a0, none⟩, ⟨2, AV.ptr 0 0, none⟩, ⟨4, AV.int .i64 (x.1), none⟩] [.cells 116 ((x.2).map AV.bool) []] []) (strings_makeASCIISet_b1 a0) ((0 : Int), (List.replicate 256 false)) h ?_ ?_
  · refine Gho.to [⟨0, AV.str a0, none⟩, ⟨2, AV.ptr 0 0, none⟩, ⟨4, AV.int .i64 (0 : Int), none⟩] [.cells 116 ((List.replicate 256 false).map AV.bool) []] [] [] ?_ ?_ ?_ rfl rfl ?_
    · exact ⟨⟨rfl, rfl, rfl⟩, trivial⟩
    · exact (and_tt' (noB_map _ (fun _ => rfl) _) rfl)
    · exact rfl
    · exact ⟨rfl, rfl, trivial, rfl, rfl, trivial, rfl, rfl, trivial, trivial⟩
  intro n1 x y1 h hl1 hr1
  obtain ⟨s1, s2⟩ := x
  unfold strings_makeASCIISet_b1 at h
  dsimp only at h
  refine SeqJ.go ?_
  refine SeqJ.go ?_
  refine NormE.same ?_
  refine SeqN.go ?_
  refine Br.mk (fun ht => ?_) (fun ht => ?_)
  · replace h := cond_tt h ht
    refine SeqN.go ?_
    refine SeqJ.go ?_
    refine SeqJ.go ?_
    refine bind_elim h fun x3 hx3 h => ?_
    refine Exists.intro x3 (And.intro (fun hg => idx_some hx3) ?_)
    refine SeqN.go ?_
    refine SeqJ.go ?_
    refine SeqJ.go ?_
    refine SeqN.go ?_
    refine Br.mk (fun ht => ?_) (fun ht => ?_)
    · replace h := cond_tt h ht
      refine SeqJ.go ?_
      refine chk_elim h fun q4 h => ?_
      refine And.intro ⟨Nat.le_of_ble_eq_true rfl, arr_fits _ q4⟩ ?_
      refine NormE.to (AV.agg (s2.map AV.bool)) (fun _ => arr_load _ q4) ?_
      refine chk_elim h fun q5 h => ?_
      refine And.intro ⟨rfl, arr_len _ q5.1, rfl, arr_fits _ q5.2⟩ (Exists.intro (s2.map AV.bool) (And.intro (fun _ => arr_store _ _ q5.1 (by rw [List.length_map]; exact q5.2)) ?_))
      refine SeqN.go ?_
      refine chk_elim h fun hd1 h => ?_
      replace h := Option.some.inj h
      replace h := hr1 _ h.symm
      refine RetE.plain ?_
      refine And.intro ⟨Nat.le_of_ble_eq_true rfl, arr_fits _ hd1⟩ (Exists.intro (AV.agg (s2.map AV.bool)) (And.intro (arr_load _ hd1) ?_))
      exact And.intro (and_tt' (puB_map _ (fun _ => rfl) _) (and_tt' rfl rfl)) (And.intro (congrArg (fun r : ((List Bool) × Bool) => AV.tup [AV.agg ((r.1).map AV.bool), AV.bool (r.2)]) h) rfl)
    · replace h := cond_ff h ht
      refine SeqN.go ?_
      refine chk_elim h fun q6 h => ?_
      refine And.intro (fun _ => q6) ?_
      refine bind_elim h fun x7 hx7 h => ?_
      have qx7 := (seti_some hx7).1
      have hx7e := (seti_some hx7).2
      refine And.intro ⟨rfl, rfl, rfl, seti_len AV.bool qx7 0 rfl⟩ (Exists.intro (x7.map AV.bool) (And.intro (fun hw => seti_map' AV.bool _ qx7 hx7e) ?_))
      refine SeqN.go ?_
      replace h := Option.some.inj h
      refine Exists.intro ⟨(n1, ((IntKind.i64.wrap (s1 + (1 : Int))), x7)), hl1 _ h.symm⟩ (And.intro (Nat.lt_succ_self _) ?_)
      refine Gho.to [⟨0, AV.str a0, none⟩, ⟨2, AV.ptr 0 0, none⟩, ⟨4, AV.int .i64 (IntKind.i64.wrap (s1 + (1 : Int))), none⟩] [.cells 116 (x7.map AV.bool) []] [] [] ?_ ?_ ?_ rfl rfl ?_
      · exact ⟨⟨rfl, rfl, rfl⟩, trivial⟩
      · exact (and_tt' (noB_map _ (fun _ => rfl) _) rfl)
      · exact rfl
      · exact ⟨rfl, rfl, trivial, rfl, rfl, trivial, rfl, rfl, trivial, trivial⟩
  · replace h := cond_ff h ht
    refine SeqN.go ?_
    refine SeqJ.go ?_
    refine chk_elim h fun q8 h => ?_
    refine And.intro ⟨Nat.le_of_ble_eq_true rfl, arr_fits _ q8⟩ ?_
    refine NormE.to (AV.agg (s2.map AV.bool)) (fun _ => arr_load _ q8) ?_
    refine chk_elim h fun q9 h => ?_
    refine And.intro ⟨rfl, arr_len _ q9.1, rfl, arr_fits _ q9.2⟩ (Exists.intro (s2.map AV.bool) (And.intro (fun _ => arr_store _ _ q9.1 (by rw [List.length_map]; exact q9.2)) ?_))
    refine SeqN.go ?_
    refine chk_elim h fun hd1 h => ?_
    replace h := Option.some.inj h
    replace h := hr1 _ h.symm
    refine RetE.plain ?_
    refine And.intro ⟨Nat.le_of_ble_eq_true rfl, arr_fits _ hd1⟩ (Exists.intro (AV.agg (s2.map AV.bool)) (And.intro (arr_load _ hd1) ?_))
    exact And.intro (and_tt' (puB_map _ (fun _ => rfl) _) (and_tt' rfl rfl)) (And.intro (congrArg (fun r : ((List Bool) × Bool) => AV.tup [AV.agg ((r.1).map AV.bool), AV.bool (r.2)]) h) rfl)

theorem strings_asciiSet_contains_ok (E : Pm.Env) [LaidE E] (a0 : (List Bool)) (a1 : Int) (r : Bool) (h : strings_asciiSet_contains a0 a1 = some r) : FnR E Tryd.prog 122 [AV.iptr (a0.map AV.bool), AV.int .u8 a1] (AV.bool r) false := by
  refine FnR.of_ev (T := T) (rows := []) tOk mixed Tryd.func122 rfl (by kernel_rfl) (by kernel_rfl) rfl fun hwf => ?_
  unfold strings_asciiSet_contains at h
  refine SeqJ.go ?_
  refine SeqN.go ?_
  refine SeqJ.go ?_
  refine chk_elim h fun q1 h => ?_
  refine And.intro (fun _ => q1) ?_
  refine bind_elim h fun x2 hx2 h => ?_
  refine optE.mk (c := AV.bool x2) (drop_get _ hx2) ?_
  refine SeqN.go ?_
  replace h := Option.some.inj h
  refine RetE.plain ?_
  exact And.intro rfl (And.intro (congrArg (fun r : Bool => AV.bool r) h) rfl)

theorem strings_trimRightASCII_ok (E : Pm.Env) [LaidE E] (a0 : Bytes) (a1 : (List Bool)) (r : Bytes) (h : strings_trimRightASCII a0 a1 = some r) : FnR E Tryd.prog 108 [AV.str a0, AV.iptr (a1.map AV.bool)] (AV.str r) false := by
  refine FnR.of_ev (T := T) (rows := []) tOk mixed Tryd.func108 rfl (by kernel_rfl) (by kernel_rfl) rfl fun hwf => ?_
  unfold strings_trimRightASCII at h
  refine SeqJ.go ?_
  refine SeqN.go ?_
  refine bind_elim h fun j1 hj1 h => ?_
  refine SeqJ.join (St.of [⟨0, AV.str j1, none⟩] [] []) ?_ ?_
  · clear h; have h := hj1; clear hj1
    refine LoopE.img (fun x : Bytes => St.of [⟨0, AV.str x, none⟩, ⟨1, AV.iptr (a1.map AV.bool), none⟩] [] []) (strings_trimRightASCII_b1 a1) a0 h ?_ ?_
    · refine Gho.to [⟨0, AV.str a0, none⟩, ⟨1, AV.iptr (a1.map AV.bool), none⟩] [] [] [] ?_ ?_ ?_ rfl rfl ?_
      · exact trivial
      · exact rfl
      · exact rfl
      · exact ⟨rfl, rfl, trivial, rfl, rfl, trivial, trivial⟩
    intro n1 x y1 h hl1 hr1
    revert h; revert x; intro s2 h
    unfold strings_trimRightASCII_b1 at h
    refine SeqJ.go ?_
    refine SeqJ.go ?_
    refine NormE.same ?_
    refine SeqN.go ?_
    refine Br.mk (fun ht => ?_) (fun ht => ?_)
    · replace h := cond_tt h ht
      refine SeqN.go ?_
      refine SeqJ.go ?_
      refine SeqJ.go ?_
      refine NormE.same ?_
      refine bind_elim h fun x3 hx3 h => ?_
      refine Exists.intro x3 (And.intro (fun hg => idx_some hx3) ?_)
      refine bind_elim h fun x4 hx4 h => ?_
      refine CallH.data _ false rfl (strings_asciiSet_contains_ok E a1 (x3.toNat : Int) x4 hx4) ?_
      refine SeqN.go ?_
      refine Br.mk (fun ht => ?_) (fun ht => ?_)
      · replace h := cond_tt h ht
        replace h := Option.some.inj h
        replace h := hr1 _ h.symm
        subst h
        refine Gho.to [⟨0, AV.str s2, none⟩] [] [] [] ?_ ?_ ?_ rfl rfl ?_
        · exact trivial
        · exact rfl
        · exact rfl
        · exact ⟨rfl, rfl, trivial, trivial⟩
      · replace h := cond_ff h ht
        refine SeqN.go ?_
        refine NormE.same ?_
        refine bind_elim h fun x5 hx5 h => ?_
        have qx5 := (slc_some hx5).1
        have hx5e := (slc_some hx5).2
        refine And.intro (fun _ => qx5) ?_
        refine NormE.to (AV.str x5) (fun _ => congrArg AV.str hx5e.symm) ?_
        replace h := Option.some.inj h
        refine Exists.intro ⟨(n1, x5), hl1 _ h.symm⟩ (And.intro (Nat.lt_succ_self _) ?_)
        refine Gho.to [⟨0, AV.str x5, none⟩, ⟨1, AV.iptr (a1.map AV.bool), none⟩] [] [] [] ?_ ?_ ?_ rfl rfl ?_
        · exact trivial
        · exact rfl
        · exact rfl
        · exact ⟨rfl, rfl, trivial, rfl, rfl, trivial, trivial⟩
    · replace h := cond_ff h ht
      replace h := Option.some.inj h
      replace h := hr1 _ h.symm
      subst h
      refine Gho.to [⟨0, AV.str s2, none⟩] [] [] [] ?_ ?_ ?_ rfl rfl ?_
      · exact trivial
      · exact rfl
      · exact rfl
      · exact ⟨rfl, rfl, trivial, trivial⟩
  · clear hj1
    refine SeqJ.go ?_
    refine SeqN.go ?_
    replace h := Option.some.inj h
    refine RetE.plain ?_
    exact And.intro rfl (And.intro (congrArg (fun r : Bytes => AV.str r) h) rfl)

theorem strings_trimLeftASCII_ok (E : Pm.Env) [LaidE E] (a0 : Bytes) (a1 : (List Bool)) (r : Bytes) (h : strings_trimLeftASCII a0 a1 = some r) : FnR E Tryd.prog 107 [AV.str a0, AV.iptr (a1.map AV.bool)] (AV.str r) false := by
  refine FnR.of_ev (T := T) (rows := []) tOk mixed Tryd.func107 rfl (by kernel_rfl) (by kernel_rfl) rfl fun hwf => ?_
  unfold strings_trimLeftASCII at h
  refine SeqJ.go ?_
  refine SeqN.go ?_
  refine bind_elim h fun j1 hj1 h => ?_
  refine SeqJ.join (St.of [⟨0, AV.str j1, none⟩] [] []) ?_ ?_
  · clear h; have h := hj1; clear hj1
    refine LoopE.img (fun x : Bytes => St.of [⟨0, AV.str x, none⟩, ⟨1, AV.iptr (a1.map AV.bool), none⟩] [] []) (strings_trimLeftASCII_b1 a1) a0 h ?_ ?_
    · refine Gho.to [⟨0, AV.str a0, none⟩, ⟨1, AV.iptr (a1.map AV.bool), none⟩] [] [] [] ?_ ?_ ?_ rfl rfl ?_
      · exact trivial
      · exact rfl
      · exact rfl
      · exact ⟨rfl, rfl, trivial, rfl, rfl, trivial, trivial⟩
    intro n1 x y1 h hl1 hr1
    revert h; revert x; intro s2 h
    unfold strings_trimLeftASCII_b1 at h
    refine SeqJ.go ?_
    refine SeqJ.go ?_
    refine NormE.same ?_
    refine SeqN.go ?_
    refine Br.mk (fun ht => ?_) (fun ht => ?_)
    · replace h := cond_tt h ht
      refine SeqN.go ?_
      refine SeqJ.go ?_
      refine SeqJ.go ?_
      refine bind_elim h fun x3 hx3 h => ?_
      refine Exists.intro x3 (And.intro (fun hg => idx_some hx3) ?_)
      refine bind_elim h fun x4 hx4 h => ?_
      refine CallH.data _ false rfl (strings_asciiSet_contains_ok E a1 (x3.toNat : Int) x4 hx4) ?_
      refine SeqN.go ?_
      refine Br.mk (fun ht => ?_) (fun ht => ?_)
      · replace h := cond_tt h ht
        replace h := Option.some.inj h
        replace h := hr1 _ h.symm
        subst h
        refine Gho.to [⟨0, AV.str s2, none⟩] [] [] [] ?_ ?_ ?_ rfl rfl ?_
        · exact trivial
        · exact rfl
        · exact rfl
        · exact ⟨rfl, rfl, trivial, trivial⟩
      · replace h := cond_ff h ht
        refine SeqN.go ?_
        refine bind_elim h fun x5 hx5 h => ?_
        have qx5 := (slc_some hx5).1
        have hx5e := (slc_some hx5).2
        refine And.intro (fun _ => qx5) ?_
        refine NormE.to (AV.str x5) (fun _ => congrArg AV.str hx5e.symm) ?_
        replace h := Option.some.inj h
        refine Exists.intro ⟨(n1, x5), hl1 _ h.symm⟩ (And.intro (Nat.lt_succ_self _) ?_)
        refine Gho.to [⟨0, AV.str x5, none⟩, ⟨1, AV.iptr (a1.map AV.bool), none⟩] [] [] [] ?_ ?_ ?_ rfl rfl ?_
        · exact trivial
        · exact rfl
        · exact rfl
        · exact ⟨rfl, rfl, trivial, rfl, rfl, trivial, trivial⟩
    · replace h := cond_ff h ht
      replace h := Option.some.inj h
      replace h := hr1 _ h.symm
      subst h
      refine Gho.to [⟨0, AV.str s2, none⟩] [] [] [] ?_ ?_ ?_ rfl rfl ?_
      · exact trivial
      · exact rfl
      · exact rfl
      · exact ⟨rfl, rfl, trivial, trivial⟩
  · clear hj1
    refine SeqJ.go ?_
    refine SeqN.go ?_
    replace h := Option.some.inj h
    refine RetE.plain ?_
    exact And.intro rfl (And.intro (congrArg (fun r : Bytes => AV.str r) h) rfl)

theorem unicode_utf8_RuneStart_ok (E : Pm.Env) [LaidE E] (a0 : Int) (r : Bool) (h : unicode_utf8_RuneStart a0 = some r) : FnR E Tryd.prog 135 [AV.int .u8 a0] (AV.bool r) false := by
  refine FnR.of_ev (T := T) (rows := []) tOk mixed Tryd.func135 rfl (by kernel_rfl) (by kernel_rfl) rfl fun hwf => ?_
  unfold unicode_utf8_RuneStart at h
  refine SeqJ.go ?_
  refine SeqN.go ?_
  refine SeqJ.go ?_
  refine SeqN.go ?_
  replace h := Option.some.inj h
  refine RetE.plain ?_
  exact And.intro rfl (And.intro (congrArg (fun r : Bool => AV.bool r) h) rfl)

theorem unicode_utf8_decodeRuneInStringSlow_ok (E : Pm.Env) [LaidE E] (a0 : Bytes) (r : (Int × Int)) (h : unicode_utf8_decodeRuneInStringSlow a0 = some r) : FnR E Tryd.prog 130 [AV.str a0] (AV.tup [AV.int .i32 (r.1), AV.int .i64 (r.2)]) false := by
  refine FnR.of_ev (T := T) (rows := []) tOk mixed Tryd.func130 rfl (by kernel_rfl) (by kernel_rfl) rfl fun hwf => ?_
  unfold unicode_utf8_decodeRuneInStringSlow at h
  refine SeqJ.go ?_
  refine SeqN.go ?_
  refine SeqJ.go ?_
  refine NormE.same ?_
  refine SeqN.go ?_
  refine SeqJ.go ?_
  refine SeqJ.go ?_
  refine SeqN.go ?_
  refine Br.mk (fun ht => ?_) (fun ht => ?_)
  · replace h := cond_tt h ht
    refine SeqJ.go ?_
    refine SeqN.go ?_
    replace h := Option.some.inj h
    refine RetE.plain ?_
    exact And.intro rfl (And.intro (congrArg (fun r : (Int × Int) => AV.tup [AV.int .i32 (r.1), AV.int .i64 (r.2)]) h) rfl)
  · replace h := cond_ff h ht
    refine SeqN.go ?_
    refine SeqJ.go ?_
    refine bind_elim h fun x1 hx1 h => ?_
    refine Exists.intro x1 (And.intro (fun hg => idx_some hx1) ?_)
    refine SeqN.go ?_
    refine SeqJ.go ?_
    cases h

theorem unicode_utf8_DecodeRuneInString_ok (E : Pm.Env) [LaidE E] (a0 : Bytes) (r : (Int × Int)) (h : unicode_utf8_DecodeRuneInString a0 = some r) : FnR E Tryd.prog 118 [AV.str a0] (AV.tup [AV.int .i32 (r.1), AV.int .i64 (r.2)]) false := by
  refine FnR.of_ev (T := T) (rows := []) tOk mixed Tryd.func118 rfl (by kernel_rfl) (by kernel_rfl) rfl fun hwf => ?_
  unfold unicode_utf8_DecodeRuneInString at h
  refine SeqJ.go ?_
  refine SeqN.go ?_
  refine SeqJ.go ?_
  refine SeqJ.go ?_
  refine bind_elim h fun x1 hx1 h => ?_
  refine And.intro (fun hg => hg) ?_
  refine Exists.intro x1 (And.intro (fun hg => gidx_some hx1 hg) ?_)
  refine And.intro (fun hg => hg) ?_
  refine And.intro (fun hg => (and_r hg)) ?_
  refine SeqN.go ?_
  refine Br.mk (fun ht => ?_) (fun ht => ?_)
  · replace h := cond_tt h ht
    refine SeqJ.go ?_
    refine bind_elim h fun x2 hx2 h => ?_
    refine Exists.intro x2 (And.intro (fun hg => idx_some hx2) ?_)
    refine SeqN.go ?_
    replace h := Option.some.inj h
    refine RetE.plain ?_
    exact And.intro rfl (And.intro (congrArg (fun r : (Int × Int) => AV.tup [AV.int .i32 (r.1), AV.int .i64 (r.2)]) h) rfl)
  · replace h := cond_ff h ht
    refine bind_elim h fun x3 hx3 h => ?_
    refine CallH.data _ false rfl (unicode_utf8_decodeRuneInStringSlow_ok E a0 x3 hx3) ?_
    refine SeqN.via (St.of [⟨2, AV.int .i32 (x3.1), none⟩, ⟨3, AV.int .i64 (x3.2), none⟩] [] []) ?_ ?_
    · refine Gho.to [⟨2, AV.int .i32 (x3.1), none⟩, ⟨3, AV.int .i64 (x3.2), none⟩] [] [] [] ?_ ?_ ?_ rfl rfl ?_
      · exact trivial
      · exact rfl
      · exact rfl
      · exact ⟨rfl, rfl, trivial, rfl, rfl, trivial, trivial⟩
    replace h := Option.some.inj h
    refine RetE.plain ?_
    exact And.intro rfl (And.intro (congrArg (fun r : (Int × Int) => AV.tup [AV.int .i32 (r.1), AV.int .i64 (r.2)]) h) rfl)

theorem unicode_utf8_DecodeLastRuneInString_ok (E : Pm.Env) [LaidE E] (a0 : Bytes) (r : (Int × Int)) (h : unicode_utf8_DecodeLastRuneInString a0 = some r) : FnR E Tryd.prog 124 [AV.str a0] (AV.tup [AV.int .i32 (r.1), AV.int .i64 (r.2)]) false := by
  refine FnR.of_ev (T := T) (rows := []) tOk mixed Tryd.func124 rfl (by kernel_rfl) (by kernel_rfl) rfl fun hwf => ?_
  unfold unicode_utf8_DecodeLastRuneInString at h
  refine SeqJ.go ?_
  refine SeqN.go ?_
  refine SeqJ.go ?_
  refine NormE.same ?_
  refine SeqN.go ?_
  refine SeqJ.go ?_
  refine SeqJ.go ?_
  refine SeqN.go ?_
  refine Br.mk (fun ht => ?_) (fun ht => ?_)
  · replace h := cond_tt h ht
    refine SeqJ.go ?_
    refine SeqN.go ?_
    replace h := Option.some.inj h
    refine RetE.plain ?_
    exact And.intro rfl (And.intro (congrArg (fun r : (Int × Int) => AV.tup [AV.int .i32 (r.1), AV.int .i64 (r.2)]) h) rfl)
  · replace h := cond_ff h ht
    refine SeqN.go ?_
    refine SeqJ.go ?_
    refine SeqN.go ?_
    refine SeqJ.go ?_
    refine bind_elim h fun x1 hx1 h => ?_
    refine Exists.intro x1 (And.intro (fun hg => idx_some hx1) ?_)
    refine SeqN.go ?_
    refine SeqJ.go ?_
    refine SeqJ.go ?_
    refine SeqN.via (St.of [⟨0, AV.str a0, none⟩, ⟨2, AV.int .i32 (IntKind.i32.wrap (x1.toNat : Int)), none⟩, ⟨4, AV.int .i64 (a0.length : Int), none⟩, ⟨5, AV.int .i64 (IntKind.i64.wrap ((a0.length : Int) - (1 : Int))), none⟩, ⟨18, AV.bool (decide ((IntKind.i32.wrap (x1.toNat : Int)) < (128 : Int))), none⟩] [] []) ?_ ?_
    · refine Gho.to [⟨0, AV.str a0, none⟩, ⟨2, AV.int .i32 (IntKind.i32.wrap (x1.toNat : Int)), none⟩, ⟨4, AV.int .i64 (a0.length : Int), none⟩, ⟨5, AV.int .i64 (IntKind.i64.wrap ((a0.length : Int) - (1 : Int))), none⟩, ⟨18, AV.bool (decide ((IntKind.i32.wrap (x1.toNat : Int)) < (128 : Int))), none⟩] [] [] [] ?_ ?_ ?_ rfl rfl ?_
      · exact trivial
      · exact rfl
      · exact rfl
      · exact ⟨rfl, rfl, trivial, rfl, rfl, trivial, rfl, rfl, trivial, rfl, rfl, trivial, rfl, rfl, trivial, trivial⟩
    refine Br.mk (fun ht => ?_) (fun ht => ?_)
    · replace h := cond_tt h ht
      refine SeqJ.go ?_
      refine SeqN.go ?_
      replace h := Option.some.inj h
      refine RetE.plain ?_
      exact And.intro rfl (And.intro (congrArg (fun r : (Int × Int) => AV.tup [AV.int .i32 (r.1), AV.int .i64 (r.2)]) h) rfl)
    · replace h := cond_ff h ht
      refine SeqN.go ?_
      refine SeqJ.go ?_
      refine And.intro rfl ?_
      refine SeqN.go ?_
      refine bind_elim h fun j2 hj2 h => ?_
      refine SeqJ.join (St.of [⟨0, AV.str a0, none⟩, ⟨4, AV.int .i64 (a0.length : Int), none⟩, ⟨5, AV.int .i64 j2, none⟩] [] []) ?_ ?_
      · clear h; have h := hj2; clear hj2
        refine SeqJ.go ?_
        refine SeqN.go ?_
        refine LoopE.img (fun x : Int => St.of [⟨0, AV.str a0, none⟩, ⟨4, AV.int .i64 (a0.length : Int), none⟩, ⟨5, AV.int .i64 x, none⟩, ⟨6, AV.int .i64 (imax (IntKind.i64.wrap ((a0.length : Int) - (4 : Int))) (0 : Int)), none⟩] [] []) (unicode_utf8_DecodeLastRuneInString_b1 a0) (IntKind.i64.wrap ((IntKind.i64.wrap ((a0.length : Int) - (1 : Int))) - (1 : Int))) h ?_ ?_
        · refine Gho.to [⟨0, AV.str a0, none⟩, ⟨4, AV.int .i64 (a0.length : Int), none⟩, ⟨5, AV.int .i64 (IntKind.i64.wrap ((IntKind.i64.wrap ((a0.length : Int) - (1 : Int))) - (1 : Int))), none⟩, ⟨6, AV.int .i64 (imax (IntKind.i64.wrap ((a0.length : Int) - (4 : Int))) (0 : Int)), none⟩] [] [] [] ?_ ?_ ?_ rfl rfl ?_
          · exact trivial
          · exact rfl
          · exact rfl
          · exact ⟨rfl, rfl, trivial, rfl, rfl, trivial, rfl, rfl, trivial, rfl, rfl, trivial, trivial⟩
        intro n1 x y1 h hl1 hr1
        revert h; revert x; intro s3 h
        unfold unicode_utf8_DecodeLastRuneInString_b1 at h
        refine SeqJ.go ?_
        refine SeqJ.go ?_
        refine SeqN.go ?_
        refine Br.mk (fun ht => ?_) (fun ht => ?_)
        · replace h := cond_tt h ht
          refine SeqN.go ?_
          refine SeqJ.go ?_
          refine SeqJ.go ?_
          refine bind_elim h fun x4 hx4 h => ?_
          refine Exists.intro x4 (And.intro (fun hg => idx_some hx4) ?_)
          refine bind_elim h fun x5 hx5 h => ?_
          refine CallH.data _ false rfl (unicode_utf8_RuneStart_ok E (x4.toNat : Int) x5 hx5) ?_
          refine SeqN.go ?_
          refine Br.mk (fun ht => ?_) (fun ht => ?_)
          · replace h := cond_tt h ht
            replace h := Option.some.inj h
            replace h := hr1 _ h.symm
            subst h
            refine Gho.to [⟨0, AV.str a0, none⟩, ⟨4, AV.int .i64 (a0.length : Int), none⟩, ⟨5, AV.int .i64 s3, none⟩] [] [] [] ?_ ?_ ?_ rfl rfl ?_
            · exact trivial
            · exact rfl
            · exact rfl
            · exact ⟨rfl, rfl, trivial, rfl, rfl, trivial, rfl, rfl, trivial, trivial⟩
          · replace h := cond_ff h ht
            refine SeqN.go ?_
            replace h := Option.some.inj h
            refine Exists.intro ⟨(n1, (IntKind.i64.wrap (s3 - (1 : Int)))), hl1 _ h.symm⟩ (And.intro (Nat.lt_succ_self _) ?_)
            refine Gho.to [⟨0, AV.str a0, none⟩, ⟨4, AV.int .i64 (a0.length : Int), none⟩, ⟨5, AV.int .i64 (IntKind.i64.wrap (s3 - (1 : Int))), none⟩, ⟨6, AV.int .i64 (imax (IntKind.i64.wrap ((a0.length : Int) - (4 : Int))) (0 : Int)), none⟩] [] [] [] ?_ ?_ ?_ rfl rfl ?_
            · exact trivial
            · exact rfl
            · exact rfl
            · exact ⟨rfl, rfl, trivial, rfl, rfl, trivial, rfl, rfl, trivial, rfl, rfl, trivial, trivial⟩
        · replace h := cond_ff h ht
          replace h := Option.some.inj h
          replace h := hr1 _ h.symm
          subst h
          refine Gho.to [⟨0, AV.str a0, none⟩, ⟨4, AV.int .i64 (a0.length : Int), none⟩, ⟨5, AV.int .i64 s3, none⟩] [] [] [] ?_ ?_ ?_ rfl rfl ?_
          · exact trivial
          · exact rfl
          · exact rfl
          · exact ⟨rfl, rfl, trivial, rfl, rfl, trivial, rfl, rfl, trivial, trivial⟩
      · clear hj2
        refine SeqJ.go ?_
        refine SeqJ.go ?_
        refine SeqN.go ?_
        refine Br.mk (fun ht => ?_) (fun ht => ?_)
        · replace h := cond_tt h ht
          refine SeqN.go ?_
          refine SeqJ.go ?_
          refine bind_elim h fun x6 hx6 h => ?_
          have qx6 := (slc_some hx6).1
          have hx6e := (slc_some hx6).2
          refine And.intro (fun _ => qx6) ?_
          refine NormE.to (AV.str x6) (fun _ => congrArg AV.str hx6e.symm) ?_
          refine bind_elim h fun x7 hx7 h => ?_
          refine CallH.data _ false rfl (unicode_utf8_DecodeRuneInString_ok E x6 x7 hx7) ?_
          refine SeqN.go ?_
          refine SeqJ.go ?_
          refine SeqJ.go ?_
          refine SeqN.via (St.of [⟨2, AV.int .i32 (x7.1), none⟩, ⟨3, AV.int .i64 (x7.2), none⟩, ⟨48, AV.bool ((IntKind.i64.wrap ((0 : Int) + x7.2)) != (a0.length : Int)), none⟩] [] []) ?_ ?_
          · refine Gho.to [⟨2, AV.int .i32 (x7.1), none⟩, ⟨3, AV.int .i64 (x7.2), none⟩, ⟨48, AV.bool ((IntKind.i64.wrap ((0 : Int) + x7.2)) != (a0.length : Int)), none⟩] [] [] [] ?_ ?_ ?_ rfl rfl ?_
            · exact trivial
            · exact rfl
            · exact rfl
            · exact ⟨rfl, rfl, trivial, rfl, rfl, trivial, rfl, rfl, trivial, trivial⟩
          refine Br.mk (fun ht => ?_) (fun ht => ?_)
          · replace h := cond_tt h ht
            refine SeqJ.go ?_
            refine SeqN.go ?_
            replace h := Option.some.inj h
            refine RetE.plain ?_
            exact And.intro rfl (And.intro (congrArg (fun r : (Int × Int) => AV.tup [AV.int .i32 (r.1), AV.int .i64 (r.2)]) h) rfl)
          · replace h := cond_ff h ht
            refine SeqN.go ?_
            refine SeqJ.go ?_
            refine SeqN.go ?_
            replace h := Option.some.inj h
            refine RetE.plain ?_
            exact And.intro rfl (And.intro (congrArg (fun r : (Int × Int) => AV.tup [AV.int .i32 (r.1), AV.int .i64 (r.2)]) h) rfl)
        · replace h := cond_ff h ht
          refine SeqN.go ?_
          refine SeqJ.go ?_
          refine bind_elim h fun x8 hx8 h => ?_
          have qx8 := (slc_some hx8).1
          have hx8e := (slc_some hx8).2
          refine And.intro (fun _ => qx8) ?_
          refine NormE.to (AV.str x8) (fun _ => congrArg AV.str hx8e.symm) ?_
          refine bind_elim h fun x9 hx9 h => ?_
          refine CallH.data _ false rfl (unicode_utf8_DecodeRuneInString_ok E x8 x9 hx9) ?_
          refine SeqN.go ?_
          refine SeqJ.go ?_
          refine SeqJ.go ?_
          refine SeqN.via (St.of [⟨2, AV.int .i32 (x9.1), none⟩, ⟨3, AV.int .i64 (x9.2), none⟩, ⟨48, AV.bool ((IntKind.i64.wrap (j2 + x9.2)) != (a0.length : Int)), none⟩] [] []) ?_ ?_
          · refine Gho.to [⟨2, AV.int .i32 (x9.1), none⟩, ⟨3, AV.int .i64 (x9.2), none⟩, ⟨48, AV.bool ((IntKind.i64.wrap (j2 + x9.2)) != (a0.length : Int)), none⟩] [] [] [] ?_ ?_ ?_ rfl rfl ?_
            · exact trivial
            · exact rfl
            · exact rfl
            · exact ⟨rfl, rfl, trivial, rfl, rfl, trivial, rfl, rfl, trivial, trivial⟩
          refine Br.mk (fun ht => ?_) (fun ht => ?_)
          · replace h := cond_tt h ht
            refine SeqJ.go ?_
            refine SeqN.go ?_
            replace h := Option.some.inj h
            refine RetE.plain ?_
            exact And.intro rfl (And.intro (congrArg (fun r : (Int × Int) => AV.tup [AV.int .i32 (r.1), AV.int .i64 (r.2)]) h) rfl)
          · replace h := cond_ff h ht
            refine SeqN.go ?_
            refine SeqJ.go ?_
            refine SeqN.go ?_
            replace h := Option.some.inj h
            refine RetE.plain ?_
            exact And.intro rfl (And.intro (congrArg (fun r : (Int × Int) => AV.tup [AV.int .i32 (r.1), AV.int .i64 (r.2)]) h) rfl)

theorem unicode_utf8_ValidRune_ok (E : Pm.Env) [LaidE E] (a0 : Int) (r : Bool) (h : unicode_utf8_ValidRune a0 = some r) : FnR E Tryd.prog 139 [AV.int .i32 a0] (AV.bool r) false := by
  refine FnR.of_ev (T := T) (rows := []) tOk mixed Tryd.func139 rfl (by kernel_rfl) (by kernel_rfl) rfl fun hwf => ?_
  unfold unicode_utf8_ValidRune at h
  refine SeqJ.go ?_
  refine SeqN.go ?_
  refine SeqJ.go ?_
  refine SeqJ.go ?_
  refine And.intro (fun hg => hg) ?_
  refine And.intro (fun hg => (and_r hg)) ?_
  refine SeqN.go ?_
  refine Br.mk (fun ht => ?_) (fun ht => ?_)
  · replace h := cond_tt h ht
    refine SeqJ.go ?_
    refine SeqN.go ?_
    replace h := Option.some.inj h
    refine RetE.plain ?_
    exact And.intro rfl (And.intro (congrArg (fun r : Bool => AV.bool r) h) rfl)
  · replace h := cond_ff h ht
    refine SeqJ.go ?_
    refine And.intro (fun hg => hg) ?_
    refine And.intro (fun hg => (and_r hg)) ?_
    refine SeqN.go ?_
    refine Br.mk (fun ht => ?_) (fun ht => ?_)
    · replace h := cond_tt h ht
      refine SeqJ.go ?_
      refine SeqN.via (St.of [⟨2, AV.bool true, none⟩] [] []) ?_ ?_
      · refine Gho.to [⟨2, AV.bool true, none⟩] [] [] [] ?_ ?_ ?_ rfl rfl ?_
        · exact trivial
        · exact rfl
        · exact rfl
        · exact ⟨rfl, rfl, trivial, trivial⟩
      replace h := Option.some.inj h
      refine RetE.plain ?_
      exact And.intro rfl (And.intro (congrArg (fun r : Bool => AV.bool r) h) rfl)
    · replace h := cond_ff h ht
      refine SeqN.go ?_
      refine SeqJ.go ?_
      refine SeqN.via (St.of [⟨2, AV.bool false, none⟩] [] []) ?_ ?_
      · refine Gho.to [⟨2, AV.bool false, none⟩] [] [] [] ?_ ?_ ?_ rfl rfl ?_
        · exact trivial
        · exact rfl
        · exact rfl
        · exact ⟨rfl, rfl, trivial, trivial⟩
      replace h := Option.some.inj h
      refine RetE.plain ?_
      exact And.intro rfl (And.intro (congrArg (fun r : Bool => AV.bool r) h) rfl)

theorem strings_IndexRune_ok (E : Pm.Env) [LaidE E] (a0 : Bytes) (a1 : Int) (r : Int) (h : strings_IndexRune a0 a1 = some r) : FnR E Tryd.prog 134 [AV.str a0, AV.int .i32 a1] (AV.int .i64 r) false := by
  refine FnR.of_ev (T := T) (rows := []) tOk mixed Tryd.func134 rfl (by kernel_rfl) (by kernel_rfl) rfl fun hwf => ?_
  unfold strings_IndexRune at h
  refine SeqJ.go ?_
  refine SeqN.go ?_
  refine SeqJ.go ?_
  refine And.intro (fun hg => hg) ?_
  refine And.intro (fun hg => (and_r hg)) ?_
  refine SeqN.go ?_
  refine Br.mk (fun ht => ?_) (fun ht => ?_)
  · replace h := cond_tt h ht
    refine SeqJ.go ?_
    refine bind_elim h fun x1 hx1 h => ?_
    refine CallH.data _ false rfl (strings_IndexByte_ok E a0 (IntKind.u8.wrap a1) x1 hx1) ?_
    refine SeqN.go ?_
    replace h := Option.some.inj h
    refine RetE.plain ?_
    exact And.intro rfl (And.intro (congrArg (fun r : Int => AV.int .i64 r) h) rfl)
  · replace h := cond_ff h ht
    refine SeqJ.go ?_
    refine SeqN.go ?_
    refine Br.mk (fun ht => ?_) (fun ht => ?_)
    · replace h := cond_tt h ht
      refine SeqJ.go ?_
      refine SeqJ.go ?_
      cases h
    · replace h := cond_ff h ht
      refine SeqJ.go ?_
      refine bind_elim h fun x2 hx2 h => ?_
      refine CallH.data _ false rfl (unicode_utf8_ValidRune_ok E a1 x2 hx2) ?_
      refine SeqN.go ?_
      refine Br.mk (fun ht => ?_) (fun ht => ?_)
      · replace h := cond_tt h ht
        refine SeqJ.go ?_
        refine SeqN.via (St.of [⟨4, AV.int .i64 (-1 : Int), none⟩] [] []) ?_ ?_
        · refine Gho.to [⟨4, AV.int .i64 (-1 : Int), none⟩] [] [] [] ?_ ?_ ?_ rfl rfl ?_
          · exact trivial
          · exact rfl
          · exact rfl
          · exact ⟨rfl, rfl, trivial, trivial⟩
        replace h := Option.some.inj h
        refine RetE.plain ?_
        exact And.intro rfl (And.intro (congrArg (fun r : Int => AV.int .i64 r) h) rfl)
      · replace h := cond_ff h ht
        cases h

theorem strings_ContainsRune_ok (E : Pm.Env) [LaidE E] (a0 : Bytes) (a1 : Int) (r : Bool) (h : strings_ContainsRune a0 a1 = some r) : FnR E Tryd.prog 123 [AV.str a0, AV.int .i32 a1] (AV.bool r) false := by
  refine FnR.of_ev (T := T) (rows := []) tOk mixed Tryd.func123 rfl (by kernel_rfl) (by kernel_rfl) rfl fun hwf => ?_
  unfold strings_ContainsRune at h
  refine SeqJ.go ?_
  refine SeqN.go ?_
  refine SeqJ.go ?_
  refine bind_elim h fun x1 hx1 h => ?_
  refine CallH.data _ false rfl (strings_IndexRune_ok E a0 a1 x1 hx1) ?_
  refine SeqN.go ?_
  replace h := Option.some.inj h
  refine RetE.plain ?_
  exact And.intro rfl (And.intro (congrArg (fun r : Bool => AV.bool r) h) rfl)

theorem strings_trimRightUnicode_ok (E : Pm.Env) [LaidE E] (a0 : Bytes) (a1 : Bytes) (r : Bytes) (h : strings_trimRightUnicode a0 a1 = some r) : FnR E Tryd.prog 110 [AV.str a0, AV.str a1] (AV.str r) false := by
  refine FnR.of_ev (T := T) (rows := []) tOk mixed Tryd.func110 rfl (by kernel_rfl) (by kernel_rfl) rfl fun hwf => ?_
  unfold strings_trimRightUnicode at h
  refine SeqJ.go ?_
  refine SeqN.go ?_
  refine bind_elim h fun j1 hj1 h => ?_
  refine SeqJ.join (St.of [⟨0, AV.str j1, none⟩] [] []) ?_ ?_
  · clear h; have h := hj1; clear hj1
    refine LoopE.img (fun x : Bytes => St.of [⟨0, AV.str x, none⟩, ⟨1, AV.str a1, none⟩] [] []) (strings_trimRightUnicode_b1 a1) a0 h ?_ ?_
    · refine Gho.to [⟨0, AV.str a0, none⟩, ⟨1, AV.str a1, none⟩] [] [] [] ?_ ?_ ?_ rfl rfl ?_
      · exact trivial
      · exact rfl
      · exact rfl
      · exact ⟨rfl, rfl, trivial, rfl, rfl, trivial, trivial⟩
    intro n1 x y1 h hl1 hr1
    revert h; revert x; intro s2 h
    unfold strings_trimRightUnicode_b1 at h
    refine SeqJ.go ?_
    refine SeqJ.go ?_
    refine NormE.same ?_
    refine SeqN.go ?_
    refine Br.mk (fun ht => ?_) (fun ht => ?_)
    · replace h := cond_tt h ht
      refine SeqN.go ?_
      refine SeqJ.go ?_
      refine NormE.same ?_
      refine bind_elim h fun x3 hx3 h => ?_
      refine Exists.intro x3 (And.intro (fun hg => idx_some hx3) ?_)
      refine SeqN.go ?_
      refine SeqJ.go ?_
      refine SeqJ.go ?_
      refine SeqN.go ?_
      refine Br.mk (fun ht => ?_) (fun ht => ?_)
      · replace h := cond_tt h ht
        refine bind_elim h fun x4 hx4 h => ?_
        refine CallH.data _ false rfl (unicode_utf8_DecodeLastRuneInString_ok E s2 x4 hx4) ?_
        refine SeqN.via (St.of [⟨0, AV.str s2, none⟩, ⟨1, AV.str a1, none⟩, ⟨5, AV.int .i32 (x4.1), none⟩, ⟨6, AV.int .i64 (x4.2), none⟩] [] []) ?_ ?_
        · refine Gho.to [⟨0, AV.str s2, none⟩, ⟨1, AV.str a1, none⟩, ⟨5, AV.int .i32 (x4.1), none⟩, ⟨6, AV.int .i64 (x4.2), none⟩] [] [] [] ?_ ?_ ?_ rfl rfl ?_
          · exact trivial
          · exact rfl
          · exact rfl
          · exact ⟨rfl, rfl, trivial, rfl, rfl, trivial, rfl, rfl, trivial, rfl, rfl, trivial, trivial⟩
        refine SeqJ.go ?_
        refine SeqJ.go ?_
        refine bind_elim h fun x5 hx5 h => ?_
        refine CallH.data _ false rfl (strings_ContainsRune_ok E a1 (x4.1) x5 hx5) ?_
        refine SeqN.go ?_
        refine Br.mk (fun ht => ?_) (fun ht => ?_)
        · replace h := cond_tt h ht
          replace h := Option.some.inj h
          replace h := hr1 _ h.symm
          subst h
          refine Gho.to [⟨0, AV.str s2, none⟩] [] [] [] ?_ ?_ ?_ rfl rfl ?_
          · exact trivial
          · exact rfl
          · exact rfl
          · exact ⟨rfl, rfl, trivial, trivial⟩
        · replace h := cond_ff h ht
          refine SeqN.go ?_
          refine NormE.same ?_
          refine bind_elim h fun x6 hx6 h => ?_
          have qx6 := (slc_some hx6).1
          have hx6e := (slc_some hx6).2
          refine And.intro (fun _ => qx6) ?_
          refine NormE.to (AV.str x6) (fun _ => congrArg AV.str hx6e.symm) ?_
          replace h := Option.some.inj h
          refine Exists.intro ⟨(n1, x6), hl1 _ h.symm⟩ (And.intro (Nat.lt_succ_self _) ?_)
          refine Gho.to [⟨0, AV.str x6, none⟩, ⟨1, AV.str a1, none⟩] [] [] [] ?_ ?_ ?_ rfl rfl ?_
          · exact trivial
          · exact rfl
          · exact rfl
          · exact ⟨rfl, rfl, trivial, rfl, rfl, trivial, trivial⟩
      · replace h := cond_ff h ht
        refine SeqN.go ?_
        refine SeqJ.go ?_
        refine SeqJ.go ?_
        refine bind_elim h fun x7 hx7 h => ?_
        refine CallH.data _ false rfl (strings_ContainsRune_ok E a1 (IntKind.i32.wrap (x3.toNat : Int)) x7 hx7) ?_
        refine SeqN.via (St.of [⟨0, AV.str s2, none⟩, ⟨1, AV.str a1, none⟩, ⟨6, AV.int .i64 (1 : Int), none⟩, ⟨26, AV.bool (!x7), none⟩] [] []) ?_ ?_
        · refine Gho.to [⟨0, AV.str s2, none⟩, ⟨1, AV.str a1, none⟩, ⟨6, AV.int .i64 (1 : Int), none⟩, ⟨26, AV.bool (!x7), none⟩] [] [] [] ?_ ?_ ?_ rfl rfl ?_
          · exact trivial
          · exact rfl
          · exact rfl
          · exact ⟨rfl, rfl, trivial, rfl, rfl, trivial, rfl, rfl, trivial, rfl, rfl, trivial, trivial⟩
        refine Br.mk (fun ht => ?_) (fun ht => ?_)
        · replace h := cond_tt h ht
          replace h := Option.some.inj h
          replace h := hr1 _ h.symm
          subst h
          refine Gho.to [⟨0, AV.str s2, none⟩] [] [] [] ?_ ?_ ?_ rfl rfl ?_
          · exact trivial
          · exact rfl
          · exact rfl
          · exact ⟨rfl, rfl, trivial, trivial⟩
        · replace h := cond_ff h ht
          refine SeqN.go ?_
          refine NormE.same ?_
          refine bind_elim h fun x8 hx8 h => ?_
          have qx8 := (slc_some hx8).1
          have hx8e := (slc_some hx8).2
          refine And.intro (fun _ => qx8) ?_
          refine NormE.to (AV.str x8) (fun _ => congrArg AV.str hx8e.symm) ?_
          replace h := Option.some.inj h
          refine Exists.intro ⟨(n1, x8), hl1 _ h.symm⟩ (And.intro (Nat.lt_succ_self _) ?_)
          refine Gho.to [⟨0, AV.str x8, none⟩, ⟨1, AV.str a1, none⟩] [] [] [] ?_ ?_ ?_ rfl rfl ?_
          · exact trivial
          · exact rfl
          · exact rfl
          · exact ⟨rfl, rfl, trivial, rfl, rfl, trivial, trivial⟩
    · replace h := cond_ff h ht
      replace h := Option.some.inj h
      replace h := hr1 _ h.symm
      subst h
      refine Gho.to [⟨0, AV.str s2, none⟩] [] [] [] ?_ ?_ ?_ rfl rfl ?_
      · exact trivial
      · exact rfl
      · exact rfl
      · exact ⟨rfl, rfl, trivial, trivial⟩
  · clear hj1
    refine SeqJ.go ?_
    refine SeqN.go ?_
    replace h := Option.some.inj h
    refine RetE.plain ?_
    exact And.intro rfl (And.intro (congrArg (fun r : Bytes => AV.str r) h) rfl)

theorem strings_trimLeftUnicode_ok (E : Pm.Env) [LaidE E] (a0 : Bytes) (a1 : Bytes) (r : Bytes) (h : strings_trimLeftUnicode a0 a1 = some r) : FnR E Tryd.prog 109 [AV.str a0, AV.str a1] (AV.str r) false := by
  refine FnR.of_ev (T := T) (rows := []) tOk mixed Tryd.func109 rfl (by kernel_rfl) (by kernel_rfl) rfl fun hwf => ?_
  unfold strings_trimLeftUnicode at h
  refine SeqJ.go ?_
  refine SeqN.go ?_
  refine bind_elim h fun j1 hj1 h => ?_
  refine SeqJ.join (St.of [⟨0, AV.str j1, none⟩] [] []) ?_ ?_
  · clear h; have h := hj1; clear hj1
    refine LoopE.img (fun x : Bytes => St.of [⟨0, AV.str x, none⟩, ⟨1, AV.str a1, none⟩] [] []) (strings_trimLeftUnicode_b1 a1) a0 h ?_ ?_
    · refine Gho.to [⟨0, AV.str a0, none⟩, ⟨1, AV.str a1, none⟩] [] [] [] ?_ ?_ ?_ rfl rfl ?_
      · exact trivial
      · exact rfl
      · exact rfl
      · exact ⟨rfl, rfl, trivial, rfl, rfl, trivial, trivial⟩
    intro n1 x y1 h hl1 hr1
    revert h; revert x; intro s2 h
    unfold strings_trimLeftUnicode_b1 at h
    refine SeqJ.go ?_
    refine SeqJ.go ?_
    refine NormE.same ?_
    refine SeqN.go ?_
    refine Br.mk (fun ht => ?_) (fun ht => ?_)
    · replace h := cond_tt h ht
      refine SeqN.go ?_
      refine SeqJ.go ?_
      refine bind_elim h fun x3 hx3 h => ?_
      refine CallH.data _ false rfl (unicode_utf8_DecodeRuneInString_ok E s2 x3 hx3) ?_
      refine SeqN.go ?_
      refine SeqJ.go ?_
      refine SeqJ.go ?_
      refine bind_elim h fun x4 hx4 h => ?_
      refine CallH.data _ false rfl (strings_ContainsRune_ok E a1 (x3.1) x4 hx4) ?_
      refine SeqN.go ?_
      refine Br.mk (fun ht => ?_) (fun ht => ?_)
      · replace h := cond_tt h ht
        replace h := Option.some.inj h
        replace h := hr1 _ h.symm
        subst h
        refine Gho.to [⟨0, AV.str s2, none⟩] [] [] [] ?_ ?_ ?_ rfl rfl ?_
        · exact trivial
        · exact rfl
        · exact rfl
        · exact ⟨rfl, rfl, trivial, trivial⟩
      · replace h := cond_ff h ht
        refine SeqN.go ?_
        refine bind_elim h fun x5 hx5 h => ?_
        have qx5 := (slc_some hx5).1
        have hx5e := (slc_some hx5).2
        refine And.intro (fun _ => qx5) ?_
        refine NormE.to (AV.str x5) (fun _ => congrArg AV.str hx5e.symm) ?_
        replace h := Option.some.inj h
        refine Exists.intro ⟨(n1, x5), hl1 _ h.symm⟩ (And.intro (Nat.lt_succ_self _) ?_)
        refine Gho.to [⟨0, AV.str x5, none⟩, ⟨1, AV.str a1, none⟩] [] [] [] ?_ ?_ ?_ rfl rfl ?_
        · exact trivial
        · exact rfl
        · exact rfl
        · exact ⟨rfl, rfl, trivial, rfl, rfl, trivial, trivial⟩
    · replace h := cond_ff h ht
      replace h := Option.some.inj h
      replace h := hr1 _ h.symm
      subst h
      refine Gho.to [⟨0, AV.str s2, none⟩] [] [] [] ?_ ?_ ?_ rfl rfl ?_
      · exact trivial
      · exact rfl
      · exact rfl
      · exact ⟨rfl, rfl, trivial, trivial⟩
  · clear hj1
    refine SeqJ.go ?_
    refine SeqN.go ?_
    replace h := Option.some.inj h
    refine RetE.plain ?_
    exact And.intro rfl (And.intro (congrArg (fun r : Bytes => AV.str r) h) rfl)

theorem strings_Trim_ok (E : Pm.Env) [LaidE E] (a0 : Bytes) (a1 : Bytes) (r : Bytes) (h : strings_Trim a0 a1 = some r) : FnR E Tryd.prog 89 [AV.str a0, AV.str a1] (AV.str r) false := by
  refine FnR.of_ev (T := T) (rows := []) tOk mixed Tryd.func89 rfl (by kernel_rfl) (by kernel_rfl) rfl fun hwf => ?_
  unfold strings_Trim at h
  refine SeqJ.go ?_
  refine SeqN.go ?_
  refine SeqJ.go ?_
  refine SeqJ.go ?_
  refine And.intro (fun hg => hg) ?_
  refine And.intro (fun hg => (and_r hg)) ?_
  refine SeqN.go ?_
  refine Br.mk (fun ht => ?_) (fun ht => ?_)
  · replace h := cond_tt h ht
    refine SeqJ.go ?_
    refine SeqN.go ?_
    replace h := Option.some.inj h
    refine RetE.plain ?_
    exact And.intro rfl (And.intro (congrArg (fun r : Bytes => AV.str r) h) rfl)
  · replace h := cond_ff h ht
    refine SeqN.go ?_
    refine SeqJ.go ?_
    refine SeqJ.go ?_
    refine NormE.same ?_
    refine bind_elim h fun x1 hx1 h => ?_
    refine And.intro (fun hg => hg) ?_
    refine Exists.intro x1 (And.intro (fun hg => gidx_some hx1 hg) ?_)
    refine And.intro (fun hg => hg) ?_
    refine And.intro (fun hg => (and_r hg)) ?_
    refine SeqN.go ?_
    refine Br.mk (fun ht => ?_) (fun ht => ?_)
    · replace h := cond_tt h ht
      refine SeqJ.go ?_
      refine bind_elim h fun x2 hx2 h => ?_
      refine Exists.intro x2 (And.intro (fun hg => idx_some hx2) ?_)
      refine bind_elim h fun x3 hx3 h => ?_
      refine CallH.data _ false rfl (strings_trimRightByte_ok E a0 (x2.toNat : Int) x3 hx3) ?_
      refine bind_elim h fun x4 hx4 h => ?_
      refine Exists.intro x4 (And.intro (fun hg => idx_some hx4) ?_)
      refine bind_elim h fun x5 hx5 h => ?_
      refine CallH.data _ false rfl (strings_trimLeftByte_ok E x3 (x4.toNat : Int) x5 hx5) ?_
      refine And.intro (by kernel_rfl) ?_
      refine SeqN.via (St.of [⟨4, AV.str x5, none⟩] [] []) ?_ ?_
      · refine Gho.to [⟨4, AV.str x5, none⟩] [] [] [] ?_ ?_ ?_ rfl rfl ?_
        · exact trivial
        · exact rfl
        · exact rfl
        · exact ⟨rfl, rfl, trivial, trivial⟩
      replace h := Option.some.inj h
      refine RetE.plain ?_
      exact And.intro rfl (And.intro (congrArg (fun r : Bytes => AV.str r) h) rfl)
    · replace h := cond_ff h ht
      refine SeqN.go ?_
      refine SeqJ.go ?_
      refine SeqJ.go ?_
      refine bind_elim h fun x6 hx6 h => ?_
      refine CallH.data _ false rfl (strings_makeASCIISet_ok E a1 x6 hx6) ?_
      refine And.intro rfl ?_
      refine chk_elim h fun q7 h => ?_
      refine And.intro ⟨rfl, arr_len _ q7, rfl, arr_room rfl⟩ (Exists.intro ((x6.1).map AV.bool) (And.intro (fun _ => arr_store _ _ q7 rfl) ?_))
      refine SeqN.via (St.of [⟨0, AV.str a0, none⟩, ⟨1, AV.str a1, none⟩, ⟨5, AV.ptr 0 0, none⟩, ⟨6, AV.bool (x6.2), none⟩] [.cells 116 ((x6.1).map AV.bool) []] []) ?_ ?_
      · refine Gho.to [⟨0, AV.str a0, none⟩, ⟨1, AV.str a1, none⟩, ⟨5, AV.ptr 0 0, none⟩, ⟨6, AV.bool (x6.2), none⟩] [.cells 116 ((x6.1).map AV.bool) []] [] [] ?_ ?_ ?_ rfl rfl ?_
        · exact ⟨⟨rfl, rfl, rfl⟩, trivial⟩
        · exact (and_tt' (noB_map _ (fun _ => rfl) _) rfl)
        · exact rfl
        · exact ⟨rfl, rfl, trivial, rfl, rfl, trivial, rfl, rfl, trivial, rfl, rfl, trivial, trivial⟩
      refine SeqJ.go ?_
      refine chk_elim h fun hc1 h => ?_
      refine SeqN.via (St.of [⟨0, AV.str a0, none⟩, ⟨1, AV.str a1, none⟩, ⟨5, AV.iptr ((x6.1).map AV.bool), none⟩, ⟨34, AV.bool (x6.2), none⟩] [] []) ?_ ?_
      · refine Gho.trans (Gho.fz [0] [(5, AV.iptr ((x6.1).map AV.bool))] ⟨Frz.ptr0 rfl (puB_map _ (fun _ => rfl) _) (by rw [List.length_map]; exact hc1), trivial⟩) ?_
        refine Gho.to [⟨0, AV.str a0, none⟩, ⟨1, AV.str a1, none⟩, ⟨5, AV.iptr ((x6.1).map AV.bool), none⟩, ⟨34, AV.bool (x6.2), none⟩] [] [] [] ?_ ?_ ?_ rfl rfl ?_
        · exact trivial
        · exact rfl
        · exact rfl
        · exact ⟨rfl, rfl, trivial, rfl, rfl, trivial, rfl, rfl, trivial, rfl, rfl, trivial, trivial⟩
      refine Br.mk (fun ht => ?_) (fun ht => ?_)
      · replace h := cond_tt h ht
        refine SeqJ.go ?_
        refine bind_elim h fun x8 hx8 h => ?_
        refine CallH.data _ false rfl (strings_trimRightASCII_ok E a0 (x6.1) x8 hx8) ?_
        refine bind_elim h fun x9 hx9 h => ?_
        refine CallH.data _ false rfl (strings_trimLeftASCII_ok E x8 (x6.1) x9 hx9) ?_
        refine SeqN.go ?_
        replace h := Option.some.inj h
        refine RetE.plain ?_
        exact And.intro rfl (And.intro (congrArg (fun r : Bytes => AV.str r) h) rfl)
      · replace h := cond_ff h ht
        refine SeqN.go ?_
        refine SeqJ.go ?_
        refine bind_elim h fun x10 hx10 h => ?_
        refine CallH.data _ false rfl (strings_trimRightUnicode_ok E a0 a1 x10 hx10) ?_
        refine bind_elim h fun x11 hx11 h => ?_
        refine CallH.data _ false rfl (strings_trimLeftUnicode_ok E x10 a1 x11 hx11) ?_
        refine SeqN.go ?_
        replace h := Option.some.inj h
        refine RetE.plain ?_
        exact And.intro rfl (And.intro (congrArg (fun r : Bytes => AV.str r) h) rfl)

theorem text_Trim_ok (E : Pm.Env) [LaidE E] (a0 : Bytes) (r : Bytes) (h : text_Trim a0 = some r) : FnR E Tryd.prog 56 [AV.str a0] (AV.str r) false := by
  refine FnR.of_ev (T := T) (rows := []) tOk mixed Tryd.func56 rfl (by kernel_rfl) (by kernel_rfl) rfl fun hwf => ?_
  unfold text_Trim at h
  refine SeqJ.go ?_
  refine SeqN.go ?_
  refine SeqJ.go ?_
  refine bind_elim h fun x1 hx1 h => ?_
  refine CallH.data _ false rfl (strings_Trim_ok E a0 ([32, 9] : Bytes) x1 hx1) ?_
  refine SeqN.go ?_
  replace h := Option.some.inj h
  refine RetE.plain ?_
  exact And.intro rfl (And.intro (congrArg (fun r : Bytes => AV.str r) h) rfl)

theorem start_Right_1_ok (E : Pm.Env) [LaidE E] (a0 : Int) (r : Bool) (h : start_Right_1 a0 = some r) : FnR E Tryd.prog 55 [AV.int .u8 a0] (AV.bool r) false := by
  refine FnR.of_ev (T := T) (rows := []) tOk mixed Tryd.func55 rfl (by kernel_rfl) (by kernel_rfl) rfl fun hwf => ?_
  unfold start_Right_1 at h
  refine SeqJ.go ?_
  refine SeqN.go ?_
  refine SeqJ.go ?_
  refine And.intro (fun hg => hg) ?_
  refine And.intro (fun hg => (and_r hg)) ?_
  refine And.intro (fun hg => hg) ?_
  refine And.intro (fun hg => (and_r hg)) ?_
  refine SeqN.go ?_
  replace h := Option.some.inj h
  refine RetE.plain ?_
  exact And.intro rfl (And.intro (congrArg (fun r : Bool => AV.bool r) h) rfl)

theorem start_Right_ok (E : Pm.Env) [LaidE E] (a0 : S_Start) (r : Bool) (h : start_Right a0 = some r) : FnR E Tryd.prog 28 [S_Start.av a0] (AV.bool r) false := by
  refine FnR.of_ev (T := T) (rows := []) tOk mixed Tryd.func28 rfl (by kernel_rfl) (by kernel_rfl) rfl fun hwf => ?_
  unfold start_Right at h
  refine SeqJ.go ?_
  refine And.intro rfl ?_
  refine SeqN.go ?_
  refine SeqJ.go ?_
  refine SeqJ.go ?_
  refine And.intro (fun hg => hg) ?_
  refine And.intro (fun hg => hg) ?_
  refine And.intro (fun hg => (and_r hg)) ?_
  refine SeqN.go ?_
  refine Br.mk (fun ht => ?_) (fun ht => ?_)
  · replace h := cond_tt h ht
    refine SeqJ.go ?_
    refine SeqN.go ?_
    replace h := Option.some.inj h
    refine RetE.plain ?_
    exact And.intro rfl (And.intro (congrArg (fun r : Bool => AV.bool r) h) rfl)
  · replace h := cond_ff h ht
    refine SeqN.go ?_
    refine SeqJ.go ?_
    refine SeqJ.go ?_
    refine SeqN.go ?_
    refine Br.mk (fun ht => ?_) (fun ht => ?_)
    · replace h := cond_tt h ht
      refine SeqJ.go ?_
      refine And.intro (fun hg => hg) ?_
      refine bind_elim h fun x1 hx1 h => ?_
      refine And.intro (fun hg => hg) ?_
      refine And.intro rfl ?_
      refine CallF.mk _ false (fun hg => text_Token_ok E (a0.Method) x1 (gcall_some hx1 hg)) (And.intro rfl ?_)
      refine And.intro (fun hg => (and_r hg)) ?_
      refine And.intro (fun hg => hg) ?_
      refine And.intro (fun hg => hg) ?_
      refine NormE.same ?_
      refine And.intro (fun hg => hg) ?_
      refine And.intro (fun hg => (and_r hg)) ?_
      refine And.intro (fun hg => hg) ?_
      refine bind_elim h fun x2 hx2 h => ?_
      refine And.intro (fun hg => hg) ?_
      refine And.intro rfl ?_
      refine CallF.mk _ false (fun hg => start_target_ok E (a0.Target) x2 (gcall_some hx2 hg)) (And.intro rfl ?_)
      refine And.intro (fun hg => (and_r hg)) ?_
      refine SeqN.via (St.of [⟨2, AV.bool (bif (bif (bif (a0.Reason == ([] : Bytes)) then x1 else false) then (decide (((a0.Method).length : Int) ≤ (20 : Int))) else false) then x2 else false), none⟩] [] []) ?_ ?_
      · refine Gho.to [⟨2, AV.bool (bif (bif (bif (a0.Reason == ([] : Bytes)) then x1 else false) then (decide (((a0.Method).length : Int) ≤ (20 : Int))) else false) then x2 else false), none⟩] [] [] [] ?_ ?_ ?_ rfl rfl ?_
        · exact trivial
        · exact rfl
        · exact rfl
        · exact ⟨rfl, rfl, trivial, trivial⟩
      replace h := Option.some.inj h
      refine RetE.plain ?_
      exact And.intro rfl (And.intro (congrArg (fun r : Bool => AV.bool r) h) rfl)
    · replace h := cond_ff h ht
      refine SeqN.go ?_
      refine SeqJ.go ?_
      refine SeqN.go ?_
      refine SeqJ.go ?_
      refine And.intro (fun hg => hg) ?_
      refine And.intro (fun hg => hg) ?_
      refine And.intro (fun hg => (and_r hg)) ?_
      refine And.intro (fun hg => hg) ?_
      refine And.intro (fun hg => hg) ?_
      refine And.intro (fun hg => (and_r hg)) ?_
      refine And.intro (fun hg => hg) ?_
      refine And.intro (fun hg => hg) ?_
      refine And.intro (fun hg => (and_r hg)) ?_
      refine And.intro (fun hg => hg) ?_
      refine And.intro (fun hg => hg) ?_
      refine NormE.same ?_
      refine And.intro (fun hg => hg) ?_
      refine And.intro (fun hg => (and_r hg)) ?_
      refine And.intro (fun hg => hg) ?_
      refine bind_elim h fun x3 hx3 h => ?_
      refine And.intro (fun hg => hg) ?_
      refine And.intro rfl ?_
      refine CallF.mk _ false (fun hg => text_Trim_ok E (a0.Reason) x3 (gcall_some hx3 hg)) (And.intro rfl ?_)
      refine And.intro (fun hg => hg) ?_
      refine And.intro (fun hg => hg) ?_
      refine And.intro (fun hg => hg) ?_
      refine And.intro (fun hg => (and_r hg)) ?_
      refine And.intro (fun hg => hg) ?_
      refine And.intro (fun hg => hg) ?_
      refine And.intro ⟨rfl, rfl⟩ ?_
      refine bind_elim h fun x4 hx4 h => ?_
      refine And.intro (fun hg => hg) ?_
      refine And.intro (fun hg => hg) ?_
      refine And.intro rfl ?_
      refine CallF.mk _ false (fun hg => slices_ContainsFunc__byte_byte_ok E (a0.Reason) 55 [] (fun x0 => start_Right_1 x0) (fun x0 r h => start_Right_1_ok E x0 r h) rfl x4 (gcall_some hx4 hg)) (And.intro rfl ?_)
      refine And.intro (fun hg => hg) ?_
      refine And.intro (fun hg => (and_r hg)) ?_
      refine And.intro (by kernel_rfl) ?_
      refine SeqN.via (St.of [⟨2, AV.bool (bif (bif (bif (bif (bif (bif (decide ((a0.Code) ≥ (100 : Int))) then (decide ((a0.Code) ≤ (599 : Int))) else false) then (a0.Method == ([] : Bytes)) else false) then (a0.Target == ([] : Bytes)) else false) then (decide (((a0.Reason).length : Int) ≤ (100 : Int))) else false) then (x3 == a0.Reason) else false) then (!x4) else false), none⟩] [] []) ?_ ?_
      · refine Gho.to [⟨2, AV.bool (bif (bif (bif (bif (bif (bif (decide ((a0.Code) ≥ (100 : Int))) then (decide ((a0.Code) ≤ (599 : Int))) else false) then (a0.Method == ([] : Bytes)) else false) then (a0.Target == ([] : Bytes)) else false) then (decide (((a0.Reason).length : Int) ≤ (100 : Int))) else false) then (x3 == a0.Reason) else false) then (!x4) else false), none⟩] [] [] [] ?_ ?_ ?_ rfl rfl ?_
        · exact trivial
        · exact rfl
        · exact rfl
        · exact ⟨rfl, rfl, trivial, trivial⟩
      replace h := Option.some.inj h
      refine RetE.plain ?_
      exact And.intro rfl (And.intro (congrArg (fun r : Bool => AV.bool r) h) rfl)

theorem slices_IndexFunc__api_Field_api_Field_ok (E : Pm.Env) [LaidE E] (a0 : (List S_Field)) (a1 : FuncId) (a1c : List AV) (a1i : S_Field → Option Bool) (a1h : ∀ (x0 : S_Field) (r : Bool), a1i x0 = some r → FnR E Tryd.prog a1 ([S_Field.av x0] ++ a1c) (AV.bool r) false) (a1p : a1c.all AV.puB = true) (r : Int) (h : slices_IndexFunc__api_Field_api_Field a0 a1i = some r) : FnR E Tryd.prog 92 [AV.list 2 (a0.map S_Field.av), AV.fn a1 [] a1c] (AV.int .i64 r) false := by
  refine FnR.of_ev (T := T) (rows := []) tOk mixed Tryd.func92 rfl (by kernel_rfl) (by kernel_rfl) rfl fun hwf => ?_
  unfold slices_IndexFunc__api_Field_api_Field at h
  refine SeqJ.go ?_
  refine SeqN.go ?_
  refine SeqJ.go ?_
  refine SeqJ.go ?_
  refine NormE.to (AV.int .i64 (a0.length : Int)) (fun _ => len_list S_Field.av a0) ?_
  refine SeqN.go ?_
  refine LoopE.img (fun x : Int => St.of [⟨0, AV.list 2 (a0.map S_Field.av), none⟩, ⟨1, AV.fn a1 [] a1c, none⟩, ⟨7, AV.int .i64 (a0.length : Int), none⟩, ⟨8, AV.int .i64 x, none⟩] [] []) (slices_IndexFunc__api_Field_api_Field_b1 a0 a1i) (0 : Int) h ?_ ?_
  · refine Gho.to [⟨0, AV.list 2 (a0.map S_Field.av), none⟩, ⟨1, AV.fn a1 [] a1c, none⟩, ⟨7, AV.int .i64 (a0.length : Int), none⟩, ⟨8, AV.int .i64 (0 : Int), none⟩] [] [] [] ?_ ?_ ?_ rfl rfl ?_
    · exact trivial
    · exact rfl
    · exact rfl
    · exact ⟨rfl, rfl, trivial, rfl, (noB_fn a1p _), trivial, rfl, rfl, trivial, rfl, rfl, trivial, trivial⟩
  intro n1 x y1 h hl1 hr1
  revert h; revert x; intro s1 h
  unfold slices_IndexFunc__api_Field_api_Field_b1 at h
  refine SeqJ.go ?_
  refine SeqN.go ?_
  refine SeqJ.go ?_
  refine Br.mk (fun ht => ?_) (fun ht => ?_)
  · replace h := cond_tt h ht
    refine SeqN.go ?_
    refine SeqJ.go ?_
    refine SeqJ.go ?_
    refine SeqN.go ?_
    refine SeqJ.go ?_
    refine bind_elim h fun x2 hx2 h => ?_
    refine And.intro rfl (Exists.intro (S_Field.av x2) (And.intro (fun hg => idx_map _ hx2) ?_))
    refine And.intro (Nat.le_of_ble_eq_true rfl) ?_
    refine NormE.to (S_Field.av x2) (fun _ => rfl) ?_
    refine bind_elim h fun x3 hx3 h => ?_
    refine CallH.data _ false (puD_app rfl (puD_of a1p)) (a1h x2 x3 hx3) ?_
    refine SeqN.go ?_
    refine Br.mk (fun ht => ?_) (fun ht => ?_)
    · replace h := cond_tt h ht
      refine SeqJ.go ?_
      refine SeqN.go ?_
      replace h := Option.some.inj h
      replace h := hr1 _ h.symm
      refine RetE.plain ?_
      exact And.intro rfl (And.intro (congrArg (fun r : Int => AV.int .i64 r) h) rfl)
    · replace h := cond_ff h ht
      refine SeqN.go ?_
      replace h := Option.some.inj h
      refine Exists.intro ⟨(n1, (IntKind.i64.wrap (s1 + (1 : Int)))), hl1 _ h.symm⟩ (And.intro (Nat.lt_succ_self _) ?_)
      refine Gho.to [⟨0, AV.list 2 (a0.map S_Field.av), none⟩, ⟨1, AV.fn a1 [] a1c, none⟩, ⟨7, AV.int .i64 (a0.length : Int), none⟩, ⟨8, AV.int .i64 (IntKind.i64.wrap (s1 + (1 : Int))), none⟩] [] [] [] ?_ ?_ ?_ rfl rfl ?_
      · exact trivial
      · exact rfl
      · exact rfl
      · exact ⟨rfl, rfl, trivial, rfl, (noB_fn a1p _), trivial, rfl, rfl, trivial, rfl, rfl, trivial, trivial⟩
  · replace h := cond_ff h ht
    refine SeqN.go ?_
    refine SeqJ.go ?_
    refine SeqN.go ?_
    replace h := Option.some.inj h
    replace h := hr1 _ h.symm
    refine RetE.plain ?_
    exact And.intro rfl (And.intro (congrArg (fun r : Int => AV.int .i64 r) h) rfl)

theorem slices_ContainsFunc__api_Field_api_Field_ok (E : Pm.Env) [LaidE E] (a0 : (List S_Field)) (a1 : FuncId) (a1c : List AV) (a1i : S_Field → Option Bool) (a1h : ∀ (x0 : S_Field) (r : Bool), a1i x0 = some r → FnR E Tryd.prog a1 ([S_Field.av x0] ++ a1c) (AV.bool r) false) (a1p : a1c.all AV.puB = true) (r : Bool) (h : slices_ContainsFunc__api_Field_api_Field a0 a1i = some r) : FnR E Tryd.prog 60 [AV.list 2 (a0.map S_Field.av), AV.fn a1 [] a1c] (AV.bool r) false := by
  refine FnR.of_ev (T := T) (rows := []) tOk mixed Tryd.func60 rfl (by kernel_rfl) (by kernel_rfl) rfl fun hwf => ?_
  unfold slices_ContainsFunc__api_Field_api_Field at h
  refine SeqJ.go ?_
  refine SeqN.go ?_
  refine SeqJ.go ?_
  refine bind_elim h fun x1 hx1 h => ?_
  refine CallH.data _ false (and_tt' rfl (and_tt' (puD_fn a1p) rfl)) (slices_IndexFunc__api_Field_api_Field_ok E a0 a1 a1c (a1i) a1h a1p x1 hx1) ?_
  refine SeqN.go ?_
  replace h := Option.some.inj h
  refine RetE.plain ?_
  exact And.intro rfl (And.intro (congrArg (fun r : Bool => AV.bool r) h) rfl)

theorem table_may_1_ok (E : Pm.Env) [LaidE E] (a0 : Int) (r : Bool) (h : table_may_1 a0 = some r) : FnR E Tryd.prog 93 [AV.int .u8 a0] (AV.bool r) false := by
  refine FnR.of_ev (T := T) (rows := []) tOk mixed Tryd.func93 rfl (by kernel_rfl) (by kernel_rfl) rfl fun hwf => ?_
  unfold table_may_1 at h
  refine SeqJ.go ?_
  refine SeqN.go ?_
  refine SeqJ.go ?_
  refine And.intro (fun hg => hg) ?_
  refine And.intro (fun hg => (and_r hg)) ?_
  refine And.intro (fun hg => hg) ?_
  refine And.intro (fun hg => (and_r hg)) ?_
  refine SeqN.go ?_
  replace h := Option.some.inj h
  refine RetE.plain ?_
  exact And.intro rfl (And.intro (congrArg (fun r : Bool => AV.bool r) h) rfl)

theorem table_may_ok (E : Pm.Env) [LaidE E] (a0 : S_Field) (r : Bool) (h : table_may a0 = some r) : FnR E Tryd.prog 62 [S_Field.av a0] (AV.bool r) false := by
  refine FnR.of_ev (T := T) (rows := []) tOk mixed Tryd.func62 rfl (by kernel_rfl) (by kernel_rfl) rfl fun hwf => ?_
  unfold table_may at h
  refine SeqJ.go ?_
  refine And.intro rfl ?_
  refine SeqN.go ?_
  refine SeqJ.go ?_
  refine SeqN.go ?_
  refine SeqJ.go ?_
  refine bind_elim h fun x1 hx1 h => ?_
  refine CallH.data _ false rfl (text_Token_ok E (a0.Name) x1 hx1) ?_
  refine And.intro (fun hg => hg) ?_
  refine bind_elim h fun x2 hx2 h => ?_
  refine And.intro (fun hg => hg) ?_
  refine And.intro rfl ?_
  refine CallF.mk _ false (fun hg => text_Trim_ok E (a0.Value) x2 (gcall_some hx2 hg)) (And.intro rfl ?_)
  refine And.intro (fun hg => hg) ?_
  refine And.intro (fun hg => hg) ?_
  refine And.intro (fun hg => hg) ?_
  refine And.intro (fun hg => (and_r hg)) ?_
  refine And.intro (fun hg => hg) ?_
  refine And.intro (fun hg => hg) ?_
  refine NormE.same ?_
  refine And.intro (fun hg => hg) ?_
  refine And.intro (fun hg => (and_r hg)) ?_
  refine And.intro (fun hg => hg) ?_
  refine And.intro (fun hg => hg) ?_
  refine And.intro ⟨rfl, rfl⟩ ?_
  refine bind_elim h fun x3 hx3 h => ?_
  refine And.intro (fun hg => hg) ?_
  refine And.intro (fun hg => hg) ?_
  refine And.intro rfl ?_
  refine CallF.mk _ false (fun hg => slices_ContainsFunc__byte_byte_ok E (a0.Value) 93 [] (fun x0 => table_may_1 x0) (fun x0 r h => table_may_1_ok E x0 r h) rfl x3 (gcall_some hx3 hg)) (And.intro rfl ?_)
  refine And.intro (fun hg => hg) ?_
  refine And.intro (fun hg => (and_r hg)) ?_
  refine And.intro (by kernel_rfl) ?_
  refine SeqN.via (St.of [⟨2, AV.bool (bif (bif (bif x1 then (x2 == a0.Value) else false) then (decide (((a0.Value).length : Int) ≤ (1000 : Int))) else false) then (!x3) else false), none⟩] [] []) ?_ ?_
  · refine Gho.to [⟨2, AV.bool (bif (bif (bif x1 then (x2 == a0.Value) else false) then (decide (((a0.Value).length : Int) ≤ (1000 : Int))) else false) then (!x3) else false), none⟩] [] [] [] ?_ ?_ ?_ rfl rfl ?_
    · exact trivial
    · exact rfl
    · exact rfl
    · exact ⟨rfl, rfl, trivial, trivial⟩
  replace h := Option.some.inj h
  refine RetE.plain ?_
  exact And.intro rfl (And.intro (congrArg (fun r : Bool => AV.bool r) h) rfl)

theorem table_Right_1_ok (E : Pm.Env) [LaidE E] (a0 : S_Field) (r : Bool) (h : table_Right_1 a0 = some r) : FnR E Tryd.prog 61 [S_Field.av a0] (AV.bool r) false := by
  refine FnR.of_ev (T := T) (rows := []) tOk mixed Tryd.func61 rfl (by kernel_rfl) (by kernel_rfl) rfl fun hwf => ?_
  unfold table_Right_1 at h
  refine SeqJ.go ?_
  refine And.intro rfl ?_
  refine SeqN.go ?_
  refine SeqJ.go ?_
  refine And.intro ⟨Nat.le_of_ble_eq_true rfl, Nat.le_of_ble_eq_true rfl⟩ ?_
  refine NormE.to (S_Field.av a0) (fun _ => rfl) ?_
  refine bind_elim h fun x1 hx1 h => ?_
  refine CallH.data _ false rfl (table_may_ok E a0 x1 hx1) ?_
  refine SeqN.go ?_
  replace h := Option.some.inj h
  refine RetE.plain ?_
  exact And.intro rfl (And.intro (congrArg (fun r : Bool => AV.bool r) h) rfl)

theorem table_Right_ok (E : Pm.Env) [LaidE E] (a0 : (List S_Field)) (r : Bool) (h : table_Right a0 = some r) : FnR E Tryd.prog 35 [AV.list 2 (a0.map S_Field.av)] (AV.bool r) false := by
  refine FnR.of_ev (T := T) (rows := []) tOk mixed Tryd.func35 rfl (by kernel_rfl) (by kernel_rfl) rfl fun hwf => ?_
  unfold table_Right at h
  refine SeqJ.go ?_
  refine SeqN.go ?_
  refine SeqJ.go ?_
  refine NormE.to (AV.int .i64 (a0.length : Int)) (fun _ => len_list S_Field.av a0) ?_
  refine bind_elim h fun x1 hx1 h => ?_
  refine And.intro (fun hg => hg) ?_
  refine And.intro rfl ?_
  refine CallF.mk _ false (fun hg => slices_ContainsFunc__api_Field_api_Field_ok E a0 61 [] (fun x0 => table_Right_1 x0) (fun x0 r h => table_Right_1_ok E x0 r h) rfl x1 (gcall_some hx1 hg)) (And.intro rfl ?_)
  refine And.intro (fun hg => hg) ?_
  refine And.intro (fun hg => (and_r hg)) ?_
  refine SeqN.go ?_
  replace h := Option.some.inj h
  refine RetE.plain ?_
  exact And.intro rfl (And.intro (congrArg (fun r : Bool => AV.bool r) h) rfl)

theorem table_named_ok (E : Pm.Env) [LaidE E] (a0 : Bytes) (r : Bytes) (h : table_named a0 = some r) : FnR E Tryd.prog 72 [AV.str a0] (AV.fn 95 [] [AV.iptr [AV.str r]]) false := by
  refine FnR.of_ev (T := T) (rows := []) tOk mixed Tryd.func72 rfl (by kernel_rfl) (by kernel_rfl) rfl fun hwf => ?_
  unfold table_named at h
  refine SeqJ.go ?_
  refine And.intro rfl ?_
  refine SeqN.via (St.of [⟨1, AV.iptr [AV.str a0], none⟩] [] []) ?_ ?_
  · refine Gho.trans (Gho.fz [0] [(1, AV.iptr [AV.str a0])] ⟨Frz.ptrD rfl rfl (Nat.le_of_ble_eq_true rfl), trivial⟩) ?_
    refine Gho.to [⟨1, AV.iptr [AV.str a0], none⟩] [] [] [] ?_ ?_ ?_ rfl rfl ?_
    · exact trivial
    · exact rfl
    · exact rfl
    · exact ⟨rfl, rfl, trivial, trivial⟩
  refine SeqJ.go ?_
  refine SeqN.go ?_
  replace h := Option.some.inj h
  refine RetE.plain ?_
  exact And.intro rfl (And.intro (congrArg (fun r : Bytes => AV.fn 95 [] [AV.iptr [AV.str r]]) h) rfl)

theorem table_keep_api_Field_ok (E : Pm.Env) [LaidE E] (a0 : (List S_Field)) (a1 : FuncId) (a1c : List AV) (a1i : S_Field → Option Bool) (a1h : ∀ (x0 : S_Field) (r : Bool), a1i x0 = some r → FnR E Tryd.prog a1 ([S_Field.av x0] ++ a1c) (AV.bool r) false) (a1p : a1c.all AV.puB = true) (r : (List S_Field)) (h : table_keep_api_Field a0 a1i = some r) : FnR E Tryd.prog 73 [AV.list 2 (a0.map S_Field.av), AV.fn a1 [] a1c] (AV.list 2 (r.map S_Field.av)) true := by
  refine FnR.of_ev (T := T) (rows := []) tOk mixed Tryd.func73 rfl (by kernel_rfl) (by kernel_rfl) rfl fun hwf => ?_
  unfold table_keep_api_Field at h
  refine SeqJ.go ?_
  refine SeqN.go ?_
  refine SeqJ.go ?_
  refine SeqN.go ?_
  refine bind_elim h fun j1 hj1 h => ?_
  refine SeqJ.join (St.of [⟨5, AV.list 2 (j1.map S_Field.av), some 0⟩] [] [1]) ?_ ?_
  · clear h; have h := hj1; clear hj1
    refine SeqJ.go ?_
    refine NormE.to (AV.int .i64 (a0.length : Int)) (fun _ => len_list S_Field.av a0) ?_
    refine SeqN.go ?_
    refine LoopE.img (fun x : ((List S_Field) × Int) => St.of [⟨1, AV.fn a1 [] a1c, none⟩, ⟨5, AV.list 2 ((x.1).map S_Field.av), some 0⟩, ⟨8, AV.list 2 (a0.map S_Field.av), none⟩, ⟨9, AV.int .i64 (a0.length : Int), none⟩, ⟨10, AV.int .i64 (x.2), none⟩] [] [1]) (table_keep_api_Field_b1 a0 a1i) (([] : List S_Field), (0 : Int)) h ?_ ?_
    · refine Gho.to [⟨1, AV.fn a1 [] a1c, none⟩, ⟨5, AV.list 2 (([] : List S_Field).map S_Field.av), some 0⟩, ⟨8, AV.list 2 (a0.map S_Field.av), none⟩, ⟨9, AV.int .i64 (a0.length : Int), none⟩, ⟨10, AV.int .i64 (0 : Int), none⟩] [] [1] [1] ?_ ?_ ?_ rfl rfl ?_
      · exact trivial
      · exact rfl
      · exact rfl
      · exact ⟨rfl, (noB_fn a1p _), trivial, rfl, rfl, ⟨rfl, rfl⟩, rfl, rfl, trivial, rfl, rfl, trivial, rfl, rfl, trivial, trivial⟩
    intro n1 x y1 h hl1 hr1
    obtain ⟨s2, s3⟩ := x
    unfold table_keep_api_Field_b1 at h
    dsimp only at h
    refine SeqJ.go ?_
    refine SeqN.go ?_
    refine SeqJ.go ?_
    refine Br.mk (fun ht => ?_) (fun ht => ?_)
    · replace h := cond_tt h ht
      refine SeqN.go ?_
      refine SeqJ.go ?_
      refine SeqJ.go ?_
      refine bind_elim h fun x4 hx4 h => ?_
      refine And.intro rfl (Exists.intro (S_Field.av x4) (And.intro (fun hg => idx_map _ hx4) ?_))
      refine And.intro (Nat.le_of_ble_eq_true rfl) ?_
      refine NormE.to (S_Field.av x4) (fun _ => rfl) ?_
      refine And.intro rfl ?_
      refine And.intro ⟨rfl, rfl, rfl, Nat.le_of_ble_eq_true rfl⟩ (Exists.intro (S_Field.cells x4) (And.intro (fun _ => rfl) ?_))
      refine SeqN.go ?_
      refine SeqJ.go ?_
      refine And.intro ⟨Nat.le_of_ble_eq_true rfl, Nat.le_of_ble_eq_true rfl⟩ ?_
      refine NormE.to (S_Field.av x4) (fun _ => rfl) ?_
      refine bind_elim h fun x5 hx5 h => ?_
      refine CallH.data _ false (puD_app rfl (puD_of a1p)) (a1h x4 x5 hx5) ?_
      refine SeqN.go ?_
      refine Br.mk (fun ht => ?_) (fun ht => ?_)
      · replace h := cond_tt h ht
        refine And.intro ⟨Nat.le_of_ble_eq_true rfl, Nat.le_of_ble_eq_true rfl⟩ ?_
        refine NormE.to (S_Field.av x4) (fun _ => rfl) ?_
        refine And.intro ⟨rfl, rfl, rfl, rfl⟩ ?_
        refine And.intro ⟨rfl, rfl, rfl⟩ ?_
        refine NormE.to (AV.list 2 (([x4] : List S_Field).map S_Field.av)) (fun _ => rfl) ?_
        refine bind_elim h fun x6 hx6 h => ?_
        have qx6 := (app_some hx6).1
        have hx6e := (app_some hx6).2
        refine And.intro ⟨rfl, rfl, rfl⟩ ?_
        refine And.intro rfl ?_
        refine And.intro (app_cond S_Field.av qx6) ?_
        refine NormE.to (AV.list 2 (x6.map S_Field.av)) (fun _ => (app_list 2 S_Field.av _ _).trans (congrArg (fun y => AV.list 2 (List.map S_Field.av y)) hx6e.symm)) ?_
        refine SeqN.go ?_
        replace h := Option.some.inj h
        refine Exists.intro ⟨(n1, (x6, (IntKind.i64.wrap (s3 + (1 : Int))))), hl1 _ h.symm⟩ (And.intro (Nat.lt_succ_self _) ?_)
        refine Gho.to [⟨1, AV.fn a1 [] a1c, none⟩, ⟨5, AV.list 2 (x6.map S_Field.av), some 0⟩, ⟨8, AV.list 2 (a0.map S_Field.av), none⟩, ⟨9, AV.int .i64 (a0.length : Int), none⟩, ⟨10, AV.int .i64 (IntKind.i64.wrap (s3 + (1 : Int))), none⟩] [] [1] [2] ?_ ?_ ?_ rfl rfl ?_
        · exact trivial
        · exact rfl
        · exact rfl
        · exact ⟨rfl, (noB_fn a1p _), trivial, rfl, rfl, ⟨rfl, rfl⟩, rfl, rfl, trivial, rfl, rfl, trivial, rfl, rfl, trivial, trivial⟩
      · replace h := cond_ff h ht
        refine SeqN.go ?_
        replace h := Option.some.inj h
        refine Exists.intro ⟨(n1, (s2, (IntKind.i64.wrap (s3 + (1 : Int))))), hl1 _ h.symm⟩ (And.intro (Nat.lt_succ_self _) ?_)
        refine Gho.to [⟨1, AV.fn a1 [] a1c, none⟩, ⟨5, AV.list 2 (s2.map S_Field.av), some 0⟩, ⟨8, AV.list 2 (a0.map S_Field.av), none⟩, ⟨9, AV.int .i64 (a0.length : Int), none⟩, ⟨10, AV.int .i64 (IntKind.i64.wrap (s3 + (1 : Int))), none⟩] [] [1] [0] ?_ ?_ ?_ rfl rfl ?_
        · exact trivial
        · exact rfl
        · exact rfl
        · exact ⟨rfl, (noB_fn a1p _), trivial, rfl, rfl, ⟨rfl, rfl⟩, rfl, rfl, trivial, rfl, rfl, trivial, rfl, rfl, trivial, trivial⟩
    · replace h := cond_ff h ht
      replace h := Option.some.inj h
      replace h := hr1 _ h.symm
      subst h
      refine Gho.to [⟨5, AV.list 2 (s2.map S_Field.av), some 0⟩] [] [1] [0] ?_ ?_ ?_ rfl rfl ?_
      · exact trivial
      · exact rfl
      · exact rfl
      · exact ⟨rfl, rfl, ⟨rfl, rfl⟩, trivial⟩
  · clear hj1
    refine SeqJ.go ?_
    refine SeqN.go ?_
    replace h := Option.some.inj h
    exact RetE.own 4 0 rfl rfl rfl (And.intro (congrArg (fun r : (List S_Field) => AV.list 2 (r.map S_Field.av)) h) rfl)

theorem text_Lower_ok (E : Pm.Env) [LaidE E] (a0 : Bytes) (r : Bytes) (h : text_Lower a0 = some r) : FnR E Tryd.prog 94 [AV.str a0] (AV.str r) false := by
  refine FnR.of_ev (T := T) (rows := [7]) tOk mixed Tryd.func94 rfl (by kernel_rfl) (by kernel_rfl) rfl fun hwf => ?_
  unfold text_Lower at h
  refine SeqJ.go ?_
  refine SeqN.go ?_
  refine SeqJ.go ?_
  refine And.intro ⟨rfl, rfl⟩ ?_
  refine SeqN.go ?_
  refine bind_elim h fun j1 hj1 h => ?_
  refine SeqJ.join (St.of [⟨3, AV.row 0 0 ((a0).length), none⟩] [.cells 5 (j1.map byteAV) []] []) ?_ ?_
  · clear h; have h := hj1; clear hj1
    refine SeqJ.go ?_
    refine NormE.same ?_
    refine SeqN.go ?_
    refine LoopE.img (fun x : (Int × (List UInt8)) => St.of [⟨3, AV.row 0 0 ((a0).length), none⟩, ⟨8, AV.row 0 0 ((a0).length), none⟩, ⟨9, AV.int .i64 (((a0).length : Nat) : Int), none⟩, ⟨10, AV.int .i64 (x.1), none⟩] [.cells 5 ((x.2).map byteAV) []] []) (text_Lower_b1 a0) ((0 : Int), a0) h ?_ ?_
    · refine Gho.to [⟨3, AV.row 0 0 ((a0).length), none⟩, ⟨8, AV.row 0 0 ((a0).length), none⟩, ⟨9, AV.int .i64 (((a0).length : Nat) : Int), none⟩, ⟨10, AV.int .i64 (0 : Int), none⟩] [.cells 5 (a0.map byteAV) []] [] [] ?_ ?_ ?_ rfl rfl ?_
      · exact ⟨⟨rfl, rfl, rfl⟩, trivial⟩
      · exact (and_tt' (noB_map _ (fun _ => rfl) _) rfl)
      · exact rfl
      · exact ⟨rfl, rfl, trivial, rfl, rfl, trivial, rfl, rfl, trivial, rfl, rfl, trivial, trivial⟩
    intro n1 x y1 h hl1 hr1
    obtain ⟨s2, s3⟩ := x
    unfold text_Lower_b1 at h
    dsimp only at h
    refine SeqJ.go ?_
    refine SeqN.go ?_
    refine SeqJ.go ?_
    refine Br.mk (fun ht => ?_) (fun ht => ?_)
    · replace h := cond_tt h ht
      refine SeqN.go ?_
      refine SeqJ.go ?_
      refine SeqJ.go ?_
      refine chk_elim h fun q4 h => ?_
      refine And.intro (fun _ => q4) ?_
      refine bind_elim h fun x5 hx5 h => ?_
      refine optE.mk (c := byteAV x5) (off_get _ hx5) ?_
      refine SeqN.go ?_
      refine SeqJ.go ?_
      refine And.intro (fun hg => hg) ?_
      refine And.intro (fun hg => (and_r hg)) ?_
      refine SeqN.go ?_
      refine Br.mk (fun ht => ?_) (fun ht => ?_)
      · replace h := cond_tt h ht
        refine chk_elim h fun q6 h => ?_
        refine And.intro (fun _ => q6) ?_
        refine bind_elim h fun x7 hx7 h => ?_
        have qx7 := (seti_some hx7).1
        have hx7e := (seti_some hx7).2
        refine And.intro ⟨rfl, rfl, rfl, seti_len byteAV qx7 0 rfl⟩ (Exists.intro (x7.map byteAV) (And.intro (fun hw => seti_u8 hw qx7 hx7e) ?_))
        refine SeqN.via (St.of [⟨3, AV.row 0 0 ((a0).length), none⟩, ⟨8, AV.row 0 0 ((a0).length), none⟩, ⟨9, AV.int .i64 (((a0).length : Nat) : Int), none⟩, ⟨10, AV.int .i64 s2, none⟩] [.cells 5 (x7.map byteAV) []] []) ?_ ?_
        · refine Gho.to [⟨3, AV.row 0 0 ((a0).length), none⟩, ⟨8, AV.row 0 0 ((a0).length), none⟩, ⟨9, AV.int .i64 (((a0).length : Nat) : Int), none⟩, ⟨10, AV.int .i64 s2, none⟩] [.cells 5 (x7.map byteAV) []] [] [] ?_ ?_ ?_ rfl rfl ?_
          · exact ⟨⟨rfl, rfl, rfl⟩, trivial⟩
          · exact (and_tt' (noB_map _ (fun _ => rfl) _) rfl)
          · exact rfl
          · exact ⟨rfl, rfl, trivial, rfl, rfl, trivial, rfl, rfl, trivial, rfl, rfl, trivial, trivial⟩
        replace h := Option.some.inj h
        refine Exists.intro ⟨(n1, ((IntKind.i64.wrap (s2 + (1 : Int))), x7)), hl1 _ h.symm⟩ (And.intro (Nat.lt_succ_self _) ?_)
        refine Gho.to [⟨3, AV.row 0 0 ((a0).length), none⟩, ⟨8, AV.row 0 0 ((a0).length), none⟩, ⟨9, AV.int .i64 (((a0).length : Nat) : Int), none⟩, ⟨10, AV.int .i64 (IntKind.i64.wrap (s2 + (1 : Int))), none⟩] [.cells 5 (x7.map byteAV) []] [] [] ?_ ?_ ?_ rfl rfl ?_
        · exact ⟨⟨rfl, rfl, rfl⟩, trivial⟩
        · exact (and_tt' (noB_map _ (fun _ => rfl) _) rfl)
        · exact rfl
        · exact ⟨rfl, rfl, trivial, rfl, rfl, trivial, rfl, rfl, trivial, rfl, rfl, trivial, trivial⟩
      · replace h := cond_ff h ht
        refine SeqN.go ?_
        replace h := Option.some.inj h
        refine Exists.intro ⟨(n1, ((IntKind.i64.wrap (s2 + (1 : Int))), s3)), hl1 _ h.symm⟩ (And.intro (Nat.lt_succ_self _) ?_)
        refine Gho.to [⟨3, AV.row 0 0 ((a0).length), none⟩, ⟨8, AV.row 0 0 ((a0).length), none⟩, ⟨9, AV.int .i64 (((a0).length : Nat) : Int), none⟩, ⟨10, AV.int .i64 (IntKind.i64.wrap (s2 + (1 : Int))), none⟩] [.cells 5 (s3.map byteAV) []] [] [] ?_ ?_ ?_ rfl rfl ?_
        · exact ⟨⟨rfl, rfl, rfl⟩, trivial⟩
        · exact (and_tt' (noB_map _ (fun _ => rfl) _) rfl)
        · exact rfl
        · exact ⟨rfl, rfl, trivial, rfl, rfl, trivial, rfl, rfl, trivial, rfl, rfl, trivial, trivial⟩
    · replace h := cond_ff h ht
      replace h := Option.some.inj h
      replace h := hr1 _ h.symm
      subst h
      refine Gho.to [⟨3, AV.row 0 0 ((a0).length), none⟩] [.cells 5 (s3.map byteAV) []] [] [] ?_ ?_ ?_ rfl rfl ?_
      · exact ⟨⟨rfl, rfl, rfl⟩, trivial⟩
      · exact (and_tt' (noB_map _ (fun _ => rfl) _) rfl)
      · exact rfl
      · exact ⟨rfl, rfl, trivial, trivial⟩
  · clear hj1
    refine SeqJ.go ?_
    refine chk_elim h fun q8 h => ?_
    refine And.intro rfl (Exists.intro ((j1).take ((a0).length)) (And.intro (row_text q8) ?_))
    refine SeqN.go ?_
    replace h := Option.some.inj h
    refine RetE.plain ?_
    exact And.intro rfl (And.intro (congrArg (fun r : Bytes => AV.str r) h) rfl)

theorem text_Same_ok (E : Pm.Env) [LaidE E] (a0 : Bytes) (a1 : Bytes) (r : Bool) (h : text_Same a0 a1 = some r) : FnR E Tryd.prog 65 [AV.str a0, AV.str a1] (AV.bool r) false := by
  refine FnR.of_ev (T := T) (rows := []) tOk mixed Tryd.func65 rfl (by kernel_rfl) (by kernel_rfl) rfl fun hwf => ?_
  unfold text_Same at h
  refine SeqJ.go ?_
  refine SeqN.go ?_
  refine SeqJ.go ?_
  refine bind_elim h fun x1 hx1 h => ?_
  refine CallH.data _ false rfl (text_Lower_ok E a0 x1 hx1) ?_
  refine bind_elim h fun x2 hx2 h => ?_
  refine CallH.data _ false rfl (text_Lower_ok E a1 x2 hx2) ?_
  refine SeqN.go ?_
  replace h := Option.some.inj h
  refine RetE.plain ?_
  exact And.intro rfl (And.intro (congrArg (fun r : Bool => AV.bool r) h) rfl)

theorem table_named_1_ok (E : Pm.Env) [LaidE E] (a0 : S_Field) (c0 : Bytes) (r : Bool) (h : table_named_1 a0 c0 = some r) : FnR E Tryd.prog 95 [S_Field.av a0, AV.iptr [AV.str c0]] (AV.bool r) false := by
  refine FnR.of_ev (T := T) (rows := []) tOk mixed Tryd.func95 rfl (by kernel_rfl) (by kernel_rfl) rfl fun hwf => ?_
  unfold table_named_1 at h
  refine SeqJ.go ?_
  refine And.intro rfl ?_
  refine SeqN.go ?_
  refine SeqJ.go ?_
  refine bind_elim h fun x1 hx1 h => ?_
  refine CallH.data _ false rfl (text_Same_ok E (a0.Name) c0 x1 hx1) ?_
  refine SeqN.go ?_
  replace h := Option.some.inj h
  refine RetE.plain ?_
  exact And.intro rfl (And.intro (congrArg (fun r : Bool => AV.bool r) h) rfl)

theorem table_All_ok (E : Pm.Env) [LaidE E] (a0 : (List S_Field)) (a1 : Bytes) (r : (List Bytes)) (h : table_All a0 a1 = some r) : FnR E Tryd.prog 63 [AV.list 2 (a0.map S_Field.av), AV.str a1] (AV.list 1 (r.map AV.str)) true := by
  refine FnR.of_ev (T := T) (rows := []) tOk mixed Tryd.func63 rfl (by kernel_rfl) (by kernel_rfl) rfl fun hwf => ?_
  unfold table_All at h
  refine SeqJ.go ?_
  refine SeqN.go ?_
  refine SeqJ.go ?_
  refine SeqN.go ?_
  refine bind_elim h fun j1 hj1 h => ?_
  refine SeqJ.join (St.of [⟨5, AV.list 1 (j1.map AV.str), some 0⟩] [] [1]) ?_ ?_
  · clear h; have h := hj1; clear hj1
    refine SeqJ.go ?_
    refine bind_elim h fun x2 hx2 h => ?_
    refine CallH.data _ false rfl (table_named_ok E a1 x2 hx2) ?_
    refine bind_elim h fun x3 hx3 h => ?_
    refine CallH.data _ true rfl (table_keep_api_Field_ok E a0 95 [AV.iptr [AV.str x2]] (fun x0 => table_named_1 x0 x2) (fun x0 r h => table_named_1_ok E x0 x2 r h) rfl x3 hx3) ?_
    refine NormE.to (AV.int .i64 (x3.length : Int)) (fun _ => len_list S_Field.av x3) ?_
    refine SeqN.go ?_
    refine LoopE.img (fun x : ((List Bytes) × Int) => St.of [⟨5, AV.list 1 ((x.1).map AV.str), some 0⟩, ⟨11, AV.list 2 (x3.map S_Field.av), some 1⟩, ⟨12, AV.int .i64 (x3.length : Int), none⟩, ⟨13, AV.int .i64 (x.2), none⟩] [] [1, 1]) (table_All_b1 x3) (([] : List Bytes), (0 : Int)) h ?_ ?_
    · refine Gho.to [⟨5, AV.list 1 (([] : List Bytes).map AV.str), some 0⟩, ⟨11, AV.list 2 (x3.map S_Field.av), some 1⟩, ⟨12, AV.int .i64 (x3.length : Int), none⟩, ⟨13, AV.int .i64 (0 : Int), none⟩] [] [1, 1] [1, 2] ?_ ?_ ?_ rfl rfl ?_
      · exact trivial
      · exact rfl
      · exact rfl
      · exact ⟨rfl, rfl, ⟨rfl, rfl⟩, rfl, rfl, ⟨rfl, rfl⟩, rfl, rfl, trivial, rfl, rfl, trivial, trivial⟩
    intro n1 x y1 h hl1 hr1
    obtain ⟨s4, s5⟩ := x
    unfold table_All_b1 at h
    dsimp only at h
    refine SeqJ.go ?_
    refine SeqN.go ?_
    refine SeqJ.go ?_
    refine Br.mk (fun ht => ?_) (fun ht => ?_)
    · replace h := cond_tt h ht
      refine SeqN.go ?_
      refine SeqJ.go ?_
      refine SeqJ.go ?_
      refine bind_elim h fun x6 hx6 h => ?_
      refine And.intro rfl (Exists.intro (S_Field.av x6) (And.intro (fun hg => idx_map _ hx6) ?_))
      refine And.intro (Nat.le_of_ble_eq_true rfl) ?_
      refine NormE.to (S_Field.av x6) (fun _ => rfl) ?_
      refine And.intro rfl ?_
      refine And.intro ⟨rfl, rfl, rfl, Nat.le_of_ble_eq_true rfl⟩ (Exists.intro (S_Field.cells x6) (And.intro (fun _ => rfl) ?_))
      refine SeqN.go ?_
      refine And.intro ⟨rfl, rfl, rfl, rfl⟩ ?_
      refine And.intro ⟨rfl, rfl, rfl⟩ ?_
      refine NormE.to (AV.list 1 (([(x6.Value)] : List Bytes).map AV.str)) (fun _ => rfl) ?_
      refine bind_elim h fun x7 hx7 h => ?_
      have qx7 := (app_some hx7).1
      have hx7e := (app_some hx7).2
      refine And.intro ⟨rfl, rfl, rfl⟩ ?_
      refine And.intro rfl ?_
      refine And.intro (app_cond AV.str qx7) ?_
      refine NormE.to (AV.list 1 (x7.map AV.str)) (fun _ => (app_list 1 AV.str _ _).trans (congrArg (fun y => AV.list 1 (List.map AV.str y)) hx7e.symm)) ?_
      refine SeqN.go ?_
      replace h := Option.some.inj h
      refine Exists.intro ⟨(n1, (x7, (IntKind.i64.wrap (s5 + (1 : Int))))), hl1 _ h.symm⟩ (And.intro (Nat.lt_succ_self _) ?_)
      refine Gho.to [⟨5, AV.list 1 (x7.map AV.str), some 0⟩, ⟨11, AV.list 2 (x3.map S_Field.av), some 1⟩, ⟨12, AV.int .i64 (x3.length : Int), none⟩, ⟨13, AV.int .i64 (IntKind.i64.wrap (s5 + (1 : Int))), none⟩] [] [1, 1] [3, 1] ?_ ?_ ?_ rfl rfl ?_
      · exact trivial
      · exact rfl
      · exact rfl
      · exact ⟨rfl, rfl, ⟨rfl, rfl⟩, rfl, rfl, ⟨rfl, rfl⟩, rfl, rfl, trivial, rfl, rfl, trivial, trivial⟩
    · replace h := cond_ff h ht
      replace h := Option.some.inj h
      replace h := hr1 _ h.symm
      subst h
      refine Gho.to [⟨5, AV.list 1 (s4.map AV.str), some 0⟩] [] [1] [0] ?_ ?_ ?_ rfl rfl ?_
      · exact trivial
      · exact rfl
      · exact rfl
      · exact ⟨rfl, rfl, ⟨rfl, rfl⟩, trivial⟩
  · clear hj1
    refine SeqJ.go ?_
    refine SeqN.go ?_
    replace h := Option.some.inj h
    exact RetE.own 4 0 rfl rfl rfl (And.intro (congrArg (fun r : (List Bytes) => AV.list 1 (r.map AV.str)) h) rfl)

theorem table_Joined_ok (E : Pm.Env) [LaidE E] (a0 : (List S_Field)) (a1 : Bytes) (r : (Bytes × Bool)) (h : table_Joined a0 a1 = some r) : FnR E Tryd.prog 64 [AV.list 2 (a0.map S_Field.av), AV.str a1] (AV.tup [AV.str (r.1), AV.bool (r.2)]) false := by
  refine FnR.of_ev (T := T) (rows := []) tOk mixed Tryd.func64 rfl (by kernel_rfl) (by kernel_rfl) rfl fun hwf => ?_
  unfold table_Joined at h
  refine SeqJ.go ?_
  refine SeqN.go ?_
  refine SeqJ.go ?_
  refine bind_elim h fun x1 hx1 h => ?_
  refine CallH.data _ true rfl (table_All_ok E a0 a1 x1 hx1) ?_
  refine SeqN.go ?_
  refine SeqJ.go ?_
  refine bind_elim h fun x2 hx2 h => ?_
  refine CallH.data _ false rfl (strings_Join_ok E x1 ([44, 32] : Bytes) x2 hx2) ?_
  refine NormE.to (AV.int .i64 (x1.length : Int)) (fun _ => len_list AV.str x1) ?_
  refine SeqN.go ?_
  replace h := Option.some.inj h
  refine RetE.plain ?_
  exact And.intro rfl (And.intro (congrArg (fun r : (Bytes × Bool) => AV.tup [AV.str (r.1), AV.bool (r.2)]) h) rfl)

theorem number_read_uint64_ok (E : Pm.Env) [LaidE E] (a0 : Bytes) (a1 : Int) (a2 : FuncId) (a2c : List AV) (a2i : Int → Option Int) (a2h : ∀ (x0 : Int) (r : Int), a2i x0 = some r → FnR E Tryd.prog a2 ([AV.int .u8 x0] ++ a2c) (AV.int .u64 r) false) (a2p : a2c.all AV.puB = true) (r : (Int × Int)) (h : number_read_uint64 a0 a1 a2i = some r) : FnR E Tryd.prog 81 [AV.str a0, AV.int .u64 a1, AV.fn a2 [] a2c] (AV.tup [AV.int .u64 (r.1), AV.int .i64 (r.2)]) false := by
  refine FnR.of_ev (T := T) (rows := []) tOk mixed Tryd.func81 rfl (by kernel_rfl) (by kernel_rfl) rfl fun hwf => ?_
  unfold number_read_uint64 at h
  refine SeqJ.go ?_
  refine SeqN.go ?_
  refine SeqJ.go ?_
  refine SeqJ.go ?_
  refine SeqN.go ?_
  refine Br.mk (fun ht => ?_) (fun ht => ?_)
  · replace h := cond_tt h ht
    refine SeqJ.go ?_
    refine SeqN.go ?_
    replace h := Option.some.inj h
    refine RetE.plain ?_
    exact And.intro rfl (And.intro (congrArg (fun r : (Int × Int) => AV.tup [AV.int .u64 (r.1), AV.int .i64 (r.2)]) h) rfl)
  · replace h := cond_ff h ht
    refine SeqN.go ?_
    refine SeqJ.go ?_
    refine SeqN.go ?_
    refine SeqJ.go ?_
    refine SeqJ.go ?_
    refine NormE.same ?_
    refine SeqN.go ?_
    refine LoopE.img (fun x : (Int × Bool × Int) => St.of [⟨0, AV.str a0, none⟩, ⟨1, AV.int .u64 a1, none⟩, ⟨2, AV.fn a2 [] a2c, none⟩, ⟨8, AV.int .u64 (x.1), none⟩, ⟨9, AV.bool (x.2.1), none⟩, ⟨16, AV.int .i64 (a0.length : Int), none⟩, ⟨17, AV.int .i64 (x.2.2), none⟩] [] []) (number_read_uint64_b1 a0 a1 a2i) ((IntKind.u64.wrap (0 : Int)), false, (0 : Int)) h ?_ ?_
    · refine Gho.to [⟨0, AV.str a0, none⟩, ⟨1, AV.int .u64 a1, none⟩, ⟨2, AV.fn a2 [] a2c, none⟩, ⟨8, AV.int .u64 (IntKind.u64.wrap (0 : Int)), none⟩, ⟨9, AV.bool false, none⟩, ⟨16, AV.int .i64 (a0.length : Int), none⟩, ⟨17, AV.int .i64 (0 : Int), none⟩] [] [] [] ?_ ?_ ?_ rfl rfl ?_
      · exact trivial
      · exact rfl
      · exact rfl
      · exact ⟨rfl, rfl, trivial, rfl, rfl, trivial, rfl, (noB_fn a2p _), trivial, rfl, rfl, trivial, rfl, rfl, trivial, rfl, rfl, trivial, rfl, rfl, trivial, trivial⟩
    intro n1 x y1 h hl1 hr1
    obtain ⟨s1, s2, s3⟩ := x
    unfold number_read_uint64_b1 at h
    dsimp only at h
    refine SeqJ.go ?_
    refine SeqN.go ?_
    refine SeqJ.go ?_
    refine Br.mk (fun ht => ?_) (fun ht => ?_)
    · replace h := cond_tt h ht
      refine SeqN.go ?_
      refine SeqJ.go ?_
      refine SeqJ.go ?_
      refine SeqN.go ?_
      refine SeqJ.go ?_
      refine bind_elim h fun x4 hx4 h => ?_
      refine Exists.intro x4 (And.intro (fun hg => idx_some hx4) ?_)
      refine bind_elim h fun x5 hx5 h => ?_
      refine CallH.data _ false (puD_app rfl (puD_of a2p)) (a2h (x4.toNat : Int) x5 hx5) ?_
      refine SeqN.go ?_
      refine SeqJ.go ?_
      refine SeqJ.go ?_
      refine SeqN.go ?_
      refine Br.mk (fun ht => ?_) (fun ht => ?_)
      · replace h := cond_tt h ht
        refine SeqJ.go ?_
        refine SeqN.go ?_
        replace h := Option.some.inj h
        replace h := hr1 _ h.symm
        refine RetE.plain ?_
        exact And.intro rfl (And.intro (congrArg (fun r : (Int × Int) => AV.tup [AV.int .u64 (r.1), AV.int .i64 (r.2)]) h) rfl)
      · replace h := cond_ff h ht
        refine SeqN.go ?_
        refine SeqJ.go ?_
        refine SeqN.via (St.of [⟨0, AV.str a0, none⟩, ⟨1, AV.int .u64 a1, none⟩, ⟨2, AV.fn a2 [] a2c, none⟩, ⟨8, AV.int .u64 (IntKind.u64.wrap ((IntKind.u64.wrap (s1 * a1)) + x5)), none⟩, ⟨9, AV.bool s2, none⟩, ⟨16, AV.int .i64 (a0.length : Int), none⟩, ⟨17, AV.int .i64 s3, none⟩] [] []) ?_ ?_
        · refine Gho.to [⟨0, AV.str a0, none⟩, ⟨1, AV.int .u64 a1, none⟩, ⟨2, AV.fn a2 [] a2c, none⟩, ⟨8, AV.int .u64 (IntKind.u64.wrap ((IntKind.u64.wrap (s1 * a1)) + x5)), none⟩, ⟨9, AV.bool s2, none⟩, ⟨16, AV.int .i64 (a0.length : Int), none⟩, ⟨17, AV.int .i64 s3, none⟩] [] [] [] ?_ ?_ ?_ rfl rfl ?_
          · exact trivial
          · exact rfl
          · exact rfl
          · exact ⟨rfl, rfl, trivial, rfl, rfl, trivial, rfl, (noB_fn a2p _), trivial, rfl, rfl, trivial, rfl, rfl, trivial, rfl, rfl, trivial, rfl, rfl, trivial, trivial⟩
        refine SeqJ.go ?_
        refine SeqN.go ?_
        refine Br.mk (fun ht => ?_) (fun ht => ?_)
        · replace h := cond_tt h ht
          refine SeqN.go ?_
          replace h := Option.some.inj h
          refine Exists.intro ⟨(n1, ((0 : Int), true, (IntKind.i64.wrap (s3 + (1 : Int))))), hl1 _ h.symm⟩ (And.intro (Nat.lt_succ_self _) ?_)
          refine Gho.to [⟨0, AV.str a0, none⟩, ⟨1, AV.int .u64 a1, none⟩, ⟨2, AV.fn a2 [] a2c, none⟩, ⟨8, AV.int .u64 (0 : Int), none⟩, ⟨9, AV.bool true, none⟩, ⟨16, AV.int .i64 (a0.length : Int), none⟩, ⟨17, AV.int .i64 (IntKind.i64.wrap (s3 + (1 : Int))), none⟩] [] [] [] ?_ ?_ ?_ rfl rfl ?_
          · exact trivial
          · exact rfl
          · exact rfl
          · exact ⟨rfl, rfl, trivial, rfl, rfl, trivial, rfl, (noB_fn a2p _), trivial, rfl, rfl, trivial, rfl, rfl, trivial, rfl, rfl, trivial, rfl, rfl, trivial, trivial⟩
        · replace h := cond_ff h ht
          refine SeqN.go ?_
          replace h := Option.some.inj h
          refine Exists.intro ⟨(n1, ((IntKind.u64.wrap ((IntKind.u64.wrap (s1 * a1)) + x5)), s2, (IntKind.i64.wrap (s3 + (1 : Int))))), hl1 _ h.symm⟩ (And.intro (Nat.lt_succ_self _) ?_)
          refine Gho.to [⟨0, AV.str a0, none⟩, ⟨1, AV.int .u64 a1, none⟩, ⟨2, AV.fn a2 [] a2c, none⟩, ⟨8, AV.int .u64 (IntKind.u64.wrap ((IntKind.u64.wrap (s1 * a1)) + x5)), none⟩, ⟨9, AV.bool s2, none⟩, ⟨16, AV.int .i64 (a0.length : Int), none⟩, ⟨17, AV.int .i64 (IntKind.i64.wrap (s3 + (1 : Int))), none⟩] [] [] [] ?_ ?_ ?_ rfl rfl ?_
          · exact trivial
          · exact rfl
          · exact rfl
          · exact ⟨rfl, rfl, trivial, rfl, rfl, trivial, rfl, (noB_fn a2p _), trivial, rfl, rfl, trivial, rfl, rfl, trivial, rfl, rfl, trivial, rfl, rfl, trivial, trivial⟩
    · replace h := cond_ff h ht
      refine SeqN.go ?_
      refine SeqJ.go ?_
      refine SeqJ.go ?_
      refine SeqN.go ?_
      refine Br.mk (fun ht => ?_) (fun ht => ?_)
      · replace h := cond_tt h ht
        refine SeqJ.go ?_
        refine SeqN.go ?_
        replace h := Option.some.inj h
        replace h := hr1 _ h.symm
        refine RetE.plain ?_
        exact And.intro rfl (And.intro (congrArg (fun r : (Int × Int) => AV.tup [AV.int .u64 (r.1), AV.int .i64 (r.2)]) h) rfl)
      · replace h := cond_ff h ht
        refine SeqN.go ?_
        refine SeqJ.go ?_
        refine SeqN.go ?_
        replace h := Option.some.inj h
        replace h := hr1 _ h.symm
        refine RetE.plain ?_
        exact And.intro rfl (And.intro (congrArg (fun r : (Int × Int) => AV.tup [AV.int .u64 (r.1), AV.int .i64 (r.2)]) h) rfl)

theorem number_ReadDec_1_ok (E : Pm.Env) [LaidE E] (a0 : Int) (r : Int) (h : number_ReadDec_1 a0 = some r) : FnR E Tryd.prog 82 [AV.int .u8 a0] (AV.int .u64 r) false := by
  refine FnR.of_ev (T := T) (rows := []) tOk mixed Tryd.func82 rfl (by kernel_rfl) (by kernel_rfl) rfl fun hwf => ?_
  unfold number_ReadDec_1 at h
  refine SeqJ.go ?_
  refine SeqN.go ?_
  refine SeqJ.go ?_
  refine SeqN.go ?_
  replace h := Option.some.inj h
  refine RetE.plain ?_
  exact And.intro rfl (And.intro (congrArg (fun r : Int => AV.int .u64 r) h) rfl)

theorem number_ReadDec_ok (E : Pm.Env) [LaidE E] (a0 : Bytes) (r : (Int × Int)) (h : number_ReadDec a0 = some r) : FnR E Tryd.prog 52 [AV.str a0] (AV.tup [AV.int .u64 (r.1), AV.int .i64 (r.2)]) false := by
  refine FnR.of_ev (T := T) (rows := []) tOk mixed Tryd.func52 rfl (by kernel_rfl) (by kernel_rfl) rfl fun hwf => ?_
  unfold number_ReadDec at h
  refine SeqJ.go ?_
  refine SeqN.go ?_
  refine SeqJ.go ?_
  refine bind_elim h fun x1 hx1 h => ?_
  refine CallH.data _ false rfl (number_read_uint64_ok E a0 (10 : Int) 82 [] (fun x0 => number_ReadDec_1 x0) (fun x0 r h => number_ReadDec_1_ok E x0 r h) rfl x1 hx1) ?_
  refine SeqN.go ?_
  replace h := Option.some.inj h
  refine RetE.plain ?_
  exact And.intro rfl (And.intro (congrArg (fun r : (Int × Int) => AV.tup [AV.int .u64 (r.1), AV.int .i64 (r.2)]) h) rfl)

theorem frame_say_ok (E : Pm.Env) [LaidE E] (a0 : Int) (a1 : (List S_Field)) (a2 : S_Body) (r : (S_Body × Int)) (h : frame_say a0 a1 a2 = some r) : FnR E Tryd.prog 36 [AV.int .i64 a0, AV.list 2 (a1.map S_Field.av), S_Body.av a2] (AV.tup [S_Body.av (r.1), AV.int .i64 (r.2)]) false := by
  refine FnR.of_ev (T := T) (rows := []) tOk mixed Tryd.func36 rfl (by kernel_rfl) (by kernel_rfl) rfl fun hwf => ?_
  unfold frame_say at h
  refine SeqJ.go ?_
  refine And.intro rfl ?_
  refine And.intro rfl ?_
  refine SeqN.go ?_
  refine SeqJ.go ?_
  refine bind_elim h fun x1 hx1 h => ?_
  refine CallH.data _ true rfl (table_All_ok E a1 ([67, 111, 110, 116, 101, 110, 116, 45, 76, 101, 110, 103, 116, 104] : Bytes) x1 hx1) ?_
  refine SeqN.go ?_
  refine SeqJ.go ?_
  refine SeqJ.go ?_
  refine bind_elim h fun x2 hx2 h => ?_
  refine CallH.data _ false rfl (table_Joined_ok E a1 ([84, 114, 97, 110, 115, 102, 101, 114, 45, 69, 110, 99, 111, 100, 105, 110, 103] : Bytes) x2 hx2) ?_
  refine SeqN.go ?_
  refine SeqJ.go ?_
  refine SeqN.go ?_
  refine Br.mk (fun ht => ?_) (fun ht => ?_)
  · replace h := cond_tt h ht
    refine SeqJ.go ?_
    refine SeqJ.go ?_
    refine NormE.to (AV.int .i64 (x1.length : Int)) (fun _ => len_list AV.str x1) ?_
    refine And.intro (fun hg => hg) ?_
    refine And.intro (fun hg => (and_r hg)) ?_
    refine bind_elim h fun x3 hx3 h => ?_
    refine And.intro (fun hg => hg) ?_
    refine And.intro rfl ?_
    refine CallF.mk _ false (fun hg => text_Same_ok E (x2.1) ([99, 104, 117, 110, 107, 101, 100] : Bytes) x3 (gcall_some hx3 hg)) (And.intro rfl ?_)
    refine And.intro (fun hg => hg) ?_
    refine And.intro (fun hg => (and_r hg)) ?_
    refine SeqN.via (St.of [⟨6, AV.ptr 1 0, none⟩, ⟨37, AV.bool (bif (bif (decide ((x1.length : Int) > (0 : Int))) then true else (a0 == (0 : Int))) then true else (!x3)), none⟩] [.dead, .cells 28 [AV.int .i64 (0 : Int), AV.int .i64 (0 : Int)] []] []) ?_ ?_
    · refine Gho.to [⟨6, AV.ptr 1 0, none⟩, ⟨37, AV.bool (bif (bif (decide ((x1.length : Int) > (0 : Int))) then true else (a0 == (0 : Int))) then true else (!x3)), none⟩] [.dead, .cells 28 [AV.int .i64 (0 : Int), AV.int .i64 (0 : Int)] []] [] [] ?_ ?_ ?_ rfl rfl ?_
      · exact ⟨trivial, ⟨⟨rfl, rfl, rfl⟩, trivial⟩⟩
      · exact rfl
      · exact rfl
      · exact ⟨rfl, rfl, trivial, rfl, rfl, trivial, trivial⟩
    refine Br.mk (fun ht => ?_) (fun ht => ?_)
    · replace h := cond_tt h ht
      refine SeqJ.go ?_
      refine And.intro ⟨rfl, rfl, rfl, Nat.le_of_ble_eq_true rfl⟩ (Exists.intro [AV.int .i64 (0 : Int), AV.int .i64 (0 : Int)] (And.intro (fun _ => rfl) ?_))
      refine SeqN.go ?_
      replace h := Option.some.inj h
      refine RetE.plain ?_
      refine And.intro ⟨Nat.le_of_ble_eq_true rfl, Nat.le_of_ble_eq_true rfl⟩ (Exists.intro (AV.agg [AV.int .i64 (0 : Int), AV.int .i64 (0 : Int)]) (And.intro rfl ?_))
      exact And.intro rfl (And.intro (congrArg (fun r : (S_Body × Int) => AV.tup [S_Body.av (r.1), AV.int .i64 (r.2)]) h) rfl)
    · replace h := cond_ff h ht
      refine SeqN.go ?_
      refine SeqJ.go ?_
      refine And.intro ⟨rfl, rfl, Nat.le_of_ble_eq_true rfl⟩ ?_
      refine And.intro ⟨rfl, rfl, rfl, Nat.le_of_ble_eq_true rfl⟩ (Exists.intro [AV.int .i64 (2 : Int), AV.int .i64 (0 : Int)] (And.intro (fun _ => rfl) ?_))
      refine SeqN.go ?_
      replace h := Option.some.inj h
      refine RetE.plain ?_
      refine And.intro ⟨Nat.le_of_ble_eq_true rfl, Nat.le_of_ble_eq_true rfl⟩ (Exists.intro (AV.agg [AV.int .i64 (2 : Int), AV.int .i64 (0 : Int)]) (And.intro rfl ?_))
      exact And.intro rfl (And.intro (congrArg (fun r : (S_Body × Int) => AV.tup [S_Body.av (r.1), AV.int .i64 (r.2)]) h) rfl)
  · replace h := cond_ff h ht
    refine SeqN.go ?_
    refine SeqJ.go ?_
    refine And.intro ⟨Nat.le_of_ble_eq_true rfl, Nat.le_of_ble_eq_true rfl⟩ ?_
    refine NormE.to (S_Body.av a2) (fun _ => rfl) ?_
    refine And.intro rfl ?_
    refine And.intro ⟨rfl, rfl, rfl, Nat.le_of_ble_eq_true rfl⟩ (Exists.intro (S_Body.cells a2) (And.intro (fun _ => rfl) ?_))
    refine SeqN.via (St.of [⟨6, AV.ptr 1 0, none⟩, ⟨8, AV.list 1 (x1.map AV.str), some 0⟩, ⟨11, AV.ptr 2 0, none⟩, ⟨12, AV.bool false, none⟩] [.dead, .cells 28 [AV.int .i64 (0 : Int), AV.int .i64 (0 : Int)] [], .cells 28 (S_Body.cells a2) []] [1]) ?_ ?_
    · refine Gho.to [⟨6, AV.ptr 1 0, none⟩, ⟨8, AV.list 1 (x1.map AV.str), some 0⟩, ⟨11, AV.ptr 2 0, none⟩, ⟨12, AV.bool false, none⟩] [.dead, .cells 28 [AV.int .i64 (0 : Int), AV.int .i64 (0 : Int)] [], .cells 28 (S_Body.cells a2) []] [1] [0] ?_ ?_ ?_ rfl rfl ?_
      · exact ⟨trivial, ⟨⟨rfl, rfl, rfl⟩, ⟨⟨rfl, rfl, rfl⟩, trivial⟩⟩⟩
      · exact rfl
      · exact rfl
      · exact ⟨rfl, rfl, trivial, rfl, rfl, ⟨rfl, rfl⟩, rfl, rfl, trivial, rfl, rfl, trivial, trivial⟩
    refine SeqJ.go ?_
    refine SeqJ.go ?_
    refine NormE.to (AV.int .i64 (x1.length : Int)) (fun _ => len_list AV.str x1) ?_
    refine SeqN.go ?_
    refine LoopE.img (fun x : (Bool × Int × S_Body) => St.of [⟨6, AV.ptr 1 0, none⟩, ⟨11, AV.ptr 2 0, none⟩, ⟨12, AV.bool (x.1), none⟩, ⟨41, AV.list 1 (x1.map AV.str), some 0⟩, ⟨42, AV.int .i64 (x1.length : Int), none⟩, ⟨43, AV.int .i64 (x.2.1), none⟩] [.dead, .cells 28 [AV.int .i64 (0 : Int), AV.int .i64 (0 : Int)] [], .cells 28 (S_Body.cells (x.2.2)) []] [1]) (frame_say_b1 x1) (false, (0 : Int), a2) h ?_ ?_
    · refine Gho.to [⟨6, AV.ptr 1 0, none⟩, ⟨11, AV.ptr 2 0, none⟩, ⟨12, AV.bool false, none⟩, ⟨41, AV.list 1 (x1.map AV.str), some 0⟩, ⟨42, AV.int .i64 (x1.length : Int), none⟩, ⟨43, AV.int .i64 (0 : Int), none⟩] [.dead, .cells 28 [AV.int .i64 (0 : Int), AV.int .i64 (0 : Int)] [], .cells 28 (S_Body.cells a2) []] [1] [0] ?_ ?_ ?_ rfl rfl ?_
      · exact ⟨trivial, ⟨⟨rfl, rfl, rfl⟩, ⟨⟨rfl, rfl, rfl⟩, trivial⟩⟩⟩
      · exact rfl
      · exact rfl
      · exact ⟨rfl, rfl, trivial, rfl, rfl, trivial, rfl, rfl, trivial, rfl, rfl, ⟨rfl, rfl⟩, rfl, rfl, trivial, rfl, rfl, trivial, trivial⟩
    intro n1 x y1 h hl1 hr1
    obtain ⟨s4, s5, s6⟩ := x
    unfold frame_say_b1 at h
    dsimp only at h
    refine SeqJ.go ?_
    refine SeqN.go ?_
    refine SeqJ.go ?_
    refine Br.mk (fun ht => ?_) (fun ht => ?_)
    · replace h := cond_tt h ht
      refine SeqN.go ?_
      refine SeqJ.go ?_
      refine SeqJ.go ?_
      refine bind_elim h fun x7 hx7 h => ?_
      refine And.intro rfl (Exists.intro (AV.str x7) (And.intro (fun hg => idx_map _ hx7) ?_))
      refine SeqN.go ?_
      refine SeqJ.go ?_
      refine bind_elim h fun x8 hx8 h => ?_
      refine CallH.data _ false rfl (number_ReadDec_ok E x7 x8 hx8) ?_
      refine SeqN.go ?_
      refine SeqJ.go ?_
      refine And.intro ⟨rfl, rfl, Nat.le_of_ble_eq_true rfl⟩ ?_
      refine And.intro ⟨rfl, rfl, Nat.le_of_ble_eq_true rfl⟩ ?_
      refine And.intro rfl ?_
      refine And.intro ⟨rfl, rfl, rfl, Nat.le_of_ble_eq_true rfl⟩ (Exists.intro [AV.int .i64 (1 : Int), AV.int .i64 (IntKind.i64.wrap (x8.1))] (And.intro (fun _ => rfl) ?_))
      refine SeqN.via (St.of [⟨6, AV.ptr 1 0, none⟩, ⟨11, AV.ptr 2 0, none⟩, ⟨13, AV.int .i64 s5, none⟩, ⟨16, AV.int .i64 (x8.2), none⟩, ⟨17, AV.ptr 3 0, none⟩, ⟨41, AV.list 1 (x1.map AV.str), some 0⟩, ⟨42, AV.int .i64 (x1.length : Int), none⟩, ⟨43, AV.int .i64 s5, none⟩] [.dead, .cells 28 [AV.int .i64 (0 : Int), AV.int .i64 (0 : Int)] [], .cells 28 (S_Body.cells s6) [], .cells 28 [AV.int .i64 (1 : Int), AV.int .i64 (IntKind.i64.wrap (x8.1))] []] [1]) ?_ ?_
      · refine Gho.to [⟨6, AV.ptr 1 0, none⟩, ⟨11, AV.ptr 2 0, none⟩, ⟨13, AV.int .i64 s5, none⟩, ⟨16, AV.int .i64 (x8.2), none⟩, ⟨17, AV.ptr 3 0, none⟩, ⟨41, AV.list 1 (x1.map AV.str), some 0⟩, ⟨42, AV.int .i64 (x1.length : Int), none⟩, ⟨43, AV.int .i64 s5, none⟩] [.dead, .cells 28 [AV.int .i64 (0 : Int), AV.int .i64 (0 : Int)] [], .cells 28 (S_Body.cells s6) [], .cells 28 [AV.int .i64 (1 : Int), AV.int .i64 (IntKind.i64.wrap (x8.1))] []] [1] [0] ?_ ?_ ?_ rfl rfl ?_
        · exact ⟨trivial, ⟨⟨rfl, rfl, rfl⟩, ⟨⟨rfl, rfl, rfl⟩, ⟨⟨rfl, rfl, rfl⟩, trivial⟩⟩⟩⟩
        · exact rfl
        · exact rfl
        · exact ⟨rfl, rfl, trivial, rfl, rfl, trivial, rfl, rfl, trivial, rfl, rfl, trivial, rfl, rfl, trivial, rfl, rfl, ⟨rfl, rfl⟩, rfl, rfl, trivial, rfl, rfl, trivial, trivial⟩
      refine SeqJ.go ?_
      refine SeqJ.go ?_
      refine SeqN.go ?_
      refine Br.mk (fun ht => ?_) (fun ht => ?_)
      · replace h := cond_tt h ht
        refine And.intro ⟨rfl, rfl, rfl, Nat.le_of_ble_eq_true rfl⟩ (Exists.intro [AV.int .i64 (1 : Int), AV.int .i64 (-1 : Int)] (And.intro (fun _ => rfl) ?_))
        refine SeqN.go ?_
        refine SeqJ.go ?_
        refine SeqJ.go ?_
        refine And.intro (fun hg => hg) ?_
        refine And.intro (fun hg => hg) ?_
        refine And.intro ⟨Nat.le_of_ble_eq_true rfl, Nat.le_of_ble_eq_true rfl⟩ ?_
        refine NormE.to (AV.agg [AV.int .i64 (1 : Int), AV.int .i64 (-1 : Int)]) (fun _ => rfl) ?_
        refine And.intro ⟨Nat.le_of_ble_eq_true rfl, Nat.le_of_ble_eq_true rfl⟩ ?_
        refine NormE.to (S_Body.av s6) (fun _ => rfl) ?_
        refine And.intro (fun hg => hg) ?_
        refine And.intro (fun hg => hg) ?_
        refine And.intro rfl ?_
        refine And.intro (fun hg => hg) ?_
        refine And.intro (fun hg => hg) ?_
        refine And.intro (fun hg => (and_r hg)) ?_
        refine SeqN.go ?_
        refine Br.mk (fun ht => ?_) (fun ht => ?_)
        · replace h := cond_tt h ht
          refine SeqJ.go ?_
          refine And.intro ⟨rfl, rfl, rfl, Nat.le_of_ble_eq_true rfl⟩ (Exists.intro [AV.int .i64 (0 : Int), AV.int .i64 (0 : Int)] (And.intro (fun _ => rfl) ?_))
          refine SeqN.via (St.of [⟨6, AV.ptr 1 0, none⟩, ⟨7, AV.int .i64 (32 : Int), none⟩] [.dead, .cells 28 [AV.int .i64 (0 : Int), AV.int .i64 (0 : Int)] []] []) ?_ ?_
          · refine Gho.to [⟨6, AV.ptr 1 0, none⟩, ⟨7, AV.int .i64 (32 : Int), none⟩] [.dead, .cells 28 [AV.int .i64 (0 : Int), AV.int .i64 (0 : Int)] []] [] [] ?_ ?_ ?_ rfl rfl ?_
            · exact ⟨trivial, ⟨⟨rfl, rfl, rfl⟩, trivial⟩⟩
            · exact rfl
            · exact rfl
            · exact ⟨rfl, rfl, trivial, rfl, rfl, trivial, trivial⟩
          replace h := Option.some.inj h
          replace h := hr1 _ h.symm
          refine RetE.plain ?_
          refine And.intro ⟨Nat.le_of_ble_eq_true rfl, Nat.le_of_ble_eq_true rfl⟩ (Exists.intro (AV.agg [AV.int .i64 (0 : Int), AV.int .i64 (0 : Int)]) (And.intro rfl ?_))
          exact And.intro rfl (And.intro (congrArg (fun r : (S_Body × Int) => AV.tup [S_Body.av (r.1), AV.int .i64 (r.2)]) h) rfl)
        · replace h := cond_ff h ht
          refine SeqN.go ?_
          refine And.intro ⟨Nat.le_of_ble_eq_true rfl, Nat.le_of_ble_eq_true rfl⟩ ?_
          refine NormE.to (AV.agg [AV.int .i64 (1 : Int), AV.int .i64 (-1 : Int)]) (fun _ => rfl) ?_
          refine And.intro (fun hg => hg) ?_
          refine And.intro (fun hg => hg) ?_
          refine And.intro (fun hg => (and_r hg)) ?_
          refine And.intro ⟨rfl, rfl, rfl, Nat.le_of_ble_eq_true rfl⟩ (Exists.intro [AV.int .i64 (1 : Int), AV.int .i64 (-1 : Int)] (And.intro (fun _ => rfl) ?_))
          refine And.intro (by kernel_rfl) ?_
          refine SeqN.via (St.of [⟨6, AV.ptr 1 0, none⟩, ⟨11, AV.ptr 2 0, none⟩, ⟨12, AV.bool (bif (decide ((-1 : Int) < (0 : Int))) then true else (decide ((-1 : Int) > (20000 : Int)))), none⟩, ⟨41, AV.list 1 (x1.map AV.str), some 0⟩, ⟨42, AV.int .i64 (x1.length : Int), none⟩, ⟨43, AV.int .i64 s5, none⟩] [.dead, .cells 28 [AV.int .i64 (0 : Int), AV.int .i64 (0 : Int)] [], .cells 28 [AV.int .i64 (1 : Int), AV.int .i64 (-1 : Int)] []] [1]) ?_ ?_
          · refine Gho.to [⟨6, AV.ptr 1 0, none⟩, ⟨11, AV.ptr 2 0, none⟩, ⟨12, AV.bool (bif (decide ((-1 : Int) < (0 : Int))) then true else (decide ((-1 : Int) > (20000 : Int)))), none⟩, ⟨41, AV.list 1 (x1.map AV.str), some 0⟩, ⟨42, AV.int .i64 (x1.length : Int), none⟩, ⟨43, AV.int .i64 s5, none⟩] [.dead, .cells 28 [AV.int .i64 (0 : Int), AV.int .i64 (0 : Int)] [], .cells 28 [AV.int .i64 (1 : Int), AV.int .i64 (-1 : Int)] []] [1] [0] ?_ ?_ ?_ rfl rfl ?_
            · exact ⟨trivial, ⟨⟨rfl, rfl, rfl⟩, ⟨⟨rfl, rfl, rfl⟩, trivial⟩⟩⟩
            · exact rfl
            · exact rfl
            · exact ⟨rfl, rfl, trivial, rfl, rfl, trivial, rfl, rfl, trivial, rfl, rfl, ⟨rfl, rfl⟩, rfl, rfl, trivial, rfl, rfl, trivial, trivial⟩
          replace h := Option.some.inj h
          refine Exists.intro ⟨(n1, ((bif (decide ((-1 : Int) < (0 : Int))) then true else (decide ((-1 : Int) > (20000 : Int)))), (IntKind.i64.wrap (s5 + (1 : Int))), (S_Body.mk (1 : Int) (-1 : Int)))), hl1 _ h.symm⟩ (And.intro (Nat.lt_succ_self _) ?_)
          refine Gho.to [⟨6, AV.ptr 1 0, none⟩, ⟨11, AV.ptr 2 0, none⟩, ⟨12, AV.bool (bif (decide ((-1 : Int) < (0 : Int))) then true else (decide ((-1 : Int) > (20000 : Int)))), none⟩, ⟨41, AV.list 1 (x1.map AV.str), some 0⟩, ⟨42, AV.int .i64 (x1.length : Int), none⟩, ⟨43, AV.int .i64 (IntKind.i64.wrap (s5 + (1 : Int))), none⟩] [.dead, .cells 28 [AV.int .i64 (0 : Int), AV.int .i64 (0 : Int)] [], .cells 28 (S_Body.cells (S_Body.mk (1 : Int) (-1 : Int))) []] [1] [0] ?_ ?_ ?_ rfl rfl ?_
          · exact ⟨trivial, ⟨⟨rfl, rfl, rfl⟩, ⟨⟨rfl, rfl, rfl⟩, trivial⟩⟩⟩
          · exact rfl
          · exact rfl
          · exact ⟨rfl, rfl, trivial, rfl, rfl, trivial, rfl, rfl, trivial, rfl, rfl, ⟨rfl, rfl⟩, rfl, rfl, trivial, rfl, rfl, trivial, trivial⟩
      · replace h := cond_ff h ht
        refine SeqN.go ?_
        refine SeqJ.go ?_
        refine SeqJ.go ?_
        refine And.intro (fun hg => hg) ?_
        refine And.intro (fun hg => hg) ?_
        refine And.intro ⟨Nat.le_of_ble_eq_true rfl, Nat.le_of_ble_eq_true rfl⟩ ?_
        refine NormE.to (AV.agg [AV.int .i64 (1 : Int), AV.int .i64 (IntKind.i64.wrap (x8.1))]) (fun _ => rfl) ?_
        refine And.intro ⟨Nat.le_of_ble_eq_true rfl, Nat.le_of_ble_eq_true rfl⟩ ?_
        refine NormE.to (S_Body.av s6) (fun _ => rfl) ?_
        refine And.intro (fun hg => hg) ?_
        refine And.intro (fun hg => hg) ?_
        refine And.intro rfl ?_
        refine And.intro (fun hg => hg) ?_
        refine And.intro (fun hg => hg) ?_
        refine And.intro (fun hg => (and_r hg)) ?_
        refine SeqN.go ?_
        refine Br.mk (fun ht => ?_) (fun ht => ?_)
        · replace h := cond_tt h ht
          refine SeqJ.go ?_
          refine And.intro ⟨rfl, rfl, rfl, Nat.le_of_ble_eq_true rfl⟩ (Exists.intro [AV.int .i64 (0 : Int), AV.int .i64 (0 : Int)] (And.intro (fun _ => rfl) ?_))
          refine SeqN.via (St.of [⟨6, AV.ptr 1 0, none⟩, ⟨7, AV.int .i64 (32 : Int), none⟩] [.dead, .cells 28 [AV.int .i64 (0 : Int), AV.int .i64 (0 : Int)] []] []) ?_ ?_
          · refine Gho.to [⟨6, AV.ptr 1 0, none⟩, ⟨7, AV.int .i64 (32 : Int), none⟩] [.dead, .cells 28 [AV.int .i64 (0 : Int), AV.int .i64 (0 : Int)] []] [] [] ?_ ?_ ?_ rfl rfl ?_
            · exact ⟨trivial, ⟨⟨rfl, rfl, rfl⟩, trivial⟩⟩
            · exact rfl
            · exact rfl
            · exact ⟨rfl, rfl, trivial, rfl, rfl, trivial, trivial⟩
          replace h := Option.some.inj h
          replace h := hr1 _ h.symm
          refine RetE.plain ?_
          refine And.intro ⟨Nat.le_of_ble_eq_true rfl, Nat.le_of_ble_eq_true rfl⟩ (Exists.intro (AV.agg [AV.int .i64 (0 : Int), AV.int .i64 (0 : Int)]) (And.intro rfl ?_))
          exact And.intro rfl (And.intro (congrArg (fun r : (S_Body × Int) => AV.tup [S_Body.av (r.1), AV.int .i64 (r.2)]) h) rfl)
        · replace h := cond_ff h ht
          refine SeqN.go ?_
          refine And.intro ⟨Nat.le_of_ble_eq_true rfl, Nat.le_of_ble_eq_true rfl⟩ ?_
          refine NormE.to (AV.agg [AV.int .i64 (1 : Int), AV.int .i64 (IntKind.i64.wrap (x8.1))]) (fun _ => rfl) ?_
          refine And.intro (fun hg => hg) ?_
          refine And.intro (fun hg => hg) ?_
          refine And.intro (fun hg => (and_r hg)) ?_
          refine And.intro ⟨rfl, rfl, rfl, Nat.le_of_ble_eq_true rfl⟩ (Exists.intro [AV.int .i64 (1 : Int), AV.int .i64 (IntKind.i64.wrap (x8.1))] (And.intro (fun _ => rfl) ?_))
          refine And.intro (by kernel_rfl) ?_
          refine SeqN.via (St.of [⟨6, AV.ptr 1 0, none⟩, ⟨11, AV.ptr 2 0, none⟩, ⟨12, AV.bool (bif (decide ((IntKind.i64.wrap (x8.1)) < (0 : Int))) then true else (decide ((IntKind.i64.wrap (x8.1)) > (20000 : Int)))), none⟩, ⟨41, AV.list 1 (x1.map AV.str), some 0⟩, ⟨42, AV.int .i64 (x1.length : Int), none⟩, ⟨43, AV.int .i64 s5, none⟩] [.dead, .cells 28 [AV.int .i64 (0 : Int), AV.int .i64 (0 : Int)] [], .cells 28 [AV.int .i64 (1 : Int), AV.int .i64 (IntKind.i64.wrap (x8.1))] []] [1]) ?_ ?_
          · refine Gho.to [⟨6, AV.ptr 1 0, none⟩, ⟨11, AV.ptr 2 0, none⟩, ⟨12, AV.bool (bif (decide ((IntKind.i64.wrap (x8.1)) < (0 : Int))) then true else (decide ((IntKind.i64.wrap (x8.1)) > (20000 : Int)))), none⟩, ⟨41, AV.list 1 (x1.map AV.str), some 0⟩, ⟨42, AV.int .i64 (x1.length : Int), none⟩, ⟨43, AV.int .i64 s5, none⟩] [.dead, .cells 28 [AV.int .i64 (0 : Int), AV.int .i64 (0 : Int)] [], .cells 28 [AV.int .i64 (1 : Int), AV.int .i64 (IntKind.i64.wrap (x8.1))] []] [1] [0] ?_ ?_ ?_ rfl rfl ?_
            · exact ⟨trivial, ⟨⟨rfl, rfl, rfl⟩, ⟨⟨rfl, rfl, rfl⟩, trivial⟩⟩⟩
            · exact rfl
            · exact rfl
            · exact ⟨rfl, rfl, trivial, rfl, rfl, trivial, rfl, rfl, trivial, rfl, rfl, ⟨rfl, rfl⟩, rfl, rfl, trivial, rfl, rfl, trivial, trivial⟩
          replace h := Option.some.inj h
          refine Exists.intro ⟨(n1, ((bif (decide ((IntKind.i64.wrap (x8.1)) < (0 : Int))) then true else (decide ((IntKind.i64.wrap (x8.1)) > (20000 : Int)))), (IntKind.i64.wrap (s5 + (1 : Int))), (S_Body.mk (1 : Int) (IntKind.i64.wrap (x8.1))))), hl1 _ h.symm⟩ (And.intro (Nat.lt_succ_self _) ?_)
          refine Gho.to [⟨6, AV.ptr 1 0, none⟩, ⟨11, AV.ptr 2 0, none⟩, ⟨12, AV.bool (bif (decide ((IntKind.i64.wrap (x8.1)) < (0 : Int))) then true else (decide ((IntKind.i64.wrap (x8.1)) > (20000 : Int)))), none⟩, ⟨41, AV.list 1 (x1.map AV.str), some 0⟩, ⟨42, AV.int .i64 (x1.length : Int), none⟩, ⟨43, AV.int .i64 (IntKind.i64.wrap (s5 + (1 : Int))), none⟩] [.dead, .cells 28 [AV.int .i64 (0 : Int), AV.int .i64 (0 : Int)] [], .cells 28 (S_Body.cells (S_Body.mk (1 : Int) (IntKind.i64.wrap (x8.1)))) []] [1] [0] ?_ ?_ ?_ rfl rfl ?_
          · exact ⟨trivial, ⟨⟨rfl, rfl, rfl⟩, ⟨⟨rfl, rfl, rfl⟩, trivial⟩⟩⟩
          · exact rfl
          · exact rfl
          · exact ⟨rfl, rfl, trivial, rfl, rfl, trivial, rfl, rfl, trivial, rfl, rfl, ⟨rfl, rfl⟩, rfl, rfl, trivial, rfl, rfl, trivial, trivial⟩
    · replace h := cond_ff h ht
      refine SeqN.go ?_
      refine SeqJ.go ?_
      refine SeqJ.go ?_
      refine SeqN.go ?_
      refine Br.mk (fun ht => ?_) (fun ht => ?_)
      · replace h := cond_tt h ht
        refine SeqJ.go ?_
        refine And.intro ⟨rfl, rfl, rfl, Nat.le_of_ble_eq_true rfl⟩ (Exists.intro [AV.int .i64 (0 : Int), AV.int .i64 (0 : Int)] (And.intro (fun _ => rfl) ?_))
        refine SeqN.go ?_
        replace h := Option.some.inj h
        replace h := hr1 _ h.symm
        refine RetE.plain ?_
        refine And.intro ⟨Nat.le_of_ble_eq_true rfl, Nat.le_of_ble_eq_true rfl⟩ (Exists.intro (AV.agg [AV.int .i64 (0 : Int), AV.int .i64 (0 : Int)]) (And.intro rfl ?_))
        exact And.intro rfl (And.intro (congrArg (fun r : (S_Body × Int) => AV.tup [S_Body.av (r.1), AV.int .i64 (r.2)]) h) rfl)
      · replace h := cond_ff h ht
        refine SeqN.go ?_
        refine SeqJ.go ?_
        refine And.intro ⟨Nat.le_of_ble_eq_true rfl, Nat.le_of_ble_eq_true rfl⟩ ?_
        refine NormE.to (S_Body.av s6) (fun _ => rfl) ?_
        refine And.intro ⟨rfl, rfl, rfl, Nat.le_of_ble_eq_true rfl⟩ (Exists.intro (S_Body.cells s6) (And.intro (fun _ => rfl) ?_))
        refine SeqN.go ?_
        replace h := Option.some.inj h
        replace h := hr1 _ h.symm
        refine RetE.plain ?_
        refine And.intro ⟨Nat.le_of_ble_eq_true rfl, Nat.le_of_ble_eq_true rfl⟩ (Exists.intro (S_Body.av s6) (And.intro rfl ?_))
        exact And.intro rfl (And.intro (congrArg (fun r : (S_Body × Int) => AV.tup [S_Body.av (r.1), AV.int .i64 (r.2)]) h) rfl)

theorem frame_Request_ok (E : Pm.Env) [LaidE E] (a0 : S_Start) (a1 : (List S_Field)) (r : (S_Body × Int)) (h : frame_Request a0 a1 = some r) : FnR E Tryd.prog 12 [S_Start.av a0, AV.list 2 (a1.map S_Field.av)] (AV.tup [S_Body.av (r.1), AV.int .i64 (r.2)]) false := by
  refine FnR.of_ev (T := T) (rows := []) tOk mixed Tryd.func12 rfl (by kernel_rfl) (by kernel_rfl) rfl fun hwf => ?_
  unfold frame_Request at h
  refine SeqJ.go ?_
  refine And.intro rfl ?_
  refine And.intro rfl ?_
  refine SeqN.go ?_
  refine SeqJ.go ?_
  refine SeqJ.go ?_
  refine And.intro ⟨Nat.le_of_ble_eq_true rfl, Nat.le_of_ble_eq_true rfl⟩ ?_
  refine NormE.to (S_Start.av a0) (fun _ => rfl) ?_
  refine bind_elim h fun x1 hx1 h => ?_
  refine CallH.data _ false rfl (start_Right_ok E a0 x1 hx1) ?_
  refine And.intro (fun hg => hg) ?_
  refine And.intro (fun hg => hg) ?_
  refine And.intro (fun hg => (and_r hg)) ?_
  refine bind_elim h fun x2 hx2 h => ?_
  refine And.intro (fun hg => hg) ?_
  refine And.intro rfl ?_
  refine CallF.mk _ false (fun hg => table_Right_ok E a1 x2 (gcall_some hx2 hg)) (And.intro rfl ?_)
  refine And.intro (fun hg => hg) ?_
  refine And.intro (fun hg => (and_r hg)) ?_
  refine SeqN.via (St.of [⟨1, AV.list 2 (a1.map S_Field.av), none⟩, ⟨2, AV.ptr 0 0, none⟩, ⟨4, AV.ptr 1 0, none⟩, ⟨18, AV.bool (bif (bif (!x1) then true else ((a0.Code) != (0 : Int))) then true else (!x2)), none⟩] [.cells 23 (S_Start.cells a0) [], .cells 28 [AV.int .i64 (0 : Int), AV.int .i64 (0 : Int)] []] []) ?_ ?_
  · refine Gho.to [⟨1, AV.list 2 (a1.map S_Field.av), none⟩, ⟨2, AV.ptr 0 0, none⟩, ⟨4, AV.ptr 1 0, none⟩, ⟨18, AV.bool (bif (bif (!x1) then true else ((a0.Code) != (0 : Int))) then true else (!x2)), none⟩] [.cells 23 (S_Start.cells a0) [], .cells 28 [AV.int .i64 (0 : Int), AV.int .i64 (0 : Int)] []] [] [] ?_ ?_ ?_ rfl rfl ?_
    · exact ⟨⟨rfl, rfl, rfl⟩, ⟨⟨rfl, rfl, rfl⟩, trivial⟩⟩
    · exact rfl
    · exact rfl
    · exact ⟨rfl, rfl, trivial, rfl, rfl, trivial, rfl, rfl, trivial, rfl, rfl, trivial, trivial⟩
  refine Br.mk (fun ht => ?_) (fun ht => ?_)
  · replace h := cond_tt h ht
    refine SeqJ.go ?_
    refine And.intro ⟨rfl, rfl, rfl, Nat.le_of_ble_eq_true rfl⟩ (Exists.intro [AV.int .i64 (0 : Int), AV.int .i64 (0 : Int)] (And.intro (fun _ => rfl) ?_))
    refine SeqN.go ?_
    replace h := Option.some.inj h
    refine RetE.plain ?_
    refine And.intro ⟨Nat.le_of_ble_eq_true rfl, Nat.le_of_ble_eq_true rfl⟩ (Exists.intro (AV.agg [AV.int .i64 (0 : Int), AV.int .i64 (0 : Int)]) (And.intro rfl ?_))
    exact And.intro rfl (And.intro (congrArg (fun r : (S_Body × Int) => AV.tup [S_Body.av (r.1), AV.int .i64 (r.2)]) h) rfl)
  · replace h := cond_ff h ht
    refine SeqN.go ?_
    refine SeqJ.go ?_
    refine bind_elim h fun x3 hx3 h => ?_
    refine CallH.data _ false rfl (frame_say_ok E (a0.Minor) a1 (S_Body.mk (0 : Int) (0 : Int)) x3 hx3) ?_
    refine And.intro ⟨rfl, rfl, rfl, Nat.le_of_ble_eq_true rfl⟩ (Exists.intro (S_Body.cells (x3.1)) (And.intro (fun _ => rfl) ?_))
    refine SeqN.go ?_
    replace h := Option.some.inj h
    refine RetE.plain ?_
    refine And.intro ⟨Nat.le_of_ble_eq_true rfl, Nat.le_of_ble_eq_true rfl⟩ (Exists.intro (S_Body.av (x3.1)) (And.intro rfl ?_))
    exact And.intro rfl (And.intro (congrArg (fun r : (S_Body × Int) => AV.tup [S_Body.av (r.1), AV.int .i64 (r.2)]) h) rfl)

theorem intarsiaref03_Control_ok (E : Pm.Env) [LaidE E] (a0 : Int) (r : Bool) (h : intarsiaref03_Control a0 = some r) : FnR E Tryd.prog 38 [AV.int .u8 a0] (AV.bool r) false := by
  refine FnR.of_ev (T := T) (rows := []) tOk mixed Tryd.func38 rfl (by kernel_rfl) (by kernel_rfl) rfl fun hwf => ?_
  unfold intarsiaref03_Control at h
  refine SeqJ.go ?_
  refine SeqN.go ?_
  refine SeqJ.go ?_
  refine And.intro (fun hg => hg) ?_
  refine And.intro (fun hg => (and_r hg)) ?_
  refine And.intro (fun hg => hg) ?_
  refine And.intro (fun hg => (and_r hg)) ?_
  refine SeqN.go ?_
  replace h := Option.some.inj h
  refine RetE.plain ?_
  exact And.intro rfl (And.intro (congrArg (fun r : Bool => AV.bool r) h) rfl)

theorem intarsiaref03_blank_ok (E : Pm.Env) [LaidE E] (a0 : Int) (r : Bool) (h : intarsiaref03_blank a0 = some r) : FnR E Tryd.prog 69 [AV.int .u8 a0] (AV.bool r) false := by
  refine FnR.of_ev (T := T) (rows := []) tOk mixed Tryd.func69 rfl (by kernel_rfl) (by kernel_rfl) rfl fun hwf => ?_
  unfold intarsiaref03_blank at h
  refine SeqJ.go ?_
  refine SeqN.go ?_
  refine SeqJ.go ?_
  refine And.intro (fun hg => hg) ?_
  refine And.intro (fun hg => (and_r hg)) ?_
  refine SeqN.go ?_
  replace h := Option.some.inj h
  refine RetE.plain ?_
  exact And.intro rfl (And.intro (congrArg (fun r : Bool => AV.bool r) h) rfl)

theorem intarsiaref03_Trim_ok (E : Pm.Env) [LaidE E] (a0 : Bytes) (r : Bytes) (h : intarsiaref03_Trim a0 = some r) : FnR E Tryd.prog 39 [AV.str a0] (AV.str r) false := by
  refine FnR.of_ev (T := T) (rows := []) tOk mixed Tryd.func39 rfl (by kernel_rfl) (by kernel_rfl) rfl fun hwf => ?_
  unfold intarsiaref03_Trim at h
  refine SeqJ.go ?_
  refine SeqN.go ?_
  refine bind_elim h fun j1 hj1 h => ?_
  refine SeqJ.join (St.of [⟨0, AV.str j1, none⟩] [] []) ?_ ?_
  · clear h; have h := hj1; clear hj1
    refine LoopE.img (fun x : Bytes => St.of [⟨0, AV.str x, none⟩] [] []) (intarsiaref03_Trim_b1) a0 h ?_ ?_
    · refine Gho.to [⟨0, AV.str a0, none⟩] [] [] [] ?_ ?_ ?_ rfl rfl ?_
      · exact trivial
      · exact rfl
      · exact rfl
      · exact ⟨rfl, rfl, trivial, trivial⟩
    intro n1 x y1 h hl1 hr1
    revert h; revert x; intro s2 h
    unfold intarsiaref03_Trim_b1 at h
    refine SeqJ.go ?_
    refine SeqJ.go ?_
    refine NormE.same ?_
    refine bind_elim h fun x3 hx3 h => ?_
    refine And.intro (fun hg => hg) ?_
    refine Exists.intro x3 (And.intro (fun hg => gidx_some hx3 hg) ?_)
    refine bind_elim h fun x4 hx4 h => ?_
    refine And.intro (fun hg => hg) ?_
    refine And.intro rfl ?_
    refine CallF.mk _ false (fun hg => intarsiaref03_blank_ok E (x3.toNat : Int) x4 (gcall_some hx4 hg)) (And.intro rfl ?_)
    refine And.intro (fun hg => (and_r hg)) ?_
    refine SeqN.go ?_
    refine Br.mk (fun ht => ?_) (fun ht => ?_)
    · replace h := cond_tt h ht
      refine SeqN.go ?_
      refine bind_elim h fun x5 hx5 h => ?_
      have qx5 := (slc_some hx5).1
      have hx5e := (slc_some hx5).2
      refine And.intro (fun _ => qx5) ?_
      refine NormE.to (AV.str x5) (fun _ => congrArg AV.str hx5e.symm) ?_
      replace h := Option.some.inj h
      refine Exists.intro ⟨(n1, x5), hl1 _ h.symm⟩ (And.intro (Nat.lt_succ_self _) ?_)
      refine Gho.to [⟨0, AV.str x5, none⟩] [] [] [] ?_ ?_ ?_ rfl rfl ?_
      · exact trivial
      · exact rfl
      · exact rfl
      · exact ⟨rfl, rfl, trivial, trivial⟩
    · replace h := cond_ff h ht
      replace h := Option.some.inj h
      replace h := hr1 _ h.symm
      subst h
      refine Gho.to [⟨0, AV.str s2, none⟩] [] [] [] ?_ ?_ ?_ rfl rfl ?_
      · exact trivial
      · exact rfl
      · exact rfl
      · exact ⟨rfl, rfl, trivial, trivial⟩
  · clear hj1
    refine bind_elim h fun j6 hj6 h => ?_
    refine SeqJ.join (St.of [⟨0, AV.str j6, none⟩] [] []) ?_ ?_
    · clear h; have h := hj6; clear hj6
      refine LoopE.img (fun x : Bytes => St.of [⟨0, AV.str x, none⟩] [] []) (intarsiaref03_Trim_b2) j1 h ?_ ?_
      · refine Gho.to [⟨0, AV.str j1, none⟩] [] [] [] ?_ ?_ ?_ rfl rfl ?_
        · exact trivial
        · exact rfl
        · exact rfl
        · exact ⟨rfl, rfl, trivial, trivial⟩
      intro n2 x y2 h hl2 hr2
      revert h; revert x; intro s7 h
      unfold intarsiaref03_Trim_b2 at h
      refine SeqJ.go ?_
      refine SeqJ.go ?_
      refine NormE.same ?_
      refine And.intro (fun hg => hg) ?_
      refine NormE.same ?_
      refine And.intro (fun hg => hg) ?_
      refine bind_elim h fun x8 hx8 h => ?_
      refine And.intro (fun hg => hg) ?_
      refine And.intro (fun hg => hg) ?_
      refine Exists.intro x8 (And.intro (fun hg => gidx_some hx8 hg) ?_)
      refine bind_elim h fun x9 hx9 h => ?_
      refine And.intro (fun hg => hg) ?_
      refine And.intro rfl ?_
      refine CallF.mk _ false (fun hg => intarsiaref03_blank_ok E (x8.toNat : Int) x9 (gcall_some hx9 hg)) (And.intro rfl ?_)
      refine And.intro (fun hg => (and_r hg)) ?_
      refine SeqN.go ?_
      refine Br.mk (fun ht => ?_) (fun ht => ?_)
      · replace h := cond_tt h ht
        refine SeqN.go ?_
        refine NormE.same ?_
        refine bind_elim h fun x10 hx10 h => ?_
        have qx10 := (slc_some hx10).1
        have hx10e := (slc_some hx10).2
        refine And.intro (fun _ => qx10) ?_
        refine NormE.to (AV.str x10) (fun _ => congrArg AV.str hx10e.symm) ?_
        replace h := Option.some.inj h
        refine Exists.intro ⟨(n2, x10), hl2 _ h.symm⟩ (And.intro (Nat.lt_succ_self _) ?_)
        refine Gho.to [⟨0, AV.str x10, none⟩] [] [] [] ?_ ?_ ?_ rfl rfl ?_
        · exact trivial
        · exact rfl
        · exact rfl
        · exact ⟨rfl, rfl, trivial, trivial⟩
      · replace h := cond_ff h ht
        replace h := Option.some.inj h
        replace h := hr2 _ h.symm
        subst h
        refine Gho.to [⟨0, AV.str s7, none⟩] [] [] [] ?_ ?_ ?_ rfl rfl ?_
        · exact trivial
        · exact rfl
        · exact rfl
        · exact ⟨rfl, rfl, trivial, trivial⟩
    · clear hj6
      refine SeqJ.go ?_
      refine SeqN.go ?_
      replace h := Option.some.inj h
      refine RetE.plain ?_
      exact And.intro rfl (And.intro (congrArg (fun r : Bytes => AV.str r) h) rfl)

theorem intarsiaref05_find_ok (E : Pm.Env) [LaidE E] (a0 : Bytes) (a1 : Int) (r : Int) (h : intarsiaref05_find a0 a1 = some r) : FnR E Tryd.prog 70 [AV.str a0, AV.int .u8 a1] (AV.int .i64 r) false := by
  refine FnR.of_ev (T := T) (rows := []) tOk mixed Tryd.func70 rfl (by kernel_rfl) (by kernel_rfl) rfl fun hwf => ?_
  unfold intarsiaref05_find at h
  refine SeqJ.go ?_
  refine SeqN.go ?_
  refine SeqJ.go ?_
  refine SeqJ.go ?_
  refine SeqN.go ?_
  refine LoopE.img (fun x : Int => St.of [⟨0, AV.str a0, none⟩, ⟨1, AV.int .u8 a1, none⟩, ⟨5, AV.int .i64 x, none⟩] [] []) (intarsiaref05_find_b1 a0 a1) (0 : Int) h ?_ ?_
  · refine Gho.to [⟨0, AV.str a0, none⟩, ⟨1, AV.int .u8 a1, none⟩, ⟨5, AV.int .i64 (0 : Int), none⟩] [] [] [] ?_ ?_ ?_ rfl rfl ?_
    · exact trivial
    · exact rfl
    · exact rfl
    · exact ⟨rfl, rfl, trivial, rfl, rfl, trivial, rfl, rfl, trivial, trivial⟩
  intro n1 x y1 h hl1 hr1
  revert h; revert x; intro s1 h
  unfold intarsiaref05_find_b1 at h
  refine SeqJ.go ?_
  refine SeqJ.go ?_
  refine NormE.same ?_
  refine SeqN.go ?_
  refine Br.mk (fun ht => ?_) (fun ht => ?_)
  · replace h := cond_tt h ht
    refine SeqN.go ?_
    refine SeqJ.go ?_
    refine SeqJ.go ?_
    refine bind_elim h fun x2 hx2 h => ?_
    refine Exists.intro x2 (And.intro (fun hg => idx_some hx2) ?_)
    refine SeqN.go ?_
    refine Br.mk (fun ht => ?_) (fun ht => ?_)
    · replace h := cond_tt h ht
      refine SeqJ.go ?_
      refine SeqN.go ?_
      replace h := Option.some.inj h
      replace h := hr1 _ h.symm
      refine RetE.plain ?_
      exact And.intro rfl (And.intro (congrArg (fun r : Int => AV.int .i64 r) h) rfl)
    · replace h := cond_ff h ht
      refine SeqN.go ?_
      replace h := Option.some.inj h
      refine Exists.intro ⟨(n1, (IntKind.i64.wrap (s1 + (1 : Int)))), hl1 _ h.symm⟩ (And.intro (Nat.lt_succ_self _) ?_)
      refine Gho.to [⟨0, AV.str a0, none⟩, ⟨1, AV.int .u8 a1, none⟩, ⟨5, AV.int .i64 (IntKind.i64.wrap (s1 + (1 : Int))), none⟩] [] [] [] ?_ ?_ ?_ rfl rfl ?_
      · exact trivial
      · exact rfl
      · exact rfl
      · exact ⟨rfl, rfl, trivial, rfl, rfl, trivial, rfl, rfl, trivial, trivial⟩
  · replace h := cond_ff h ht
    refine SeqN.go ?_
    refine SeqJ.go ?_
    refine SeqN.go ?_
    replace h := Option.some.inj h
    replace h := hr1 _ h.symm
    refine RetE.plain ?_
    exact And.intro rfl (And.intro (congrArg (fun r : Int => AV.int .i64 r) h) rfl)

theorem intarsiaref05_Bytes_ok (E : Pm.Env) [LaidE E] (a0 : Bytes) (r : Bool) (h : intarsiaref05_Bytes a0 = some r) : FnR E Tryd.prog 40 [AV.str a0] (AV.bool r) false := by
  refine FnR.of_ev (T := T) (rows := []) tOk mixed Tryd.func40 rfl (by kernel_rfl) (by kernel_rfl) rfl fun hwf => ?_
  unfold intarsiaref05_Bytes at h
  refine SeqJ.go ?_
  refine SeqN.go ?_
  refine SeqJ.go ?_
  refine SeqJ.go ?_
  refine SeqN.go ?_
  refine LoopE.img (fun x : Int => St.of [⟨0, AV.str a0, none⟩, ⟨3, AV.int .i64 x, none⟩] [] []) (intarsiaref05_Bytes_b1 a0) (0 : Int) h ?_ ?_
  · refine Gho.to [⟨0, AV.str a0, none⟩, ⟨3, AV.int .i64 (0 : Int), none⟩] [] [] [] ?_ ?_ ?_ rfl rfl ?_
    · exact trivial
    · exact rfl
    · exact rfl
    · exact ⟨rfl, rfl, trivial, rfl, rfl, trivial, trivial⟩
  intro n1 x y1 h hl1 hr1
  revert h; revert x; intro s1 h
  unfold intarsiaref05_Bytes_b1 at h
  refine SeqJ.go ?_
  refine SeqJ.go ?_
  refine NormE.same ?_
  refine SeqN.go ?_
  refine Br.mk (fun ht => ?_) (fun ht => ?_)
  · replace h := cond_tt h ht
    refine SeqN.go ?_
    refine SeqJ.go ?_
    refine SeqJ.go ?_
    refine bind_elim h fun x2 hx2 h => ?_
    refine Exists.intro x2 (And.intro (fun hg => idx_some hx2) ?_)
    refine SeqN.go ?_
    refine SeqJ.go ?_
    refine And.intro (fun hg => hg) ?_
    refine And.intro (fun hg => (and_r hg)) ?_
    refine And.intro (fun hg => hg) ?_
    refine And.intro (fun hg => (and_r hg)) ?_
    refine bind_elim h fun x3 hx3 h => ?_
    refine And.intro (fun hg => hg) ?_
    refine And.intro rfl ?_
    refine CallF.mk _ false (fun hg => intarsiaref05_find_ok E ([34, 35, 60, 62, 92, 94, 123, 124, 125] : Bytes) (x2.toNat : Int) x3 (gcall_some hx3 hg)) (And.intro rfl ?_)
    refine And.intro (fun hg => hg) ?_
    refine And.intro (fun hg => (and_r hg)) ?_
    refine SeqN.via (St.of [⟨0, AV.str a0, none⟩, ⟨3, AV.int .i64 s1, none⟩, ⟨28, AV.bool (bif (bif (bif (decide ((x2.toNat : Int) < (33 : Int))) then true else (decide ((x2.toNat : Int) > (126 : Int)))) then true else ((x2.toNat : Int) == (96 : Int))) then true else (decide (x3 ≥ (0 : Int)))), none⟩] [] []) ?_ ?_
    · refine Gho.to [⟨0, AV.str a0, none⟩, ⟨3, AV.int .i64 s1, none⟩, ⟨28, AV.bool (bif (bif (bif (decide ((x2.toNat : Int) < (33 : Int))) then true else (decide ((x2.toNat : Int) > (126 : Int)))) then true else ((x2.toNat : Int) == (96 : Int))) then true else (decide (x3 ≥ (0 : Int)))), none⟩] [] [] [] ?_ ?_ ?_ rfl rfl ?_
      · exact trivial
      · exact rfl
      · exact rfl
      · exact ⟨rfl, rfl, trivial, rfl, rfl, trivial, rfl, rfl, trivial, trivial⟩
    refine Br.mk (fun ht => ?_) (fun ht => ?_)
    · replace h := cond_tt h ht
      refine SeqJ.go ?_
      refine SeqN.go ?_
      replace h := Option.some.inj h
      replace h := hr1 _ h.symm
      refine RetE.plain ?_
      exact And.intro rfl (And.intro (congrArg (fun r : Bool => AV.bool r) h) rfl)
    · replace h := cond_ff h ht
      refine SeqN.go ?_
      replace h := Option.some.inj h
      refine Exists.intro ⟨(n1, (IntKind.i64.wrap (s1 + (1 : Int)))), hl1 _ h.symm⟩ (And.intro (Nat.lt_succ_self _) ?_)
      refine Gho.to [⟨0, AV.str a0, none⟩, ⟨3, AV.int .i64 (IntKind.i64.wrap (s1 + (1 : Int))), none⟩] [] [] [] ?_ ?_ ?_ rfl rfl ?_
      · exact trivial
      · exact rfl
      · exact rfl
      · exact ⟨rfl, rfl, trivial, rfl, rfl, trivial, trivial⟩
  · replace h := cond_ff h ht
    refine SeqN.go ?_
    refine SeqJ.go ?_
    refine SeqN.go ?_
    replace h := Option.some.inj h
    replace h := hr1 _ h.symm
    refine RetE.plain ?_
    exact And.intro rfl (And.intro (congrArg (fun r : Bool => AV.bool r) h) rfl)

theorem intarsiaref03_word_ok (E : Pm.Env) [LaidE E] (a0 : Int) (r : Bool) (h : intarsiaref03_word a0 = some r) : FnR E Tryd.prog 71 [AV.int .u8 a0] (AV.bool r) false := by
  refine FnR.of_ev (T := T) (rows := []) tOk mixed Tryd.func71 rfl (by kernel_rfl) (by kernel_rfl) rfl fun hwf => ?_
  unfold intarsiaref03_word at h
  refine SeqJ.go ?_
  refine SeqN.go ?_
  refine SeqJ.go ?_
  refine SeqJ.go ?_
  refine And.intro (fun hg => hg) ?_
  refine And.intro (fun hg => (and_r hg)) ?_
  refine And.intro (fun hg => hg) ?_
  refine And.intro (fun hg => hg) ?_
  refine And.intro (fun hg => hg) ?_
  refine And.intro (fun hg => hg) ?_
  refine And.intro (fun hg => hg) ?_
  refine And.intro (fun hg => (and_r hg)) ?_
  refine And.intro (fun hg => hg) ?_
  refine And.intro (fun hg => hg) ?_
  refine And.intro (fun hg => hg) ?_
  refine And.intro (fun hg => hg) ?_
  refine And.intro (fun hg => hg) ?_
  refine And.intro (fun hg => (and_r hg)) ?_
  refine And.intro (fun hg => hg) ?_
  refine And.intro (fun hg => (and_r hg)) ?_
  refine SeqN.via (St.of [⟨0, AV.int .u8 a0, none⟩, ⟨30, AV.bool (bif (bif (bif (bif (decide (a0 ≥ (97 : Int))) then (decide (a0 ≤ (122 : Int))) else false) then true else (bif (decide (a0 ≥ (65 : Int))) then (decide (a0 ≤ (90 : Int))) else false)) then true else (bif (decide (a0 ≥ (48 : Int))) then (decide (a0 ≤ (57 : Int))) else false)) then true else (a0 == (96 : Int))), none⟩] [] []) ?_ ?_
  · refine Gho.to [⟨0, AV.int .u8 a0, none⟩, ⟨30, AV.bool (bif (bif (bif (bif (decide (a0 ≥ (97 : Int))) then (decide (a0 ≤ (122 : Int))) else false) then true else (bif (decide (a0 ≥ (65 : Int))) then (decide (a0 ≤ (90 : Int))) else false)) then true else (bif (decide (a0 ≥ (48 : Int))) then (decide (a0 ≤ (57 : Int))) else false)) then true else (a0 == (96 : Int))), none⟩] [] [] [] ?_ ?_ ?_ rfl rfl ?_
    · exact trivial
    · exact rfl
    · exact rfl
    · exact ⟨rfl, rfl, trivial, rfl, rfl, trivial, trivial⟩
  refine Br.mk (fun ht => ?_) (fun ht => ?_)
  · replace h := cond_tt h ht
    refine SeqJ.go ?_
    refine SeqN.go ?_
    replace h := Option.some.inj h
    refine RetE.plain ?_
    exact And.intro rfl (And.intro (congrArg (fun r : Bool => AV.bool r) h) rfl)
  · replace h := cond_ff h ht
    refine SeqN.go ?_
    refine SeqJ.go ?_
    refine SeqN.go ?_
    refine SeqJ.go ?_
    refine SeqJ.go ?_
    refine SeqN.go ?_
    refine LoopE.img (fun x : Int => St.of [⟨0, AV.int .u8 a0, none⟩, ⟨3, AV.str ([33, 35, 36, 37, 38, 39, 42, 43, 45, 46, 94, 95, 124, 126] : Bytes), none⟩, ⟨4, AV.int .i64 x, none⟩] [] []) (intarsiaref03_word_b1 a0) (0 : Int) h ?_ ?_
    · refine Gho.to [⟨0, AV.int .u8 a0, none⟩, ⟨3, AV.str ([33, 35, 36, 37, 38, 39, 42, 43, 45, 46, 94, 95, 124, 126] : Bytes), none⟩, ⟨4, AV.int .i64 (0 : Int), none⟩] [] [] [] ?_ ?_ ?_ rfl rfl ?_
      · exact trivial
      · exact rfl
      · exact rfl
      · exact ⟨rfl, rfl, trivial, rfl, rfl, trivial, rfl, rfl, trivial, trivial⟩
    intro n1 x y1 h hl1 hr1
    revert h; revert x; intro s1 h
    unfold intarsiaref03_word_b1 at h
    refine SeqJ.go ?_
    refine SeqJ.go ?_
    refine NormE.same ?_
    refine SeqN.go ?_
    refine Br.mk (fun ht => ?_) (fun ht => ?_)
    · replace h := cond_tt h ht
      refine SeqN.go ?_
      refine SeqJ.go ?_
      refine SeqJ.go ?_
      refine bind_elim h fun x2 hx2 h => ?_
      refine Exists.intro x2 (And.intro (fun hg => idx_some hx2) ?_)
      refine SeqN.go ?_
      refine Br.mk (fun ht => ?_) (fun ht => ?_)
      · replace h := cond_tt h ht
        refine SeqJ.go ?_
        refine SeqN.go ?_
        replace h := Option.some.inj h
        replace h := hr1 _ h.symm
        refine RetE.plain ?_
        exact And.intro rfl (And.intro (congrArg (fun r : Bool => AV.bool r) h) rfl)
      · replace h := cond_ff h ht
        refine SeqN.go ?_
        replace h := Option.some.inj h
        refine Exists.intro ⟨(n1, (IntKind.i64.wrap (s1 + (1 : Int)))), hl1 _ h.symm⟩ (And.intro (Nat.lt_succ_self _) ?_)
        refine Gho.to [⟨0, AV.int .u8 a0, none⟩, ⟨3, AV.str ([33, 35, 36, 37, 38, 39, 42, 43, 45, 46, 94, 95, 124, 126] : Bytes), none⟩, ⟨4, AV.int .i64 (IntKind.i64.wrap (s1 + (1 : Int))), none⟩] [] [] [] ?_ ?_ ?_ rfl rfl ?_
        · exact trivial
        · exact rfl
        · exact rfl
        · exact ⟨rfl, rfl, trivial, rfl, rfl, trivial, rfl, rfl, trivial, trivial⟩
    · replace h := cond_ff h ht
      refine SeqN.go ?_
      refine SeqJ.go ?_
      refine SeqN.go ?_
      replace h := Option.some.inj h
      replace h := hr1 _ h.symm
      refine RetE.plain ?_
      exact And.intro rfl (And.intro (congrArg (fun r : Bool => AV.bool r) h) rfl)

theorem intarsiaref03_Token_ok (E : Pm.Env) [LaidE E] (a0 : Bytes) (r : Bool) (h : intarsiaref03_Token a0 = some r) : FnR E Tryd.prog 41 [AV.str a0] (AV.bool r) false := by
  refine FnR.of_ev (T := T) (rows := []) tOk mixed Tryd.func41 rfl (by kernel_rfl) (by kernel_rfl) rfl fun hwf => ?_
  unfold intarsiaref03_Token at h
  refine SeqJ.go ?_
  refine SeqN.go ?_
  refine SeqJ.go ?_
  refine SeqJ.go ?_
  refine SeqN.go ?_
  refine LoopE.img (fun x : Int => St.of [⟨0, AV.str a0, none⟩, ⟨3, AV.int .i64 x, none⟩] [] []) (intarsiaref03_Token_b1 a0) (0 : Int) h ?_ ?_
  · refine Gho.to [⟨0, AV.str a0, none⟩, ⟨3, AV.int .i64 (0 : Int), none⟩] [] [] [] ?_ ?_ ?_ rfl rfl ?_
    · exact trivial
    · exact rfl
    · exact rfl
    · exact ⟨rfl, rfl, trivial, rfl, rfl, trivial, trivial⟩
  intro n1 x y1 h hl1 hr1
  revert h; revert x; intro s1 h
  unfold intarsiaref03_Token_b1 at h
  refine SeqJ.go ?_
  refine SeqJ.go ?_
  refine NormE.same ?_
  refine SeqN.go ?_
  refine Br.mk (fun ht => ?_) (fun ht => ?_)
  · replace h := cond_tt h ht
    refine SeqN.go ?_
    refine SeqJ.go ?_
    refine SeqJ.go ?_
    refine bind_elim h fun x2 hx2 h => ?_
    refine Exists.intro x2 (And.intro (fun hg => idx_some hx2) ?_)
    refine bind_elim h fun x3 hx3 h => ?_
    refine CallH.data _ false rfl (intarsiaref03_word_ok E (x2.toNat : Int) x3 hx3) ?_
    refine SeqN.go ?_
    refine Br.mk (fun ht => ?_) (fun ht => ?_)
    · replace h := cond_tt h ht
      refine SeqJ.go ?_
      refine SeqN.go ?_
      replace h := Option.some.inj h
      replace h := hr1 _ h.symm
      refine RetE.plain ?_
      exact And.intro rfl (And.intro (congrArg (fun r : Bool => AV.bool r) h) rfl)
    · replace h := cond_ff h ht
      refine SeqN.go ?_
      replace h := Option.some.inj h
      refine Exists.intro ⟨(n1, (IntKind.i64.wrap (s1 + (1 : Int)))), hl1 _ h.symm⟩ (And.intro (Nat.lt_succ_self _) ?_)
      refine Gho.to [⟨0, AV.str a0, none⟩, ⟨3, AV.int .i64 (IntKind.i64.wrap (s1 + (1 : Int))), none⟩] [] [] [] ?_ ?_ ?_ rfl rfl ?_
      · exact trivial
      · exact rfl
      · exact rfl
      · exact ⟨rfl, rfl, trivial, rfl, rfl, trivial, trivial⟩
  · replace h := cond_ff h ht
    refine SeqN.go ?_
    refine SeqJ.go ?_
    refine SeqN.go ?_
    replace h := Option.some.inj h
    replace h := hr1 _ h.symm
    refine RetE.plain ?_
    exact And.intro rfl (And.intro (congrArg (fun r : Bool => AV.bool r) h) rfl)

theorem intarsiaref06_Right_ok (E : Pm.Env) [LaidE E] (a0 : S_Start) (r : Bool) (h : intarsiaref06_Right a0 = some r) : FnR E Tryd.prog 17 [S_Start.av a0] (AV.bool r) false := by
  refine FnR.of_ev (T := T) (rows := []) tOk mixed Tryd.func17 rfl (by kernel_rfl) (by kernel_rfl) rfl fun hwf => ?_
  unfold intarsiaref06_Right at h
  refine SeqJ.go ?_
  refine And.intro rfl ?_
  refine SeqN.go ?_
  refine SeqJ.go ?_
  refine SeqJ.go ?_
  refine And.intro (fun hg => hg) ?_
  refine And.intro (fun hg => hg) ?_
  refine And.intro (fun hg => (and_r hg)) ?_
  refine SeqN.go ?_
  refine Br.mk (fun ht => ?_) (fun ht => ?_)
  · replace h := cond_tt h ht
    refine SeqJ.go ?_
    refine SeqN.go ?_
    replace h := Option.some.inj h
    refine RetE.plain ?_
    exact And.intro rfl (And.intro (congrArg (fun r : Bool => AV.bool r) h) rfl)
  · replace h := cond_ff h ht
    refine SeqN.go ?_
    refine SeqJ.go ?_
    refine SeqJ.go ?_
    refine SeqN.go ?_
    refine Br.mk (fun ht => ?_) (fun ht => ?_)
    · replace h := cond_tt h ht
      refine SeqJ.go ?_
      refine SeqJ.go ?_
      refine SeqN.go ?_
      refine LoopE.img (fun x : Int => St.of [⟨1, AV.ptr 0 0, none⟩, ⟨3, AV.int .i64 x, none⟩] [.cells 23 (S_Start.cells a0) []] []) (intarsiaref06_Right_b1 a0) (0 : Int) h ?_ ?_
      · refine Gho.to [⟨1, AV.ptr 0 0, none⟩, ⟨3, AV.int .i64 (0 : Int), none⟩] [.cells 23 (S_Start.cells a0) []] [] [] ?_ ?_ ?_ rfl rfl ?_
        · exact ⟨⟨rfl, rfl, rfl⟩, trivial⟩
        · exact rfl
        · exact rfl
        · exact ⟨rfl, rfl, trivial, rfl, rfl, trivial, trivial⟩
      intro n1 x y1 h hl1 hr1
      revert h; revert x; intro s1 h
      unfold intarsiaref06_Right_b1 at h
      refine SeqJ.go ?_
      refine SeqJ.go ?_
      refine NormE.same ?_
      refine SeqN.go ?_
      refine Br.mk (fun ht => ?_) (fun ht => ?_)
      · replace h := cond_tt h ht
        refine SeqN.go ?_
        refine SeqJ.go ?_
        refine SeqJ.go ?_
        refine bind_elim h fun x2 hx2 h => ?_
        refine Exists.intro x2 (And.intro (fun hg => idx_some hx2) ?_)
        refine bind_elim h fun x3 hx3 h => ?_
        refine CallH.data _ false rfl (intarsiaref03_Control_ok E (x2.toNat : Int) x3 hx3) ?_
        refine SeqN.go ?_
        refine Br.mk (fun ht => ?_) (fun ht => ?_)
        · replace h := cond_tt h ht
          refine SeqJ.go ?_
          refine SeqN.go ?_
          replace h := Option.some.inj h
          replace h := hr1 _ h.symm
          refine RetE.plain ?_
          exact And.intro rfl (And.intro (congrArg (fun r : Bool => AV.bool r) h) rfl)
        · replace h := cond_ff h ht
          refine SeqN.go ?_
          replace h := Option.some.inj h
          refine Exists.intro ⟨(n1, (IntKind.i64.wrap (s1 + (1 : Int)))), hl1 _ h.symm⟩ (And.intro (Nat.lt_succ_self _) ?_)
          refine Gho.to [⟨1, AV.ptr 0 0, none⟩, ⟨3, AV.int .i64 (IntKind.i64.wrap (s1 + (1 : Int))), none⟩] [.cells 23 (S_Start.cells a0) []] [] [] ?_ ?_ ?_ rfl rfl ?_
          · exact ⟨⟨rfl, rfl, rfl⟩, trivial⟩
          · exact rfl
          · exact rfl
          · exact ⟨rfl, rfl, trivial, rfl, rfl, trivial, trivial⟩
      · replace h := cond_ff h ht
        refine SeqN.go ?_
        refine SeqJ.go ?_
        refine And.intro (fun hg => hg) ?_
        refine And.intro (fun hg => hg) ?_
        refine And.intro (fun hg => (and_r hg)) ?_
        refine And.intro (fun hg => hg) ?_
        refine And.intro (fun hg => hg) ?_
        refine And.intro (fun hg => (and_r hg)) ?_
        refine And.intro (fun hg => hg) ?_
        refine And.intro (fun hg => hg) ?_
        refine And.intro (fun hg => (and_r hg)) ?_
        refine And.intro (fun hg => hg) ?_
        refine And.intro (fun hg => hg) ?_
        refine NormE.same ?_
        refine And.intro (fun hg => hg) ?_
        refine And.intro (fun hg => (and_r hg)) ?_
        refine And.intro (fun hg => hg) ?_
        refine bind_elim h fun x4 hx4 h => ?_
        refine And.intro (fun hg => hg) ?_
        refine And.intro rfl ?_
        refine CallF.mk _ false (fun hg => intarsiaref03_Trim_ok E (a0.Reason) x4 (gcall_some hx4 hg)) (And.intro rfl ?_)
        refine And.intro (fun hg => hg) ?_
        refine And.intro (fun hg => hg) ?_
        refine And.intro (fun hg => hg) ?_
        refine And.intro (fun hg => (and_r hg)) ?_
        refine And.intro (by kernel_rfl) ?_
        refine SeqN.via (St.of [⟨2, AV.bool (bif (bif (bif (bif (bif (decide ((a0.Code) ≥ (100 : Int))) then (decide ((a0.Code) < (600 : Int))) else false) then (a0.Method == ([] : Bytes)) else false) then (a0.Target == ([] : Bytes)) else false) then (decide (((a0.Reason).length : Int) ≤ (100 : Int))) else false) then (x4 == a0.Reason) else false), none⟩] [] []) ?_ ?_
        · refine Gho.to [⟨2, AV.bool (bif (bif (bif (bif (bif (decide ((a0.Code) ≥ (100 : Int))) then (decide ((a0.Code) < (600 : Int))) else false) then (a0.Method == ([] : Bytes)) else false) then (a0.Target == ([] : Bytes)) else false) then (decide (((a0.Reason).length : Int) ≤ (100 : Int))) else false) then (x4 == a0.Reason) else false), none⟩] [] [] [] ?_ ?_ ?_ rfl rfl ?_
          · exact trivial
          · exact rfl
          · exact rfl
          · exact ⟨rfl, rfl, trivial, trivial⟩
        replace h := Option.some.inj h
        replace h := hr1 _ h.symm
        refine RetE.plain ?_
        exact And.intro rfl (And.intro (congrArg (fun r : Bool => AV.bool r) h) rfl)
    · replace h := cond_ff h ht
      refine SeqN.go ?_
      refine SeqJ.go ?_
      refine SeqN.via (St.of [⟨1, AV.ptr 0 0, none⟩, ⟨4, AV.str (a0.Target), none⟩] [.cells 23 (S_Start.cells a0) []] []) ?_ ?_
      · refine Gho.to [⟨1, AV.ptr 0 0, none⟩, ⟨4, AV.str (a0.Target), none⟩] [.cells 23 (S_Start.cells a0) []] [] [] ?_ ?_ ?_ rfl rfl ?_
        · exact ⟨⟨rfl, rfl, rfl⟩, trivial⟩
        · exact rfl
        · exact rfl
        · exact ⟨rfl, rfl, trivial, rfl, rfl, trivial, trivial⟩
      refine SeqJ.go ?_
      refine And.intro (fun hg => hg) ?_
      refine NormE.same ?_
      refine And.intro (fun hg => hg) ?_
      refine And.intro (fun hg => hg) ?_
      refine And.intro (fun hg => hg) ?_
      refine NormE.same ?_
      refine And.intro (fun hg => hg) ?_
      refine And.intro (fun hg => hg) ?_
      refine And.intro (fun hg => hg) ?_
      refine And.intro (fun hg => hg) ?_
      refine bind_elim h fun x5 hx5 h => ?_
      refine And.intro (fun hg => hg) ?_
      refine And.intro rfl ?_
      refine CallF.mk _ false (fun hg => intarsiaref05_Bytes_ok E (a0.Target) x5 (gcall_some hx5 hg)) (And.intro rfl ?_)
      refine And.intro (fun hg => hg) ?_
      refine And.intro (fun hg => hg) ?_
      refine And.intro (fun hg => hg) ?_
      refine bind_elim h fun x6 hx6 h => ?_
      refine And.intro (fun hg => hg) ?_
      refine Exists.intro x6 (And.intro (fun hg => gidx_some hx6 hg) ?_)
      refine And.intro (fun hg => hg) ?_
      refine And.intro (fun hg => hg) ?_
      refine And.intro (fun hg => hg) ?_
      refine NormE.same ?_
      refine And.intro (fun hg => hg) ?_
      refine And.intro (fun hg => hg) ?_
      refine bind_elim h fun x7 hx7 h => ?_
      have qx7 := (gslc_some hx7).1
      have hx7e := (gslc_some hx7).2
      refine And.intro (fun hg => hg) ?_
      refine And.intro qx7 ?_
      refine NormE.to (AV.str x7) (fun _ => congrArg AV.str hx7e.symm) ?_
      refine And.intro (fun hg => hg) ?_
      refine And.intro (fun hg => hg) ?_
      refine And.intro (fun hg => hg) ?_
      refine And.intro (fun hg => hg) ?_
      refine And.intro (fun hg => hg) ?_
      refine And.intro (fun hg => hg) ?_
      refine And.intro (fun hg => hg) ?_
      refine And.intro (fun hg => (and_r hg)) ?_
      refine SeqN.via (St.of [⟨1, AV.ptr 0 0, none⟩, ⟨5, AV.bool (bif (a0.Target == ([42] : Bytes)) then true else (bif (bif (bif (decide (((a0.Target).length : Int) > (0 : Int))) then (decide (((a0.Target).length : Int) ≤ (500 : Int))) else false) then x5 else false) then (bif ((x6.toNat : Int) == (47 : Int)) then true else (bif (decide (((a0.Target).length : Int) ≥ (7 : Int))) then (x7 == ([104, 116, 116, 112, 58, 47, 47] : Bytes)) else false)) else false)), none⟩] [.cells 23 (S_Start.cells a0) []] []) ?_ ?_
      · refine Gho.to [⟨1, AV.ptr 0 0, none⟩, ⟨5, AV.bool (bif (a0.Target == ([42] : Bytes)) then true else (bif (bif (bif (decide (((a0.Target).length : Int) > (0 : Int))) then (decide (((a0.Target).length : Int) ≤ (500 : Int))) else false) then x5 else false) then (bif ((x6.toNat : Int) == (47 : Int)) then true else (bif (decide (((a0.Target).length : Int) ≥ (7 : Int))) then (x7 == ([104, 116, 116, 112, 58, 47, 47] : Bytes)) else false)) else false)), none⟩] [.cells 23 (S_Start.cells a0) []] [] [] ?_ ?_ ?_ rfl rfl ?_
        · exact ⟨⟨rfl, rfl, rfl⟩, trivial⟩
        · exact rfl
        · exact rfl
        · exact ⟨rfl, rfl, trivial, rfl, rfl, trivial, trivial⟩
      refine SeqJ.go ?_
      refine And.intro (fun hg => hg) ?_
      refine And.intro (fun hg => hg) ?_
      refine And.intro (fun hg => (and_r hg)) ?_
      refine And.intro (fun hg => hg) ?_
      refine bind_elim h fun x8 hx8 h => ?_
      refine And.intro (fun hg => hg) ?_
      refine And.intro rfl ?_
      refine CallF.mk _ false (fun hg => intarsiaref03_Token_ok E (a0.Method) x8 (gcall_some hx8 hg)) (And.intro rfl ?_)
      refine And.intro (fun hg => (and_r hg)) ?_
      refine And.intro (fun hg => hg) ?_
      refine And.intro (fun hg => hg) ?_
      refine NormE.same ?_
      refine And.intro (fun hg => hg) ?_
      refine And.intro (fun hg => (and_r hg)) ?_
      refine SeqN.via (St.of [⟨2, AV.bool (bif (bif (bif (bif (a0.Target == ([42] : Bytes)) then true else (bif (bif (bif (decide (((a0.Target).length : Int) > (0 : Int))) then (decide (((a0.Target).length : Int) ≤ (500 : Int))) else false) then x5 else false) then (bif ((x6.toNat : Int) == (47 : Int)) then true else (bif (decide (((a0.Target).length : Int) ≥ (7 : Int))) then (x7 == ([104, 116, 116, 112, 58, 47, 47] : Bytes)) else false)) else false)) then (a0.Reason == ([] : Bytes)) else false) then x8 else false) then (decide (((a0.Method).length : Int) ≤ (20 : Int))) else false), none⟩] [] []) ?_ ?_
      · refine Gho.to [⟨2, AV.bool (bif (bif (bif (bif (a0.Target == ([42] : Bytes)) then true else (bif (bif (bif (decide (((a0.Target).length : Int) > (0 : Int))) then (decide (((a0.Target).length : Int) ≤ (500 : Int))) else false) then x5 else false) then (bif ((x6.toNat : Int) == (47 : Int)) then true else (bif (decide (((a0.Target).length : Int) ≥ (7 : Int))) then (x7 == ([104, 116, 116, 112, 58, 47, 47] : Bytes)) else false)) else false)) then (a0.Reason == ([] : Bytes)) else false) then x8 else false) then (decide (((a0.Method).length : Int) ≤ (20 : Int))) else false), none⟩] [] [] [] ?_ ?_ ?_ rfl rfl ?_
        · exact trivial
        · exact rfl
        · exact rfl
        · exact ⟨rfl, rfl, trivial, trivial⟩
      replace h := Option.some.inj h
      refine RetE.plain ?_
      exact And.intro rfl (And.intro (congrArg (fun r : Bool => AV.bool r) h) rfl)

theorem intarsiaref04_May_ok (E : Pm.Env) [LaidE E] (a0 : S_Field) (r : Bool) (h : intarsiaref04_May a0 = some r) : FnR E Tryd.prog 42 [S_Field.av a0] (AV.bool r) false := by
  refine FnR.of_ev (T := T) (rows := []) tOk mixed Tryd.func42 rfl (by kernel_rfl) (by kernel_rfl) rfl fun hwf => ?_
  unfold intarsiaref04_May at h
  refine SeqJ.go ?_
  refine And.intro rfl ?_
  refine SeqN.go ?_
  refine SeqJ.go ?_
  refine SeqJ.go ?_
  refine SeqN.go ?_
  refine LoopE.img (fun x : Int => St.of [⟨1, AV.ptr 0 0, none⟩, ⟨3, AV.int .i64 x, none⟩] [.cells 40 (S_Field.cells a0) []] []) (intarsiaref04_May_b1 a0) (0 : Int) h ?_ ?_
  · refine Gho.to [⟨1, AV.ptr 0 0, none⟩, ⟨3, AV.int .i64 (0 : Int), none⟩] [.cells 40 (S_Field.cells a0) []] [] [] ?_ ?_ ?_ rfl rfl ?_
    · exact ⟨⟨rfl, rfl, rfl⟩, trivial⟩
    · exact rfl
    · exact rfl
    · exact ⟨rfl, rfl, trivial, rfl, rfl, trivial, trivial⟩
  intro n1 x y1 h hl1 hr1
  revert h; revert x; intro s1 h
  unfold intarsiaref04_May_b1 at h
  refine SeqJ.go ?_
  refine SeqJ.go ?_
  refine NormE.same ?_
  refine SeqN.go ?_
  refine Br.mk (fun ht => ?_) (fun ht => ?_)
  · replace h := cond_tt h ht
    refine SeqN.go ?_
    refine SeqJ.go ?_
    refine SeqJ.go ?_
    refine bind_elim h fun x2 hx2 h => ?_
    refine Exists.intro x2 (And.intro (fun hg => idx_some hx2) ?_)
    refine bind_elim h fun x3 hx3 h => ?_
    refine CallH.data _ false rfl (intarsiaref03_Control_ok E (x2.toNat : Int) x3 hx3) ?_
    refine SeqN.go ?_
    refine Br.mk (fun ht => ?_) (fun ht => ?_)
    · replace h := cond_tt h ht
      refine SeqJ.go ?_
      refine SeqN.go ?_
      replace h := Option.some.inj h
      replace h := hr1 _ h.symm
      refine RetE.plain ?_
      exact And.intro rfl (And.intro (congrArg (fun r : Bool => AV.bool r) h) rfl)
    · replace h := cond_ff h ht
      refine SeqN.go ?_
      replace h := Option.some.inj h
      refine Exists.intro ⟨(n1, (IntKind.i64.wrap (s1 + (1 : Int)))), hl1 _ h.symm⟩ (And.intro (Nat.lt_succ_self _) ?_)
      refine Gho.to [⟨1, AV.ptr 0 0, none⟩, ⟨3, AV.int .i64 (IntKind.i64.wrap (s1 + (1 : Int))), none⟩] [.cells 40 (S_Field.cells a0) []] [] [] ?_ ?_ ?_ rfl rfl ?_
      · exact ⟨⟨rfl, rfl, rfl⟩, trivial⟩
      · exact rfl
      · exact rfl
      · exact ⟨rfl, rfl, trivial, rfl, rfl, trivial, trivial⟩
  · replace h := cond_ff h ht
    refine SeqN.go ?_
    refine SeqJ.go ?_
    refine bind_elim h fun x4 hx4 h => ?_
    refine CallH.data _ false rfl (intarsiaref03_Token_ok E (a0.Name) x4 hx4) ?_
    refine And.intro (fun hg => hg) ?_
    refine bind_elim h fun x5 hx5 h => ?_
    refine And.intro (fun hg => hg) ?_
    refine And.intro rfl ?_
    refine CallF.mk _ false (fun hg => intarsiaref03_Trim_ok E (a0.Value) x5 (gcall_some hx5 hg)) (And.intro rfl ?_)
    refine And.intro (fun hg => hg) ?_
    refine And.intro (fun hg => hg) ?_
    refine And.intro (fun hg => hg) ?_
    refine And.intro (fun hg => (and_r hg)) ?_
    refine And.intro (fun hg => hg) ?_
    refine And.intro (fun hg => hg) ?_
    refine NormE.same ?_
    refine And.intro (fun hg => hg) ?_
    refine And.intro (fun hg => (and_r hg)) ?_
    refine And.intro (by kernel_rfl) ?_
    refine SeqN.via (St.of [⟨2, AV.bool (bif (bif x4 then (x5 == a0.Value) else false) then (decide (((a0.Value).length : Int) ≤ (1000 : Int))) else false), none⟩] [] []) ?_ ?_
    · refine Gho.to [⟨2, AV.bool (bif (bif x4 then (x5 == a0.Value) else false) then (decide (((a0.Value).length : Int) ≤ (1000 : Int))) else false), none⟩] [] [] [] ?_ ?_ ?_ rfl rfl ?_
      · exact trivial
      · exact rfl
      · exact rfl
      · exact ⟨rfl, rfl, trivial, trivial⟩
    replace h := Option.some.inj h
    replace h := hr1 _ h.symm
    refine RetE.plain ?_
    exact And.intro rfl (And.intro (congrArg (fun r : Bool => AV.bool r) h) rfl)

theorem intarsiaref04_Right_ok (E : Pm.Env) [LaidE E] (a0 : (List S_Field)) (r : Bool) (h : intarsiaref04_Right a0 = some r) : FnR E Tryd.prog 18 [AV.list 2 (a0.map S_Field.av)] (AV.bool r) false := by
  refine FnR.of_ev (T := T) (rows := []) tOk mixed Tryd.func18 rfl (by kernel_rfl) (by kernel_rfl) rfl fun hwf => ?_
  unfold intarsiaref04_Right at h
  refine SeqJ.go ?_
  refine SeqN.go ?_
  refine SeqJ.go ?_
  refine SeqJ.go ?_
  refine NormE.to (AV.int .i64 (a0.length : Int)) (fun _ => len_list S_Field.av a0) ?_
  refine SeqN.go ?_
  refine LoopE.img (fun x : Int => St.of [⟨0, AV.list 2 (a0.map S_Field.av), none⟩, ⟨5, AV.list 2 (a0.map S_Field.av), none⟩, ⟨6, AV.int .i64 (a0.length : Int), none⟩, ⟨7, AV.int .i64 x, none⟩] [] []) (intarsiaref04_Right_b1 a0) (0 : Int) h ?_ ?_
  · refine Gho.to [⟨0, AV.list 2 (a0.map S_Field.av), none⟩, ⟨5, AV.list 2 (a0.map S_Field.av), none⟩, ⟨6, AV.int .i64 (a0.length : Int), none⟩, ⟨7, AV.int .i64 (0 : Int), none⟩] [] [] [] ?_ ?_ ?_ rfl rfl ?_
    · exact trivial
    · exact rfl
    · exact rfl
    · exact ⟨rfl, rfl, trivial, rfl, rfl, trivial, rfl, rfl, trivial, rfl, rfl, trivial, trivial⟩
  intro n1 x y1 h hl1 hr1
  revert h; revert x; intro s1 h
  unfold intarsiaref04_Right_b1 at h
  refine SeqJ.go ?_
  refine SeqN.go ?_
  refine SeqJ.go ?_
  refine Br.mk (fun ht => ?_) (fun ht => ?_)
  · replace h := cond_tt h ht
    refine SeqN.go ?_
    refine SeqJ.go ?_
    refine SeqJ.go ?_
    refine bind_elim h fun x2 hx2 h => ?_
    refine And.intro rfl (Exists.intro (S_Field.av x2) (And.intro (fun hg => idx_map _ hx2) ?_))
    refine And.intro (Nat.le_of_ble_eq_true rfl) ?_
    refine NormE.to (S_Field.av x2) (fun _ => rfl) ?_
    refine And.intro rfl ?_
    refine And.intro ⟨rfl, rfl, rfl, Nat.le_of_ble_eq_true rfl⟩ (Exists.intro (S_Field.cells x2) (And.intro (fun _ => rfl) ?_))
    refine SeqN.go ?_
    refine SeqJ.go ?_
    refine And.intro ⟨Nat.le_of_ble_eq_true rfl, Nat.le_of_ble_eq_true rfl⟩ ?_
    refine NormE.to (S_Field.av x2) (fun _ => rfl) ?_
    refine bind_elim h fun x3 hx3 h => ?_
    refine CallH.data _ false rfl (intarsiaref04_May_ok E x2 x3 hx3) ?_
    refine SeqN.go ?_
    refine Br.mk (fun ht => ?_) (fun ht => ?_)
    · replace h := cond_tt h ht
      refine SeqJ.go ?_
      refine SeqN.go ?_
      replace h := Option.some.inj h
      replace h := hr1 _ h.symm
      refine RetE.plain ?_
      exact And.intro rfl (And.intro (congrArg (fun r : Bool => AV.bool r) h) rfl)
    · replace h := cond_ff h ht
      refine SeqN.go ?_
      replace h := Option.some.inj h
      refine Exists.intro ⟨(n1, (IntKind.i64.wrap (s1 + (1 : Int)))), hl1 _ h.symm⟩ (And.intro (Nat.lt_succ_self _) ?_)
      refine Gho.to [⟨0, AV.list 2 (a0.map S_Field.av), none⟩, ⟨5, AV.list 2 (a0.map S_Field.av), none⟩, ⟨6, AV.int .i64 (a0.length : Int), none⟩, ⟨7, AV.int .i64 (IntKind.i64.wrap (s1 + (1 : Int))), none⟩] [] [] [] ?_ ?_ ?_ rfl rfl ?_
      · exact trivial
      · exact rfl
      · exact rfl
      · exact ⟨rfl, rfl, trivial, rfl, rfl, trivial, rfl, rfl, trivial, rfl, rfl, trivial, trivial⟩
  · replace h := cond_ff h ht
    refine SeqN.go ?_
    refine SeqJ.go ?_
    refine NormE.to (AV.int .i64 (a0.length : Int)) (fun _ => len_list S_Field.av a0) ?_
    refine SeqN.go ?_
    replace h := Option.some.inj h
    replace h := hr1 _ h.symm
    refine RetE.plain ?_
    exact And.intro rfl (And.intro (congrArg (fun r : Bool => AV.bool r) h) rfl)

theorem intarsiaref03_Lower_ok (E : Pm.Env) [LaidE E] (a0 : Bytes) (r : Bytes) (h : intarsiaref03_Lower a0 = some r) : FnR E Tryd.prog 67 [AV.str a0] (AV.str r) false := by
  refine FnR.of_ev (T := T) (rows := []) tOk mixed Tryd.func67 rfl (by kernel_rfl) (by kernel_rfl) rfl fun hwf => ?_
  unfold intarsiaref03_Lower at h
  refine SeqJ.go ?_
  refine SeqN.go ?_
  refine SeqJ.go ?_
  refine SeqN.go ?_
  refine bind_elim h fun j1 hj1 h => ?_
  refine SeqJ.join (St.of [⟨3, AV.str j1, none⟩] [] []) ?_ ?_
  · clear h; have h := hj1; clear hj1
    refine SeqJ.go ?_
    refine SeqN.go ?_
    refine LoopE.img (fun x : (Bytes × Int) => St.of [⟨0, AV.str a0, none⟩, ⟨3, AV.str (x.1), none⟩, ⟨4, AV.int .i64 (x.2), none⟩] [] []) (intarsiaref03_Lower_b1 a0) (([] : Bytes), (0 : Int)) h ?_ ?_
    · refine Gho.to [⟨0, AV.str a0, none⟩, ⟨3, AV.str ([] : Bytes), none⟩, ⟨4, AV.int .i64 (0 : Int), none⟩] [] [] [] ?_ ?_ ?_ rfl rfl ?_
      · exact trivial
      · exact rfl
      · exact rfl
      · exact ⟨rfl, rfl, trivial, rfl, rfl, trivial, rfl, rfl, trivial, trivial⟩
    intro n1 x y1 h hl1 hr1
    obtain ⟨s2, s3⟩ := x
    unfold intarsiaref03_Lower_b1 at h
    dsimp only at h
    refine SeqJ.go ?_
    refine SeqJ.go ?_
    refine NormE.same ?_
    refine SeqN.go ?_
    refine Br.mk (fun ht => ?_) (fun ht => ?_)
    · replace h := cond_tt h ht
      refine SeqN.go ?_
      refine SeqJ.go ?_
      refine SeqJ.go ?_
      refine bind_elim h fun x4 hx4 h => ?_
      refine Exists.intro x4 (And.intro (fun hg => idx_some hx4) ?_)
      refine SeqN.go ?_
      refine SeqJ.go ?_
      refine SeqJ.go ?_
      refine And.intro (fun hg => hg) ?_
      refine And.intro (fun hg => (and_r hg)) ?_
      refine SeqN.go ?_
      refine Br.mk (fun ht => ?_) (fun ht => ?_)
      · replace h := cond_tt h ht
        refine SeqN.via (St.of [⟨0, AV.str a0, none⟩, ⟨3, AV.str s2, none⟩, ⟨4, AV.int .i64 s3, none⟩, ⟨5, AV.int .u8 (IntKind.u8.wrap ((x4.toNat : Int) + (32 : Int))), none⟩] [] []) ?_ ?_
        · refine Gho.to [⟨0, AV.str a0, none⟩, ⟨3, AV.str s2, none⟩, ⟨4, AV.int .i64 s3, none⟩, ⟨5, AV.int .u8 (IntKind.u8.wrap ((x4.toNat : Int) + (32 : Int))), none⟩] [] [] [] ?_ ?_ ?_ rfl rfl ?_
          · exact trivial
          · exact rfl
          · exact rfl
          · exact ⟨rfl, rfl, trivial, rfl, rfl, trivial, rfl, rfl, trivial, rfl, rfl, trivial, trivial⟩
        refine And.intro ⟨rfl, rfl, rfl, rfl⟩ ?_
        refine And.intro ⟨rfl, rfl, rfl⟩ ?_
        refine NormE.to (AV.list 1 (([u8 (IntKind.u8.wrap ((x4.toNat : Int) + (32 : Int)))] : List UInt8).map byteAV)) (fun hw => bytes1 hw) ?_
        refine And.intro rfl (And.intro rfl (Exists.intro ([u8 (IntKind.u8.wrap ((x4.toNat : Int) + (32 : Int)))] : List UInt8) (And.intro rfl ?_)))
        refine bind_elim h fun x5 hx5 h => ?_
        have hx5c := (cat_some hx5).1
        have hx5e := (cat_some hx5).2
        refine And.intro (fun _ => hx5c) ?_
        refine NormE.to (AV.str x5) (fun _ => congrArg AV.str hx5e.symm) ?_
        refine SeqN.go ?_
        replace h := Option.some.inj h
        refine Exists.intro ⟨(n1, (x5, (IntKind.i64.wrap (s3 + (1 : Int))))), hl1 _ h.symm⟩ (And.intro (Nat.lt_succ_self _) ?_)
        refine Gho.to [⟨0, AV.str a0, none⟩, ⟨3, AV.str x5, none⟩, ⟨4, AV.int .i64 (IntKind.i64.wrap (s3 + (1 : Int))), none⟩] [] [] [] ?_ ?_ ?_ rfl rfl ?_
        · exact trivial
        · exact rfl
        · exact rfl
        · exact ⟨rfl, rfl, trivial, rfl, rfl, trivial, rfl, rfl, trivial, trivial⟩
      · replace h := cond_ff h ht
        refine SeqN.go ?_
        refine And.intro ⟨rfl, rfl, rfl, rfl⟩ ?_
        refine And.intro ⟨rfl, rfl, rfl⟩ ?_
        refine NormE.to (AV.list 1 (([u8 (x4.toNat : Int)] : List UInt8).map byteAV)) (fun hw => bytes1 hw) ?_
        refine And.intro rfl (And.intro rfl (Exists.intro ([u8 (x4.toNat : Int)] : List UInt8) (And.intro rfl ?_)))
        refine bind_elim h fun x6 hx6 h => ?_
        have hx6c := (cat_some hx6).1
        have hx6e := (cat_some hx6).2
        refine And.intro (fun _ => hx6c) ?_
        refine NormE.to (AV.str x6) (fun _ => congrArg AV.str hx6e.symm) ?_
        refine SeqN.via (St.of [⟨0, AV.str a0, none⟩, ⟨3, AV.str x6, none⟩, ⟨4, AV.int .i64 s3, none⟩] [] []) ?_ ?_
        · refine Gho.to [⟨0, AV.str a0, none⟩, ⟨3, AV.str x6, none⟩, ⟨4, AV.int .i64 s3, none⟩] [] [] [] ?_ ?_ ?_ rfl rfl ?_
          · exact trivial
          · exact rfl
          · exact rfl
          · exact ⟨rfl, rfl, trivial, rfl, rfl, trivial, rfl, rfl, trivial, trivial⟩
        replace h := Option.some.inj h
        refine Exists.intro ⟨(n1, (x6, (IntKind.i64.wrap (s3 + (1 : Int))))), hl1 _ h.symm⟩ (And.intro (Nat.lt_succ_self _) ?_)
        refine Gho.to [⟨0, AV.str a0, none⟩, ⟨3, AV.str x6, none⟩, ⟨4, AV.int .i64 (IntKind.i64.wrap (s3 + (1 : Int))), none⟩] [] [] [] ?_ ?_ ?_ rfl rfl ?_
        · exact trivial
        · exact rfl
        · exact rfl
        · exact ⟨rfl, rfl, trivial, rfl, rfl, trivial, rfl, rfl, trivial, trivial⟩
    · replace h := cond_ff h ht
      replace h := Option.some.inj h
      replace h := hr1 _ h.symm
      subst h
      refine Gho.to [⟨3, AV.str s2, none⟩] [] [] [] ?_ ?_ ?_ rfl rfl ?_
      · exact trivial
      · exact rfl
      · exact rfl
      · exact ⟨rfl, rfl, trivial, trivial⟩
  · clear hj1
    refine SeqJ.go ?_
    refine SeqN.go ?_
    replace h := Option.some.inj h
    refine RetE.plain ?_
    exact And.intro rfl (And.intro (congrArg (fun r : Bytes => AV.str r) h) rfl)

theorem intarsiaref04_same_ok (E : Pm.Env) [LaidE E] (a0 : Bytes) (a1 : Bytes) (r : Bool) (h : intarsiaref04_same a0 a1 = some r) : FnR E Tryd.prog 43 [AV.str a0, AV.str a1] (AV.bool r) false := by
  refine FnR.of_ev (T := T) (rows := []) tOk mixed Tryd.func43 rfl (by kernel_rfl) (by kernel_rfl) rfl fun hwf => ?_
  unfold intarsiaref04_same at h
  refine SeqJ.go ?_
  refine SeqN.go ?_
  refine SeqJ.go ?_
  refine bind_elim h fun x1 hx1 h => ?_
  refine CallH.data _ false rfl (intarsiaref03_Lower_ok E a0 x1 hx1) ?_
  refine bind_elim h fun x2 hx2 h => ?_
  refine CallH.data _ false rfl (intarsiaref03_Lower_ok E a1 x2 hx2) ?_
  refine SeqN.go ?_
  replace h := Option.some.inj h
  refine RetE.plain ?_
  exact And.intro rfl (And.intro (congrArg (fun r : Bool => AV.bool r) h) rfl)

theorem intarsiaref04_All_ok (E : Pm.Env) [LaidE E] (a0 : (List S_Field)) (a1 : Bytes) (r : (List Bytes)) (h : intarsiaref04_All a0 a1 = some r) : FnR E Tryd.prog 66 [AV.list 2 (a0.map S_Field.av), AV.str a1] (AV.list 1 (r.map AV.str)) true := by
  refine FnR.of_ev (T := T) (rows := []) tOk mixed Tryd.func66 rfl (by kernel_rfl) (by kernel_rfl) rfl fun hwf => ?_
  unfold intarsiaref04_All at h
  refine SeqJ.go ?_
  refine SeqN.go ?_
  refine SeqJ.go ?_
  refine And.intro ⟨rfl, rfl, rfl⟩ ?_
  refine NormE.to (AV.list 1 (([] : List Bytes).map AV.str)) (fun _ => rfl) ?_
  refine SeqN.go ?_
  refine bind_elim h fun j1 hj1 h => ?_
  refine SeqJ.join (St.of [⟨5, AV.list 1 (j1.map AV.str), some 0⟩] [] [1]) ?_ ?_
  · clear h; have h := hj1; clear hj1
    refine SeqJ.go ?_
    refine NormE.to (AV.int .i64 (a0.length : Int)) (fun _ => len_list S_Field.av a0) ?_
    refine SeqN.go ?_
    refine LoopE.img (fun x : ((List Bytes) × Int) => St.of [⟨1, AV.str a1, none⟩, ⟨5, AV.list 1 ((x.1).map AV.str), some 0⟩, ⟨9, AV.list 2 (a0.map S_Field.av), none⟩, ⟨10, AV.int .i64 (a0.length : Int), none⟩, ⟨11, AV.int .i64 (x.2), none⟩] [] [1]) (intarsiaref04_All_b1 a0 a1) (([] : List Bytes), (0 : Int)) h ?_ ?_
    · refine Gho.to [⟨1, AV.str a1, none⟩, ⟨5, AV.list 1 (([] : List Bytes).map AV.str), some 0⟩, ⟨9, AV.list 2 (a0.map S_Field.av), none⟩, ⟨10, AV.int .i64 (a0.length : Int), none⟩, ⟨11, AV.int .i64 (0 : Int), none⟩] [] [1] [1] ?_ ?_ ?_ rfl rfl ?_
      · exact trivial
      · exact rfl
      · exact rfl
      · exact ⟨rfl, rfl, trivial, rfl, rfl, ⟨rfl, rfl⟩, rfl, rfl, trivial, rfl, rfl, trivial, rfl, rfl, trivial, trivial⟩
    intro n1 x y1 h hl1 hr1
    obtain ⟨s2, s3⟩ := x
    unfold intarsiaref04_All_b1 at h
    dsimp only at h
    refine SeqJ.go ?_
    refine SeqN.go ?_
    refine SeqJ.go ?_
    refine Br.mk (fun ht => ?_) (fun ht => ?_)
    · replace h := cond_tt h ht
      refine SeqN.go ?_
      refine SeqJ.go ?_
      refine SeqJ.go ?_
      refine bind_elim h fun x4 hx4 h => ?_
      refine And.intro rfl (Exists.intro (S_Field.av x4) (And.intro (fun hg => idx_map _ hx4) ?_))
      refine And.intro (Nat.le_of_ble_eq_true rfl) ?_
      refine NormE.to (S_Field.av x4) (fun _ => rfl) ?_
      refine And.intro rfl ?_
      refine And.intro ⟨rfl, rfl, rfl, Nat.le_of_ble_eq_true rfl⟩ (Exists.intro (S_Field.cells x4) (And.intro (fun _ => rfl) ?_))
      refine SeqN.go ?_
      refine SeqJ.go ?_
      refine bind_elim h fun x5 hx5 h => ?_
      refine CallH.data _ false rfl (intarsiaref04_same_ok E (x4.Name) a1 x5 hx5) ?_
      refine SeqN.go ?_
      refine Br.mk (fun ht => ?_) (fun ht => ?_)
      · replace h := cond_tt h ht
        refine And.intro ⟨rfl, rfl, rfl, rfl⟩ ?_
        refine And.intro ⟨rfl, rfl, rfl⟩ ?_
        refine NormE.to (AV.list 1 (([(x4.Value)] : List Bytes).map AV.str)) (fun _ => rfl) ?_
        refine bind_elim h fun x6 hx6 h => ?_
        have qx6 := (app_some hx6).1
        have hx6e := (app_some hx6).2
        refine And.intro ⟨rfl, rfl, rfl⟩ ?_
        refine And.intro rfl ?_
        refine And.intro (app_cond AV.str qx6) ?_
        refine NormE.to (AV.list 1 (x6.map AV.str)) (fun _ => (app_list 1 AV.str _ _).trans (congrArg (fun y => AV.list 1 (List.map AV.str y)) hx6e.symm)) ?_
        refine SeqN.go ?_
        replace h := Option.some.inj h
        refine Exists.intro ⟨(n1, (x6, (IntKind.i64.wrap (s3 + (1 : Int))))), hl1 _ h.symm⟩ (And.intro (Nat.lt_succ_self _) ?_)
        refine Gho.to [⟨1, AV.str a1, none⟩, ⟨5, AV.list 1 (x6.map AV.str), some 0⟩, ⟨9, AV.list 2 (a0.map S_Field.av), none⟩, ⟨10, AV.int .i64 (a0.length : Int), none⟩, ⟨11, AV.int .i64 (IntKind.i64.wrap (s3 + (1 : Int))), none⟩] [] [1] [2] ?_ ?_ ?_ rfl rfl ?_
        · exact trivial
        · exact rfl
        · exact rfl
        · exact ⟨rfl, rfl, trivial, rfl, rfl, ⟨rfl, rfl⟩, rfl, rfl, trivial, rfl, rfl, trivial, rfl, rfl, trivial, trivial⟩
      · replace h := cond_ff h ht
        refine SeqN.go ?_
        replace h := Option.some.inj h
        refine Exists.intro ⟨(n1, (s2, (IntKind.i64.wrap (s3 + (1 : Int))))), hl1 _ h.symm⟩ (And.intro (Nat.lt_succ_self _) ?_)
        refine Gho.to [⟨1, AV.str a1, none⟩, ⟨5, AV.list 1 (s2.map AV.str), some 0⟩, ⟨9, AV.list 2 (a0.map S_Field.av), none⟩, ⟨10, AV.int .i64 (a0.length : Int), none⟩, ⟨11, AV.int .i64 (IntKind.i64.wrap (s3 + (1 : Int))), none⟩] [] [1] [0] ?_ ?_ ?_ rfl rfl ?_
        · exact trivial
        · exact rfl
        · exact rfl
        · exact ⟨rfl, rfl, trivial, rfl, rfl, ⟨rfl, rfl⟩, rfl, rfl, trivial, rfl, rfl, trivial, rfl, rfl, trivial, trivial⟩
    · replace h := cond_ff h ht
      replace h := Option.some.inj h
      replace h := hr1 _ h.symm
      subst h
      refine Gho.to [⟨5, AV.list 1 (s2.map AV.str), some 0⟩] [] [1] [0] ?_ ?_ ?_ rfl rfl ?_
      · exact trivial
      · exact rfl
      · exact rfl
      · exact ⟨rfl, rfl, ⟨rfl, rfl⟩, trivial⟩
  · clear hj1
    refine SeqJ.go ?_
    refine SeqN.go ?_
    replace h := Option.some.inj h
    exact RetE.own 4 0 rfl rfl rfl (And.intro (congrArg (fun r : (List Bytes) => AV.list 1 (r.map AV.str)) h) rfl)

theorem intarsiaref04_Joined_ok (E : Pm.Env) [LaidE E] (a0 : (List Bytes)) (r : Bytes) (h : intarsiaref04_Joined a0 = some r) : FnR E Tryd.prog 68 [AV.list 1 (a0.map AV.str)] (AV.str r) false := by
  refine FnR.of_ev (T := T) (rows := []) tOk mixed Tryd.func68 rfl (by kernel_rfl) (by kernel_rfl) rfl fun hwf => ?_
  unfold intarsiaref04_Joined at h
  refine SeqJ.go ?_
  refine SeqN.go ?_
  refine SeqJ.go ?_
  refine SeqN.go ?_
  refine bind_elim h fun j1 hj1 h => ?_
  refine SeqJ.join (St.of [⟨3, AV.str j1, none⟩] [] []) ?_ ?_
  · clear h; have h := hj1; clear hj1
    refine SeqJ.go ?_
    refine NormE.to (AV.int .i64 (a0.length : Int)) (fun _ => len_list AV.str a0) ?_
    refine SeqN.go ?_
    refine LoopE.img (fun x : (Bytes × Int) => St.of [⟨3, AV.str (x.1), none⟩, ⟨6, AV.list 1 (a0.map AV.str), none⟩, ⟨7, AV.int .i64 (a0.length : Int), none⟩, ⟨8, AV.int .i64 (x.2), none⟩] [] []) (intarsiaref04_Joined_b1 a0) (([] : Bytes), (0 : Int)) h ?_ ?_
    · refine Gho.to [⟨3, AV.str ([] : Bytes), none⟩, ⟨6, AV.list 1 (a0.map AV.str), none⟩, ⟨7, AV.int .i64 (a0.length : Int), none⟩, ⟨8, AV.int .i64 (0 : Int), none⟩] [] [] [] ?_ ?_ ?_ rfl rfl ?_
      · exact trivial
      · exact rfl
      · exact rfl
      · exact ⟨rfl, rfl, trivial, rfl, rfl, trivial, rfl, rfl, trivial, rfl, rfl, trivial, trivial⟩
    intro n1 x y1 h hl1 hr1
    obtain ⟨s2, s3⟩ := x
    unfold intarsiaref04_Joined_b1 at h
    dsimp only at h
    refine SeqJ.go ?_
    refine SeqN.go ?_
    refine SeqJ.go ?_
    refine Br.mk (fun ht => ?_) (fun ht => ?_)
    · replace h := cond_tt h ht
      refine SeqN.go ?_
      refine SeqJ.go ?_
      refine SeqJ.go ?_
      refine bind_elim h fun x4 hx4 h => ?_
      refine And.intro rfl (Exists.intro (AV.str x4) (And.intro (fun hg => idx_map _ hx4) ?_))
      refine SeqN.go ?_
      refine SeqJ.go ?_
      refine SeqJ.go ?_
      refine SeqN.go ?_
      refine Br.mk (fun ht => ?_) (fun ht => ?_)
      · replace h := cond_tt h ht
        refine bind_elim h fun x5 hx5 h => ?_
        have hx5c := (cat_some hx5).1
        have hx5e := (cat_some hx5).2
        refine And.intro (fun _ => hx5c) ?_
        refine NormE.to (AV.str x5) (fun _ => congrArg AV.str hx5e.symm) ?_
        refine SeqN.go ?_
        refine bind_elim h fun x6 hx6 h => ?_
        have hx6c := (cat_some hx6).1
        have hx6e := (cat_some hx6).2
        refine And.intro (fun _ => hx6c) ?_
        refine NormE.to (AV.str x6) (fun _ => congrArg AV.str hx6e.symm) ?_
        refine SeqN.go ?_
        replace h := Option.some.inj h
        refine Exists.intro ⟨(n1, (x6, (IntKind.i64.wrap (s3 + (1 : Int))))), hl1 _ h.symm⟩ (And.intro (Nat.lt_succ_self _) ?_)
        refine Gho.to [⟨3, AV.str x6, none⟩, ⟨6, AV.list 1 (a0.map AV.str), none⟩, ⟨7, AV.int .i64 (a0.length : Int), none⟩, ⟨8, AV.int .i64 (IntKind.i64.wrap (s3 + (1 : Int))), none⟩] [] [] [] ?_ ?_ ?_ rfl rfl ?_
        · exact trivial
        · exact rfl
        · exact rfl
        · exact ⟨rfl, rfl, trivial, rfl, rfl, trivial, rfl, rfl, trivial, rfl, rfl, trivial, trivial⟩
      · replace h := cond_ff h ht
        refine SeqN.go ?_
        refine bind_elim h fun x7 hx7 h => ?_
        have hx7c := (cat_some hx7).1
        have hx7e := (cat_some hx7).2
        refine And.intro (fun _ => hx7c) ?_
        refine NormE.to (AV.str x7) (fun _ => congrArg AV.str hx7e.symm) ?_
        refine SeqN.go ?_
        replace h := Option.some.inj h
        refine Exists.intro ⟨(n1, (x7, (IntKind.i64.wrap (s3 + (1 : Int))))), hl1 _ h.symm⟩ (And.intro (Nat.lt_succ_self _) ?_)
        refine Gho.to [⟨3, AV.str x7, none⟩, ⟨6, AV.list 1 (a0.map AV.str), none⟩, ⟨7, AV.int .i64 (a0.length : Int), none⟩, ⟨8, AV.int .i64 (IntKind.i64.wrap (s3 + (1 : Int))), none⟩] [] [] [] ?_ ?_ ?_ rfl rfl ?_
        · exact trivial
        · exact rfl
        · exact rfl
        · exact ⟨rfl, rfl, trivial, rfl, rfl, trivial, rfl, rfl, trivial, rfl, rfl, trivial, trivial⟩
    · replace h := cond_ff h ht
      replace h := Option.some.inj h
      replace h := hr1 _ h.symm
      subst h
      refine Gho.to [⟨3, AV.str s2, none⟩] [] [] [] ?_ ?_ ?_ rfl rfl ?_
      · exact trivial
      · exact rfl
      · exact rfl
      · exact ⟨rfl, rfl, trivial, trivial⟩
  · clear hj1
    refine SeqJ.go ?_
    refine SeqN.go ?_
    replace h := Option.some.inj h
    refine RetE.plain ?_
    exact And.intro rfl (And.intro (congrArg (fun r : Bytes => AV.str r) h) rfl)

theorem intarsiaref02_value_ok (E : Pm.Env) [LaidE E] (a0 : Int) (r : Int) (h : intarsiaref02_value a0 = some r) : FnR E Tryd.prog 91 [AV.int .u8 a0] (AV.int .u64 r) false := by
  refine FnR.of_ev (T := T) (rows := []) tOk mixed Tryd.func91 rfl (by kernel_rfl) (by kernel_rfl) rfl fun hwf => ?_
  unfold intarsiaref02_value at h
  refine SeqJ.go ?_
  refine SeqN.go ?_
  refine SeqJ.go ?_
  refine SeqJ.go ?_
  refine And.intro (fun hg => hg) ?_
  refine And.intro (fun hg => (and_r hg)) ?_
  refine SeqN.go ?_
  refine Br.mk (fun ht => ?_) (fun ht => ?_)
  · replace h := cond_tt h ht
    refine SeqJ.go ?_
    refine SeqN.go ?_
    replace h := Option.some.inj h
    refine RetE.plain ?_
    exact And.intro rfl (And.intro (congrArg (fun r : Int => AV.int .u64 r) h) rfl)
  · replace h := cond_ff h ht
    refine SeqN.go ?_
    refine SeqJ.go ?_
    refine SeqJ.go ?_
    refine And.intro (fun hg => hg) ?_
    refine And.intro (fun hg => (and_r hg)) ?_
    refine SeqN.go ?_
    refine Br.mk (fun ht => ?_) (fun ht => ?_)
    · replace h := cond_tt h ht
      refine SeqJ.go ?_
      refine SeqN.via (St.of [⟨2, AV.int .u64 (IntKind.u64.wrap ((IntKind.u64.wrap (IntKind.u8.wrap (a0 - (97 : Int)))) + (10 : Int))), none⟩] [] []) ?_ ?_
      · refine Gho.to [⟨2, AV.int .u64 (IntKind.u64.wrap ((IntKind.u64.wrap (IntKind.u8.wrap (a0 - (97 : Int)))) + (10 : Int))), none⟩] [] [] [] ?_ ?_ ?_ rfl rfl ?_
        · exact trivial
        · exact rfl
        · exact rfl
        · exact ⟨rfl, rfl, trivial, trivial⟩
      replace h := Option.some.inj h
      refine RetE.plain ?_
      exact And.intro rfl (And.intro (congrArg (fun r : Int => AV.int .u64 r) h) rfl)
    · replace h := cond_ff h ht
      refine SeqN.go ?_
      refine SeqJ.go ?_
      refine SeqJ.go ?_
      refine And.intro (fun hg => hg) ?_
      refine And.intro (fun hg => (and_r hg)) ?_
      refine SeqN.via (St.of [⟨0, AV.int .u8 a0, none⟩, ⟨27, AV.bool (bif (decide (a0 ≥ (65 : Int))) then (decide (a0 ≤ (70 : Int))) else false), none⟩] [] []) ?_ ?_
      · refine Gho.to [⟨0, AV.int .u8 a0, none⟩, ⟨27, AV.bool (bif (decide (a0 ≥ (65 : Int))) then (decide (a0 ≤ (70 : Int))) else false), none⟩] [] [] [] ?_ ?_ ?_ rfl rfl ?_
        · exact trivial
        · exact rfl
        · exact rfl
        · exact ⟨rfl, rfl, trivial, rfl, rfl, trivial, trivial⟩
      refine Br.mk (fun ht => ?_) (fun ht => ?_)
      · replace h := cond_tt h ht
        refine SeqJ.go ?_
        refine SeqN.go ?_
        replace h := Option.some.inj h
        refine RetE.plain ?_
        exact And.intro rfl (And.intro (congrArg (fun r : Int => AV.int .u64 r) h) rfl)
      · replace h := cond_ff h ht
        refine SeqN.go ?_
        refine SeqJ.go ?_
        refine SeqN.go ?_
        replace h := Option.some.inj h
        refine RetE.plain ?_
        exact And.intro rfl (And.intro (congrArg (fun r : Int => AV.int .u64 r) h) rfl)

theorem intarsiaref02_Read_ok (E : Pm.Env) [LaidE E] (a0 : Bytes) (a1 : Int) (r : (Int × Int)) (h : intarsiaref02_Read a0 a1 = some r) : FnR E Tryd.prog 59 [AV.str a0, AV.int .u64 a1] (AV.tup [AV.int .u64 (r.1), AV.int .i64 (r.2)]) false := by
  refine FnR.of_ev (T := T) (rows := []) tOk mixed Tryd.func59 rfl (by kernel_rfl) (by kernel_rfl) rfl fun hwf => ?_
  unfold intarsiaref02_Read at h
  refine SeqJ.go ?_
  refine SeqN.go ?_
  refine SeqJ.go ?_
  refine SeqJ.go ?_
  refine SeqN.go ?_
  refine Br.mk (fun ht => ?_) (fun ht => ?_)
  · replace h := cond_tt h ht
    refine SeqJ.go ?_
    refine SeqN.go ?_
    replace h := Option.some.inj h
    refine RetE.plain ?_
    exact And.intro rfl (And.intro (congrArg (fun r : (Int × Int) => AV.tup [AV.int .u64 (r.1), AV.int .i64 (r.2)]) h) rfl)
  · replace h := cond_ff h ht
    refine SeqN.go ?_
    refine SeqJ.go ?_
    refine SeqJ.go ?_
    refine SeqN.go ?_
    refine LoopE.img (fun x : Int => St.of [⟨0, AV.str a0, none⟩, ⟨1, AV.int .u64 a1, none⟩, ⟨6, AV.int .i64 x, none⟩] [] []) (intarsiaref02_Read_b1 a0 a1) (0 : Int) h ?_ ?_
    · refine Gho.to [⟨0, AV.str a0, none⟩, ⟨1, AV.int .u64 a1, none⟩, ⟨6, AV.int .i64 (0 : Int), none⟩] [] [] [] ?_ ?_ ?_ rfl rfl ?_
      · exact trivial
      · exact rfl
      · exact rfl
      · exact ⟨rfl, rfl, trivial, rfl, rfl, trivial, rfl, rfl, trivial, trivial⟩
    intro n1 x y1 h hl1 hr1
    revert h; revert x; intro s1 h
    unfold intarsiaref02_Read_b1 at h
    refine SeqJ.go ?_
    refine SeqJ.go ?_
    refine NormE.same ?_
    refine SeqN.go ?_
    refine Br.mk (fun ht => ?_) (fun ht => ?_)
    · replace h := cond_tt h ht
      refine SeqN.go ?_
      refine SeqJ.go ?_
      refine SeqJ.go ?_
      refine bind_elim h fun x2 hx2 h => ?_
      refine Exists.intro x2 (And.intro (fun hg => idx_some hx2) ?_)
      refine bind_elim h fun x3 hx3 h => ?_
      refine CallH.data _ false rfl (intarsiaref02_value_ok E (x2.toNat : Int) x3 hx3) ?_
      refine SeqN.go ?_
      refine Br.mk (fun ht => ?_) (fun ht => ?_)
      · replace h := cond_tt h ht
        refine SeqJ.go ?_
        refine SeqN.go ?_
        replace h := Option.some.inj h
        replace h := hr1 _ h.symm
        refine RetE.plain ?_
        exact And.intro rfl (And.intro (congrArg (fun r : (Int × Int) => AV.tup [AV.int .u64 (r.1), AV.int .i64 (r.2)]) h) rfl)
      · replace h := cond_ff h ht
        refine SeqN.go ?_
        replace h := Option.some.inj h
        refine Exists.intro ⟨(n1, (IntKind.i64.wrap (s1 + (1 : Int)))), hl1 _ h.symm⟩ (And.intro (Nat.lt_succ_self _) ?_)
        refine Gho.to [⟨0, AV.str a0, none⟩, ⟨1, AV.int .u64 a1, none⟩, ⟨6, AV.int .i64 (IntKind.i64.wrap (s1 + (1 : Int))), none⟩] [] [] [] ?_ ?_ ?_ rfl rfl ?_
        · exact trivial
        · exact rfl
        · exact rfl
        · exact ⟨rfl, rfl, trivial, rfl, rfl, trivial, rfl, rfl, trivial, trivial⟩
    · replace h := cond_ff h ht
      refine SeqN.go ?_
      refine SeqJ.go ?_
      refine SeqN.go ?_
      refine SeqJ.go ?_
      refine SeqJ.go ?_
      refine SeqN.go ?_
      refine LoopE.img (fun x : (Int × Int) => St.of [⟨0, AV.str a0, none⟩, ⟨1, AV.int .u64 a1, none⟩, ⟨7, AV.int .u64 (x.1), none⟩, ⟨8, AV.int .i64 (x.2), none⟩] [] []) (intarsiaref02_Read_b2 a0 a1) ((0 : Int), (0 : Int)) h ?_ ?_
      · refine Gho.to [⟨0, AV.str a0, none⟩, ⟨1, AV.int .u64 a1, none⟩, ⟨7, AV.int .u64 (0 : Int), none⟩, ⟨8, AV.int .i64 (0 : Int), none⟩] [] [] [] ?_ ?_ ?_ rfl rfl ?_
        · exact trivial
        · exact rfl
        · exact rfl
        · exact ⟨rfl, rfl, trivial, rfl, rfl, trivial, rfl, rfl, trivial, rfl, rfl, trivial, trivial⟩
      intro n2 x y2 h hl2 hr2
      obtain ⟨s4, s5⟩ := x
      unfold intarsiaref02_Read_b2 at h
      dsimp only at h
      refine SeqJ.go ?_
      refine SeqJ.go ?_
      refine NormE.same ?_
      refine SeqN.go ?_
      refine Br.mk (fun ht => ?_) (fun ht => ?_)
      · replace h := cond_tt h ht
        refine SeqN.go ?_
        refine SeqJ.go ?_
        refine SeqJ.go ?_
        refine bind_elim h fun x6 hx6 h => ?_
        refine Exists.intro x6 (And.intro (fun hg => idx_some hx6) ?_)
        refine bind_elim h fun x7 hx7 h => ?_
        refine CallH.data _ false rfl (intarsiaref02_value_ok E (x6.toNat : Int) x7 hx7) ?_
        refine SeqN.go ?_
        refine SeqJ.go ?_
        refine SeqN.go ?_
        refine Br.mk (fun ht => ?_) (fun ht => ?_)
        · replace h := cond_tt h ht
          refine SeqJ.go ?_
          refine SeqN.via (St.of [⟨4, AV.int .u64 (0 : Int), none⟩, ⟨5, AV.int .i64 (2 : Int), none⟩] [] []) ?_ ?_
          · refine Gho.to [⟨4, AV.int .u64 (0 : Int), none⟩, ⟨5, AV.int .i64 (2 : Int), none⟩] [] [] [] ?_ ?_ ?_ rfl rfl ?_
            · exact trivial
            · exact rfl
            · exact rfl
            · exact ⟨rfl, rfl, trivial, rfl, rfl, trivial, trivial⟩
          replace h := Option.some.inj h
          replace h := hr2 _ h.symm
          replace h := hr1 _ h.symm
          refine RetE.plain ?_
          exact And.intro rfl (And.intro (congrArg (fun r : (Int × Int) => AV.tup [AV.int .u64 (r.1), AV.int .i64 (r.2)]) h) rfl)
        · replace h := cond_ff h ht
          refine SeqN.go ?_
          replace h := Option.some.inj h
          refine Exists.intro ⟨(n2, ((IntKind.u64.wrap ((IntKind.u64.wrap (a1 * s4)) + x7)), (IntKind.i64.wrap (s5 + (1 : Int))))), hl2 _ h.symm⟩ (And.intro (Nat.lt_succ_self _) ?_)
          refine Gho.to [⟨0, AV.str a0, none⟩, ⟨1, AV.int .u64 a1, none⟩, ⟨7, AV.int .u64 (IntKind.u64.wrap ((IntKind.u64.wrap (a1 * s4)) + x7)), none⟩, ⟨8, AV.int .i64 (IntKind.i64.wrap (s5 + (1 : Int))), none⟩] [] [] [] ?_ ?_ ?_ rfl rfl ?_
          · exact trivial
          · exact rfl
          · exact rfl
          · exact ⟨rfl, rfl, trivial, rfl, rfl, trivial, rfl, rfl, trivial, rfl, rfl, trivial, trivial⟩
      · replace h := cond_ff h ht
        refine SeqN.go ?_
        refine SeqJ.go ?_
        refine SeqN.go ?_
        replace h := Option.some.inj h
        replace h := hr2 _ h.symm
        replace h := hr1 _ h.symm
        refine RetE.plain ?_
        exact And.intro rfl (And.intro (congrArg (fun r : (Int × Int) => AV.tup [AV.int .u64 (r.1), AV.int .i64 (r.2)]) h) rfl)

theorem intarsiaref09_Say_ok (E : Pm.Env) [LaidE E] (a0 : Int) (a1 : (List S_Field)) (r : (S_Body × Int)) (h : intarsiaref09_Say a0 a1 = some r) : FnR E Tryd.prog 37 [AV.int .i64 a0, AV.list 2 (a1.map S_Field.av)] (AV.tup [S_Body.av (r.1), AV.int .i64 (r.2)]) false := by
  refine FnR.of_ev (T := T) (rows := []) tOk mixed Tryd.func37 rfl (by kernel_rfl) (by kernel_rfl) rfl fun hwf => ?_
  unfold intarsiaref09_Say at h
  refine SeqJ.go ?_
  refine And.intro rfl ?_
  refine SeqN.go ?_
  refine SeqJ.go ?_
  refine bind_elim h fun x1 hx1 h => ?_
  refine CallH.data _ true rfl (intarsiaref04_All_ok E a1 ([116, 114, 97, 110, 115, 102, 101, 114, 45, 101, 110, 99, 111, 100, 105, 110, 103] : Bytes) x1 hx1) ?_
  refine SeqN.go ?_
  refine SeqJ.go ?_
  refine bind_elim h fun x2 hx2 h => ?_
  refine CallH.data _ true rfl (intarsiaref04_All_ok E a1 ([99, 111, 110, 116, 101, 110, 116, 45, 108, 101, 110, 103, 116, 104] : Bytes) x2 hx2) ?_
  refine SeqN.go ?_
  refine SeqJ.go ?_
  refine SeqJ.go ?_
  refine NormE.to (AV.int .i64 (x1.length : Int)) (fun _ => len_list AV.str x1) ?_
  refine SeqN.go ?_
  refine Br.mk (fun ht => ?_) (fun ht => ?_)
  · replace h := cond_tt h ht
    refine SeqJ.go ?_
    refine SeqJ.go ?_
    refine NormE.to (AV.int .i64 (x2.length : Int)) (fun _ => len_list AV.str x2) ?_
    refine And.intro (fun hg => hg) ?_
    refine And.intro (fun hg => (and_r hg)) ?_
    refine bind_elim h fun x3 hx3 h => ?_
    refine And.intro (fun hg => hg) ?_
    refine And.intro rfl ?_
    refine CallF.mk _ false (fun hg => intarsiaref04_Joined_ok E x1 x3 (gcall_some hx3 hg)) (And.intro rfl ?_)
    refine bind_elim h fun x4 hx4 h => ?_
    refine And.intro (fun hg => hg) ?_
    refine And.intro rfl ?_
    refine CallF.mk _ false (fun hg => intarsiaref03_Lower_ok E x3 x4 (gcall_some hx4 hg)) (And.intro rfl ?_)
    refine And.intro (fun hg => hg) ?_
    refine And.intro (fun hg => (and_r hg)) ?_
    refine SeqN.via (St.of [⟨4, AV.ptr 0 0, none⟩, ⟨32, AV.bool (bif (bif (decide ((x2.length : Int) > (0 : Int))) then true else (a0 == (0 : Int))) then true else (!(x4 == ([99, 104, 117, 110, 107, 101, 100] : Bytes)))), none⟩] [.cells 28 [AV.int .i64 (0 : Int), AV.int .i64 (0 : Int)] []] []) ?_ ?_
    · refine Gho.to [⟨4, AV.ptr 0 0, none⟩, ⟨32, AV.bool (bif (bif (decide ((x2.length : Int) > (0 : Int))) then true else (a0 == (0 : Int))) then true else (!(x4 == ([99, 104, 117, 110, 107, 101, 100] : Bytes)))), none⟩] [.cells 28 [AV.int .i64 (0 : Int), AV.int .i64 (0 : Int)] []] [] [] ?_ ?_ ?_ rfl rfl ?_
      · exact ⟨⟨rfl, rfl, rfl⟩, trivial⟩
      · exact rfl
      · exact rfl
      · exact ⟨rfl, rfl, trivial, rfl, rfl, trivial, trivial⟩
    refine Br.mk (fun ht => ?_) (fun ht => ?_)
    · replace h := cond_tt h ht
      refine SeqJ.go ?_
      refine And.intro ⟨rfl, rfl, rfl, Nat.le_of_ble_eq_true rfl⟩ (Exists.intro [AV.int .i64 (0 : Int), AV.int .i64 (0 : Int)] (And.intro (fun _ => rfl) ?_))
      refine SeqN.go ?_
      replace h := Option.some.inj h
      refine RetE.plain ?_
      refine And.intro ⟨Nat.le_of_ble_eq_true rfl, Nat.le_of_ble_eq_true rfl⟩ (Exists.intro (AV.agg [AV.int .i64 (0 : Int), AV.int .i64 (0 : Int)]) (And.intro rfl ?_))
      exact And.intro rfl (And.intro (congrArg (fun r : (S_Body × Int) => AV.tup [S_Body.av (r.1), AV.int .i64 (r.2)]) h) rfl)
    · replace h := cond_ff h ht
      refine SeqN.go ?_
      refine SeqJ.go ?_
      refine And.intro ⟨rfl, rfl, Nat.le_of_ble_eq_true rfl⟩ ?_
      refine And.intro ⟨rfl, rfl, rfl, Nat.le_of_ble_eq_true rfl⟩ (Exists.intro [AV.int .i64 (2 : Int), AV.int .i64 (0 : Int)] (And.intro (fun _ => rfl) ?_))
      refine SeqN.go ?_
      replace h := Option.some.inj h
      refine RetE.plain ?_
      refine And.intro ⟨Nat.le_of_ble_eq_true rfl, Nat.le_of_ble_eq_true rfl⟩ (Exists.intro (AV.agg [AV.int .i64 (2 : Int), AV.int .i64 (0 : Int)]) (And.intro rfl ?_))
      exact And.intro rfl (And.intro (congrArg (fun r : (S_Body × Int) => AV.tup [S_Body.av (r.1), AV.int .i64 (r.2)]) h) rfl)
  · replace h := cond_ff h ht
    refine SeqN.go ?_
    refine SeqJ.go ?_
    refine SeqJ.go ?_
    refine NormE.to (AV.int .i64 (x2.length : Int)) (fun _ => len_list AV.str x2) ?_
    refine SeqN.go ?_
    refine Br.mk (fun ht => ?_) (fun ht => ?_)
    · replace h := cond_tt h ht
      refine SeqJ.go ?_
      refine And.intro ⟨rfl, rfl, Nat.le_of_ble_eq_true rfl⟩ ?_
      refine And.intro ⟨rfl, rfl, rfl, Nat.le_of_ble_eq_true rfl⟩ (Exists.intro [AV.int .i64 (-1 : Int), AV.int .i64 (0 : Int)] (And.intro (fun _ => rfl) ?_))
      refine SeqN.via (St.of [⟨4, AV.ptr 0 0, none⟩, ⟨5, AV.int .i64 (0 : Int), none⟩] [.cells 28 [AV.int .i64 (-1 : Int), AV.int .i64 (0 : Int)] []] []) ?_ ?_
      · refine Gho.to [⟨4, AV.ptr 0 0, none⟩, ⟨5, AV.int .i64 (0 : Int), none⟩] [.cells 28 [AV.int .i64 (-1 : Int), AV.int .i64 (0 : Int)] []] [] [] ?_ ?_ ?_ rfl rfl ?_
        · exact ⟨⟨rfl, rfl, rfl⟩, trivial⟩
        · exact rfl
        · exact rfl
        · exact ⟨rfl, rfl, trivial, rfl, rfl, trivial, trivial⟩
      replace h := Option.some.inj h
      refine RetE.plain ?_
      refine And.intro ⟨Nat.le_of_ble_eq_true rfl, Nat.le_of_ble_eq_true rfl⟩ (Exists.intro (AV.agg [AV.int .i64 (-1 : Int), AV.int .i64 (0 : Int)]) (And.intro rfl ?_))
      exact And.intro rfl (And.intro (congrArg (fun r : (S_Body × Int) => AV.tup [S_Body.av (r.1), AV.int .i64 (r.2)]) h) rfl)
    · replace h := cond_ff h ht
      refine SeqN.go ?_
      refine SeqJ.go ?_
      refine SeqN.go ?_
      refine SeqJ.go ?_
      refine SeqJ.go ?_
      refine NormE.to (AV.int .i64 (x2.length : Int)) (fun _ => len_list AV.str x2) ?_
      refine SeqN.via (St.of [⟨4, AV.ptr 0 0, none⟩, ⟨8, AV.int .u64 (0 : Int), none⟩, ⟨39, AV.list 1 (x2.map AV.str), some 0⟩, ⟨40, AV.int .i64 (x2.length : Int), none⟩, ⟨41, AV.int .i64 (0 : Int), none⟩] [.cells 28 [AV.int .i64 (0 : Int), AV.int .i64 (0 : Int)] []] [1]) ?_ ?_
      · refine Gho.to [⟨4, AV.ptr 0 0, none⟩, ⟨8, AV.int .u64 (0 : Int), none⟩, ⟨39, AV.list 1 (x2.map AV.str), some 0⟩, ⟨40, AV.int .i64 (x2.length : Int), none⟩, ⟨41, AV.int .i64 (0 : Int), none⟩] [.cells 28 [AV.int .i64 (0 : Int), AV.int .i64 (0 : Int)] []] [1] [1] ?_ ?_ ?_ rfl rfl ?_
        · exact ⟨⟨rfl, rfl, rfl⟩, trivial⟩
        · exact rfl
        · exact rfl
        · exact ⟨rfl, rfl, trivial, rfl, rfl, trivial, rfl, rfl, ⟨rfl, rfl⟩, rfl, rfl, trivial, rfl, rfl, trivial, trivial⟩
      refine LoopE.img (fun x : (Int × Int) => St.of [⟨4, AV.ptr 0 0, none⟩, ⟨8, AV.int .u64 (x.1), none⟩, ⟨39, AV.list 1 (x2.map AV.str), some 0⟩, ⟨40, AV.int .i64 (x2.length : Int), none⟩, ⟨41, AV.int .i64 (x.2), none⟩] [.cells 28 [AV.int .i64 (0 : Int), AV.int .i64 (0 : Int)] []] [1]) (intarsiaref09_Say_b1 x2) ((0 : Int), (0 : Int)) h ?_ ?_
      · refine Gho.to [⟨4, AV.ptr 0 0, none⟩, ⟨8, AV.int .u64 (0 : Int), none⟩, ⟨39, AV.list 1 (x2.map AV.str), some 0⟩, ⟨40, AV.int .i64 (x2.length : Int), none⟩, ⟨41, AV.int .i64 (0 : Int), none⟩] [.cells 28 [AV.int .i64 (0 : Int), AV.int .i64 (0 : Int)] []] [1] [0] ?_ ?_ ?_ rfl rfl ?_
        · exact ⟨⟨rfl, rfl, rfl⟩, trivial⟩
        · exact rfl
        · exact rfl
        · exact ⟨rfl, rfl, trivial, rfl, rfl, trivial, rfl, rfl, ⟨rfl, rfl⟩, rfl, rfl, trivial, rfl, rfl, trivial, trivial⟩
      intro n1 x y1 h hl1 hr1
      obtain ⟨s5, s6⟩ := x
      unfold intarsiaref09_Say_b1 at h
      dsimp only at h
      refine SeqJ.go ?_
      refine SeqN.go ?_
      refine SeqJ.go ?_
      refine Br.mk (fun ht => ?_) (fun ht => ?_)
      · replace h := cond_tt h ht
        refine SeqN.go ?_
        refine SeqJ.go ?_
        refine SeqJ.go ?_
        refine bind_elim h fun x7 hx7 h => ?_
        refine And.intro rfl (Exists.intro (AV.str x7) (And.intro (fun hg => idx_map _ hx7) ?_))
        refine SeqN.go ?_
        refine SeqJ.go ?_
        refine bind_elim h fun x8 hx8 h => ?_
        refine CallH.data _ false rfl (intarsiaref02_Read_ok E x7 (10 : Int) x8 hx8) ?_
        refine SeqN.go ?_
        refine SeqJ.go ?_
        refine SeqJ.go ?_
        refine SeqN.go ?_
        refine Br.mk (fun ht => ?_) (fun ht => ?_)
        · replace h := cond_tt h ht
          refine SeqN.via (St.of [⟨4, AV.ptr 0 0, none⟩, ⟨8, AV.int .u64 s5, none⟩, ⟨9, AV.int .i64 s6, none⟩, ⟨11, AV.int .u64 (18446744073709551615 : Int), none⟩, ⟨12, AV.int .i64 (x8.2), none⟩, ⟨39, AV.list 1 (x2.map AV.str), some 0⟩, ⟨40, AV.int .i64 (x2.length : Int), none⟩, ⟨41, AV.int .i64 s6, none⟩] [.cells 28 [AV.int .i64 (0 : Int), AV.int .i64 (0 : Int)] []] [1]) ?_ ?_
          · refine Gho.to [⟨4, AV.ptr 0 0, none⟩, ⟨8, AV.int .u64 s5, none⟩, ⟨9, AV.int .i64 s6, none⟩, ⟨11, AV.int .u64 (18446744073709551615 : Int), none⟩, ⟨12, AV.int .i64 (x8.2), none⟩, ⟨39, AV.list 1 (x2.map AV.str), some 0⟩, ⟨40, AV.int .i64 (x2.length : Int), none⟩, ⟨41, AV.int .i64 s6, none⟩] [.cells 28 [AV.int .i64 (0 : Int), AV.int .i64 (0 : Int)] []] [1] [0] ?_ ?_ ?_ rfl rfl ?_
            · exact ⟨⟨rfl, rfl, rfl⟩, trivial⟩
            · exact rfl
            · exact rfl
            · exact ⟨rfl, rfl, trivial, rfl, rfl, trivial, rfl, rfl, trivial, rfl, rfl, trivial, rfl, rfl, trivial, rfl, rfl, ⟨rfl, rfl⟩, rfl, rfl, trivial, rfl, rfl, trivial, trivial⟩
          refine SeqJ.go ?_
          refine SeqJ.go ?_
          refine And.intro (fun hg => hg) ?_
          refine And.intro (fun hg => hg) ?_
          refine And.intro (fun hg => hg) ?_
          refine And.intro (fun hg => hg) ?_
          refine And.intro (fun hg => hg) ?_
          refine And.intro (fun hg => hg) ?_
          refine And.intro (fun hg => (and_r hg)) ?_
          refine SeqN.go ?_
          refine Br.mk (fun ht => ?_) (fun ht => ?_)
          · replace h := cond_tt h ht
            refine SeqJ.go ?_
            refine And.intro ⟨rfl, rfl, rfl, Nat.le_of_ble_eq_true rfl⟩ (Exists.intro [AV.int .i64 (0 : Int), AV.int .i64 (0 : Int)] (And.intro (fun _ => rfl) ?_))
            refine SeqN.go ?_
            replace h := Option.some.inj h
            replace h := hr1 _ h.symm
            refine RetE.plain ?_
            refine And.intro ⟨Nat.le_of_ble_eq_true rfl, Nat.le_of_ble_eq_true rfl⟩ (Exists.intro (AV.agg [AV.int .i64 (0 : Int), AV.int .i64 (0 : Int)]) (And.intro rfl ?_))
            exact And.intro rfl (And.intro (congrArg (fun r : (S_Body × Int) => AV.tup [S_Body.av (r.1), AV.int .i64 (r.2)]) h) rfl)
          · replace h := cond_ff h ht
            refine SeqN.go ?_
            refine SeqN.go ?_
            replace h := Option.some.inj h
            refine Exists.intro ⟨(n1, ((18446744073709551615 : Int), (IntKind.i64.wrap (s6 + (1 : Int))))), hl1 _ h.symm⟩ (And.intro (Nat.lt_succ_self _) ?_)
            refine Gho.to [⟨4, AV.ptr 0 0, none⟩, ⟨8, AV.int .u64 (18446744073709551615 : Int), none⟩, ⟨39, AV.list 1 (x2.map AV.str), some 0⟩, ⟨40, AV.int .i64 (x2.length : Int), none⟩, ⟨41, AV.int .i64 (IntKind.i64.wrap (s6 + (1 : Int))), none⟩] [.cells 28 [AV.int .i64 (0 : Int), AV.int .i64 (0 : Int)] []] [1] [0] ?_ ?_ ?_ rfl rfl ?_
            · exact ⟨⟨rfl, rfl, rfl⟩, trivial⟩
            · exact rfl
            · exact rfl
            · exact ⟨rfl, rfl, trivial, rfl, rfl, trivial, rfl, rfl, ⟨rfl, rfl⟩, rfl, rfl, trivial, rfl, rfl, trivial, trivial⟩
        · replace h := cond_ff h ht
          refine SeqN.go ?_
          refine SeqJ.go ?_
          refine SeqJ.go ?_
          refine And.intro (fun hg => hg) ?_
          refine And.intro (fun hg => hg) ?_
          refine And.intro (fun hg => hg) ?_
          refine And.intro (fun hg => hg) ?_
          refine And.intro (fun hg => hg) ?_
          refine And.intro (fun hg => hg) ?_
          refine And.intro (fun hg => (and_r hg)) ?_
          refine SeqN.via (St.of [⟨4, AV.ptr 0 0, none⟩, ⟨11, AV.int .u64 (x8.1), none⟩, ⟨39, AV.list 1 (x2.map AV.str), some 0⟩, ⟨40, AV.int .i64 (x2.length : Int), none⟩, ⟨41, AV.int .i64 s6, none⟩, ⟨63, AV.bool (bif ((x8.2) == (10 : Int)) then true else (bif (decide (s6 > (0 : Int))) then ((x8.1) != s5) else false)), none⟩] [.cells 28 [AV.int .i64 (0 : Int), AV.int .i64 (0 : Int)] []] [1]) ?_ ?_
          · refine Gho.to [⟨4, AV.ptr 0 0, none⟩, ⟨11, AV.int .u64 (x8.1), none⟩, ⟨39, AV.list 1 (x2.map AV.str), some 0⟩, ⟨40, AV.int .i64 (x2.length : Int), none⟩, ⟨41, AV.int .i64 s6, none⟩, ⟨63, AV.bool (bif ((x8.2) == (10 : Int)) then true else (bif (decide (s6 > (0 : Int))) then ((x8.1) != s5) else false)), none⟩] [.cells 28 [AV.int .i64 (0 : Int), AV.int .i64 (0 : Int)] []] [1] [0] ?_ ?_ ?_ rfl rfl ?_
            · exact ⟨⟨rfl, rfl, rfl⟩, trivial⟩
            · exact rfl
            · exact rfl
            · exact ⟨rfl, rfl, trivial, rfl, rfl, trivial, rfl, rfl, ⟨rfl, rfl⟩, rfl, rfl, trivial, rfl, rfl, trivial, rfl, rfl, trivial, trivial⟩
          refine Br.mk (fun ht => ?_) (fun ht => ?_)
          · replace h := cond_tt h ht
            refine SeqJ.go ?_
            refine And.intro ⟨rfl, rfl, rfl, Nat.le_of_ble_eq_true rfl⟩ (Exists.intro [AV.int .i64 (0 : Int), AV.int .i64 (0 : Int)] (And.intro (fun _ => rfl) ?_))
            refine SeqN.go ?_
            replace h := Option.some.inj h
            replace h := hr1 _ h.symm
            refine RetE.plain ?_
            refine And.intro ⟨Nat.le_of_ble_eq_true rfl, Nat.le_of_ble_eq_true rfl⟩ (Exists.intro (AV.agg [AV.int .i64 (0 : Int), AV.int .i64 (0 : Int)]) (And.intro rfl ?_))
            exact And.intro rfl (And.intro (congrArg (fun r : (S_Body × Int) => AV.tup [S_Body.av (r.1), AV.int .i64 (r.2)]) h) rfl)
          · replace h := cond_ff h ht
            refine SeqN.go ?_
            refine SeqN.go ?_
            replace h := Option.some.inj h
            refine Exists.intro ⟨(n1, ((x8.1), (IntKind.i64.wrap (s6 + (1 : Int))))), hl1 _ h.symm⟩ (And.intro (Nat.lt_succ_self _) ?_)
            refine Gho.to [⟨4, AV.ptr 0 0, none⟩, ⟨8, AV.int .u64 (x8.1), none⟩, ⟨39, AV.list 1 (x2.map AV.str), some 0⟩, ⟨40, AV.int .i64 (x2.length : Int), none⟩, ⟨41, AV.int .i64 (IntKind.i64.wrap (s6 + (1 : Int))), none⟩] [.cells 28 [AV.int .i64 (0 : Int), AV.int .i64 (0 : Int)] []] [1] [0] ?_ ?_ ?_ rfl rfl ?_
            · exact ⟨⟨rfl, rfl, rfl⟩, trivial⟩
            · exact rfl
            · exact rfl
            · exact ⟨rfl, rfl, trivial, rfl, rfl, trivial, rfl, rfl, ⟨rfl, rfl⟩, rfl, rfl, trivial, rfl, rfl, trivial, trivial⟩
      · replace h := cond_ff h ht
        refine SeqN.go ?_
        refine SeqJ.go ?_
        refine SeqJ.go ?_
        refine SeqN.go ?_
        refine Br.mk (fun ht => ?_) (fun ht => ?_)
        · replace h := cond_tt h ht
          refine SeqJ.go ?_
          refine And.intro ⟨rfl, rfl, rfl, Nat.le_of_ble_eq_true rfl⟩ (Exists.intro [AV.int .i64 (0 : Int), AV.int .i64 (0 : Int)] (And.intro (fun _ => rfl) ?_))
          refine SeqN.go ?_
          replace h := Option.some.inj h
          replace h := hr1 _ h.symm
          refine RetE.plain ?_
          refine And.intro ⟨Nat.le_of_ble_eq_true rfl, Nat.le_of_ble_eq_true rfl⟩ (Exists.intro (AV.agg [AV.int .i64 (0 : Int), AV.int .i64 (0 : Int)]) (And.intro rfl ?_))
          exact And.intro rfl (And.intro (congrArg (fun r : (S_Body × Int) => AV.tup [S_Body.av (r.1), AV.int .i64 (r.2)]) h) rfl)
        · replace h := cond_ff h ht
          refine SeqN.go ?_
          refine SeqJ.go ?_
          refine And.intro ⟨rfl, rfl, Nat.le_of_ble_eq_true rfl⟩ ?_
          refine And.intro ⟨rfl, rfl, Nat.le_of_ble_eq_true rfl⟩ ?_
          refine And.intro ⟨rfl, rfl, rfl, Nat.le_of_ble_eq_true rfl⟩ (Exists.intro [AV.int .i64 (1 : Int), AV.int .i64 (IntKind.i64.wrap s5)] (And.intro (fun _ => rfl) ?_))
          refine SeqN.go ?_
          replace h := Option.some.inj h
          replace h := hr1 _ h.symm
          refine RetE.plain ?_
          refine And.intro ⟨Nat.le_of_ble_eq_true rfl, Nat.le_of_ble_eq_true rfl⟩ (Exists.intro (AV.agg [AV.int .i64 (1 : Int), AV.int .i64 (IntKind.i64.wrap s5)]) (And.intro rfl ?_))
          exact And.intro rfl (And.intro (congrArg (fun r : (S_Body × Int) => AV.tup [S_Body.av (r.1), AV.int .i64 (r.2)]) h) rfl)

theorem intarsiaref09_Request_ok (E : Pm.Env) [LaidE E] (a0 : S_Start) (a1 : (List S_Field)) (r : (S_Body × Int)) (h : intarsiaref09_Request a0 a1 = some r) : FnR E Tryd.prog 13 [S_Start.av a0, AV.list 2 (a1.map S_Field.av)] (AV.tup [S_Body.av (r.1), AV.int .i64 (r.2)]) false := by
  refine FnR.of_ev (T := T) (rows := []) tOk mixed Tryd.func13 rfl (by kernel_rfl) (by kernel_rfl) rfl fun hwf => ?_
  unfold intarsiaref09_Request at h
  refine SeqJ.go ?_
  refine And.intro rfl ?_
  refine And.intro rfl ?_
  refine SeqN.go ?_
  refine SeqJ.go ?_
  refine SeqJ.go ?_
  refine And.intro ⟨Nat.le_of_ble_eq_true rfl, Nat.le_of_ble_eq_true rfl⟩ ?_
  refine NormE.to (S_Start.av a0) (fun _ => rfl) ?_
  refine bind_elim h fun x1 hx1 h => ?_
  refine CallH.data _ false rfl (intarsiaref06_Right_ok E a0 x1 hx1) ?_
  refine And.intro (fun hg => hg) ?_
  refine And.intro (fun hg => hg) ?_
  refine And.intro (fun hg => (and_r hg)) ?_
  refine bind_elim h fun x2 hx2 h => ?_
  refine And.intro (fun hg => hg) ?_
  refine And.intro rfl ?_
  refine CallF.mk _ false (fun hg => intarsiaref04_Right_ok E a1 x2 (gcall_some hx2 hg)) (And.intro rfl ?_)
  refine And.intro (fun hg => hg) ?_
  refine And.intro (fun hg => (and_r hg)) ?_
  refine SeqN.via (St.of [⟨1, AV.list 2 (a1.map S_Field.av), none⟩, ⟨2, AV.ptr 0 0, none⟩, ⟨4, AV.ptr 1 0, none⟩, ⟨20, AV.bool (bif (bif (!x1) then true else ((a0.Code) != (0 : Int))) then true else (!x2)), none⟩] [.cells 23 (S_Start.cells a0) [], .cells 28 [AV.int .i64 (0 : Int), AV.int .i64 (0 : Int)] []] []) ?_ ?_
  · refine Gho.to [⟨1, AV.list 2 (a1.map S_Field.av), none⟩, ⟨2, AV.ptr 0 0, none⟩, ⟨4, AV.ptr 1 0, none⟩, ⟨20, AV.bool (bif (bif (!x1) then true else ((a0.Code) != (0 : Int))) then true else (!x2)), none⟩] [.cells 23 (S_Start.cells a0) [], .cells 28 [AV.int .i64 (0 : Int), AV.int .i64 (0 : Int)] []] [] [] ?_ ?_ ?_ rfl rfl ?_
    · exact ⟨⟨rfl, rfl, rfl⟩, ⟨⟨rfl, rfl, rfl⟩, trivial⟩⟩
    · exact rfl
    · exact rfl
    · exact ⟨rfl, rfl, trivial, rfl, rfl, trivial, rfl, rfl, trivial, rfl, rfl, trivial, trivial⟩
  refine Br.mk (fun ht => ?_) (fun ht => ?_)
  · replace h := cond_tt h ht
    refine SeqJ.go ?_
    refine And.intro ⟨rfl, rfl, rfl, Nat.le_of_ble_eq_true rfl⟩ (Exists.intro [AV.int .i64 (0 : Int), AV.int .i64 (0 : Int)] (And.intro (fun _ => rfl) ?_))
    refine SeqN.go ?_
    replace h := Option.some.inj h
    refine RetE.plain ?_
    refine And.intro ⟨Nat.le_of_ble_eq_true rfl, Nat.le_of_ble_eq_true rfl⟩ (Exists.intro (AV.agg [AV.int .i64 (0 : Int), AV.int .i64 (0 : Int)]) (And.intro rfl ?_))
    exact And.intro rfl (And.intro (congrArg (fun r : (S_Body × Int) => AV.tup [S_Body.av (r.1), AV.int .i64 (r.2)]) h) rfl)
  · replace h := cond_ff h ht
    refine SeqN.go ?_
    refine SeqJ.go ?_
    refine bind_elim h fun x3 hx3 h => ?_
    refine CallH.data _ false rfl (intarsiaref09_Say_ok E (a0.Minor) a1 x3 hx3) ?_
    refine And.intro rfl ?_
    refine And.intro ⟨rfl, rfl, rfl, Nat.le_of_ble_eq_true rfl⟩ (Exists.intro (S_Body.cells (x3.1)) (And.intro (fun _ => rfl) ?_))
    refine SeqN.go ?_
    refine SeqJ.go ?_
    refine SeqJ.go ?_
    refine SeqN.go ?_
    refine Br.mk (fun ht => ?_) (fun ht => ?_)
    · replace h := cond_tt h ht
      refine And.intro ⟨rfl, rfl, rfl, Nat.le_of_ble_eq_true rfl⟩ (Exists.intro [AV.int .i64 (0 : Int), AV.int .i64 (0 : Int)] (And.intro (fun _ => rfl) ?_))
      refine SeqN.go ?_
      refine SeqJ.go ?_
      refine And.intro ⟨Nat.le_of_ble_eq_true rfl, Nat.le_of_ble_eq_true rfl⟩ ?_
      refine NormE.to (AV.agg [AV.int .i64 (0 : Int), AV.int .i64 (0 : Int)]) (fun _ => rfl) ?_
      refine And.intro ⟨rfl, rfl, rfl, Nat.le_of_ble_eq_true rfl⟩ (Exists.intro [AV.int .i64 (0 : Int), AV.int .i64 (0 : Int)] (And.intro (fun _ => rfl) ?_))
      refine SeqN.via (St.of [⟨4, AV.ptr 1 0, none⟩, ⟨5, AV.int .i64 (x3.2), none⟩] [.dead, .cells 28 [AV.int .i64 (0 : Int), AV.int .i64 (0 : Int)] []] []) ?_ ?_
      · refine Gho.to [⟨4, AV.ptr 1 0, none⟩, ⟨5, AV.int .i64 (x3.2), none⟩] [.dead, .cells 28 [AV.int .i64 (0 : Int), AV.int .i64 (0 : Int)] []] [] [] ?_ ?_ ?_ rfl rfl ?_
        · exact ⟨trivial, ⟨⟨rfl, rfl, rfl⟩, trivial⟩⟩
        · exact rfl
        · exact rfl
        · exact ⟨rfl, rfl, trivial, rfl, rfl, trivial, trivial⟩
      replace h := Option.some.inj h
      refine RetE.plain ?_
      refine And.intro ⟨Nat.le_of_ble_eq_true rfl, Nat.le_of_ble_eq_true rfl⟩ (Exists.intro (AV.agg [AV.int .i64 (0 : Int), AV.int .i64 (0 : Int)]) (And.intro rfl ?_))
      exact And.intro rfl (And.intro (congrArg (fun r : (S_Body × Int) => AV.tup [S_Body.av (r.1), AV.int .i64 (r.2)]) h) rfl)
    · replace h := cond_ff h ht
      refine SeqN.go ?_
      refine SeqJ.go ?_
      refine And.intro ⟨Nat.le_of_ble_eq_true rfl, Nat.le_of_ble_eq_true rfl⟩ ?_
      refine NormE.to (S_Body.av (x3.1)) (fun _ => rfl) ?_
      refine And.intro ⟨rfl, rfl, rfl, Nat.le_of_ble_eq_true rfl⟩ (Exists.intro (S_Body.cells (x3.1)) (And.intro (fun _ => rfl) ?_))
      refine SeqN.via (St.of [⟨4, AV.ptr 1 0, none⟩, ⟨5, AV.int .i64 (x3.2), none⟩] [.dead, .cells 28 (S_Body.cells (x3.1)) []] []) ?_ ?_
      · refine Gho.to [⟨4, AV.ptr 1 0, none⟩, ⟨5, AV.int .i64 (x3.2), none⟩] [.dead, .cells 28 (S_Body.cells (x3.1)) []] [] [] ?_ ?_ ?_ rfl rfl ?_
        · exact ⟨trivial, ⟨⟨rfl, rfl, rfl⟩, trivial⟩⟩
        · exact rfl
        · exact rfl
        · exact ⟨rfl, rfl, trivial, rfl, rfl, trivial, trivial⟩
      replace h := Option.some.inj h
      refine RetE.plain ?_
      refine And.intro ⟨Nat.le_of_ble_eq_true rfl, Nat.le_of_ble_eq_true rfl⟩ (Exists.intro (S_Body.av (x3.1)) (And.intro rfl ?_))
      exact And.intro rfl (And.intro (congrArg (fun r : (S_Body × Int) => AV.tup [S_Body.av (r.1), AV.int .i64 (r.2)]) h) rfl)

theorem frame_Answer_ok (E : Pm.Env) [LaidE E] (a0 : S_Start) (a1 : (List S_Field)) (a2 : Bytes) (r : (S_Body × Int)) (h : frame_Answer a0 a1 a2 = some r) : FnR E Tryd.prog 14 [S_Start.av a0, AV.list 2 (a1.map S_Field.av), AV.str a2] (AV.tup [S_Body.av (r.1), AV.int .i64 (r.2)]) false := by
  refine FnR.of_ev (T := T) (rows := []) tOk mixed Tryd.func14 rfl (by kernel_rfl) (by kernel_rfl) rfl fun hwf => ?_
  unfold frame_Answer at h
  refine SeqJ.go ?_
  refine And.intro rfl ?_
  refine And.intro rfl ?_
  refine SeqN.go ?_
  refine SeqJ.go ?_
  refine SeqJ.go ?_
  refine And.intro ⟨Nat.le_of_ble_eq_true rfl, Nat.le_of_ble_eq_true rfl⟩ ?_
  refine NormE.to (S_Start.av a0) (fun _ => rfl) ?_
  refine bind_elim h fun x1 hx1 h => ?_
  refine CallH.data _ false rfl (start_Right_ok E a0 x1 hx1) ?_
  refine And.intro (fun hg => hg) ?_
  refine And.intro (fun hg => hg) ?_
  refine And.intro (fun hg => (and_r hg)) ?_
  refine bind_elim h fun x2 hx2 h => ?_
  refine And.intro (fun hg => hg) ?_
  refine And.intro rfl ?_
  refine CallF.mk _ false (fun hg => table_Right_ok E a1 x2 (gcall_some hx2 hg)) (And.intro rfl ?_)
  refine And.intro (fun hg => hg) ?_
  refine And.intro (fun hg => (and_r hg)) ?_
  refine SeqN.via (St.of [⟨1, AV.list 2 (a1.map S_Field.av), none⟩, ⟨2, AV.str a2, none⟩, ⟨3, AV.ptr 0 0, none⟩, ⟨6, AV.ptr 1 0, none⟩, ⟨8, AV.bool (bif (bif (!x1) then true else ((a0.Code) == (0 : Int))) then true else (!x2)), none⟩] [.cells 23 (S_Start.cells a0) [], .cells 28 [AV.int .i64 (0 : Int), AV.int .i64 (0 : Int)] []] []) ?_ ?_
  · refine Gho.to [⟨1, AV.list 2 (a1.map S_Field.av), none⟩, ⟨2, AV.str a2, none⟩, ⟨3, AV.ptr 0 0, none⟩, ⟨6, AV.ptr 1 0, none⟩, ⟨8, AV.bool (bif (bif (!x1) then true else ((a0.Code) == (0 : Int))) then true else (!x2)), none⟩] [.cells 23 (S_Start.cells a0) [], .cells 28 [AV.int .i64 (0 : Int), AV.int .i64 (0 : Int)] []] [] [] ?_ ?_ ?_ rfl rfl ?_
    · exact ⟨⟨rfl, rfl, rfl⟩, ⟨⟨rfl, rfl, rfl⟩, trivial⟩⟩
    · exact rfl
    · exact rfl
    · exact ⟨rfl, rfl, trivial, rfl, rfl, trivial, rfl, rfl, trivial, rfl, rfl, trivial, rfl, rfl, trivial, trivial⟩
  refine Br.mk (fun ht => ?_) (fun ht => ?_)
  · replace h := cond_tt h ht
    refine SeqJ.go ?_
    refine And.intro ⟨rfl, rfl, rfl, Nat.le_of_ble_eq_true rfl⟩ (Exists.intro [AV.int .i64 (0 : Int), AV.int .i64 (0 : Int)] (And.intro (fun _ => rfl) ?_))
    refine SeqN.go ?_
    replace h := Option.some.inj h
    refine RetE.plain ?_
    refine And.intro ⟨Nat.le_of_ble_eq_true rfl, Nat.le_of_ble_eq_true rfl⟩ (Exists.intro (AV.agg [AV.int .i64 (0 : Int), AV.int .i64 (0 : Int)]) (And.intro rfl ?_))
    exact And.intro rfl (And.intro (congrArg (fun r : (S_Body × Int) => AV.tup [S_Body.av (r.1), AV.int .i64 (r.2)]) h) rfl)
  · replace h := cond_ff h ht
    refine SeqJ.go ?_
    refine And.intro (fun hg => hg) ?_
    refine And.intro (fun hg => hg) ?_
    refine And.intro (fun hg => (and_r hg)) ?_
    refine And.intro (fun hg => hg) ?_
    refine And.intro (fun hg => hg) ?_
    refine And.intro (fun hg => (and_r hg)) ?_
    refine And.intro (fun hg => hg) ?_
    refine And.intro (fun hg => (and_r hg)) ?_
    refine SeqN.via (St.of [⟨1, AV.list 2 (a1.map S_Field.av), none⟩, ⟨3, AV.ptr 0 0, none⟩, ⟨6, AV.ptr 1 0, none⟩, ⟨23, AV.bool (bif (bif (bif (decide ((a0.Code) < (200 : Int))) then true else ((a0.Code) == (204 : Int))) then true else ((a0.Code) == (304 : Int))) then true else (a2 == ([72, 69, 65, 68] : Bytes))), none⟩] [.cells 23 (S_Start.cells a0) [], .cells 28 [AV.int .i64 (0 : Int), AV.int .i64 (0 : Int)] []] []) ?_ ?_
    · refine Gho.to [⟨1, AV.list 2 (a1.map S_Field.av), none⟩, ⟨3, AV.ptr 0 0, none⟩, ⟨6, AV.ptr 1 0, none⟩, ⟨23, AV.bool (bif (bif (bif (decide ((a0.Code) < (200 : Int))) then true else ((a0.Code) == (204 : Int))) then true else ((a0.Code) == (304 : Int))) then true else (a2 == ([72, 69, 65, 68] : Bytes))), none⟩] [.cells 23 (S_Start.cells a0) [], .cells 28 [AV.int .i64 (0 : Int), AV.int .i64 (0 : Int)] []] [] [] ?_ ?_ ?_ rfl rfl ?_
      · exact ⟨⟨rfl, rfl, rfl⟩, ⟨⟨rfl, rfl, rfl⟩, trivial⟩⟩
      · exact rfl
      · exact rfl
      · exact ⟨rfl, rfl, trivial, rfl, rfl, trivial, rfl, rfl, trivial, rfl, rfl, trivial, trivial⟩
    refine Br.mk (fun ht => ?_) (fun ht => ?_)
    · replace h := cond_tt h ht
      refine SeqJ.go ?_
      refine And.intro ⟨rfl, rfl, rfl, Nat.le_of_ble_eq_true rfl⟩ (Exists.intro [AV.int .i64 (0 : Int), AV.int .i64 (0 : Int)] (And.intro (fun _ => rfl) ?_))
      refine SeqN.go ?_
      replace h := Option.some.inj h
      refine RetE.plain ?_
      refine And.intro ⟨Nat.le_of_ble_eq_true rfl, Nat.le_of_ble_eq_true rfl⟩ (Exists.intro (AV.agg [AV.int .i64 (0 : Int), AV.int .i64 (0 : Int)]) (And.intro rfl ?_))
      exact And.intro rfl (And.intro (congrArg (fun r : (S_Body × Int) => AV.tup [S_Body.av (r.1), AV.int .i64 (r.2)]) h) rfl)
    · replace h := cond_ff h ht
      refine SeqN.go ?_
      refine SeqJ.go ?_
      refine And.intro ⟨rfl, rfl, Nat.le_of_ble_eq_true rfl⟩ ?_
      refine bind_elim h fun x3 hx3 h => ?_
      refine CallH.data _ false rfl (frame_say_ok E (a0.Minor) a1 (S_Body.mk (3 : Int) (0 : Int)) x3 hx3) ?_
      refine And.intro ⟨rfl, rfl, rfl, Nat.le_of_ble_eq_true rfl⟩ (Exists.intro (S_Body.cells (x3.1)) (And.intro (fun _ => rfl) ?_))
      refine SeqN.go ?_
      replace h := Option.some.inj h
      refine RetE.plain ?_
      refine And.intro ⟨Nat.le_of_ble_eq_true rfl, Nat.le_of_ble_eq_true rfl⟩ (Exists.intro (S_Body.av (x3.1)) (And.intro rfl ?_))
      exact And.intro rfl (And.intro (congrArg (fun r : (S_Body × Int) => AV.tup [S_Body.av (r.1), AV.int .i64 (r.2)]) h) rfl)

end Go.Proofs.YtbgldnleackgeaaDoor
